/-
  What functions of the given program answer, as values, shown by that evaluator: each theorem bears its own conditions.
  By an AI agent. No person has read it.
-/
import Derived.Test.YtkcbdopbapogfaaGreatS11
set_option linter.all false
set_option maxRecDepth 100000
noncomputable section
namespace Am
open Go Go.Proofs

theorem s55 (s : ByteArray) (k : Int) (h : 0 ≤ k) : O Ez NR 55 [.agg [.v (.string s), vi (-1), vb false, .sl false 4 []], .one (.ptr [vi k])] = some (rb false, []) := by
  refine spec_of 1 F55 ?_
  intro rat rlen hat hln rcat hcat rcut hcut lp hlp o wrap lt le eq eqs nle tdiv tmod add sub mul room ho hw hlt hle heq heqs hnle hdiv hmod hadd hsub hmul hroom
  have g : eq (-1) k = false := by rw [heq]; simp; omega
  cbv
  rw [g]
theorem s105 (k : Int) (h : 0 ≤ k) : O Ez NR 105 [.one (.sl false 4 tN), .one (.clo 55 [.ptr [vi k]])] = some (ri (-1), []) := by
  refine spec_of 6 F105 ?_
  intro rat rlen hat hln rcat hcat rcut hcut lp hlp o wrap lt le eq eqs nle tdiv tmod add sub mul room ho hw hlt hle heq heqs hnle hdiv hmod hadd hsub hmul hroom
  have e0 := fun s => ho _ _ _ (s55 s k h)
  have hrow := fun i h => (let ⟨s, hs⟩ := tN_at i h; ⟨s, (hat tN i).trans hs⟩ : ∃ s, rat tN i = some [.v (.string s), vi (-1), vb false, .sl false 4 []])
  have hl : rlen tN = 5 := by rw [hln]; rfl
  generalize tN = τ at hrow hl ⊢
  generalize hn : 6 = n
  cbv
  refine loopU (hlp _ _ _ _ _) (fun s i => s.setI 8 i) (fun _ => True) 5 (by omega) trivial (by cbv) (by cbv) ?_
  intro i hi hp C' hret hex hnorm
  rcases Nat.lt_or_ge i 5 with h | h
  · obtain ⟨s, e2⟩ := hrow i h
    have e1 : lt (Int.ofNat i) (Int.ofNat (rlen τ)) = true := by rw [hlt, hl, lt_true h]
    have e3 := e0 s
    cbv
    rw [e1]
    cbv
    rw [e2]
    cbv
    rw [e3]
    cbv
    refine hnorm _ h trivial ?_
    cbv
    rw [hadd, wrap_succ (by omega)]
  · have e1 : lt (Int.ofNat i) (Int.ofNat (rlen τ)) = false := by rw [hlt, hl, lt_false h]
    cbv
    rw [e1]
    cbv
    rw [hex]
    cbv
theorem s54 (k : Int) (h : 0 ≤ k) : O Ez NR 54 [.one (.sl false 4 tN), .one (.clo 55 [.ptr [vi k]])] = some (rb false, []) := by
  refine spec_of 1 F54 ?_
  intro rat rlen hat hln rcat hcat rcut hcut lp hlp o wrap lt le eq eqs nle tdiv tmod add sub mul room ho hw hlt hle heq heqs hnle hdiv hmod hadd hsub hmul hroom
  have e0 := ho _ _ _ (s105 k h)
  have g : le 0 (-1) = false := by rw [hle]; rfl
  generalize tN = τ at e0 ⊢
  cbv
  rw [e0]
  cbv
  rw [g]

theorem s104 (m : Nat) (hm : m < 1000000) : O Ez NR 104 [.one (.sl true 1 []), .one (vi (Int.ofNat m))] = some (.one (.own 1 []), []) := by
  refine spec_of 1 F104 ?_
  intro rat rlen hat hln rcat hcat rcut hcut lp hlp o wrap lt le eq eqs nle tdiv tmod add sub mul room ho hw hlt hle heq heqs hnle hdiv hmod hadd hsub hmul hroom
  have h0 : rlen [] = 0 := by rw [hln]; rfl
  have g1 : lt (Int.ofNat m) 0 = false := by rw [hlt, ofn]; simp
  have g2 : sub .i64 0 (Int.ofNat 0) = 0 := by rw [hsub]; rfl
  have g3 : sub .i64 (Int.ofNat m) 0 = Int.ofNat m := by rw [hsub]; exact (wrap_of (by rw [ofn]; omega) (by rw [ofn]; omega)).trans (by omega)
  have g5 : ∀ k, nle 0 k = true := fun k => by rw [hnle]; exact Nat.ble_eq_true_of_le (by omega)
  cbv
  rw [g1]
  cbv
  rw [h0]
  rw [g2]
  cbv
  rw [g3]
  cbv
  cases m with
  | zero =>
    have g4 : lt 0 (Int.ofNat 0) = false := by rw [hlt]; rfl
    rw [g4]
    cbv
  | succ m =>
    have g4 : lt 0 (Int.ofNat (m + 1)) = true := by rw [hlt, ofn]; simp
    have g6 : nle 1 (m + 1) = true := by rw [hnle]; exact Nat.ble_eq_true_of_le (by omega)
    have g7 : room (m + 1) 8 = true := hroom _ _ (by omega)
    rw [g4]
    cbv
    rw [g5]
    cbv
    rw [g6]
    cbv
    rw [g7]
    cbv
    rw [h0]
    cbv
    rw [g5]
    cbv
end Am

