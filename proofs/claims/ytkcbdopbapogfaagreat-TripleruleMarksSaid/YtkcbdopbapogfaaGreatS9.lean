/-
  What functions of the given program answer, as values, shown by that evaluator: each theorem bears its own conditions.
  By an AI agent. No person has read it.
-/
import Derived.Test.YtkcbdopbapogfaaGreatS8
set_option linter.all false
set_option maxRecDepth 100000
noncomputable section
namespace Am
open Go Go.Proofs

theorem s112 (l : List Int) (h : l.length < 1000000) : O Ez NR 112 [.one (.sl false 1 (rI l))] = some (.one (own1 l), []) := by
  refine O_x rfl ?_
  rw [show Ez.X = Xz from rfl]
  have hb : (eqN 1 1 && Nat.ble ((rI l).length * 8) 140737488355328) = true := by
    rw [Bool.and_eq_true]; exact ⟨rfl, Nat.ble_eq_true_of_le (by rw [rI_len]; omega)⟩
  unfold Xz
  simp only [show eqN 112 112 = true from rfl, cond_true, hb]
theorem s113 (l : List (Int × Int × Int)) (h : l.length < 1000000) : O Ez NR 113 [.one (.sl false 3 (rE l))] = some (.one (.own 3 (rE l)), []) := by
  refine O_x rfl ?_
  rw [show Ez.X = Xz from rfl]
  have hb : (eqN 3 3 && Nat.ble ((rE l).length * 24) 140737488355328) = true := by
    rw [Bool.and_eq_true]; exact ⟨rfl, Nat.ble_eq_true_of_le (by rw [rE_len]; omega)⟩
  unfold Xz
  simp only [show eqN 113 112 = false from rfl, show eqN 113 113 = true from rfl, cond_true, cond_false, hb]

theorem upto_at (n i : Nat) (h : i < n) : (upto n)[i]? = some (Int.ofNat i) := by simp [upto, h]

theorem s252 (m : Nat) (hm : m < 1000000) : O Ez NR 252 [.one (.sl false 1 (rI (upto m))), .one (vi (Int.ofNat m))] = some (ri 0, []) := by
  refine spec_of (m + 1) F252 ?_
  intro rat rlen hat hln rcat hcat rcut hcut lp hlp o wrap lt le eq eqs nle tdiv tmod add sub mul room ho hw hlt hle heq heqs hnle hdiv hmod hadd hsub hmul hroom
  have hlen := rI_len (upto m)
  have hrow := fun i (h : i < m) => (by rw [rI_at, upto_at m i h]; rfl : (rI (upto m))[i]? = some [vi (Int.ofNat i)])
  rw [upto_len] at hlen
  generalize rI (upto m) = ρ at hlen hrow ⊢
  generalize hn : m + 1 = n
  cbv
  refine loopU (hlp _ _ _ _ _) (fun s i => s.setI 9 i) (fun _ => True) m (by omega) trivial (by cbv) (by cbv) ?_
  intro i hi hp C' hret hex hnorm
  rcases Nat.lt_or_ge i m with h | h
  · have e1 : lt (Int.ofNat i) (Int.ofNat (rlen ρ)) = true := by rw [hlt, hln, hlen, lt_true h]
    have e2 : rat ρ i = some [vi (Int.ofNat i)] := by rw [hat, hrow i h]
    have g1 : lt (Int.ofNat i) 0 = false := by rw [hlt, ofn]; simp
    have g2 : le (Int.ofNat m) (Int.ofNat i) = false := by rw [hle, ofn, ofn]; simp; omega
    cbv
    rw [e1]
    cbv
    rw [e2]
    cbv
    rw [g1]
    cbv
    rw [g2]
    cbv
    cases i with
    | zero =>
      have g3 : lt 0 (Int.ofNat 0) = false := by rw [hlt]; rfl
      rw [g3]
      cbv
      refine hnorm _ h trivial ?_
      cbv
      rw [hadd]
      rfl
    | succ j =>
      have g3 : lt 0 (Int.ofNat (j + 1)) = true := by rw [hlt, ofn]; simp
      have g4 : sub .i64 (Int.ofNat (j + 1)) 1 = Int.ofNat j := by rw [hsub]; exact (wrap_of (by have := ofn (j + 1); omega) (by have := ofn (j + 1); omega)).trans (by have := ofn (j + 1); have := ofn j; omega)
      have e5 : rat ρ j = some [vi (Int.ofNat j)] := by rw [hat, hrow j (by omega)]
      have g5 : le (Int.ofNat (j + 1)) (Int.ofNat j) = false := by rw [hle, ofn, ofn]; simp; omega
      rw [g3]
      cbv
      rw [g4]
      cbv
      rw [e5]
      cbv
      rw [g5]
      cbv
      refine hnorm _ h trivial ?_
      cbv
      rw [hadd, wrap_succ (by omega)]
  · have e1 : lt (Int.ofNat i) (Int.ofNat (rlen ρ)) = false := by rw [hlt, hln, hlen, lt_false h]
    cbv
    rw [e1]
    cbv
    rw [hex]
    cbv

theorem s253 (n x : Nat) (h : n < 4) (hx : x < n) : O Ez NR 253 [.one (.sl false 1 (rI (upto n))), .one (vi (Int.ofNat x))] = some (rb true, []) := by
  refine spec_of 1 F253 ?_
  intro rat rlen hat hln rcat hcat rcut hcut lp hlp o wrap lt le eq eqs nle tdiv tmod add sub mul room ho hw hlt hle heq heqs hnle hdiv hmod hadd hsub hmul hroom
  have e1 := ho _ _ _ (k207 n x h hx)
  generalize rI (upto n) = ρ at e1 ⊢
  cbv
  rw [e1]
  cbv

abbrev mA (a b : List Int) : Arg := .agg [.sl false 1 (rI a), .sl false 1 (rI b)]
theorem s238 {ns : List Int} {es : List (Int × Int × Int)} (hn : ns.length < 4) (he : eOk ns.length es) : O Ez NR 238 [gA ns es, mA (upto ns.length) (upto es.length)] = some (ri 0, []) := by
  have h2 := he.1
  refine spec_of (es.length + 1) F238 ?_
  intro rat rlen hat hln rcat hcat rcut hcut lp hlp o wrap lt le eq eqs nle tdiv tmod add sub mul room ho hw hlt hle heq heqs hnle hdiv hmod hadd hsub hmul hroom
  have l1 : rlen (rI ns) = ns.length := by rw [hln, rI_len]
  have l2 : rlen (rE es) = es.length := by rw [hln, rE_len]
  have e1 := ho _ _ _ (s252 ns.length (by omega))
  have e2 := ho _ _ _ (s252 es.length (by omega))
  have e3 := fun x h => ho _ _ _ (s253 ns.length x hn h)
  have hlen := rI_len (upto es.length)
  have hrow := fun i (h : i < es.length) => (by rw [hat, rI_at, upto_at _ i h]; rfl : rat (rI (upto es.length)) i = some [vi (Int.ofNat i)])
  rw [upto_len] at hlen
  have hrE := fun i => (hat (rE es) i).trans (rE_at es i)
  have q0 : eq 0 0 = true := by rw [heq]; rfl
  dsimp only [gA, mA] at *
  generalize rI (upto ns.length) = α at e1 e3 ⊢
  generalize rI (upto es.length) = β at e2 hlen hrow ⊢
  rw [← l1] at e1
  rw [← l2] at e2
  generalize rI ns = ρ at l1 e1 ⊢
  generalize rE es = σ at l2 e2 hrE ⊢
  generalize hnn : es.length + 1 = n
  cbv
  rw [e1]
  cbv
  rw [q0]
  cbv
  rw [e2]
  cbv
  rw [q0]
  cbv
  refine loopU (hlp _ _ _ _ _) (fun s i => s.setI 30 i) (fun _ => True) es.length (by omega) trivial (by cbv) (by cbv) ?_
  intro i hi hp C' hret hex hnorm
  rcases Nat.lt_or_ge i es.length with h | h
  · obtain ⟨e, hx⟩ : ∃ e, es[i]? = some e := ⟨_, List.getElem?_eq_getElem h⟩
    have hm := he.2 e (List.mem_of_getElem? hx)
    obtain ⟨ty, x, y⟩ := e
    simp only at hm
    obtain ⟨kx, rfl⟩ := toN hm.2.2.1
    obtain ⟨ky, rfl⟩ := toN hm.2.2.2.2.1
    have bx : kx < ns.length := by have := hm.2.2.2.1; rw [ofn] at this; omega
    have by' : ky < ns.length := by have := hm.2.2.2.2.2; rw [ofn] at this; omega
    have f1 := e3 kx bx
    have f2 := e3 ky by'
    have g1 : lt (Int.ofNat i) (Int.ofNat (rlen β)) = true := by rw [hlt, hln, hlen, lt_true h]
    have g2 := hrow i h
    have g3 : rat σ i = some [vi ty, vi (Int.ofNat kx), vi (Int.ofNat ky)] := by rw [hrE, hx]; rfl
    cbv
    rw [g1]
    cbv
    rw [g2]
    cbv
    rw [g3]
    cbv
    rw [f1]
    cbv
    rw [g3]
    cbv
    rw [f2]
    cbv
    refine hnorm _ h trivial ?_
    cbv
    rw [hadd, wrap_succ (by omega)]
  · have g1 : lt (Int.ofNat i) (Int.ofNat (rlen β)) = false := by rw [hlt, hln, hlen, lt_false h]
    cbv
    rw [g1]
    cbv
    rw [hex]
    cbv

theorem s206 {ns : List Int} {es : List (Int × Int × Int)} (h : nOk ns) (hn : ns.length < 4) (he : eOk ns.length es) : O Ez NR 206 [gA ns es, mA (upto ns.length) (upto es.length)] = some (ri 0, []) := by
  refine spec_of 1 F206 ?_
  intro rat rlen hat hln rcat hcat rcut hcut lp hlp o wrap lt le eq eqs nle tdiv tmod add sub mul room ho hw hlt hle heq heqs hnle hdiv hmod hadd hsub hmul hroom
  have e1 := ho _ _ _ (s147 h he)
  have e2 := ho _ _ _ (s238 hn he)
  have q0 : eq 0 0 = true := by rw [heq]; rfl
  dsimp only [gA, mA] at *
  generalize rI (upto ns.length) = α at e2 ⊢
  generalize rI (upto es.length) = β at e2 ⊢
  generalize rI ns = ρ at e1 e2 ⊢
  generalize rE es = σ at e1 e2 ⊢
  cbv
  rw [e1]
  cbv
  rw [q0]
  cbv
  rw [e2]
  cbv
end Am

