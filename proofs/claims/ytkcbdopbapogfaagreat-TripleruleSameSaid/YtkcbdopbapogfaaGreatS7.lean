/-
  What functions of the given program answer, as values, shown by that evaluator: each theorem bears its own conditions.
  By an AI agent. No person has read it.
-/
import Derived.Test.YtkcbdopbapogfaaGreatS6
set_option linter.all false
set_option maxRecDepth 100000
noncomputable section
namespace Am
open Go Go.Proofs

theorem upto_succ (n : Nat) : upto (n + 1) = upto n ++ [Int.ofNat n] := by simp [upto, List.range_succ]
theorem upto_len (n : Nat) : (upto n).length = n := by simp [upto]
theorem rI_app (l l' : List Int) : rI (l ++ l') = rI l ++ rI l' := by simp [rI]
theorem rE_app (l l' : List (Int × Int × Int)) : rE (l ++ l') = rE l ++ rE l' := by simp [rE]

/-- the numbers below n that a list lacks -/
def lack (l : List Int) (n : Nat) : List Int := (upto n).filter (fun i => !l.any (fun y => i == y))
theorem lack_succ (l : List Int) (n : Nat) : lack l (n + 1) = lack l n ++ (if l.any (fun y => Int.ofNat n == y) then [] else [Int.ofNat n]) := by
  unfold lack
  rw [upto_succ, List.filter_append]
  congr 1
  by_cases h : l.any (fun y => Int.ofNat n == y) = true
  · rw [if_pos h]; simp only [List.filter_cons, h]; rfl
  · rw [if_neg h]; simp only [List.filter_cons, Bool.not_eq_true _ |>.mp h]; rfl
theorem lack_len (l : List Int) (n : Nat) : (lack l n).length ≤ n := by
  have := List.length_filter_le (fun i => !l.any (fun y => i == y)) (upto n)
  rw [upto_len] at this
  exact this

theorem s160 (l : List Int) (m : Nat) (hl : l.length < 1000000) (hm : m < 1000000) : O Ez NR 160 [.one (.sl false 1 (rI l)), .one (vi (Int.ofNat m))] = some (.one (own1 (lack l m)), []) := by
  refine spec_of (m + 1) F160 ?_
  intro rat rlen hat hln rcat hcat rcut hcut lp hlp o wrap lt le eq eqs nle tdiv tmod add sub mul room ho hw hlt hle heq heqs hnle hdiv hmod hadd hsub hmul hroom
  have e0 := fun i => ho _ _ _ (s114 l (Int.ofNat i) hl)
  have hR0 : rI (lack l 0) = [] := rfl
  have hR1 := fun i (h : l.any (fun y => Int.ofNat i == y) = true) => (by rw [lack_succ, if_pos h, List.append_nil] : rI (lack l (i + 1)) = rI (lack l i))
  have hR2 := fun i (h : l.any (fun y => Int.ofNat i == y) = false) => (by rw [lack_succ, if_neg (by rw [h]; decide), rI_app]; rfl : rI (lack l (i + 1)) = rI (lack l i) ++ [[vi (Int.ofNat i)]])
  have hRl := fun i => (by rw [rI_len]; exact lack_len l i : (rI (lack l i)).length ≤ i)
  dsimp only [own1]
  generalize hR : (fun i => rI (lack l i)) = R
  have hRR : ∀ i, rI (lack l i) = R i := fun i => by rw [← hR]
  simp only [hRR] at hR0 hR1 hR2 hRl ⊢
  generalize rI l = ρ at e0 ⊢
  generalize hn : m + 1 = n
  cbv
  refine loopU (hlp _ _ _ _ _) (fun s i => (s.setI 8 i).setS 5 (R i)) (fun i => True) m (by omega) trivial (by cbv) (by show St.setS (St.setI _ 8 0) 5 (R 0) = _; rw [hR0]; cbv) ?_
  intro i hi hp C' hret hex hnorm
  rcases Nat.lt_or_ge i m with h | h
  · have e1 : lt (Int.ofNat i) (Int.ofNat m) = true := by rw [hlt, lt_true h]
    have e2 := e0 i
    have r1 : room (rlen (rcat (R i) [[vi (Int.ofNat i)]])) 8 = true := hroom _ _ (by rw [hln, hcat, List.length_append]; have := hRl i; simp; omega)
    have g1 := hR1 i
    have g2 := hR2 i
    generalize (l.any fun y => Int.ofNat i == y) = b at e2 g1 g2
    cbv
    rw [e1]
    cbv
    rw [e2]
    cbv
    cases b with
    | true =>
      cbv
      refine hnorm _ h trivial ?_
      rw [g1 rfl]
      cbv
      rw [hadd, wrap_succ (by omega)]
    | false =>
      cbv
      rw [r1]
      cbv
      refine hnorm _ h trivial ?_
      rw [g2 rfl, ← hcat]
      cbv
      rw [hadd, wrap_succ (by omega)]
  · have e1 : lt (Int.ofNat i) (Int.ofNat m) = false := by rw [hlt, lt_false h]
    have : i = m := by omega
    subst this
    cbv
    rw [e1]
    cbv
    rw [hex]
    cbv
end Am

