/-
  What functions of the given program answer, as values, shown by that evaluator: each theorem bears its own conditions.
  By an AI agent. No person has read it.
-/
import Derived.Test.YtkcbdopbapogfaaGreatS14
set_option linter.all false
set_option maxRecDepth 100000
noncomputable section
namespace Am
open Go Go.Proofs

theorem s141 {ns : List Int} {es : List (Int × Int × Int)} (h1 : ns.length < 1000000) (h2 : es.length < 1000000) : O Ez NR 141 [gA ns es] = some (.agg [own1 (upto ns.length), own1 (upto es.length)], []) := by
  obtain ⟨n, hfn⟩ : ∃ n : Nat, 1000000 < n := ⟨1000001, by omega⟩
  refine spec_of n F141 ?_
  intro rat rlen hat hln rcat hcat rcut hcut lp hlp o wrap lt le eq eqs nle tdiv tmod add sub mul room ho hw hlt hle heq heqs hnle hdiv hmod hadd hsub hmul hroom
  have l1 : rlen (rI ns) = ns.length := by rw [hln, rI_len]
  have l2 : rlen (rE es) = es.length := by rw [hln, rE_len]
  have u0 : rI (upto 0) = [] := rfl
  have u1 := fun i => (by rw [upto_succ, rI_app, hcat]; rfl : rI (upto (i + 1)) = rcat (rI (upto i)) [[vi (Int.ofNat i)]])
  have ul := fun i => (by rw [rI_len, upto_len]; omega : (rI (upto i)).length ≤ i)
  dsimp only [gA, own1] at *
  generalize hU : (fun i => rI (upto i)) = U
  have hUU : ∀ i, rI (upto i) = U i := fun i => by rw [← hU]
  simp only [hUU] at u0 u1 ul ⊢
  clear hUU hU
  generalize rI ns = ρ at l1 ⊢
  generalize rE es = σ at l2 ⊢
  generalize ns.length = N1 at *
  generalize es.length = N2 at *
  cbv
  refine loopU (hlp _ _ _ _ _) (fun s i => (s.setI 9 i).setV 3 0 (U i)) (fun _ => True) N1 (by omega) trivial (by cbv) (by show St.setV (St.setI _ 9 0) 3 0 (U 0) = _; rw [u0]; cbv) ?_
  intro i hi hp C' hret hex hnorm
  rcases Nat.lt_or_ge i N1 with h | h
  · have g1 : lt (Int.ofNat i) (Int.ofNat (rlen ρ)) = true := by rw [hlt, l1, lt_true h]
    have r1 : room (rlen (rcat (U i) [[vi (Int.ofNat i)]])) 8 = true := hroom _ _ (by rw [hln, hcat, List.length_append]; have := ul i; simp; omega)
    cbv
    rw [g1]
    cbv
    rw [r1]
    cbv
    refine hnorm _ h trivial ?_
    rw [u1]
    cbv
    rw [hadd, wrap_succ (by omega)]
  · have g1 : lt (Int.ofNat i) (Int.ofNat (rlen ρ)) = false := by rw [hlt, l1, lt_false h]
    have : i = N1 := by omega
    subst this
    cbv
    rw [g1]
    cbv
    rw [hex]
    cbv
    clear hret hex hnorm g1 hp
    refine loopU (hlp _ _ _ _ _) (fun s j => (s.setI 22 j).setV 3 1 (U j)) (fun _ => True) N2 (by omega) trivial (by cbv) (by show St.setV (St.setI _ 22 0) 3 1 (U 0) = _; rw [u0]; cbv) ?_
    intro j hj hp C' hret hex hnorm
    rcases Nat.lt_or_ge j N2 with h | h
    · have g1 : lt (Int.ofNat j) (Int.ofNat (rlen σ)) = true := by rw [hlt, l2, lt_true h]
      have r1 : room (rlen (rcat (U j) [[vi (Int.ofNat j)]])) 8 = true := hroom _ _ (by rw [hln, hcat, List.length_append]; have := ul j; simp; omega)
      cbv
      rw [g1]
      cbv
      rw [r1]
      cbv
      refine hnorm _ h trivial ?_
      rw [u1]
      cbv
      rw [hadd, wrap_succ (by omega)]
    · have g1 : lt (Int.ofNat j) (Int.ofNat (rlen σ)) = false := by rw [hlt, l2, lt_false h]
      have : j = N2 := by omega
      subst this
      cbv
      rw [g1]
      cbv
      rw [hex]
      cbv

abbrev dI (l : List Int) : R1 := .d (.sl false 1 (rI l))
abbrev dE (l : List (Int × Int × Int)) : R1 := .d (.sl false 3 (rE l))
/-- a rule as 'made' gives it -/
abbrev rR (ln : List Int) (le : List (Int × Int × Int)) (rn : List Int) (re : List (Int × Int × Int)) (im ie : List Int) : List R1 :=
  [.d (.v (.string ⟨#[114]⟩)), dI ln, dE le, .own 4 [], .d (vi 0), .own 5 [], dI rn, dE re, .own 4 [], .d (vi 0), .own 5 [],
    own1 (upto ln.length), own1 (upto le.length), dI im, dI ie, .d (vb true), .d (vi 1), .own 9 [], .own 1 [], .own 1 [], .own 1 [], .own 3 [], .own 4 [], .d (vi 0), .own 5 []]

theorem s91 {ln : List Int} {le' : List (Int × Int × Int)} {rn : List Int} {re : List (Int × Int × Int)} {kn ke ii ij : List Int} {gn : List Int} {ge : List (Int × Int × Int)} {hn : List Int} {he : List (Int × Int × Int)} {im ie : List Int} (h1 : gn.length < 1000000) (h2 : ge.length < 1000000) :
    O Ez NR 91 [.agg (rC ln le' rn re kn ke ii ij), gA gn ge, gA hn he, mA im ie] = some (.agg (rR gn ge hn he im ie), []) := by
  refine spec_of 1 F91 ?_
  intro rat rlen hat hln rcat hcat rcut hcut lp hlp o wrap lt le eq eqs nle tdiv tmod add sub mul room ho hw hlt hle heq heqs hnle hdiv hmod hadd hsub hmul hroom
  have e1 := ho _ _ _ (s141 h1 h2)
  dsimp only [gA, own1, rC, rR, dI, dE, mA] at *
  generalize rI (upto gn.length) = α at e1 ⊢
  generalize rI (upto ge.length) = β at e1 ⊢
  generalize rI gn = γ at e1 ⊢
  generalize rE ge = δ at e1 ⊢
  generalize rI ln = x1
  generalize rE le' = x2
  generalize rI rn = x3
  generalize rE re = x4
  generalize rI kn = x5
  generalize rI ke = x6
  generalize rI ii = x7
  generalize rI ij = x8
  generalize rI hn = x9
  generalize rE he = x10
  generalize rI im = x11
  generalize rI ie = x12
  cbv
  rw [e1]
  cbv
end Am

