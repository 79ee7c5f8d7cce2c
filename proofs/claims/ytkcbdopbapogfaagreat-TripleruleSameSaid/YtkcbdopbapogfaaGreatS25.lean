/-
  What functions of the given program answer, as values, shown by that evaluator: each theorem bears its own conditions.
  By an AI agent. No person has read it.
-/
import Derived.Test.YtkcbdopbapogfaaGreatS24
set_option linter.all false
set_option maxRecDepth 100000
noncomputable section
namespace Am
open Go Go.Proofs

theorem s7_big (ρ2 ρ3 x1 x3 : List (List C)) (hb : smallB ρ2.length ρ3.length x1.length x3.length = false) : O Ez NR 7 [.agg [.sl false 2 ρ2, .sl false 3 ρ3, .sl false 1 x1, .sl false 3 x3]] = some (rb true, []) := by
  refine spec_of 1 F7 ?_
  intro rat rlen hat hln rcat hcat rcut hcut lp hlp o wrap lt le eq eqs nle tdiv tmod add sub mul room ho hw hlt hle heq heqs hnle hdiv hmod hadd hsub hmul hroom
  have e9 := ho _ _ _ k9
  have e25 := ho _ _ _ (s25 ρ2 ρ3 x1 x3)
  rw [hb] at e25
  clear hb
  cbv
  rw [e9]
  cbv
  rw [e25]
  cbv
  rw [e9]
  cbv

theorem trN_len (so sn ln rn : List Int) : (trN so sn ln rn).1.length ≤ ln.length + rn.length ∧ (trN so sn ln rn).2.1.length ≤ ln.length + rn.length ∧ (trN so sn ln rn).2.2.length ≤ rn.length := by
  unfold trN
  have := tr_len (chosen ln.length so sn (fun i => rn.getD i 0)) (fun i => rn.getD i 0) ln (upto ln.length) rn.length
  rw [upto_len] at this
  exact this
theorem trE_len (so se J : List Int) (le' re : List (Int × Int × Int)) : (trE so se J le' re).1.length ≤ le'.length + re.length ∧ (trE so se J le' re).2.1.length ≤ le'.length + re.length ∧ (trE so se J le' re).2.2.length ≤ re.length := by
  unfold trE
  have := tr_len (chosen le'.length so se (fun i => (re.getD i (0, 0, 0)).1)) (trV J re) le' (upto le'.length) re.length
  rw [upto_len] at this
  exact this
theorem chN_len (sn : List Int) (q : Int) (ns : List Int) : (chN sn q ns).1.length ≤ ns.length ∧ (chN sn q ns).2.1.length ≤ ns.length ∧ (chN sn q ns).2.2.length ≤ ns.length := by
  unfold chN
  have := tr_len (fun i => sn.getD (ns.getD i 0).toNat 0 == q) (fun i => ns.getD i 0) [] [] ns.length
  simp at this
  exact this
theorem chE_len (se : List Int) (q : Int) (J : List Int) (es : List (Int × Int × Int)) : (chE se q J es).1.length ≤ es.length ∧ (chE se q J es).2.1.length ≤ es.length ∧ (chE se q J es).2.2.length ≤ es.length := by
  unfold chE
  have := tr_len (fun i => se.getD (es.getD i (0, 0, 0)).1.toNat 0 == q) (trV J es) [] [] es.length
  simp at this
  exact this

set_option maxHeartbeats 4000000 in
theorem s7_ok {dn : List (Nat × Nat)} {de : List (Nat × Nat × Nat)} {xn : List Nat} {xe : List (Nat × Nat × Nat)} (h : DOk dn de xn xe) : O Ez NR 7 [dA dn de xn xe] = some (rb true, []) := by
  have hr := made_ok h
  have hsm : smallB (rB2 dn).length (rB3 de).length (rB1 xn).length (rB3 xe).length = true := by
    rw [rB2_len, rB3_len, rB1_len, rB3_len]
    have h1 := h.h1
    have h2 := h.h2
    have h3 := h.h3
    have h4 := h.h4
    simp [smallB, h1, h2, h3, h4]
  refine spec_of 1 F7 ?_
  intro rat rlen hat hln rcat hcat rcut hcut lp hlp o wrap lt le eq eqs nle tdiv tmod add sub mul room ho hw hlt hle heq heqs hnle hdiv hmod hadd hsub hmul hroom
  have e9 := ho _ _ _ k9
  have e25 := ho _ _ _ (s25 (rB2 dn) (rB3 de) (rB1 xn) (rB3 xe))
  rw [hsm] at e25
  have e26 := ho _ _ _ k26
  have e27 := ho _ _ _ (s27 h)
  have e40 := ho _ _ _ k40
  clear hsm
  generalize mLn dn = ln at *
  generalize mLe dn de = le' at *
  generalize mRn dn xn = rn at *
  generalize mRe dn de xn xe = re at *
  have e18 := ho _ _ _ (s18 (sn := zN) (se := zE) rfl rfl k51z hr)
  have e20 := ho _ _ _ (s20 (sn := sN) (se := sE) rfl rfl k51 hr)
  have e11 := ho _ _ _ (s11 (sn := zN) (se := zE) rfl rfl k51z hr)
  have e13 := ho _ _ _ (s13 (sn := sN) (se := sE) rfl rfl k51 hr)
  have b1 := hr.hl.2
  have b2 : ∀ e ∈ le', 0 ≤ e.1 ∧ e.1 < 6 := fun e he => ⟨(hr.hle.2 e he).1, (hr.hle.2 e he).2.1⟩
  have b3 := hr.hr.2
  have b4 : ∀ e ∈ re, 0 ≤ e.1 ∧ e.1 < 6 := fun e he => ⟨(hr.hre.2 e he).1, (hr.hre.2 e he).2.1⟩
  have m1 := hr.hl.1
  have m2 := hr.hle.1
  have m3 := hr.hr.1
  have m4 := hr.hre.1
  rw [trN_sw b3, trE_sw b4] at e18
  rw [chN_sw b1, chN_sw b3, chE_sw b2, chE_sw b4] at e11
  have l1 := trN_len [3] sN ln rn
  generalize trN [3] sN ln rn = TN at *
  have l2 := trE_len [3] sE TN.2.1 le' re
  generalize trE [3] sE TN.2.1 le' re = TE at *
  have l3 := chN_len sN 3 ln
  generalize chN sN 3 ln = LN at *
  have l4 := chE_len sE 3 LN.2.1 le'
  generalize chE sE 3 LN.2.1 le' = LE at *
  have l5 := chN_len sN 3 rn
  generalize chN sN 3 rn = RN at *
  have l6 := chE_len sE 3 RN.2.1 re
  generalize chE sE 3 RN.2.1 re = RE at *
  have x1 := ixs_len LN.2.1 RN.2.1
  have x2 := ixs_len LE.2.1 RE.2.1
  generalize ixs LN.2.1 RN.2.1 = FF at *
  generalize ixs LE.2.1 RE.2.1 = FG at *
  have e17a := ho _ _ _ (s17 (ln := TN.1) (le' := TE.1) (rn := rn) (re := re) (kn := upto TN.1.length) (ke := upto TE.1.length) (im := TN.2.1) (ie := TE.2.1) (by omega) (by omega) (by omega) (by omega) (by rw [upto_len]; omega) (by rw [upto_len]; omega) (by omega) (by omega))
  have e17b := ho _ _ _ (s17 (ln := LN.1) (le' := LE.1) (rn := RN.1) (re := RE.1) (kn := upto LN.1.length) (ke := upto LE.1.length) (im := FF) (ie := FG) (by omega) (by omega) (by omega) (by omega) (by rw [upto_len]; omega) (by rw [upto_len]; omega) (by omega) (by omega))
  have e22 := ho _ _ _ (s22 TN.2.2 TE.2.2 (by omega) (by omega))
  have q0 : eq 0 0 = true := by rw [heq]; rfl
  clear l1 l2 l3 l4 l5 l6 x1 x2 b1 b2 b3 b4 m1 m2 m3 m4 hr h
  dsimp only [dA, tA, sA, rD, rC, own1, own3, rR, dI, dE, mA] at *
  generalize rI (upto TN.1.length) = w1 at *
  generalize rI (upto TE.1.length) = w2 at *
  generalize rI (upto LN.1.length) = w3 at *
  generalize rI (upto LE.1.length) = w4 at *
  generalize rI TN.1 = γ1 at *
  generalize rI TN.2.1 = γ2 at *
  generalize rI TN.2.2 = γ3 at *
  generalize rE TE.1 = δ1 at *
  generalize rI TE.2.1 = δ2 at *
  generalize rI TE.2.2 = δ3 at *
  generalize rI FF = ff at *
  generalize rI FG = fg at *
  generalize rI LN.1 = ln1 at *
  generalize rE LE.1 = le1 at *
  generalize rI RN.1 = rn1 at *
  generalize rE RE.1 = re1 at *
  generalize rI (upto ln.length) = α at *
  generalize rI (upto le'.length) = β at *
  generalize rI ln = ρ at *
  generalize rE le' = σ at *
  generalize rI rn = ρ' at *
  generalize rE re = σ' at *
  generalize rI sN = μ at *
  generalize rI sE = ν at *
  generalize rI zN = μz at *
  generalize rI zE = νz at *
  generalize tN = τ at *
  generalize tE = υ at *
  generalize rB2 dn = d2 at *
  generalize rB3 de = d3 at *
  generalize rB1 xn = d1 at *
  generalize rB3 xe = d4 at *
  cbv
  rw [e9]
  cbv
  rw [e25]
  cbv
  rw [e26]
  cbv
  rw [e27]
  cbv
  rw [e40]
  cbv
  rw [e18]
  cbv
  rw [e20]
  cbv
  rw [e11]
  cbv
  rw [e13]
  cbv
  rw [q0]
  cbv
  rw [q0]
  cbv
  rw [q0]
  cbv
  rw [q0]
  cbv
  rw [q0]
  cbv
  rw [e17a]
  cbv
  rw [e22]
  cbv
  rw [e17b]
  cbv
end Am

