/-
  What functions of the given program answer, as values, shown by that evaluator: each theorem bears its own conditions.
  By an AI agent. No person has read it.
-/
import Derived.Test.YtkcbdopbapogfaaGreatS37
set_option linter.all false
set_option maxRecDepth 100000
noncomputable section
namespace Am
open Go Go.Proofs

theorem s6_big (ρ2 ρ3 x1 x3 : List (List C)) (hb : smallB ρ2.length ρ3.length x1.length x3.length = false) : O Ez NR 6 [.agg [.sl false 2 ρ2, .sl false 3 ρ3, .sl false 1 x1, .sl false 3 x3]] = some (rb true, []) := by
  refine spec_of 1 F6 ?_
  intro rat rlen hat hln rcat hcat rcut hcut lp hlp o wrap lt le eq eqs nle tdiv tmod add sub mul room ho hw hlt hle heq heqs hnle hdiv hmod hadd hsub hmul hroom
  have e9 := ho _ _ _ k9
  have e25 := ho _ _ _ (s25 ρ2 ρ3 x1 x3)
  rw [hb] at e25
  clear hb
  cbv
  rw [e9]
  cbv
  rw [e25]
  cbv
  rw [e9]
  cbv

set_option maxHeartbeats 4000000 in
theorem s6_ok {dn : List (Nat × Nat)} {de : List (Nat × Nat × Nat)} {xn : List Nat} {xe : List (Nat × Nat × Nat)} (h : DOk dn de xn xe) : O Ez NR 6 [dA dn de xn xe] = some (rb true, []) := by
  have hr := made_ok h
  have b30 := mRn_len30 h
  have hsm : smallB (rB2 dn).length (rB3 de).length (rB1 xn).length (rB3 xe).length = true := by
    rw [rB2_len, rB3_len, rB1_len, rB3_len]
    have h1 := h.h1
    have h2 := h.h2
    have h3 := h.h3
    have h4 := h.h4
    simp [smallB, h1, h2, h3, h4]
  refine spec_of 1 F6 ?_
  intro rat rlen hat hln rcat hcat rcut hcut lp hlp o wrap lt le eq eqs nle tdiv tmod add sub mul room ho hw hlt hle heq heqs hnle hdiv hmod hadd hsub hmul hroom
  have e9 := ho _ _ _ k9
  have e25 := ho _ _ _ (s25 (rB2 dn) (rB3 de) (rB1 xn) (rB3 xe))
  rw [hsm] at e25
  have e26 := ho _ _ _ k26
  have e27 := ho _ _ _ (s27 h)
  clear hsm h
  generalize mLn dn = ln at *
  generalize mLe dn de = le' at *
  generalize mRn dn xn = rn at *
  generalize mRe dn de xn xe = re at *
  have e11 := ho _ _ _ (s11 (sn := sN) (se := sE) rfl rfl k51 hr)
  have e18 := ho _ _ _ (s18 (sn := sN) (se := sE) rfl rfl k51 hr)
  have e23 := ho _ _ _ (s23 (sn := sN) (se := sE) rfl rfl k51 hr)
  have e28a := ho _ _ _ (s28 (ch_ok so1 hr))
  have e28b := ho _ _ _ (s28 (tr_ok so1 hr b30.1 b30.2))
  have e28c := ho _ _ _ (s28 (tr_ok so13 hr b30.1 b30.2))
  have m_1 := ho _ _ _ (m1 hr (se := sE) (bl := (trE [1] sE (trN [1] sN ln rn).2.1 le' re).1) (br := re) (rn' := rn) (kn := upto (trN [1] sN ln rn).1.length) (ke := upto (trE [1] sE (trN [1] sN ln rn).2.1 le' re).1.length) (im := (trN [1] sN ln rn).2.1) (ie := (trE [1] sE (trN [1] sN ln rn).2.1 le' re).2.1))
  have m_2 := ho _ _ _ (m2 hr (se := sE) (ln' := ln) (bl := le') (br := re) (kn := upto ln.length) (ke := upto le'.length) (im := upto ln.length) (ie := upto le'.length))
  have m_3 := ho _ _ _ (m3 hr (trN [1] sN ln rn).2.1 (sn := sN) (ln' := ln) (rn' := rn) (bl := le') (kn := upto ln.length) (ke := upto le'.length) (im := upto ln.length) (ie := upto le'.length))
  have m_4 := ho _ _ _ (m4 hr (se := sE) (ln' := ln) (bl := le') (br := re) (kn := upto ln.length) (ke := upto le'.length) (im := upto ln.length) (ie := upto le'.length))
  have m_5 := ho _ _ _ (m5 hr (trN [1, 3] sN ln rn).2.1 (sn := sN) (ln' := ln) (rn' := rn) (bl := le') (kn := upto ln.length) (ke := upto le'.length) (im := upto ln.length) (ie := upto le'.length))
  have z1 : eq (Int.ofNat (rlen (rI (trN [1] sN ln rn).2.2))) (Int.ofNat (rlen (rI (lack (ixs (chN sN 1 ln).2.1 (chN sN 1 rn).2.1) (chN sN 1 rn).1.length)))) = true := by
    rw [heq, hln, hln, rI_len, rI_len, marks_n hr]; exact beq_self_eq_true _
  have z2 : eq (Int.ofNat (rlen (rI (trE [1] sE (trN [1] sN ln rn).2.1 le' re).2.2))) (Int.ofNat (rlen (rI (lack (ixs (chE sE 1 (chN sN 1 ln).2.1 le').2.1 (chE sE 1 (chN sN 1 rn).2.1 re).2.1) (chE sE 1 (chN sN 1 rn).2.1 re).1.length)))) = true := by
    rw [heq, hln, hln, rI_len, rI_len, marks_e hr]; exact beq_self_eq_true _
  clear hr b30
  have q0 : eq 0 0 = true := by rw [heq]; rfl
  generalize trN [1] sN ln rn = NA at *
  generalize trE [1] sE NA.2.1 le' re = EA at *
  generalize trN [1, 3] sN ln rn = NC at *
  generalize trE [1, 3] sE NC.2.1 le' re = EC at *
  generalize chN sN 1 ln = LN at *
  generalize chN sN 1 rn = RN at *
  generalize chE sE 1 LN.2.1 le' = LE at *
  generalize chE sE 1 RN.2.1 re = RE at *
  generalize ixs LN.2.1 RN.2.1 = FN at *
  generalize ixs LE.2.1 RE.2.1 = FE at *
  dsimp only [dA, tA, sA, gA, rD, rC, own1, own3, rR, dI, dE, mA, sP] at *
  generalize rI (lack FN RN.1.length) = y1 at *
  generalize rI (lack FE RE.1.length) = y2 at *
  generalize rI (lack NA.2.1 rn.length) = y3 at *
  generalize rI (lack EA.2.1 re.length) = y4 at *
  generalize rI (lack NC.2.1 rn.length) = y5 at *
  generalize rI (lack EC.2.1 re.length) = y6 at *
  generalize rI (upto NA.1.length) = wa1 at *
  generalize rI (upto EA.1.length) = wa2 at *
  generalize rI (upto NC.1.length) = wc1 at *
  generalize rI (upto EC.1.length) = wc2 at *
  generalize rI (upto LN.1.length) = wl1 at *
  generalize rI (upto LE.1.length) = wl2 at *
  generalize rI NA.1 = na1 at *
  generalize rI NA.2.1 = na2 at *
  generalize rI NA.2.2 = na3 at *
  generalize rE EA.1 = ea1 at *
  generalize rI EA.2.1 = ea2 at *
  generalize rI EA.2.2 = ea3 at *
  generalize rI NC.1 = nc1 at *
  generalize rI NC.2.1 = nc2 at *
  generalize rI NC.2.2 = nc3 at *
  generalize rE EC.1 = ec1 at *
  generalize rI EC.2.1 = ec2 at *
  generalize rI EC.2.2 = ec3 at *
  generalize rI LN.1 = ln1 at *
  generalize rE LE.1 = le1 at *
  generalize rI RN.1 = rn1 at *
  generalize rE RE.1 = re1 at *
  generalize rI FN = fn1 at *
  generalize rI FE = fe1 at *
  generalize rI (upto ln.length) = α at *
  generalize rI (upto le'.length) = β at *
  generalize rI ln = ρ at *
  generalize rE le' = σ at *
  generalize rI rn = ρ' at *
  generalize rE re = σ' at *
  generalize rI sN = μ at *
  generalize rI sE = ν at *
  generalize tN = τ at *
  generalize tE = υ at *
  generalize rB2 dn = d2 at *
  generalize rB3 de = d3 at *
  generalize rB1 xn = d1 at *
  generalize rB3 xe = d4 at *
  cbv
  rw [e9]
  cbv
  rw [e25]
  cbv
  rw [e26]
  cbv
  rw [e27]
  cbv
  rw [e11]
  cbv
  rw [e18]
  cbv
  rw [e23]
  cbv
  rw [e28a]
  cbv
  rw [e28b]
  cbv
  rw [e28c]
  cbv
  rw [q0]
  cbv
  rw [q0]
  cbv
  rw [q0]
  cbv
  rw [q0]
  cbv
  rw [q0]
  cbv
  rw [q0]
  cbv
  rw [z1]
  cbv
  rw [z2]
  cbv
  rw [m_1]
  cbv
  rw [m_2]
  cbv
  rw [m_3]
  cbv
  rw [m_4]
  cbv
  rw [m_5]
  cbv
end Am

