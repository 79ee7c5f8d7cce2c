/-
  What functions of the given program answer, as values, shown by that evaluator: each theorem bears its own conditions.
  By an AI agent. No person has read it.
-/
import Derived.Test.YtkcbdopbapogfaaGreatS32
set_option linter.all false
set_option maxRecDepth 100000
noncomputable section
namespace Am
open Go Go.Proofs

theorem s8_big (ρ2 ρ3 x1 x3 : List (List C)) (hb : smallB ρ2.length ρ3.length x1.length x3.length = false) : O Ez NR 8 [.agg [.sl false 2 ρ2, .sl false 3 ρ3, .sl false 1 x1, .sl false 3 x3]] = some (rb true, []) := by
  refine spec_of 1 F8 ?_
  intro rat rlen hat hln rcat hcat rcut hcut lp hlp o wrap lt le eq eqs nle tdiv tmod add sub mul room ho hw hlt hle heq heqs hnle hdiv hmod hadd hsub hmul hroom
  have e9 := ho _ _ _ k9
  have e25 := ho _ _ _ (s25 ρ2 ρ3 x1 x3)
  rw [hb] at e25
  clear hb
  cbv
  rw [e9]
  cbv
  rw [e25]
  cbv
  rw [e9]
  cbv

set_option maxHeartbeats 4000000 in
theorem s8_ok {dn : List (Nat × Nat)} {de : List (Nat × Nat × Nat)} {xn : List Nat} {xe : List (Nat × Nat × Nat)} (h : DOk dn de xn xe) : O Ez NR 8 [dA dn de xn xe] = some (rb true, []) := by
  have hr := made_ok h
  have b30 := mRn_len30 h
  have hsm : smallB (rB2 dn).length (rB3 de).length (rB1 xn).length (rB3 xe).length = true := by
    rw [rB2_len, rB3_len, rB1_len, rB3_len]
    have h1 := h.h1
    have h2 := h.h2
    have h3 := h.h3
    have h4 := h.h4
    simp [smallB, h1, h2, h3, h4]
  obtain ⟨n, hn0⟩ : ∃ n : Nat, 200 < n := ⟨201, by omega⟩
  refine spec_of n F8 ?_
  intro rat rlen hat hln rcat hcat rcut hcut lp hlp o wrap lt le eq eqs nle tdiv tmod add sub mul room ho hw hlt hle heq heqs hnle hdiv hmod hadd hsub hmul hroom
  have e9 := ho _ _ _ k9
  have e25 := ho _ _ _ (s25 (rB2 dn) (rB3 de) (rB1 xn) (rB3 xe))
  rw [hsm] at e25
  have e26 := ho _ _ _ k26
  have e27 := ho _ _ _ (s27 h)
  clear hsm h
  generalize mLn dn = ln at *
  generalize mLe dn de = le' at *
  generalize mRn dn xn = rn at *
  generalize mRe dn de xn xe = re at *
  have e18 := ho _ _ _ (s18 (sn := sN) (se := sE) rfl rfl k51 hr)
  have e20 := ho _ _ _ (s20 (sn := sN) (se := sE) rfl rfl k51 hr)
  have e23 := ho _ _ _ (s23 (sn := sN) (se := sE) rfl rfl k51 hr)
  have m1 := hr.hl.1
  have m2 := hr.hle.1
  have m3 := hr.hr.1
  have m4 := hr.hre.1
  have e41 := ho _ _ _ (s41 rn re (by omega) (by omega))
  have e42a := ho _ _ _ (s42 (tr_ok so1 hr b30.1 b30.2))
  have e42b := ho _ _ _ (s42 (tr_ok so3 hr b30.1 b30.2))
  have e42c := ho _ _ _ (s42 (tr_ok so13 hr b30.1 b30.2))
  have e43 := ho _ _ _ (s43 ln (by omega))
  have e44 := ho _ _ _ (s44 le' (by omega))
  have ta := @trN_take [1] sN ln rn
  have tb := @trN_take [3] sN ln rn
  have tc := @trN_take [1, 3] sN ln rn
  have ua := @trE_take [1] sE (trN [1] sN ln rn).2.1 le' re
  have ub := @trE_take [3] sE (trN [3] sN ln rn).2.1 le' re
  have uc := @trE_take [1, 3] sE (trN [1, 3] sN ln rn).2.1 le' re
  have va := @trN_mono [1] [1, 3] sN ln rn (by simp)
  have vb' := @trN_mono [3] [1, 3] sN ln rn (by simp)
  generalize trN [1] sN ln rn = NA at *
  generalize trE [1] sE NA.2.1 le' re = EA at *
  generalize trN [3] sN ln rn = NB at *
  generalize trE [3] sE NB.2.1 le' re = EB at *
  generalize trN [1, 3] sN ln rn = NC at *
  generalize trE [1, 3] sE NC.2.1 le' re = EC at *
  have q0 : eq 0 0 = true := by rw [heq]; rfl
  -- what the loop asks of each of the rules
  have cutN : ∀ l : List Int, l.take ln.length = ln → rcut (rI l) 0 (rlen (rI ln)) = rI ln := fun l hl => by
    rw [hcut, hln, rI_len]; unfold cutR; rw [List.drop_zero]; unfold rI; rw [← List.map_take, hl]
  have cutE : ∀ l : List (Int × Int × Int), l.take le'.length = le' → rcut (rE l) 0 (rlen (rE le')) = rE le' := fun l hl => by
    rw [hcut, hln, rE_len]; unfold cutR; rw [List.drop_zero]; unfold rE; rw [← List.map_take, hl]
  have notN : ∀ l : List Int, ln.length ≤ l.length → lt (Int.ofNat (rlen (rI l))) (Int.ofNat (rlen (rI ln))) = false := fun l hl => by
    rw [hlt, hln, hln, rI_len, rI_len, lt_false hl]
  have notE : ∀ l : List (Int × Int × Int), le'.length ≤ l.length → lt (Int.ofNat (rlen (rE l))) (Int.ofNat (rlen (rE le'))) = false := fun l hl => by
    rw [hlt, hln, hln, rE_len, rE_len, lt_false hl]
  have nleN : ∀ l : List Int, ln.length ≤ l.length → nle (rlen (rI ln)) (rlen (rI l)) = true := fun l hl => by
    rw [hnle, hln, hln, rI_len, rI_len]; exact Nat.ble_eq_true_of_le hl
  have nleE : ∀ l : List (Int × Int × Int), le'.length ≤ l.length → nle (rlen (rE le')) (rlen (rE l)) = true := fun l hl => by
    rw [hnle, hln, hln, rE_len, rE_len]; exact Nat.ble_eq_true_of_le hl
  have nl0 : ∀ k, nle 0 k = true := fun k => by rw [hnle]; exact Nat.ble_eq_true_of_le (by omega)
  have ltC : ∀ l : List Int, l.length ≤ NC.1.length → lt (Int.ofNat (rlen (rI NC.1))) (Int.ofNat (rlen (rI l))) = false := fun l hl => by
    rw [hlt, hln, hln, rI_len, rI_len, lt_false hl]
  have a1 := cutN _ ta.1
  have a2 := cutE _ ua.1
  have a3 := notN _ ta.2
  have a4 := notE _ ua.2
  have a5 := nleN _ ta.2
  have a6 := nleE _ ua.2
  have a7 := ltC _ va
  have b1 := cutN _ tb.1
  have b2 := cutE _ ub.1
  have b3 := notN _ tb.2
  have b4 := notE _ ub.2
  have b5 := nleN _ tb.2
  have b6 := nleE _ ub.2
  have b7 := ltC _ vb'
  have c1 := cutN _ tc.1
  have c2 := cutE _ uc.1
  have c3 := notN _ tc.2
  have c4 := notE _ uc.2
  have c5 := nleN _ tc.2
  have c6 := nleE _ uc.2
  have c7 := ltC _ (Nat.le_refl _)
  clear cutN cutE notN notE nleN nleE ltC ta tb tc ua ub uc va vb' m1 m2 m3 m4 hr b30
  have L3 : ∀ a b c : List C, rlen [a, b, c] = 3 := fun a b c => by rw [hln]; rfl
  have R0 : ∀ a b c : List C, rat [a, b, c] 0 = some a := fun a b c => by rw [hat]; rfl
  have R1' : ∀ a b c : List C, rat [a, b, c] 1 = some b := fun a b c => by rw [hat]; rfl
  have R2 : ∀ a b c : List C, rat [a, b, c] 2 = some c := fun a b c => by rw [hat]; rfl
  dsimp only [dA, tA, sA, gA, rD, rC, own1, own3, rR, dI, dE, mA] at *
  generalize rI (upto NA.1.length) = wa1 at *
  generalize rI (upto EA.1.length) = wa2 at *
  generalize rI (upto NB.1.length) = wb1 at *
  generalize rI (upto EB.1.length) = wb2 at *
  generalize rI (upto NC.1.length) = wc1 at *
  generalize rI (upto EC.1.length) = wc2 at *
  generalize rI NA.1 = na1 at *
  generalize rI NA.2.1 = na2 at *
  generalize rI NA.2.2 = na3 at *
  generalize rE EA.1 = ea1 at *
  generalize rI EA.2.1 = ea2 at *
  generalize rI EA.2.2 = ea3 at *
  generalize rI NB.1 = nb1 at *
  generalize rI NB.2.1 = nb2 at *
  generalize rI NB.2.2 = nb3 at *
  generalize rE EB.1 = eb1 at *
  generalize rI EB.2.1 = eb2 at *
  generalize rI EB.2.2 = eb3 at *
  generalize rI NC.1 = nc1 at *
  generalize rI NC.2.1 = nc2 at *
  generalize rI NC.2.2 = nc3 at *
  generalize rE EC.1 = ec1 at *
  generalize rI EC.2.1 = ec2 at *
  generalize rI EC.2.2 = ec3 at *
  generalize rI (upto ln.length) = α at *
  generalize rI (upto le'.length) = β at *
  generalize rI ln = ρ at *
  generalize rE le' = σ at *
  generalize rI rn = ρ' at *
  generalize rE re = σ' at *
  generalize rI sN = μ at *
  generalize rI sE = ν at *
  generalize tN = τ at *
  generalize tE = υ at *
  generalize rB2 dn = d2 at *
  generalize rB3 de = d3 at *
  generalize rB1 xn = d1 at *
  generalize rB3 xe = d4 at *
  cbv
  rw [e9]
  cbv
  rw [e25]
  cbv
  rw [e26]
  cbv
  rw [e27]
  cbv
  rw [e18]
  cbv
  rw [e20]
  cbv
  rw [e23]
  cbv
  rw [q0]
  cbv
  rw [q0]
  cbv
  rw [q0]
  cbv
  refine loopU (hlp _ _ _ _ _) (fun s i => s.setI 72 i) (fun _ => True) 3 (by omega) trivial (by cbv) (by cbv) ?_
  intro i hi hp C' hret hex hnorm
  obtain rfl | rfl | rfl | rfl : i = 0 ∨ i = 1 ∨ i = 2 ∨ i = 3 := by omega
  · have f1 : lt (Int.ofNat 0) (Int.ofNat 3) = true := by rw [hlt]; rfl
    cbv
    rw [L3]
    cbv
    rw [f1]
    cbv
    rw [R0]
    cbv
    rw [R0]
    cbv
    rw [e41]
    cbv
    rw [a3]
    cbv
    rw [a4]
    cbv
    rw [e42a]
    cbv
    rw [q0]
    cbv
    rw [nl0]
    cbv
    rw [a5]
    cbv
    rw [a1]
    rw [e43]
    cbv
    rw [nl0]
    cbv
    rw [a6]
    cbv
    rw [a2]
    rw [e44]
    cbv
    rw [a7]
    cbv
    refine hnorm _ (by omega) trivial ?_
    cbv
    rw [L3, hadd, wrap_succ (by omega)]
  · have f1 : lt (Int.ofNat 1) (Int.ofNat 3) = true := by rw [hlt]; rfl
    cbv
    rw [L3]
    cbv
    rw [f1]
    cbv
    rw [R1']
    cbv
    rw [R1']
    cbv
    rw [e41]
    cbv
    rw [b3]
    cbv
    rw [b4]
    cbv
    rw [e42b]
    cbv
    rw [q0]
    cbv
    rw [nl0]
    cbv
    rw [b5]
    cbv
    rw [b1]
    rw [e43]
    cbv
    rw [nl0]
    cbv
    rw [b6]
    cbv
    rw [b2]
    rw [e44]
    cbv
    rw [b7]
    cbv
    refine hnorm _ (by omega) trivial ?_
    cbv
    rw [L3, hadd, wrap_succ (by omega)]
  · have f1 : lt (Int.ofNat 2) (Int.ofNat 3) = true := by rw [hlt]; rfl
    cbv
    rw [L3]
    cbv
    rw [f1]
    cbv
    rw [R2]
    cbv
    rw [R2]
    cbv
    rw [e41]
    cbv
    rw [c3]
    cbv
    rw [c4]
    cbv
    rw [e42c]
    cbv
    rw [q0]
    cbv
    rw [nl0]
    cbv
    rw [c5]
    cbv
    rw [c1]
    rw [e43]
    cbv
    rw [nl0]
    cbv
    rw [c6]
    cbv
    rw [c2]
    rw [e44]
    cbv
    rw [c7]
    cbv
    refine hnorm _ (by omega) trivial ?_
    cbv
    rw [L3, hadd, wrap_succ (by omega)]
  · have f1 : lt (Int.ofNat 3) (Int.ofNat 3) = false := by rw [hlt]; rfl
    cbv
    rw [L3]
    cbv
    rw [f1]
    cbv
    rw [hex]
    cbv
end Am

