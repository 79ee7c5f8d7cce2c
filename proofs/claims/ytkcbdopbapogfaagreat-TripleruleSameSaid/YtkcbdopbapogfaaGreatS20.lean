/-
  What functions of the given program answer, as values, shown by that evaluator: each theorem bears its own conditions.
  By an AI agent. No person has read it.
-/
import Derived.Test.YtkcbdopbapogfaaGreatS19
set_option linter.all false
set_option maxRecDepth 100000
noncomputable section
namespace Am
open Go Go.Proofs


theorem s18 {sn se : List Int} (hsn : sn.length = 5) (hse : se.length = 6) (hs : O Ez NR 51 [tA, sA sn se] = some (ri 0, [])) {ln : List Int} {le' : List (Int × Int × Int)} {rn : List Int} {re : List (Int × Int × Int)} (h : ROk ln le' rn re) :
    O Ez NR 18 [tA, sA sn se, .agg (rD ln le' rn re)] =
      some (.tup [.agg (rR (trN [1] sn ln rn).1 (trE [1] se (trN [1] sn ln rn).2.1 le' re).1 rn re (trN [1] sn ln rn).2.1 (trE [1] se (trN [1] sn ln rn).2.1 le' re).2.1),
        .agg [own1 (trN [1] sn ln rn).2.2, own1 (trE [1] se (trN [1] sn ln rn).2.1 le' re).2.2], ri 0], []) := by
  refine spec_of 1 F18 ?_
  intro rat rlen hat hln rcat hcat rcut hcut lp hlp o wrap lt le eq eqs nle tdiv tmod add sub mul room ho hw hlt hle heq heqs hnle hdiv hmod hadd hsub hmul hroom
  have e1 := ho _ _ _ (s62 (so := [1]) (by decide) hsn hse hs h)
  rw [show rI [1] = [[vi 1]] from rfl] at e1
  generalize trN [1] sn ln rn = TN at *
  generalize trE [1] se TN.2.1 le' re = TE at *
  dsimp only [tA, sA, rD, rC, own1, own3, rR, dI, dE] at *
  generalize rI (upto TN.1.length) = w1 at *
  generalize rI (upto TE.1.length) = w2 at *
  generalize rI TN.1 = γf at *
  generalize rI TN.2.1 = ιf at *
  generalize rI TN.2.2 = μf at *
  generalize rE TE.1 = δf at *
  generalize rI TE.2.1 = κf at *
  generalize rI TE.2.2 = νf at *
  generalize rI (upto ln.length) = α at *
  generalize rI (upto le'.length) = β at *
  generalize rI ln = ρ at *
  generalize rE le' = σ at *
  generalize rI rn = ρ' at *
  generalize rE re = σ' at *
  generalize rI sn = μ at *
  generalize rI se = ν at *
  generalize tN = τ at *
  generalize tE = υ at *
  cbv
  rw [e1]
  cbv

theorem s20 {sn se : List Int} (hsn : sn.length = 5) (hse : se.length = 6) (hs : O Ez NR 51 [tA, sA sn se] = some (ri 0, [])) {ln : List Int} {le' : List (Int × Int × Int)} {rn : List Int} {re : List (Int × Int × Int)} (h : ROk ln le' rn re) :
    O Ez NR 20 [tA, sA sn se, .agg (rD ln le' rn re)] =
      some (.tup [.agg (rR (trN [3] sn ln rn).1 (trE [3] se (trN [3] sn ln rn).2.1 le' re).1 rn re (trN [3] sn ln rn).2.1 (trE [3] se (trN [3] sn ln rn).2.1 le' re).2.1),
        .agg [own1 (trN [3] sn ln rn).2.2, own1 (trE [3] se (trN [3] sn ln rn).2.1 le' re).2.2], ri 0], []) := by
  refine spec_of 1 F20 ?_
  intro rat rlen hat hln rcat hcat rcut hcut lp hlp o wrap lt le eq eqs nle tdiv tmod add sub mul room ho hw hlt hle heq heqs hnle hdiv hmod hadd hsub hmul hroom
  have e1 := ho _ _ _ (s62 (so := [3]) (by decide) hsn hse hs h)
  rw [show rI [3] = [[vi 3]] from rfl] at e1
  generalize trN [3] sn ln rn = TN at *
  generalize trE [3] se TN.2.1 le' re = TE at *
  dsimp only [tA, sA, rD, rC, own1, own3, rR, dI, dE] at *
  generalize rI (upto TN.1.length) = w1 at *
  generalize rI (upto TE.1.length) = w2 at *
  generalize rI TN.1 = γf at *
  generalize rI TN.2.1 = ιf at *
  generalize rI TN.2.2 = μf at *
  generalize rE TE.1 = δf at *
  generalize rI TE.2.1 = κf at *
  generalize rI TE.2.2 = νf at *
  generalize rI (upto ln.length) = α at *
  generalize rI (upto le'.length) = β at *
  generalize rI ln = ρ at *
  generalize rE le' = σ at *
  generalize rI rn = ρ' at *
  generalize rE re = σ' at *
  generalize rI sn = μ at *
  generalize rI se = ν at *
  generalize tN = τ at *
  generalize tE = υ at *
  cbv
  rw [e1]
  cbv

theorem s11 {sn se : List Int} (hsn : sn.length = 5) (hse : se.length = 6) (hs : O Ez NR 51 [tA, sA sn se] = some (ri 0, [])) {ln : List Int} {le' : List (Int × Int × Int)} {rn : List Int} {re : List (Int × Int × Int)} (h : ROk ln le' rn re) :
    O Ez NR 11 [tA, sA sn se, .agg (rD ln le' rn re)] =
      some (.tup [.agg (rR (chN sn 1 ln).1 (chE se 1 (chN sn 1 ln).2.1 le').1 (chN sn 1 rn).1 (chE se 1 (chN sn 1 rn).2.1 re).1
        (ixs (chN sn 1 ln).2.1 (chN sn 1 rn).2.1) (ixs (chE se 1 (chN sn 1 ln).2.1 le').2.1 (chE se 1 (chN sn 1 rn).2.1 re).2.1)), ri 0], []) := by
  refine spec_of 1 F11 ?_
  intro rat rlen hat hln rcat hcat rcut hcut lp hlp o wrap lt le eq eqs nle tdiv tmod add sub mul room ho hw hlt hle heq heqs hnle hdiv hmod hadd hsub hmul hroom
  have e1 := ho _ _ _ (s49 (q := 1) hsn hse hs h)
  generalize chN sn 1 ln = LN at *
  generalize chE se 1 LN.2.1 le' = LE at *
  generalize chN sn 1 rn = RN at *
  generalize chE se 1 RN.2.1 re = RE at *
  generalize ixs LN.2.1 RN.2.1 = FF at *
  generalize ixs LE.2.1 RE.2.1 = FG at *
  dsimp only [tA, sA, rD, rC, own1, own3, rR, dI, dE] at *
  generalize rI (upto LN.1.length) = w1 at *
  generalize rI (upto LE.1.length) = w2 at *
  generalize rI FF = ff at *
  generalize rI FG = fg at *
  generalize rI LN.1 = ln1 at *
  generalize rE LE.1 = le1 at *
  generalize rI RN.1 = rn1 at *
  generalize rE RE.1 = re1 at *
  generalize rI (upto ln.length) = α at *
  generalize rI (upto le'.length) = β at *
  generalize rI ln = ρ at *
  generalize rE le' = σ at *
  generalize rI rn = ρ' at *
  generalize rE re = σ' at *
  generalize rI sn = μ at *
  generalize rI se = ν at *
  generalize tN = τ at *
  generalize tE = υ at *
  cbv
  rw [e1]
  cbv

theorem s13 {sn se : List Int} (hsn : sn.length = 5) (hse : se.length = 6) (hs : O Ez NR 51 [tA, sA sn se] = some (ri 0, [])) {ln : List Int} {le' : List (Int × Int × Int)} {rn : List Int} {re : List (Int × Int × Int)} (h : ROk ln le' rn re) :
    O Ez NR 13 [tA, sA sn se, .agg (rD ln le' rn re)] =
      some (.tup [.agg (rR (chN sn 3 ln).1 (chE se 3 (chN sn 3 ln).2.1 le').1 (chN sn 3 rn).1 (chE se 3 (chN sn 3 rn).2.1 re).1
        (ixs (chN sn 3 ln).2.1 (chN sn 3 rn).2.1) (ixs (chE se 3 (chN sn 3 ln).2.1 le').2.1 (chE se 3 (chN sn 3 rn).2.1 re).2.1)), ri 0], []) := by
  refine spec_of 1 F13 ?_
  intro rat rlen hat hln rcat hcat rcut hcut lp hlp o wrap lt le eq eqs nle tdiv tmod add sub mul room ho hw hlt hle heq heqs hnle hdiv hmod hadd hsub hmul hroom
  have e1 := ho _ _ _ (s49 (q := 3) hsn hse hs h)
  generalize chN sn 3 ln = LN at *
  generalize chE se 3 LN.2.1 le' = LE at *
  generalize chN sn 3 rn = RN at *
  generalize chE se 3 RN.2.1 re = RE at *
  generalize ixs LN.2.1 RN.2.1 = FF at *
  generalize ixs LE.2.1 RE.2.1 = FG at *
  dsimp only [tA, sA, rD, rC, own1, own3, rR, dI, dE] at *
  generalize rI (upto LN.1.length) = w1 at *
  generalize rI (upto LE.1.length) = w2 at *
  generalize rI FF = ff at *
  generalize rI FG = fg at *
  generalize rI LN.1 = ln1 at *
  generalize rE LE.1 = le1 at *
  generalize rI RN.1 = rn1 at *
  generalize rE RE.1 = re1 at *
  generalize rI (upto ln.length) = α at *
  generalize rI (upto le'.length) = β at *
  generalize rI ln = ρ at *
  generalize rE le' = σ at *
  generalize rI rn = ρ' at *
  generalize rE re = σ' at *
  generalize rI sn = μ at *
  generalize rI se = ν at *
  generalize tN = τ at *
  generalize tE = υ at *
  cbv
  rw [e1]
  cbv
end Am

