/-
  What functions of the given program answer, as values, shown by that evaluator: each theorem bears its own conditions.
  By an AI agent. No person has read it.
-/
import Derived.Test.YtkcbdopbapogfaaGreatS31
set_option linter.all false
set_option maxRecDepth 100000
noncomputable section
namespace Am
open Go Go.Proofs

theorem s43 (l : List Int) (hl : l.length < 1000000) : O Ez NR 43 [.one (.sl false 1 (rI l)), .one (.sl false 1 (rI l))] = some (rb true, []) := by
  refine spec_of (l.length + 1) F43 ?_
  intro rat rlen hat hln rcat hcat rcut hcut lp hlp o wrap lt le eq eqs nle tdiv tmod add sub mul room ho hw hlt hle heq heqs hnle hdiv hmod hadd hsub hmul hroom
  have l1 : rlen (rI l) = l.length := by rw [hln, rI_len]
  have hb := fun i => (hat (rI l) i).trans (rI_at l i)
  have qq : ∀ x, eq x x = true := fun x => by rw [heq]; simp
  generalize rI l = ρ at *
  generalize hn1 : l.length = N1 at *
  generalize hn : N1 + 1 = n
  cbv
  rw [qq]
  cbv
  refine loopU (hlp _ _ _ _ _) (fun s i => s.setI 13 i) (fun _ => True) N1 (by omega) trivial (by cbv) (by cbv) ?_
  intro i hi hp C' hret hex hnorm
  rcases Nat.lt_or_ge i N1 with hc | hc
  · obtain ⟨x, hx⟩ : ∃ x, l[i]? = some x := ⟨_, List.getElem?_eq_getElem (by omega)⟩
    have f1 : lt (Int.ofNat i) (Int.ofNat (rlen ρ)) = true := by rw [hlt, l1, lt_true hc]
    have f2 : rat ρ i = some [vi x] := by rw [hb, hx]; rfl
    cbv
    rw [f1]
    cbv
    rw [f2]
    cbv
    rw [f2]
    cbv
    rw [qq]
    cbv
    refine hnorm _ hc trivial ?_
    cbv
    rw [hadd, wrap_succ (by omega)]
  · have f1 : lt (Int.ofNat i) (Int.ofNat (rlen ρ)) = false := by rw [hlt, l1, lt_false hc]
    cbv
    rw [f1]
    cbv
    rw [hex]
    cbv

theorem s44 (es : List (Int × Int × Int)) (h2 : es.length < 1000000) : O Ez NR 44 [.one (.sl false 3 (rE es)), .one (.sl false 3 (rE es))] = some (rb true, []) := by
  refine spec_of (es.length + 1) F44 ?_
  intro rat rlen hat hln rcat hcat rcut hcut lp hlp o wrap lt le eq eqs nle tdiv tmod add sub mul room ho hw hlt hle heq heqs hnle hdiv hmod hadd hsub hmul hroom
  have l1 : rlen (rE es) = es.length := by rw [hln, rE_len]
  have hb := fun i => (hat (rE es) i).trans (rE_at es i)
  have qq : ∀ x, eq x x = true := fun x => by rw [heq]; simp
  generalize rE es = σ at *
  generalize hn1 : es.length = N1 at *
  generalize hn : N1 + 1 = n
  cbv
  rw [qq]
  cbv
  refine loopU (hlp _ _ _ _ _) (fun s i => s.setI 13 i) (fun _ => True) N1 (by omega) trivial (by cbv) (by cbv) ?_
  intro i hi hp C' hret hex hnorm
  rcases Nat.lt_or_ge i N1 with hc | hc
  · obtain ⟨e, hx⟩ : ∃ x, es[i]? = some x := ⟨_, List.getElem?_eq_getElem (by omega)⟩
    obtain ⟨x, y, z⟩ := e
    have f1 : lt (Int.ofNat i) (Int.ofNat (rlen σ)) = true := by rw [hlt, l1, lt_true hc]
    have f2 : rat σ i = some [vi x, vi y, vi z] := by rw [hb, hx]; rfl
    cbv
    rw [f1]
    cbv
    rw [f2]
    cbv
    rw [f2]
    cbv
    rw [qq, qq, qq]
    cbv
    refine hnorm _ hc trivial ?_
    cbv
    rw [hadd, wrap_succ (by omega)]
  · have f1 : lt (Int.ofNat i) (Int.ofNat (rlen σ)) = false := by rw [hlt, l1, lt_false hc]
    cbv
    rw [f1]
    cbv
    rw [hex]
    cbv

theorem s23 {sn se : List Int} (hsn : sn.length = 5) (hse : se.length = 6) (hs : O Ez NR 51 [tA, sA sn se] = some (ri 0, [])) {ln : List Int} {le' : List (Int × Int × Int)} {rn : List Int} {re : List (Int × Int × Int)} (h : ROk ln le' rn re) :
    O Ez NR 23 [tA, sA sn se, .agg (rD ln le' rn re)] =
      some (.tup [.agg (rR (trN [1, 3] sn ln rn).1 (trE [1, 3] se (trN [1, 3] sn ln rn).2.1 le' re).1 rn re (trN [1, 3] sn ln rn).2.1 (trE [1, 3] se (trN [1, 3] sn ln rn).2.1 le' re).2.1),
        .agg [own1 (trN [1, 3] sn ln rn).2.2, own1 (trE [1, 3] se (trN [1, 3] sn ln rn).2.1 le' re).2.2], ri 0], []) := by
  refine spec_of 1 F23 ?_
  intro rat rlen hat hln rcat hcat rcut hcut lp hlp o wrap lt le eq eqs nle tdiv tmod add sub mul room ho hw hlt hle heq heqs hnle hdiv hmod hadd hsub hmul hroom
  have e1 := ho _ _ _ (s62 (so := [1, 3]) (by decide) hsn hse hs h)
  rw [show rI [1, 3] = [[vi 1], [vi 3]] from rfl] at e1
  generalize trN [1, 3] sn ln rn = TN at *
  generalize trE [1, 3] se TN.2.1 le' re = TE at *
  dsimp only [tA, sA, rD, rC, own1, own3, rR, dI, dE] at *
  generalize rI (upto TN.1.length) = w1 at *
  generalize rI (upto TE.1.length) = w2 at *
  generalize rI TN.1 = γf at *
  generalize rI TN.2.1 = ιf at *
  generalize rI TN.2.2 = μf at *
  generalize rE TE.1 = δf at *
  generalize rI TE.2.1 = κf at *
  generalize rI TE.2.2 = νf at *
  generalize rI (upto ln.length) = α at *
  generalize rI (upto le'.length) = β at *
  generalize rI ln = ρ at *
  generalize rE le' = σ at *
  generalize rI rn = ρ' at *
  generalize rE re = σ' at *
  generalize rI sn = μ at *
  generalize rI se = ν at *
  generalize tN = τ at *
  generalize tE = υ at *
  cbv
  rw [e1]
  cbv

theorem mRn_len30 {dn : List (Nat × Nat)} {de : List (Nat × Nat × Nat)} {xn : List Nat} {xe : List (Nat × Nat × Nat)} (h : DOk dn de xn xe) : (mRn dn xn).length ≤ 30 ∧ (mRe dn de xn xe).length ≤ 60 := by
  have h1 := h.h1
  have h2 := h.h2
  have h3 := h.h3
  have h4 := h.h4
  have q2 := mLe_len dn de
  have q3 := mRn_len dn xn
  have a1 := addE_len (mRn dn xn) xe (mLe dn de) (rounds (mRn dn xn) xe.length)
  have a2 := rounds_le (mRn dn xn) xe.length
  refine ⟨by omega, ?_⟩
  unfold mRe
  omega
end Am

