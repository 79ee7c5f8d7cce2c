/-
  What functions of the given program answer, as values, shown by that evaluator: each theorem bears its own conditions.
  By an AI agent. No person has read it.
-/
import Derived.Test.YtkcbdopbapogfaaGreatS15
set_option linter.all false
set_option maxRecDepth 100000
noncomputable section
namespace Am
open Go Go.Proofs

/-- what a translating rule adds: the elements that are chosen, their numbers, and their places -/
def tr {α : Type} (c : Nat → Bool) (v : Nat → α) (g0 : List α) (j0 : List Int) : Nat → List α × List Int × List Int
  | 0 => (g0, j0, [])
  | i + 1 => if c i = true then ((tr c v g0 j0 i).1 ++ [v i], (tr c v g0 j0 i).2.1 ++ [Int.ofNat i], (tr c v g0 j0 i).2.2 ++ [Int.ofNat (tr c v g0 j0 i).1.length]) else tr c v g0 j0 i
theorem tr_yes {α : Type} {c : Nat → Bool} {v : Nat → α} {g0 : List α} {j0 : List Int} {i : Nat} (h : c i = true) : tr c v g0 j0 (i + 1) = ((tr c v g0 j0 i).1 ++ [v i], (tr c v g0 j0 i).2.1 ++ [Int.ofNat i], (tr c v g0 j0 i).2.2 ++ [Int.ofNat (tr c v g0 j0 i).1.length]) := by
  rw [tr, if_pos h]
theorem tr_no {α : Type} {c : Nat → Bool} {v : Nat → α} {g0 : List α} {j0 : List Int} {i : Nat} (h : c i = false) : tr c v g0 j0 (i + 1) = tr c v g0 j0 i := by
  rw [tr, if_neg (by rw [h]; decide)]
theorem tr_len {α : Type} (c : Nat → Bool) (v : Nat → α) (g0 : List α) (j0 : List Int) : ∀ i, (tr c v g0 j0 i).1.length ≤ g0.length + i ∧ (tr c v g0 j0 i).2.1.length ≤ j0.length + i ∧ (tr c v g0 j0 i).2.2.length ≤ i
  | 0 => by simp [tr]
  | i + 1 => by
    have := tr_len c v g0 j0 i
    cases h : c i with
    | true => rw [tr_yes h]; simp; omega
    | false => rw [tr_no h]; omega

def chosen (n0 : Nat) (so sv : List Int) (k : Nat → Int) (i : Nat) : Bool := !((upto n0).any (fun y => Int.ofNat i == y)) && so.any (fun y => sv.getD (k i).toNat 0 == y)
def trN (so sn ln rn : List Int) : List Int × List Int × List Int := tr (chosen ln.length so sn (fun i => rn.getD i 0)) (fun i => rn.getD i 0) ln (upto ln.length) rn.length
def trV (J : List Int) (re : List (Int × Int × Int)) (i : Nat) : Int × Int × Int := ((re.getD i (0, 0, 0)).1, ixf (fun y => (re.getD i (0, 0, 0)).2.1 == y) J 0, ixf (fun y => (re.getD i (0, 0, 0)).2.2 == y) J 0)
def trE (so se : List Int) (J : List Int) (le' re : List (Int × Int × Int)) : List (Int × Int × Int) × List Int × List Int := tr (chosen le'.length so se (fun i => (re.getD i (0, 0, 0)).1)) (trV J re) le' (upto le'.length) re.length

theorem s62 {so sn se : List Int} (hso : so.length < 10) (hsn : sn.length = 5) (hse : se.length = 6) (hs : O Ez NR 51 [tA, sA sn se] = some (ri 0, [])) {ln : List Int} {le' : List (Int × Int × Int)} {rn : List Int} {re : List (Int × Int × Int)} (h : ROk ln le' rn re) :
    O Ez NR 62 [tA, sA sn se, .agg (rD ln le' rn re), .one (.sl false 1 (rI so))] =
      some (.tup [.agg (rR (trN so sn ln rn).1 (trE so se (trN so sn ln rn).2.1 le' re).1 rn re (trN so sn ln rn).2.1 (trE so se (trN so sn ln rn).2.1 le' re).2.1),
        .agg [own1 (trN so sn ln rn).2.2, own1 (trE so se (trN so sn ln rn).2.1 le' re).2.2], ri 0], []) := by
  have m1 := h.hr.1
  have m2 := h.hl.1
  have m3 := h.hle.1
  have m4 := h.hre.1
  obtain ⟨n, hfn⟩ : ∃ n : Nat, 200 < n := ⟨201, by omega⟩
  refine spec_of n F62 ?_
  intro rat rlen hat hln rcat hcat rcut hcut lp hlp o wrap lt le eq eqs nle tdiv tmod add sub mul room ho hw hlt hle heq heqs hnle hdiv hmod hadd hsub hmul hroom
  have e1 := ho _ _ _ (s15 hs h)
  have e2 := ho _ _ _ (s112 ln (by omega))
  have e3 := ho _ _ _ (s113 le' (by omega))
  have e4 := ho _ _ _ (s112 (upto ln.length) (by rw [upto_len]; omega))
  have e5 := ho _ _ _ (s112 (upto le'.length) (by rw [upto_len]; omega))
  have e6 := ho _ _ _ (s112 rn (by omega))
  have e7 := ho _ _ _ (s113 re (by omega))
  have e8 := fun i => ho _ _ _ (s114 (upto ln.length) (Int.ofNat i) (by rw [upto_len]; omega))
  have e9 := fun i => ho _ _ _ (s114 (upto le'.length) (Int.ofNat i) (by rw [upto_len]; omega))
  have e10 := fun v => ho _ _ _ (s114 so v (by omega))
  have q0 : eq 0 0 = true := by rw [heq]; rfl
  have l3 : rlen (rI rn) = rn.length := by rw [hln, rI_len]
  have l4 : rlen (rE re) = re.length := by rw [hln, rE_len]
  have hb := fun i => (hat (rI rn) i).trans (rI_at rn i)
  have hd := fun i => (hat (rE re) i).trans (rE_at re i)
  have hx1 := fun i => (hat (rI sn) i).trans (rI_at sn i)
  have hx2 := fun i => (hat (rI se) i).trans (rI_at se i)
  -- the first loop's lists
  generalize hc1 : chosen ln.length so sn (fun i => rn.getD i 0) = c1
  have hN : trN so sn ln rn = tr c1 (fun i => rn.getD i 0) ln (upto ln.length) rn.length := by rw [← hc1]; rfl
  generalize hv1 : (fun i => rn.getD i 0) = v1 at hN
  have t1 := tr_len c1 v1 ln (upto ln.length)
  have G0 : rI (tr c1 v1 ln (upto ln.length) 0).1 = rI ln := rfl
  have I0 : rI (tr c1 v1 ln (upto ln.length) 0).2.1 = rI (upto ln.length) := rfl
  have M0 : rI (tr c1 v1 ln (upto ln.length) 0).2.2 = [] := rfl
  have Gy := fun i (hi : c1 i = true) => (by rw [tr_yes hi, rI_app, hcat]; rfl : rI (tr c1 v1 ln (upto ln.length) (i + 1)).1 = rcat (rI (tr c1 v1 ln (upto ln.length) i).1) [[vi (v1 i)]])
  have Iy := fun i (hi : c1 i = true) => (by rw [tr_yes hi, rI_app, hcat]; rfl : rI (tr c1 v1 ln (upto ln.length) (i + 1)).2.1 = rcat (rI (tr c1 v1 ln (upto ln.length) i).2.1) [[vi (Int.ofNat i)]])
  have My := fun i (hi : c1 i = true) => (by rw [tr_yes hi, rI_app, hcat, hln, rI_len]; rfl : rI (tr c1 v1 ln (upto ln.length) (i + 1)).2.2 = rcat (rI (tr c1 v1 ln (upto ln.length) i).2.2) [[vi (Int.ofNat (rlen (rI (tr c1 v1 ln (upto ln.length) i).1)))]])
  have Gn := fun i (hi : c1 i = false) => (by rw [tr_no hi] : rI (tr c1 v1 ln (upto ln.length) (i + 1)).1 = rI (tr c1 v1 ln (upto ln.length) i).1)
  have In := fun i (hi : c1 i = false) => (by rw [tr_no hi] : rI (tr c1 v1 ln (upto ln.length) (i + 1)).2.1 = rI (tr c1 v1 ln (upto ln.length) i).2.1)
  have Mn := fun i (hi : c1 i = false) => (by rw [tr_no hi] : rI (tr c1 v1 ln (upto ln.length) (i + 1)).2.2 = rI (tr c1 v1 ln (upto ln.length) i).2.2)
  have Gl := fun i => (by rw [rI_len]; exact (t1 i).1 : (rI (tr c1 v1 ln (upto ln.length) i).1).length ≤ ln.length + i)
  have Il := fun i => (by rw [rI_len]; have := (t1 i).2.1; rw [upto_len] at this; exact this : (rI (tr c1 v1 ln (upto ln.length) i).2.1).length ≤ ln.length + i)
  have Ml := fun i => (by rw [rI_len]; exact (t1 i).2.2 : (rI (tr c1 v1 ln (upto ln.length) i).2.2).length ≤ i)
  have hJ : (trN so sn ln rn).2.1.length < 1000000 := by rw [hN]; have := (t1 rn.length).2.1; rw [upto_len] at this; omega
  have e11 := fun v => ho _ _ _ (s90 (trN so sn ln rn).2.1 v hJ)
  have Gf : rI (tr c1 v1 ln (upto ln.length) rn.length).1 = rI (trN so sn ln rn).1 := by rw [hN]
  have If : rI (tr c1 v1 ln (upto ln.length) rn.length).2.1 = rI (trN so sn ln rn).2.1 := by rw [hN]
  have Mf : rI (tr c1 v1 ln (upto ln.length) rn.length).2.2 = rI (trN so sn ln rn).2.2 := by rw [hN]
  have hJ1 : (trN so sn ln rn).1.length < 1000000 := by rw [hN]; have := (t1 rn.length).1; omega
  generalize trN so sn ln rn = TN at *
  generalize hG : (fun i => rI (tr c1 v1 ln (upto ln.length) i).1) = G
  have hGG : ∀ i, rI (tr c1 v1 ln (upto ln.length) i).1 = G i := fun i => by rw [← hG]
  generalize hI : (fun i => rI (tr c1 v1 ln (upto ln.length) i).2.1) = I
  have hII : ∀ i, rI (tr c1 v1 ln (upto ln.length) i).2.1 = I i := fun i => by rw [← hI]
  generalize hM : (fun i => rI (tr c1 v1 ln (upto ln.length) i).2.2) = M
  have hMM : ∀ i, rI (tr c1 v1 ln (upto ln.length) i).2.2 = M i := fun i => by rw [← hM]
  simp only [hGG, hII, hMM] at G0 I0 M0 Gy Iy My Gn In Mn Gl Il Ml Gf If Mf
  clear hGG hII hMM hG hI hM t1 hN
  -- the second loop's lists
  generalize hc2 : chosen le'.length so se (fun i => (re.getD i (0, 0, 0)).1) = c2
  have hE : trE so se TN.2.1 le' re = tr c2 (trV TN.2.1 re) le' (upto le'.length) re.length := by rw [← hc2]; rfl
  generalize hv2 : trV TN.2.1 re = v2 at hE
  have t2 := tr_len c2 v2 le' (upto le'.length)
  have G0' : rE (tr c2 v2 le' (upto le'.length) 0).1 = rE le' := rfl
  have I0' : rI (tr c2 v2 le' (upto le'.length) 0).2.1 = rI (upto le'.length) := rfl
  have M0' : rI (tr c2 v2 le' (upto le'.length) 0).2.2 = [] := rfl
  have Gy' := fun i (hi : c2 i = true) => (by rw [tr_yes hi, rE_app, hcat]; rfl : rE (tr c2 v2 le' (upto le'.length) (i + 1)).1 = rcat (rE (tr c2 v2 le' (upto le'.length) i).1) [[vi (v2 i).1, vi (v2 i).2.1, vi (v2 i).2.2]])
  have Iy' := fun i (hi : c2 i = true) => (by rw [tr_yes hi, rI_app, hcat]; rfl : rI (tr c2 v2 le' (upto le'.length) (i + 1)).2.1 = rcat (rI (tr c2 v2 le' (upto le'.length) i).2.1) [[vi (Int.ofNat i)]])
  have My' := fun i (hi : c2 i = true) => (by rw [tr_yes hi, rI_app, hcat, hln, rE_len]; rfl : rI (tr c2 v2 le' (upto le'.length) (i + 1)).2.2 = rcat (rI (tr c2 v2 le' (upto le'.length) i).2.2) [[vi (Int.ofNat (rlen (rE (tr c2 v2 le' (upto le'.length) i).1)))]])
  have Gn' := fun i (hi : c2 i = false) => (by rw [tr_no hi] : rE (tr c2 v2 le' (upto le'.length) (i + 1)).1 = rE (tr c2 v2 le' (upto le'.length) i).1)
  have In' := fun i (hi : c2 i = false) => (by rw [tr_no hi] : rI (tr c2 v2 le' (upto le'.length) (i + 1)).2.1 = rI (tr c2 v2 le' (upto le'.length) i).2.1)
  have Mn' := fun i (hi : c2 i = false) => (by rw [tr_no hi] : rI (tr c2 v2 le' (upto le'.length) (i + 1)).2.2 = rI (tr c2 v2 le' (upto le'.length) i).2.2)
  have Gl' := fun i => (by rw [rE_len]; exact (t2 i).1 : (rE (tr c2 v2 le' (upto le'.length) i).1).length ≤ le'.length + i)
  have Il' := fun i => (by rw [rI_len]; have := (t2 i).2.1; rw [upto_len] at this; exact this : (rI (tr c2 v2 le' (upto le'.length) i).2.1).length ≤ le'.length + i)
  have Ml' := fun i => (by rw [rI_len]; exact (t2 i).2.2 : (rI (tr c2 v2 le' (upto le'.length) i).2.2).length ≤ i)
  have hJ2 : (trE so se TN.2.1 le' re).1.length < 1000000 := by rw [hE]; have := (t2 re.length).1; omega
  have Gf' : rE (tr c2 v2 le' (upto le'.length) re.length).1 = rE (trE so se TN.2.1 le' re).1 := by rw [hE]
  have If' : rI (tr c2 v2 le' (upto le'.length) re.length).2.1 = rI (trE so se TN.2.1 le' re).2.1 := by rw [hE]
  have Mf' : rI (tr c2 v2 le' (upto le'.length) re.length).2.2 = rI (trE so se TN.2.1 le' re).2.2 := by rw [hE]
  have e12 := ho _ _ _ (s91 (ln := ln) (le' := le') (rn := rn) (re := re) (kn := upto ln.length) (ke := upto le'.length) (ii := upto ln.length) (ij := upto le'.length) (hn := rn) (he := re) (im := TN.2.1) (ie := (trE so se TN.2.1 le' re).2.1) hJ1 hJ2)
  generalize trE so se TN.2.1 le' re = TE at *
  generalize hG : (fun i => rE (tr c2 v2 le' (upto le'.length) i).1) = G'
  have hGG : ∀ i, rE (tr c2 v2 le' (upto le'.length) i).1 = G' i := fun i => by rw [← hG]
  generalize hI : (fun i => rI (tr c2 v2 le' (upto le'.length) i).2.1) = I'
  have hII : ∀ i, rI (tr c2 v2 le' (upto le'.length) i).2.1 = I' i := fun i => by rw [← hI]
  generalize hM : (fun i => rI (tr c2 v2 le' (upto le'.length) i).2.2) = M'
  have hMM : ∀ i, rI (tr c2 v2 le' (upto le'.length) i).2.2 = M' i := fun i => by rw [← hM]
  simp only [hGG, hII, hMM] at G0' I0' M0' Gy' Iy' My' Gn' In' Mn' Gl' Il' Ml' Gf' If' Mf'
  clear hGG hII hMM hG hI hM t2 hE
  dsimp only [tA, sA, rD, rC, own1, own3, rR, dI, dE, gA, mA] at *
  generalize rI (upto TN.1.length) = w1 at e12 ⊢
  generalize rI (upto TE.1.length) = w2 at e12 ⊢
  generalize rI TN.1 = γf at *
  generalize hιf : rI TN.2.1 = ιf at *
  generalize rI TN.2.2 = μf at *
  generalize rE TE.1 = δf at *
  generalize rI TE.2.1 = κf at *
  generalize rI TE.2.2 = νf at *
  generalize rI (upto ln.length) = α at *
  generalize rI (upto le'.length) = β at *
  generalize rI ln = ρ at *
  generalize rE le' = σ at *
  generalize rI rn = ρ' at *
  generalize rE re = σ' at *
  generalize rI sn = μ at *
  generalize rI se = ν at *
  generalize rI so = ζ at *
  generalize tN = τ at *
  generalize tE = υ at *
  generalize hrl : rn.length = N1 at *
  generalize hrel : re.length = N2 at *
  cbv
  rw [e1]
  cbv
  rw [q0]
  cbv
  rw [e2]
  cbv
  rw [e3]
  cbv
  rw [e4]
  cbv
  rw [e5]
  cbv
  refine loopU (hlp _ _ _ _ _) (fun s i => (((s.setI 55 i).setV 14 0 (G i)).setV 15 0 (I i)).setV 16 0 (M i)) (fun _ => True) N1 (by omega) trivial (by cbv)
    (by show St.setV (St.setV (St.setV (St.setI _ 55 0) 14 0 (G 0)) 15 0 (I 0)) 16 0 (M 0) = _; rw [G0, I0, M0]; cbv) ?_
  intro i hi hp C' hret hex hnorm
  rcases Nat.lt_or_ge i N1 with hc | hc
  · obtain ⟨x, hx⟩ : ∃ x, rn[i]? = some x := ⟨_, List.getElem?_eq_getElem (by omega)⟩
    have hxm := h.hr.2 x (List.mem_of_getElem? hx)
    obtain ⟨kx, rfl⟩ := toN hxm.1
    have bx : kx < sn.length := by have := hxm.2; rw [ofn] at this; omega
    obtain ⟨y, hy⟩ : ∃ y, sn[kx]? = some y := ⟨_, List.getElem?_eq_getElem bx⟩
    have f1 : lt (Int.ofNat i) (Int.ofNat (rlen ρ')) = true := by rw [hlt, l3, lt_true hc]
    have f2 : rat ρ' i = some [vi (Int.ofNat kx)] := by rw [hb, hx]; rfl
    have f3 : rat μ kx = some [vi y] := by rw [hx1, hy]; rfl
    have f4 := e8 i
    have f5 := e10 y
    have vx : v1 i = Int.ofNat kx := by rw [← hv1]; simp [List.getD_eq_getElem?_getD, hx]
    have cx : c1 i = (!((upto ln.length).any (fun y => Int.ofNat i == y)) && so.any (fun z => y == z)) := by
      rw [← hc1]; unfold chosen
      simp [List.getD_eq_getElem?_getD, hx, hy]
    generalize ((upto ln.length).any (fun y => Int.ofNat i == y)) = b1 at f4 cx
    generalize (so.any (fun z => y == z)) = b2 at f5 cx
    have r1 : room (rlen (rcat (M i) [[vi (Int.ofNat (rlen (G i)))]])) 8 = true := hroom _ _ (by rw [hln, hcat, List.length_append]; have := Ml i; simp; omega)
    have r2 : room (rlen (rcat (G i) [[vi (Int.ofNat kx)]])) 8 = true := hroom _ _ (by rw [hln, hcat, List.length_append]; have := Gl i; simp; omega)
    have r3 : room (rlen (rcat (I i) [[vi (Int.ofNat i)]])) 8 = true := hroom _ _ (by rw [hln, hcat, List.length_append]; have := Il i; simp; omega)
    cbv
    rw [f1]
    cbv
    rw [f2]
    cbv
    rw [f4]
    cbv
    cases b1 with
    | true =>
      have cf : c1 i = false := by rw [cx]; rfl
      cbv
      refine hnorm _ hc trivial ?_
      rw [Gn i cf, In i cf, Mn i cf]
      cbv
      rw [hadd, wrap_succ (by omega)]
    | false =>
      cbv
      rw [f3]
      cbv
      rw [f5]
      cbv
      cases b2 with
      | false =>
        have cf : c1 i = false := by rw [cx]; rfl
        cbv
        refine hnorm _ hc trivial ?_
        rw [Gn i cf, In i cf, Mn i cf]
        cbv
        rw [hadd, wrap_succ (by omega)]
      | true =>
        have ct : c1 i = true := by rw [cx]; rfl
        cbv
        rw [r1]
        cbv
        rw [r2]
        cbv
        rw [r3]
        cbv
        refine hnorm _ hc trivial ?_
        rw [Gy i ct, Iy i ct, My i ct, vx]
        cbv
        rw [hadd, wrap_succ (by omega)]
  · have f1 : lt (Int.ofNat i) (Int.ofNat (rlen ρ')) = false := by rw [hlt, l3, lt_false hc]
    have hi1 : i = N1 := by omega
    subst hi1
    rw [Gf, If, Mf]
    cbv
    rw [f1]
    cbv
    rw [hex]
    cbv
    clear hret hex hnorm f1 hp hc
    refine loopU (hlp _ _ _ _ _) (fun s j => (((s.setI 99 j).setV 14 1 (G' j)).setV 15 1 (I' j)).setV 16 1 (M' j)) (fun _ => True) N2 (by omega) trivial (by cbv)
      (by show St.setV (St.setV (St.setV (St.setI _ 99 0) 14 1 (G' 0)) 15 1 (I' 0)) 16 1 (M' 0) = _; rw [G0', I0', M0']; cbv) ?_
    intro j hj hp C' hret hex hnorm
    rcases Nat.lt_or_ge j N2 with hc | hc
    · obtain ⟨e, hx⟩ : ∃ e, re[j]? = some e := ⟨_, List.getElem?_eq_getElem (by omega)⟩
      have hm := h.hre.2 e (List.mem_of_getElem? hx)
      obtain ⟨ty, ea, eb⟩ := e
      simp only at hm
      obtain ⟨kt, rfl⟩ := toN hm.1
      have bt : kt < se.length := by have := hm.2.1; rw [ofn] at this; omega
      obtain ⟨y, hy⟩ : ∃ y, se[kt]? = some y := ⟨_, List.getElem?_eq_getElem bt⟩
      have f1 : lt (Int.ofNat j) (Int.ofNat (rlen σ')) = true := by rw [hlt, l4, lt_true hc]
      have f2 : rat σ' j = some [vi (Int.ofNat kt), vi ea, vi eb] := by rw [hd, hx]; rfl
      have f3 : rat ν kt = some [vi y] := by rw [hx2, hy]; rfl
      have f4 := e9 j
      have f5 := e10 y
      have f6 := e11 ea
      have f7 := e11 eb
      have vx : v2 j = (Int.ofNat kt, ixf (fun y => ea == y) TN.2.1 0, ixf (fun y => eb == y) TN.2.1 0) := by rw [← hv2]; unfold trV; simp [List.getD_eq_getElem?_getD, hx]
      have cx : c2 j = (!((upto le'.length).any (fun y => Int.ofNat j == y)) && so.any (fun z => y == z)) := by
        rw [← hc2]; unfold chosen
        simp [List.getD_eq_getElem?_getD, hx, hy]
      generalize ((upto le'.length).any (fun y => Int.ofNat j == y)) = b1 at f4 cx
      generalize (so.any (fun z => y == z)) = b2 at f5 cx
      generalize ixf (fun y => ea == y) TN.2.1 0 = i1 at f6 vx
      generalize ixf (fun y => eb == y) TN.2.1 0 = i2 at f7 vx
      have r1 : room (rlen (rcat (M' j) [[vi (Int.ofNat (rlen (G' j)))]])) 8 = true := hroom _ _ (by rw [hln, hcat, List.length_append]; have := Ml' j; simp; omega)
      have r2 : room (rlen (rcat (G' j) [[vi (Int.ofNat kt), vi i1, vi i2]])) 24 = true := hroom _ _ (by rw [hln, hcat, List.length_append]; have := Gl' j; simp; omega)
      have r3 : room (rlen (rcat (I' j) [[vi (Int.ofNat j)]])) 8 = true := hroom _ _ (by rw [hln, hcat, List.length_append]; have := Il' j; simp; omega)
      cbv
      rw [f1]
      cbv
      rw [f2]
      cbv
      rw [f4]
      cbv
      cases b1 with
      | true =>
        have cf : c2 j = false := by rw [cx]; rfl
        cbv
        refine hnorm _ hc trivial ?_
        rw [Gn' j cf, In' j cf, Mn' j cf]
        cbv
        rw [hadd, wrap_succ (by omega)]
      | false =>
        cbv
        rw [f3]
        cbv
        rw [f5]
        cbv
        cases b2 with
        | false =>
          have cf : c2 j = false := by rw [cx]; rfl
          cbv
          refine hnorm _ hc trivial ?_
          rw [Gn' j cf, In' j cf, Mn' j cf]
          cbv
          rw [hadd, wrap_succ (by omega)]
        | true =>
          have ct : c2 j = true := by rw [cx]; rfl
          cbv
          rw [r1]
          cbv
          rw [f6]
          cbv
          rw [f7]
          cbv
          rw [r2]
          cbv
          rw [r3]
          cbv
          refine hnorm _ hc trivial ?_
          rw [Gy' j ct, Iy' j ct, My' j ct, vx]
          cbv
          rw [hadd, wrap_succ (by omega)]
    · have f1 : lt (Int.ofNat j) (Int.ofNat (rlen σ')) = false := by rw [hlt, l4, lt_false hc]
      have hj1 : j = N2 := by omega
      subst hj1
      rw [Gf', If', Mf']
      cbv
      rw [f1]
      cbv
      rw [hex]
      cbv
      rw [e6]
      cbv
      rw [e7]
      cbv
      rw [e12]
      cbv
end Am

