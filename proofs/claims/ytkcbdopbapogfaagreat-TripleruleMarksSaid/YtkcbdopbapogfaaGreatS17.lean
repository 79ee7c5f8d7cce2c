/-
  What functions of the given program answer, as values, shown by that evaluator: each theorem bears its own conditions.
  By an AI agent. No person has read it.
-/
import Derived.Test.YtkcbdopbapogfaaGreatS16
set_option linter.all false
set_option maxRecDepth 100000
noncomputable section
namespace Am
open Go Go.Proofs

abbrev sP (sn se : List Int) : List C := [.sl false 1 (rI sn), .sl false 1 (rI se)]
theorem s88 {sn se ns : List Int} {es : List (Int × Int × Int)} {q : Int} (hsn : sn.length = 5) (hn : nOk ns) {i : Nat} (hi : i < ns.length) :
    O Ez NR 88 [.one (vi (Int.ofNat i)), .one (.ptr (sP sn se)), .one (.ptr (gP ns es)), .one (.ptr [vi q])] = some (rb (sn.getD (ns.getD i 0).toNat 0 == q), []) := by
  refine spec_of 1 F88 ?_
  intro rat rlen hat hln rcat hcat rcut hcut lp hlp o wrap lt le eq eqs nle tdiv tmod add sub mul room ho hw hlt hle heq heqs hnle hdiv hmod hadd hsub hmul hroom
  obtain ⟨x, hx⟩ : ∃ x, ns[i]? = some x := ⟨_, List.getElem?_eq_getElem hi⟩
  have hxm := hn.2 x (List.mem_of_getElem? hx)
  obtain ⟨kx, rfl⟩ := toN hxm.1
  have bx : kx < sn.length := by have := hxm.2; rw [ofn] at this; omega
  obtain ⟨y, hy⟩ : ∃ y, sn[kx]? = some y := ⟨_, List.getElem?_eq_getElem bx⟩
  have e1 : rat (rI ns) i = some [vi (Int.ofNat kx)] := by rw [hat, rI_at, hx]; rfl
  have e2 : rat (rI sn) kx = some [vi y] := by rw [hat, rI_at, hy]; rfl
  have e3 : (sn.getD (ns.getD i 0).toNat 0 == q) = eq y q := by rw [heq]; simp [List.getD_eq_getElem?_getD, hx, hy]
  rw [e3]
  dsimp only [sP, gP]
  generalize rI ns = ρ at e1 ⊢
  generalize rE es = σ
  generalize rI sn = μ at e2 ⊢
  generalize rI se = ν
  cbv
  rw [e1]
  cbv
  rw [e2]
  cbv
theorem s89 {sn se ns : List Int} {es : List (Int × Int × Int)} {q : Int} {m : Nat} (hse : se.length = 6) (he : eOk m es) {i : Nat} (hi : i < es.length) :
    O Ez NR 89 [.one (vi (Int.ofNat i)), .one (.ptr (sP sn se)), .one (.ptr (gP ns es)), .one (.ptr [vi q])] = some (rb (se.getD (es.getD i (0, 0, 0)).1.toNat 0 == q), []) := by
  refine spec_of 1 F89 ?_
  intro rat rlen hat hln rcat hcat rcut hcut lp hlp o wrap lt le eq eqs nle tdiv tmod add sub mul room ho hw hlt hle heq heqs hnle hdiv hmod hadd hsub hmul hroom
  obtain ⟨x, hx⟩ : ∃ x, es[i]? = some x := ⟨_, List.getElem?_eq_getElem hi⟩
  have hxm := he.2 x (List.mem_of_getElem? hx)
  obtain ⟨ty, xa, xb⟩ := x
  simp only at hxm
  obtain ⟨kx, rfl⟩ := toN hxm.1
  have bx : kx < se.length := by have := hxm.2.1; rw [ofn] at this; omega
  obtain ⟨y, hy⟩ : ∃ y, se[kx]? = some y := ⟨_, List.getElem?_eq_getElem bx⟩
  have e1 : rat (rE es) i = some [vi (Int.ofNat kx), vi xa, vi xb] := by rw [hat, rE_at, hx]; rfl
  have e2 : rat (rI se) kx = some [vi y] := by rw [hat, rI_at, hy]; rfl
  have e3 : (se.getD (es.getD i (0, 0, 0)).1.toNat 0 == q) = eq y q := by rw [heq]; simp [List.getD_eq_getElem?_getD, hx, hy]
  rw [e3]
  dsimp only [sP, gP]
  generalize rE es = σ at e1 ⊢
  generalize rI ns = ρ
  generalize rI se = ν at e2 ⊢
  generalize rI sn = μ
  cbv
  rw [e1]
  cbv
  rw [e2]
  cbv

/-- the elements of a sort: what they are, and their numbers -/
def chN (sn : List Int) (q : Int) (ns : List Int) : List Int × List Int × List Int := tr (fun i => sn.getD (ns.getD i 0).toNat 0 == q) (fun i => ns.getD i 0) [] [] ns.length
def chE (se : List Int) (q : Int) (J : List Int) (es : List (Int × Int × Int)) : List (Int × Int × Int) × List Int × List Int := tr (fun i => se.getD (es.getD i (0, 0, 0)).1.toNat 0 == q) (trV J es) [] [] es.length

theorem s87 {sn se ns : List Int} {es : List (Int × Int × Int)} {q : Int} (hsn : sn.length = 5) (hse : se.length = 6) (hn : nOk ns) (he : eOk ns.length es) :
    O Ez NR 87 [gA ns es, .one (.clo 88 [.ptr (sP sn se), .ptr (gP ns es), .ptr [vi q]]), .one (.clo 89 [.ptr (sP sn se), .ptr (gP ns es), .ptr [vi q]])] =
      some (.agg [own1 (chN sn q ns).1, own3 (chE se q (chN sn q ns).2.1 es).1, own1 (chN sn q ns).2.1, own1 (chE se q (chN sn q ns).2.1 es).2.1], []) := by
  have m1 := hn.1
  have m2 := he.1
  obtain ⟨n, hfn⟩ : ∃ n : Nat, 200 < n := ⟨201, by omega⟩
  refine spec_of n F87 ?_
  intro rat rlen hat hln rcat hcat rcut hcut lp hlp o wrap lt le eq eqs nle tdiv tmod add sub mul room ho hw hlt hle heq heqs hnle hdiv hmod hadd hsub hmul hroom
  have e8 := fun i hi => ho _ _ _ (s88 (se := se) (es := es) (q := q) hsn hn (i := i) hi)
  have e9 := fun i hi => ho _ _ _ (s89 (sn := sn) (ns := ns) (q := q) hse he (i := i) hi)
  have l3 : rlen (rI ns) = ns.length := by rw [hln, rI_len]
  have l4 : rlen (rE es) = es.length := by rw [hln, rE_len]
  have hb := fun i => (hat (rI ns) i).trans (rI_at ns i)
  have hd := fun i => (hat (rE es) i).trans (rE_at es i)
  generalize hc1 : (fun i => sn.getD (ns.getD i 0).toNat 0 == q) = c1
  have hN : chN sn q ns = tr c1 (fun i => ns.getD i 0) [] [] ns.length := by rw [← hc1]; rfl
  have e8' : ∀ i, i < ns.length → o 88 [.one (vi (Int.ofNat i)), .one (.ptr (sP sn se)), .one (.ptr (gP ns es)), .one (.ptr [vi q])] = some (rb (c1 i), []) := fun i hi => by rw [e8 i hi, ← hc1]
  generalize hv1 : (fun i => ns.getD i 0) = v1 at hN
  have t1 := tr_len c1 v1 [] []
  have G0 : rI (tr c1 v1 [] [] 0).1 = [] := rfl
  have I0 : rI (tr c1 v1 [] [] 0).2.1 = [] := rfl
  have Gy := fun i (hi : c1 i = true) => (by rw [tr_yes hi, rI_app, hcat]; rfl : rI (tr c1 v1 [] [] (i + 1)).1 = rcat (rI (tr c1 v1 [] [] i).1) [[vi (v1 i)]])
  have Iy := fun i (hi : c1 i = true) => (by rw [tr_yes hi, rI_app, hcat]; rfl : rI (tr c1 v1 [] [] (i + 1)).2.1 = rcat (rI (tr c1 v1 [] [] i).2.1) [[vi (Int.ofNat i)]])
  have Gn := fun i (hi : c1 i = false) => (by rw [tr_no hi] : rI (tr c1 v1 [] [] (i + 1)).1 = rI (tr c1 v1 [] [] i).1)
  have In := fun i (hi : c1 i = false) => (by rw [tr_no hi] : rI (tr c1 v1 [] [] (i + 1)).2.1 = rI (tr c1 v1 [] [] i).2.1)
  have Gl := fun i => (by rw [rI_len]; have := (t1 i).1; simp at this; omega : (rI (tr c1 v1 [] [] i).1).length ≤ i)
  have Il := fun i => (by rw [rI_len]; have := (t1 i).2.1; simp at this; omega : (rI (tr c1 v1 [] [] i).2.1).length ≤ i)
  have hJ : (chN sn q ns).2.1.length < 1000000 := by rw [hN]; have := (t1 ns.length).2.1; simp at this; omega
  have e11 := fun v => ho _ _ _ (s90 (chN sn q ns).2.1 v hJ)
  have Gf : rI (tr c1 v1 [] [] ns.length).1 = rI (chN sn q ns).1 := by rw [hN]
  have If : rI (tr c1 v1 [] [] ns.length).2.1 = rI (chN sn q ns).2.1 := by rw [hN]
  generalize chN sn q ns = TN at *
  generalize hG : (fun i => rI (tr c1 v1 [] [] i).1) = G
  have hGG : ∀ i, rI (tr c1 v1 [] [] i).1 = G i := fun i => by rw [← hG]
  generalize hI : (fun i => rI (tr c1 v1 [] [] i).2.1) = I
  have hII : ∀ i, rI (tr c1 v1 [] [] i).2.1 = I i := fun i => by rw [← hI]
  simp only [hGG, hII] at G0 I0 Gy Iy Gn In Gl Il Gf If
  clear hGG hII hG hI t1 hN e8
  generalize hc2 : (fun i => se.getD (es.getD i (0, 0, 0)).1.toNat 0 == q) = c2
  have hE : chE se q TN.2.1 es = tr c2 (trV TN.2.1 es) [] [] es.length := by rw [← hc2]; rfl
  have e9' : ∀ i, i < es.length → o 89 [.one (vi (Int.ofNat i)), .one (.ptr (sP sn se)), .one (.ptr (gP ns es)), .one (.ptr [vi q])] = some (rb (c2 i), []) := fun i hi => by rw [e9 i hi, ← hc2]
  generalize hv2 : trV TN.2.1 es = v2 at hE
  have t2 := tr_len c2 v2 [] []
  have G0' : rE (tr c2 v2 [] [] 0).1 = [] := rfl
  have I0' : rI (tr c2 v2 [] [] 0).2.1 = [] := rfl
  have Gy' := fun i (hi : c2 i = true) => (by rw [tr_yes hi, rE_app, hcat]; rfl : rE (tr c2 v2 [] [] (i + 1)).1 = rcat (rE (tr c2 v2 [] [] i).1) [[vi (v2 i).1, vi (v2 i).2.1, vi (v2 i).2.2]])
  have Iy' := fun i (hi : c2 i = true) => (by rw [tr_yes hi, rI_app, hcat]; rfl : rI (tr c2 v2 [] [] (i + 1)).2.1 = rcat (rI (tr c2 v2 [] [] i).2.1) [[vi (Int.ofNat i)]])
  have Gn' := fun i (hi : c2 i = false) => (by rw [tr_no hi] : rE (tr c2 v2 [] [] (i + 1)).1 = rE (tr c2 v2 [] [] i).1)
  have In' := fun i (hi : c2 i = false) => (by rw [tr_no hi] : rI (tr c2 v2 [] [] (i + 1)).2.1 = rI (tr c2 v2 [] [] i).2.1)
  have Gl' := fun i => (by rw [rE_len]; have := (t2 i).1; simp at this; omega : (rE (tr c2 v2 [] [] i).1).length ≤ i)
  have Il' := fun i => (by rw [rI_len]; have := (t2 i).2.1; simp at this; omega : (rI (tr c2 v2 [] [] i).2.1).length ≤ i)
  have Gf' : rE (tr c2 v2 [] [] es.length).1 = rE (chE se q TN.2.1 es).1 := by rw [hE]
  have If' : rI (tr c2 v2 [] [] es.length).2.1 = rI (chE se q TN.2.1 es).2.1 := by rw [hE]
  generalize chE se q TN.2.1 es = TE at *
  generalize hG : (fun i => rE (tr c2 v2 [] [] i).1) = G'
  have hGG : ∀ i, rE (tr c2 v2 [] [] i).1 = G' i := fun i => by rw [← hG]
  generalize hI : (fun i => rI (tr c2 v2 [] [] i).2.1) = I'
  have hII : ∀ i, rI (tr c2 v2 [] [] i).2.1 = I' i := fun i => by rw [← hI]
  simp only [hGG, hII] at G0' I0' Gy' Iy' Gn' In' Gl' Il' Gf' If'
  clear hGG hII hG hI t2 hE e9
  dsimp only [own1, own3, gA, gP, sP] at *
  generalize rI TN.1 = γf at *
  generalize rI TN.2.1 = ιf at *
  generalize rE TE.1 = δf at *
  generalize rI TE.2.1 = κf at *
  generalize rI ns = ρ at *
  generalize rE es = σ at *
  generalize rI sn = μ at *
  generalize rI se = ν at *
  generalize hrl : ns.length = N1 at *
  generalize hrel : es.length = N2 at *
  cbv
  refine loopU (hlp _ _ _ _ _) (fun s i => ((s.setI 15 i).setV 7 2 (I i)).setV 7 0 (G i)) (fun _ => True) N1 (by omega) trivial (by cbv)
    (by show St.setV (St.setV (St.setI _ 15 0) 7 2 (I 0)) 7 0 (G 0) = _; rw [G0, I0]; cbv) ?_
  intro i hi hp C' hret hex hnorm
  rcases Nat.lt_or_ge i N1 with hc | hc
  · obtain ⟨x, hx⟩ : ∃ x, ns[i]? = some x := ⟨_, List.getElem?_eq_getElem (by omega)⟩
    have f1 : lt (Int.ofNat i) (Int.ofNat (rlen ρ)) = true := by rw [hlt, l3, lt_true hc]
    have f2 : rat ρ i = some [vi x] := by rw [hb, hx]; rfl
    have f3 := e8' i hc
    have vx : v1 i = x := by rw [← hv1]; simp [List.getD_eq_getElem?_getD, hx]
    have g1 := Gy i
    have g2 := Iy i
    have g3 := Gn i
    have g4 := In i
    generalize c1 i = b1 at f3 g1 g2 g3 g4
    have r2 : room (rlen (rcat (G i) [[vi x]])) 8 = true := hroom _ _ (by rw [hln, hcat, List.length_append]; have := Gl i; simp; omega)
    have r3 : room (rlen (rcat (I i) [[vi (Int.ofNat i)]])) 8 = true := hroom _ _ (by rw [hln, hcat, List.length_append]; have := Il i; simp; omega)
    cbv
    rw [f1]
    cbv
    rw [f2]
    cbv
    rw [f3]
    cbv
    cases b1 with
    | false =>
      cbv
      refine hnorm _ hc trivial ?_
      rw [g3 rfl, g4 rfl]
      cbv
      rw [hadd, wrap_succ (by omega)]
    | true =>
      cbv
      rw [r3]
      cbv
      rw [r2]
      cbv
      refine hnorm _ hc trivial ?_
      rw [g1 rfl, g2 rfl, vx]
      cbv
      rw [hadd, wrap_succ (by omega)]
  · have f1 : lt (Int.ofNat i) (Int.ofNat (rlen ρ)) = false := by rw [hlt, l3, lt_false hc]
    have hi1 : i = N1 := by omega
    subst hi1
    rw [Gf, If]
    cbv
    rw [f1]
    cbv
    rw [hex]
    cbv
    clear hret hex hnorm f1 hp hc
    refine loopU (hlp _ _ _ _ _) (fun s j => ((s.setI 41 j).setV 7 3 (I' j)).setV 7 1 (G' j)) (fun _ => True) N2 (by omega) trivial (by cbv)
      (by show St.setV (St.setV (St.setI _ 41 0) 7 3 (I' 0)) 7 1 (G' 0) = _; rw [G0', I0']; cbv) ?_
    intro j hj hp C' hret hex hnorm
    rcases Nat.lt_or_ge j N2 with hc | hc
    · obtain ⟨e, hx⟩ : ∃ e, es[j]? = some e := ⟨_, List.getElem?_eq_getElem (by omega)⟩
      obtain ⟨ty, ea, eb⟩ := e
      have f1 : lt (Int.ofNat j) (Int.ofNat (rlen σ)) = true := by rw [hlt, l4, lt_true hc]
      have f2 : rat σ j = some [vi ty, vi ea, vi eb] := by rw [hd, hx]; rfl
      have f3 := e9' j hc
      have f6 := e11 ea
      have f7 := e11 eb
      have vx : v2 j = (ty, ixf (fun y => ea == y) TN.2.1 0, ixf (fun y => eb == y) TN.2.1 0) := by rw [← hv2]; unfold trV; simp [List.getD_eq_getElem?_getD, hx]
      generalize ixf (fun y => ea == y) TN.2.1 0 = i1 at f6 vx
      generalize ixf (fun y => eb == y) TN.2.1 0 = i2 at f7 vx
      have g1 := Gy' j
      have g2 := Iy' j
      have g3 := Gn' j
      have g4 := In' j
      generalize c2 j = b1 at f3 g1 g2 g3 g4
      have r2 : room (rlen (rcat (G' j) [[vi ty, vi i1, vi i2]])) 24 = true := hroom _ _ (by rw [hln, hcat, List.length_append]; have := Gl' j; simp; omega)
      have r3 : room (rlen (rcat (I' j) [[vi (Int.ofNat j)]])) 8 = true := hroom _ _ (by rw [hln, hcat, List.length_append]; have := Il' j; simp; omega)
      cbv
      rw [f1]
      cbv
      rw [f2]
      cbv
      rw [f3]
      cbv
      cases b1 with
      | false =>
        cbv
        refine hnorm _ hc trivial ?_
        rw [g3 rfl, g4 rfl]
        cbv
        rw [hadd, wrap_succ (by omega)]
      | true =>
        cbv
        rw [r3]
        cbv
        rw [f6]
        cbv
        rw [f7]
        cbv
        rw [r2]
        cbv
        refine hnorm _ hc trivial ?_
        rw [g1 rfl, g2 rfl, vx]
        cbv
        rw [hadd, wrap_succ (by omega)]
    · have f1 : lt (Int.ofNat j) (Int.ofNat (rlen σ)) = false := by rw [hlt, l4, lt_false hc]
      have hj1 : j = N2 := by omega
      subst hj1
      rw [Gf', If']
      cbv
      rw [f1]
      cbv
      rw [hex]
      cbv
end Am

