/-
  What functions of the given program answer, as values, shown by that evaluator: each theorem bears its own conditions.
  By an AI agent. No person has read it.
-/
import Derived.Test.YtkcbdopbapogfaaGreatS17
set_option linter.all false
set_option maxRecDepth 100000
noncomputable section
namespace Am
open Go Go.Proofs

theorem tr_mem {α : Type} {c : Nat → Bool} {v : Nat → α} {g0 : List α} : ∀ (n : Nat) (x : Int), x ∈ (tr c v g0 [] n).2.1 → ∃ k : Nat, x = Int.ofNat k ∧ k < n
  | 0, x, h => by simp [tr] at h
  | n + 1, x, h => by
    cases hc : c n with
    | true =>
      rw [tr_yes hc] at h
      simp only [List.mem_append, List.mem_singleton] at h
      rcases h with h | rfl
      · obtain ⟨k, rfl, hk⟩ := tr_mem n x h; exact ⟨k, rfl, by omega⟩
      · exact ⟨n, rfl, by omega⟩
    | false =>
      rw [tr_no hc] at h
      obtain ⟨k, rfl, hk⟩ := tr_mem n x h; exact ⟨k, rfl, by omega⟩

theorem s86 {sn se ns : List Int} {es : List (Int × Int × Int)} {q : Int} (hsn : sn.length = 5) (hse : se.length = 6) (hn : nOk ns) (he : eOk ns.length es) :
    O Ez NR 86 [gA ns es, .one (.ptr (sP sn se)), .one (.ptr [vi q])] =
      some (.agg [own1 (chN sn q ns).1, own3 (chE se q (chN sn q ns).2.1 es).1, own1 (chN sn q ns).2.1, own1 (chE se q (chN sn q ns).2.1 es).2.1], []) := by
  refine spec_of 1 F86 ?_
  intro rat rlen hat hln rcat hcat rcut hcut lp hlp o wrap lt le eq eqs nle tdiv tmod add sub mul room ho hw hlt hle heq heqs hnle hdiv hmod hadd hsub hmul hroom
  have e1 := ho _ _ _ (s87 (q := q) hsn hse hn he)
  generalize chN sn q ns = TN at *
  generalize chE se q TN.2.1 es = TE at *
  dsimp only [own1, own3, gA, gP, sP] at *
  generalize rI TN.1 = γf at *
  generalize rI TN.2.1 = ιf at *
  generalize rE TE.1 = δf at *
  generalize rI TE.2.1 = κf at *
  generalize rI ns = ρ at *
  generalize rE es = σ at *
  generalize rI sn = μ at *
  generalize rI se = ν at *
  cbv
  rw [e1]
  cbv

/-- where the numbers of a list stand in another one -/
def ixs (l J : List Int) : List Int := l.map fun x => ixf (fun y => x == y) J 0
theorem ixs_at {l J : List Int} {i : Nat} {x : Int} (h : l[i]? = some x) : (ixs l J).take (i + 1) = (ixs l J).take i ++ [ixf (fun y => x == y) J 0] := take_succ_some (by unfold ixs; rw [List.getElem?_map, h]; rfl)
theorem ixs_len (l J : List Int) : (ixs l J).length = l.length := by simp [ixs]

theorem s49 {q : Int} {sn se : List Int} (hsn : sn.length = 5) (hse : se.length = 6) (hs : O Ez NR 51 [tA, sA sn se] = some (ri 0, [])) {ln : List Int} {le' : List (Int × Int × Int)} {rn : List Int} {re : List (Int × Int × Int)} (h : ROk ln le' rn re) :
    O Ez NR 49 [tA, sA sn se, .agg (rD ln le' rn re), .one (vi q)] =
      some (.tup [.agg (rR (chN sn q ln).1 (chE se q (chN sn q ln).2.1 le').1 (chN sn q rn).1 (chE se q (chN sn q rn).2.1 re).1
        (ixs (chN sn q ln).2.1 (chN sn q rn).2.1) (ixs (chE se q (chN sn q ln).2.1 le').2.1 (chE se q (chN sn q rn).2.1 re).2.1)), ri 0], []) := by
  have m1 := h.hr.1
  have m2 := h.hl.1
  have m3 := h.hle.1
  have m4 := h.hre.1
  obtain ⟨n, hfn⟩ : ∃ n : Nat, 200 < n := ⟨201, by omega⟩
  have a1 : (chN sn q ln).2.1.length ≤ ln.length := by have := (tr_len (fun i => sn.getD (ln.getD i 0).toNat 0 == q) (fun i => ln.getD i 0) [] [] ln.length).2.1; simpa [chN] using this
  have a2 : (chE se q (chN sn q ln).2.1 le').2.1.length ≤ le'.length := by have := (tr_len (fun i => se.getD (le'.getD i (0, 0, 0)).1.toNat 0 == q) (trV (chN sn q ln).2.1 le') [] [] le'.length).2.1; simpa [chE] using this
  have a3 : (chN sn q rn).2.1.length ≤ rn.length := by have := (tr_len (fun i => sn.getD (rn.getD i 0).toNat 0 == q) (fun i => rn.getD i 0) [] [] rn.length).2.1; simpa [chN] using this
  have a4 : (chE se q (chN sn q rn).2.1 re).2.1.length ≤ re.length := by have := (tr_len (fun i => se.getD (re.getD i (0, 0, 0)).1.toNat 0 == q) (trV (chN sn q rn).2.1 re) [] [] re.length).2.1; simpa [chE] using this
  have a5 : (chN sn q ln).1.length ≤ ln.length := by have := (tr_len (fun i => sn.getD (ln.getD i 0).toNat 0 == q) (fun i => ln.getD i 0) [] [] ln.length).1; simpa [chN] using this
  have a6 : (chE se q (chN sn q ln).2.1 le').1.length ≤ le'.length := by have := (tr_len (fun i => se.getD (le'.getD i (0, 0, 0)).1.toNat 0 == q) (trV (chN sn q ln).2.1 le') [] [] le'.length).1; simpa [chE] using this
  have b1 : ∀ x ∈ (chN sn q ln).2.1, ∃ k : Nat, x = Int.ofNat k ∧ k < ln.length := fun x hx => tr_mem _ _ hx
  have b2 : ∀ x ∈ (chE se q (chN sn q ln).2.1 le').2.1, ∃ k : Nat, x = Int.ofNat k ∧ k < le'.length := fun x hx => tr_mem _ _ hx
  refine spec_of n F49 ?_
  intro rat rlen hat hln rcat hcat rcut hcut lp hlp o wrap lt le eq eqs nle tdiv tmod add sub mul room ho hw hlt hle heq heqs hnle hdiv hmod hadd hsub hmul hroom
  have e1 := ho _ _ _ (s15 hs h)
  have e2 := ho _ _ _ (s86 (q := q) hsn hse h.hl h.hle)
  have e3 := ho _ _ _ (s86 (q := q) hsn hse h.hr h.hre)
  generalize chN sn q ln = LN at *
  generalize chE se q LN.2.1 le' = LE at *
  generalize chN sn q rn = RN at *
  generalize chE se q RN.2.1 re = RE at *
  have e4 := fun v => ho _ _ _ (s90 RN.2.1 v (by omega))
  have e5 := fun v => ho _ _ _ (s90 RE.2.1 v (by omega))
  have e6 := ho _ _ _ (s91 (ln := ln) (le' := le') (rn := rn) (re := re) (kn := upto ln.length) (ke := upto le'.length) (ii := upto ln.length) (ij := upto le'.length) (gn := LN.1) (ge := LE.1) (hn := RN.1) (he := RE.1) (im := ixs LN.2.1 RN.2.1) (ie := ixs LE.2.1 RE.2.1) (by omega) (by omega))
  have q0 : eq 0 0 = true := by rw [heq]; rfl
  have l3 : rlen (rI LN.2.1) = LN.2.1.length := by rw [hln, rI_len]
  have l4 : rlen (rI LE.2.1) = LE.2.1.length := by rw [hln, rI_len]
  have hb := fun i => (hat (rI LN.2.1) i).trans (rI_at LN.2.1 i)
  have hd := fun i => (hat (rI LE.2.1) i).trans (rI_at LE.2.1 i)
  have hrN := fun i (h : i < ln.length) => (by rw [hat, rI_at, upto_at _ i h]; rfl : rat (rI (upto ln.length)) i = some [vi (Int.ofNat i)])
  have hrE := fun i (h : i < le'.length) => (by rw [hat, rI_at, upto_at _ i h]; rfl : rat (rI (upto le'.length)) i = some [vi (Int.ofNat i)])
  have F0 : rI ((ixs LN.2.1 RN.2.1).take 0) = [] := rfl
  have F1 := fun i x (hx : LN.2.1[i]? = some x) => (by rw [ixs_at hx, rI_app, hcat]; rfl : rI ((ixs LN.2.1 RN.2.1).take (i + 1)) = rcat (rI ((ixs LN.2.1 RN.2.1).take i)) [[vi (ixf (fun y => x == y) RN.2.1 0)]])
  have Fm : rI ((ixs LN.2.1 RN.2.1).take LN.2.1.length) = rI (ixs LN.2.1 RN.2.1) := by rw [List.take_of_length_le (by rw [ixs_len]; omega)]
  have Fl := fun i => (by rw [rI_len, List.length_take]; omega : (rI ((ixs LN.2.1 RN.2.1).take i)).length ≤ i)
  have F0' : rI ((ixs LE.2.1 RE.2.1).take 0) = [] := rfl
  have F1' := fun i x (hx : LE.2.1[i]? = some x) => (by rw [ixs_at hx, rI_app, hcat]; rfl : rI ((ixs LE.2.1 RE.2.1).take (i + 1)) = rcat (rI ((ixs LE.2.1 RE.2.1).take i)) [[vi (ixf (fun y => x == y) RE.2.1 0)]])
  have Fm' : rI ((ixs LE.2.1 RE.2.1).take LE.2.1.length) = rI (ixs LE.2.1 RE.2.1) := by rw [List.take_of_length_le (by rw [ixs_len]; omega)]
  have Fl' := fun i => (by rw [rI_len, List.length_take]; omega : (rI ((ixs LE.2.1 RE.2.1).take i)).length ≤ i)
  generalize hF : (fun i => rI ((ixs LN.2.1 RN.2.1).take i)) = F
  have hFF : ∀ i, rI ((ixs LN.2.1 RN.2.1).take i) = F i := fun i => by rw [← hF]
  generalize hG : (fun i => rI ((ixs LE.2.1 RE.2.1).take i)) = G
  have hGG : ∀ i, rI ((ixs LE.2.1 RE.2.1).take i) = G i := fun i => by rw [← hG]
  simp only [hFF, hGG] at F0 F1 Fm Fl F0' F1' Fm' Fl'
  clear hFF hF hGG hG
  dsimp only [tA, sA, rD, rC, own1, own3, rR, dI, dE, gA, gP, sP, mA] at *
  generalize rI (upto LN.1.length) = w1 at *
  generalize rI (upto LE.1.length) = w2 at *
  generalize rI (ixs LN.2.1 RN.2.1) = ff at *
  generalize rI (ixs LE.2.1 RE.2.1) = fg at *
  generalize rI LN.1 = ln1 at *
  generalize rI LN.2.1 = ln2 at *
  generalize rE LE.1 = le1 at *
  generalize rI LE.2.1 = le2 at *
  generalize rI RN.1 = rn1 at *
  generalize rI RN.2.1 = rn2 at *
  generalize rE RE.1 = re1 at *
  generalize rI RE.2.1 = re2 at *
  generalize rI (upto ln.length) = α at *
  generalize rI (upto le'.length) = β at *
  generalize rI ln = ρ at *
  generalize rE le' = σ at *
  generalize rI rn = ρ' at *
  generalize rE re = σ' at *
  generalize rI sn = μ at *
  generalize rI se = ν at *
  generalize tN = τ at *
  generalize tE = υ at *
  generalize hrl : LN.2.1.length = N1 at *
  generalize hrel : LE.2.1.length = N2 at *
  cbv
  rw [e1]
  cbv
  rw [q0]
  cbv
  rw [e2]
  cbv
  rw [e3]
  cbv
  refine loopU (hlp _ _ _ _ _) (fun s i => (s.setI 41 i).setV 14 0 (F i)) (fun _ => True) N1 (by omega) trivial (by cbv)
    (by show St.setV (St.setI _ 41 0) 14 0 (F 0) = _; rw [F0]; cbv) ?_
  intro i hi hp C' hret hex hnorm
  rcases Nat.lt_or_ge i N1 with hc | hc
  · obtain ⟨x, hx⟩ : ∃ x, LN.2.1[i]? = some x := ⟨_, List.getElem?_eq_getElem (by omega)⟩
    obtain ⟨k, rfl, hk⟩ := b1 x (List.mem_of_getElem? hx)
    have f1 : lt (Int.ofNat i) (Int.ofNat (rlen ln2)) = true := by rw [hlt, l3, lt_true hc]
    have f2 : rat ln2 i = some [vi (Int.ofNat k)] := by rw [hb, hx]; rfl
    have f3 := hrN k hk
    have f4 := e4 (Int.ofNat k)
    have f5 := F1 i _ hx
    generalize ixf (fun y => Int.ofNat k == y) RN.2.1 0 = w at f4 f5
    have r1 : room (rlen (rcat (F i) [[vi w]])) 8 = true := hroom _ _ (by rw [hln, hcat, List.length_append]; have := Fl i; simp; omega)
    cbv
    rw [f1]
    cbv
    rw [f2]
    cbv
    rw [f2]
    cbv
    rw [f3]
    cbv
    rw [f4]
    cbv
    rw [r1]
    cbv
    refine hnorm _ hc trivial ?_
    rw [f5]
    cbv
    rw [hadd, wrap_succ (by omega)]
  · have f1 : lt (Int.ofNat i) (Int.ofNat (rlen ln2)) = false := by rw [hlt, l3, lt_false hc]
    have hi1 : i = N1 := by omega
    subst hi1
    rw [Fm]
    cbv
    rw [f1]
    cbv
    rw [hex]
    cbv
    clear hret hex hnorm f1 hp hc
    refine loopU (hlp _ _ _ _ _) (fun s j => (s.setI 63 j).setV 14 1 (G j)) (fun _ => True) N2 (by omega) trivial (by cbv)
      (by show St.setV (St.setI _ 63 0) 14 1 (G 0) = _; rw [F0']; cbv) ?_
    intro j hj hp C' hret hex hnorm
    rcases Nat.lt_or_ge j N2 with hc | hc
    · obtain ⟨x, hx⟩ : ∃ x, LE.2.1[j]? = some x := ⟨_, List.getElem?_eq_getElem (by omega)⟩
      obtain ⟨k, rfl, hk⟩ := b2 x (List.mem_of_getElem? hx)
      have f1 : lt (Int.ofNat j) (Int.ofNat (rlen le2)) = true := by rw [hlt, l4, lt_true hc]
      have f2 : rat le2 j = some [vi (Int.ofNat k)] := by rw [hd, hx]; rfl
      have f3 := hrE k hk
      have f4 := e5 (Int.ofNat k)
      have f5 := F1' j _ hx
      generalize ixf (fun y => Int.ofNat k == y) RE.2.1 0 = w at f4 f5
      have r1 : room (rlen (rcat (G j) [[vi w]])) 8 = true := hroom _ _ (by rw [hln, hcat, List.length_append]; have := Fl' j; simp; omega)
      cbv
      rw [f1]
      cbv
      rw [f2]
      cbv
      rw [f2]
      cbv
      rw [f3]
      cbv
      rw [f4]
      cbv
      rw [r1]
      cbv
      refine hnorm _ hc trivial ?_
      rw [f5]
      cbv
      rw [hadd, wrap_succ (by omega)]
    · have f1 : lt (Int.ofNat j) (Int.ofNat (rlen le2)) = false := by rw [hlt, l4, lt_false hc]
      have hj1 : j = N2 := by omega
      subst hj1
      rw [Fm']
      cbv
      rw [f1]
      cbv
      rw [hex]
      cbv
      rw [e6]
      cbv
end Am

