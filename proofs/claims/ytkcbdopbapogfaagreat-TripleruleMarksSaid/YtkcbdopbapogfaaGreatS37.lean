/-
  What functions of the given program answer, as values, shown by that evaluator: each theorem bears its own conditions.
  By an AI agent. No person has read it.
-/
import Derived.Test.YtkcbdopbapogfaaGreatS36
set_option linter.all false
set_option maxRecDepth 100000
noncomputable section
namespace Am
open Go Go.Proofs

theorem tr_snd {α β : Type} {c c' : Nat → Bool} {v : Nat → α} {v' : Nat → β} {g0 : List α} {g0' : List β} {j0 : List Int} : ∀ n, (∀ i, i < n → c i = c' i) → (tr c v g0 j0 n).2.1 = (tr c' v' g0' j0 n).2.1
  | 0, _ => rfl
  | n + 1, h => by
    have ih := tr_snd (v := v) (v' := v') (g0 := g0) (g0' := g0') (j0 := j0) n (fun i hi => h i (by omega))
    have hn := h n (by omega)
    cases hc : c n with
    | true => rw [tr_yes hc, tr_yes (hn ▸ hc)]; simp [ih]
    | false => rw [tr_no hc, tr_no (hn ▸ hc), ih]

theorem marks_n {ln : List Int} {le' : List (Int × Int × Int)} {rn : List Int} {re : List (Int × Int × Int)} (h : ROk ln le' rn re) :
    (lack (ixs (chN sN 1 ln).2.1 (chN sN 1 rn).2.1) (chN sN 1 rn).1.length).length = (trN [1] sN ln rn).2.2.length := by
  obtain ⟨A, B, Cc, D, hA, hB, hC, hD⟩ := ch_pre so1 h
  have n1 := chN_nodup 1 rn
  have l1 := chN_eq_len 1 rn
  have hlen : (chN sN 1 rn).2.1.length = (chN sN 1 ln).2.1.length + (trN [1] sN ln rn).2.2.length := by
    have := tr_count (c := fun i => sN.getD (rn.getD i 0).toNat 0 == 1) (d := chosen ln.length [1] sN (fun i => rn.getD i 0)) (v := fun i => rn.getD i 0) (v' := fun i => rn.getD i 0) (g0 := ln) (j0 := upto ln.length) (n0 := ln.length)
      (fun i hi => by
        cases hc : chosen ln.length [1] sN (fun i => rn.getD i 0) i with
        | false => rfl
        | true => have := chosen_old hc; omega)
      (fun i hi => by rw [chosen_iff hi, any1]) rn.length (pre_len h.pn)
    rw [show (tr (fun i => sN.getD (rn.getD i 0).toNat 0 == 1) (fun i => rn.getD i 0) [] [] ln.length).2.1 = (chN sN 1 ln).2.1 from
      tr_snd _ (fun i hi => by simp only [pre_getD (d := (0 : Int)) h.pn hi])] at this
    exact this
  rw [l1, hB]
  rw [hB] at n1 hlen
  rw [ixs_pre n1, lack_upto]
  omega

theorem marks_e {ln : List Int} {le' : List (Int × Int × Int)} {rn : List Int} {re : List (Int × Int × Int)} (h : ROk ln le' rn re) (J : List Int) :
    (lack (ixs (chE sE 1 (chN sN 1 ln).2.1 le').2.1 (chE sE 1 (chN sN 1 rn).2.1 re).2.1) (chE sE 1 (chN sN 1 rn).2.1 re).1.length).length = (trE [1] sE J le' re).2.2.length := by
  obtain ⟨A, B, Cc, D, hA, hB, hC, hD⟩ := ch_pre so1 h
  have n1 := chE_nodup 1 (chN sN 1 rn).2.1 re
  have l1 := chE_eq_len 1 (chN sN 1 rn).2.1 re
  have hlen : (chE sE 1 (chN sN 1 rn).2.1 re).2.1.length = (chE sE 1 (chN sN 1 ln).2.1 le').2.1.length + (trE [1] sE J le' re).2.2.length := by
    have := tr_count (c := fun i => sE.getD (re.getD i (0, 0, 0)).1.toNat 0 == 1) (d := chosen le'.length [1] sE (fun i => (re.getD i (0, 0, 0)).1)) (v := trV (chN sN 1 rn).2.1 re) (v' := trV J re) (g0 := le') (j0 := upto le'.length) (n0 := le'.length)
      (fun i hi => by
        cases hc : chosen le'.length [1] sE (fun i => (re.getD i (0, 0, 0)).1) i with
        | false => rfl
        | true => have := chosen_old hc; omega)
      (fun i hi => by rw [chosen_iff hi, any1]) re.length (pre_len h.pe)
    rw [show (tr (fun i => sE.getD (re.getD i (0, 0, 0)).1.toNat 0 == 1) (trV (chN sN 1 rn).2.1 re) [] [] le'.length).2.1 = (chE sE 1 (chN sN 1 ln).2.1 le').2.1 from
      tr_snd _ (fun i hi => by simp only [pre_getD (d := ((0, 0, 0) : Int × Int × Int)) h.pe hi])] at this
    exact this
  rw [l1, hD]
  rw [hD] at n1 hlen
  rw [ixs_pre n1, lack_upto]
  omega

theorem lack_in {l : List Int} {n : Nat} {x : Int} (h : x ∈ lack l n) : ∃ i : Nat, x = Int.ofNat i ∧ i < n ∧ Int.ofNat i ∉ l := by
  obtain ⟨i, rfl, hi⟩ := lack_bd l n x h
  refine ⟨i, rfl, hi, fun hm => ?_⟩
  unfold lack at h
  have := (List.mem_filter.1 h).2
  rw [List.any_eq_true.2 ⟨_, hm, beq_self_eq_true _⟩] at this
  cases this
theorem lack_tr {α : Type} {n0 : Nat} {so sv : List Int} {k : Nat → Int} {v : Nat → α} {g0 : List α} (hl : g0.length = n0) {n : Nat} {x : Int} (h : x ∈ lack (tr (chosen n0 so sv k) v g0 (upto n0) n).2.1 n) :
    ∃ i : Nat, x = Int.ofNat i ∧ i < n ∧ so.any (fun y => sv.getD (k i).toNat 0 == y) = false := by
  have N := tr_facts (chosen n0 so sv k) v g0 (upto n0) (by rw [upto_len, hl]) n
  obtain ⟨i, rfl, hi, hni⟩ := lack_in h
  refine ⟨i, rfl, hi, ?_⟩
  cases hs : so.any (fun y => sv.getD (k i).toNat 0 == y) with
  | false => rfl
  | true =>
    exfalso
    rcases Nat.lt_or_ge i n0 with h1 | h1
    · exact hni (N.j _ (mem_upto h1))
    · exact hni (N.all i hi (by rw [chosen_iff h1]; exact hs))

theorem sN_val : ∀ k, k < 5 → ∃ y, sN[k]? = some y ∧ sN.getD k 0 = y ∧ (y = 1 ∨ y = 2 ∨ y = 3) := by
  intro k hk
  match k, hk with
  | 0, _ => exact ⟨1, rfl, rfl, by decide⟩
  | 1, _ => exact ⟨1, rfl, rfl, by decide⟩
  | 2, _ => exact ⟨3, rfl, rfl, by decide⟩
  | 3, _ => exact ⟨3, rfl, rfl, by decide⟩
  | 4, _ => exact ⟨2, rfl, rfl, by decide⟩
  | k + 5, h => omega
theorem sE_val : ∀ k, k < 6 → ∃ y, sE[k]? = some y ∧ sE.getD k 0 = y ∧ (y = 1 ∨ y = 2 ∨ y = 3) := by
  intro k hk
  match k, hk with
  | 0, _ => exact ⟨1, rfl, rfl, by decide⟩
  | 1, _ => exact ⟨3, rfl, rfl, by decide⟩
  | 2, _ => exact ⟨2, rfl, rfl, by decide⟩
  | 3, _ => exact ⟨2, rfl, rfl, by decide⟩
  | 4, _ => exact ⟨2, rfl, rfl, by decide⟩
  | 5, _ => exact ⟨2, rfl, rfl, by decide⟩
  | k + 6, h => omega

theorem lack_n {so ln : List Int} {le' : List (Int × Int × Int)} {rn : List Int} {re : List (Int × Int × Int)} (h : ROk ln le' rn re) {x : Int} (hx : x ∈ lack (trN so sN ln rn).2.1 rn.length) :
    ∃ (i k : Nat) (y : Int), x = Int.ofNat i ∧ rn[i]? = some (Int.ofNat k) ∧ sN[k]? = some y ∧ so.any (fun z => y == z) = false ∧ (y = 1 ∨ y = 2 ∨ y = 3) := by
  obtain ⟨i, rfl, hi, hs⟩ := lack_tr rfl hx
  have hg := getD_at (d := (0 : Int)) hi
  have hb := h.hr.2 _ (List.mem_of_getElem? hg)
  try dsimp only at hs
  generalize rn.getD i 0 = a at *
  obtain ⟨k, rfl⟩ := toN hb.1
  obtain ⟨y, y1, y2, y3⟩ := sN_val k (by have := hb.2; rw [ofn] at this; omega)
  refine ⟨i, k, y, rfl, hg, y1, ?_, y3⟩
  rw [show (Int.ofNat k).toNat = k from rfl, y2] at hs
  exact hs
theorem lack_e {so J ln : List Int} {le' : List (Int × Int × Int)} {rn : List Int} {re : List (Int × Int × Int)} (h : ROk ln le' rn re) {x : Int} (hx : x ∈ lack (trE so sE J le' re).2.1 re.length) :
    ∃ (i k : Nat) (a b y : Int), x = Int.ofNat i ∧ re[i]? = some (Int.ofNat k, a, b) ∧ sE[k]? = some y ∧ so.any (fun z => y == z) = false ∧ (y = 1 ∨ y = 2 ∨ y = 3) := by
  obtain ⟨i, rfl, hi, hs⟩ := lack_tr rfl hx
  have hg := getD_at (d := ((0, 0, 0) : Int × Int × Int)) hi
  have hb := h.hre.2 _ (List.mem_of_getElem? hg)
  try dsimp only at hs
  generalize re.getD i (0, 0, 0) = e at *
  obtain ⟨t, a, b⟩ := e
  simp only at hb hs
  obtain ⟨k, rfl⟩ := toN hb.1
  obtain ⟨y, y1, y2, y3⟩ := sE_val k (by have := hb.2.1; rw [ofn] at this; omega)
  refine ⟨i, k, a, b, y, rfl, hg, y1, ?_, y3⟩
  rw [show (Int.ofNat k).toNat = k from rfl, y2] at hs
  exact hs
theorem mark_n {ln : List Int} {le' : List (Int × Int × Int)} {rn : List Int} {re : List (Int × Int × Int)} (h : ROk ln le' rn re) {x : Int} (hx : x ∈ (trN [1] sN ln rn).2.2) :
    ∃ (i k : Nat), x = Int.ofNat i ∧ (trN [1] sN ln rn).1[i]? = some (Int.ofNat k) ∧ sN[k]? = some 1 := by
  have N := tr_facts (chosen ln.length [1] sN (fun i => rn.getD i 0)) (fun i => rn.getD i 0) ln (upto ln.length) (by rw [upto_len]) rn.length
  obtain ⟨i, rfl, hi, hi2⟩ := N.mks x hx
  have hg := List.getElem?_eq_getElem hi2
  obtain ⟨j, q1, q2, q3, q4⟩ := N.new i hi _ hg
  rw [chosen_iff (chosen_old q2), any1] at q2
  have hb := h.hr.2 _ (getD_mem (d := (0 : Int)) q1)
  rw [q4] at hg
  try dsimp only at hg q2
  generalize rn.getD j 0 = a at *
  obtain ⟨k, rfl⟩ := toN hb.1
  obtain ⟨y, y1, y2, y3⟩ := sN_val k (by have := hb.2; rw [ofn] at this; omega)
  refine ⟨i, k, rfl, hg, ?_⟩
  rw [show (Int.ofNat k).toNat = k from rfl, y2] at q2
  rw [y1, eq_of_beq q2]

/-! the closures of the law, at these lists -/
theorem s29f (l : List Int) (W K : Nat) (c0 c1 : List C) (hl : l.length < 1000000) (hf : ∀ x ∈ l, O Ez NR 31 [.one (vi x), .one (.ptr [.clo W []]), .one (.ptr [.clo K [.ptr c0, .ptr c1]])] = some (rb false, [])) :
    O Ez NR 29 [.one (.sl false 1 (rI l)), .one (.clo K [.ptr c0, .ptr c1]), .one (.clo W [])] = some (rb true, []) := by
  rw [s29 l W K c0 c1 (fun _ => false) hl hf]
  simp

theorem m1 {ln : List Int} {le' : List (Int × Int × Int)} {rn : List Int} {re : List (Int × Int × Int)} (h : ROk ln le' rn re) {se : List Int} {bl br : List (Int × Int × Int)} {rn' kn ke im ie : List Int} :
    O Ez NR 29 [.one (.sl false 1 (rI (trN [1] sN ln rn).2.2)), .one (.clo 32 [.ptr (sP sN se), .ptr (rC (trN [1] sN ln rn).1 bl rn' br kn ke im ie)]), .one (.clo 35 [])] = some (rb true, []) := by
  have hl := (trN_len [1] sN ln rn).2.2
  have := h.hr.1
  refine s29f _ _ _ _ _ (by omega) fun x hx => ?_
  obtain ⟨i, k, rfl, h1, h2⟩ := mark_n h hx
  exact s31_32_35 _ _ _ 1 _ (s32 h1 h2) (s35 1)
theorem m2 {ln : List Int} {le' : List (Int × Int × Int)} {rn : List Int} {re : List (Int × Int × Int)} (h : ROk ln le' rn re) {se : List Int} {ln' : List Int} {bl br : List (Int × Int × Int)} {kn ke im ie : List Int} :
    O Ez NR 29 [.one (.sl false 1 (rI (lack (trN [1] sN ln rn).2.1 rn.length))), .one (.clo 33 [.ptr (sP sN se), .ptr (rC ln' bl rn br kn ke im ie)]), .one (.clo 36 [])] = some (rb true, []) := by
  have hl := lack_len (trN [1] sN ln rn).2.1 rn.length
  have := h.hr.1
  refine s29f _ _ _ _ _ (by omega) fun x hx => ?_
  obtain ⟨i, k, y, rfl, h1, h2, h3, h4⟩ := lack_n h hx
  have e : (y == 1) = false := by rw [any1] at h3; exact h3
  have q := s31_33_36 (Int.ofNat i) _ _ y _ (s33 (se := se) (ln := ln') (le' := bl) (re := br) (kn := kn) (ke := ke) (im := im) (ie := ie) h1 h2) (s36 y)
  rw [e] at q
  exact q
theorem m3 {ln : List Int} {le' : List (Int × Int × Int)} {rn : List Int} {re : List (Int × Int × Int)} (h : ROk ln le' rn re) (J : List Int) {sn : List Int} {ln' rn' : List Int} {bl : List (Int × Int × Int)} {kn ke im ie : List Int} :
    O Ez NR 29 [.one (.sl false 1 (rI (lack (trE [1] sE J le' re).2.1 re.length))), .one (.clo 34 [.ptr (sP sn sE), .ptr (rC ln' bl rn' re kn ke im ie)]), .one (.clo 37 [])] = some (rb true, []) := by
  have hl := lack_len (trE [1] sE J le' re).2.1 re.length
  have := h.hre.1
  refine s29f _ _ _ _ _ (by omega) fun x hx => ?_
  obtain ⟨i, k, a, b, y, rfl, h1, h2, h3, h4⟩ := lack_e h hx
  have e : (y == 1) = false := by rw [any1] at h3; exact h3
  have q := s31_34_37 (Int.ofNat i) _ _ y _ (s34 (sn := sn) (ln := ln') (le' := bl) (rn := rn') (kn := kn) (ke := ke) (im := im) (ie := ie) h1 h2) (s37 y)
  rw [e] at q
  exact q
theorem only2 {y : Int} (h3 : [1, 3].any (fun z => y == z) = false) (h4 : y = 1 ∨ y = 2 ∨ y = 3) : y = 2 := by
  rcases h4 with rfl | rfl | rfl
  · cases h3
  · rfl
  · cases h3
theorem m4 {ln : List Int} {le' : List (Int × Int × Int)} {rn : List Int} {re : List (Int × Int × Int)} (h : ROk ln le' rn re) {se : List Int} {ln' : List Int} {bl br : List (Int × Int × Int)} {kn ke im ie : List Int} :
    O Ez NR 29 [.one (.sl false 1 (rI (lack (trN [1, 3] sN ln rn).2.1 rn.length))), .one (.clo 33 [.ptr (sP sN se), .ptr (rC ln' bl rn br kn ke im ie)]), .one (.clo 38 [])] = some (rb true, []) := by
  have hl := lack_len (trN [1, 3] sN ln rn).2.1 rn.length
  have := h.hr.1
  refine s29f _ _ _ _ _ (by omega) fun x hx => ?_
  obtain ⟨i, k, y, rfl, h1, h2, h3, h4⟩ := lack_n h hx
  obtain rfl := only2 h3 h4
  exact s31_33_38 (Int.ofNat i) _ _ 2 _ (s33 (se := se) (ln := ln') (le' := bl) (re := br) (kn := kn) (ke := ke) (im := im) (ie := ie) h1 h2) (s38 2)
theorem m5 {ln : List Int} {le' : List (Int × Int × Int)} {rn : List Int} {re : List (Int × Int × Int)} (h : ROk ln le' rn re) (J : List Int) {sn : List Int} {ln' rn' : List Int} {bl : List (Int × Int × Int)} {kn ke im ie : List Int} :
    O Ez NR 29 [.one (.sl false 1 (rI (lack (trE [1, 3] sE J le' re).2.1 re.length))), .one (.clo 34 [.ptr (sP sn sE), .ptr (rC ln' bl rn' re kn ke im ie)]), .one (.clo 39 [])] = some (rb true, []) := by
  have hl := lack_len (trE [1, 3] sE J le' re).2.1 re.length
  have := h.hre.1
  refine s29f _ _ _ _ _ (by omega) fun x hx => ?_
  obtain ⟨i, k, a, b, y, rfl, h1, h2, h3, h4⟩ := lack_e h hx
  obtain rfl := only2 h3 h4
  exact s31_34_39 (Int.ofNat i) _ _ 2 _ (s34 (sn := sn) (ln := ln') (le' := bl) (rn := rn') (kn := kn) (ke := ke) (im := im) (ie := ie) h1 h2) (s39 2)
end Am

