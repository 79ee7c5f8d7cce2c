/-
  What functions of the given program answer, as values, shown by that evaluator: each theorem bears its own conditions.
  By an AI agent. No person has read it.
-/
import Derived.Test.YtkcbdopbapogfaaGreatS30
set_option linter.all false
set_option maxRecDepth 100000
noncomputable section
namespace Am
open Go Go.Proofs

/-- what 'tr' keeps of its elements and their numbers -/
structure TrF {α : Type} (c : Nat → Bool) (v : Nat → α) (g0 : List α) (j0 : List Int) (n : Nat) (r : List α × List Int × List Int) : Prop where
  len : r.1.length = r.2.1.length
  ge : g0.length ≤ r.1.length
  old : ∀ i, i < g0.length → r.1[i]? = g0[i]? ∧ r.2.1[i]? = j0[i]?
  new : ∀ i, g0.length ≤ i → ∀ a, r.1[i]? = some a → ∃ k, k < n ∧ c k = true ∧ r.2.1[i]? = some (Int.ofNat k) ∧ a = v k
  all : ∀ k, k < n → c k = true → Int.ofNat k ∈ r.2.1
  j : ∀ x ∈ j0, x ∈ r.2.1
  no : ∀ x ∈ r.2.1, x ∈ j0 ∨ ∃ k, k < n ∧ c k = true ∧ x = Int.ofNat k
  nd : j0.Nodup → (∀ k, c k = true → Int.ofNat k ∉ j0) → r.2.1.Nodup
  mks : ∀ x ∈ r.2.2, ∃ i, x = Int.ofNat i ∧ g0.length ≤ i ∧ i < r.1.length
  ml : r.2.2.length + g0.length = r.1.length

theorem tr_facts {α : Type} (c : Nat → Bool) (v : Nat → α) (g0 : List α) (j0 : List Int) (hl : g0.length = j0.length) : ∀ n, TrF c v g0 j0 n (tr c v g0 j0 n)
  | 0 => ⟨hl, Nat.le_refl _, fun i _ => ⟨rfl, rfl⟩, fun i hi a ha => (by rw [show (tr c v g0 j0 0).1 = g0 from rfl, List.getElem?_eq_none hi] at ha; cases ha), fun k hk => absurd hk (Nat.not_lt_zero _),
      fun x hx => hx, fun x hx => Or.inl hx, fun h _ => h, fun x hx => (by cases hx), by simp [tr]⟩
  | n + 1 => by
    have T := tr_facts c v g0 j0 hl n
    obtain ⟨f1, f2, f3, f4, f5, f6, f7, f8, f9, f10⟩ := T
    cases h : c n with
    | false =>
      have e := tr_no (v := v) (g0 := g0) (j0 := j0) h
      refine ⟨by rw [e]; exact f1, by rw [e]; exact f2, by rw [e]; exact f3, ?_, ?_, by rw [e]; exact f6, ?_, by rw [e]; exact f8, by rw [e]; exact f9, by rw [e]; exact f10⟩
      · rw [e]
        intro i hi a ha
        obtain ⟨k, q1, q2⟩ := f4 i hi a ha
        exact ⟨k, by omega, q2⟩
      · rw [e]
        intro k hk hc
        rcases Nat.lt_or_ge k n with h1 | h1
        · exact f5 k h1 hc
        · rw [show k = n by omega, h] at hc; cases hc
      · rw [e]
        intro x hx
        rcases f7 x hx with h1 | ⟨k, q1, q2⟩
        · exact Or.inl h1
        · exact Or.inr ⟨k, by omega, q2⟩
    | true =>
      have e := tr_yes (v := v) (g0 := g0) (j0 := j0) h
      generalize tr c v g0 j0 n = r at *
      obtain ⟨g, J, M⟩ := r
      simp only at f1 f2 f3 f4 f5 f6 f7 f8 f9 f10 e
      refine ⟨by rw [e]; simp [f1], by rw [e]; simp; omega, ?_, ?_, ?_, ?_, ?_, ?_, ?_, by rw [e]; simp; omega⟩
      · rw [e]
        intro i hi
        simp only
        rw [List.getElem?_append_left (by omega), List.getElem?_append_left (by omega)]
        exact f3 i hi
      · rw [e]
        intro i hi a ha
        simp only at ha ⊢
        rcases Nat.lt_or_ge i g.length with h1 | h1
        · rw [List.getElem?_append_left h1] at ha
          obtain ⟨k, q1, q2, q3, q4⟩ := f4 i hi a ha
          exact ⟨k, by omega, q2, by rw [List.getElem?_append_left (by omega)]; exact q3, q4⟩
        · rw [List.getElem?_append_right h1] at ha
          have hi0 : i - g.length = 0 := by
            rcases Nat.eq_zero_or_pos (i - g.length) with h2 | h2
            · exact h2
            · rw [List.getElem?_eq_none (by simp; omega)] at ha; cases ha
          rw [hi0] at ha
          simp at ha
          exact ⟨n, by omega, h, by rw [List.getElem?_append_right (by omega), ← f1, hi0]; rfl, ha.symm⟩
      · rw [e]
        intro k hk hc
        simp only
        rcases Nat.lt_or_ge k n with h1 | h1
        · exact List.mem_append_left _ (f5 k h1 hc)
        · rw [show k = n by omega]; exact List.mem_append_right _ (List.mem_singleton.2 rfl)
      · rw [e]
        exact fun x hx => List.mem_append_left _ (f6 x hx)
      · rw [e]
        intro x hx
        rcases List.mem_append.1 hx with hx | hx
        · rcases f7 x hx with h1 | ⟨k, q1, q2⟩
          · exact Or.inl h1
          · exact Or.inr ⟨k, by omega, q2⟩
        · exact Or.inr ⟨n, by omega, h, List.mem_singleton.1 hx⟩
      · rw [e]
        intro h1 h2
        refine List.nodup_append.2 ⟨f8 h1 h2, by simp, ?_⟩
        intro a ha b hb hab
        rw [List.mem_singleton.1 hb] at hab
        rcases f7 a ha with h3 | ⟨k, q1, _, q3⟩
        · rw [hab] at h3; exact h2 n h h3
        · rw [q3] at hab; have := Int.ofNat.inj hab; omega
      · rw [e]
        intro x hx
        rcases List.mem_append.1 hx with hx | hx
        · obtain ⟨i, q1, q2, q3⟩ := f9 x hx
          exact ⟨i, q1, q2, by simp; omega⟩
        · exact ⟨g.length, List.mem_singleton.1 hx, f2, by simp⟩

theorem upto_mem {n : Nat} {x : Int} (h : x ∈ upto n) : ∃ k : Nat, x = Int.ofNat k ∧ k < n := by
  unfold upto at h
  obtain ⟨k, hk, rfl⟩ := List.mem_map.1 h
  exact ⟨k, rfl, List.mem_range.1 hk⟩
theorem mem_upto {n k : Nat} (h : k < n) : Int.ofNat k ∈ upto n := List.mem_of_getElem? (upto_at n k h)
theorem upto_nodup (n : Nat) : (upto n).Nodup := by
  unfold upto
  refine List.pairwise_map.2 ?_
  exact List.Pairwise.imp (fun h e => h (Int.ofNat.inj e)) (List.nodup_range (n := n))

/-- a number's place in a list -/
theorem ixf_mem {l : List Int} {x : Int} (h : x ∈ l) : ∃ i : Nat, ixf (fun y => x == y) l 0 = Int.ofNat i ∧ l[i]? = some x := by
  have key : ∀ (l : List Int) (n : Nat), x ∈ l → ∃ i : Nat, ixf (fun y => x == y) l n = Int.ofNat (n + i) ∧ l[i]? = some x := by
    intro l
    induction l with
    | nil => intro n h; cases h
    | cons y r ih =>
      intro n h
      by_cases hx : x = y
      · exact ⟨0, by simp [ixf, hx], by simp [hx]⟩
      · obtain ⟨i, q1, q2⟩ := ih (n + 1) ((List.mem_cons.1 h).resolve_left hx)
        refine ⟨i + 1, ?_, by simpa using q2⟩
        simp only [ixf, beq_eq_false_iff_ne.2 hx, cond_false]
        rw [q1]
        congr 1
        omega
  obtain ⟨i, q1, q2⟩ := key l 0 h
  exact ⟨i, by simpa using q1, q2⟩

theorem chosen_old {n0 : Nat} {so sv : List Int} {k : Nat → Int} {i : Nat} (h : chosen n0 so sv k i = true) : n0 ≤ i := by
  rcases Nat.lt_or_ge i n0 with h1 | h1
  · unfold chosen at h
    have : (upto n0).any (fun y => Int.ofNat i == y) = true := by
      rw [List.any_eq_true]
      exact ⟨_, mem_upto h1, beq_self_eq_true _⟩
    rw [this] at h
    cases h
  · exact h1
theorem chosen_iff {n0 : Nat} {so sv : List Int} {k : Nat → Int} {i : Nat} (h : n0 ≤ i) : chosen n0 so sv k i = so.any (fun y => sv.getD (k i).toNat 0 == y) := by
  unfold chosen
  have : (upto n0).any (fun y => Int.ofNat i == y) = false := by
    rw [List.any_eq_false]
    intro y hy hh
    obtain ⟨k, rfl, hk⟩ := upto_mem hy
    have := Int.ofNat.inj (eq_of_beq hh)
    omega
  rw [this]
  rfl

/-- an edge of a sort lies between nodes of that sort -/
def sortOk (so : List Int) : Bool := (List.range 6).all fun t => (List.range 5).all fun a => (List.range 5).all fun b =>
  !(so.any (fun y => sE.getD t 0 == y) && fitI (Int.ofNat t) (Int.ofNat a) (Int.ofNat b)) || (so.any (fun y => sN.getD a 0 == y) && so.any (fun y => sN.getD b 0 == y))
theorem so1 : sortOk [1] = true := by decide +kernel
theorem so3 : sortOk [3] = true := by decide +kernel
theorem so13 : sortOk [1, 3] = true := by decide +kernel
theorem sort_of {so : List Int} (h : sortOk so = true) {t a b : Int} (ht : 0 ≤ t ∧ t < 6) (ha : 0 ≤ a ∧ a < 5) (hb : 0 ≤ b ∧ b < 5) (h1 : so.any (fun y => sE.getD t.toNat 0 == y) = true) (h2 : fitI t a b = true) :
    so.any (fun y => sN.getD a.toNat 0 == y) = true ∧ so.any (fun y => sN.getD b.toNat 0 == y) = true := by
  obtain ⟨t, rfl⟩ := toN ht.1
  obtain ⟨a, rfl⟩ := toN ha.1
  obtain ⟨b, rfl⟩ := toN hb.1
  have q1 : t < 6 := by have := ht.2; rw [ofn] at this; omega
  have q2 : a < 5 := by have := ha.2; rw [ofn] at this; omega
  have q3 : b < 5 := by have := hb.2; rw [ofn] at this; omega
  unfold sortOk at h
  have := List.all_eq_true.1 (List.all_eq_true.1 (List.all_eq_true.1 h t (List.mem_range.2 q1)) a (List.mem_range.2 q2)) b (List.mem_range.2 q3)
  have h1 : so.any (fun y => sE.getD t 0 == y) = true := h1
  rw [h1, h2] at this
  simpa using this

theorem tr_ok {so : List Int} (hso : sortOk so = true) {ln : List Int} {le' : List (Int × Int × Int)} {rn : List Int} {re : List (Int × Int × Int)} (h : ROk ln le' rn re) (b1 : rn.length ≤ 30) (b2 : re.length ≤ 60) :
    ROk2 (trN so sN ln rn).1 (trE so sE (trN so sN ln rn).2.1 le' re).1 rn re (trN so sN ln rn).2.1 (trE so sE (trN so sN ln rn).2.1 le' re).2.1 := by
  have N := tr_facts (chosen ln.length so sN (fun i => rn.getD i 0)) (fun i => rn.getD i 0) ln (upto ln.length) (by rw [upto_len]) rn.length
  rw [show tr (chosen ln.length so sN (fun i => rn.getD i 0)) (fun i => rn.getD i 0) ln (upto ln.length) rn.length = trN so sN ln rn from rfl] at N
  have NL := trN_len so sN ln rn
  generalize trN so sN ln rn = TN at *
  have E := tr_facts (chosen le'.length so sE (fun i => (re.getD i (0, 0, 0)).1)) (trV TN.2.1 re) le' (upto le'.length) (by rw [upto_len]) re.length
  rw [show tr (chosen le'.length so sE (fun i => (re.getD i (0, 0, 0)).1)) (trV TN.2.1 re) le' (upto le'.length) re.length = trE so sE TN.2.1 le' re from rfl] at E
  have EL := trE_len so sE TN.2.1 le' re
  generalize trE so sE TN.2.1 le' re = TE at *
  have n4 := h.n4
  have e4 := h.e4
  -- every node has an image of its kind
  have nd : ∀ (i : Nat) (a : Int), TN.1[i]? = some a → ∃ k : Nat, TN.2.1[i]? = some (Int.ofNat k) ∧ rn[k]? = some a := by
    intro i a ha
    rcases Nat.lt_or_ge i ln.length with h1 | h1
    · have := N.old i h1
      rw [this.1] at ha
      exact ⟨i, by rw [this.2]; exact upto_at _ _ h1, h.pn _ _ ha⟩
    · obtain ⟨k, q1, _, q3, q4⟩ := N.new i h1 a ha
      exact ⟨k, q3, by rw [q4, List.getD_eq_getElem?_getD, List.getElem?_eq_getElem q1]; rfl⟩
  have inJ : ∀ k, k < rn.length → (k < ln.length ∨ so.any (fun y => sN.getD (rn.getD k 0).toNat 0 == y) = true) → Int.ofNat k ∈ TN.2.1 := by
    intro k hk hc
    have w1 := N.j
    have w2 := N.all
    rcases Nat.lt_or_ge k ln.length with h1 | h1
    · exact w1 _ (mem_upto h1)
    · refine w2 k hk ?_
      rw [chosen_iff h1]
      exact hc.resolve_left (by omega)
  have place : ∀ x ∈ TN.2.1, ∃ i : Nat, ixf (fun y => x == y) TN.2.1 0 = Int.ofNat i ∧ TN.2.1[i]? = some x ∧ i < TN.1.length := fun x hx => by
    obtain ⟨i, q1, q2⟩ := ixf_mem hx
    have w := N.len
    exact ⟨i, q1, q2, by rw [w]; exact (List.getElem?_eq_some_iff.1 q2).1⟩
  -- the edges that are added
  have enew : ∀ k, k < re.length → chosen le'.length so sE (fun i => (re.getD i (0, 0, 0)).1) k = true →
      ∃ (t : Int) (x y i j : Nat), re[k]? = some (t, Int.ofNat x, Int.ofNat y) ∧ 0 ≤ t ∧ t < 6 ∧ trV TN.2.1 re k = (t, Int.ofNat i, Int.ofNat j) ∧ TN.2.1[i]? = some (Int.ofNat x) ∧ TN.2.1[j]? = some (Int.ofNat y) ∧ i < TN.1.length ∧ j < TN.1.length := by
    intro k hk hc
    have hcc := hc
    rw [chosen_iff (chosen_old hc)] at hcc
    have hg : re[k]? = some re[k] := List.getElem?_eq_getElem hk
    have hd : re.getD k (0, 0, 0) = re[k] := by rw [List.getD_eq_getElem?_getD, hg]; rfl
    have hb := h.hre.2 _ (List.getElem_mem hk)
    obtain ⟨a, b, ha, hb', hf⟩ := h.fit _ (List.getElem_mem hk)
    unfold trV
    simp only [hd] at hcc ⊢
    generalize re[k] = e at *
    obtain ⟨t, x, y⟩ := e
    simp only at hb ha hb' hf hcc ⊢
    obtain ⟨x, rfl⟩ := toN hb.2.2.1
    obtain ⟨y, rfl⟩ := toN hb.2.2.2.2.1
    have ha : rn[x]? = some a := ha
    have hb' : rn[y]? = some b := hb'
    have sa := h.hr.2 _ (List.mem_of_getElem? ha)
    have sb := h.hr.2 _ (List.mem_of_getElem? hb')
    have so' := sort_of hso ⟨hb.1, hb.2.1⟩ sa sb hcc hf
    have mx := inJ x (List.getElem?_eq_some_iff.1 ha).1 (Or.inr (by rw [show rn.getD x 0 = a by rw [List.getD_eq_getElem?_getD, ha]; rfl]; exact so'.1))
    have my := inJ y (List.getElem?_eq_some_iff.1 hb').1 (Or.inr (by rw [show rn.getD y 0 = b by rw [List.getD_eq_getElem?_getD, hb']; rfl]; exact so'.2))
    obtain ⟨i, i1, i2, i3⟩ := place _ mx
    obtain ⟨j, j1, j2, j3⟩ := place _ my
    exact ⟨t, x, y, i, j, hg, hb.1, hb.2.1, by rw [i1, j1], i2, j2, i3, j3⟩
  have ed : ∀ (j : Nat) (e : Int × Int × Int), TE.1[j]? = some e → ∃ (k : Nat) (x y : Int), TE.2.1[j]? = some (Int.ofNat k) ∧ re[k]? = some (e.1, x, y) ∧ TN.2.1[e.2.1.toNat]? = some x ∧ TN.2.1[e.2.2.toNat]? = some y := by
    intro j e hj
    rcases Nat.lt_or_ge j le'.length with h1 | h1
    · have := E.old j h1
      rw [this.1] at hj
      have hb := h.hle.2 _ (List.mem_of_getElem? hj)
      obtain ⟨t, x, y⟩ := e
      simp only at hb ⊢
      obtain ⟨x, rfl⟩ := toN hb.2.2.1
      obtain ⟨y, rfl⟩ := toN hb.2.2.2.2.1
      have hx : x < ln.length := by have := hb.2.2.2.1; rw [ofn] at this; omega
      have hy : y < ln.length := by have := hb.2.2.2.2.2; rw [ofn] at this; omega
      have ox := (N.old x hx).2
      have oy := (N.old y hy).2
      exact ⟨j, Int.ofNat x, Int.ofNat y, by rw [this.2]; exact upto_at _ _ h1, h.pe _ _ hj, ox.trans (upto_at _ _ hx), oy.trans (upto_at _ _ hy)⟩
    · obtain ⟨k, q1, q2, q3, q4⟩ := E.new j h1 e hj
      obtain ⟨t, x, y, i, j', w1, _, _, w4, w5, w6, _, _⟩ := enew k q1 q2
      rw [q4, w4]
      exact ⟨k, Int.ofNat x, Int.ofNat y, q3, w1, w5, w6⟩
  have eb : ∀ e ∈ TE.1, 0 ≤ e.1 ∧ e.1 < 6 ∧ 0 ≤ e.2.1 ∧ e.2.1 < TN.1.length ∧ 0 ≤ e.2.2 ∧ e.2.2 < TN.1.length := by
    intro e he
    obtain ⟨j, hj⟩ := List.getElem?_of_mem he
    have ge := N.ge
    rcases Nat.lt_or_ge j le'.length with h1 | h1
    · have := E.old j h1
      rw [this.1] at hj
      have hb := h.hle.2 _ (List.mem_of_getElem? hj)
      omega
    · obtain ⟨k, q1, q2, q3, q4⟩ := E.new j h1 e hj
      obtain ⟨t, x, y, i, j', w1, w2, w3, w4, w5, w6, w7, w8⟩ := enew k q1 q2
      rw [q4, w4]
      simp only [ofn]
      omega
  have c1 := N.len
  have c2 := E.len
  have c3 := N.nd (upto_nodup _) (fun k hk hm => by obtain ⟨j, q1, q2⟩ := upto_mem hm; have := Int.ofNat.inj q1; have := chosen_old hk; omega)
  have c4 := E.nd (upto_nodup _) (fun k hk hm => by obtain ⟨j, q1, q2⟩ := upto_mem hm; have := Int.ofNat.inj q1; have := chosen_old hk; omega)
  refine ⟨⟨by omega, fun x hx => ?_⟩, ⟨by omega, eb⟩, h.hr, h.hre, ⟨c1.symm, c2.symm, nd, ed⟩, c3, c4, h.fit⟩
  obtain ⟨i, hi⟩ := List.getElem?_of_mem hx
  obtain ⟨k, _, hk⟩ := nd i x hi
  exact h.hr.2 _ (List.mem_of_getElem? hk)

theorem tr_mono {α β : Type} {c c' : Nat → Bool} {v : Nat → α} {g0 : List α} {j0 : List Int} (h : ∀ k, c k = true → c' k = true) : ∀ n, (tr c v g0 j0 n).1.length ≤ (tr c' v g0 j0 n).1.length
  | 0 => Nat.le_refl _
  | n + 1 => by
    have ih := tr_mono (β := β) (v := v) (g0 := g0) (j0 := j0) h n
    cases hc : c n with
    | true => rw [tr_yes hc, tr_yes (h n hc)]; simp; omega
    | false =>
      rw [tr_no hc]
      cases hc' : c' n with
      | true => rw [tr_yes hc']; simp; omega
      | false => rw [tr_no hc']; exact ih
theorem trN_mono {so so' sn ln rn : List Int} (h : ∀ x ∈ so, x ∈ so') : (trN so sn ln rn).1.length ≤ (trN so' sn ln rn).1.length := by
  unfold trN
  refine tr_mono (β := Nat) (fun k hk => ?_) _
  have h0 := chosen_old hk
  rw [chosen_iff h0] at hk ⊢
  rw [List.any_eq_true] at hk ⊢
  obtain ⟨y, hy, hh⟩ := hk
  exact ⟨y, h y hy, hh⟩
/-- Left's elements are the first ones -/
theorem trN_take {so sn ln rn : List Int} : (trN so sn ln rn).1.take ln.length = ln ∧ ln.length ≤ (trN so sn ln rn).1.length := by
  have N := tr_facts (chosen ln.length so sn (fun i => rn.getD i 0)) (fun i => rn.getD i 0) ln (upto ln.length) (by rw [upto_len]) rn.length
  refine ⟨?_, N.ge⟩
  apply List.ext_getElem?
  intro i
  rw [List.getElem?_take]
  split
  · exact (N.old i (by assumption)).1
  · rw [List.getElem?_eq_none (by omega)]
theorem trE_take {so se J : List Int} {le' re : List (Int × Int × Int)} : (trE so se J le' re).1.take le'.length = le' ∧ le'.length ≤ (trE so se J le' re).1.length := by
  have N := tr_facts (chosen le'.length so se (fun i => (re.getD i (0, 0, 0)).1)) (trV J re) le' (upto le'.length) (by rw [upto_len]) re.length
  refine ⟨?_, N.ge⟩
  apply List.ext_getElem?
  intro i
  rw [List.getElem?_take]
  split
  · exact (N.old i (by assumption)).1
  · rw [List.getElem?_eq_none (by omega)]
end Am

