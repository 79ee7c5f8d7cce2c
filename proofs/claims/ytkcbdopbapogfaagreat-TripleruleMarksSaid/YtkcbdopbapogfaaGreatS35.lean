/-
  What functions of the given program answer, as values, shown by that evaluator: each theorem bears its own conditions.
  By an AI agent. No person has read it.
-/
import Derived.Test.YtkcbdopbapogfaaGreatS34
set_option linter.all false
set_option maxRecDepth 100000
noncomputable section
namespace Am
open Go Go.Proofs

/-! the rule of the source, and what is marked: plain facts -/
theorem tr_none {α : Type} {c : Nat → Bool} {v : Nat → α} {g0 : List α} {j0 : List Int} : ∀ n, (∀ i, i < n → c i = false) → tr c v g0 j0 n = (g0, j0, [])
  | 0, _ => rfl
  | n + 1, h => by rw [tr_no (h n (by omega)), tr_none n (fun i hi => h i (by omega))]
/-- what is chosen early comes first -/
theorem tr_pre {α : Type} {c c' : Nat → Bool} {v v' : Nat → α} {n0 : Nat} : ∀ n, n0 ≤ n → (∀ i, i < n0 → c i = c' i) → (∀ i, i < n0 → c i = true → v i = v' i) →
    ∃ A B, (tr c' v' [] [] n).1 = (tr c v [] [] n0).1 ++ A ∧ (tr c' v' [] [] n).2.1 = (tr c v [] [] n0).2.1 ++ B
  | 0, hn, _, _ => by
    obtain rfl : n0 = 0 := by omega
    exact ⟨[], [], rfl, rfl⟩
  | n + 1, hn, h1, h2 => by
    rcases Nat.lt_or_ge n n0 with h | h
    · obtain rfl : n0 = n + 1 := by omega
      refine ⟨[], [], ?_⟩
      have : ∀ m, m ≤ n + 1 → tr c' v' [] [] m = tr c v [] [] m := by
        intro m
        induction m with
        | zero => intro _; rfl
        | succ m ih =>
          intro hm
          cases hc : c m with
          | true => rw [tr_yes hc, tr_yes (h1 m (by omega) ▸ hc), ih (by omega), h2 m (by omega) hc]
          | false => rw [tr_no hc, tr_no (h1 m (by omega) ▸ hc), ih (by omega)]
      rw [this _ (Nat.le_refl _)]
      simp
    · obtain ⟨A, B, q1, q2⟩ := tr_pre (c := c) (v := v) (c' := c') (v' := v') n h h1 h2
      cases hc : c' n with
      | true => exact ⟨A ++ [v' n], B ++ [Int.ofNat n], by rw [tr_yes hc]; simp [q1], by rw [tr_yes hc]; simp [q2]⟩
      | false => exact ⟨A, B, by rw [tr_no hc]; exact q1, by rw [tr_no hc]; exact q2⟩

theorem ixs_pre {J0 B : List Int} (h : (J0 ++ B).Nodup) : ixs J0 (J0 ++ B) = upto J0.length := by
  apply List.ext_getElem?
  intro i
  rcases Nat.lt_or_ge i J0.length with hi | hi
  · have hx : J0[i]? = some J0[i] := List.getElem?_eq_getElem hi
    obtain ⟨k, k1, k2⟩ := ixf_mem (l := J0 ++ B) (x := J0[i]) (List.mem_append_left _ (List.getElem_mem hi))
    have hx2 : (J0 ++ B)[i]? = some J0[i] := by rw [List.getElem?_append_left hi]; exact hx
    have hk := (List.getElem?_eq_some_iff.1 k2).1
    have : k = i := (List.getElem?_inj hk h).1 (k2.trans hx2.symm)
    rw [upto_at _ _ hi]
    unfold ixs
    rw [List.getElem?_map, hx]
    simp only [Option.map_some]
    rw [k1, this]
  · rw [List.getElem?_eq_none (by rw [ixs_len]; exact hi), List.getElem?_eq_none (by rw [upto_len]; exact hi)]

theorem upto_any (a k : Nat) : (upto a).any (fun y => Int.ofNat k == y) = decide (k < a) := by
  rcases Nat.lt_or_ge k a with h | h
  · rw [decide_eq_true h, List.any_eq_true]
    exact ⟨_, mem_upto h, beq_self_eq_true _⟩
  · rw [decide_eq_false (by omega), List.any_eq_false]
    intro y hy hh
    obtain ⟨j, rfl, hj⟩ := upto_mem hy
    have := Int.ofNat.inj (eq_of_beq hh)
    omega
theorem lack_upto (a : Nat) : ∀ n, (lack (upto a) n).length = n - a
  | 0 => by simp [lack, upto]
  | n + 1 => by
    rw [lack_succ, upto_any, List.length_append, lack_upto a n]
    by_cases h : n < a
    · simp [h]; omega
    · simp [h]; omega

/-- so many are marked as are chosen beyond the first ones -/
theorem tr_count {α β : Type} {c d : Nat → Bool} {v : Nat → α} {v' : Nat → β} {g0 : List β} {j0 : List Int} {n0 : Nat} (hd : ∀ i, i < n0 → d i = false) (hcd : ∀ i, n0 ≤ i → d i = c i) : ∀ n, n0 ≤ n →
    (tr c v [] [] n).2.1.length = (tr c v [] [] n0).2.1.length + (tr d v' g0 j0 n).2.2.length
  | 0, hn => by
    obtain rfl : n0 = 0 := by omega
    simp [tr]
  | n + 1, hn => by
    rcases Nat.lt_or_ge n n0 with h | h
    · obtain rfl : n0 = n + 1 := by omega
      rw [tr_none (c := d) (n + 1) hd]
      simp
    · have ih := tr_count (v := v) (v' := v') (g0 := g0) (j0 := j0) hd hcd n h
      cases hc : c n with
      | true => rw [tr_yes hc, tr_yes (c := d) ((hcd n h).trans hc)]; simp; omega
      | false => rw [tr_no hc, tr_no (c := d) ((hcd n h).trans hc)]; exact ih
end Am

