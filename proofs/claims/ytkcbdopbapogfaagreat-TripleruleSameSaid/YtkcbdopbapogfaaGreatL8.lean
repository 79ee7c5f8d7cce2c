/-
  Proved: the law scarfjointlaw53.TripleruleSame of the given program answers true for every draft, and the draft reads afterwards as it read before. Conditions: none but those of the given row.
  By an AI agent. No person has read it.
-/
import Derived.Test.YtkcbdopbapogfaaGreatB2
import Derived.Test.YtkcbdopbapogfaaGreatS33
set_option linter.all false
namespace Go.Proofs.YtkcbdopbapogfaaGreat.same
open Go Go.Proofs Go.ChangeShapes Go.WideShapes Go.ChangeAt Go.RowKit
set_option linter.unusedVariables false
open Am in
theorem law (dn : List (Nat × Nat)) (de : List (Nat × Nat × Nat)) (xn : List Nat) (xe : List (Nat × Nat × Nat)) (h : DBd dn de xn xe) : O Ez NR 8 [dA dn de xn xe] = some (rb true, []) := by
  by_cases hs : dn.length ≤ 3 ∧ de.length ≤ 3 ∧ xn.length ≤ 3 ∧ xe.length ≤ 4
  · exact s8_ok ⟨hs.1, hs.2.1, hs.2.2.1, hs.2.2.2, h.b1, h.b2, h.b3, h.b4⟩
  · refine s8_big _ _ _ _ ?_
    rw [rB2_len, rB3_len, rB1_len, rB3_len]
    unfold smallB
    simp only [Bool.and_eq_false_iff, decide_eq_false_iff_not]
    omega

set_option maxRecDepth 100000 in
theorem lifted (os : Os) (started : os.Started) (H : Type) (enc : TypeId × Value → H) :
    ReturnsInHanded {} Tryz.checked os 8 .any (Rows.tripleruleSameSpec.pre6 enc Tryz.prog Tryz.f8 Rows.tripleruleSameRow.domain false) (Rows.tripleruleSameSpec.post enc Tryz.prog Tryz.f8 false true false false) := by
  refine returnsInHanded_of_change (C := Tryz.checked) Am.own started (by kernel_rfl) Tryz.func8
    (ChangeSpec.witness6 (enc := enc) (C := Tryz.checked) false ⟨#[], #[.agg #[.slice none 0 0, .slice none 0 0, .slice none 0 0, .slice none 0 0]], []⟩ 8 (by kernel_rfl) (by kernel_rfl) (by kernel_rfl) (by kernel_rfl)) ?_
  intro W base args ds gs before hval hW _ _
  exact Am.law1 Tryz.params8 (by kernel_rfl) rfl (fun _ _ => rfl) law H enc W base args ds gs before hval hW

theorem over : Rows.tripleruleSameRow.holds Tryz.pinned (OpenSpec.ofChange Rows.tripleruleSameSpec) :=
  OpenClaim.holds_of_wide 8 Tryz.f8 rfl rfl rfl rfl rfl rfl rfl ⟨rfl, rfl, rfl, rfl, rfl⟩ rfl rfl rfl rfl rfl (by kernel_rfl) Tryz.func8 (by kernel_rfl)
    (of_decide_eq_true (by kernel_rfl)) (by unfold Func.isWrapper; first | (rw [if_pos (by decide +kernel)]; kernel_rfl) | (rw [if_neg (by decide +kernel)]; exact ⟨rfl, rfl⟩))
    (fun os started H enc _ => lifted os started H enc)

theorem proved : Rows.TripleruleSameSaid :=
  over
#print axioms proved
end Go.Proofs.YtkcbdopbapogfaaGreat.same

