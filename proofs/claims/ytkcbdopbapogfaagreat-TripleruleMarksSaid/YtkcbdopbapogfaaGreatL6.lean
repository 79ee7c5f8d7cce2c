/-
  Proved: the law scarfjointlaw53.TripleruleMarks of the given program answers true for every draft, and the draft reads afterwards as it read before. Conditions: none but those of the given row.
  By an AI agent. No person has read it.
-/
import Derived.Test.YtkcbdopbapogfaaGreatB2
import Derived.Test.YtkcbdopbapogfaaGreatS38
set_option linter.all false
namespace Go.Proofs.YtkcbdopbapogfaaGreat.marks
open Go Go.Proofs Go.ChangeShapes Go.WideShapes Go.ChangeAt Go.RowKit
set_option linter.unusedVariables false
open Am in
theorem law (dn : List (Nat × Nat)) (de : List (Nat × Nat × Nat)) (xn : List Nat) (xe : List (Nat × Nat × Nat)) (h : DBd dn de xn xe) : O Ez NR 6 [dA dn de xn xe] = some (rb true, []) := by
  by_cases hs : dn.length ≤ 3 ∧ de.length ≤ 3 ∧ xn.length ≤ 3 ∧ xe.length ≤ 4
  · exact s6_ok ⟨hs.1, hs.2.1, hs.2.2.1, hs.2.2.2, h.b1, h.b2, h.b3, h.b4⟩
  · refine s6_big _ _ _ _ ?_
    rw [rB2_len, rB3_len, rB1_len, rB3_len]
    unfold smallB
    simp only [Bool.and_eq_false_iff, decide_eq_false_iff_not]
    omega

set_option maxRecDepth 100000 in
theorem lifted (os : Os) (started : os.Started) (H : Type) (enc : TypeId × Value → H) :
    ReturnsInHanded {} Tryz.checked os 6 .any (Rows.tripleruleMarksSpec.pre6 enc Tryz.prog Tryz.f6 Rows.tripleruleMarksRow.domain false) (Rows.tripleruleMarksSpec.post enc Tryz.prog Tryz.f6 false true false false) := by
  refine returnsInHanded_of_change (C := Tryz.checked) Am.own started (by kernel_rfl) Tryz.func6
    (ChangeSpec.witness6 (enc := enc) (C := Tryz.checked) false ⟨#[], #[.agg #[.slice none 0 0, .slice none 0 0, .slice none 0 0, .slice none 0 0]], []⟩ 6 (by kernel_rfl) (by kernel_rfl) (by kernel_rfl) (by kernel_rfl)) ?_
  intro W base args ds gs before hval hW _ _
  exact Am.law1 Tryz.params6 (by kernel_rfl) rfl (fun _ _ => rfl) law H enc W base args ds gs before hval hW

theorem over : Rows.tripleruleMarksRow.holds Tryz.pinned (OpenSpec.ofChange Rows.tripleruleMarksSpec) :=
  OpenClaim.holds_of_wide 6 Tryz.f6 rfl rfl rfl rfl rfl rfl rfl ⟨rfl, rfl, rfl, rfl, rfl⟩ rfl rfl rfl rfl rfl (by kernel_rfl) Tryz.func6 (by kernel_rfl)
    (of_decide_eq_true (by kernel_rfl)) (by unfold Func.isWrapper; first | (rw [if_pos (by decide +kernel)]; kernel_rfl) | (rw [if_neg (by decide +kernel)]; exact ⟨rfl, rfl⟩))
    (fun os started H enc _ => lifted os started H enc)

theorem proved : Rows.TripleruleMarksSaid :=
  over
#print axioms proved
end Go.Proofs.YtkcbdopbapogfaaGreat.marks

