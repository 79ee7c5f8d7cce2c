/-
  What functions of the given program answer, as values, shown by that evaluator: each theorem bears its own conditions.
  By an AI agent. No person has read it.
-/
import Derived.Test.YtkcbdopbapogfaaGreatS2
set_option linter.all false
set_option maxRecDepth 100000
noncomputable section
namespace Am
open Go Go.Proofs

theorem any_no {α : Type} {p : α → Bool} {l : List α} (h : ∀ x ∈ l, p x = false) : l.any p = false := by
  rw [List.any_eq_false]
  intro x hx
  simp [h x hx]
theorem wi_ok {n m : Int} (h1 : 0 ≤ n) (h2 : n ≤ m) : wi n m = true := by simp [wi, h1, h2]

theorem ef_ok {n : Nat} {e : Int × Int × Int} (h1 : 0 ≤ e.1) (h2 : e.1 < 6) (h3 : 0 ≤ e.2.1) (h4 : e.2.1 < n) (h5 : 0 ≤ e.2.2) (h6 : e.2.2 < n) : ef n e = true := by
  have := ofn n
  unfold ef
  rw [wi_ok h1 (by omega), wi_ok h3 (by omega), wi_ok h5 (by omega)]
  rfl
/-- the nodes of a graph over the example's types -/
def nOk (ns : List Int) : Prop := ns.length ≤ 40 ∧ ∀ x ∈ ns, 0 ≤ x ∧ x < 5
def eOk (n : Nat) (es : List (Int × Int × Int)) : Prop := es.length ≤ 80 ∧ ∀ e ∈ es, 0 ≤ e.1 ∧ e.1 < 6 ∧ 0 ≤ e.2.1 ∧ e.2.1 < n ∧ 0 ≤ e.2.2 ∧ e.2.2 < n

abbrev gA (ns : List Int) (es : List (Int × Int × Int)) : Arg := .agg [.sl false 1 (rI ns), .sl false 3 (rE es)]
abbrev gP (ns : List Int) (es : List (Int × Int × Int)) : List C := [.sl false 1 (rI ns), .sl false 3 (rE es)]

theorem s196 (e : Int × Int × Int) (ns : List Int) (es : List (Int × Int × Int)) (hn : ns.length < 1000000) :
    O Ez NR 196 [.agg [vi e.1, vi e.2.1, vi e.2.2], .one (.ptr (gP ns es))] = some (rb (!ef ns.length e), []) := by
  refine spec_of 1 F196 ?_
  intro rat rlen hat hln rcat hcat rcut hcut lp hlp o wrap lt le eq eqs nle tdiv tmod add sub mul room ho hw hlt hle heq heqs hnle hdiv hmod hadd hsub hmul hroom
  have e1 := ho _ _ _ (s197 e ns.length hn)
  dsimp only [gP] at *
  have hl := rI_len ns
  rw [← hl] at e1 ⊢
  generalize rI ns = ρ at e1 hl ⊢
  rw [← hln] at e1 ⊢
  generalize ef (rlen ρ) e = r at e1 ⊢
  generalize rE es = σ
  cbv
  rw [e1]
  cbv

theorem s147 {ns : List Int} {es : List (Int × Int × Int)} (hn : nOk ns) (he : eOk ns.length es) : O Ez NR 147 [gA ns es] = some (ri 0, []) := by
  refine spec_of 1 F147 ?_
  intro rat rlen hat hln rcat hcat rcut hcut lp hlp o wrap lt le eq eqs nle tdiv tmod add sub mul room ho hw hlt hle heq heqs hnle hdiv hmod hadd hsub hmul hroom
  have h1 := hn.1
  have h2 := he.1
  have e1 := ho _ _ _ (s30_194 ns (fun x => !wi x 99) (by omega) (fun x _ => s194 x))
  have e2 := ho _ _ _ (s149_196 es (gP ns es) (fun e => !ef ns.length e) (by omega) (fun e _ => s196 e ns es (by omega)))
  rw [any_no (fun x hx => by have := hn.2 x hx; simp [wi_ok this.1 (show x ≤ 99 by omega)])] at e1
  rw [any_no (fun e hx => by
    have := he.2 e hx
    rw [ef_ok this.1 this.2.1 this.2.2.1 this.2.2.2.1 this.2.2.2.2.1 this.2.2.2.2.2]; rfl)] at e2
  have g1 : lt 40 (Int.ofNat (rlen (rI ns))) = false := by rw [hlt, hln, rI_len, ofn]; simp; omega
  have g2 : lt 80 (Int.ofNat (rlen (rE es))) = false := by rw [hlt, hln, rE_len, ofn]; simp; omega
  dsimp only [gA, gP] at *
  generalize rI ns = ρ at e1 e2 g1 ⊢
  generalize rE es = σ at e1 e2 g2 ⊢
  cbv
  rw [g1]
  cbv
  rw [g2]
  cbv
  rw [e1]
  cbv
  rw [e2]
  cbv
end Am

