/-
  What functions of the given program answer, as values, shown by that evaluator: each theorem bears its own conditions.
  By an AI agent. No person has read it.
-/
import Derived.Test.YtkcbdopbapogfaaGreatS4
set_option linter.all false
set_option maxRecDepth 100000
noncomputable section
namespace Am
open Go Go.Proofs

theorem lentN : tN.length = 5 := rfl
theorem lentE : tE.length = 6 := rfl
theorem s148 (x : Int) (h : x < 5) : O Ez NR 148 [.one (vi x), .one (.ptr tC)] = some (rb false, []) := by
  refine spec_of 1 F148 ?_
  intro rat rlen hat hln rcat hcat rcut hcut lp hlp o wrap lt le eq eqs nle tdiv tmod add sub mul room ho hw hlt hle heq heqs hnle hdiv hmod hadd hsub hmul hroom
  have g1 : le (Int.ofNat (rlen tN)) x = false := by rw [hle, hln, lentN, ofn]; simp; omega
  dsimp only [tC]
  generalize tN = τ at g1 ⊢
  generalize tE = υ
  cbv
  rw [g1]
theorem s202 (x : Int) (h : x < 5) : O Ez NR 202 [.one (vi x), .one (.ptr tC)] = some (rb false, []) := by
  refine spec_of 1 F202 ?_
  intro rat rlen hat hln rcat hcat rcut hcut lp hlp o wrap lt le eq eqs nle tdiv tmod add sub mul room ho hw hlt hle heq heqs hnle hdiv hmod hadd hsub hmul hroom
  have g1 : le (Int.ofNat (rlen tN)) x = false := by rw [hle, hln, lentN, ofn]; simp; omega
  dsimp only [tC]
  generalize tN = τ at g1 ⊢
  generalize tE = υ
  cbv
  rw [g1]
theorem s150 (e : Int × Int × Int) (h : e.1 < 6) : O Ez NR 150 [.agg [vi e.1, vi e.2.1, vi e.2.2], .one (.ptr tC)] = some (rb false, []) := by
  refine spec_of 1 F150 ?_
  intro rat rlen hat hln rcat hcat rcut hcut lp hlp o wrap lt le eq eqs nle tdiv tmod add sub mul room ho hw hlt hle heq heqs hnle hdiv hmod hadd hsub hmul hroom
  have g1 : le (Int.ofNat (rlen tE)) e.1 = false := by rw [hle, hln, lentE, ofn]; simp; omega
  dsimp only [tC]
  generalize tN = τ
  generalize tE = υ at g1 ⊢
  cbv
  rw [g1]
theorem s203 (e : Int × Int × Int) (h : e.1 < 6) : O Ez NR 203 [.agg [vi e.1, vi e.2.1, vi e.2.2], .one (.ptr tC)] = some (rb false, []) := by
  refine spec_of 1 F203 ?_
  intro rat rlen hat hln rcat hcat rcut hcut lp hlp o wrap lt le eq eqs nle tdiv tmod add sub mul room ho hw hlt hle heq heqs hnle hdiv hmod hadd hsub hmul hroom
  have g1 : le (Int.ofNat (rlen tE)) e.1 = false := by rw [hle, hln, lentE, ofn]; simp; omega
  dsimp only [tC]
  generalize tN = τ
  generalize tE = υ at g1 ⊢
  cbv
  rw [g1]

theorem s151 : O Ez NR 151 [.one (vi 0), .one (vi 0), .one (vi 12)] = some (rb true, []) := O_iff.2 ⟨5, by kernel_rfl⟩
abbrev pC (ns : List Int) (es : List (Int × Int × Int)) : List C := [.sl false 1 (rI ns), .sl false 3 (rE es), .sl false 4 [], vi 0, .sl false 5 []]
theorem s98 {ns : List Int} {es : List (Int × Int × Int)} (hn : nOk ns) (he : eOk ns.length es) : O Ez NR 98 [tA, .agg (pC ns es)] = some (ri 0, []) := by
  obtain ⟨n, hn0⟩ : ∃ n : Nat, 5 < n := ⟨6, by omega⟩
  refine spec_of n F98 ?_
  intro rat rlen hat hln rcat hcat rcut hcut lp hlp o wrap lt le eq eqs nle tdiv tmod add sub mul room ho hw hlt hle heq heqs hnle hdiv hmod hadd hsub hmul hroom
  have h1 := hn.1
  have h2 := he.1
  have e0 := ho _ _ _ k96
  have e1 := ho _ _ _ (s147 hn he)
  have e2 := ho _ _ _ (s30_148 ns tC (fun _ => false) (by omega) (fun x hx => s148 x (hn.2 x hx).2))
  have e3 := ho _ _ _ (s149_150 es tC (fun _ => false) (by omega) (fun e hx => s150 e (he.2 e hx).2.1))
  rw [any_no (fun _ _ => rfl)] at e2 e3
  have e4 := ho _ _ _ s151
  have e5 := ho _ _ _ k153
  have e6 := ho _ _ _ k154
  have q0 : eq 0 0 = true := by rw [heq]; rfl
  have z1 : lt 10 (Int.ofNat (rlen [])) = false := by rw [hlt, hln]; rfl
  have z0 : lt 0 (Int.ofNat (rlen [])) = false := by rw [hlt, hln]; rfl
  have r0 : room 0 1 = true := hroom _ _ (by omega)
  dsimp only [tC, tA, gA, pC] at *
  generalize rI ns = ρ at e1 e2 ⊢
  generalize rE es = σ at e1 e3 ⊢
  generalize tN = τ at e0 e2 e3 ⊢
  generalize tE = υ at e0 e2 e3 ⊢
  cbv
  rw [e0]
  cbv
  rw [q0]
  cbv
  rw [e1]
  cbv
  rw [q0]
  cbv
  rw [e2]
  cbv
  rw [e3]
  cbv
  rw [e4]
  cbv
  rw [z1]
  cbv
  rw [z1]
  cbv
  rw [r0]
  cbv
  refine loopU (hlp _ _ _ _ _) (fun s _ => s) (fun _ => True) 0 (by omega) trivial (by cbv) rfl ?_
  intro i hi _ C' hret hex hnorm
  cbv
  rw [z0]
  cbv
  rw [hex]
  cbv
  rw [e5]
  cbv
  rw [q0]
  cbv
  rw [e6]
  cbv
end Am

