/-
  What functions of the given program answer, as values, shown by that evaluator: each theorem bears its own conditions.
  By an AI agent. No person has read it.
-/
import Derived.Test.YtkcbdopbapogfaaGreatS26
set_option linter.all false
set_option maxRecDepth 100000
noncomputable section
namespace Am
open Go Go.Proofs

theorem k131 : O Ez NR 131 [.one (vi 0), .one (.sl false 5 [])] = some (ri 0, []) := O_iff.2 ⟨60, by kernel_rfl⟩
theorem k75 : O Ez NR 75 [.one (.v (.string ⟨#[114]⟩))] = some (rb true, []) := O_iff.2 ⟨60, by kernel_rfl⟩
theorem k137 : O Ez NR 137 [.agg cond1] = some (ri 0, []) := O_iff.2 ⟨60, by kernel_rfl⟩

theorem s76 {ns : List Int} {es : List (Int × Int × Int)} (hn : nOk ns) (he : eOk ns.length es) : O Ez NR 76 [tA, .agg (pC ns es)] = some (ri 0, []) := by
  obtain ⟨n, hn0⟩ : ∃ n : Nat, 200 < n := ⟨201, by omega⟩
  refine spec_of n F76 ?_
  intro rat rlen hat hln rcat hcat rcut hcut lp hlp o wrap lt le eq eqs nle tdiv tmod add sub mul room ho hw hlt hle heq heqs hnle hdiv hmod hadd hsub hmul hroom
  have e1 := ho _ _ _ k74
  have e2 := ho _ _ _ (s127 hn he)
  have e3 := ho _ _ _ (s128 hn he)
  have e4 := ho _ _ _ k131
  have q0 : eq 0 0 = true := by rw [heq]; rfl
  have z1 : lt 10 (Int.ofNat (rlen [])) = false := by rw [hlt, hln]; rfl
  have z0 : lt 0 (Int.ofNat (rlen [])) = false := by rw [hlt, hln]; rfl
  have zz : lt 0 0 = false := by rw [hlt]; rfl
  have zt : lt 12 0 = false := by rw [hlt]; rfl
  dsimp only [tA, gA, pC] at *
  generalize rI ns = ρ at *
  generalize rE es = σ at *
  generalize tN = τ at *
  generalize tE = υ at *
  cbv
  rw [e1]
  cbv
  rw [q0]
  cbv
  rw [e2]
  cbv
  rw [q0]
  cbv
  rw [e3]
  cbv
  rw [zz]
  cbv
  rw [zt]
  cbv
  rw [z1]
  cbv
  rw [z1]
  cbv
  refine loopU (hlp _ _ _ _ _) (fun s _ => s) (fun _ => True) 0 (by omega) trivial (by cbv) rfl ?_
  intro i hi _ C' hret hex hnorm
  cbv
  rw [z0]
  cbv
  rw [hex]
  cbv
  rw [e4]
  cbv
  rw [q0]
  cbv
  clear hret hex hnorm
  refine loopU (hlp _ _ _ _ _) (fun s _ => s) (fun _ => True) 0 (by omega) trivial (by cbv) rfl ?_
  intro i hi _ C' hret hex hnorm
  cbv
  rw [zz]
  cbv
  rw [hex]
  cbv

theorem s77 {ln : List Int} {le' : List (Int × Int × Int)} {rn : List Int} {re : List (Int × Int × Int)} {kn ke im ie : List Int} (hn : nOk rn) (he : eOk rn.length re) : O Ez NR 77 [tA, .agg (rC ln le' rn re kn ke im ie)] = some (ri 0, []) := by
  obtain ⟨n, hn0⟩ : ∃ n : Nat, 5 < n := ⟨6, by omega⟩
  refine spec_of n F77 ?_
  intro rat rlen hat hln rcat hcat rcut hcut lp hlp o wrap lt le eq eqs nle tdiv tmod add sub mul room ho hw hlt hle heq heqs hnle hdiv hmod hadd hsub hmul hroom
  have e1 := ho _ _ _ (s127 hn he)
  have e2 := ho _ _ _ (s128 hn he)
  have q0 : eq 0 0 = true := by rw [heq]; rfl
  have z1 : lt 10 (Int.ofNat (rlen [])) = false := by rw [hlt, hln]; rfl
  have z0 : lt 0 (Int.ofNat (rlen [])) = false := by rw [hlt, hln]; rfl
  dsimp only [tA, gA, rC] at *
  generalize rI rn = ρ at e1 e2 ⊢
  generalize rE re = σ at e1 e2 ⊢
  generalize rI ln = ρ1
  generalize rE le' = σ1
  generalize rI kn = ρ2
  generalize rI ke = ρ3
  generalize rI im = ρ4
  generalize rI ie = ρ5
  generalize tN = τ at e2 ⊢
  generalize tE = υ at e2 ⊢
  cbv
  rw [e1]
  cbv
  rw [q0]
  cbv
  rw [e2]
  cbv
  rw [q0]
  cbv
  rw [z0]
  cbv
  rw [z1]
  cbv
  refine loopU (hlp _ _ _ _ _) (fun s _ => s) (fun _ => True) 0 (by omega) trivial (by cbv) rfl ?_
  intro i hi _ C' hret hex hnorm
  cbv
  rw [z0]
  cbv
  rw [hex]
  cbv

theorem s138 {ns : List Int} {es : List (Int × Int × Int)} : O Ez NR 138 [tA, .agg (pC ns es), .agg cond1] = some (ri 0, []) := by
  obtain ⟨n, hn0⟩ : ∃ n : Nat, 5 < n := ⟨6, by omega⟩
  refine spec_of n F138 ?_
  intro rat rlen hat hln rcat hcat rcut hcut lp hlp o wrap lt le eq eqs nle tdiv tmod add sub mul room ho hw hlt hle heq heqs hnle hdiv hmod hadd hsub hmul hroom
  have q0 : eq 1 5 = false := by rw [heq]; rfl
  have z0 : lt 0 (Int.ofNat (rlen [])) = false := by rw [hlt, hln]; rfl
  dsimp only [tA, pC, cond1]
  generalize rI ns = ρ
  generalize rE es = σ
  generalize tN = τ
  generalize tE = υ
  cbv
  rw [q0]
  cbv
  refine loopU (hlp _ _ _ _ _) (fun s _ => s) (fun _ => True) 0 (by omega) trivial (by cbv) rfl ?_
  intro i hi _ C' hret hex hnorm
  cbv
  rw [z0]
  cbv
  rw [hex]
  cbv

theorem s81 {ns : List Int} {es : List (Int × Int × Int)} (hn : nOk ns) (he : eOk ns.length es) : O Ez NR 81 [tA, .agg (pC ns es), .agg cond1] = some (ri 0, []) := by
  refine spec_of 1 F81 ?_
  intro rat rlen hat hln rcat hcat rcut hcut lp hlp o wrap lt le eq eqs nle tdiv tmod add sub mul room ho hw hlt hle heq heqs hnle hdiv hmod hadd hsub hmul hroom
  have e1 := ho _ _ _ (s76 hn he)
  have e2 := ho _ _ _ k137
  have e3 := ho _ _ _ (@s138 ns es)
  have q0 : eq 0 0 = true := by rw [heq]; rfl
  dsimp only [tA, pC, cond1] at *
  generalize rI ns = ρ at e1 e3 ⊢
  generalize rE es = σ at e1 e3 ⊢
  generalize tN = τ at e1 e3 ⊢
  generalize tE = υ at e1 e3 ⊢
  cbv
  rw [e1]
  cbv
  rw [q0]
  cbv
  rw [e2]
  cbv
  rw [q0]
  cbv
  rw [e3]
  cbv

/-- is a number in a list? -/
theorem s170 (l : List Int) (x : Int) (hl : l.length < 1000000) : O Ez NR 170 [.one (.sl false 1 (rI l)), .one (vi x)] = some (rb (l.any fun y => y == x), []) := by
  obtain ⟨n, hn0⟩ : ∃ n : Nat, 1000000 < n := ⟨1000001, by omega⟩
  refine spec_of n F170 ?_
  intro rat rlen hat hln rcat hcat rcut hcut lp hlp o wrap lt le eq eqs nle tdiv tmod add sub mul room ho hw hlt hle heq heqs hnle hdiv hmod hadd hsub hmul hroom
  have ln := (hln (rI l)).trans (rI_len l)
  have rn := fun i => (hat (rI l) i).trans (rI_at l i)
  generalize hr : (l.any fun y => y == x) = r
  generalize rI l = ρ at *
  cbv
  refine loopU (hlp _ _ _ _ _) (fun s i => s.setI 5 i) (fun i => ∀ y ∈ l.take i, (y == x) = false) l.length (by omega) (by simp) (by cbv) (by cbv) ?_
  intro i hi hp C' hret hex hnorm
  rcases Nat.lt_or_ge i l.length with h | h
  · obtain ⟨y, hy⟩ : ∃ y, l[i]? = some y := ⟨_, List.getElem?_eq_getElem h⟩
    have f1 : lt (Int.ofNat i) (Int.ofNat (rlen ρ)) = true := by rw [hlt, ln, lt_true h]
    have f2 : rat ρ i = some [vi y] := by rw [rn, hy]; rfl
    have f3 : eq y x = (y == x) := heq _ _
    cbv
    rw [f1]
    cbv
    rw [f2]
    cbv
    rw [f3]
    cases hb : y == x with
    | true =>
      have : r = true := by rw [← hr, List.any_eq_true]; exact ⟨y, List.mem_of_getElem? hy, hb⟩
      rw [this]
      cbv
      rw [hret]
      cbv
    | false =>
      cbv
      refine hnorm _ h (fun z hz => ?_) ?_
      · rw [take_succ_some hy] at hz
        rcases List.mem_append.1 hz with hz | hz
        · exact hp z hz
        · rw [List.mem_singleton.1 hz]; exact hb
      · cbv
        rw [hadd, wrap_succ (by omega)]
  · have f1 : lt (Int.ofNat i) (Int.ofNat (rlen ρ)) = false := by rw [hlt, ln, lt_false h]
    have : r = false := by
      rw [← hr, List.any_eq_false]
      intro y hy
      rw [hp y (by rw [List.take_of_length_le h]; exact hy)]
      simp
    rw [this]
    cbv
    rw [f1]
    cbv
    rw [hex]
    cbv
end Am

