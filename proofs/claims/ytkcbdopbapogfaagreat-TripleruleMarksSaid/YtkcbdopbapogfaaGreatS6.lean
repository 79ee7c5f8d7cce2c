/-
  What functions of the given program answer, as values, shown by that evaluator: each theorem bears its own conditions.
  By an AI agent. No person has read it.
-/
import Derived.Test.YtkcbdopbapogfaaGreatS5
set_option linter.all false
set_option maxRecDepth 100000
noncomputable section
namespace Am
open Go Go.Proofs

theorem toN {x : Int} (h : 0 ≤ x) : ∃ k : Nat, x = Int.ofNat k := ⟨x.toNat, by rw [ofn]; omega⟩

theorem s90 (l : List Int) (v : Int) (hl : l.length < 1000000) : O Ez NR 90 [.one (.sl false 1 (rI l)), .one (vi v)] = some (ri (ixf (fun y => v == y) l 0), []) := by
  refine spec_of (l.length + 1) F90 ?_
  intro rat rlen hat hln rcat hcat rcut hcut lp hlp o wrap lt le eq eqs nle tdiv tmod add sub mul room ho hw hlt hle heq heqs hnle hdiv hmod hadd hsub hmul hroom
  have hlen := rI_len l
  have hrow := rI_at l
  generalize rI l = ρ at hlen hrow ⊢
  generalize hr : ixf (fun y => v == y) l 0 = r
  generalize hn : l.length + 1 = n
  cbv
  refine loopU (hlp _ _ _ _ _) (fun s i => s.setI 8 i) (fun i => ixf (fun y => v == y) (l.drop i) i = r) l.length (by omega) (by simpa using hr) (by cbv) (by cbv) ?_
  intro i hi hp C' hret hex hnorm
  rcases Nat.lt_or_ge i l.length with h | h
  · obtain ⟨x, hx⟩ : ∃ x, l[i]? = some x := ⟨_, List.getElem?_eq_getElem h⟩
    have e1 : lt (Int.ofNat i) (Int.ofNat (rlen ρ)) = true := by rw [hlt, hln, hlen, lt_true h]
    have e2 : rat ρ i = some [vi x] := by rw [hat, hrow, hx]; rfl
    rw [ixf_drop hx] at hp
    rw [← heq] at hp
    cbv
    rw [e1]
    cbv
    rw [e2]
    cbv
    cases hpx : eq v x with
    | true =>
      rw [hpx] at hp
      cbv
      rw [hret]
      cbv
      rw [← hp]
      rfl
    | false =>
      rw [hpx] at hp
      cbv
      refine hnorm _ h hp ?_
      cbv
      rw [hadd, wrap_succ (by omega)]
  · have e1 : lt (Int.ofNat i) (Int.ofNat (rlen ρ)) = false := by rw [hlt, hln, hlen, lt_false h]
    cbv
    rw [e1]
    cbv
    rw [hex]
    cbv
    rw [List.drop_eq_nil_of_le h] at hp
    rw [← hp]; rfl
theorem s114 (l : List Int) (v : Int) (hl : l.length < 1000000) : O Ez NR 114 [.one (.sl false 1 (rI l)), .one (vi v)] = some (rb (l.any (fun y => v == y)), []) := by
  refine spec_of 1 F114 ?_
  intro rat rlen hat hln rcat hcat rcut hcut lp hlp o wrap lt le eq eqs nle tdiv tmod add sub mul room ho hw hlt hle heq heqs hnle hdiv hmod hadd hsub hmul hroom
  have e1 := ho _ _ _ (s90 l v hl)
  have e2 : le 0 (ixf (fun y => v == y) l 0) = l.any (fun y => v == y) := by rw [hle]; exact ixf_any _ l
  generalize ixf (fun y => v == y) l 0 = r at e1 e2
  generalize l.any (fun y => v == y) = b at e2 ⊢
  generalize rI l = ρ at e1 ⊢
  cbv
  rw [e1]
  cbv
  rw [e2]

theorem s165 (x : Int) (h0 : 0 ≤ x) (h : x < 5) : O Ez NR 165 [.one (vi x), .one (.ptr tC)] = some (rb false, []) := by
  refine spec_of 1 F165 ?_
  intro rat rlen hat hln rcat hcat rcut hcut lp hlp o wrap lt le eq eqs nle tdiv tmod add sub mul room ho hw hlt hle heq heqs hnle hdiv hmod hadd hsub hmul hroom
  have g0 : lt x 0 = false := by rw [hlt]; simp; omega
  have g1 : le (Int.ofNat (rlen tN)) x = false := by rw [hle, hln, lentN, ofn]; simp; omega
  dsimp only [tC]
  generalize tN = τ at g1 ⊢
  generalize tE = υ
  cbv
  rw [g0]
  cbv
  rw [g1]

theorem s106 (l : List Int) (hl : l.length < 1000000) (h : ∀ x ∈ l, 0 ≤ x ∧ x < 5) : O Ez NR 106 [tA, .one (.sl false 1 (rI l))] = some (ri 0, []) := by
  refine spec_of 1 F106 ?_
  intro rat rlen hat hln rcat hcat rcut hcut lp hlp o wrap lt le eq eqs nle tdiv tmod add sub mul room ho hw hlt hle heq heqs hnle hdiv hmod hadd hsub hmul hroom
  have e0 := ho _ _ _ k96
  have e2 := ho _ _ _ (s30_165 l tC (fun _ => false) hl (fun x hx => s165 x (h x hx).1 (h x hx).2))
  rw [any_no (fun _ _ => rfl)] at e2
  have q0 : eq 0 0 = true := by rw [heq]; rfl
  dsimp only [tC, tA] at *
  generalize rI l = ρ at e2 ⊢
  generalize tN = τ at e0 e2 ⊢
  generalize tE = υ at e0 e2 ⊢
  cbv
  rw [e0]
  cbv
  rw [q0]
  cbv
  rw [e2]
  cbv

theorem s107 (a : Nat) (b : Int) (h : a < 5) : O Ez NR 107 [tA, .one (vi (Int.ofNat a)), .one (vi b)] = some (rb (b == Int.ofNat a), []) := by
  refine spec_of 1 F107 ?_
  intro rat rlen hat hln rcat hcat rcut hcut lp hlp o wrap lt le eq eqs nle tdiv tmod add sub mul room ho hw hlt hle heq heqs hnle hdiv hmod hadd hsub hmul hroom
  have e0 := ho _ _ _ (k166 a h)
  have e1 := ho _ _ _ (s114 [Int.ofNat a] b (by simp))
  have e3 : [Int.ofNat a].any (fun y => b == y) = (b == Int.ofNat a) := by simp
  rw [e3] at e1
  generalize (b == Int.ofNat a) = c at e1 ⊢
  dsimp only [tA, own1] at *
  generalize rI [Int.ofNat a] = ρ at e0 e1
  generalize tN = τ at e0 ⊢
  generalize tE = υ at e0 ⊢
  cbv
  rw [e0]
  cbv
  rw [e1]
  cbv

def frT (k : Nat) : Int := [0, 2, 4, 4, 4, 4].getD k 0
def toT (k : Nat) : Int := [1, 3, 0, 1, 2, 3].getD k 0
theorem tE_at (k : Nat) (h : k < 6) : ∃ s, tE[k]? = some [.v (.string s), vi (frT k), vi (toT k), vi 0, vi (-1), vi 0, vi (-1)] := by
  match k, h with
  | 0, _ => exact ⟨_, rfl⟩
  | 1, _ => exact ⟨_, rfl⟩
  | 2, _ => exact ⟨_, rfl⟩
  | 3, _ => exact ⟨_, rfl⟩
  | 4, _ => exact ⟨_, rfl⟩
  | 5, _ => exact ⟨_, rfl⟩
  | k + 6, h => omega
/-- may an edge of this type lead from a node of this type to one of that? -/
def fitI (ty a b : Int) : Bool := frT ty.toNat == a && toT ty.toNat == b

theorem s56 {ty a b : Int} (h1 : 0 ≤ ty ∧ ty < 6) (h2 : 0 ≤ a ∧ a < 5) (h3 : 0 ≤ b ∧ b < 5) : O Ez NR 56 [tA, .one (vi ty), .one (vi a), .one (vi b)] = some (rb (fitI ty a b), []) := by
  refine spec_of 1 F56 ?_
  intro rat rlen hat hln rcat hcat rcut hcut lp hlp o wrap lt le eq eqs nle tdiv tmod add sub mul room ho hw hlt hle heq heqs hnle hdiv hmod hadd hsub hmul hroom
  obtain ⟨kt, rfl⟩ := toN h1.1
  obtain ⟨ka, rfl⟩ := toN h2.1
  obtain ⟨kb, rfl⟩ := toN h3.1
  have b1 : kt < 6 := by have := h1.2; rw [ofn] at this; omega
  have b2 : ka < 5 := by have := h2.2; rw [ofn] at this; omega
  have b3 : kb < 5 := by have := h3.2; rw [ofn] at this; omega
  have e1 := ho _ _ _ (s106 [Int.ofNat ka, Int.ofNat kb] (by simp) (by intro x hx; simp at hx; rcases hx with rfl | rfl <;> constructor <;> omega))
  rw [show rI [Int.ofNat ka, Int.ofNat kb] = [[vi (Int.ofNat ka)], [vi (Int.ofNat kb)]] from rfl] at e1
  have e2 := ho _ _ _ (s107 ka (frT kt) b2)
  have e3 := ho _ _ _ (s107 kb (toT kt) b3)
  obtain ⟨nm, hrow⟩ := tE_at kt b1
  have q0 : eq 0 0 = true := by rw [heq]; rfl
  have g0 : lt (Int.ofNat kt) 0 = false := by rw [hlt, ofn]; simp
  have g1 : le (Int.ofNat (rlen tE)) (Int.ofNat kt) = false := by rw [hle, hln, lentE, ofn, ofn]; simp; omega
  have hr : fitI (Int.ofNat kt) (Int.ofNat ka) (Int.ofNat kb) = (frT kt == Int.ofNat ka && toT kt == Int.ofNat kb) := rfl
  rw [hr]
  have e4 : rat tE kt = some _ := (hat tE kt).trans hrow
  generalize (frT kt == Int.ofNat ka) = c1 at e2 ⊢
  generalize (toT kt == Int.ofNat kb) = c2 at e3 ⊢
  generalize frT kt = f1 at e2 e4
  generalize toT kt = f2 at e3 e4
  dsimp only [tA] at *
  generalize tN = τ at e1 e2 e3 ⊢
  generalize tE = υ at e1 e2 e3 e4 g1 ⊢
  cbv
  rw [e1]
  cbv
  rw [q0]
  cbv
  rw [g0]
  cbv
  rw [g1]
  cbv
  rw [e4]
  cbv
  rw [e2]
  cbv
  cases c1 <;> cbv
  rw [e4]
  cbv
  rw [e3]
  cbv
end Am

