/-
  What functions of the given program answer, as values, shown by that evaluator: each theorem bears its own conditions.
  By an AI agent. No person has read it.
-/
import Derived.Test.YtkcbdopbapogfaaGreatS23
set_option linter.all false
set_option maxRecDepth 100000
noncomputable section
namespace Am
open Go Go.Proofs

theorem pre_app {α : Type} (l l' : List α) : pre l (l ++ l') := fun i x h => by
  have hi := (List.getElem?_eq_some_iff.1 h).1
  rw [List.getElem?_append_left hi]; exact h
theorem addE_app (ns : List Int) (de : List (Nat × Nat × Nat)) (e0 : List (Int × Int × Int)) : ∀ i, ∃ l, addE ns de e0 i = e0 ++ l
  | 0 => ⟨[], by simp [addE]⟩
  | i + 1 => by
    obtain ⟨l, hl⟩ := addE_app ns de e0 i
    cases h : fits ns (edv ns.length de i) with
    | true => exact ⟨l ++ [edv ns.length de i], by rw [addE_yes h, hl, List.append_assoc]⟩
    | false => exact ⟨l, by rw [addE_no h, hl]⟩
/-- what is right of an edge -/
def eRight (ns : List Int) (e : Int × Int × Int) : Prop := (0 ≤ e.1 ∧ e.1 < 6 ∧ 0 ≤ e.2.1 ∧ e.2.1 < ns.length ∧ 0 ≤ e.2.2 ∧ e.2.2 < ns.length) ∧ eFit ns e
theorem right_of {ns : List Int} {de : List (Nat × Nat × Nat)} {i : Nat} (hn : ns.length ≠ 0) (h : fits ns (edv ns.length de i) = true) : eRight ns (edv ns.length de i) := by
  generalize hp : de.getD i (0, 0, 0) = p
  have he : edv ns.length de i = (Int.ofNat (p.1 % 6), Int.ofNat (p.2.1 % ns.length), Int.ofNat (p.2.2 % ns.length)) := by unfold edv; rw [hp]
  rw [he] at h ⊢
  have b1 : p.1 % 6 < 6 := Nat.mod_lt _ (by omega)
  have b2 : p.2.1 % ns.length < ns.length := Nat.mod_lt _ (by omega)
  have b3 : p.2.2 % ns.length < ns.length := Nat.mod_lt _ (by omega)
  refine ⟨?_, ns[p.2.1 % ns.length], ns[p.2.2 % ns.length], List.getElem?_eq_getElem b2, List.getElem?_eq_getElem b3, ?_⟩
  · simp only [ofn]; omega
  · unfold fits at h
    simp only [show (Int.ofNat (p.2.1 % ns.length)).toNat = p.2.1 % ns.length from rfl, show (Int.ofNat (p.2.2 % ns.length)).toNat = p.2.2 % ns.length from rfl, List.getD_eq_getElem?_getD, List.getElem?_eq_getElem b2, List.getElem?_eq_getElem b3, Option.getD_some] at h
    exact h
theorem addE_right {ns : List Int} {de : List (Nat × Nat × Nat)} {e0 : List (Int × Int × Int)} (hn : ns.length ≠ 0) (h0 : ∀ e ∈ e0, eRight ns e) : ∀ i, ∀ e ∈ addE ns de e0 i, eRight ns e
  | 0, e, he => h0 e he
  | i + 1, e, he => by
    cases h : fits ns (edv ns.length de i) with
    | true =>
      rw [addE_yes h] at he
      rcases List.mem_append.1 he with he | he
      · exact addE_right hn h0 i e he
      · rw [List.mem_singleton.1 he]; exact right_of hn h
    | false => rw [addE_no h] at he; exact addE_right hn h0 i e he
theorem addR_right {ns : List Int} {de : List (Nat × Nat × Nat)} {e0 : List (Int × Int × Int)} (h0 : ∀ e ∈ e0, eRight ns e) (m : Nat) : ∀ e ∈ addE ns de e0 (rounds ns m), eRight ns e := by
  by_cases hn : ns.length = 0
  · rw [show rounds ns m = 0 by unfold rounds; rw [if_pos hn]]; exact h0
  · exact addE_right hn h0 _
theorem right_mono {l l' : List Int} (h : pre l l') {e : Int × Int × Int} (he : eRight l e) : eRight l' e := by
  obtain ⟨⟨h1, h2, h3, h4, h5, h6⟩, a, b, ha, hb, hf⟩ := he
  have hlen : l.length ≤ l'.length := by
    rcases Nat.lt_or_ge l'.length l.length with hh | hh
    · have := pre_lt h (i := l'.length) hh; omega
    · exact hh
  exact ⟨⟨h1, h2, h3, by omega, h5, by omega⟩, a, b, h _ _ ha, h _ _ hb, hf⟩

theorem made_ok {dn : List (Nat × Nat)} {de : List (Nat × Nat × Nat)} {xn : List Nat} {xe : List (Nat × Nat × Nat)} (h : DOk dn de xn xe) : ROk (mLn dn) (mLe dn de) (mRn dn xn) (mRe dn de xn xe) := by
  have h1 := h.h1
  have h2 := h.h2
  have h3 := h.h3
  have h4 := h.h4
  have q1 := mLn_len dn
  have q2 := mLe_len dn de
  have q3 := mRn_len dn xn
  have q4 : (mRe dn de xn xe).length ≤ 3 + 4 := by
    have a1 := addE_len (mRn dn xn) xe (mLe dn de) (rounds (mRn dn xn) xe.length)
    have a2 := rounds_le (mRn dn xn) xe.length
    unfold mRe
    omega
  have pn : pre (mLn dn) (mRn dn xn) := pre_app _ _
  have r1 : ∀ e ∈ mLe dn de, eRight (mLn dn) e := addR_right (fun e he => by cases he) _
  have r2 : ∀ e ∈ mRe dn de xn xe, eRight (mRn dn xn) e := addR_right (fun e he => right_mono pn (r1 e he)) _
  have pe : pre (mLe dn de) (mRe dn de xn xe) := by
    obtain ⟨l, hl⟩ := addE_app (mRn dn xn) xe (mLe dn de) (rounds (mRn dn xn) xe.length)
    unfold mRe
    rw [hl]
    exact pre_app _ _
  exact ⟨⟨by omega, kds_ok _⟩, ⟨by omega, fun e he => (r1 e he).1⟩, ⟨by omega, mRn_ok dn xn⟩, ⟨by omega, fun e he => (r2 e he).1⟩, by omega, by omega, pn, pe, fun e he => (r2 e he).2, fun e he => (r1 e he).2⟩

theorem tr_congr {α : Type} {c c' : Nat → Bool} {v : Nat → α} {g0 : List α} {j0 : List Int} : ∀ n, (∀ i, i < n → c i = c' i) → tr c v g0 j0 n = tr c' v g0 j0 n
  | 0, _ => rfl
  | n + 1, h => by
    have ih := tr_congr (v := v) (g0 := g0) (j0 := j0) n (fun i hi => h i (by omega))
    have hn := h n (by omega)
    cases hc : c n with
    | true => rw [tr_yes hc, tr_yes (hn ▸ hc), ih]
    | false => rw [tr_no hc, tr_no (hn ▸ hc), ih]

theorem swN (k : Nat) (h : k < 5) : ([1].any fun y => zN.getD k 0 == y) = ([3].any fun y => sN.getD k 0 == y) ∧ (zN.getD k 0 == 1) = (sN.getD k 0 == 3) := by
  match k, h with
  | 0, _ | 1, _ | 2, _ | 3, _ | 4, _ => exact ⟨by decide, by decide⟩
  | k + 5, h => omega
theorem swE (k : Nat) (h : k < 6) : ([1].any fun y => zE.getD k 0 == y) = ([3].any fun y => sE.getD k 0 == y) ∧ (zE.getD k 0 == 1) = (sE.getD k 0 == 3) := by
  match k, h with
  | 0, _ | 1, _ | 2, _ | 3, _ | 4, _ | 5, _ => exact ⟨by decide, by decide⟩
  | k + 6, h => omega
theorem getD_mem {α : Type} {l : List α} {i : Nat} {d : α} (h : i < l.length) : l.getD i d ∈ l := by
  rw [List.getD_eq_getElem?_getD, List.getElem?_eq_getElem h]; exact List.getElem_mem h

theorem trN_sw {ln rn : List Int} (h : ∀ x ∈ rn, 0 ≤ x ∧ x < 5) : trN [1] zN ln rn = trN [3] sN ln rn := by
  unfold trN
  refine tr_congr _ fun i hi => ?_
  unfold chosen
  dsimp only
  have := h _ (getD_mem (d := 0) hi)
  rw [(swN (rn.getD i 0).toNat (by omega)).1]
theorem trE_sw {J : List Int} {le' re : List (Int × Int × Int)} (h : ∀ e ∈ re, 0 ≤ e.1 ∧ e.1 < 6) : trE [1] zE J le' re = trE [3] sE J le' re := by
  unfold trE
  refine tr_congr _ fun i hi => ?_
  unfold chosen
  dsimp only
  have := h _ (getD_mem (d := (0, 0, 0)) hi)
  rw [(swE (re.getD i (0, 0, 0)).1.toNat (by omega)).1]
theorem chN_sw {l : List Int} (h : ∀ x ∈ l, 0 ≤ x ∧ x < 5) : chN zN 1 l = chN sN 3 l := by
  unfold chN
  refine tr_congr _ fun i hi => ?_
  have := h _ (getD_mem (d := 0) hi)
  exact (swN _ (by omega)).2
theorem chE_sw {J : List Int} {l : List (Int × Int × Int)} (h : ∀ e ∈ l, 0 ≤ e.1 ∧ e.1 < 6) : chE zE 1 J l = chE sE 3 J l := by
  unfold chE
  refine tr_congr _ fun i hi => ?_
  have := h _ (getD_mem (d := (0, 0, 0)) hi)
  exact (swE _ (by omega)).2

/-- is a draft small? -/
def smallB (a b c d : Nat) : Bool := decide (a ≤ 3) && (decide (b ≤ 3) && (decide (c ≤ 3) && decide (d ≤ 4)))
theorem s25 (ρ2 ρ3 x1 x3 : List (List C)) : O Ez NR 25 [.agg [.sl false 2 ρ2, .sl false 3 ρ3, .sl false 1 x1, .sl false 3 x3]] = some (rb (smallB ρ2.length ρ3.length x1.length x3.length), []) := by
  refine spec_of 1 F25 ?_
  intro rat rlen hat hln rcat hcat rcut hcut lp hlp o wrap lt le eq eqs nle tdiv tmod add sub mul room ho hw hlt hle heq heqs hnle hdiv hmod hadd hsub hmul hroom
  have g1 : le (Int.ofNat (rlen ρ2)) 3 = decide (ρ2.length ≤ 3) := by rw [hle, hln, ofn]; simp; omega
  have g2 : le (Int.ofNat (rlen ρ3)) 3 = decide (ρ3.length ≤ 3) := by rw [hle, hln, ofn]; simp; omega
  have g3 : le (Int.ofNat (rlen x1)) 3 = decide (x1.length ≤ 3) := by rw [hle, hln, ofn]; simp; omega
  have g4 : le (Int.ofNat (rlen x3)) 4 = decide (x3.length ≤ 4) := by rw [hle, hln, ofn]; simp; omega
  unfold smallB
  generalize decide (ρ2.length ≤ 3) = b1 at *
  generalize decide (ρ3.length ≤ 3) = b2 at *
  generalize decide (x1.length ≤ 3) = b3 at *
  generalize decide (x3.length ≤ 4) = b4 at *
  cbv
  rw [g1]
  cbv
  cases b1 with
  | false => cbv
  | true =>
  cbv
  rw [g2]
  cbv
  cases b2 with
  | false => cbv
  | true =>
  cbv
  rw [g3]
  cbv
  cases b3 with
  | false => cbv
  | true =>
  cbv
  rw [g4]
  try cbv
  try rfl
end Am

