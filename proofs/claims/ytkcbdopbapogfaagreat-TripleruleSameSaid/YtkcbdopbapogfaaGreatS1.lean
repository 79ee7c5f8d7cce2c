/-
  What functions of the given program answer, as values, shown by that evaluator: each theorem bears its own conditions.
  By an AI agent. No person has read it.
-/
import Derived.Test.YtkcbdopbapogfaaGreatT2
set_option linter.all false
set_option maxRecDepth 100000
noncomputable section
namespace Am
open Go Go.Proofs

abbrev vi (n : Int) : C := .v (.int .i64 n)
abbrev vb (b : Bool) : C := .v (.bool b)
abbrev rb (b : Bool) : R := .one (.d (.v (.bool b)))
abbrev ri (n : Int) : R := .one (.d (.v (.int .i64 n)))
/-- where a list first has an element of a kind -/
def ixf {α : Type} (p : α → Bool) : List α → Nat → Int
  | [], _ => -1
  | x :: r, i => bif p x then Int.ofNat i else ixf p r (i + 1)
theorem ixf_drop {α : Type} {p : α → Bool} {l : List α} {i : Nat} {x : α} (h : l[i]? = some x) : ixf p (l.drop i) i = bif p x then Int.ofNat i else ixf p (l.drop (i + 1)) (i + 1) := by
  obtain ⟨h1, rfl⟩ := List.getElem?_eq_some_iff.1 h
  rw [List.drop_eq_getElem_cons h1]; rfl
theorem ixf_any' {α : Type} (p : α → Bool) : ∀ (l : List α) (i : Nat), decide (0 ≤ ixf p l i) = l.any p
  | [], i => rfl
  | x :: r, i => by
    simp only [ixf, List.any_cons]
    by_cases hp : p x = true
    · simp only [hp, cond_true, Bool.true_or, decide_eq_true_eq]
      exact Int.natCast_nonneg i
    · have hp : p x = false := by simpa using hp
      simp only [hp, cond_false, Bool.false_or]
      exact ixf_any' p r (i + 1)
theorem ixf_any {α : Type} (p : α → Bool) (l : List α) : decide (0 ≤ ixf p l 0) = l.any p := ixf_any' p l 0

theorem s72_194 (l : List (Int)) (p : Int → Bool) (hl : l.length < 1000000) (hf : ∀ x ∈ l, O Ez NR 194 [.one (vi x)] = some (rb (p x), [])) :
    O Ez NR 72 [.one (.sl false 1 (rI l)), .one (.clo 194 [])] = some (ri (ixf p l 0), []) := by
  refine spec_of (l.length + 1) F72 ?_
  intro rat rlen hat hln rcat hcat rcut hcut lp hlp o wrap lt le eq eqs nle tdiv tmod add sub mul room ho hw hlt hle heq heqs hnle hdiv hmod hadd hsub hmul hroom
  have hlen := rI_len l
  have hrow := rI_at l
  generalize rI l = ρ at hlen hrow ⊢
  generalize hr : ixf p l 0 = r
  generalize hn : l.length + 1 = n
  cbv
  refine loopU (hlp _ _ _ _ _) (fun s i => s.setI 8 i) (fun i => ixf p (l.drop i) i = r) l.length (by omega) (by simpa using hr) (by cbv) (by cbv) ?_
  intro i hi hp C' hret hex hnorm
  rcases Nat.lt_or_ge i l.length with h | h
  · obtain ⟨x, hx⟩ : ∃ x, l[i]? = some x := ⟨_, List.getElem?_eq_getElem h⟩
    have e1 : lt (Int.ofNat i) (Int.ofNat (rlen ρ)) = true := by rw [hlt, hln, hlen, lt_true h]
    have e2 : rat ρ i = some [vi x] := by rw [hat, hrow, hx]; rfl
    have e3 := ho _ _ _ (hf x (List.mem_of_getElem? hx))
    rw [ixf_drop hx] at hp
    cbv
    rw [e1]
    cbv
    rw [e2]
    cbv
    rw [e3]
    cbv
    cases hpx : p x with
    | true =>
      rw [hpx] at hp
      cbv
      rw [hret]
      cbv
      rw [← hp]
      rfl
    | false =>
      rw [hpx] at hp
      cbv
      refine hnorm _ h hp ?_
      cbv
      rw [hadd, wrap_succ (by omega)]
  · have e1 : lt (Int.ofNat i) (Int.ofNat (rlen ρ)) = false := by rw [hlt, hln, hlen, lt_false h]
    cbv
    rw [e1]
    cbv
    rw [hex]
    cbv
    rw [List.drop_eq_nil_of_le h] at hp
    rw [← hp]; rfl
theorem s30_194 (l : List (Int)) (p : Int → Bool) (hl : l.length < 1000000) (hf : ∀ x ∈ l, O Ez NR 194 [.one (vi x)] = some (rb (p x), [])) :
    O Ez NR 30 [.one (.sl false 1 (rI l)), .one (.clo 194 [])] = some (rb (l.any p), []) := by
  refine spec_of 1 F30 ?_
  intro rat rlen hat hln rcat hcat rcut hcut lp hlp o wrap lt le eq eqs nle tdiv tmod add sub mul room ho hw hlt hle heq heqs hnle hdiv hmod hadd hsub hmul hroom
  have e1 := ho _ _ _ (s72_194 l  p hl hf)
  have e2 : le 0 (ixf p l 0) = l.any p := by rw [hle]; exact ixf_any p l
  generalize ixf p l 0 = r at e1 e2
  generalize l.any p = b at e2 ⊢
  generalize rI l = ρ at e1 ⊢
  cbv
  rw [e1]
  cbv
  rw [e2]

theorem s72_202 (l : List (Int)) (c0 : List C) (p : Int → Bool) (hl : l.length < 1000000) (hf : ∀ x ∈ l, O Ez NR 202 [.one (vi x), .one (.ptr c0)] = some (rb (p x), [])) :
    O Ez NR 72 [.one (.sl false 1 (rI l)), .one (.clo 202 [.ptr c0])] = some (ri (ixf p l 0), []) := by
  refine spec_of (l.length + 1) F72 ?_
  intro rat rlen hat hln rcat hcat rcut hcut lp hlp o wrap lt le eq eqs nle tdiv tmod add sub mul room ho hw hlt hle heq heqs hnle hdiv hmod hadd hsub hmul hroom
  have hlen := rI_len l
  have hrow := rI_at l
  generalize rI l = ρ at hlen hrow ⊢
  generalize hr : ixf p l 0 = r
  generalize hn : l.length + 1 = n
  cbv
  refine loopU (hlp _ _ _ _ _) (fun s i => s.setI 8 i) (fun i => ixf p (l.drop i) i = r) l.length (by omega) (by simpa using hr) (by cbv) (by cbv) ?_
  intro i hi hp C' hret hex hnorm
  rcases Nat.lt_or_ge i l.length with h | h
  · obtain ⟨x, hx⟩ : ∃ x, l[i]? = some x := ⟨_, List.getElem?_eq_getElem h⟩
    have e1 : lt (Int.ofNat i) (Int.ofNat (rlen ρ)) = true := by rw [hlt, hln, hlen, lt_true h]
    have e2 : rat ρ i = some [vi x] := by rw [hat, hrow, hx]; rfl
    have e3 := ho _ _ _ (hf x (List.mem_of_getElem? hx))
    rw [ixf_drop hx] at hp
    cbv
    rw [e1]
    cbv
    rw [e2]
    cbv
    rw [e3]
    cbv
    cases hpx : p x with
    | true =>
      rw [hpx] at hp
      cbv
      rw [hret]
      cbv
      rw [← hp]
      rfl
    | false =>
      rw [hpx] at hp
      cbv
      refine hnorm _ h hp ?_
      cbv
      rw [hadd, wrap_succ (by omega)]
  · have e1 : lt (Int.ofNat i) (Int.ofNat (rlen ρ)) = false := by rw [hlt, hln, hlen, lt_false h]
    cbv
    rw [e1]
    cbv
    rw [hex]
    cbv
    rw [List.drop_eq_nil_of_le h] at hp
    rw [← hp]; rfl
theorem s30_202 (l : List (Int)) (c0 : List C) (p : Int → Bool) (hl : l.length < 1000000) (hf : ∀ x ∈ l, O Ez NR 202 [.one (vi x), .one (.ptr c0)] = some (rb (p x), [])) :
    O Ez NR 30 [.one (.sl false 1 (rI l)), .one (.clo 202 [.ptr c0])] = some (rb (l.any p), []) := by
  refine spec_of 1 F30 ?_
  intro rat rlen hat hln rcat hcat rcut hcut lp hlp o wrap lt le eq eqs nle tdiv tmod add sub mul room ho hw hlt hle heq heqs hnle hdiv hmod hadd hsub hmul hroom
  have e1 := ho _ _ _ (s72_202 l c0 p hl hf)
  have e2 : le 0 (ixf p l 0) = l.any p := by rw [hle]; exact ixf_any p l
  generalize ixf p l 0 = r at e1 e2
  generalize l.any p = b at e2 ⊢
  generalize rI l = ρ at e1 ⊢
  cbv
  rw [e1]
  cbv
  rw [e2]

theorem s72_148 (l : List (Int)) (c0 : List C) (p : Int → Bool) (hl : l.length < 1000000) (hf : ∀ x ∈ l, O Ez NR 148 [.one (vi x), .one (.ptr c0)] = some (rb (p x), [])) :
    O Ez NR 72 [.one (.sl false 1 (rI l)), .one (.clo 148 [.ptr c0])] = some (ri (ixf p l 0), []) := by
  refine spec_of (l.length + 1) F72 ?_
  intro rat rlen hat hln rcat hcat rcut hcut lp hlp o wrap lt le eq eqs nle tdiv tmod add sub mul room ho hw hlt hle heq heqs hnle hdiv hmod hadd hsub hmul hroom
  have hlen := rI_len l
  have hrow := rI_at l
  generalize rI l = ρ at hlen hrow ⊢
  generalize hr : ixf p l 0 = r
  generalize hn : l.length + 1 = n
  cbv
  refine loopU (hlp _ _ _ _ _) (fun s i => s.setI 8 i) (fun i => ixf p (l.drop i) i = r) l.length (by omega) (by simpa using hr) (by cbv) (by cbv) ?_
  intro i hi hp C' hret hex hnorm
  rcases Nat.lt_or_ge i l.length with h | h
  · obtain ⟨x, hx⟩ : ∃ x, l[i]? = some x := ⟨_, List.getElem?_eq_getElem h⟩
    have e1 : lt (Int.ofNat i) (Int.ofNat (rlen ρ)) = true := by rw [hlt, hln, hlen, lt_true h]
    have e2 : rat ρ i = some [vi x] := by rw [hat, hrow, hx]; rfl
    have e3 := ho _ _ _ (hf x (List.mem_of_getElem? hx))
    rw [ixf_drop hx] at hp
    cbv
    rw [e1]
    cbv
    rw [e2]
    cbv
    rw [e3]
    cbv
    cases hpx : p x with
    | true =>
      rw [hpx] at hp
      cbv
      rw [hret]
      cbv
      rw [← hp]
      rfl
    | false =>
      rw [hpx] at hp
      cbv
      refine hnorm _ h hp ?_
      cbv
      rw [hadd, wrap_succ (by omega)]
  · have e1 : lt (Int.ofNat i) (Int.ofNat (rlen ρ)) = false := by rw [hlt, hln, hlen, lt_false h]
    cbv
    rw [e1]
    cbv
    rw [hex]
    cbv
    rw [List.drop_eq_nil_of_le h] at hp
    rw [← hp]; rfl
theorem s30_148 (l : List (Int)) (c0 : List C) (p : Int → Bool) (hl : l.length < 1000000) (hf : ∀ x ∈ l, O Ez NR 148 [.one (vi x), .one (.ptr c0)] = some (rb (p x), [])) :
    O Ez NR 30 [.one (.sl false 1 (rI l)), .one (.clo 148 [.ptr c0])] = some (rb (l.any p), []) := by
  refine spec_of 1 F30 ?_
  intro rat rlen hat hln rcat hcat rcut hcut lp hlp o wrap lt le eq eqs nle tdiv tmod add sub mul room ho hw hlt hle heq heqs hnle hdiv hmod hadd hsub hmul hroom
  have e1 := ho _ _ _ (s72_148 l c0 p hl hf)
  have e2 : le 0 (ixf p l 0) = l.any p := by rw [hle]; exact ixf_any p l
  generalize ixf p l 0 = r at e1 e2
  generalize l.any p = b at e2 ⊢
  generalize rI l = ρ at e1 ⊢
  cbv
  rw [e1]
  cbv
  rw [e2]

theorem s72_165 (l : List (Int)) (c0 : List C) (p : Int → Bool) (hl : l.length < 1000000) (hf : ∀ x ∈ l, O Ez NR 165 [.one (vi x), .one (.ptr c0)] = some (rb (p x), [])) :
    O Ez NR 72 [.one (.sl false 1 (rI l)), .one (.clo 165 [.ptr c0])] = some (ri (ixf p l 0), []) := by
  refine spec_of (l.length + 1) F72 ?_
  intro rat rlen hat hln rcat hcat rcut hcut lp hlp o wrap lt le eq eqs nle tdiv tmod add sub mul room ho hw hlt hle heq heqs hnle hdiv hmod hadd hsub hmul hroom
  have hlen := rI_len l
  have hrow := rI_at l
  generalize rI l = ρ at hlen hrow ⊢
  generalize hr : ixf p l 0 = r
  generalize hn : l.length + 1 = n
  cbv
  refine loopU (hlp _ _ _ _ _) (fun s i => s.setI 8 i) (fun i => ixf p (l.drop i) i = r) l.length (by omega) (by simpa using hr) (by cbv) (by cbv) ?_
  intro i hi hp C' hret hex hnorm
  rcases Nat.lt_or_ge i l.length with h | h
  · obtain ⟨x, hx⟩ : ∃ x, l[i]? = some x := ⟨_, List.getElem?_eq_getElem h⟩
    have e1 : lt (Int.ofNat i) (Int.ofNat (rlen ρ)) = true := by rw [hlt, hln, hlen, lt_true h]
    have e2 : rat ρ i = some [vi x] := by rw [hat, hrow, hx]; rfl
    have e3 := ho _ _ _ (hf x (List.mem_of_getElem? hx))
    rw [ixf_drop hx] at hp
    cbv
    rw [e1]
    cbv
    rw [e2]
    cbv
    rw [e3]
    cbv
    cases hpx : p x with
    | true =>
      rw [hpx] at hp
      cbv
      rw [hret]
      cbv
      rw [← hp]
      rfl
    | false =>
      rw [hpx] at hp
      cbv
      refine hnorm _ h hp ?_
      cbv
      rw [hadd, wrap_succ (by omega)]
  · have e1 : lt (Int.ofNat i) (Int.ofNat (rlen ρ)) = false := by rw [hlt, hln, hlen, lt_false h]
    cbv
    rw [e1]
    cbv
    rw [hex]
    cbv
    rw [List.drop_eq_nil_of_le h] at hp
    rw [← hp]; rfl
theorem s30_165 (l : List (Int)) (c0 : List C) (p : Int → Bool) (hl : l.length < 1000000) (hf : ∀ x ∈ l, O Ez NR 165 [.one (vi x), .one (.ptr c0)] = some (rb (p x), [])) :
    O Ez NR 30 [.one (.sl false 1 (rI l)), .one (.clo 165 [.ptr c0])] = some (rb (l.any p), []) := by
  refine spec_of 1 F30 ?_
  intro rat rlen hat hln rcat hcat rcut hcut lp hlp o wrap lt le eq eqs nle tdiv tmod add sub mul room ho hw hlt hle heq heqs hnle hdiv hmod hadd hsub hmul hroom
  have e1 := ho _ _ _ (s72_165 l c0 p hl hf)
  have e2 : le 0 (ixf p l 0) = l.any p := by rw [hle]; exact ixf_any p l
  generalize ixf p l 0 = r at e1 e2
  generalize l.any p = b at e2 ⊢
  generalize rI l = ρ at e1 ⊢
  cbv
  rw [e1]
  cbv
  rw [e2]

theorem s72_161 (l : List (Int)) (c0 : List C) (c1 : List C) (p : Int → Bool) (hl : l.length < 1000000) (hf : ∀ x ∈ l, O Ez NR 161 [.one (vi x), .one (.ptr c0), .one (.ptr c1)] = some (rb (p x), [])) :
    O Ez NR 72 [.one (.sl false 1 (rI l)), .one (.clo 161 [.ptr c0, .ptr c1])] = some (ri (ixf p l 0), []) := by
  refine spec_of (l.length + 1) F72 ?_
  intro rat rlen hat hln rcat hcat rcut hcut lp hlp o wrap lt le eq eqs nle tdiv tmod add sub mul room ho hw hlt hle heq heqs hnle hdiv hmod hadd hsub hmul hroom
  have hlen := rI_len l
  have hrow := rI_at l
  generalize rI l = ρ at hlen hrow ⊢
  generalize hr : ixf p l 0 = r
  generalize hn : l.length + 1 = n
  cbv
  refine loopU (hlp _ _ _ _ _) (fun s i => s.setI 8 i) (fun i => ixf p (l.drop i) i = r) l.length (by omega) (by simpa using hr) (by cbv) (by cbv) ?_
  intro i hi hp C' hret hex hnorm
  rcases Nat.lt_or_ge i l.length with h | h
  · obtain ⟨x, hx⟩ : ∃ x, l[i]? = some x := ⟨_, List.getElem?_eq_getElem h⟩
    have e1 : lt (Int.ofNat i) (Int.ofNat (rlen ρ)) = true := by rw [hlt, hln, hlen, lt_true h]
    have e2 : rat ρ i = some [vi x] := by rw [hat, hrow, hx]; rfl
    have e3 := ho _ _ _ (hf x (List.mem_of_getElem? hx))
    rw [ixf_drop hx] at hp
    cbv
    rw [e1]
    cbv
    rw [e2]
    cbv
    rw [e3]
    cbv
    cases hpx : p x with
    | true =>
      rw [hpx] at hp
      cbv
      rw [hret]
      cbv
      rw [← hp]
      rfl
    | false =>
      rw [hpx] at hp
      cbv
      refine hnorm _ h hp ?_
      cbv
      rw [hadd, wrap_succ (by omega)]
  · have e1 : lt (Int.ofNat i) (Int.ofNat (rlen ρ)) = false := by rw [hlt, hln, hlen, lt_false h]
    cbv
    rw [e1]
    cbv
    rw [hex]
    cbv
    rw [List.drop_eq_nil_of_le h] at hp
    rw [← hp]; rfl
theorem s30_161 (l : List (Int)) (c0 : List C) (c1 : List C) (p : Int → Bool) (hl : l.length < 1000000) (hf : ∀ x ∈ l, O Ez NR 161 [.one (vi x), .one (.ptr c0), .one (.ptr c1)] = some (rb (p x), [])) :
    O Ez NR 30 [.one (.sl false 1 (rI l)), .one (.clo 161 [.ptr c0, .ptr c1])] = some (rb (l.any p), []) := by
  refine spec_of 1 F30 ?_
  intro rat rlen hat hln rcat hcat rcut hcut lp hlp o wrap lt le eq eqs nle tdiv tmod add sub mul room ho hw hlt hle heq heqs hnle hdiv hmod hadd hsub hmul hroom
  have e1 := ho _ _ _ (s72_161 l c0 c1 p hl hf)
  have e2 : le 0 (ixf p l 0) = l.any p := by rw [hle]; exact ixf_any p l
  generalize ixf p l 0 = r at e1 e2
  generalize l.any p = b at e2 ⊢
  generalize rI l = ρ at e1 ⊢
  cbv
  rw [e1]
  cbv
  rw [e2]

theorem s72_162 (l : List (Int)) (c0 : List C) (c1 : List C) (p : Int → Bool) (hl : l.length < 1000000) (hf : ∀ x ∈ l, O Ez NR 162 [.one (vi x), .one (.ptr c0), .one (.ptr c1)] = some (rb (p x), [])) :
    O Ez NR 72 [.one (.sl false 1 (rI l)), .one (.clo 162 [.ptr c0, .ptr c1])] = some (ri (ixf p l 0), []) := by
  refine spec_of (l.length + 1) F72 ?_
  intro rat rlen hat hln rcat hcat rcut hcut lp hlp o wrap lt le eq eqs nle tdiv tmod add sub mul room ho hw hlt hle heq heqs hnle hdiv hmod hadd hsub hmul hroom
  have hlen := rI_len l
  have hrow := rI_at l
  generalize rI l = ρ at hlen hrow ⊢
  generalize hr : ixf p l 0 = r
  generalize hn : l.length + 1 = n
  cbv
  refine loopU (hlp _ _ _ _ _) (fun s i => s.setI 8 i) (fun i => ixf p (l.drop i) i = r) l.length (by omega) (by simpa using hr) (by cbv) (by cbv) ?_
  intro i hi hp C' hret hex hnorm
  rcases Nat.lt_or_ge i l.length with h | h
  · obtain ⟨x, hx⟩ : ∃ x, l[i]? = some x := ⟨_, List.getElem?_eq_getElem h⟩
    have e1 : lt (Int.ofNat i) (Int.ofNat (rlen ρ)) = true := by rw [hlt, hln, hlen, lt_true h]
    have e2 : rat ρ i = some [vi x] := by rw [hat, hrow, hx]; rfl
    have e3 := ho _ _ _ (hf x (List.mem_of_getElem? hx))
    rw [ixf_drop hx] at hp
    cbv
    rw [e1]
    cbv
    rw [e2]
    cbv
    rw [e3]
    cbv
    cases hpx : p x with
    | true =>
      rw [hpx] at hp
      cbv
      rw [hret]
      cbv
      rw [← hp]
      rfl
    | false =>
      rw [hpx] at hp
      cbv
      refine hnorm _ h hp ?_
      cbv
      rw [hadd, wrap_succ (by omega)]
  · have e1 : lt (Int.ofNat i) (Int.ofNat (rlen ρ)) = false := by rw [hlt, hln, hlen, lt_false h]
    cbv
    rw [e1]
    cbv
    rw [hex]
    cbv
    rw [List.drop_eq_nil_of_le h] at hp
    rw [← hp]; rfl
theorem s30_162 (l : List (Int)) (c0 : List C) (c1 : List C) (p : Int → Bool) (hl : l.length < 1000000) (hf : ∀ x ∈ l, O Ez NR 162 [.one (vi x), .one (.ptr c0), .one (.ptr c1)] = some (rb (p x), [])) :
    O Ez NR 30 [.one (.sl false 1 (rI l)), .one (.clo 162 [.ptr c0, .ptr c1])] = some (rb (l.any p), []) := by
  refine spec_of 1 F30 ?_
  intro rat rlen hat hln rcat hcat rcut hcut lp hlp o wrap lt le eq eqs nle tdiv tmod add sub mul room ho hw hlt hle heq heqs hnle hdiv hmod hadd hsub hmul hroom
  have e1 := ho _ _ _ (s72_162 l c0 c1 p hl hf)
  have e2 : le 0 (ixf p l 0) = l.any p := by rw [hle]; exact ixf_any p l
  generalize ixf p l 0 = r at e1 e2
  generalize l.any p = b at e2 ⊢
  generalize rI l = ρ at e1 ⊢
  cbv
  rw [e1]
  cbv
  rw [e2]

theorem s198_196 (l : List (Int × Int × Int)) (c0 : List C) (p : Int × Int × Int → Bool) (hl : l.length < 1000000) (hf : ∀ x ∈ l, O Ez NR 196 [.agg [vi x.1, vi x.2.1, vi x.2.2], .one (.ptr c0)] = some (rb (p x), [])) :
    O Ez NR 198 [.one (.sl false 3 (rE l)), .one (.clo 196 [.ptr c0])] = some (ri (ixf p l 0), []) := by
  refine spec_of (l.length + 1) F198 ?_
  intro rat rlen hat hln rcat hcat rcut hcut lp hlp o wrap lt le eq eqs nle tdiv tmod add sub mul room ho hw hlt hle heq heqs hnle hdiv hmod hadd hsub hmul hroom
  have hlen := rE_len l
  have hrow := rE_at l
  generalize rE l = ρ at hlen hrow ⊢
  generalize hr : ixf p l 0 = r
  generalize hn : l.length + 1 = n
  cbv
  refine loopU (hlp _ _ _ _ _) (fun s i => s.setI 8 i) (fun i => ixf p (l.drop i) i = r) l.length (by omega) (by simpa using hr) (by cbv) (by cbv) ?_
  intro i hi hp C' hret hex hnorm
  rcases Nat.lt_or_ge i l.length with h | h
  · obtain ⟨x, hx⟩ : ∃ x, l[i]? = some x := ⟨_, List.getElem?_eq_getElem h⟩
    have e1 : lt (Int.ofNat i) (Int.ofNat (rlen ρ)) = true := by rw [hlt, hln, hlen, lt_true h]
    have e2 : rat ρ i = some [vi x.1, vi x.2.1, vi x.2.2] := by rw [hat, hrow, hx]; rfl
    have e3 := ho _ _ _ (hf x (List.mem_of_getElem? hx))
    rw [ixf_drop hx] at hp
    cbv
    rw [e1]
    cbv
    rw [e2]
    cbv
    rw [e3]
    cbv
    cases hpx : p x with
    | true =>
      rw [hpx] at hp
      cbv
      rw [hret]
      cbv
      rw [← hp]
      rfl
    | false =>
      rw [hpx] at hp
      cbv
      refine hnorm _ h hp ?_
      cbv
      rw [hadd, wrap_succ (by omega)]
  · have e1 : lt (Int.ofNat i) (Int.ofNat (rlen ρ)) = false := by rw [hlt, hln, hlen, lt_false h]
    cbv
    rw [e1]
    cbv
    rw [hex]
    cbv
    rw [List.drop_eq_nil_of_le h] at hp
    rw [← hp]; rfl
theorem s149_196 (l : List (Int × Int × Int)) (c0 : List C) (p : Int × Int × Int → Bool) (hl : l.length < 1000000) (hf : ∀ x ∈ l, O Ez NR 196 [.agg [vi x.1, vi x.2.1, vi x.2.2], .one (.ptr c0)] = some (rb (p x), [])) :
    O Ez NR 149 [.one (.sl false 3 (rE l)), .one (.clo 196 [.ptr c0])] = some (rb (l.any p), []) := by
  refine spec_of 1 F149 ?_
  intro rat rlen hat hln rcat hcat rcut hcut lp hlp o wrap lt le eq eqs nle tdiv tmod add sub mul room ho hw hlt hle heq heqs hnle hdiv hmod hadd hsub hmul hroom
  have e1 := ho _ _ _ (s198_196 l c0 p hl hf)
  have e2 : le 0 (ixf p l 0) = l.any p := by rw [hle]; exact ixf_any p l
  generalize ixf p l 0 = r at e1 e2
  generalize l.any p = b at e2 ⊢
  generalize rE l = ρ at e1 ⊢
  cbv
  rw [e1]
  cbv
  rw [e2]

theorem s198_203 (l : List (Int × Int × Int)) (c0 : List C) (p : Int × Int × Int → Bool) (hl : l.length < 1000000) (hf : ∀ x ∈ l, O Ez NR 203 [.agg [vi x.1, vi x.2.1, vi x.2.2], .one (.ptr c0)] = some (rb (p x), [])) :
    O Ez NR 198 [.one (.sl false 3 (rE l)), .one (.clo 203 [.ptr c0])] = some (ri (ixf p l 0), []) := by
  refine spec_of (l.length + 1) F198 ?_
  intro rat rlen hat hln rcat hcat rcut hcut lp hlp o wrap lt le eq eqs nle tdiv tmod add sub mul room ho hw hlt hle heq heqs hnle hdiv hmod hadd hsub hmul hroom
  have hlen := rE_len l
  have hrow := rE_at l
  generalize rE l = ρ at hlen hrow ⊢
  generalize hr : ixf p l 0 = r
  generalize hn : l.length + 1 = n
  cbv
  refine loopU (hlp _ _ _ _ _) (fun s i => s.setI 8 i) (fun i => ixf p (l.drop i) i = r) l.length (by omega) (by simpa using hr) (by cbv) (by cbv) ?_
  intro i hi hp C' hret hex hnorm
  rcases Nat.lt_or_ge i l.length with h | h
  · obtain ⟨x, hx⟩ : ∃ x, l[i]? = some x := ⟨_, List.getElem?_eq_getElem h⟩
    have e1 : lt (Int.ofNat i) (Int.ofNat (rlen ρ)) = true := by rw [hlt, hln, hlen, lt_true h]
    have e2 : rat ρ i = some [vi x.1, vi x.2.1, vi x.2.2] := by rw [hat, hrow, hx]; rfl
    have e3 := ho _ _ _ (hf x (List.mem_of_getElem? hx))
    rw [ixf_drop hx] at hp
    cbv
    rw [e1]
    cbv
    rw [e2]
    cbv
    rw [e3]
    cbv
    cases hpx : p x with
    | true =>
      rw [hpx] at hp
      cbv
      rw [hret]
      cbv
      rw [← hp]
      rfl
    | false =>
      rw [hpx] at hp
      cbv
      refine hnorm _ h hp ?_
      cbv
      rw [hadd, wrap_succ (by omega)]
  · have e1 : lt (Int.ofNat i) (Int.ofNat (rlen ρ)) = false := by rw [hlt, hln, hlen, lt_false h]
    cbv
    rw [e1]
    cbv
    rw [hex]
    cbv
    rw [List.drop_eq_nil_of_le h] at hp
    rw [← hp]; rfl
theorem s149_203 (l : List (Int × Int × Int)) (c0 : List C) (p : Int × Int × Int → Bool) (hl : l.length < 1000000) (hf : ∀ x ∈ l, O Ez NR 203 [.agg [vi x.1, vi x.2.1, vi x.2.2], .one (.ptr c0)] = some (rb (p x), [])) :
    O Ez NR 149 [.one (.sl false 3 (rE l)), .one (.clo 203 [.ptr c0])] = some (rb (l.any p), []) := by
  refine spec_of 1 F149 ?_
  intro rat rlen hat hln rcat hcat rcut hcut lp hlp o wrap lt le eq eqs nle tdiv tmod add sub mul room ho hw hlt hle heq heqs hnle hdiv hmod hadd hsub hmul hroom
  have e1 := ho _ _ _ (s198_203 l c0 p hl hf)
  have e2 : le 0 (ixf p l 0) = l.any p := by rw [hle]; exact ixf_any p l
  generalize ixf p l 0 = r at e1 e2
  generalize l.any p = b at e2 ⊢
  generalize rE l = ρ at e1 ⊢
  cbv
  rw [e1]
  cbv
  rw [e2]

theorem s198_150 (l : List (Int × Int × Int)) (c0 : List C) (p : Int × Int × Int → Bool) (hl : l.length < 1000000) (hf : ∀ x ∈ l, O Ez NR 150 [.agg [vi x.1, vi x.2.1, vi x.2.2], .one (.ptr c0)] = some (rb (p x), [])) :
    O Ez NR 198 [.one (.sl false 3 (rE l)), .one (.clo 150 [.ptr c0])] = some (ri (ixf p l 0), []) := by
  refine spec_of (l.length + 1) F198 ?_
  intro rat rlen hat hln rcat hcat rcut hcut lp hlp o wrap lt le eq eqs nle tdiv tmod add sub mul room ho hw hlt hle heq heqs hnle hdiv hmod hadd hsub hmul hroom
  have hlen := rE_len l
  have hrow := rE_at l
  generalize rE l = ρ at hlen hrow ⊢
  generalize hr : ixf p l 0 = r
  generalize hn : l.length + 1 = n
  cbv
  refine loopU (hlp _ _ _ _ _) (fun s i => s.setI 8 i) (fun i => ixf p (l.drop i) i = r) l.length (by omega) (by simpa using hr) (by cbv) (by cbv) ?_
  intro i hi hp C' hret hex hnorm
  rcases Nat.lt_or_ge i l.length with h | h
  · obtain ⟨x, hx⟩ : ∃ x, l[i]? = some x := ⟨_, List.getElem?_eq_getElem h⟩
    have e1 : lt (Int.ofNat i) (Int.ofNat (rlen ρ)) = true := by rw [hlt, hln, hlen, lt_true h]
    have e2 : rat ρ i = some [vi x.1, vi x.2.1, vi x.2.2] := by rw [hat, hrow, hx]; rfl
    have e3 := ho _ _ _ (hf x (List.mem_of_getElem? hx))
    rw [ixf_drop hx] at hp
    cbv
    rw [e1]
    cbv
    rw [e2]
    cbv
    rw [e3]
    cbv
    cases hpx : p x with
    | true =>
      rw [hpx] at hp
      cbv
      rw [hret]
      cbv
      rw [← hp]
      rfl
    | false =>
      rw [hpx] at hp
      cbv
      refine hnorm _ h hp ?_
      cbv
      rw [hadd, wrap_succ (by omega)]
  · have e1 : lt (Int.ofNat i) (Int.ofNat (rlen ρ)) = false := by rw [hlt, hln, hlen, lt_false h]
    cbv
    rw [e1]
    cbv
    rw [hex]
    cbv
    rw [List.drop_eq_nil_of_le h] at hp
    rw [← hp]; rfl
theorem s149_150 (l : List (Int × Int × Int)) (c0 : List C) (p : Int × Int × Int → Bool) (hl : l.length < 1000000) (hf : ∀ x ∈ l, O Ez NR 150 [.agg [vi x.1, vi x.2.1, vi x.2.2], .one (.ptr c0)] = some (rb (p x), [])) :
    O Ez NR 149 [.one (.sl false 3 (rE l)), .one (.clo 150 [.ptr c0])] = some (rb (l.any p), []) := by
  refine spec_of 1 F149 ?_
  intro rat rlen hat hln rcat hcat rcut hcut lp hlp o wrap lt le eq eqs nle tdiv tmod add sub mul room ho hw hlt hle heq heqs hnle hdiv hmod hadd hsub hmul hroom
  have e1 := ho _ _ _ (s198_150 l c0 p hl hf)
  have e2 : le 0 (ixf p l 0) = l.any p := by rw [hle]; exact ixf_any p l
  generalize ixf p l 0 = r at e1 e2
  generalize l.any p = b at e2 ⊢
  generalize rE l = ρ at e1 ⊢
  cbv
  rw [e1]
  cbv
  rw [e2]
end Am

