/-
  What functions of the given program answer, as values, shown by that evaluator: each theorem bears its own conditions.
  By an AI agent. No person has read it.
-/
import Derived.Test.YtkcbdopbapogfaaGreatS33
set_option linter.all false
set_option maxRecDepth 100000
noncomputable section
namespace Am
open Go Go.Proofs

theorem s72_31 (l : List (Int)) (c0 : List C) (c1 : List C) (p : Int → Bool) (hl : l.length < 1000000) (hf : ∀ x ∈ l, O Ez NR 31 [.one (vi x), .one (.ptr c0), .one (.ptr c1)] = some (rb (p x), [])) :
    O Ez NR 72 [.one (.sl false 1 (rI l)), .one (.clo 31 [.ptr c0, .ptr c1])] = some (ri (ixf p l 0), []) := by
  refine spec_of (l.length + 1) F72 ?_
  intro rat rlen hat hln rcat hcat rcut hcut lp hlp o wrap lt le eq eqs nle tdiv tmod add sub mul room ho hw hlt hle heq heqs hnle hdiv hmod hadd hsub hmul hroom
  have hlen := rI_len l
  have hrow := rI_at l
  generalize rI l = ρ at hlen hrow ⊢
  generalize hr : ixf p l 0 = r
  generalize hn : l.length + 1 = n
  cbv
  refine loopU (hlp _ _ _ _ _) (fun s i => s.setI 8 i) (fun i => ixf p (l.drop i) i = r) l.length (by omega) (by simpa using hr) (by cbv) (by cbv) ?_
  intro i hi hp C' hret hex hnorm
  rcases Nat.lt_or_ge i l.length with h | h
  · obtain ⟨x, hx⟩ : ∃ x, l[i]? = some x := ⟨_, List.getElem?_eq_getElem h⟩
    have e1 : lt (Int.ofNat i) (Int.ofNat (rlen ρ)) = true := by rw [hlt, hln, hlen, lt_true h]
    have e2 : rat ρ i = some [vi x] := by rw [hat, hrow, hx]; rfl
    have e3 := ho _ _ _ (hf x (List.mem_of_getElem? hx))
    rw [ixf_drop hx] at hp
    cbv
    rw [e1]
    cbv
    rw [e2]
    cbv
    rw [e3]
    cbv
    cases hpx : p x with
    | true =>
      rw [hpx] at hp
      cbv
      rw [hret]
      cbv
      rw [← hp]
      rfl
    | false =>
      rw [hpx] at hp
      cbv
      refine hnorm _ h hp ?_
      cbv
      rw [hadd, wrap_succ (by omega)]
  · have e1 : lt (Int.ofNat i) (Int.ofNat (rlen ρ)) = false := by rw [hlt, hln, hlen, lt_false h]
    cbv
    rw [e1]
    cbv
    rw [hex]
    cbv
    rw [List.drop_eq_nil_of_le h] at hp
    rw [← hp]; rfl
theorem s30_31 (l : List (Int)) (c0 : List C) (c1 : List C) (p : Int → Bool) (hl : l.length < 1000000) (hf : ∀ x ∈ l, O Ez NR 31 [.one (vi x), .one (.ptr c0), .one (.ptr c1)] = some (rb (p x), [])) :
    O Ez NR 30 [.one (.sl false 1 (rI l)), .one (.clo 31 [.ptr c0, .ptr c1])] = some (rb (l.any p), []) := by
  refine spec_of 1 F30 ?_
  intro rat rlen hat hln rcat hcat rcut hcut lp hlp o wrap lt le eq eqs nle tdiv tmod add sub mul room ho hw hlt hle heq heqs hnle hdiv hmod hadd hsub hmul hroom
  have e1 := ho _ _ _ (s72_31 l c0 c1 p hl hf)
  have e2 : le 0 (ixf p l 0) = l.any p := by rw [hle]; exact ixf_any p l
  generalize ixf p l 0 = r at e1 e2
  generalize l.any p = b at e2 ⊢
  generalize rI l = ρ at e1 ⊢
  cbv
  rw [e1]
  cbv
  rw [e2]

/-- a closure that asks whether a number's kind is wrong -/
theorem s31_32_35 (x : Int) (c0 c1 : List C) (k : Int) (b : Bool) (h1 : O Ez NR 32 [.one (vi x), .one (.ptr c0), .one (.ptr c1)] = some (ri k, [])) (h2 : O Ez NR 35 [.one (vi k)] = some (rb b, [])) :
    O Ez NR 31 [.one (vi x), .one (.ptr [.clo 35 []]), .one (.ptr [.clo 32 [.ptr c0, .ptr c1]])] = some (rb b, []) := by
  refine spec_of 1 F31 ?_
  intro rat rlen hat hln rcat hcat rcut hcut lp hlp o wrap lt le eq eqs nle tdiv tmod add sub mul room ho hw hlt hle heq heqs hnle hdiv hmod hadd hsub hmul hroom
  have e1 := ho _ _ _ h1
  have e2 := ho _ _ _ h2
  cbv
  rw [e1]
  cbv
  rw [e2]
  try cbv

/-- a closure that asks whether a number's kind is wrong -/
theorem s31_33_36 (x : Int) (c0 c1 : List C) (k : Int) (b : Bool) (h1 : O Ez NR 33 [.one (vi x), .one (.ptr c0), .one (.ptr c1)] = some (ri k, [])) (h2 : O Ez NR 36 [.one (vi k)] = some (rb b, [])) :
    O Ez NR 31 [.one (vi x), .one (.ptr [.clo 36 []]), .one (.ptr [.clo 33 [.ptr c0, .ptr c1]])] = some (rb b, []) := by
  refine spec_of 1 F31 ?_
  intro rat rlen hat hln rcat hcat rcut hcut lp hlp o wrap lt le eq eqs nle tdiv tmod add sub mul room ho hw hlt hle heq heqs hnle hdiv hmod hadd hsub hmul hroom
  have e1 := ho _ _ _ h1
  have e2 := ho _ _ _ h2
  cbv
  rw [e1]
  cbv
  rw [e2]
  try cbv

/-- a closure that asks whether a number's kind is wrong -/
theorem s31_34_37 (x : Int) (c0 c1 : List C) (k : Int) (b : Bool) (h1 : O Ez NR 34 [.one (vi x), .one (.ptr c0), .one (.ptr c1)] = some (ri k, [])) (h2 : O Ez NR 37 [.one (vi k)] = some (rb b, [])) :
    O Ez NR 31 [.one (vi x), .one (.ptr [.clo 37 []]), .one (.ptr [.clo 34 [.ptr c0, .ptr c1]])] = some (rb b, []) := by
  refine spec_of 1 F31 ?_
  intro rat rlen hat hln rcat hcat rcut hcut lp hlp o wrap lt le eq eqs nle tdiv tmod add sub mul room ho hw hlt hle heq heqs hnle hdiv hmod hadd hsub hmul hroom
  have e1 := ho _ _ _ h1
  have e2 := ho _ _ _ h2
  cbv
  rw [e1]
  cbv
  rw [e2]
  try cbv

/-- a closure that asks whether a number's kind is wrong -/
theorem s31_33_38 (x : Int) (c0 c1 : List C) (k : Int) (b : Bool) (h1 : O Ez NR 33 [.one (vi x), .one (.ptr c0), .one (.ptr c1)] = some (ri k, [])) (h2 : O Ez NR 38 [.one (vi k)] = some (rb b, [])) :
    O Ez NR 31 [.one (vi x), .one (.ptr [.clo 38 []]), .one (.ptr [.clo 33 [.ptr c0, .ptr c1]])] = some (rb b, []) := by
  refine spec_of 1 F31 ?_
  intro rat rlen hat hln rcat hcat rcut hcut lp hlp o wrap lt le eq eqs nle tdiv tmod add sub mul room ho hw hlt hle heq heqs hnle hdiv hmod hadd hsub hmul hroom
  have e1 := ho _ _ _ h1
  have e2 := ho _ _ _ h2
  cbv
  rw [e1]
  cbv
  rw [e2]
  try cbv

/-- a closure that asks whether a number's kind is wrong -/
theorem s31_34_39 (x : Int) (c0 c1 : List C) (k : Int) (b : Bool) (h1 : O Ez NR 34 [.one (vi x), .one (.ptr c0), .one (.ptr c1)] = some (ri k, [])) (h2 : O Ez NR 39 [.one (vi k)] = some (rb b, [])) :
    O Ez NR 31 [.one (vi x), .one (.ptr [.clo 39 []]), .one (.ptr [.clo 34 [.ptr c0, .ptr c1]])] = some (rb b, []) := by
  refine spec_of 1 F31 ?_
  intro rat rlen hat hln rcat hcat rcut hcut lp hlp o wrap lt le eq eqs nle tdiv tmod add sub mul room ho hw hlt hle heq heqs hnle hdiv hmod hadd hsub hmul hroom
  have e1 := ho _ _ _ h1
  have e2 := ho _ _ _ h2
  cbv
  rw [e1]
  cbv
  rw [e2]
  try cbv

theorem s29 (l : List Int) (W K : Nat) (c0 c1 : List C) (p : Int → Bool) (hl : l.length < 1000000) (hf : ∀ x ∈ l, O Ez NR 31 [.one (vi x), .one (.ptr [.clo W []]), .one (.ptr [.clo K [.ptr c0, .ptr c1]])] = some (rb (p x), [])) :
    O Ez NR 29 [.one (.sl false 1 (rI l)), .one (.clo K [.ptr c0, .ptr c1]), .one (.clo W [])] = some (rb (!l.any p), []) := by
  refine spec_of 1 F29 ?_
  intro rat rlen hat hln rcat hcat rcut hcut lp hlp o wrap lt le eq eqs nle tdiv tmod add sub mul room ho hw hlt hle heq heqs hnle hdiv hmod hadd hsub hmul hroom
  have e1 := ho _ _ _ (s30_31 l _ _ p hl hf)
  generalize l.any p = b at *
  generalize rI l = ρ at *
  cbv
  rw [e1]
  cbv
  try (cases b <;> rfl)

theorem s35 (k : Int) : O Ez NR 35 [.one (vi k)] = some (rb (!(k == 1)), []) := by
  refine spec_of 1 F35 ?_
  intro rat rlen hat hln rcat hcat rcut hcut lp hlp o wrap lt le eq eqs nle tdiv tmod add sub mul room ho hw hlt hle heq heqs hnle hdiv hmod hadd hsub hmul hroom
  rw [← heq]
  generalize hb : eq k 1 = b
  cbv
  rw [hb]
  try (cases b <;> rfl)
theorem s36 (k : Int) : O Ez NR 36 [.one (vi k)] = some (rb (k == 1), []) := by
  refine spec_of 1 F36 ?_
  intro rat rlen hat hln rcat hcat rcut hcut lp hlp o wrap lt le eq eqs nle tdiv tmod add sub mul room ho hw hlt hle heq heqs hnle hdiv hmod hadd hsub hmul hroom
  rw [← heq]
  generalize hb : eq k 1 = b
  cbv
  rw [hb]
theorem s37 (k : Int) : O Ez NR 37 [.one (vi k)] = some (rb (k == 1), []) := by
  refine spec_of 1 F37 ?_
  intro rat rlen hat hln rcat hcat rcut hcut lp hlp o wrap lt le eq eqs nle tdiv tmod add sub mul room ho hw hlt hle heq heqs hnle hdiv hmod hadd hsub hmul hroom
  rw [← heq]
  generalize hb : eq k 1 = b
  cbv
  rw [hb]
theorem s38 (k : Int) : O Ez NR 38 [.one (vi k)] = some (rb (!(k == 2)), []) := by
  refine spec_of 1 F38 ?_
  intro rat rlen hat hln rcat hcat rcut hcut lp hlp o wrap lt le eq eqs nle tdiv tmod add sub mul room ho hw hlt hle heq heqs hnle hdiv hmod hadd hsub hmul hroom
  rw [← heq]
  generalize hb : eq k 2 = b
  cbv
  rw [hb]
  try (cases b <;> rfl)
theorem s39 (k : Int) : O Ez NR 39 [.one (vi k)] = some (rb (!(k == 2)), []) := by
  refine spec_of 1 F39 ?_
  intro rat rlen hat hln rcat hcat rcut hcut lp hlp o wrap lt le eq eqs nle tdiv tmod add sub mul room ho hw hlt hle heq heqs hnle hdiv hmod hadd hsub hmul hroom
  rw [← heq]
  generalize hb : eq k 2 = b
  cbv
  rw [hb]
  try (cases b <;> rfl)

theorem s32 {sn se : List Int} {ln : List Int} {le' : List (Int × Int × Int)} {rn : List Int} {re : List (Int × Int × Int)} {kn ke im ie : List Int} {x k : Nat} {y : Int} (h1 : ln[x]? = some (Int.ofNat k)) (h2 : sn[k]? = some y) :
    O Ez NR 32 [.one (vi (Int.ofNat x)), .one (.ptr (sP sn se)), .one (.ptr (rC ln le' rn re kn ke im ie))] = some (ri y, []) := by
  refine spec_of 1 F32 ?_
  intro rat rlen hat hln rcat hcat rcut hcut lp hlp o wrap lt le eq eqs nle tdiv tmod add sub mul room ho hw hlt hle heq heqs hnle hdiv hmod hadd hsub hmul hroom
  have e1 : rat (rI ln) x = some [vi (Int.ofNat k)] := by rw [hat, rI_at, h1]; rfl
  have e2 : rat (rI sn) k = some [vi y] := by rw [hat, rI_at, h2]; rfl
  dsimp only [sP, rC] at *
  generalize rI ln = ρ1 at *
  generalize rI sn = μ at *
  generalize rI se = ν
  generalize rE le' = σ1
  generalize rI rn = ρ
  generalize rE re = σ
  generalize rI kn = ρ2
  generalize rI ke = ρ3
  generalize rI im = ρ4
  generalize rI ie = ρ5
  cbv
  rw [e1]
  cbv
  rw [e2]
  try cbv
theorem s33 {sn se : List Int} {ln : List Int} {le' : List (Int × Int × Int)} {rn : List Int} {re : List (Int × Int × Int)} {kn ke im ie : List Int} {x k : Nat} {y : Int} (h1 : rn[x]? = some (Int.ofNat k)) (h2 : sn[k]? = some y) :
    O Ez NR 33 [.one (vi (Int.ofNat x)), .one (.ptr (sP sn se)), .one (.ptr (rC ln le' rn re kn ke im ie))] = some (ri y, []) := by
  refine spec_of 1 F33 ?_
  intro rat rlen hat hln rcat hcat rcut hcut lp hlp o wrap lt le eq eqs nle tdiv tmod add sub mul room ho hw hlt hle heq heqs hnle hdiv hmod hadd hsub hmul hroom
  have e1 : rat (rI rn) x = some [vi (Int.ofNat k)] := by rw [hat, rI_at, h1]; rfl
  have e2 : rat (rI sn) k = some [vi y] := by rw [hat, rI_at, h2]; rfl
  dsimp only [sP, rC] at *
  generalize rI rn = ρ at *
  generalize rI sn = μ at *
  generalize rI se = ν
  generalize rE le' = σ1
  generalize rI ln = ρ1
  generalize rE re = σ
  generalize rI kn = ρ2
  generalize rI ke = ρ3
  generalize rI im = ρ4
  generalize rI ie = ρ5
  cbv
  rw [e1]
  cbv
  rw [e2]
  try cbv
theorem s34 {sn se : List Int} {ln : List Int} {le' : List (Int × Int × Int)} {rn : List Int} {re : List (Int × Int × Int)} {kn ke im ie : List Int} {x k : Nat} {a b y : Int} (h1 : re[x]? = some (Int.ofNat k, a, b)) (h2 : se[k]? = some y) :
    O Ez NR 34 [.one (vi (Int.ofNat x)), .one (.ptr (sP sn se)), .one (.ptr (rC ln le' rn re kn ke im ie))] = some (ri y, []) := by
  refine spec_of 1 F34 ?_
  intro rat rlen hat hln rcat hcat rcut hcut lp hlp o wrap lt le eq eqs nle tdiv tmod add sub mul room ho hw hlt hle heq heqs hnle hdiv hmod hadd hsub hmul hroom
  have e1 : rat (rE re) x = some [vi (Int.ofNat k), vi a, vi b] := by rw [hat, rE_at, h1]; rfl
  have e2 : rat (rI se) k = some [vi y] := by rw [hat, rI_at, h2]; rfl
  dsimp only [sP, rC] at *
  generalize rE re = σ at *
  generalize rI se = ν at *
  generalize rI sn = μ
  generalize rE le' = σ1
  generalize rI ln = ρ1
  generalize rI rn = ρ
  generalize rI kn = ρ2
  generalize rI ke = ρ3
  generalize rI im = ρ4
  generalize rI ie = ρ5
  cbv
  rw [e1]
  cbv
  rw [e2]
  try cbv

theorem s28 {ln : List Int} {le' : List (Int × Int × Int)} {rn : List Int} {re : List (Int × Int × Int)} {im ie : List Int} (h : ROk2 ln le' rn re im ie) :
    O Ez NR 28 [tA, .agg (rC ln le' rn re (upto ln.length) (upto le'.length) im ie)] = some (.tup [.one (own1 (lack im rn.length)), .one (own1 (lack ie re.length)), ri 0], []) := by
  have q1 := h.hl.1
  have q2 := h.hle.1
  have q3 := h.hr.1
  have q4 := h.hre.1
  have q5 := h.m.ln
  have q6 := h.m.le
  refine spec_of 1 F28 ?_
  intro rat rlen hat hln rcat hcat rcut hcut lp hlp o wrap lt le eq eqs nle tdiv tmod add sub mul room ho hw hlt hle heq heqs hnle hdiv hmod hadd hsub hmul hroom
  have e1 := ho _ _ _ (s42 h)
  have e8 := ho _ _ _ (s71 (ln := ln) (le' := le') (rn := rn) (re := re) (kn := upto ln.length) (ke := upto le'.length) (im := im) (ie := ie) (by omega) (by omega) (by omega) (by omega))
  have q0 : eq 0 0 = true := by rw [heq]; rfl
  dsimp only [tA, rC, own1] at *
  generalize rI (lack im rn.length) = κ1 at *
  generalize rI (lack ie re.length) = κ2 at *
  generalize rI (upto ln.length) = α at *
  generalize rI (upto le'.length) = β at *
  generalize rI ln = α1 at *
  generalize rE le' = α2 at *
  generalize rI rn = β1 at *
  generalize rE re = β2 at *
  generalize rI im = γ1 at *
  generalize rI ie = γ2 at *
  generalize tN = τ at *
  generalize tE = υ at *
  cbv
  rw [e1]
  cbv
  rw [q0]
  cbv
  rw [e8]
  cbv
end Am

