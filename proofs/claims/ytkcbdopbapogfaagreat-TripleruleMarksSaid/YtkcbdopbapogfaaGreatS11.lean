/-
  What functions of the given program answer, as values, shown by that evaluator: each theorem bears its own conditions.
  By an AI agent. No person has read it.
-/
import Derived.Test.YtkcbdopbapogfaaGreatS10
set_option linter.all false
set_option maxRecDepth 100000
noncomputable section
namespace Am
open Go Go.Proofs

/-- what a list begins with -/
def pre {α : Type} (l l' : List α) : Prop := ∀ (i : Nat) (x : α), l[i]? = some x → l'[i]? = some x
theorem pre_lt {α : Type} {l l' : List α} (h : pre l l') {i : Nat} (hi : i < l.length) : i < l'.length := by
  have := h i _ (List.getElem?_eq_getElem hi)
  exact (List.getElem?_eq_some_iff.1 this).1

theorem s158 {an : List Int} {ae : List (Int × Int × Int)} {bn : List Int} {be : List (Int × Int × Int)} (h1 : nOk an) (h2 : eOk an.length ae) (h3 : nOk bn) (h4 : eOk bn.length be) (pn : pre an bn) (pe : pre ae be) :
    O Ez NR 158 [gA an ae, gA bn be, mA (upto an.length) (upto ae.length)] = some (ri 0, []) := by
  have n1 := h1.1
  have n2 := h2.1
  obtain ⟨n, hfn⟩ : ∃ n : Nat, 200 < n := ⟨201, by omega⟩
  refine spec_of n F158 ?_
  intro rat rlen hat hln rcat hcat rcut hcut lp hlp o wrap lt le eq eqs nle tdiv tmod add sub mul room ho hw hlt hle heq heqs hnle hdiv hmod hadd hsub hmul hroom
  have e1 := ho _ _ _ (s147 h1 h2)
  have e2 := ho _ _ _ (s147 h3 h4)
  have hlN := rI_len (upto an.length)
  have hrN := fun i (h : i < an.length) => (by rw [hat, rI_at, upto_at _ i h]; rfl : rat (rI (upto an.length)) i = some [vi (Int.ofNat i)])
  have hlE := rI_len (upto ae.length)
  have hrE := fun i (h : i < ae.length) => (by rw [hat, rI_at, upto_at _ i h]; rfl : rat (rI (upto ae.length)) i = some [vi (Int.ofNat i)])
  rw [upto_len] at hlN hlE
  have la := rI_len an
  have lb := rI_len bn
  have lc := rE_len ae
  have ld := rE_len be
  have ha := fun i => (hat (rI an) i).trans (rI_at an i)
  have hb := fun i => (hat (rI bn) i).trans (rI_at bn i)
  have hc := fun i => (hat (rE ae) i).trans (rE_at ae i)
  have hd := fun i => (hat (rE be) i).trans (rE_at be i)
  have q0 : eq 0 0 = true := by rw [heq]; rfl
  have qq : ∀ x, eq x x = true := fun x => by rw [heq]; simp
  dsimp only [gA, mA] at *
  generalize rI (upto an.length) = α at hlN hrN ⊢
  generalize rI (upto ae.length) = β at hlE hrE ⊢
  generalize rI an = ρ at e1 la ha ⊢
  generalize rE ae = σ at e1 lc hc ⊢
  generalize rI bn = ρ' at e2 lb hb ⊢
  generalize rE be = σ' at e2 ld hd ⊢
  have q1 : eq (Int.ofNat (rlen α)) (Int.ofNat (rlen ρ)) = true := by rw [heq, hln, hln, hlN, la]; simp
  have q2 : eq (Int.ofNat (rlen β)) (Int.ofNat (rlen σ)) = true := by rw [heq, hln, hln, hlE, lc]; simp
  cbv
  rw [e1]
  cbv
  rw [q0]
  cbv
  rw [e2]
  cbv
  rw [q0]
  cbv
  rw [q1]
  cbv
  rw [q2]
  cbv
  refine loopU (hlp _ _ _ _ _) (fun s i => s.setI 44 i) (fun _ => True) an.length (by omega) trivial (by cbv) (by cbv) ?_
  intro i hi hp C' hret hex hnorm
  rcases Nat.lt_or_ge i an.length with h | h
  · obtain ⟨x, hx⟩ : ∃ x, an[i]? = some x := ⟨_, List.getElem?_eq_getElem h⟩
    have g1 : lt (Int.ofNat i) (Int.ofNat (rlen α)) = true := by rw [hlt, hln, hlN, lt_true h]
    have g2 := hrN i h
    have g3 : rat ρ i = some [vi x] := by rw [ha, hx]; rfl
    have g4 : rat ρ' i = some [vi x] := by rw [hb, pn i x hx]; rfl
    have g5 : lt (Int.ofNat i) 0 = false := by rw [hlt, ofn]; simp
    have g6 : le (Int.ofNat (rlen ρ')) (Int.ofNat i) = false := by rw [hle, hln, lb, ofn, ofn]; have := pre_lt pn h; simp; omega
    cbv
    rw [g1]
    cbv
    rw [g2]
    cbv
    rw [g5]
    cbv
    rw [g6]
    cbv
    rw [g4]
    cbv
    rw [g3]
    cbv
    rw [qq]
    cbv
    refine hnorm _ h trivial ?_
    cbv
    rw [hadd, wrap_succ (by omega)]
  · have g1 : lt (Int.ofNat i) (Int.ofNat (rlen α)) = false := by rw [hlt, hln, hlN, lt_false h]
    cbv
    rw [g1]
    cbv
    rw [hex]
    cbv
    clear hret hex hnorm g1 hi hp
    refine loopU (hlp _ _ _ _ _) (fun s i => s.setI 73 i) (fun _ => True) ae.length (by omega) trivial (by cbv) (by cbv) ?_
    intro i hi hp C' hret hex hnorm
    rcases Nat.lt_or_ge i ae.length with h | h
    · obtain ⟨e, hx⟩ : ∃ e, ae[i]? = some e := ⟨_, List.getElem?_eq_getElem h⟩
      have hm := h2.2 e (List.mem_of_getElem? hx)
      obtain ⟨ty, x, y⟩ := e
      simp only at hm
      obtain ⟨kx, rfl⟩ := toN hm.2.2.1
      obtain ⟨ky, rfl⟩ := toN hm.2.2.2.2.1
      have bx : kx < an.length := by have := hm.2.2.2.1; rw [ofn] at this; omega
      have by' : ky < an.length := by have := hm.2.2.2.2.2; rw [ofn] at this; omega
      have g1 : lt (Int.ofNat i) (Int.ofNat (rlen β)) = true := by rw [hlt, hln, hlE, lt_true h]
      have g2 := hrE i h
      have g3 : rat σ i = some [vi ty, vi (Int.ofNat kx), vi (Int.ofNat ky)] := by rw [hc, hx]; rfl
      have g4 : rat σ' i = some [vi ty, vi (Int.ofNat kx), vi (Int.ofNat ky)] := by rw [hd, pe i _ hx]; rfl
      have g5 : lt (Int.ofNat i) 0 = false := by rw [hlt, ofn]; simp
      have g6 : le (Int.ofNat (rlen σ')) (Int.ofNat i) = false := by rw [hle, hln, ld, ofn, ofn]; have := pre_lt pe h; simp; omega
      have f1 := hrN kx bx
      have f2 := hrN ky by'
      cbv
      rw [g1]
      cbv
      rw [g2]
      cbv
      rw [g5]
      cbv
      rw [g6]
      cbv
      rw [g3]
      cbv
      rw [g4]
      cbv
      rw [qq]
      cbv
      rw [f1]
      cbv
      rw [qq]
      cbv
      rw [f2]
      cbv
      rw [qq]
      cbv
      refine hnorm _ h trivial ?_
      cbv
      rw [hadd, wrap_succ (by omega)]
    · have g1 : lt (Int.ofNat i) (Int.ofNat (rlen β)) = false := by rw [hlt, hln, hlE, lt_false h]
      cbv
      rw [g1]
      cbv
      rw [hex]
      cbv

theorem s159 {an : List Int} {ae : List (Int × Int × Int)} {bn : List Int} {be : List (Int × Int × Int)} (h1 : nOk an) (h2 : eOk an.length ae) (h3 : nOk bn) (h4 : eOk bn.length be) (pn : pre an bn) (pe : pre ae be) (n4 : an.length < 4) (e4 : ae.length < 4) :
    O Ez NR 159 [gA an ae, gA bn be, mA (upto an.length) (upto ae.length)] = some (rb true, []) := by
  refine spec_of 1 F159 ?_
  intro rat rlen hat hln rcat hcat rcut hcut lp hlp o wrap lt le eq eqs nle tdiv tmod add sub mul room ho hw hlt hle heq heqs hnle hdiv hmod hadd hsub hmul hroom
  have e1 := ho _ _ _ (s158 h1 h2 h3 h4 pn pe)
  have e2 := ho _ _ _ (k208 an.length n4)
  have e3 := ho _ _ _ (k208 ae.length e4)
  have l1 : rlen (rI (upto an.length)) = an.length := by rw [hln, rI_len, upto_len]
  have l2 : rlen (rI (upto ae.length)) = ae.length := by rw [hln, rI_len, upto_len]
  have qq : ∀ x, eq x x = true := fun x => by rw [heq]; simp
  dsimp only [gA, mA] at *
  generalize rI (upto an.length) = α at e1 e2 l1 ⊢
  generalize rI (upto ae.length) = β at e1 e3 l2 ⊢
  rw [← l1] at e2
  rw [← l2] at e3
  generalize rI an = ρ at e1 ⊢
  generalize rE ae = σ at e1 ⊢
  generalize rI bn = ρ' at e1 ⊢
  generalize rE be = σ' at e1 ⊢
  cbv
  rw [e1]
  cbv
  rw [qq]
  cbv
  rw [e2]
  cbv
  rw [qq]
  cbv
  rw [e3]
  cbv
  rw [qq]

/-- the rules that are dealt with: all of Left is kept -/
structure ROk (ln : List Int) (le : List (Int × Int × Int)) (rn : List Int) (re : List (Int × Int × Int)) : Prop where
  hl : nOk ln
  hle : eOk ln.length le
  hr : nOk rn
  hre : eOk rn.length re
  n4 : ln.length < 4
  e4 : le.length < 4
  pn : pre ln rn
  pe : pre le re
  fit : ∀ e ∈ re, eFit rn e
  lfit : ∀ e ∈ le, eFit ln e

abbrev rD (ln : List Int) (le : List (Int × Int × Int)) (rn : List Int) (re : List (Int × Int × Int)) : List C := rC ln le rn re (upto ln.length) (upto le.length) (upto ln.length) (upto le.length)

theorem s100 {ln : List Int} {le' : List (Int × Int × Int)} {rn : List Int} {re : List (Int × Int × Int)} (h : ROk ln le' rn re) : O Ez NR 100 [.agg (rD ln le' rn re)] = some (ri 0, []) := by
  refine spec_of 1 F100 ?_
  intro rat rlen hat hln rcat hcat rcut hcut lp hlp o wrap lt le eq eqs nle tdiv tmod add sub mul room ho hw hlt hle heq heqs hnle hdiv hmod hadd hsub hmul hroom
  have e1 := ho _ _ _ (s157 h.hl h.n4 h.hle)
  have e2 := ho _ _ _ (s158 h.hl h.hle h.hr h.hre h.pn h.pe)
  have e3 := ho _ _ _ (s159 h.hl h.hle h.hr h.hre h.pn h.pe h.n4 h.e4)
  have q0 : eq 0 0 = true := by rw [heq]; rfl
  dsimp only [gA, mA, rD, rC, own1, own3] at *
  generalize rI (upto ln.length) = α at e1 e2 e3 ⊢
  generalize rI (upto le'.length) = β at e1 e2 e3 ⊢
  generalize rI ln = ρ at e1 e2 e3 ⊢
  generalize rE le' = σ at e1 e2 e3 ⊢
  generalize rI rn = ρ' at e2 e3 ⊢
  generalize rE re = σ' at e2 e3 ⊢
  cbv
  rw [e1]
  cbv
  rw [q0]
  cbv
  rw [e2]
  cbv
  rw [q0]
  cbv
  rw [e3]
  cbv

theorem lack_mem {l : List Int} {n : Nat} {x : Int} (h : x ∈ lack l n) : ∃ k : Nat, x = Int.ofNat k ∧ k < n := by
  unfold lack at h
  have := (List.mem_filter.1 h).1
  unfold upto at this
  obtain ⟨k, hk, rfl⟩ := List.mem_map.1 this
  exact ⟨k, rfl, List.mem_range.1 hk⟩

theorem s52 {ln : List Int} {le' : List (Int × Int × Int)} {rn : List Int} {re : List (Int × Int × Int)} (h : ROk ln le' rn re) : O Ez NR 52 [tA, .agg (rD ln le' rn re)] = some (ri 0, []) := by
  have m1 := h.hr.1
  have m2 := h.hre.1
  have m3 := h.n4
  have m4 := h.e4
  refine spec_of 1 F52 ?_
  intro rat rlen hat hln rcat hcat rcut hcut lp hlp o wrap lt le eq eqs nle tdiv tmod add sub mul room ho hw hlt hle heq heqs hnle hdiv hmod hadd hsub hmul hroom
  have e1 := ho _ _ _ k96
  have e2 := ho _ _ _ k97r
  have e3 := ho _ _ _ (s98 h.hl h.hle)
  have e4 := ho _ _ _ (s99 (ln := ln) (le' := le') (kn := upto ln.length) (ke := upto le'.length) (im := upto ln.length) (ie := upto le'.length) h.hr h.hre)
  have e5 := ho _ _ _ (s100 h)
  have e6 := ho _ _ _ (s101 (ln := ln) (le' := le') (rn := rn) (re := re) (kn := upto ln.length) (ke := upto le'.length) (im := upto ln.length) (ie := upto le'.length) (by omega) (by omega) (by rw [upto_len]; omega) (by rw [upto_len]; omega))
  have e7 := ho _ _ _ (s102 h.hr h.hre (a := lack (upto ln.length) rn.length) (b := lack (upto le'.length) re.length) (by have := lack_len (upto ln.length) rn.length; omega) (by have := lack_len (upto le'.length) re.length; omega)
    (fun x hx => by obtain ⟨k, rfl, hk⟩ := lack_mem hx; rw [ofn]; omega)
    (fun x hx => by obtain ⟨k, rfl, hk⟩ := lack_mem hx; exact ⟨k, _, rfl, List.getElem?_eq_getElem hk, h.fit _ (List.getElem_mem hk)⟩))
  have e8 := ho _ _ _ (s103 h.hl h.hle)
  have q0 : eq 0 0 = true := by rw [heq]; rfl
  dsimp only [gA, mA, rD, rC, own1, own3, tA, pC, cond1] at *
  generalize rI (lack (upto ln.length) rn.length) = γ at e6 e7
  generalize rI (lack (upto le'.length) re.length) = δ at e6 e7
  generalize rI (upto ln.length) = α at e4 e5 e6 ⊢
  generalize rI (upto le'.length) = β at e4 e5 e6 ⊢
  generalize rI ln = ρ at e3 e4 e5 e6 e8 ⊢
  generalize rE le' = σ at e3 e4 e5 e6 e8 ⊢
  generalize rI rn = ρ' at e4 e5 e6 e7 ⊢
  generalize rE re = σ' at e4 e5 e6 e7 ⊢
  generalize tN = τ at e1 e3 e4 e7 e8 ⊢
  generalize tE = υ at e1 e3 e4 e7 e8 ⊢
  cbv
  rw [e1]
  cbv
  rw [q0]
  cbv
  rw [e2]
  cbv
  rw [e3]
  cbv
  rw [q0]
  cbv
  rw [e4]
  cbv
  rw [q0]
  cbv
  rw [e5]
  cbv
  rw [q0]
  cbv
  rw [e6]
  cbv
  rw [e7]
  cbv
  rw [e8]
  cbv
end Am

