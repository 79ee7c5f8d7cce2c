/-
  What functions of the given program answer, as values, shown by that evaluator: each theorem bears its own conditions.
  By an AI agent. No person has read it.
-/
import Derived.Test.YtkcbdopbapogfaaGreatS29
set_option linter.all false
set_option maxRecDepth 100000
noncomputable section
namespace Am
open Go Go.Proofs

/-- a morphism of graphs, by the numbers of images -/
structure Mor (gn : List Int) (ge : List (Int × Int × Int)) (hn : List Int) (he : List (Int × Int × Int)) (im ie : List Int) : Prop where
  ln : im.length = gn.length
  le : ie.length = ge.length
  nd : ∀ (i : Nat) (a : Int), gn[i]? = some a → ∃ k : Nat, im[i]? = some (Int.ofNat k) ∧ hn[k]? = some a
  ed : ∀ (j : Nat) (e : Int × Int × Int), ge[j]? = some e → ∃ (k : Nat) (x y : Int), ie[j]? = some (Int.ofNat k) ∧ he[k]? = some (e.1, x, y) ∧ im[e.2.1.toNat]? = some x ∧ im[e.2.2.toNat]? = some y

theorem s136 {gn : List Int} {ge : List (Int × Int × Int)} {hn : List Int} {he : List (Int × Int × Int)} {im ie : List Int} (h1 : nOk gn) (h2 : eOk gn.length ge) (h3 : nOk hn) (h4 : eOk hn.length he) (M : Mor gn ge hn he im ie) :
    O Ez NR 136 [gA gn ge, gA hn he, mA im ie] = some (ri 0, []) := by
  have m1 := h1.1
  have m2 := h2.1
  obtain ⟨n, hn0⟩ : ∃ n : Nat, 200 < n := ⟨201, by omega⟩
  refine spec_of n F136 ?_
  intro rat rlen hat hln rcat hcat rcut hcut lp hlp o wrap lt le eq eqs nle tdiv tmod add sub mul room ho hw hlt hle heq heqs hnle hdiv hmod hadd hsub hmul hroom
  have e1 := ho _ _ _ (s127 h1 h2)
  have e2 := ho _ _ _ (s127 h3 h4)
  have l1 := (hln (rI gn)).trans (rI_len gn)
  have l2 := (hln (rE ge)).trans (rE_len ge)
  have l3 := (hln (rI hn)).trans (rI_len hn)
  have l4 := (hln (rE he)).trans (rE_len he)
  have l5 := ((hln (rI im)).trans (rI_len im)).trans M.ln
  have l6 := ((hln (rI ie)).trans (rI_len ie)).trans M.le
  have r1 := fun i => (hat (rI gn) i).trans (rI_at gn i)
  have r2 := fun i => (hat (rE ge) i).trans (rE_at ge i)
  have r3 := fun i => (hat (rI hn) i).trans (rI_at hn i)
  have r4 := fun i => (hat (rE he) i).trans (rE_at he i)
  have r5 := fun i => (hat (rI im) i).trans (rI_at im i)
  have r6 := fun i => (hat (rI ie) i).trans (rI_at ie i)
  have q0 : eq 0 0 = true := by rw [heq]; rfl
  have qq : ∀ x, eq x x = true := fun x => by rw [heq]; simp
  have bd := h2.2
  have nd := M.nd
  have ed := M.ed
  dsimp only [gA, mA] at *
  generalize rI gn = α1 at *
  generalize rE ge = α2 at *
  generalize rI hn = β1 at *
  generalize rE he = β2 at *
  generalize rI im = γ1 at *
  generalize rI ie = γ2 at *
  have y1 : eq (Int.ofNat (rlen γ1)) (Int.ofNat (rlen α1)) = true := by rw [heq, l5, l1]; simp
  have y2 : eq (Int.ofNat (rlen γ2)) (Int.ofNat (rlen α2)) = true := by rw [heq, l6, l2]; simp
  cbv
  rw [e1]
  cbv
  rw [q0]
  cbv
  rw [e2]
  cbv
  rw [q0]
  cbv
  rw [y1]
  cbv
  rw [y2]
  cbv
  refine loopU (hlp _ _ _ _ _) (fun s i => s.setI 9 i) (fun i => True) gn.length (by omega) trivial (by cbv) (by cbv) ?_
  intro i hi hp C' hret hex hnorm
  rcases Nat.lt_or_ge i gn.length with h | h
  · obtain ⟨x, hx⟩ : ∃ x, gn[i]? = some x := ⟨_, List.getElem?_eq_getElem (by omega)⟩
    obtain ⟨k, hk1, hk2⟩ := nd i x hx
    have hkl : k < hn.length := (List.getElem?_eq_some_iff.1 hk2).1
    have f1 : lt (Int.ofNat i) (Int.ofNat (rlen α1)) = true := by rw [hlt, l1, lt_true h]
    have f2 : rat γ1 i = some [vi (Int.ofNat k)] := by rw [r5, hk1]; rfl
    have f3 : lt (Int.ofNat k) 0 = false := by rw [hlt, ofn]; simp
    have f4 : le (Int.ofNat (rlen β1)) (Int.ofNat k) = false := by rw [hle, l3, ofn, ofn]; simp; omega
    have f5 : rat β1 k = some [vi x] := by rw [r3, hk2]; rfl
    have f6 : rat α1 i = some [vi x] := by rw [r1, hx]; rfl
    have f7 := qq x
    cbv
    rw [f1]
    cbv
    rw [f2]
    cbv
    rw [f3]
    cbv
    rw [f2]
    cbv
    rw [f4]
    cbv
    rw [f2]
    cbv
    rw [f5]
    cbv
    rw [f6]
    cbv
    rw [f7]
    cbv
    refine hnorm _ h trivial ?_
    cbv
    rw [hadd, wrap_succ (by omega)]
  · have f1 : lt (Int.ofNat i) (Int.ofNat (rlen α1)) = false := by rw [hlt, l1, lt_false h]
    cbv
    rw [f1]
    cbv
    rw [hex]
    cbv
    clear hret hex hnorm f1 hp
    refine loopU (hlp _ _ _ _ _) (fun s i => s.setI 10 i) (fun i => True) ge.length (by omega) trivial (by cbv) (by cbv) ?_
    intro j hj hp C' hret hex hnorm
    rcases Nat.lt_or_ge j ge.length with h2 | h2
    · obtain ⟨⟨ty, a, b⟩, hx⟩ : ∃ x, ge[j]? = some x := ⟨_, List.getElem?_eq_getElem (by omega)⟩
      have hxx := bd _ (List.mem_of_getElem? hx)
      obtain ⟨k, x, y, hk1, hk2, hk3, hk4⟩ := ed j _ hx
      simp only at hxx hk2 hk3 hk4
      obtain ⟨ka, rfl⟩ := toN hxx.2.2.1
      obtain ⟨kb, rfl⟩ := toN hxx.2.2.2.2.1
      have hkl : k < he.length := (List.getElem?_eq_some_iff.1 hk2).1
      have hk3 : im[ka]? = some x := hk3
      have hk4 : im[kb]? = some y := hk4
      have f1 : lt (Int.ofNat j) (Int.ofNat (rlen α2)) = true := by rw [hlt, l2, lt_true h2]
      have f2 : rat γ2 j = some [vi (Int.ofNat k)] := by rw [r6, hk1]; rfl
      have f3 : lt (Int.ofNat k) 0 = false := by rw [hlt, ofn]; simp
      have f4 : le (Int.ofNat (rlen β2)) (Int.ofNat k) = false := by rw [hle, l4, ofn, ofn]; simp; omega
      have f5 : rat α2 j = some [vi ty, vi (Int.ofNat ka), vi (Int.ofNat kb)] := by rw [r2, hx]; rfl
      have f6 : rat β2 k = some [vi ty, vi x, vi y] := by rw [r4, hk2]; rfl
      have f7 : rat γ1 ka = some [vi x] := by rw [r5, hk3]; rfl
      have f8 : rat γ1 kb = some [vi y] := by rw [r5, hk4]; rfl
      cbv
      rw [f1]
      cbv
      rw [f2]
      cbv
      rw [f3]
      cbv
      rw [f2]
      cbv
      rw [f4]
      cbv
      rw [f5]
      cbv
      rw [f2]
      cbv
      rw [f6]
      cbv
      rw [qq ty]
      cbv
      rw [f7]
      cbv
      rw [qq x]
      cbv
      rw [f8]
      cbv
      rw [qq y]
      cbv
      refine hnorm _ h2 trivial ?_
      cbv
      rw [hadd, wrap_succ (by omega)]
    · have f1 : lt (Int.ofNat j) (Int.ofNat (rlen α2)) = false := by rw [hlt, l2, lt_false h2]
      cbv
      rw [f1]
      cbv
      rw [hex]
      cbv

theorem s78 {ln : List Int} {le' : List (Int × Int × Int)} {rn : List Int} {re : List (Int × Int × Int)} {im ie : List Int} (h1 : nOk ln) (h2 : eOk ln.length le') (h3 : nOk rn) (h4 : eOk rn.length re) (M : Mor ln le' rn re im ie) :
    O Ez NR 78 [.agg (rC ln le' rn re (upto ln.length) (upto le'.length) im ie)] = some (ri 0, []) := by
  refine spec_of 1 F78 ?_
  intro rat rlen hat hln rcat hcat rcut hcut lp hlp o wrap lt le eq eqs nle tdiv tmod add sub mul room ho hw hlt hle heq heqs hnle hdiv hmod hadd hsub hmul hroom
  have e1 := ho _ _ _ (s134u h1 h2)
  have e2 := ho _ _ _ (s135u h1 h2)
  have e3 := ho _ _ _ (s136 h1 h2 h3 h4 M)
  have q0 : eq 0 0 = true := by rw [heq]; rfl
  dsimp only [gA, mA, rC, own1, own3] at *
  generalize rI (upto ln.length) = α at *
  generalize rI (upto le'.length) = β at *
  generalize rI ln = α1 at *
  generalize rE le' = α2 at *
  generalize rI rn = β1 at *
  generalize rE re = β2 at *
  generalize rI im = γ1 at *
  generalize rI ie = γ2 at *
  cbv
  rw [e1]
  cbv
  rw [q0]
  cbv
  rw [e2]
  cbv
  rw [e3]
  cbv

theorem s80 {ns : List Int} {es : List (Int × Int × Int)} (hn : nOk ns) (he : eOk ns.length es) {a b : List Int} (la : a.length < 1000000) (lb : b.length < 1000000) (ha : ∀ x ∈ a, 0 ≤ x ∧ x < ns.length)
    (hb : ∀ x ∈ b, ∃ k e, x = Int.ofNat k ∧ es[k]? = some e ∧ eFit ns e) : O Ez NR 80 [tA, gA ns es, .one (.sl false 1 (rI a)), .one (.sl false 1 (rI b))] = some (rb true, []) := by
  obtain ⟨n, hn0⟩ : ∃ n : Nat, 1000000 < n := ⟨1000001, by omega⟩
  refine spec_of n F80 ?_
  intro rat rlen hat hln rcat hcat rcut hcut lp hlp o wrap lt le eq eqs nle tdiv tmod add sub mul room ho hw hlt hle heq heqs hnle hdiv hmod hadd hsub hmul hroom
  have e1 := fun {ty a b} h1 h2 h3 => ho _ _ _ (@s68 ty a b h1 h2 h3)
  have l1 := (hln (rI a)).trans (rI_len a)
  have l2 := (hln (rI b)).trans (rI_len b)
  have r1 := fun i => (hat (rI ns) i).trans (rI_at ns i)
  have r2 := fun i => (hat (rE es) i).trans (rE_at es i)
  have r3 := fun i => (hat (rI a) i).trans (rI_at a i)
  have r4 := fun i => (hat (rI b) i).trans (rI_at b i)
  have tn := fun j h => (by obtain ⟨s, hs⟩ := tN_at j h; exact ⟨s, (hat tN j).trans hs⟩ : ∃ s, rat tN j = some [.v (.string s), vi (-1), vb false, .sl false 4 []])
  have nk := hn.2
  have ek := he.2
  dsimp only [gA, tA] at *
  generalize rI ns = ρ at *
  generalize rE es = σ at *
  generalize rI a = α at *
  generalize rI b = β at *
  generalize tN = τ at *
  generalize tE = υ at *
  cbv
  refine loopU (hlp _ _ _ _ _) (fun s i => s.setI 9 i) (fun i => True) a.length (by omega) trivial (by cbv) (by cbv) ?_
  intro i hi hp C' hret hex hnorm
  rcases Nat.lt_or_ge i a.length with h | h
  · obtain ⟨x, hx⟩ : ∃ x, a[i]? = some x := ⟨_, List.getElem?_eq_getElem (by omega)⟩
    obtain ⟨k, y, rfl, hk, hy⟩ := at_nat (ha x (List.mem_of_getElem? hx)).1 (ha x (List.mem_of_getElem? hx)).2
    obtain ⟨j, rfl⟩ := toN (nk y hy).1
    have hj : j < 5 := by have := (nk _ hy).2; rw [ofn] at this; omega
    obtain ⟨nm, hrow⟩ := tn j hj
    have f1 : lt (Int.ofNat i) (Int.ofNat (rlen α)) = true := by rw [hlt, l1, lt_true h]
    have f2 : rat α i = some [vi (Int.ofNat k)] := by rw [r3, hx]; rfl
    have f3 : rat ρ k = some [vi (Int.ofNat j)] := by rw [r1, hk]; rfl
    cbv
    rw [f1]
    cbv
    rw [f2]
    cbv
    rw [f3]
    cbv
    rw [hrow]
    cbv
    refine hnorm _ h trivial ?_
    cbv
    rw [hadd, wrap_succ (by omega)]
  · have f1 : lt (Int.ofNat i) (Int.ofNat (rlen α)) = false := by rw [hlt, l1, lt_false h]
    cbv
    rw [f1]
    cbv
    rw [hex]
    cbv
    clear hret hex hnorm f1 hp
    refine loopU (hlp _ _ _ _ _) (fun s i => s.setI 10 i) (fun i => True) b.length (by omega) trivial (by cbv) (by cbv) ?_
    intro j hj hp C' hret hex hnorm
    rcases Nat.lt_or_ge j b.length with h2 | h2
    · obtain ⟨x, hx⟩ : ∃ x, b[j]? = some x := ⟨_, List.getElem?_eq_getElem (by omega)⟩
      obtain ⟨k, ⟨ty, xa, xb⟩, rfl, hk, p, q, hp1, hq1, hfit⟩ := hb x (List.mem_of_getElem? hx)
      have hxx := ek _ (List.mem_of_getElem? hk)
      simp only at hxx hp1 hq1 hfit
      obtain ⟨ka, rfl⟩ := toN hxx.2.2.1
      obtain ⟨kb, rfl⟩ := toN hxx.2.2.2.2.1
      have hp1 : ns[ka]? = some p := hp1
      have hq1 : ns[kb]? = some q := hq1
      have f1 : lt (Int.ofNat j) (Int.ofNat (rlen β)) = true := by rw [hlt, l2, lt_true h2]
      have f2 : rat β j = some [vi (Int.ofNat k)] := by rw [r4, hx]; rfl
      have f3 : rat σ k = some [vi ty, vi (Int.ofNat ka), vi (Int.ofNat kb)] := by rw [r2, hk]; rfl
      have f4 : rat ρ ka = some [vi p] := by rw [r1, hp1]; rfl
      have f5 : rat ρ kb = some [vi q] := by rw [r1, hq1]; rfl
      have f6 := e1 ⟨hxx.1, hxx.2.1⟩ (nk p (List.mem_of_getElem? hp1)) (nk q (List.mem_of_getElem? hq1))
      rw [hfit] at f6
      cbv
      rw [f1]
      cbv
      rw [f2]
      cbv
      rw [f3]
      cbv
      rw [f4]
      cbv
      rw [f5]
      cbv
      rw [f6]
      cbv
      refine hnorm _ h2 trivial ?_
      cbv
      rw [hadd, wrap_succ (by omega)]
    · have f1 : lt (Int.ofNat j) (Int.ofNat (rlen β)) = false := by rw [hlt, l2, lt_false h2]
      cbv
      rw [f1]
      cbv
      rw [hex]
      cbv

/-- A RULE THAT IS RIGHT: all of Left is kept -/
structure ROk2 (ln : List Int) (le : List (Int × Int × Int)) (rn : List Int) (re : List (Int × Int × Int)) (im ie : List Int) : Prop where
  hl : nOk ln
  hle : eOk ln.length le
  hr : nOk rn
  hre : eOk rn.length re
  m : Mor ln le rn re im ie
  d1 : im.Nodup
  d2 : ie.Nodup
  fit : ∀ e ∈ re, eFit rn e

theorem lack_bd (l : List Int) (n : Nat) : ∀ x ∈ lack l n, ∃ k : Nat, x = Int.ofNat k ∧ k < n := fun x hx => by
  unfold lack at hx
  have := (List.mem_filter.1 hx).1
  unfold upto at this
  obtain ⟨k, hk, rfl⟩ := List.mem_map.1 this
  exact ⟨k, rfl, List.mem_range.1 hk⟩

theorem s42 {ln : List Int} {le' : List (Int × Int × Int)} {rn : List Int} {re : List (Int × Int × Int)} {im ie : List Int} (h : ROk2 ln le' rn re im ie) :
    O Ez NR 42 [tA, .agg (rC ln le' rn re (upto ln.length) (upto le'.length) im ie)] = some (ri 0, []) := by
  have q1 := h.hl.1
  have q2 := h.hle.1
  have q3 := h.hr.1
  have q4 := h.hre.1
  have q5 := h.m.ln
  have q6 := h.m.le
  have w1 := lack_len im rn.length
  have w2 := lack_len ie re.length
  refine spec_of 1 F42 ?_
  intro rat rlen hat hln rcat hcat rcut hcut lp hlp o wrap lt le eq eqs nle tdiv tmod add sub mul room ho hw hlt hle heq heqs hnle hdiv hmod hadd hsub hmul hroom
  have e1 := ho _ _ _ k74
  have e2 := ho _ _ _ k75
  have e3 := ho _ _ _ (s76 h.hl h.hle)
  have e4 := ho _ _ _ (s77 (ln := ln) (le' := le') (kn := upto ln.length) (ke := upto le'.length) (im := im) (ie := ie) h.hr h.hre)
  have e5 := ho _ _ _ (s78 h.hl h.hle h.hr h.hre h.m)
  have e6 := ho _ _ _ (s79 (l := im) (by omega) h.d1)
  have e7 := ho _ _ _ (s79 (l := ie) (by omega) h.d2)
  have e8 := ho _ _ _ (s71 (ln := ln) (le' := le') (rn := rn) (re := re) (kn := upto ln.length) (ke := upto le'.length) (im := im) (ie := ie) (by omega) (by omega) (by omega) (by omega))
  have e9 := ho _ _ _ (s80 h.hr h.hre (a := lack im rn.length) (b := lack ie re.length) (by omega) (by omega) (fun x hx => by
    obtain ⟨k, rfl, hk⟩ := lack_bd _ _ x hx
    rw [ofn]; omega) (fun x hx => by
    obtain ⟨k, rfl, hk⟩ := lack_bd _ _ x hx
    exact ⟨k, re[k], rfl, List.getElem?_eq_getElem hk, h.fit _ (List.getElem_mem hk)⟩))
  have e10 := ho _ _ _ (s81 h.hl h.hle)
  have q0 : eq 0 0 = true := by rw [heq]; rfl
  dsimp only [gA, mA, pC, tA, rC, own1, own3, cond1, rS] at *
  generalize rI (lack im rn.length) = κ1 at *
  generalize rI (lack ie re.length) = κ2 at *
  generalize rI (upto ln.length) = α at *
  generalize rI (upto le'.length) = β at *
  generalize rI ln = α1 at *
  generalize rE le' = α2 at *
  generalize rI rn = β1 at *
  generalize rE re = β2 at *
  generalize rI im = γ1 at *
  generalize rI ie = γ2 at *
  generalize tN = τ at *
  generalize tE = υ at *
  cbv
  rw [e1]
  cbv
  rw [q0]
  cbv
  rw [e2]
  cbv
  rw [e3]
  cbv
  rw [q0]
  cbv
  rw [e4]
  cbv
  rw [q0]
  cbv
  rw [e5]
  cbv
  rw [q0]
  cbv
  rw [e6]
  cbv
  rw [e7]
  cbv
  rw [e8]
  cbv
  rw [e9]
  cbv
  rw [e10]
  cbv
end Am

