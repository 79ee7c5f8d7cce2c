/-
  What functions of the given program answer, as values, shown by that evaluator: each theorem bears its own conditions.
  By an AI agent. No person has read it.
-/
import Derived.Test.YtkcbdopbapogfaaGreatS25
set_option linter.all false
set_option maxRecDepth 100000
noncomputable section
namespace Am
open Go Go.Proofs

theorem s175 {x : Int} (h0 : 0 ≤ x) (h1 : x ≤ 99) : O Ez NR 175 [.one (vi x)] = some (rb true, []) := by
  refine spec_of 1 F175 ?_
  intro rat rlen hat hln rcat hcat rcut hcut lp hlp o wrap lt le eq eqs nle tdiv tmod add sub mul room ho hw hlt hle heq heqs hnle hdiv hmod hadd hsub hmul hroom
  have e1 : le 0 x = true := by rw [hle]; simp [h0]
  have e2 : le x 99 = true := by rw [hle]; simp [h1]
  cbv
  rw [e1]
  cbv
  rw [e2]
  try cbv

theorem s176 {n : Nat} {ty a b : Int} (h : 0 ≤ ty ∧ ty < 6 ∧ 0 ≤ a ∧ a < n ∧ 0 ≤ b ∧ b < n) : O Ez NR 176 [.agg [vi ty, vi a, vi b], .one (vi (Int.ofNat n))] = some (rb true, []) := by
  refine spec_of 1 F176 ?_
  intro rat rlen hat hln rcat hcat rcut hcut lp hlp o wrap lt le eq eqs nle tdiv tmod add sub mul room ho hw hlt hle heq heqs hnle hdiv hmod hadd hsub hmul hroom
  have e0 := ho _ _ _ (s175 h.1 (by omega))
  have e1 : le 0 a = true := by rw [hle]; simp [h]
  have e2 : lt a (Int.ofNat n) = true := by rw [hlt, ofn]; simp [h]
  have e3 : le 0 b = true := by rw [hle]; simp [h]
  have e4 : lt b (Int.ofNat n) = true := by rw [hlt, ofn]; simp [h]
  cbv
  rw [e0]
  cbv
  rw [e1]
  cbv
  rw [e2]
  cbv
  rw [e3]
  cbv
  rw [e4]
  try cbv

theorem s127 {ns : List Int} {es : List (Int × Int × Int)} (hn : nOk ns) (he : eOk ns.length es) : O Ez NR 127 [gA ns es] = some (ri 0, []) := by
  have m1 := hn.1
  have m2 := he.1
  obtain ⟨n, hn0⟩ : ∃ n : Nat, 200 < n := ⟨201, by omega⟩
  refine spec_of n F127 ?_
  intro rat rlen hat hln rcat hcat rcut hcut lp hlp o wrap lt le eq eqs nle tdiv tmod add sub mul room ho hw hlt hle heq heqs hnle hdiv hmod hadd hsub hmul hroom
  have e1 := fun {x} h0 h1 => ho _ _ _ (@s175 x h0 h1)
  have e2 := fun {m a b c} h => ho _ _ _ (@s176 m a b c h)
  have ln := (hln (rI ns)).trans (rI_len ns)
  have le' := (hln (rE es)).trans (rE_len es)
  have rn := fun i => (hat (rI ns) i).trans (rI_at ns i)
  have re := fun i => (hat (rE es) i).trans (rE_at es i)
  have g1 : lt 40 (Int.ofNat (rlen (rI ns))) = false := by rw [hlt, ln, ofn]; simp; omega
  have g2 : lt 80 (Int.ofNat (rlen (rE es))) = false := by rw [hlt, le', ofn]; simp; omega
  dsimp only [gA] at *
  generalize rI ns = ρ at *
  generalize rE es = σ at *
  cbv
  rw [g1]
  cbv
  rw [g2]
  cbv
  refine loopU (hlp _ _ _ _ _) (fun s i => s.setI 3 i) (fun _ => True) ns.length (by omega) trivial (by cbv) (by cbv) ?_
  intro i hi hp C' hret hex hnorm
  rcases Nat.lt_or_ge i ns.length with h | h
  · obtain ⟨x, hx⟩ : ∃ x, ns[i]? = some x := ⟨_, List.getElem?_eq_getElem h⟩
    have hxx := hn.2 x (List.mem_of_getElem? hx)
    have f1 : lt (Int.ofNat i) (Int.ofNat (rlen ρ)) = true := by rw [hlt, ln, lt_true h]
    have f2 : rat ρ i = some [vi x] := by rw [rn, hx]; rfl
    have f3 := e1 hxx.1 (by omega)
    cbv
    rw [f1]
    cbv
    rw [f2]
    cbv
    rw [f3]
    cbv
    refine hnorm _ h trivial ?_
    cbv
    rw [hadd, wrap_succ (by omega)]
  · have f1 : lt (Int.ofNat i) (Int.ofNat (rlen ρ)) = false := by rw [hlt, ln, lt_false h]
    cbv
    rw [f1]
    cbv
    rw [hex]
    cbv
    clear hret hex hnorm f1 hp
    refine loopU (hlp _ _ _ _ _) (fun s i => s.setI 4 i) (fun _ => True) es.length (by omega) trivial (by cbv) (by cbv) ?_
    intro j hj hp C' hret hex hnorm
    rcases Nat.lt_or_ge j es.length with h | h
    · obtain ⟨⟨ty, a, b⟩, hx⟩ : ∃ x, es[j]? = some x := ⟨_, List.getElem?_eq_getElem h⟩
      have hxx := he.2 _ (List.mem_of_getElem? hx)
      have f1 : lt (Int.ofNat j) (Int.ofNat (rlen σ)) = true := by rw [hlt, le', lt_true h]
      have f2 : rat σ j = some [vi ty, vi a, vi b] := by rw [re, hx]; rfl
      have f3 := e2 hxx
      rw [← ln] at f3
      cbv
      rw [f1]
      cbv
      rw [f2]
      cbv
      rw [f3]
      cbv
      refine hnorm _ h trivial ?_
      cbv
      rw [hadd, wrap_succ (by omega)]
    · have f1 : lt (Int.ofNat j) (Int.ofNat (rlen σ)) = false := by rw [hlt, le', lt_false h]
      cbv
      rw [f1]
      cbv
      rw [hex]
      cbv

theorem s128 {ns : List Int} {es : List (Int × Int × Int)} (hn : nOk ns) (he : eOk ns.length es) : O Ez NR 128 [tA, gA ns es] = some (rb true, []) := by
  have m1 := hn.1
  have m2 := he.1
  obtain ⟨n, hn0⟩ : ∃ n : Nat, 200 < n := ⟨201, by omega⟩
  refine spec_of n F128 ?_
  intro rat rlen hat hln rcat hcat rcut hcut lp hlp o wrap lt le eq eqs nle tdiv tmod add sub mul room ho hw hlt hle heq heqs hnle hdiv hmod hadd hsub hmul hroom
  have ln := (hln (rI ns)).trans (rI_len ns)
  have le' := (hln (rE es)).trans (rE_len es)
  have rn := fun i => (hat (rI ns) i).trans (rI_at ns i)
  have re := fun i => (hat (rE es) i).trans (rE_at es i)
  have l5 : rlen tN = 5 := by rw [hln]; rfl
  have l6 : rlen tE = 6 := by rw [hln]; rfl
  dsimp only [gA, tA] at *
  generalize rI ns = ρ at *
  generalize rE es = σ at *
  generalize tN = τ at *
  generalize tE = υ at *
  cbv
  refine loopU (hlp _ _ _ _ _) (fun s i => s.setI 5 i) (fun _ => True) ns.length (by omega) trivial (by cbv) (by cbv) ?_
  intro i hi hp C' hret hex hnorm
  rcases Nat.lt_or_ge i ns.length with h | h
  · obtain ⟨x, hx⟩ : ∃ x, ns[i]? = some x := ⟨_, List.getElem?_eq_getElem h⟩
    have hxx := hn.2 x (List.mem_of_getElem? hx)
    have f1 : lt (Int.ofNat i) (Int.ofNat (rlen ρ)) = true := by rw [hlt, ln, lt_true h]
    have f2 : rat ρ i = some [vi x] := by rw [rn, hx]; rfl
    have f3 : lt x 0 = false := by rw [hlt]; simp; omega
    have f4 : le (Int.ofNat (rlen τ)) x = false := by rw [hle, l5, ofn]; simp; omega
    cbv
    rw [f1]
    cbv
    rw [f2]
    cbv
    rw [f3]
    cbv
    rw [f2]
    cbv
    rw [f4]
    cbv
    refine hnorm _ h trivial ?_
    cbv
    rw [hadd, wrap_succ (by omega)]
  · have f1 : lt (Int.ofNat i) (Int.ofNat (rlen ρ)) = false := by rw [hlt, ln, lt_false h]
    cbv
    rw [f1]
    cbv
    rw [hex]
    cbv
    clear hret hex hnorm f1 hp
    refine loopU (hlp _ _ _ _ _) (fun s i => s.setI 6 i) (fun _ => True) es.length (by omega) trivial (by cbv) (by cbv) ?_
    intro j hj hp C' hret hex hnorm
    rcases Nat.lt_or_ge j es.length with h | h
    · obtain ⟨⟨ty, a, b⟩, hx⟩ : ∃ x, es[j]? = some x := ⟨_, List.getElem?_eq_getElem h⟩
      have hxx := he.2 _ (List.mem_of_getElem? hx)
      simp only at hxx
      have f1 : lt (Int.ofNat j) (Int.ofNat (rlen σ)) = true := by rw [hlt, le', lt_true h]
      have f2 : rat σ j = some [vi ty, vi a, vi b] := by rw [re, hx]; rfl
      have f3 : lt ty 0 = false := by rw [hlt]; simp; omega
      have f4 : le (Int.ofNat (rlen υ)) ty = false := by rw [hle, l6, ofn]; simp; omega
      cbv
      rw [f1]
      cbv
      rw [f2]
      cbv
      rw [f3]
      cbv
      rw [f2]
      cbv
      rw [f4]
      cbv
      refine hnorm _ h trivial ?_
      cbv
      rw [hadd, wrap_succ (by omega)]
    · have f1 : lt (Int.ofNat j) (Int.ofNat (rlen σ)) = false := by rw [hlt, le', lt_false h]
      cbv
      rw [f1]
      cbv
      rw [hex]
      cbv
end Am

