/-
  What functions of the given program answer, as values, shown by that evaluator: each theorem bears its own conditions.
  By an AI agent. No person has read it.
-/
import Derived.Test.YtkcbdopbapogfaaGreatS28
set_option linter.all false
set_option maxRecDepth 100000
noncomputable section
namespace Am
open Go Go.Proofs

theorem s135u {ns : List Int} {es : List (Int × Int × Int)} (hn : nOk ns) (he : eOk ns.length es) : O Ez NR 135 [gA ns es, mA (upto ns.length) (upto es.length)] = some (.tup [.agg [own1 ns, own3 es], .agg [own1 (upto ns.length), own1 (upto es.length)], ri 0], []) := by
  have m1 := hn.1
  have m2 := he.1
  obtain ⟨n, hn0⟩ : ∃ n : Nat, 200 < n := ⟨201, by omega⟩
  refine spec_of n F135 ?_
  intro rat rlen hat hln rcat hcat rcut hcut lp hlp o wrap lt le eq eqs nle tdiv tmod add sub mul room ho hw hlt hle heq heqs hnle hdiv hmod hadd hsub hmul hroom
  have e1 := ho _ _ _ (s134u hn he)
  have e3 : ∀ a : Int, 0 ≤ a → a < ns.length → o 179 [.one (.sl false 1 (rI (upto ns.length))), .one (vi a)] = some (ri a, []) := fun a h0 h1 => by
    obtain ⟨k, rfl⟩ := toN h0
    rw [ofn] at h1
    exact ho _ _ _ (s179u ns.length k (by omega) (by omega))
  have l1 := (hln (rI (upto ns.length))).trans (rI_len (upto ns.length))
  have l3 := (hln (rI (upto es.length))).trans (rI_len (upto es.length))
  rw [upto_len] at l1 l3
  have r1 := fun i (h : i < es.length) => (by rw [hat, rI_at, upto_at _ i h]; rfl : rat (rI (upto es.length)) i = some [vi (Int.ofNat i)])
  have r3 := fun i (h : i < ns.length) => (by rw [hat, rI_at, upto_at _ i h]; rfl : rat (rI (upto ns.length)) i = some [vi (Int.ofNat i)])
  have r2 := fun i => (hat (rE es) i).trans (rE_at es i)
  have r4 := fun i => (hat (rI ns) i).trans (rI_at ns i)
  have q0 : eq 0 0 = true := by rw [heq]; rfl
  have bd := he.2
  have G0 : rI (ns.take 0) = [] := rfl
  have G1 := fun i x (h : ns[i]? = some x) => (by rw [take_succ_some h, rI_app, hcat]; rfl : rI (ns.take (i + 1)) = rcat (rI (ns.take i)) [[vi x]])
  have Gl := fun i => (by rw [rI_len, List.length_take]; omega : (rI (ns.take i)).length ≤ i)
  have Gm : rI (ns.take ns.length) = rI ns := by rw [List.take_length]
  have H0 : rE (es.take 0) = [] := rfl
  have H1 := fun i x (h : es[i]? = some x) => (by rw [take_succ_some h, rE_app, hcat]; rfl : rE (es.take (i + 1)) = rcat (rE (es.take i)) [[vi x.1, vi x.2.1, vi x.2.2]])
  have Hl := fun i => (by rw [rE_len, List.length_take]; omega : (rE (es.take i)).length ≤ i)
  have Hm : rE (es.take es.length) = rE es := by rw [List.take_length]
  dsimp only [gA, mA, own1, own3] at *
  generalize hG : (fun i => rI (ns.take i)) = G
  have hGG : ∀ i, rI (ns.take i) = G i := fun i => by rw [← hG]
  simp only [hGG] at G0 G1 Gl Gm
  clear hGG hG
  generalize hH : (fun i => rE (es.take i)) = H
  have hHH : ∀ i, rE (es.take i) = H i := fun i => by rw [← hH]
  simp only [hHH] at H0 H1 Hl Hm
  clear hHH hH
  have c1 : rcat [] (rI (upto ns.length)) = rI (upto ns.length) := by rw [hcat]; rfl
  have c2 : rcat [] (rI (upto es.length)) = rI (upto es.length) := by rw [hcat]; rfl
  generalize rI (upto ns.length) = α at *
  generalize rI (upto es.length) = β at *
  generalize rI ns = ρ at *
  generalize rE es = σ at *
  have ra : room (rlen α) 8 = true := hroom _ _ (by rw [l1]; omega)
  have rb' : room (rlen β) 8 = true := hroom _ _ (by rw [l3]; omega)
  generalize hN1 : ns.length = N1 at *
  generalize hN2 : es.length = N2 at *
  cbv
  rw [e1]
  cbv
  rw [q0]
  cbv
  refine loopU (hlp _ _ _ _ _) (fun s i => (s.setI 9 i).setV 8 0 (G i)) (fun i => True) N1 (by omega) trivial (by cbv) (by show St.setV (St.setI _ 9 0) 8 0 (G 0) = _; rw [G0]; cbv) ?_
  intro i hi hp C' hret hex hnorm
  rcases Nat.lt_or_ge i N1 with h | h
  · obtain ⟨x, hx⟩ : ∃ x, ns[i]? = some x := ⟨_, List.getElem?_eq_getElem (by omega)⟩
    have f1 : lt (Int.ofNat i) (Int.ofNat (rlen α)) = true := by rw [hlt, l1, lt_true h]
    have f2 := r3 i h
    have f3 : rat ρ i = some [vi x] := by rw [r4, hx]; rfl
    have g1 := G1 i x hx
    have rr : room (rlen (rcat (G i) [[vi x]])) 8 = true := hroom _ _ (by rw [hln, hcat, List.length_append]; have := Gl i; simp; omega)
    cbv
    rw [f1]
    cbv
    rw [f2]
    cbv
    rw [f3]
    cbv
    rw [rr]
    cbv
    refine hnorm _ h trivial ?_
    rw [g1]
    cbv
    rw [hadd, wrap_succ (by omega)]
  · have f1 : lt (Int.ofNat i) (Int.ofNat (rlen α)) = false := by rw [hlt, l1, lt_false h]
    have hGi : G i = ρ := by rw [show i = N1 by omega]; exact Gm
    rw [hGi]
    cbv
    rw [f1]
    cbv
    rw [hex]
    cbv
    clear hret hex hnorm f1 hp
    refine loopU (hlp _ _ _ _ _) (fun s i => (s.setI 10 i).setV 8 1 (H i)) (fun i => True) N2 (by omega) trivial (by cbv) (by show St.setV (St.setI _ 10 0) 8 1 (H 0) = _; rw [H0]; cbv) ?_
    intro j hj hp C' hret hex hnorm
    rcases Nat.lt_or_ge j N2 with h2 | h2
    · obtain ⟨⟨ty, a, b⟩, hx⟩ : ∃ x, es[j]? = some x := ⟨_, List.getElem?_eq_getElem (by omega)⟩
      have hxx := bd _ (List.mem_of_getElem? hx)
      simp only at hxx
      have f1 : lt (Int.ofNat j) (Int.ofNat (rlen β)) = true := by rw [hlt, l3, lt_true h2]
      have f2 := r1 j h2
      have f3 : rat σ j = some [vi ty, vi a, vi b] := by rw [r2, hx]; rfl
      have f4 := e3 a hxx.2.2.1 hxx.2.2.2.1
      have f5 := e3 b hxx.2.2.2.2.1 hxx.2.2.2.2.2
      have g1 := H1 j _ hx
      simp only at g1
      have rr : room (rlen (rcat (H j) [[vi ty, vi a, vi b]])) 24 = true := hroom _ _ (by rw [hln, hcat, List.length_append]; have := Hl j; simp; omega)
      cbv
      rw [f1]
      cbv
      rw [f2]
      cbv
      rw [f3]
      cbv
      rw [f4]
      cbv
      rw [f5]
      cbv
      rw [rr]
      cbv
      refine hnorm _ h2 trivial ?_
      rw [g1]
      cbv
      rw [hadd, wrap_succ (by omega)]
    · have f1 : lt (Int.ofNat j) (Int.ofNat (rlen β)) = false := by rw [hlt, l3, lt_false h2]
      have hHj : H j = σ := by rw [show j = N2 by omega]; exact Hm
      rw [hHj]
      cbv
      rw [f1]
      cbv
      rw [hex]
      cbv
      rw [c1]
      rw [ra]
      cbv
      rw [c2]
      rw [rb']
      cbv
end Am

