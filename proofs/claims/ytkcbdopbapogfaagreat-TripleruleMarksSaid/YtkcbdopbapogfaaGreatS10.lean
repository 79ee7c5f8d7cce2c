/-
  What functions of the given program answer, as values, shown by that evaluator: each theorem bears its own conditions.
  By an AI agent. No person has read it.
-/
import Derived.Test.YtkcbdopbapogfaaGreatS9
set_option linter.all false
set_option maxRecDepth 100000
noncomputable section
namespace Am
open Go Go.Proofs

theorem take_succ_some {α : Type} {l : List α} {i : Nat} {x : α} (h : l[i]? = some x) : l.take (i + 1) = l.take i ++ [x] := by rw [List.take_add_one, h]; rfl
abbrev own3 (l : List (Int × Int × Int)) : R1 := .own 3 (rE l)

theorem s157 {ns : List Int} {es : List (Int × Int × Int)} (h : nOk ns) (hn : ns.length < 4) (he : eOk ns.length es) :
    O Ez NR 157 [gA ns es, mA (upto ns.length) (upto es.length)] = some (.tup [.agg [own1 ns, own3 es], .agg [own1 (upto ns.length), own1 (upto es.length)], ri 0], []) := by
  have h1 := h.1
  have h2 := he.1
  obtain ⟨n, hfn⟩ : ∃ n : Nat, 200 < n := ⟨201, by omega⟩
  refine spec_of n F157 ?_
  intro rat rlen hat hln rcat hcat rcut hcut lp hlp o wrap lt le eq eqs nle tdiv tmod add sub mul room ho hw hlt hle heq heqs hnle hdiv hmod hadd hsub hmul hroom
  have e1 := ho _ _ _ (s206 h hn he)
  have e3 := fun x h => ho _ _ _ (k207 ns.length x hn h)
  have e4 := ho _ _ _ (s112 (upto ns.length) (by rw [upto_len]; omega))
  have e5 := ho _ _ _ (s112 (upto es.length) (by rw [upto_len]; omega))
  have hlN := rI_len (upto ns.length)
  have hrN := fun i (h : i < ns.length) => (by rw [hat, rI_at, upto_at _ i h]; rfl : rat (rI (upto ns.length)) i = some [vi (Int.ofNat i)])
  have hlE := rI_len (upto es.length)
  have hrE := fun i (h : i < es.length) => (by rw [hat, rI_at, upto_at _ i h]; rfl : rat (rI (upto es.length)) i = some [vi (Int.ofNat i)])
  rw [upto_len] at hlN hlE
  have hns := fun i => (hat (rI ns) i).trans (rI_at ns i)
  have hes := fun i => (hat (rE es) i).trans (rE_at es i)
  have q0 : eq 0 0 = true := by rw [heq]; rfl
  have hR0 : rI (ns.take 0) = [] := rfl
  have hR1 := fun i x (h : ns[i]? = some x) => (by rw [take_succ_some h, rI_app, hcat]; rfl : rI (ns.take (i + 1)) = rcat (rI (ns.take i)) [[vi x]])
  have hRm : rI (ns.take ns.length) = rI ns := by rw [List.take_length]
  have hRl := fun i => (by rw [rI_len, List.length_take]; omega : (rI (ns.take i)).length ≤ i)
  have hQ0 : rE (es.take 0) = [] := rfl
  have hQ1 := fun i (x : Int × Int × Int) (h : es[i]? = some x) => (by rw [take_succ_some h, rE_app, hcat]; rfl : rE (es.take (i + 1)) = rcat (rE (es.take i)) [[vi x.1, vi x.2.1, vi x.2.2]])
  have hQm : rE (es.take es.length) = rE es := by rw [List.take_length]
  have hQl := fun i => (by rw [rE_len, List.length_take]; omega : (rE (es.take i)).length ≤ i)
  dsimp only [gA, mA, own1, own3] at *
  generalize hR : (fun i => rI (ns.take i)) = R
  have hRR : ∀ i, rI (ns.take i) = R i := fun i => by rw [← hR]
  simp only [hRR] at hR0 hR1 hRm hRl
  clear hRR hR
  generalize hQ : (fun i => rE (es.take i)) = Q
  have hQQ : ∀ i, rE (es.take i) = Q i := fun i => by rw [← hQ]
  simp only [hQQ] at hQ0 hQ1 hQm hQl
  clear hQQ hQ
  generalize rI (upto ns.length) = α at e1 e3 e4 hlN hrN ⊢
  generalize rI (upto es.length) = β at e1 e5 hlE hrE ⊢
  generalize rI ns = ρ at e1 hns hRm ⊢
  generalize rE es = σ at e1 hes hQm ⊢
  cbv
  rw [e1]
  cbv
  rw [q0]
  cbv
  refine loopU (hlp _ _ _ _ _) (fun s i => (s.setI 25 i).setV 8 0 (R i)) (fun _ => True) ns.length (by omega) trivial (by cbv) (by show St.setV (St.setI _ 25 0) 8 0 (R 0) = _; rw [hR0]; cbv) ?_
  intro i hi hp C' hret hex hnorm
  rcases Nat.lt_or_ge i ns.length with h | h
  · obtain ⟨x, hx⟩ : ∃ x, ns[i]? = some x := ⟨_, List.getElem?_eq_getElem h⟩
    have g1 : lt (Int.ofNat i) (Int.ofNat (rlen α)) = true := by rw [hlt, hln, hlN, lt_true h]
    have g2 := hrN i h
    have g3 : rat ρ i = some [vi x] := by rw [hns, hx]; rfl
    have r1 : room (rlen (rcat (R i) [[vi x]])) 8 = true := hroom _ _ (by rw [hln, hcat, List.length_append]; have := hRl i; simp; omega)
    cbv
    rw [g1]
    cbv
    rw [g2]
    cbv
    rw [g3]
    cbv
    rw [r1]
    cbv
    refine hnorm _ h trivial ?_
    rw [hR1 i x hx]
    cbv
    rw [hadd, wrap_succ (by omega)]
  · have g1 : lt (Int.ofNat i) (Int.ofNat (rlen α)) = false := by rw [hlt, hln, hlN, lt_false h]
    have hRi : R i = ρ := by rw [show i = ns.length by omega]; exact hRm
    rw [hRi]
    cbv
    rw [g1]
    cbv
    rw [hex]
    cbv
    clear hret hex hnorm g1 hi hp
    refine loopU (hlp _ _ _ _ _) (fun s i => (s.setI 43 i).setV 8 1 (Q i)) (fun _ => True) es.length (by omega) trivial (by cbv) (by show St.setV (St.setI _ 43 0) 8 1 (Q 0) = _; rw [hQ0]; cbv) ?_
    intro i hi hp C' hret hex hnorm
    rcases Nat.lt_or_ge i es.length with h | h
    · obtain ⟨e, hx⟩ : ∃ e, es[i]? = some e := ⟨_, List.getElem?_eq_getElem h⟩
      have hm := he.2 e (List.mem_of_getElem? hx)
      obtain ⟨ty, x, y⟩ := e
      simp only at hm
      obtain ⟨kx, rfl⟩ := toN hm.2.2.1
      obtain ⟨ky, rfl⟩ := toN hm.2.2.2.2.1
      have bx : kx < ns.length := by have := hm.2.2.2.1; rw [ofn] at this; omega
      have by' : ky < ns.length := by have := hm.2.2.2.2.2; rw [ofn] at this; omega
      have f1 := e3 kx bx
      have f2 := e3 ky by'
      have g1 : lt (Int.ofNat i) (Int.ofNat (rlen β)) = true := by rw [hlt, hln, hlE, lt_true h]
      have g2 := hrE i h
      have g3 : rat σ i = some [vi ty, vi (Int.ofNat kx), vi (Int.ofNat ky)] := by rw [hes, hx]; rfl
      have r1 : room (rlen (rcat (Q i) [[vi ty, vi (Int.ofNat kx), vi (Int.ofNat ky)]])) 24 = true := hroom _ _ (by rw [hln, hcat, List.length_append]; have := hQl i; simp; omega)
      cbv
      rw [g1]
      cbv
      rw [g2]
      cbv
      rw [g3]
      cbv
      rw [f1]
      cbv
      rw [f2]
      cbv
      rw [r1]
      cbv
      refine hnorm _ h trivial ?_
      rw [hQ1 i _ hx]
      cbv
      rw [hadd, wrap_succ (by omega)]
    · have g1 : lt (Int.ofNat i) (Int.ofNat (rlen β)) = false := by rw [hlt, hln, hlE, lt_false h]
      have hQi : Q i = σ := by rw [show i = es.length by omega]; exact hQm
      rw [hQi]
      cbv
      rw [g1]
      cbv
      rw [hex]
      cbv
      rw [e4]
      cbv
      rw [e5]
      cbv
end Am

