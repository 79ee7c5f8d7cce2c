/-
  What functions of the given program answer, as values, shown by that evaluator: each theorem bears its own conditions.
  By an AI agent. No person has read it.
-/
import Derived.Test.YtkcbdopbapogfaaGreatS13
set_option linter.all false
set_option maxRecDepth 100000
noncomputable section
namespace Am
open Go Go.Proofs

theorem eFit_get {ns : List Int} {ty : Int} {kx ky : Nat} (h : eFit ns (ty, Int.ofNat kx, Int.ofNat ky)) : ∃ a b, ns[kx]? = some a ∧ ns[ky]? = some b ∧ fitI ty a b = true := h

theorem s15 {sn se : List Int} (hs : O Ez NR 51 [tA, sA sn se] = some (ri 0, [])) {ln : List Int} {le' : List (Int × Int × Int)} {rn : List Int} {re : List (Int × Int × Int)} (h : ROk ln le' rn re) :
    O Ez NR 15 [tA, sA sn se, .agg (rD ln le' rn re)] = some (ri 0, []) := by
  have m1 := h.hr.1
  have m2 := h.hl.1
  have m3 := h.hle.1
  obtain ⟨n, hfn⟩ : ∃ n : Nat, 200 < n := ⟨201, by omega⟩
  refine spec_of n F15 ?_
  intro rat rlen hat hln rcat hcat rcut hcut lp hlp o wrap lt le eq eqs nle tdiv tmod add sub mul room ho hw hlt hle heq heqs hnle hdiv hmod hadd hsub hmul hroom
  have e1 := ho _ _ _ hs
  have e2 := ho _ _ _ (s52 h)
  have e3 := ho _ _ _ (s53 ln rn (by omega) (by omega))
  have e4 := fun k hk => ho _ _ _ (s54 k hk)
  have e5 := fun ty a b h1 h2 h3 => ho _ _ _ (@s56 ty a b h1 h2 h3)
  have h0 : rlen [] = 0 := by rw [hln]; rfl
  have q0 : eq 0 0 = true := by rw [heq]; rfl
  have q1 : eq 1 1 = true := by rw [heq]; rfl
  have a1 : add .i64 (Int.ofNat 0) (Int.ofNat 0) = 0 := by rw [hadd]; rfl
  have a2 : add .i64 0 (Int.ofNat 0) = 0 := by rw [hadd]; rfl
  have l1 : rlen (rI (upto ln.length)) = ln.length := by rw [hln, rI_len, upto_len]
  have l2 : rlen (rI (upto le'.length)) = le'.length := by rw [hln, rI_len, upto_len]
  have l3 : rlen (rI ln) = ln.length := by rw [hln, rI_len]
  have l4 : rlen (rE le') = le'.length := by rw [hln, rE_len]
  have l5 : rlen (rI (ln ++ rn)) = (ln ++ rn).length := by rw [hln, rI_len]
  have g1 : lt (Int.ofNat (rlen (rI (upto ln.length)))) (Int.ofNat (rlen (rI ln))) = false := by rw [hlt, l1, l3]; simp
  have g2 : lt (Int.ofNat (rlen (rI (upto le'.length)))) (Int.ofNat (rlen (rE le'))) = false := by rw [hlt, l2, l4]; simp
  have ha := fun i => (hat (rI ln) i).trans (rI_at ln i)
  have hc := fun i => (hat (rE le') i).trans (rE_at le' i)
  have hd := fun i => (hat (rI (ln ++ rn)) i).trans (rI_at (ln ++ rn) i)
  have hmem : ∀ x ∈ ln ++ rn, 0 ≤ x := fun x hx => by
    rcases List.mem_append.1 hx with hx | hx
    · exact (h.hl.2 x hx).1
    · exact (h.hr.2 x hx).1
  have hlen : (ln ++ rn).length < 200 := by rw [List.length_append]; omega
  dsimp only [tA, sA, rD, rC, own1] at *
  generalize rI (upto ln.length) = α at e2 g1 ⊢
  generalize rI (upto le'.length) = β at e2 g2 ⊢
  generalize rI (ln ++ rn) = κ at e3 l5 hd
  generalize ln ++ rn = cc at hd l5 hmem hlen
  generalize rI ln = ρ at e2 e3 g1 ha ⊢
  generalize rE le' = σ at e2 g2 l4 hc ⊢
  generalize rI rn = ρ' at e2 e3 ⊢
  generalize rE re = σ' at e2 ⊢
  generalize rI sn = μ at e1 ⊢
  generalize rI se = ν at e1 ⊢
  generalize tN = τ at e1 e2 e4 e5 ⊢
  generalize tE = υ at e1 e2 e5 ⊢
  generalize hccl : cc.length = cl at *
  cbv
  rw [e1]
  cbv
  rw [q0]
  cbv
  rw [e2]
  cbv
  rw [q0]
  cbv
  rw [h0, a1]
  rw [a2, a2, q0]
  cbv
  rw [q0]
  cbv
  rw [q1]
  cbv
  rw [g1]
  cbv
  rw [g2]
  cbv
  rw [e3]
  cbv
  refine loopU (hlp _ _ _ _ _) (fun s i => s.setI 100 i) (fun _ => True) cl (by omega) trivial (by cbv) (by cbv) ?_
  intro i hi hp C' hret hex hnorm
  rcases Nat.lt_or_ge i cl with hc1 | hc1
  · obtain ⟨x, hx⟩ : ∃ x, cc[i]? = some x := ⟨_, List.getElem?_eq_getElem (by omega)⟩
    have f1 : lt (Int.ofNat i) (Int.ofNat (rlen κ)) = true := by rw [hlt, l5, lt_true hc1]
    have f2 : rat κ i = some [vi x] := by rw [hd, hx]; rfl
    have f3 := e4 x (hmem x (List.mem_of_getElem? hx))
    cbv
    rw [f1]
    cbv
    rw [f2]
    cbv
    rw [f2]
    cbv
    rw [f3]
    cbv
    refine hnorm _ hc1 trivial ?_
    cbv
    rw [hadd, wrap_succ (by omega)]
  · have f1 : lt (Int.ofNat i) (Int.ofNat (rlen κ)) = false := by rw [hlt, l5, lt_false hc1]
    cbv
    rw [f1]
    cbv
    rw [hex]
    cbv
    clear hret hex hnorm f1 hi hp hc1
    generalize hlel : le'.length = el at *
    refine loopU (hlp _ _ _ _ _) (fun s i => s.setI 114 i) (fun _ => True) el (by omega) trivial (by cbv) (by cbv) ?_
    intro i hi hp C' hret hex hnorm
    rcases Nat.lt_or_ge i el with hc1 | hc1
    · obtain ⟨e, hx⟩ : ∃ e, le'[i]? = some e := ⟨_, List.getElem?_eq_getElem (by omega)⟩
      have hm := h.hle.2 e (List.mem_of_getElem? hx)
      have hf := h.lfit e (List.mem_of_getElem? hx)
      obtain ⟨ty, x, y⟩ := e
      simp only at hm
      obtain ⟨kx, rfl⟩ := toN hm.2.2.1
      obtain ⟨ky, rfl⟩ := toN hm.2.2.2.2.1
      obtain ⟨a, b, hxa, hyb, hfit⟩ := eFit_get hf
      have f1 : lt (Int.ofNat i) (Int.ofNat (rlen σ)) = true := by rw [hlt, l4, lt_true hc1]
      have f2 : rat σ i = some [vi ty, vi (Int.ofNat kx), vi (Int.ofNat ky)] := by rw [hc, hx]; rfl
      have f3 : rat ρ kx = some [vi a] := by rw [ha, hxa]; rfl
      have f4 : rat ρ ky = some [vi b] := by rw [ha, hyb]; rfl
      have f5 := e5 ty a b ⟨hm.1, hm.2.1⟩ (h.hl.2 a (List.mem_of_getElem? hxa)) (h.hl.2 b (List.mem_of_getElem? hyb))
      rw [hfit] at f5
      cbv
      rw [f1]
      cbv
      rw [f2]
      cbv
      rw [f3]
      cbv
      rw [f4]
      cbv
      rw [f5]
      cbv
      refine hnorm _ hc1 trivial ?_
      cbv
      rw [hadd, wrap_succ (by omega)]
    · have f1 : lt (Int.ofNat i) (Int.ofNat (rlen σ)) = false := by rw [hlt, l4, lt_false hc1]
      cbv
      rw [f1]
      cbv
      rw [hex]
      cbv
end Am

