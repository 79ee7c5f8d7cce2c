/-
  What functions of the given program answer, as values, shown by that evaluator: each theorem bears its own conditions.
  By an AI agent. No person has read it.
-/
import Derived.Test.YtkcbdopbapogfaaGreatS18
set_option linter.all false
set_option maxRecDepth 100000
noncomputable section
namespace Am
open Go Go.Proofs


theorem s64 (l : List Int) (hl : l.length < 1000000) : O Ez NR 64 [.one (.sl false 1 (rI l)), .one (.sl false 1 (rI l))] = some (rb true, []) := by
  refine spec_of (l.length + 1) F64 ?_
  intro rat rlen hat hln rcat hcat rcut hcut lp hlp o wrap lt le eq eqs nle tdiv tmod add sub mul room ho hw hlt hle heq heqs hnle hdiv hmod hadd hsub hmul hroom
  have l1 : rlen (rI l) = l.length := by rw [hln, rI_len]
  have hb := fun i => (hat (rI l) i).trans (rI_at l i)
  have qq : ∀ x, eq x x = true := fun x => by rw [heq]; simp
  generalize rI l = ρ at *
  generalize hn1 : l.length = N1 at *
  generalize hn : N1 + 1 = n
  cbv
  rw [qq]
  cbv
  refine loopU (hlp _ _ _ _ _) (fun s i => s.setI 5 i) (fun _ => True) N1 (by omega) trivial (by cbv) (by cbv) ?_
  intro i hi hp C' hret hex hnorm
  rcases Nat.lt_or_ge i N1 with hc | hc
  · obtain ⟨x, hx⟩ : ∃ x, l[i]? = some x := ⟨_, List.getElem?_eq_getElem (by omega)⟩
    have f1 : lt (Int.ofNat i) (Int.ofNat (rlen ρ)) = true := by rw [hlt, l1, lt_true hc]
    have f2 : rat ρ i = some [vi x] := by rw [hb, hx]; rfl
    cbv
    rw [f1]
    cbv
    rw [f2]
    cbv
    rw [f2]
    cbv
    rw [qq]
    cbv
    refine hnorm _ hc trivial ?_
    cbv
    rw [hadd, wrap_succ (by omega)]
  · have f1 : lt (Int.ofNat i) (Int.ofNat (rlen ρ)) = false := by rw [hlt, l1, lt_false hc]
    cbv
    rw [f1]
    cbv
    rw [hex]
    cbv

theorem s167 (l : List Int) (hl : l.length < 1000000) : O Ez NR 167 [.one (.sl false 1 (rI l)), .one (.sl false 1 (rI l))] = some (rb true, []) := by
  refine spec_of (l.length + 1) F167 ?_
  intro rat rlen hat hln rcat hcat rcut hcut lp hlp o wrap lt le eq eqs nle tdiv tmod add sub mul room ho hw hlt hle heq heqs hnle hdiv hmod hadd hsub hmul hroom
  have l1 : rlen (rI l) = l.length := by rw [hln, rI_len]
  have hb := fun i => (hat (rI l) i).trans (rI_at l i)
  have qq : ∀ x, eq x x = true := fun x => by rw [heq]; simp
  generalize rI l = ρ at *
  generalize hn1 : l.length = N1 at *
  generalize hn : N1 + 1 = n
  cbv
  rw [qq]
  cbv
  refine loopU (hlp _ _ _ _ _) (fun s i => s.setI 5 i) (fun _ => True) N1 (by omega) trivial (by cbv) (by cbv) ?_
  intro i hi hp C' hret hex hnorm
  rcases Nat.lt_or_ge i N1 with hc | hc
  · obtain ⟨x, hx⟩ : ∃ x, l[i]? = some x := ⟨_, List.getElem?_eq_getElem (by omega)⟩
    have f1 : lt (Int.ofNat i) (Int.ofNat (rlen ρ)) = true := by rw [hlt, l1, lt_true hc]
    have f2 : rat ρ i = some [vi x] := by rw [hb, hx]; rfl
    cbv
    rw [f1]
    cbv
    rw [f2]
    cbv
    rw [f2]
    cbv
    rw [qq]
    cbv
    refine hnorm _ hc trivial ?_
    cbv
    rw [hadd, wrap_succ (by omega)]
  · have f1 : lt (Int.ofNat i) (Int.ofNat (rlen ρ)) = false := by rw [hlt, l1, lt_false hc]
    cbv
    rw [f1]
    cbv
    rw [hex]
    cbv

theorem s41 (ns : List Int) (es : List (Int × Int × Int)) (h1 : ns.length < 1000000) (h2 : es.length < 1000000) : O Ez NR 41 [gA ns es, gA ns es] = some (rb true, []) := by
  refine spec_of (es.length + 1) F41 ?_
  intro rat rlen hat hln rcat hcat rcut hcut lp hlp o wrap lt le eq eqs nle tdiv tmod add sub mul room ho hw hlt hle heq heqs hnle hdiv hmod hadd hsub hmul hroom
  have e1 := ho _ _ _ (s64 ns h1)
  have l1 : rlen (rE es) = es.length := by rw [hln, rE_len]
  have hb := fun i => (hat (rE es) i).trans (rE_at es i)
  have qq : ∀ x, eq x x = true := fun x => by rw [heq]; simp
  dsimp only [gA] at *
  generalize rI ns = ρ at *
  generalize rE es = σ at *
  generalize hn1 : es.length = N1 at *
  generalize hn : N1 + 1 = n
  cbv
  rw [e1]
  cbv
  rw [qq]
  cbv
  refine loopU (hlp _ _ _ _ _) (fun s i => s.setI 5 i) (fun _ => True) N1 (by omega) trivial (by cbv) (by cbv) ?_
  intro i hi hp C' hret hex hnorm
  rcases Nat.lt_or_ge i N1 with hc | hc
  · obtain ⟨e, hx⟩ : ∃ x, es[i]? = some x := ⟨_, List.getElem?_eq_getElem (by omega)⟩
    obtain ⟨x, y, z⟩ := e
    have f1 : lt (Int.ofNat i) (Int.ofNat (rlen σ)) = true := by rw [hlt, l1, lt_true hc]
    have f2 : rat σ i = some [vi x, vi y, vi z] := by rw [hb, hx]; rfl
    cbv
    rw [f1]
    cbv
    rw [f2]
    cbv
    rw [f2]
    cbv
    rw [qq, qq, qq]
    cbv
    refine hnorm _ hc trivial ?_
    cbv
    rw [hadd, wrap_succ (by omega)]
  · have f1 : lt (Int.ofNat i) (Int.ofNat (rlen σ)) = false := by rw [hlt, l1, lt_false hc]
    cbv
    rw [f1]
    cbv
    rw [hex]
    cbv

theorem s109 (ns : List Int) (es : List (Int × Int × Int)) (h1 : ns.length < 1000000) (h2 : es.length < 1000000) : O Ez NR 109 [.agg (pC ns es), .agg (pC ns es)] = some (rb true, []) := by
  obtain ⟨n, hfn⟩ : ∃ n : Nat, 200 < n := ⟨201, by omega⟩
  refine spec_of n F109 ?_
  intro rat rlen hat hln rcat hcat rcut hcut lp hlp o wrap lt le eq eqs nle tdiv tmod add sub mul room ho hw hlt hle heq heqs hnle hdiv hmod hadd hsub hmul hroom
  have e1 := ho _ _ _ (s41 ns es h1 h2)
  have qq : ∀ x, eq x x = true := fun x => by rw [heq]; simp
  have z0 : lt 0 (Int.ofNat (rlen [])) = false := by rw [hlt, hln]; rfl
  dsimp only [gA, pC] at *
  generalize rI ns = ρ at *
  generalize rE es = σ at *
  cbv
  rw [e1]
  cbv
  rw [qq]
  cbv
  rw [qq]
  cbv
  rw [qq]
  cbv
  refine loopU (hlp _ _ _ _ _) (fun s _ => s) (fun _ => True) 0 (by omega) trivial (by cbv) rfl ?_
  intro i hi _ C' hret hex hnorm
  cbv
  rw [z0]
  cbv
  rw [hex]
  cbv
  clear hret hex hnorm hi
  refine loopU (hlp _ _ _ _ _) (fun s _ => s) (fun _ => True) 0 (by omega) trivial (by cbv) rfl ?_
  intro i hi _ C' hret hex hnorm
  cbv
  rw [z0]
  cbv
  rw [hex]
  cbv

theorem s110 (a b : List Int) (h1 : a.length < 1000000) (h2 : b.length < 1000000) : O Ez NR 110 [mA a b, mA a b] = some (rb true, []) := by
  refine spec_of 1 F110 ?_
  intro rat rlen hat hln rcat hcat rcut hcut lp hlp o wrap lt le eq eqs nle tdiv tmod add sub mul room ho hw hlt hle heq heqs hnle hdiv hmod hadd hsub hmul hroom
  have e1 := ho _ _ _ (s167 a h1)
  have e2 := ho _ _ _ (s167 b h2)
  dsimp only [mA] at *
  generalize rI a = ρ at *
  generalize rI b = σ at *
  cbv
  rw [e1]
  cbv
  rw [e2]
  cbv
theorem s22 (a b : List Int) (h1 : a.length < 1000000) (h2 : b.length < 1000000) : O Ez NR 22 [mA a b, mA a b] = some (rb true, []) := by
  refine spec_of 1 F22 ?_
  intro rat rlen hat hln rcat hcat rcut hcut lp hlp o wrap lt le eq eqs nle tdiv tmod add sub mul room ho hw hlt hle heq heqs hnle hdiv hmod hadd hsub hmul hroom
  have e1 := ho _ _ _ (s64 a h1)
  have e2 := ho _ _ _ (s64 b h2)
  dsimp only [mA] at *
  generalize rI a = ρ at *
  generalize rI b = σ at *
  cbv
  rw [e1]
  cbv
  rw [e2]
  cbv
theorem k111 : O Ez NR 111 [.agg cond1, .agg cond1] = some (rb true, []) := O_iff.2 ⟨30, by kernel_rfl⟩

theorem s61 {ln : List Int} {le' : List (Int × Int × Int)} {rn : List Int} {re : List (Int × Int × Int)} {kn ke im ie : List Int} (h1 : ln.length < 1000000) (h2 : le'.length < 1000000) (h3 : rn.length < 1000000) (h4 : re.length < 1000000)
    (h5 : kn.length < 1000000) (h6 : ke.length < 1000000) (h7 : im.length < 1000000) (h8 : ie.length < 1000000) : O Ez NR 61 [.agg (rC ln le' rn re kn ke im ie), .agg (rC ln le' rn re kn ke im ie)] = some (rb true, []) := by
  refine spec_of 1 F61 ?_
  intro rat rlen hat hln rcat hcat rcut hcut lp hlp o wrap lt le eq eqs nle tdiv tmod add sub mul room ho hw hlt hle heq heqs hnle hdiv hmod hadd hsub hmul hroom
  have e1 := ho _ _ _ (s109 ln le' h1 h2)
  have e2 := ho _ _ _ (s109 rn re h3 h4)
  have e3 := ho _ _ _ (s22 kn ke h5 h6)
  have e4 := ho _ _ _ (s110 im ie h7 h8)
  have e5 := ho _ _ _ k111
  have q0 : eqs ⟨#[114]⟩ ⟨#[114]⟩ = true := by rw [heqs]; exact beq_self_eq_true _
  dsimp only [rC, pC, mA, cond1] at *
  generalize rI ln = x1 at *
  generalize rE le' = x2 at *
  generalize rI rn = x3 at *
  generalize rE re = x4 at *
  generalize rI kn = x5 at *
  generalize rI ke = x6 at *
  generalize rI im = x7 at *
  generalize rI ie = x8 at *
  cbv
  rw [q0]
  cbv
  rw [e1]
  cbv
  rw [e2]
  cbv
  rw [e3]
  cbv
  rw [e4]
  cbv
  rw [e5]
  cbv
theorem s17 {ln : List Int} {le' : List (Int × Int × Int)} {rn : List Int} {re : List (Int × Int × Int)} {kn ke im ie : List Int} (h1 : ln.length < 1000000) (h2 : le'.length < 1000000) (h3 : rn.length < 1000000) (h4 : re.length < 1000000)
    (h5 : kn.length < 1000000) (h6 : ke.length < 1000000) (h7 : im.length < 1000000) (h8 : ie.length < 1000000) : O Ez NR 17 [.agg (rC ln le' rn re kn ke im ie), .agg (rC ln le' rn re kn ke im ie)] = some (rb true, []) := by
  refine spec_of 1 F17 ?_
  intro rat rlen hat hln rcat hcat rcut hcut lp hlp o wrap lt le eq eqs nle tdiv tmod add sub mul room ho hw hlt hle heq heqs hnle hdiv hmod hadd hsub hmul hroom
  have e1 := ho _ _ _ (s61 (kn := kn) (ke := ke) h1 h2 h3 h4 h5 h6 h7 h8)
  dsimp only [rC] at *
  generalize rI ln = x1 at *
  generalize rE le' = x2 at *
  generalize rI rn = x3 at *
  generalize rE re = x4 at *
  generalize rI kn = x5 at *
  generalize rI ke = x6 at *
  generalize rI im = x7 at *
  generalize rI ie = x8 at *
  cbv
  rw [e1]
  cbv
end Am

