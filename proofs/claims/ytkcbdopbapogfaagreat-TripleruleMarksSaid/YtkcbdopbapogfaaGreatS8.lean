/-
  What functions of the given program answer, as values, shown by that evaluator: each theorem bears its own conditions.
  By an AI agent. No person has read it.
-/
import Derived.Test.YtkcbdopbapogfaaGreatS7
set_option linter.all false
set_option maxRecDepth 100000
noncomputable section
namespace Am
open Go Go.Proofs

theorem s155 {ns : List Int} {es : List (Int × Int × Int)} (hn : nOk ns) (he : eOk ns.length es) : O Ez NR 155 [tA, gA ns es] = some (rb true, []) := by
  refine spec_of 1 F155 ?_
  intro rat rlen hat hln rcat hcat rcut hcut lp hlp o wrap lt le eq eqs nle tdiv tmod add sub mul room ho hw hlt hle heq heqs hnle hdiv hmod hadd hsub hmul hroom
  have h1 := hn.1
  have h2 := he.1
  have e2 := ho _ _ _ (s30_202 ns tC (fun _ => false) (by omega) (fun x hx => s202 x (hn.2 x hx).2))
  have e3 := ho _ _ _ (s149_203 es tC (fun _ => false) (by omega) (fun e hx => s203 e (he.2 e hx).2.1))
  rw [any_no (fun _ _ => rfl)] at e2 e3
  dsimp only [tC, tA, gA] at *
  generalize rI ns = ρ at e2 ⊢
  generalize rE es = σ at e3 ⊢
  generalize tN = τ at e2 e3 ⊢
  generalize tE = υ at e2 e3 ⊢
  cbv
  rw [e2]
  cbv
  rw [e3]
  cbv

/-- a rule named r, without slots and tests, whose condition is true -/
abbrev rC (ln : List Int) (le : List (Int × Int × Int)) (rn : List Int) (re : List (Int × Int × Int)) (kn ke im ie : List Int) : List C :=
  [.v (.string ⟨#[114]⟩), .sl false 1 (rI ln), .sl false 3 (rE le), .sl false 4 [], vi 0, .sl false 5 [], .sl false 1 (rI rn), .sl false 3 (rE re), .sl false 4 [], vi 0, .sl false 5 [],
    .sl false 1 (rI kn), .sl false 1 (rI ke), .sl false 1 (rI im), .sl false 1 (rI ie), vb true, vi 1, .sl false 9 [], .sl false 1 [], .sl false 1 [], .sl false 1 [], .sl false 3 [], .sl false 4 [], vi 0, .sl false 5 []]

theorem s99 {ln : List Int} {le' : List (Int × Int × Int)} {rn : List Int} {re : List (Int × Int × Int)} {kn ke im ie : List Int} (hn : nOk rn) (he : eOk rn.length re) : O Ez NR 99 [tA, .agg (rC ln le' rn re kn ke im ie)] = some (ri 0, []) := by
  obtain ⟨n, hn0⟩ : ∃ n : Nat, 5 < n := ⟨6, by omega⟩
  refine spec_of n F99 ?_
  intro rat rlen hat hln rcat hcat rcut hcut lp hlp o wrap lt le eq eqs nle tdiv tmod add sub mul room ho hw hlt hle heq heqs hnle hdiv hmod hadd hsub hmul hroom
  have e1 := ho _ _ _ (s147 hn he)
  have e2 := ho _ _ _ (s155 hn he)
  have q0 : eq 0 0 = true := by rw [heq]; rfl
  have z1 : lt 10 (Int.ofNat (rlen [])) = false := by rw [hlt, hln]; rfl
  have z0 : lt 0 (Int.ofNat (rlen [])) = false := by rw [hlt, hln]; rfl
  dsimp only [tA, gA, rC] at *
  generalize rI rn = ρ at e1 e2 ⊢
  generalize rE re = σ at e1 e2 ⊢
  generalize rI ln = ρ1
  generalize rE le' = σ1
  generalize rI kn = ρ2
  generalize rI ke = ρ3
  generalize rI im = ρ4
  generalize rI ie = ρ5
  generalize tN = τ at e2 ⊢
  generalize tE = υ at e2 ⊢
  cbv
  rw [e1]
  cbv
  rw [q0]
  cbv
  rw [e2]
  cbv
  rw [q0]
  cbv
  rw [z0]
  cbv
  rw [z1]
  cbv
  refine loopU (hlp _ _ _ _ _) (fun s _ => s) (fun _ => True) 0 (by omega) trivial (by cbv) rfl ?_
  intro i hi _ C' hret hex hnorm
  cbv
  rw [z0]
  cbv
  rw [hex]
  cbv

theorem s101 {ln : List Int} {le' : List (Int × Int × Int)} {rn : List Int} {re : List (Int × Int × Int)} {kn ke im ie : List Int} (h1 : rn.length < 1000000) (h2 : re.length < 1000000) (h3 : im.length < 1000000) (h4 : ie.length < 1000000) :
    O Ez NR 101 [.agg (rC ln le' rn re kn ke im ie)] = some (.tup [.one (own1 (lack im rn.length)), .one (own1 (lack ie re.length))], []) := by
  refine spec_of 1 F101 ?_
  intro rat rlen hat hln rcat hcat rcut hcut lp hlp o wrap lt le eq eqs nle tdiv tmod add sub mul room ho hw hlt hle heq heqs hnle hdiv hmod hadd hsub hmul hroom
  have e1 := ho _ _ _ (s160 im rn.length h3 h1)
  have e2 := ho _ _ _ (s160 ie re.length h4 h2)
  have l1 : rlen (rI rn) = rn.length := by rw [hln, rI_len]
  have l2 : rlen (rE re) = re.length := by rw [hln, rE_len]
  dsimp only [own1, rC] at *
  generalize rI (lack im rn.length) = a1 at e1 ⊢
  generalize rI (lack ie re.length) = a2 at e2 ⊢
  rw [← l1] at e1
  rw [← l2] at e2
  generalize rI rn = ρ at e1 ⊢
  generalize rE re = σ at e2 ⊢
  generalize rI ln = ρ1
  generalize rE le' = σ1
  generalize rI kn = ρ2
  generalize rI ke = ρ3
  generalize rI im = ρ4 at e1 ⊢
  generalize rI ie = ρ5 at e2 ⊢
  cbv
  rw [e1]
  cbv
  rw [e2]
  cbv

theorem tN_at (k : Nat) (h : k < 5) : ∃ s, tN[k]? = some [.v (.string s), vi (-1), vb false, .sl false 4 []] := by
  match k, h with
  | 0, _ => exact ⟨_, rfl⟩
  | 1, _ => exact ⟨_, rfl⟩
  | 2, _ => exact ⟨_, rfl⟩
  | 3, _ => exact ⟨_, rfl⟩
  | 4, _ => exact ⟨_, rfl⟩
  | k + 5, h => omega

theorem at_nat {α : Type} {l : List α} {x : Int} (h0 : 0 ≤ x) (h : x < l.length) : ∃ k y, x = Int.ofNat k ∧ l[k]? = some y ∧ y ∈ l := by
  obtain ⟨k, rfl⟩ := toN h0
  rw [ofn] at h
  have hk : k < l.length := by omega
  exact ⟨k, l[k], rfl, List.getElem?_eq_getElem hk, List.getElem_mem hk⟩

theorem s161 {ns : List Int} {es : List (Int × Int × Int)} (hn : nOk ns) {x : Int} (h0 : 0 ≤ x) (h : x < ns.length) : O Ez NR 161 [.one (vi x), .one (.ptr tC), .one (.ptr (gP ns es))] = some (rb false, []) := by
  refine spec_of 1 F161 ?_
  intro rat rlen hat hln rcat hcat rcut hcut lp hlp o wrap lt le eq eqs nle tdiv tmod add sub mul room ho hw hlt hle heq heqs hnle hdiv hmod hadd hsub hmul hroom
  obtain ⟨k, y, rfl, hk, hy⟩ := at_nat h0 h
  obtain ⟨j, rfl⟩ := toN (hn.2 y hy).1
  have hj : j < 5 := by have := (hn.2 _ hy).2; rw [ofn] at this; omega
  obtain ⟨nm, hrow⟩ := tN_at j hj
  have e1 : rat (rI ns) k = some [vi (Int.ofNat j)] := by rw [hat, rI_at, hk]; rfl
  have e2 := (hat tN j).trans hrow
  dsimp only [tC, gP] at *
  generalize rI ns = ρ at e1 ⊢
  generalize rE es = σ
  generalize tN = τ at e2 ⊢
  generalize tE = υ
  cbv
  rw [e1]
  cbv
  rw [e2]
  cbv

/-- an edge that fits -/
def eFit (ns : List Int) (e : Int × Int × Int) : Prop := ∃ a b, ns[e.2.1.toNat]? = some a ∧ ns[e.2.2.toNat]? = some b ∧ fitI e.1 a b = true

theorem s162 {ns : List Int} {es : List (Int × Int × Int)} (hn : nOk ns) (he : eOk ns.length es) {k : Nat} {e : Int × Int × Int} (hk : es[k]? = some e) (hf : eFit ns e) : O Ez NR 162 [.one (vi (Int.ofNat k)), .one (.ptr (gP ns es)), .one (.ptr tC)] = some (rb false, []) := by
  refine spec_of 1 F162 ?_
  intro rat rlen hat hln rcat hcat rcut hcut lp hlp o wrap lt le eq eqs nle tdiv tmod add sub mul room ho hw hlt hle heq heqs hnle hdiv hmod hadd hsub hmul hroom
  have hm := he.2 e (List.mem_of_getElem? hk)
  obtain ⟨ty, x, y⟩ := e
  obtain ⟨a, b, ha, hb, hfit⟩ := hf
  simp only at hm ha hb hfit
  obtain ⟨kx, rfl⟩ := toN hm.2.2.1
  obtain ⟨ky, rfl⟩ := toN hm.2.2.2.2.1
  have ha : ns[kx]? = some a := ha
  have hb : ns[ky]? = some b := hb
  have e0 := ho _ _ _ (s56 ⟨hm.1, hm.2.1⟩ (hn.2 a (List.mem_of_getElem? ha)) (hn.2 b (List.mem_of_getElem? hb)))
  rw [hfit] at e0
  have e1 : rat (rI ns) kx = some [vi a] := by rw [hat, rI_at, ha]; rfl
  have e2 : rat (rI ns) ky = some [vi b] := by rw [hat, rI_at, hb]; rfl
  have e3 : rat (rE es) k = some [vi ty, vi (Int.ofNat kx), vi (Int.ofNat ky)] := by rw [hat, rE_at, hk]; rfl
  dsimp only [tC, gP, tA] at *
  generalize rI ns = ρ at e1 e2 ⊢
  generalize rE es = σ at e3 ⊢
  generalize tN = τ at e0 ⊢
  generalize tE = υ at e0 ⊢
  cbv
  rw [e3]
  cbv
  rw [e1]
  cbv
  rw [e2]
  cbv
  rw [e0]
  cbv

theorem s102 {ns : List Int} {es : List (Int × Int × Int)} (hn : nOk ns) (he : eOk ns.length es) {a b : List Int} (la : a.length < 1000000) (lb : b.length < 1000000) (ha : ∀ x ∈ a, 0 ≤ x ∧ x < ns.length)
    (hb : ∀ x ∈ b, ∃ k e, x = Int.ofNat k ∧ es[k]? = some e ∧ eFit ns e) : O Ez NR 102 [tA, gA ns es, .one (.sl false 1 (rI a)), .one (.sl false 1 (rI b))] = some (rb true, []) := by
  refine spec_of 1 F102 ?_
  intro rat rlen hat hln rcat hcat rcut hcut lp hlp o wrap lt le eq eqs nle tdiv tmod add sub mul room ho hw hlt hle heq heqs hnle hdiv hmod hadd hsub hmul hroom
  have e1 := ho _ _ _ (s30_161 a tC (gP ns es) (fun _ => false) la (fun x hx => s161 hn (ha x hx).1 (ha x hx).2))
  have e2 := ho _ _ _ (s30_162 b (gP ns es) tC (fun _ => false) lb (fun x hx => by obtain ⟨k, e, rfl, hk, hf⟩ := hb x hx; exact s162 hn he hk hf))
  rw [any_no (fun _ _ => rfl)] at e1 e2
  dsimp only [tC, gP, tA, gA] at *
  generalize rI ns = ρ at e1 e2 ⊢
  generalize rE es = σ at e1 e2 ⊢
  generalize rI a = α at e1 ⊢
  generalize rI b = β at e2 ⊢
  generalize tN = τ at e1 e2 ⊢
  generalize tE = υ at e1 e2 ⊢
  cbv
  rw [e1]
  cbv
  rw [e2]
  cbv

theorem s164 {ns : List Int} {es : List (Int × Int × Int)} : O Ez NR 164 [tA, .agg (pC ns es), .agg cond1] = some (ri 0, []) := by
  obtain ⟨n, hn0⟩ : ∃ n : Nat, 5 < n := ⟨6, by omega⟩
  refine spec_of n F164 ?_
  intro rat rlen hat hln rcat hcat rcut hcut lp hlp o wrap lt le eq eqs nle tdiv tmod add sub mul room ho hw hlt hle heq heqs hnle hdiv hmod hadd hsub hmul hroom
  have q0 : eq 1 5 = false := by rw [heq]; rfl
  have z0 : lt 0 (Int.ofNat (rlen [])) = false := by rw [hlt, hln]; rfl
  dsimp only [tA, pC, cond1]
  generalize rI ns = ρ
  generalize rE es = σ
  generalize tN = τ
  generalize tE = υ
  cbv
  rw [q0]
  cbv
  refine loopU (hlp _ _ _ _ _) (fun s _ => s) (fun _ => True) 0 (by omega) trivial (by cbv) rfl ?_
  intro i hi _ C' hret hex hnorm
  cbv
  rw [z0]
  cbv
  rw [hex]
  cbv

theorem s103 {ns : List Int} {es : List (Int × Int × Int)} (hn : nOk ns) (he : eOk ns.length es) : O Ez NR 103 [tA, .agg (pC ns es), .agg cond1] = some (ri 0, []) := by
  refine spec_of 1 F103 ?_
  intro rat rlen hat hln rcat hcat rcut hcut lp hlp o wrap lt le eq eqs nle tdiv tmod add sub mul room ho hw hlt hle heq heqs hnle hdiv hmod hadd hsub hmul hroom
  have e1 := ho _ _ _ (s98 hn he)
  have e2 := ho _ _ _ k163
  have e3 := ho _ _ _ (@s164 ns es)
  have q0 : eq 0 0 = true := by rw [heq]; rfl
  dsimp only [tA, pC, cond1] at *
  generalize rI ns = ρ at e1 e3 ⊢
  generalize rE es = σ at e1 e3 ⊢
  generalize tN = τ at e1 e3 ⊢
  generalize tE = υ at e1 e3 ⊢
  cbv
  rw [e1]
  cbv
  rw [q0]
  cbv
  rw [e2]
  cbv
  rw [q0]
  cbv
  rw [e3]
  cbv
end Am

