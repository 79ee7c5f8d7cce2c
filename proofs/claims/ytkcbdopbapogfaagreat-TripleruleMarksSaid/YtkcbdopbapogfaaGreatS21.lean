/-
  What functions of the given program answer, as values, shown by that evaluator: each theorem bears its own conditions.
  By an AI agent. No person has read it.
-/
import Derived.Test.YtkcbdopbapogfaaGreatS20
set_option linter.all false
set_option maxRecDepth 100000
noncomputable section
namespace Am
open Go Go.Proofs

theorem s119 (n a b : Int) : O Ez NR 119 [.one (vi n), .one (vi a), .one (vi b)] = some (rb (decide (a ≤ n) && decide (n ≤ b)), []) := by
  refine spec_of 1 F119 ?_
  intro rat rlen hat hln rcat hcat rcut hcut lp hlp o wrap lt le eq eqs nle tdiv tmod add sub mul room ho hw hlt hle heq heqs hnle hdiv hmod hadd hsub hmul hroom
  rw [← hle, ← hle]
  generalize hr : (le a n && le n b) = r
  cbv
  cases h1 : le a n with
  | false => rw [h1] at hr; cbv; rw [← hr]; rfl
  | true =>
    rw [h1] at hr
    cbv
    rw [← hr]
    cases h2 : le n b <;> rfl

theorem s118 {a b : Int} (h1 : 0 ≤ a ∧ a < 5) (h2 : 0 ≤ b ∧ b < 5) : O Ez NR 118 [tA, .one (vi a), .one (vi b)] = some (ri 0, []) := by
  refine spec_of 1 F118 ?_
  intro rat rlen hat hln rcat hcat rcut hcut lp hlp o wrap lt le eq eqs nle tdiv tmod add sub mul room ho hw hlt hle heq heqs hnle hdiv hmod hadd hsub hmul hroom
  have e0 := ho _ _ _ k74
  have e1 := ho _ _ _ (s119 a 0 4)
  have e2 := ho _ _ _ (s119 b 0 4)
  rw [show (decide ((0 : Int) ≤ a) && decide (a ≤ 4)) = true by simp; omega] at e1
  rw [show (decide ((0 : Int) ≤ b) && decide (b ≤ 4)) = true by simp; omega] at e2
  have q0 : eq 0 0 = true := by rw [heq]; rfl
  have g1 : sub .i64 (Int.ofNat (rlen tN)) 1 = 4 := by rw [hsub, hln]; rfl
  dsimp only [tA] at *
  generalize tN = τ at *
  generalize tE = υ at *
  cbv
  rw [e0]
  cbv
  rw [q0]
  cbv
  rw [g1]
  cbv
  rw [e1]
  cbv
  rw [g1]
  cbv
  rw [e2]
  cbv

theorem s120m (b : Int) (h : 0 ≤ b) : O Ez NR 120 [tA, .one (vi (-1)), .one (vi b)] = some (rb false, []) := by
  refine spec_of 1 F120 ?_
  intro rat rlen hat hln rcat hcat rcut hcut lp hlp o wrap lt le eq eqs nle tdiv tmod add sub mul room ho hw hlt hle heq heqs hnle hdiv hmod hadd hsub hmul hroom
  have g1 : eq (-1) b = false := by rw [heq]; simp; omega
  have g2 : le 0 (-1) = false := by rw [hle]; rfl
  dsimp only [tA] at *
  generalize tN = τ at *
  generalize tE = υ at *
  cbv
  rw [g1]
  cbv
  rw [g2]
  cbv
theorem s120 (k : Nat) (b : Int) (hk : k < 5) (h : 0 ≤ b) : O Ez NR 120 [tA, .one (vi (Int.ofNat k)), .one (vi b)] = some (rb (Int.ofNat k == b), []) := by
  refine spec_of 1 F120 ?_
  intro rat rlen hat hln rcat hcat rcut hcut lp hlp o wrap lt le eq eqs nle tdiv tmod add sub mul room ho hw hlt hle heq heqs hnle hdiv hmod hadd hsub hmul hroom
  have e0 := ho _ _ _ (s120m b h)
  have g2 : le 0 (Int.ofNat k) = true := by rw [hle, ofn]; simp
  obtain ⟨nm, hrow⟩ := tN_at k hk
  have e1 := (hat tN k).trans hrow
  rw [← heq]
  dsimp only [tA] at *
  generalize tN = τ at *
  generalize tE = υ at *
  cbv
  cases hb : eq (Int.ofNat k) b with
  | true => cbv
  | false =>
    cbv
    rw [g2]
    cbv
    rw [e1]
    cbv
    rw [e0]
    cbv

theorem frT_nonneg (k : Nat) : 0 ≤ frT k := by
  unfold frT
  match k with
  | 0 | 1 | 2 | 3 | 4 | 5 => decide
  | k + 6 => simp
theorem toT_nonneg (k : Nat) : 0 ≤ toT k := by
  unfold toT
  match k with
  | 0 | 1 | 2 | 3 | 4 | 5 => decide
  | k + 6 => simp

theorem s68 {ty a b : Int} (h1 : 0 ≤ ty ∧ ty < 6) (h2 : 0 ≤ a ∧ a < 5) (h3 : 0 ≤ b ∧ b < 5) : O Ez NR 68 [tA, .one (vi ty), .one (vi a), .one (vi b)] = some (rb (fitI ty a b), []) := by
  refine spec_of 1 F68 ?_
  intro rat rlen hat hln rcat hcat rcut hcut lp hlp o wrap lt le eq eqs nle tdiv tmod add sub mul room ho hw hlt hle heq heqs hnle hdiv hmod hadd hsub hmul hroom
  obtain ⟨kt, rfl⟩ := toN h1.1
  obtain ⟨ka, rfl⟩ := toN h2.1
  obtain ⟨kb, rfl⟩ := toN h3.1
  have b1 : kt < 6 := by have := h1.2; rw [ofn] at this; omega
  have b2 : ka < 5 := by have := h2.2; rw [ofn] at this; omega
  have b3 : kb < 5 := by have := h3.2; rw [ofn] at this; omega
  have e1 := ho _ _ _ (s118 h2 h3)
  have e2 := ho _ _ _ (s120 ka (frT kt) b2 (frT_nonneg kt))
  have e3 := ho _ _ _ (s120 kb (toT kt) b3 (toT_nonneg kt))
  have e5 := ho _ _ _ (s119 (Int.ofNat kt) 0 5)
  rw [show (decide ((0 : Int) ≤ Int.ofNat kt) && decide (Int.ofNat kt ≤ 5)) = true by rw [ofn]; simp; omega] at e5
  obtain ⟨nm, hrow⟩ := tE_at kt b1
  have q0 : eq 0 0 = true := by rw [heq]; rfl
  have g1 : sub .i64 (Int.ofNat (rlen tE)) 1 = 5 := by rw [hsub, hln]; rfl
  have hr : fitI (Int.ofNat kt) (Int.ofNat ka) (Int.ofNat kb) = ((Int.ofNat ka == frT kt) && (Int.ofNat kb == toT kt)) := by
    unfold fitI
    rw [show (Int.ofNat kt).toNat = kt from rfl, Bool.beq_comm (a := frT kt), Bool.beq_comm (a := toT kt)]
  rw [hr]
  have e4 : rat tE kt = some _ := (hat tE kt).trans hrow
  generalize (Int.ofNat ka == frT kt) = c1 at e2 ⊢
  generalize (Int.ofNat kb == toT kt) = c2 at e3 ⊢
  generalize frT kt = f1 at e2 e4
  generalize toT kt = f2 at e3 e4
  dsimp only [tA] at *
  generalize tN = τ at *
  generalize tE = υ at *
  cbv
  rw [e1]
  cbv
  rw [q0]
  cbv
  rw [g1]
  cbv
  rw [e5]
  cbv
  rw [e4]
  cbv
  rw [e2]
  cbv
  cases c1 <;> cbv
  rw [e4]
  cbv
  rw [e3]
  cbv

theorem s169 (m : Nat) (hm : m < 1000000) : O Ez NR 169 [.one (vi 0), .one (vi (Int.ofNat m))] = some (.one (own1 (upto m)), []) := by
  refine spec_of (m + 1) F169 ?_
  intro rat rlen hat hln rcat hcat rcut hcut lp hlp o wrap lt le eq eqs nle tdiv tmod add sub mul room ho hw hlt hle heq heqs hnle hdiv hmod hadd hsub hmul hroom
  have u0 : rI (upto 0) = [] := rfl
  have u1 := fun i => (by rw [upto_succ, rI_app, hcat]; rfl : rI (upto (i + 1)) = rcat (rI (upto i)) [[vi (Int.ofNat i)]])
  have ul := fun i => (by rw [rI_len, upto_len]; omega : (rI (upto i)).length ≤ i)
  dsimp only [own1] at *
  generalize hU : (fun i => rI (upto i)) = U
  have hUU : ∀ i, rI (upto i) = U i := fun i => by rw [← hU]
  simp only [hUU] at u0 u1 ul ⊢
  clear hUU hU
  generalize hn : m + 1 = n
  cbv
  refine loopU (hlp _ _ _ _ _) (fun s i => (s.setI 6 i).setS 5 (U i)) (fun _ => True) m (by omega) trivial (by cbv) (by show St.setS (St.setI _ 6 0) 5 (U 0) = _; rw [u0]; cbv) ?_
  intro i hi hp C' hret hex hnorm
  rcases Nat.lt_or_ge i m with h | h
  · have g1 : lt (Int.ofNat i) (Int.ofNat m) = true := by rw [hlt, lt_true h]
    have g2 : add .i64 0 (Int.ofNat i) = Int.ofNat i := by rw [hadd]; exact (wrap_of (by rw [ofn]; omega) (by rw [ofn]; omega)).trans (by omega)
    have r1 : room (rlen (rcat (U i) [[vi (Int.ofNat i)]])) 8 = true := hroom _ _ (by rw [hln, hcat, List.length_append]; have := ul i; simp; omega)
    cbv
    rw [g1]
    cbv
    rw [g2]
    cbv
    rw [r1]
    cbv
    refine hnorm _ h trivial ?_
    rw [u1]
    cbv
    rw [hadd, wrap_succ (by omega)]
  · have g1 : lt (Int.ofNat i) (Int.ofNat m) = false := by rw [hlt, lt_false h]
    have : i = m := by omega
    subst this
    cbv
    rw [g1]
    cbv
    rw [hex]
    cbv

theorem s122 (m : Nat) (hm : m < 1000000) : O Ez NR 122 [.one (vi (Int.ofNat m))] = some (.one (own1 (upto m)), []) := by
  refine spec_of (m + 1) F122 ?_
  intro rat rlen hat hln rcat hcat rcut hcut lp hlp o wrap lt le eq eqs nle tdiv tmod add sub mul room ho hw hlt hle heq heqs hnle hdiv hmod hadd hsub hmul hroom
  have u0 : rI (upto 0) = [] := rfl
  have u1 := fun i => (by rw [upto_succ, rI_app, hcat]; rfl : rI (upto (i + 1)) = rcat (rI (upto i)) [[vi (Int.ofNat i)]])
  have ul := fun i => (by rw [rI_len, upto_len]; omega : (rI (upto i)).length ≤ i)
  dsimp only [own1] at *
  generalize hU : (fun i => rI (upto i)) = U
  have hUU : ∀ i, rI (upto i) = U i := fun i => by rw [← hU]
  simp only [hUU] at u0 u1 ul ⊢
  clear hUU hU
  generalize hn : m + 1 = n
  cbv
  refine loopU (hlp _ _ _ _ _) (fun s i => (s.setI 4 i).setS 3 (U i)) (fun _ => True) m (by omega) trivial (by cbv) (by show St.setS (St.setI _ 4 0) 3 (U 0) = _; rw [u0]; cbv) ?_
  intro i hi hp C' hret hex hnorm
  rcases Nat.lt_or_ge i m with h | h
  · have g1 : lt (Int.ofNat i) (Int.ofNat m) = true := by rw [hlt, lt_true h]
    have r1 : room (rlen (rcat (U i) [[vi (Int.ofNat i)]])) 8 = true := hroom _ _ (by rw [hln, hcat, List.length_append]; have := ul i; simp; omega)
    cbv
    rw [g1]
    cbv
    rw [r1]
    cbv
    refine hnorm _ h trivial ?_
    rw [u1]
    cbv
    rw [hadd, wrap_succ (by omega)]
  · have g1 : lt (Int.ofNat i) (Int.ofNat m) = false := by rw [hlt, lt_false h]
    have : i = m := by omega
    subst this
    cbv
    rw [g1]
    cbv
    rw [hex]
    cbv

theorem s121 {ns : List Int} {es : List (Int × Int × Int)} (h1 : ns.length < 1000000) (h2 : es.length < 1000000) : O Ez NR 121 [gA ns es] = some (.agg [own1 (upto ns.length), own1 (upto es.length)], []) := by
  refine spec_of 1 F121 ?_
  intro rat rlen hat hln rcat hcat rcut hcut lp hlp o wrap lt le eq eqs nle tdiv tmod add sub mul room ho hw hlt hle heq heqs hnle hdiv hmod hadd hsub hmul hroom
  have e1 := ho _ _ _ (s169 ns.length h1)
  have e2 := ho _ _ _ (s169 es.length h2)
  have l1 : rlen (rI ns) = ns.length := by rw [hln, rI_len]
  have l2 : rlen (rE es) = es.length := by rw [hln, rE_len]
  dsimp only [gA, own1] at *
  generalize rI (upto ns.length) = α at *
  generalize rI (upto es.length) = β at *
  rw [← l1] at e1
  rw [← l2] at e2
  generalize rI ns = ρ at *
  generalize rE es = σ at *
  cbv
  rw [e1]
  cbv
  rw [e2]
  cbv
theorem s70 {ns : List Int} {es : List (Int × Int × Int)} (h1 : ns.length < 1000000) (h2 : es.length < 1000000) : O Ez NR 70 [gA ns es] = some (.agg [own1 (upto ns.length), own1 (upto es.length)], []) := by
  refine spec_of 1 F70 ?_
  intro rat rlen hat hln rcat hcat rcut hcut lp hlp o wrap lt le eq eqs nle tdiv tmod add sub mul room ho hw hlt hle heq heqs hnle hdiv hmod hadd hsub hmul hroom
  have e1 := ho _ _ _ (s122 ns.length h1)
  have e2 := ho _ _ _ (s122 es.length h2)
  have l1 : rlen (rI ns) = ns.length := by rw [hln, rI_len]
  have l2 : rlen (rE es) = es.length := by rw [hln, rE_len]
  dsimp only [gA, own1] at *
  generalize rI (upto ns.length) = α at *
  generalize rI (upto es.length) = β at *
  rw [← l1] at e1
  rw [← l2] at e2
  generalize rI ns = ρ at *
  generalize rE es = σ at *
  cbv
  rw [e1]
  cbv
  rw [e2]
  cbv
theorem s67 {ns : List Int} {es : List (Int × Int × Int)} (h1 : ns.length < 1000000) (h2 : es.length < 1000000) : O Ez NR 67 [gA ns es] = some (.agg [own1 ns, own3 es], []) := by
  refine spec_of 1 F67 ?_
  intro rat rlen hat hln rcat hcat rcut hcut lp hlp o wrap lt le eq eqs nle tdiv tmod add sub mul room ho hw hlt hle heq heqs hnle hdiv hmod hadd hsub hmul hroom
  have r1 : room (rlen (rcat [] (rI ns))) 8 = true := hroom _ _ (by rw [hln, hcat, List.length_append, rI_len]; simp; omega)
  have r2 : room (rlen (rcat [] (rE es))) 24 = true := hroom _ _ (by rw [hln, hcat, List.length_append, rE_len]; simp; omega)
  have c1 : rI ns = rcat [] (rI ns) := by rw [hcat]; rfl
  have c2 : rE es = rcat [] (rE es) := by rw [hcat]; rfl
  dsimp only [gA, own1, own3] at *
  generalize rI ns = ρ at *
  generalize rE es = σ at *
  cbv
  rw [r1]
  cbv
  rw [r2]
  cbv
  rw [← c1, ← c2]

abbrev rZ : List C := [.v (.string ⟨#[114]⟩), .sl false 1 [], .sl false 3 [], .sl false 4 [], vi 0, .sl false 5 [], .sl false 1 [], .sl false 3 [], .sl false 4 [], vi 0, .sl false 5 [], .sl false 1 [], .sl false 1 [], .sl false 1 [], .sl false 1 [], vb false, vi 0, .sl false 9 [], .sl false 1 [], .sl false 1 [], .sl false 1 [], .sl false 3 [], .sl false 4 [], vi 0, .sl false 5 []]
theorem s69 {gn : List Int} {ge : List (Int × Int × Int)} {hn : List Int} {he : List (Int × Int × Int)} {im ie : List Int} (h1 : gn.length < 1000000) (h2 : ge.length < 1000000) :
    O Ez NR 69 [.agg rZ, gA gn ge, gA hn he, mA im ie] = some (.agg (rR gn ge hn he im ie), []) := by
  refine spec_of 1 F69 ?_
  intro rat rlen hat hln rcat hcat rcut hcut lp hlp o wrap lt le eq eqs nle tdiv tmod add sub mul room ho hw hlt hle heq heqs hnle hdiv hmod hadd hsub hmul hroom
  have e1 := ho _ _ _ (s121 h1 h2)
  dsimp only [gA, own1, rZ, rR, dI, dE, mA] at *
  generalize rI (upto gn.length) = α at *
  generalize rI (upto ge.length) = β at *
  generalize rI gn = γ at *
  generalize rE ge = δ at *
  generalize rI hn = x9 at *
  generalize rE he = x10 at *
  generalize rI im = x11 at *
  generalize rI ie = x12 at *
  cbv
  rw [e1]
  cbv
end Am

