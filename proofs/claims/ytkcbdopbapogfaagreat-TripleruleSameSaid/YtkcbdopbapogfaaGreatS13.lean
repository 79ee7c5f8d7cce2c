/-
  What functions of the given program answer, as values, shown by that evaluator: each theorem bears its own conditions.
  By an AI agent. No person has read it.
-/
import Derived.Test.YtkcbdopbapogfaaGreatS12
set_option linter.all false
set_option maxRecDepth 100000
noncomputable section
namespace Am
open Go Go.Proofs

theorem nat_add {a b : Nat} (ha : a < 1000000) (hb : b < 1000000) : IntKind.wrap .i64 (Int.ofNat a + Int.ofNat b) = Int.ofNat (a + b) := wrap_nat (n := a + b) (by omega)

theorem s53 (a b : List Int) (la : a.length < 400000) (lb : b.length < 400000) : O Ez NR 53 [.one (.sl false 1 [[.sl false 1 (rI a)], [.sl false 1 (rI b)]])] = some (.one (own1 (a ++ b)), []) := by
  refine spec_of 3 F53 ?_
  intro rat rlen hat hln rcat hcat rcut hcut lp hlp o wrap lt le eq eqs nle tdiv tmod add sub mul room ho hw hlt hle heq heqs hnle hdiv hmod hadd hsub hmul hroom
  have l1 : rlen (rI a) = a.length := by rw [hln, rI_len]
  have l2 : rlen (rI b) = b.length := by rw [hln, rI_len]
  have lc : rI (a ++ b) = rcat (rcat [] (rI a)) (rI b) := by rw [hcat, hcat, rI_app]; rfl
  have e0 := ho _ _ _ (s104 (a.length + b.length) (by omega))
  have t0 : rat [[.sl false 1 (rI a)], [.sl false 1 (rI b)]] 0 = some [.sl false 1 (rI a)] := by rw [hat]; rfl
  have t1 : rat [[.sl false 1 (rI a)], [.sl false 1 (rI b)]] 1 = some [.sl false 1 (rI b)] := by rw [hat]; rfl
  have tl : rlen [[.sl false 1 (rI a)], [.sl false 1 (rI b)]] = 2 := by rw [hln]; rfl
  have r1 : room (rlen (rcat [] (rI a))) 8 = true := hroom _ _ (by rw [hln, hcat, List.length_append, rI_len]; simp; omega)
  have r2 : room (rlen (rcat (rcat [] (rI a)) (rI b))) 8 = true := hroom _ _ (by rw [hln, hcat, hcat, List.length_append, List.length_append, rI_len, rI_len]; simp; omega)
  dsimp only [own1]
  rw [lc]
  generalize [[C.sl false 1 (rI a)], [C.sl false 1 (rI b)]] = θ at t0 t1 tl ⊢
  generalize rI a = ρ at l1 t0 r1 r2 ⊢
  generalize rI b = σ at l2 t1 r2 ⊢
  generalize hA : a.length = A at *
  generalize hB : b.length = B at *
  have gS : add .i64 (Int.ofNat A) (Int.ofNat B) = Int.ofNat (A + B) := by rw [hadd, nat_add (by omega) (by omega)]
  generalize A + B = S at e0 gS
  obtain ⟨sz, hz0, hz1, hz2⟩ : ∃ sz : Nat → Nat, sz 0 = 0 ∧ sz 1 = A ∧ sz 2 = S := ⟨fun i => match i with | 0 => 0 | 1 => A | _ => S, rfl, rfl, rfl⟩
  obtain ⟨R, hR0, hR1, hR2⟩ : ∃ R : Nat → List (List C), R 0 = [] ∧ R 1 = rcat [] ρ ∧ R 2 = rcat (rcat [] ρ) σ := ⟨fun i => match i with | 0 => [] | 1 => rcat [] ρ | _ => rcat (rcat [] ρ) σ, rfl, rfl, rfl⟩
  have cnt : ∀ i : Nat, i < 2 → lt (Int.ofNat i) (Int.ofNat (rlen θ)) = true := fun i h => by rw [hlt, tl, lt_true h]
  have cntF : lt (Int.ofNat 2) (Int.ofNat (rlen θ)) = false := by rw [hlt, tl]; rfl
  have pos : ∀ i : Nat, lt (Int.ofNat i) 0 = false := fun i => by rw [hlt, ofn]; simp
  generalize hn : 3 = n
  cbv
  refine loopU (hlp _ _ _ _ _) (fun s i => (s.setI 11 i).setI 3 (sz i)) (fun _ => True) 2 (by omega) trivial (by cbv) (by show St.setI (St.setI _ 11 0) 3 (sz 0) = _; rw [hz0]; cbv) ?_
  intro i hi hp C' hret hex hnorm
  match i, hi with
  | 0, _ =>
    rw [hz0]
    have g1 := cnt 0 (by omega)
    have g2 : add .i64 (Int.ofNat 0) (Int.ofNat A) = Int.ofNat A := by rw [hadd, nat_add (by omega) (by omega), Nat.zero_add]
    cbv
    rw [g1]
    cbv
    rw [t0]
    cbv
    rw [l1, g2, pos]
    cbv
    refine hnorm _ (by omega) trivial ?_
    rw [hz1]
    cbv
    rw [hadd]
    rfl
  | 1, _ =>
    rw [hz1]
    have g1 := cnt 1 (by omega)
    have g2 := gS
    cbv
    rw [g1]
    cbv
    rw [t1]
    cbv
    rw [l2, g2, pos]
    cbv
    refine hnorm _ (by omega) trivial ?_
    rw [hz2]
    cbv
    rw [hadd]
    rfl
  | 2, _ =>
    rw [hz2]
    cbv
    rw [cntF]
    cbv
    rw [hex]
    cbv
    rw [e0]
    cbv
    clear hret hex hnorm hp
    refine loopU (hlp _ _ _ _ _) (fun s i => (s.setI 27 i).setS 6 (R i)) (fun _ => True) 2 (by omega) trivial (by cbv) (by show St.setS (St.setI _ 27 0) 6 (R 0) = _; rw [hR0]; cbv) ?_
    intro i hi hp C' hret hex hnorm
    match i, hi with
    | 0, _ =>
      rw [hR0]
      have g1 := cnt 0 (by omega)
      cbv
      rw [g1]
      cbv
      rw [t0]
      cbv
      rw [r1]
      cbv
      refine hnorm _ (by omega) trivial ?_
      rw [hR1]
      cbv
      rw [hadd]
      rfl
    | 1, _ =>
      rw [hR1]
      have g1 := cnt 1 (by omega)
      cbv
      rw [g1]
      cbv
      rw [t1]
      cbv
      rw [r2]
      cbv
      refine hnorm _ (by omega) trivial ?_
      rw [hR2]
      cbv
      rw [hadd]
      rfl
    | 2, _ =>
      rw [hR2]
      cbv
      rw [cntF]
      cbv
      rw [hex]
      cbv
end Am

