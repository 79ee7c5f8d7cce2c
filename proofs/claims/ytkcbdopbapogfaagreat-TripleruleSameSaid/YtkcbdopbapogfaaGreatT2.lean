/-
  Tables of the loaded program for that evaluator, each entry checked against the program as loaded: it holds without conditions.
  By an AI agent. No person has read it.
-/
import Derived.Test.YtkcbdopbapogfaaGreatT1
import Derived.Test.YtkcbdopbapogfaaGreatA5
set_option linter.all false
set_option maxRecDepth 10000
noncomputable section
namespace Am
open Go Go.Proofs RowOps LoopOps

/-! slices.Clone, shown apart: an empty slice that came in may be nil or not, which the evaluator does not know -/
theorem clA112' [RO : RowOps] [LO : LoopOps] (N : Ar) (hN : NOk N) (o : Orc) (r : List C) (rs : List (List C)) (h : (r :: rs).length * 8 ≤ 140737488355328) : evalF Ec N o 1 112 Tryz.f112 [.one (.sl false 1 (r :: rs))] = some (.one (.own 1 (r :: rs)), []) := by
  obtain ⟨rat, rlen, hat, hln, rcat, hcat, rcut, hcut⟩ := RO
  have hn : N.room (rlen (rcat [] (r :: rs))) 8 = true := by rw [hN.room, hln, hcat]; exact Nat.ble_eq_true_of_le h
  obtain ⟨wrap, lt, le, eq, eqs, nle, tdiv, tmod, add, sub, mul, room⟩ := N
  simp only at hn
  cbv
  rw [hn]
  cbv
  rw [hcat]
  rfl
theorem clA112 (r : List C) (rs : List (List C)) (h : (r :: rs).length * 8 ≤ 140737488355328) : O Ec NR 112 [.one (.sl false 1 (r :: rs))] = some (.one (.own 1 (r :: rs)), []) :=
  O_of 1 Fc112 (clA112' NR NR_ok _ r rs h)
theorem clB112' [RO : RowOps] [LO : LoopOps] (N : Ar) (hN : NOk N) (o : Orc) (a : Option Addr) (cap : Nat) : evalF Ec N o 1 112 Tryz.f112 [.one (.v (.slice a 0 cap))] = some (.one (.own 1 []), []) := by
  obtain ⟨rat, rlen, hat, hln, rcat, hcat, rcut, hcut⟩ := RO
  have hn : N.room (rlen (rcat [] [])) 8 = true := by rw [hN.room, hln, hcat]; rfl
  obtain ⟨wrap, lt, le, eq, eqs, nle, tdiv, tmod, add, sub, mul, room⟩ := N
  simp only at hn
  cases a with
  | none => cbv
  | some a =>
    cbv
    rw [hn]
    cbv
    rw [hcat]
    rfl
theorem clB112 (a : Option Addr) (cap : Nat) : O Ec NR 112 [.one (.v (.slice a 0 cap))] = some (.one (.own 1 []), []) :=
  O_of 1 Fc112 (clB112' NR NR_ok _ a cap)
theorem clA113' [RO : RowOps] [LO : LoopOps] (N : Ar) (hN : NOk N) (o : Orc) (r : List C) (rs : List (List C)) (h : (r :: rs).length * 24 ≤ 140737488355328) : evalF Ec N o 1 113 Tryz.f113 [.one (.sl false 3 (r :: rs))] = some (.one (.own 3 (r :: rs)), []) := by
  obtain ⟨rat, rlen, hat, hln, rcat, hcat, rcut, hcut⟩ := RO
  have hn : N.room (rlen (rcat [] (r :: rs))) 24 = true := by rw [hN.room, hln, hcat]; exact Nat.ble_eq_true_of_le h
  obtain ⟨wrap, lt, le, eq, eqs, nle, tdiv, tmod, add, sub, mul, room⟩ := N
  simp only at hn
  cbv
  rw [hn]
  cbv
  rw [hcat]
  rfl
theorem clA113 (r : List C) (rs : List (List C)) (h : (r :: rs).length * 24 ≤ 140737488355328) : O Ec NR 113 [.one (.sl false 3 (r :: rs))] = some (.one (.own 3 (r :: rs)), []) :=
  O_of 1 Fc113 (clA113' NR NR_ok _ r rs h)
theorem clB113' [RO : RowOps] [LO : LoopOps] (N : Ar) (hN : NOk N) (o : Orc) (a : Option Addr) (cap : Nat) : evalF Ec N o 1 113 Tryz.f113 [.one (.v (.slice a 0 cap))] = some (.one (.own 3 []), []) := by
  obtain ⟨rat, rlen, hat, hln, rcat, hcat, rcut, hcut⟩ := RO
  have hn : N.room (rlen (rcat [] [])) 24 = true := by rw [hN.room, hln, hcat]; rfl
  obtain ⟨wrap, lt, le, eq, eqs, nle, tdiv, tmod, add, sub, mul, room⟩ := N
  simp only at hn
  cases a with
  | none => cbv
  | some a =>
    cbv
    rw [hn]
    cbv
    rw [hcat]
    rfl
theorem clB113 (a : Option Addr) (cap : Nat) : O Ec NR 113 [.one (.v (.slice a 0 cap))] = some (.one (.own 3 []), []) :=
  O_of 1 Fc113 (clB113' NR NR_ok _ a cap)
theorem clA235' [RO : RowOps] [LO : LoopOps] (N : Ar) (hN : NOk N) (o : Orc) (r : List C) (rs : List (List C)) (h : (r :: rs).length * 16 ≤ 140737488355328) : evalF Ec N o 1 235 Tryz.f235 [.one (.sl false 1 (r :: rs))] = some (.one (.own 1 (r :: rs)), []) := by
  obtain ⟨rat, rlen, hat, hln, rcat, hcat, rcut, hcut⟩ := RO
  have hn : N.room (rlen (rcat [] (r :: rs))) 16 = true := by rw [hN.room, hln, hcat]; exact Nat.ble_eq_true_of_le h
  obtain ⟨wrap, lt, le, eq, eqs, nle, tdiv, tmod, add, sub, mul, room⟩ := N
  simp only at hn
  cbv
  rw [hn]
  cbv
  rw [hcat]
  rfl
theorem clA235 (r : List C) (rs : List (List C)) (h : (r :: rs).length * 16 ≤ 140737488355328) : O Ec NR 235 [.one (.sl false 1 (r :: rs))] = some (.one (.own 1 (r :: rs)), []) :=
  O_of 1 Fc235 (clA235' NR NR_ok _ r rs h)
theorem clB235' [RO : RowOps] [LO : LoopOps] (N : Ar) (hN : NOk N) (o : Orc) (a : Option Addr) (cap : Nat) : evalF Ec N o 1 235 Tryz.f235 [.one (.v (.slice a 0 cap))] = some (.one (.own 1 []), []) := by
  obtain ⟨rat, rlen, hat, hln, rcat, hcat, rcut, hcut⟩ := RO
  have hn : N.room (rlen (rcat [] [])) 16 = true := by rw [hN.room, hln, hcat]; rfl
  obtain ⟨wrap, lt, le, eq, eqs, nle, tdiv, tmod, add, sub, mul, room⟩ := N
  simp only at hn
  cases a with
  | none => cbv
  | some a =>
    cbv
    rw [hn]
    cbv
    rw [hcat]
    rfl
theorem clB235 (a : Option Addr) (cap : Nat) : O Ec NR 235 [.one (.v (.slice a 0 cap))] = some (.one (.own 1 []), []) :=
  O_of 1 Fc235 (clB235' NR NR_ok _ a cap)
theorem Fc_ok : FnOk Tryz.prog Ec := by
  intro f fn h
  have h : Fc f = some fn := h
  unfold Fc at h
  split at h
  · rename_i e; cases h; rw [e]; exact fn112
  split at h
  · rename_i e; cases h; rw [e]; exact fn113
  split at h
  · rename_i e; cases h; rw [e]; exact fn235
  cases h
theorem foll : Tryz.prog.follows .mixedOrders = true := by kernel_rfl
theorem Ec_sat {f : Nat} {args : List Arg} {r : R} {outs : Outs} (h : O Ec NR f args = some (r, outs)) : Sat Tryz.prog f args r outs :=
  O_sat foll NR_ok Tz_ok (fun t n h => eqZ_ok t n h) ikZ_ok ftyZ_ok Fc_ok (fun _ _ _ _ _ h => by cases h) h

theorem Xz_ok : XOk Tryz.prog Ez := by
  intro f args r outs _ h
  replace h : Xz f args = some (r, outs) := h
  unfold Xz at h
  split at h
  · rename_i e rows
    cases hb112 : eqN f 112 with
    | true =>
      have := beq_eq hb112
      subst this
      rw [hb112] at h
      simp only [cond_true] at h
      cases hc : (eqN e 1 && Nat.ble (rows.length * 8) 140737488355328) with
      | false => rw [hc] at h; cases h
      | true =>
        rw [hc] at h
        simp only [cond_true, Option.some.injEq, Prod.mk.injEq] at h
        obtain ⟨rfl, rfl⟩ := h
        simp only [Bool.and_eq_true] at hc
        have he := beq_eq hc.1
        subst he
        cases rows with
        | nil => exact Sat.split fun a cap => Ec_sat (clB112 a cap)
        | cons x xs => exact Ec_sat (clA112 x xs (Nat.le_of_ble_eq_true hc.2))
    | false =>
    rw [hb112] at h
    simp only [cond_false] at h
    cases hb113 : eqN f 113 with
    | true =>
      have := beq_eq hb113
      subst this
      rw [hb113] at h
      simp only [cond_true] at h
      cases hc : (eqN e 3 && Nat.ble (rows.length * 24) 140737488355328) with
      | false => rw [hc] at h; cases h
      | true =>
        rw [hc] at h
        simp only [cond_true, Option.some.injEq, Prod.mk.injEq] at h
        obtain ⟨rfl, rfl⟩ := h
        simp only [Bool.and_eq_true] at hc
        have he := beq_eq hc.1
        subst he
        cases rows with
        | nil => exact Sat.split fun a cap => Ec_sat (clB113 a cap)
        | cons x xs => exact Ec_sat (clA113 x xs (Nat.le_of_ble_eq_true hc.2))
    | false =>
    rw [hb113] at h
    simp only [cond_false] at h
    cases hb235 : eqN f 235 with
    | true =>
      have := beq_eq hb235
      subst this
      rw [hb235] at h
      simp only [cond_true] at h
      cases hc : (eqN e 1 && Nat.ble (rows.length * 16) 140737488355328) with
      | false => rw [hc] at h; cases h
      | true =>
        rw [hc] at h
        simp only [cond_true, Option.some.injEq, Prod.mk.injEq] at h
        obtain ⟨rfl, rfl⟩ := h
        simp only [Bool.and_eq_true] at hc
        have he := beq_eq hc.1
        subst he
        cases rows with
        | nil => exact Sat.split fun a cap => Ec_sat (clB235 a cap)
        | cons x xs => exact Ec_sat (clA235 x xs (Nat.le_of_ble_eq_true hc.2))
    | false =>
    rw [hb235] at h
    simp only [cond_false] at h
    cases h
  · cases h
theorem Ez_sat {f : Nat} {args : List Arg} {r : R} {outs : Outs} (h : O Ez NR f args = some (r, outs)) : Sat Tryz.prog f args r outs :=
  O_sat (E := Ez) foll NR_ok (fun t i hh => Tz_ok t i hh) (fun t n hh => eqZ_ok t n hh) (fun t n hh => ikZ_ok t n hh) ftyZ_ok (fun t fn hh => Fz_ok t fn hh) Xz_ok h
end Am

namespace Am
open Go
open RowOps LoopOps

def upd {α : Type} (k : Nat) (x : α) : List (Nat × α) → List (Nat × α)
  | [] => []
  | (j, y) :: r => match eqN j k with | true => (j, x) :: r | false => (j, y) :: upd k x r
/-- the state with another whole number in a slot -/
def St.setI (s : St) (t n : Nat) : St := ⟨upd t (.one (.c (.v (.int .i64 (Int.ofNat n))))) s.fr, s.ob⟩
def setArr (k : Nat) (rows : List (List C)) : List (Nat × Ob) → List (Nat × Ob)
  | [] => []
  | (j, y) :: r => match eqN j k with | true => (match y with | .arr e _ v f => (j, .arr e rows v f) :: r | _ => []) | false => (j, y) :: setArr k rows r
/-- the array that a slot names -/
def St.setS (s : St) (t : Nat) (rows : List (List C)) : St :=
  match s.slot t with
  | some (.one (.ref k _ _)) => ⟨s.fr, setArr k rows s.ob⟩
  | _ => s
/-- the array that a variable's cell names -/
def St.setV (s : St) (t o : Nat) (rows : List (List C)) : St :=
  match s.slot t with
  | some (.one (.loc k _)) => match s.obj k with
    | some (.box cells _) => match nth cells o with
      | some (.ref k' _ _) => ⟨s.fr, setArr k' rows s.ob⟩
      | _ => s
    | _ => s
  | _ => s

/-- a loop whose heads differ from the first one by what T says -/
theorem loopU {ρ : Type} {can : St → Option St} {body : St → (Ex → St → Option ρ) → Option ρ} {C : Ex → St → Option ρ} {x : ρ} {n : Nat} {s s0 : St} {v : Option ρ} (hv : v = loopN can body n s C) (T : St → Nat → St) (P : Nat → Prop) (m : Nat) (hn : m < n) (hp : P 0) (hc : can s = some s0) (h0 : T s0 0 = s0)
    (step : ∀ i, i ≤ m → P i → ∀ C' : Ex → St → Option ρ, (∀ s, C' .ret s = C .ret s) → (∀ id s, C' (.exit id) s = C (.exit id) s) → (∀ s, i < m → P (i + 1) → can s = some (T s0 (i + 1)) → C' .normal s = some x) → body (T s0 i) C' = some x) :
    v = some x := by
  rw [hv]
  exact loopN_rule (T s0) P m step n 0 s (Nat.zero_le _) hp (by omega) (by rw [h0]; exact hc)

/-- a function's value: by a run that asks an oracle, over numbers, rows and loops that stay as they are -/
theorem spec_of {f : Nat} {fn : Func} {args : List Arg} {x : R × Outs} (fuel : Nat) (hf : Ez.F f = some fn)
    (h : ∀ (rat : List (List C) → Nat → Option (List C)) (rlen : List (List C) → Nat) (hat : ∀ l i, rat l i = l[i]?) (hln : ∀ l, rlen l = l.length) (rcat : List (List C) → List (List C) → List (List C)) (hcat : ∀ a b, rcat a b = a ++ b) (rcut : List (List C) → Nat → Nat → List (List C)) (hcut : ∀ a l h, rcut a l h = cutR a l h)
      (lp : {ρ : Type} → (St → Option St) → (St → (Ex → St → Option ρ) → Option ρ) → Nat → St → (Ex → St → Option ρ) → Option ρ)
      (hlp : ∀ {ρ : Type} (can : St → Option St) (body : St → (Ex → St → Option ρ) → Option ρ) (n : Nat) (s : St) (K : Ex → St → Option ρ), lp can body n s K = loopN can body n s K) (o : Orc) (wrap : IntKind → Int → Int) (lt le eq : Int → Int → Bool) (eqs : ByteArray → ByteArray → Bool) (nle : Nat → Nat → Bool) (tdiv tmod : Int → Int → Int) (add sub mul : IntKind → Int → Int → Int) (room : Nat → Nat → Bool),
      (∀ f args x, @O rowsI loopI Ez NR f args = some x → o f args = some x) →
      (∀ k n, wrap k n = IntKind.wrap k n) → (∀ a b, lt a b = decide (a < b)) → (∀ a b, le a b = decide (a ≤ b)) → (∀ a b, eq a b = (a == b)) → (∀ a b, eqs a b = (a.toList == b.toList)) → (∀ a b, nle a b = Nat.ble a b) → (∀ a b, tdiv a b = Int.tdiv a b) → (∀ a b, tmod a b = Int.tmod a b) →
      (∀ k a b, add k a b = IntKind.wrap k (a + b)) → (∀ k a b, sub k a b = IntKind.wrap k (a - b)) → (∀ k a b, mul k a b = IntKind.wrap k (a * b)) → (∀ n b, n * b ≤ 140737488355328 → room n b = true) →
      @evalF ⟨rat, rlen, hat, hln, rcat, hcat, rcut, hcut⟩ ⟨lp, hlp⟩ Ez ⟨wrap, lt, le, eq, eqs, nle, tdiv, tmod, add, sub, mul, room⟩ o fuel f fn args = some x) : O Ez NR f args = some x :=
  O_of fuel hf (h (fun l i => l[i]?) List.length (fun _ _ => rfl) (fun _ => rfl) (fun a b => a ++ b) (fun _ _ => rfl) cutR (fun _ _ _ => rfl) loopN (fun _ _ _ _ _ => rfl) (O Ez NR) _ _ _ _ _ _ _ _ _ _ _ _ (fun _ _ _ h => h) (fun _ _ => rfl) (fun _ _ => rfl) (fun _ _ => rfl) (fun _ _ => rfl) (fun _ _ => rfl) (fun _ _ => rfl) (fun _ _ => rfl) (fun _ _ => rfl) (fun _ _ _ => rfl) (fun _ _ _ => rfl) (fun _ _ _ => rfl) (fun _ _ h => Nat.ble_eq_true_of_le h))

def rE (l : List (Int × Int × Int)) : List (List C) := l.map fun e => [.v (.int .i64 e.1), .v (.int .i64 e.2.1), .v (.int .i64 e.2.2)]
theorem rI_len (l : List Int) : (rI l).length = l.length := by simp [rI]
theorem rI_at (l : List Int) (i : Nat) : (rI l)[i]? = (l[i]?).map fun n => [.v (.int .i64 n)] := by simp [rI]
theorem rE_len (l : List (Int × Int × Int)) : (rE l).length = l.length := by simp [rE]
theorem rE_at (l : List (Int × Int × Int)) (i : Nat) : (rE l)[i]? = (l[i]?).map fun e => [.v (.int .i64 e.1), .v (.int .i64 e.2.1), .v (.int .i64 e.2.2)] := by simp [rE]
end Am

