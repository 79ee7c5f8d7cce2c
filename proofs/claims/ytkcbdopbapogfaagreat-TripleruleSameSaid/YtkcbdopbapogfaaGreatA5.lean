/-
  A computable evaluator of loaded code over values, and that what it answers is what the code does: this text proves no law of the program; it holds without conditions.
  By an AI agent. No person has read it.
-/
import Derived.Test.YtkcbdopbapogfaaGreatA4
set_option linter.all false
namespace Am
open Go
open RowOps LoopOps
instance rowsI : RowOps := ⟨fun l i => l[i]?, List.length, fun _ _ => rfl, fun _ => rfl, fun a b => a ++ b, fun _ _ => rfl, cutR, fun _ _ _ => rfl⟩
instance loopI : LoopOps := ⟨loopN, fun _ _ _ _ _ => rfl⟩

abbrev Szs := Nat → Option Nat
def szOf (sz : Szs) (t : Nat) : Option Nat := sz t

def okCells : List C → List Value → Bool
  | [], [] => true
  | c :: cs, v :: vs => zcell c v && okCells cs vs
  | _, _ => false

def okFields (sz : Szs) (size : Nat) : List Field → List (Nat × Nat) → Bool
  | [], [] => true
  | f :: fs, o :: os => (match szOf sz f.type with | some n => eqN n o.2 | none => false) && (eqN f.offset o.1 && (ltN 0 o.2 && (leN (o.1 + o.2) size && okFields sz size fs os)))
  | _, _ => false

def okKd (sz : Szs) (size : Nat) (d : TypeDesc) : Kd → Bool
  | .struct offs => match d with | .struct fs => okFields sz size fs.toList offs | _ => false
  | .array n e => match d with | .array n' e' => eqN n n' && eqN e e' | _ => false
  | .slice e => match d with | .slice e' => eqN e e' | _ => false
  | .str => match d with | .string => true | _ => false
  | .bool => match d with | .bool => true | _ => false
  | .sc => !d.isRow

def okTI (sz : Szs) (i : TypeInfo) (d : TypeDesc) (ti : TI) : Bool :=
  eqN i.size ti.size && (eqN i.bytes ti.bytes && (ltN 0 ti.size && (ltN 0 ti.bytes && (eqN ti.zero.length ti.size &&
    ((match i.zero with | some z => okCells ti.zero z.cells.toList | none => false) && okKd sz ti.size d ti.kd)))))

theorem okCells_spec : ∀ (cs : List C) (vs : List Value), okCells cs vs = true → cs.length = vs.length ∧ ∀ (j : Nat) (c : C) (v : Value), cs[j]? = some c → vs[j]? = some v → zcell c v = true
  | [], [], _ => ⟨rfl, by simp⟩
  | [], _ :: _, h => by simp [okCells] at h
  | _ :: _, [], h => by simp [okCells] at h
  | c :: cs, v :: vs, h => by
    simp only [okCells, Bool.and_eq_true] at h
    obtain ⟨h1, h2⟩ := okCells_spec cs vs h.2
    refine ⟨by simp [h1], fun j c' v' hc hv => ?_⟩
    cases j with
    | zero => simp at hc hv; subst hc; subst hv; exact h.1
    | succ j => exact h2 j c' v' (by simpa using hc) (by simpa using hv)

theorem okFields_spec {P : Program} {sz : Szs} {size : Nat} (hsz : ∀ t n, szOf sz t = some n → (P.info? t).map (·.size) = some n) : ∀ (fs : List Field) (os : List (Nat × Nat)), okFields sz size fs os = true →
    fs.length = os.length ∧ ∀ (j : Nat) (o : Nat × Nat), os[j]? = some o → ∃ f, fs[j]? = some f ∧ f.offset = o.1 ∧ (P.info? f.type).map (·.size) = some o.2 ∧ 0 < o.2 ∧ o.1 + o.2 ≤ size
  | [], [], _ => ⟨rfl, by simp⟩
  | [], _ :: _, h => by simp [okFields] at h
  | _ :: _, [], h => by simp [okFields] at h
  | f :: fs, o :: os, h => by
    simp only [okFields, Bool.and_eq_true] at h
    obtain ⟨h1, h2, h3, h4, h5⟩ := h
    obtain ⟨k1, k2⟩ := okFields_spec hsz fs os h5
    refine ⟨by simp [k1], fun j o' ho => ?_⟩
    cases j with
    | zero =>
      simp at ho
      subst ho
      refine ⟨f, rfl, beq_eq h2, ?_, by simpa [ltN_eq] using h3, by rw [leN_eq] at h4; exact h4⟩
      split at h1
      · rename_i n hn
        rw [hsz _ _ hn, beq_eq h1]
      · cases h1
    | succ j => exact k2 j o' (by simpa using ho)

theorem okTI_spec {P : Program} {sz : Szs} (hsz : ∀ t n, szOf sz t = some n → (P.info? t).map (·.size) = some n) {t : Nat} {i : TypeInfo} {d : TypeDesc} {ti : TI} (hi : P.info? t = some i) (hd : P.underlying t = some d)
    (h : okTI sz i d ti = true) : TIok P t ti := by
  simp only [okTI, Bool.and_eq_true] at h
  obtain ⟨h1, h2, h3, h4, h5, h6, h7⟩ := h
  refine ⟨?_, by simpa [ltN_eq] using h3, by simpa [ltN_eq] using h4, ?_⟩
  · split at h6
    · rename_i z hz
      obtain ⟨k1, k2⟩ := okCells_spec _ _ h6
      exact ⟨i, z, hi, beq_eq h1, beq_eq h2, hz, by rw [← beq_eq h5, k1]; simp, beq_eq h5, fun j c v hc hv => k2 j c v hc (by simpa using hv)⟩
    · cases h6
  · cases hk : ti.kd with
    | struct offs =>
      rw [hk] at h7
      simp only [okKd] at h7
      split at h7
      · rename_i fs
        obtain ⟨k1, k2⟩ := okFields_spec hsz _ _ h7
        exact ⟨fs, hd, by simpa using k1, fun j o ho => by
          obtain ⟨f, hf, hr⟩ := k2 j o ho
          exact ⟨f, by simpa using hf, hr⟩⟩
      · cases h7
    | array n e =>
      rw [hk] at h7
      simp only [okKd] at h7
      split at h7
      · simp only [Bool.and_eq_true] at h7
        obtain ⟨e1, e2⟩ := h7
        rw [beq_eq e1, beq_eq e2]; exact hd
      · cases h7
    | slice e =>
      rw [hk] at h7
      simp only [okKd] at h7
      split at h7
      · rw [beq_eq h7]; exact hd
      · cases h7
    | str =>
      rw [hk] at h7
      simp only [okKd] at h7
      split at h7
      · exact hd
      · cases h7
    | bool =>
      rw [hk] at h7
      simp only [okKd] at h7
      split at h7
      · exact hd
      · cases h7
    | sc =>
      rw [hk] at h7
      exact ⟨d, hd, by simpa [okKd] using h7⟩

/-! tables as trees of questions -/
theorem nd {α : Type} {c : Prop} [Decidable c] {L R : Option α} {Q : α → Prop} (h : ∀ x, L = some x → Q x) (h' : ∀ x, R = some x → Q x) : ∀ x, (if c then L else R) = some x → Q x := by
  split
  · exact h
  · exact h'
theorem lf {α : Type} {t k : Nat} {y : α} {Q : Nat → α → Prop} (h : Q k y) : ∀ x, (if t = k then some y else none) = some x → Q t x := fun x hx => by
  split at hx
  · rename_i e; cases hx; rw [e]; exact h
  · cases hx
/-- a struct of whole numbers, one cell each -/
def intFields (P : Program) : Nat → List Field → Prop
  | _, [] => True
  | i, f :: fs => f.offset = i ∧ f.name ≠ "_" ∧ (∃ k, P.underlying f.type = some (.int k)) ∧ intFields P (i + 1) fs

theorem eqFields_run {P : Program} {w : World} {d : Nat} {l l' : List (IntKind × Int)} (hk : ∀ (i : Nat) (p q : IntKind × Int), l[i]? = some p → l'[i]? = some q → p.1 = q.1) (hl : l.length = l'.length) :
    ∀ (fs : List Field) (i : Nat), intFields P i fs → i + fs.length = l.length → (Op.eqFields (d + 1) (ints l) (ints l') fs).run P w = .ok (decide (l.drop i = l'.drop i)) w
  | [], i, _, hi => by
    have h1 : l.drop i = [] := List.drop_eq_nil_of_le (by simp at hi; omega)
    have h2 : l'.drop i = [] := List.drop_eq_nil_of_le (by simp at hi; omega)
    simp [Op.eqFields, h1, h2]
  | f :: fs, i, ⟨ho, hn, ⟨k, hu⟩, hr⟩, hi => by
    have hi1 : i < l.length := by simp at hi; omega
    have hi2 : i < l'.length := by omega
    have e1 : (ints l)[i]? = some (.int l[i].1 l[i].2) := by simp [ints, hi1]
    have e2 : (ints l')[i]? = some (.int l'[i].1 l'[i].2) := by simp [ints, hi2]
    have hkk : l[i].1 = l'[i].1 := hk i _ _ (List.getElem?_eq_getElem hi1) (List.getElem?_eq_getElem hi2)
    have hag : (isAgg f.type).run P w = .ok false w := by unfold isAgg; rw [Sem.run_bind, run_underlying hu w]; rfl
    have ih := eqFields_run (P := P) (w := w) (d := d) hk hl fs (i + 1) hr (by simp at hi; omega)
    have p1 : (part f.type (ints l) f.offset).run P w = .ok (.int l[i].1 l[i].2) w := by simp [part, hag, ho, e1]
    have p2 : (part f.type (ints l') f.offset).run P w = .ok (.int l'[i].1 l'[i].2) w := by simp [part, hag, ho, e2]
    have q := run_equalIn_int (P := P) w d f.type l[i].1 k l[i].2 l'[i].2 hu
    rw [← hkk] at p2
    rw [List.drop_eq_getElem_cons hi1, List.drop_eq_getElem_cons hi2]
    simp only [Op.eqFields, hn, ne_eq, not_false_eq_true, if_true, Sem.run_bind, p1, p2, Result.andThen_ok, q]
    have hpair : (l[i] = l'[i]) ↔ l[i].2 = l'[i].2 := ⟨fun h => by rw [h], fun h => Prod.ext hkk h⟩
    generalize l.drop (i + 1) = A at ih ⊢
    generalize l'.drop (i + 1) = B at ih ⊢
    generalize l[i] = p1 at hpair ⊢
    generalize l'[i] = q1 at hpair ⊢
    by_cases he : p1.2 = q1.2
    · have := hpair.2 he
      subst this
      simp [ih]
    · have : ¬ p1 = q1 := fun h => he (hpair.1 h)
      simp [he, this]

theorem eqOk_of {P : Program} {t : Nat} {fs : Array Field} (hu : P.underlying t = some (.struct fs)) (hg : P.eqGuardType P.depth t = false) (hs : P.stoodInHeld t = false) (hf : intFields P 0 fs.toList) (l l' : List (IntKind × Int)) (w : World) (x y : Operand) (hn : l.length = fs.size) (hl : l.length = l'.length)
    (hk : ∀ (i : Nat) (p q : IntKind × Int), l[i]? = some p → l'[i]? = some q → p.1 = q.1) :
    (do eqGuard .eql t x y (.agg (ints l)) (.agg (ints l')); binOp .eql t (.agg (ints l)) (.agg (ints l')) : Sem Value).run P w = .ok (.bool (decide (l = l'))) w ∧
    (do eqGuard .neq t x y (.agg (ints l)) (.agg (ints l')); binOp .neq t (.agg (ints l)) (.agg (ints l')) : Sem Value).run P w = .ok (.bool (!decide (l = l'))) w := by
  have hfo : P.fieldsOf t = fs := by simp [Program.fieldsOf, hu]
  have key : (Op.equal t (.agg (ints l)) (.agg (ints l'))).run P w = .ok (decide (l = l')) w := by
    show (Op.equalIn (9999 + 1) t (.agg (ints l)) (.agg (ints l'))).run P w = _
    rw [run_equalIn_struct w 9999 t _ _ (by rw [hfo]; exact hu) hs, hfo]
    have := eqFields_run (P := P) (w := w) (d := 9998) hk hl fs.toList 0 hf (by simpa using hn.symm)
    simpa using this
  constructor <;> simp [eqGuard, hg, binOp, key]

def SzQ (P : Program) (t n : Nat) : Prop := (P.info? t).map (·.size) = some n
theorem szQ {P : Program} {t n : Nat} {i : TypeInfo} (h : P.info? t = some i) (hn : i.size = n) : SzQ P t n := by unfold SzQ; rw [h]; exact congrArg some hn
def EqQ (P : Program) (t n : Nat) : Prop := ∀ (l l' : List (IntKind × Int)) (w : World) (x y : Operand), l.length = n → l.length = l'.length →
  (∀ (i : Nat) (p q : IntKind × Int), l[i]? = some p → l'[i]? = some q → p.1 = q.1) →
  (do eqGuard .eql t x y (.agg (ints l)) (.agg (ints l')); binOp .eql t (.agg (ints l)) (.agg (ints l')) : Sem Value).run P w = .ok (.bool (decide (l = l'))) w ∧
  (do eqGuard .neq t x y (.agg (ints l)) (.agg (ints l')); binOp .neq t (.agg (ints l)) (.agg (ints l')) : Sem Value).run P w = .ok (.bool (!decide (l = l'))) w
def IkQ (P : Program) (t : Nat) (k : IntKind) : Prop := P.underlying t = some (.int k)
def FnQ (P : Program) (f : Nat) (fn : Func) : Prop := P.funcs[f]? = some fn ∧ fn.name ≠ "runtime.NumGoroutine" ∧ ∀ c, fn.body = some c → codeOk fn.ntmps c = true

/-- numbers as they are -/
def NR : Ar := ⟨IntKind.wrap, fun a b => decide (a < b), fun a b => decide (a ≤ b), fun a b => a == b, fun a b => a.toList == b.toList, fun a b => Nat.ble a b, Int.tdiv, Int.tmod, fun k a b => IntKind.wrap k (a + b), fun k a b => IntKind.wrap k (a - b), fun k a b => IntKind.wrap k (a * b), fun n b => Nat.ble (n * b) 140737488355328⟩
theorem NR_ok : NOk NR := ⟨fun _ _ => rfl, fun _ _ => rfl, fun _ _ => rfl, fun _ _ => rfl, fun _ _ => rfl, fun _ _ => rfl, fun _ _ => rfl, fun _ _ => rfl, fun _ _ _ => rfl, fun _ _ _ => rfl, fun _ _ _ => rfl, fun _ _ => rfl⟩
end Am

namespace Am
open Go
open RowOps LoopOps

/-- a loop whose rounds are counted: T i is the state at the head of round i (let go what is not needed), P i what is known there -/
theorem loopN_rule {ρ : Type} {can : St → Option St} {body : St → (Ex → St → Option ρ) → Option ρ} {C : Ex → St → Option ρ} {x : ρ} (T : Nat → St) (P : Nat → Prop) (m : Nat)
    (step : ∀ i, i ≤ m → P i → ∀ C' : Ex → St → Option ρ, (∀ s, C' .ret s = C .ret s) → (∀ id s, C' (.exit id) s = C (.exit id) s) → (∀ s, i < m → P (i + 1) → can s = some (T (i + 1)) → C' .normal s = some x) → body (T i) C' = some x) :
    ∀ (n i : Nat) (s : St), i ≤ m → P i → m < n + i → can s = some (T i) → loopN can body n s C = some x
  | 0, i, s, hi, _, hn, _ => by omega
  | n + 1, i, s, hi, hp, hn, hc => by
    simp only [loopN, hc]
    exact step i hi hp _ (fun _ => rfl) (fun _ _ => rfl) fun s' hi' hp' hc' => loopN_rule T P m step n (i + 1) s' (by omega) hp' (by omega) hc'

variable [RowOps] [LoopOps]
theorem loop0 {ρ : Type} {can : St → Option St} {body : St → (Ex → St → Option ρ) → Option ρ} {C : Ex → St → Option ρ} {x : ρ} {n : Nat} {s : St} (T : Nat → St) (P : Nat → Prop) (m : Nat) (hn : m < n) (hp : P 0) (hc : can s = some (T 0))
    (step : ∀ i, i ≤ m → P i → ∀ C' : Ex → St → Option ρ, (∀ s, C' .ret s = C .ret s) → (∀ id s, C' (.exit id) s = C (.exit id) s) → (∀ s, i < m → P (i + 1) → can s = some (T (i + 1)) → C' .normal s = some x) → body (T i) C' = some x) :
    loop can body n s C = some x := by
  rw [loop_eq]
  exact loopN_rule T P m step n 0 s (Nat.zero_le _) hp (by omega) hc

def small (n : Nat) : Prop := n < 1099511627776
theorem wrap_of {n : Int} (h1 : -9223372036854775808 ≤ n) (h2 : n < 9223372036854775808) : IntKind.wrap .i64 n = n := by
  have hs : IntKind.signed .i64 = true := rfl
  unfold IntKind.wrap
  simp [IntKind.bits, hs]
  split <;> omega
theorem wrap_nat {n : Nat} (h : n < 9223372036854775808) : IntKind.wrap .i64 (Int.ofNat n) = Int.ofNat n := wrap_of (by have : Int.ofNat n = (n : Int) := rfl; omega) (by have : Int.ofNat n = (n : Int) := rfl; omega)
theorem wrap_succ {n : Nat} (h : n < 9223372036854775807) : IntKind.wrap .i64 (Int.ofNat n + 1) = Int.ofNat (n + 1) := wrap_nat (n := n + 1) (by omega)
theorem lt_true {a b : Nat} (h : a < b) : decide (Int.ofNat a < Int.ofNat b) = true := by simpa using h
theorem lt_false {a b : Nat} (h : b ≤ a) : decide (Int.ofNat a < Int.ofNat b) = false := by simpa using h

/-- a list of numbers as rows -/
def rI (l : List Int) : List (List C) := l.map fun n => [.v (.int .i64 n)]
theorem at_rI (l : List Int) (i : Nat) : rowAt (rI l) i = (l[i]?).map fun n => [.v (.int .i64 n)] := by
  rw [rowAt_get]; simp [rI]
theorem len_rI (l : List Int) : rowsLen (rI l) = l.length := by simp [rI]
end Am

namespace Am
open Go

theorem ownA_one (c : C) (v : Value) : OwnA [.one c] [v] = fun _ => False := by
  funext b
  refine eq_false fun ⟨i, g, u, hg, ho, _⟩ => ?_
  match i, hg with
  | 0, hg => simp at hg; subst hg; cases ho
  | i + 1, hg => simp at hg
theorem mvA_one (c : C) (v : Value) (b : Nat) : MvA [.one c] [v] b = False := by
  refine eq_false fun ⟨i, g, u, hg, ho, _⟩ => ?_
  match i, hg with
  | 0, hg => simp at hg; subst hg; cases ho
  | i + 1, hg => simp at hg
theorem post_one (c c' : C) (v : Value) : Post [.one c] [v] = Post [.one c'] [v] := by
  unfold Post
  simp only [ownA_one, mvA_one]
  rfl

/-- an empty frozen slice is some empty slice -/
theorem Sat.split {P : Program} {f e : Nat} {r : R} (h : ∀ a cap, Sat P f [.one (.v (.slice a 0 cap))] r []) : Sat P f [.one (.sl false e [])] r [] := by
  refine ⟨(h none 0).1, fun w vs K hA => ?_⟩
  obtain ⟨v, hv⟩ : ∃ v, vs.toList = [v] := by
    have := hA.len
    match hm : vs.toList, this with
    | [v], _ => exact ⟨v, rfl⟩
  have hr := hA.rep 0 _ v rfl (by rw [hv]; rfl)
  rw [hv] at hA ⊢
  obtain ⟨a, cap, hvv⟩ : ∃ a cap, v = .slice a 0 cap := by
    have hr : RC w K (.sl false e []) v := hr
    cases hr
    exact ⟨_, _, rfl⟩
  have := (h a cap).2 w vs K ⟨by rw [hv]; rfl, fun i g u hg hu => by
    rw [hv] at hu
    match i, hg, hu with
    | 0, hg, hu =>
      simp at hg hu
      subst hg; subst hu
      show RC w K _ _
      rw [hvv]
      exact .v rfl
    | i + 1, hg, _ => simp at hg, fun i j g g' u u' b _ hg _ ho => by
      match i, hg with
      | 0, hg => simp at hg; subst hg; cases ho
      | i + 1, hg => simp at hg, hA.Kb⟩
  rw [hv, post_one _ (.sl false e [])] at this
  exact this
end Am

