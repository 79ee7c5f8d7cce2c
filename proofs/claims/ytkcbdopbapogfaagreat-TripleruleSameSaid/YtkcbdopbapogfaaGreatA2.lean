/-
  A computable evaluator of loaded code over values, and that what it answers is what the code does: this text proves no law of the program; it holds without conditions.
  By an AI agent. No person has read it.
-/
import Derived.Test.YtkcbdopbapogfaaGreatA1
import Derived.Laws.Small
import Derived.Laws.StructEq
import Derived.Maps.AppendAt
set_option linter.all false
namespace Am
open Go
variable [RowOps] [LoopOps]
open RowOps LoopOps

structure NOk (N : Ar) : Prop where
  wrap : ∀ k n, N.wrap k n = IntKind.wrap k n
  lt : ∀ a b, N.lt a b = decide (a < b)
  le : ∀ a b, N.le a b = decide (a ≤ b)
  eq : ∀ a b, N.eq a b = (a == b)
  eqs : ∀ a b, N.eqs a b = (a.toList == b.toList)
  nleq : ∀ a b, N.nle a b = Nat.ble a b
  tdiv : ∀ a b, N.tdiv a b = Int.tdiv a b
  tmod : ∀ a b, N.tmod a b = Int.tmod a b
  add : ∀ k a b, N.add k a b = IntKind.wrap k (a + b)
  sub : ∀ k a b, N.sub k a b = IntKind.wrap k (a - b)
  mul : ∀ k a b, N.mul k a b = IntKind.wrap k (a * b)
  room : ∀ n b, N.room n b = Nat.ble (n * b) 140737488355328

theorem NOk.roomle {N : Ar} (h : NOk N) (n b : Nat) (hb : N.room n b = true) : n * b ≤ 140737488355328 := by rw [h.room] at hb; exact Nat.le_of_ble_eq_true hb
theorem NOk.nle {N : Ar} (h : NOk N) (a b : Nat) (hb : N.nle a b = true) : a ≤ b := by rw [h.nleq] at hb; rw [← Nat.ble_eq]; exact hb

section
variable {P : Program} {E : Cfg} {N : Ar} {call : Orc} {B : Nat} {Own : Nat → Prop} {w0 : Base} {G : Gh} {K : Nat → Prop} {s : St} {a : Act} {w : World}

/-- what is owed for an operation -/
def Good (P : Program) (B : Nat) (Own : Nat → Prop) (w0 : Base) (s : St) (a : Act) (w : World) (o : Oper) (e : Eff) : Prop :=
  ∀ (next : Act → World → Prop) (Q : Exit → Act → World → Prop), (∀ a' w' G' K', a'.tmps.size = a.tmps.size → Inv B Own w0 G' K' (s.apply o.dst e) a' w' → next a' w') → o.wp P a w next Q

theorem good_value {o : Oper} {e : Eff} {v : Value} {w' : World} {G' : Gh} {K' : Nat → Prop} (h : (execOp a.eval o).run P w = .ok (.value v) w')
    (hi : Inv B Own w0 G' K' (s.apply o.dst e) (a.put o.dst v) w') : Good P B Own w0 s a w o e :=
  fun _ _ hn => wp_of_value h (hn _ _ _ _ (put_size _ _ _) hi)
theorem good_skip {o : Oper} {e : Eff} {w' : World} {G' : Gh} {K' : Nat → Prop} (h : (execOp a.eval o).run P w = .ok .skip w')
    (hi : Inv B Own w0 G' K' (s.apply o.dst e) (a.put o.dst undef) w') : Good P B Own w0 s a w o e :=
  fun _ _ hn => wp_of_skip h (hn _ _ _ _ (put_size _ _ _) hi)

/-- an operation that gives a value and leaves the world -/
theorem good_put (I : Inv B Own w0 G K s a w) {o : Oper} (hd : ∀ t', o.dst = some t' → t' < a.tmps.size) {x : W} {v : Value} (h : (execOp a.eval o).run P w = .ok (.value v) w)
    (hr : RW G s.obj w K x v) : Good P B Own w0 s a w o ⟨some x, []⟩ := good_value h (I.put hd hr)

theorem get_val {x : Option W} {e : Eff} {look : Nat → Option Ob} (h : (val x).get look = some e) : ∃ y, x = some y ∧ e = ⟨some y, []⟩ := by
  cases x with
  | none => simp [val] at h
  | some y => simp [val] at h; exact ⟨y, rfl, h.symm⟩

theorem rw_nil {ob : Nat → Option Ob} {e : Nat} {v : Value} (h : RW G ob w K (.one (.c (.sl true e []))) v) : v = .slice none 0 0 := by
  cases h with
  | one h => cases h with
    | c h => cases h; rfl

theorem good_move (I : Inv B Own w0 G K s a w) {o : Oper} (hd : ∀ t', o.dst = some t' → t' < a.tmps.size) {x : Operand} (ho : o.op = .move x) {e : Eff}
    (h : (eop E N call s.slot o.dst o.type (.move x)).get s.obj = some e) : Good P B Own w0 s a w o e := by
  have hrun : (execOp a.eval o).run P w = .ok (.value (a.eval x)) w := by unfold execOp; simp [ho]
  simp only [eop] at h
  split at h
  · rename_i e0 hx
    have hv := rw_nil (opnd_rw I hx)
    split at h
    · split at h
      · simp at h; subst h
        exact good_put I hd hrun (hv ▸ .one (.c .nil))
      · simp at h
    · simp at h
  · obtain ⟨y, hy, rfl⟩ := get_val h
    exact good_put I hd hrun (opnd_rw I hy)

theorem good_assign (I : Inv B Own w0 G K s a w) {o : Oper} (hd : ∀ t', o.dst = some t' → t' < a.tmps.size) {x : Operand} (ho : o.op = .assign x) {e : Eff}
    (h : (eop E N call s.slot o.dst o.type (.assign x)).get s.obj = some e) : Good P B Own w0 s a w o e := by
  have hrun : (execOp a.eval o).run P w = .ok (.value (a.eval x)) w := by unfold execOp; simp [ho]
  simp only [eop] at h
  split at h
  · rename_i e0 hx
    have hv := rw_nil (opnd_rw I hx)
    split at h
    · split at h
      · simp at h; subst h
        exact good_put I hd hrun (hv ▸ .one .nil0)
      · simp at h
    · simp at h
  · obtain ⟨y, hy, rfl⟩ := get_val h
    exact good_put I hd hrun (opnd_rw I hy)

theorem rw_sc {ob : Nat → Option Ob} {x v : Value} (h : RW G ob w K (.one (.c (.v x))) v) : v = x := by
  cases h with
  | one h => cases h with
    | c h => cases h; rfl

theorem good_pick (I : Inv B Own w0 G K s a w) {o : Oper} (hd : ∀ t', o.dst = some t' → t' < a.tmps.size) {c x y : Operand} (ho : o.op = .pick c x y) {e : Eff}
    (h : (eop E N call s.slot o.dst o.type (.pick c x y)).get s.obj = some e) : Good P B Own w0 s a w o e := by
  simp only [eop] at h
  split at h
  · rename_i t hc
    have hv := rw_sc (opnd_rw I hc)
    cases t with
    | true =>
      obtain ⟨z, hz, rfl⟩ := get_val h
      exact good_put I hd (by unfold execOp; simp [ho, hv, asBool]) (opnd_rw I hz)
    | false =>
      obtain ⟨z, hz, rfl⟩ := get_val h
      exact good_put I hd (by unfold execOp; simp [ho, hv, asBool]) (opnd_rw I hz)
  · simp at h

theorem rw_loc {k off : Nat} {v : Value} {cells : List A} {frz : Bool} (h : RW G s.obj w K (.one (.loc k off)) v) (ho : s.obj k = some (.box cells frz)) :
    ∃ b, G.val k = .pointer (some ⟨b, 0, none⟩) ∧ v = .pointer (some ⟨b, off, none⟩) := by
  cases h with
  | one h => cases h with
    | loc ho' _ h => rw [ho] at ho'; cases ho'; exact h _ _ rfl

theorem rw_ptr {cs : List C} {v : Value} {ob : Nat → Option Ob} (h : RW G ob w K (.one (.c (.ptr cs))) v) :
    ∃ b o, ∃ g : Nat → Value, v = .pointer (some ⟨b, o, none⟩) ∧ K b ∧ (∀ (j : Nat) (c : C), cs[j]? = some c → w.cell? ⟨b, o + j, none⟩ = some (g j)) ∧
      (∀ (j : Nat) (c : C), cs[j]? = some c → RC w K c (g j)) := by
  cases h with
  | one h => cases h with
    | c h => cases h with
      | ptr g hK hc hr => exact ⟨_, _, g, rfl, hK, hc, hr⟩

theorem rw_clo {f : Nat} {caps : List A} {v : Value} {ob : Nat → Option Ob} (h : RW G ob w K (.one (.clo f caps)) v) :
    ∃ vs, v = .func (.func f) #[] vs ∧ caps.length = vs.size ∧ ∀ (j : Nat) (c : A) (v : Value), caps[j]? = some c → vs[j]? = some v → RA G ob w K c v := by
  cases h with
  | one h => cases h with
    | clo h hr => exact ⟨_, rfl, h, hr⟩

theorem rw_cloC {f : Nat} {caps : List C} {v : Value} {ob : Nat → Option Ob} (h : RW G ob w K (.one (.c (.clo f caps))) v) :
    ∃ vs, v = .func (.func f) #[] vs ∧ caps.length = vs.size ∧ ∀ (j : Nat) (c : C) (v : Value), caps[j]? = some c → vs[j]? = some v → RC w K c v := by
  cases h with
  | one h => cases h with
    | c h => cases h with
      | clo h hr => exact ⟨_, rfl, h, hr⟩

theorem good_nilCheck (I : Inv B Own w0 G K s a w) {o : Oper} (hd : ∀ t', o.dst = some t' → t' < a.tmps.size) {x : Operand} (ho : o.op = .nilCheck x) {e : Eff}
    (h : (eop E N call s.slot o.dst o.type (.nilCheck x)).get s.obj = some e) : Good P B Own w0 s a w o e := by
  simp only [eop] at h
  split at h
  · rename_i k off hx
    have hr := opnd_rw I hx
    simp only [Rd.get_look] at h
    split at h
    · rename_i cells frz hob
      obtain ⟨b, _, hv⟩ := rw_loc hr hob
      simp at h; subst h
      exact good_put I hd (v := a.eval x) (by unfold execOp; simp [ho, hv]) hr
    · simp at h
  · rename_i cs hx
    have hr := opnd_rw I hx
    obtain ⟨b, off, g, hv, _⟩ := rw_ptr hr
    simp at h; subst h
    exact good_put I hd (v := a.eval x) (by unfold execOp; simp [ho, hv]) hr
  · rename_i f cs hx
    have hr := opnd_rw I hx
    obtain ⟨vs, hv, _⟩ := rw_clo hr
    simp at h; subst h
    exact good_put I hd (v := a.eval x) (by unfold execOp; simp [ho, hv]) hr
  · rename_i f cs hx
    have hr := opnd_rw I hx
    obtain ⟨vs, hv, _⟩ := rw_cloC hr
    simp at h; subst h
    exact good_put I hd (v := a.eval x) (by unfold execOp; simp [ho, hv]) hr
  · simp at h

theorem nth_get {α : Type} : ∀ (l : List α) (i : Nat), nth l i = l[i]?
  | [], i => by cases i <;> rfl
  | x :: r, 0 => rfl
  | x :: r, i + 1 => by simp only [nth, List.getElem?_cons_succ]; exact nth_get r i
theorem good_extract (I : Inv B Own w0 G K s a w) {o : Oper} (hd : ∀ t', o.dst = some t' → t' < a.tmps.size) {x : Operand} {i : Nat} (ho : o.op = .extract x i) {e : Eff}
    (h : (eop E N call s.slot o.dst o.type (.extract x i)).get s.obj = some e) : Good P B Own w0 s a w o e := by
  simp only [eop] at h
  split at h
  · rename_i ws hx
    obtain ⟨z, hz, rfl⟩ := get_val h
    have hr := opnd_rw I hx
    generalize hy : a.eval x = y at hr
    cases hr with
    | tup hl hr =>
      rename_i vs
      rw [nth_get] at hz
      have hlt : i < vs.size := hl ▸ (List.getElem?_eq_some_iff.1 hz).1
      have hg : vs[i]? = some vs[i] := Array.getElem?_eq_getElem hlt
      exact good_put I hd (v := vs[i]) (by unfold execOp; simp [ho, hy, Instr.extract, hg]) (hr i z _ hz hg)
  · simp at h

theorem good_unOp (hN : NOk N) (I : Inv B Own w0 G K s a w) {o : Oper} (hd : ∀ t', o.dst = some t' → t' < a.tmps.size) {op : UnOp} {ty : Nat} {x : Operand} (ho : o.op = .unOp op ty x) {e : Eff}
    (h : (eop E N call s.slot o.dst o.type (.unOp op ty x)).get s.obj = some e) : Good P B Own w0 s a w o e := by
  simp only [eop] at h
  split at h
  · rename_i y hx
    obtain ⟨z, hz, rfl⟩ := get_val h
    have hr := opnd_rw I hx
    unfold eun at hz
    split at hz
    · have hv := rw_sc hr
      exact good_put I hd (by unfold execOp; simp [ho, hv, Op.unary]) (wOf_rw hz)
    · have hv := rw_sc hr
      exact good_put I hd (by unfold execOp; simp [ho, hv, Op.unary, Op.intArith]; rfl) (by rw [hN.sub] at hz; simpa using wOf_rw hz)
    · cases hz
  · simp at h

theorem scalar_run (hN : NOk N) {op : BinOp} {x y z : Value} {t : TypeId} {p q : Operand} (h : scalarOp N op x y = some z) :
    (do eqGuard op t p q x y; binOp op t x y : Sem Value).run P w = .ok z w := by
  unfold scalarOp at h
  split at h
  · rename_i k a1 k' b1
    cases hk : decide (k = k') with
    | false => simp [hk] at h
    | true =>
      have hkk : k = k' := of_decide_eq_true hk
      subst hkk
      simp only [decide_true, cond_true] at h
      cases op
      case quo =>
        simp only at h
        cases hb : N.eq b1 0 with
        | true => rw [hb] at h; cases h
        | false =>
          rw [hb] at h
          simp at h
          rw [hN.eq] at hb
          have hb0 : b1 ≠ 0 := by simpa using hb
          subst h
          simp [eqGuard, binOp, Op.intDiv, hb0, hN.wrap, hN.tdiv]
      case rem =>
        simp only at h
        cases hb : N.eq b1 0 with
        | true => rw [hb] at h; cases h
        | false =>
          rw [hb] at h
          simp at h
          rw [hN.eq] at hb
          have hb0 : b1 ≠ 0 := by simpa using hb
          subst h
          simp [eqGuard, binOp, Op.intDiv, hb0, hN.tmod]
      case shr =>
        unfold shrOp at h
        simp only at h
        split at h
        · rename_i m n
          split at h
          · rename_i hb
            have hn := leN_le hb
            simp at h
            subst h
            have hbits : n ≤ k.bits := by cases k <;> simp [IntKind.bits] <;> omega
            have hneg : ¬ ((n : Int) < 0) := by omega
            have hmin : min n k.bits = n := Nat.min_eq_left hbits
            simp [eqGuard, binOp, Op.shift, hneg, hmin]
            have e1 : (m : Int).fdiv (2 ^ n) = ((m / 2 ^ n : Nat) : Int) := by
              rw [Int.fdiv_eq_ediv_of_nonneg _ (by have : (2 : Int) ^ n = ((2 ^ n : Nat) : Int) := by simp
                                                   rw [this]; exact Int.natCast_nonneg _)]
              simp
            rw [e1]; simp
          · cases h
        · cases h
      all_goals (simp at h <;> subst h <;> simp [eqGuard, binOp, Op.intArith, Op.intCmp, hN.add, hN.sub, hN.mul, hN.lt, hN.le, hN.eq, bne])
  · rename_i a1 b1
    cases op <;> simp at h <;> subst h <;> simp [eqGuard, binOp, Op.stringOp, hN.eqs]
  · cases h

theorem good_convert (hN : NOk N) (hI : ∀ t k, E.ik t = some k → P.underlying t = some (.int k)) (I : Inv B Own w0 G K s a w) {o : Oper} (hd : ∀ t', o.dst = some t' → t' < a.tmps.size) {src dst : Nat} {x : Operand} (ho : o.op = .convert src dst x) {e : Eff}
    (h : (eop E N call s.slot o.dst o.type (.convert src dst x)).get s.obj = some e) : Good P B Own w0 s a w o e := by
  simp only [eop] at h
  split at h
  · rename_i k0 n k1 k hx hs hk
    obtain ⟨z, hz, rfl⟩ := get_val h
    have hv := rw_sc (opnd_rw I hx)
    refine good_put I hd (v := .int k (k.wrap n)) ?_ (by rw [hN.wrap] at hz; exact wOf_rw hz)
    unfold execOp
    simp [ho, hv, convert, run_underlying (hI _ _ hs), run_underlying (hI _ _ hk), Conv.intToInt]
  · simp at h

theorem eqInts_spec (hN : NOk N) : ∀ (as bs : List A) (t : Bool), eqInts N as bs = some t → ∃ l l' : List (IntKind × Int),
    as = l.map (fun x => A.c (.v (.int x.1 x.2))) ∧ bs = l'.map (fun x => A.c (.v (.int x.1 x.2))) ∧ l.length = l'.length ∧
    (∀ (i : Nat) (p q : IntKind × Int), l[i]? = some p → l'[i]? = some q → p.1 = q.1) ∧ t = decide (l = l') := by
  intro as
  induction as with
  | nil =>
    intro bs t h
    cases bs with
    | nil => simp [eqInts] at h; subst h; exact ⟨[], [], rfl, rfl, rfl, fun i p q h => by simp at h, by simp⟩
    | cons b r => simp [eqInts] at h
  | cons a r ih =>
    intro bs t h
    cases bs with
    | nil => unfold eqInts at h; split at h <;> simp_all
    | cons b r' =>
      unfold eqInts at h
      split at h
      · simp_all
      · rename_i k a1 r1 k' b1 r2 e1 e2
        obtain ⟨rfl, rfl⟩ := e1
        obtain ⟨rfl, rfl⟩ := e2
        cases hk : decide (k = k') with
        | false => simp [hk] at h
        | true =>
          have hkk : k = k' := of_decide_eq_true hk
          subst hkk
          simp only [decide_true, cond_true] at h
          cases ht : eqInts N r r' with
          | none => simp [ht] at h
          | some t' =>
            simp [ht] at h
            obtain ⟨l, l', h1, h2, h3, h4, h5⟩ := ih r' t' ht
            refine ⟨(k, a1) :: l, (k, b1) :: l', by simp [h1], by simp [h2], by simp [h3], fun i p q hp hq => ?_, ?_⟩
            · cases i with
              | zero => simp at hp hq; rw [← hp, ← hq]
              | succ i => simp at hp hq; exact h4 i p q hp hq
            · subst h
              rw [h5, hN.eq]
              by_cases e1 : a1 = b1 <;> by_cases e2 : l = l' <;> simp [e1, e2]
      · cases h

theorem rw_ints {l : List (IntKind × Int)} {v : Value} {ob : Nat → Option Ob} (h : RW G ob w K (.agg (l.map fun x => A.c (.v (.int x.1 x.2)))) v) : v = .agg (ints l) := by
  cases h with
  | agg hl hr =>
    rename_i vs
    congr 1
    apply Array.ext
    · simp [ints] at hl ⊢; exact hl.symm
    · intro i h1 h2
      have hi : i < l.length := by simpa [ints] using h2
      have := hr i _ vs[i] (by simp [List.getElem?_eq_getElem hi]; rfl) (Array.getElem?_eq_getElem h1)
      generalize vs[i] = z at this
      cases this with
      | c h => cases h; simp [ints]

theorem eqnil_run (u : World) {t e : TypeId} (ad : Option Addr) (n c : Nat) (h : P.underlying t = some (.slice e)) : (Op.equal t (.slice ad n c) (.slice none 0 0)).run P u = .ok ad.isNone u := by
  have : ∀ d : Nat, (Op.equalIn (d + 1) t (.slice ad n c) (.slice none 0 0)).run P u = .ok ad.isNone u := fun d => by
    cases ad <;> simp [Op.equalIn, run_underlying h]
  exact this 9999
theorem good_binOp (hN : NOk N) (hT : TabOk P E.T) (hE : EqOk P E.eqT) (I : Inv B Own w0 G K s a w) {o : Oper} (hd : ∀ t', o.dst = some t' → t' < a.tmps.size) {op : BinOp} {ty ty' : Nat} {x y : Operand} (ho : o.op = .binOp op ty x y ty') {e : Eff}
    (h : (eop E N call s.slot o.dst o.type (.binOp op ty x y ty')).get s.obj = some e) : Good P B Own w0 s a w o e := by
  simp only [eop] at h
  split at h
  · rename_i u v hx hy
    obtain ⟨z, hz, rfl⟩ := get_val h
    have hrx := opnd_rw I hx
    have hry := opnd_rw I hy
    have key : ∀ r, (do eqGuard op ty x y (a.eval x) (a.eval y); binOp op ty (a.eval x) (a.eval y) : Sem Value).run P w = .ok r w → (execOp a.eval o).run P w = .ok (.value r) w := by
      intro r hr
      unfold execOp
      simp only [ho]
      rw [Sem.run_bind, hr]; rfl
    unfold ebin at hz
    split at hz
    · rename_i a1 b1
      have hvx := rw_sc hrx
      have hvy := rw_sc hry
      split at hz
      · rename_i hti
        have hu := (hT _ _ hti).kd
        simp only at hu
        split at hz
        · exact good_put I hd (key _ (by rw [hvx, hvy]; simp [eqGuard, run_eql_bool, hu])) (wOf_rw hz)
        · exact good_put I hd (key _ (by rw [hvx, hvy]; simp [eqGuard, run_neq_bool, hu])) (wOf_rw hz)
        · cases hz
      · cases hz
    · rename_i a1 b1 _
      have hvx := rw_sc hrx
      have hvy := rw_sc hry
      cases hs : scalarOp N op a1 b1 with
      | none => simp [hs] at hz
      | some r =>
        simp [hs] at hz
        exact good_put I hd (key r (by rw [hvx, hvy]; exact scalar_run hN hs)) (wOf_rw hz)
    · rename_i x1 e1
      split at hz
      · rename_i el _ _ _ hti
        have hu : P.underlying ty = some (.slice el) := (hT _ _ hti).kd
        have hvy := rw_nil hry
        cases hq : nilQ x1 with
        | none => simp [hq] at hz
        | some t =>
          obtain ⟨a0, n0, c0, hvx, hn0⟩ : ∃ a0 n0 c0, a.eval x = .slice a0 n0 c0 ∧ a0.isNone = t := by
            generalize a.eval x = v at hrx
            unfold nilQ at hq
            split at hq <;> simp at hq <;> subst hq
            · rw [rw_nil hrx]; exact ⟨_, _, _, rfl, rfl⟩
            · cases hrx with | one h => cases h; exact ⟨_, _, _, rfl, rfl⟩
            · cases hrx with | one h => cases h with | c h => cases h; exact ⟨_, _, _, rfl, rfl⟩
            · cases hrx with | one h => cases h with | c h => cases h with
              | sl g hc he ha hr =>
                obtain ⟨b, o, h1, _⟩ := ha (by simp)
                exact ⟨_, _, _, rfl, by rw [h1]; rfl⟩
          subst hn0
          simp only [hq, Option.bind_some] at hz
          split at hz
          · exact good_put I hd (key _ (by rw [hvx, hvy]; simp [eqGuard, Go.binOp, eqnil_run w _ _ _ hu])) (wOf_rw hz)
          · exact good_put I hd (key _ (by rw [hvx, hvy]; simp [eqGuard, Go.binOp, eqnil_run w _ _ _ hu])) (wOf_rw hz)
          · cases hz
      · cases hz
    · rename_i as bs
      cases ht0 : eqSize as.length (E.eqT ty) with
      | false => rw [ht0] at hz; cases hz
      | true =>
        rw [ht0] at hz
        simp only [cond_true] at hz
        obtain ⟨n, ht, hn⟩ : ∃ n, E.eqT ty = some n ∧ as.length = n := by
          unfold eqSize at ht0
          split at ht0
          · rename_i n hn; exact ⟨n, hn, beq_eq ht0⟩
          · cases ht0
        cases he : eqInts N as bs with
        | none => simp [he] at hz
        | some t =>
          obtain ⟨l, l', rfl, rfl, h3, h4, h5⟩ := eqInts_spec hN _ _ _ he
          have hvx := rw_ints hrx
          have hvy := rw_ints hry
          simp [he] at hz
          obtain ⟨e1, e2⟩ := hE ty n ht l l' w x y (by simpa using hn) h3 h4
          cases op <;> simp at hz
          · exact good_put I hd (key _ (by rw [hvx, hvy]; exact e1)) (h5 ▸ wOf_rw hz)
          · exact good_put I hd (key _ (by rw [hvx, hvy]; exact e2)) (h5 ▸ wOf_rw hz)
    · cases hz
  · simp at h

theorem opnds_rw (I : Inv B Own w0 G K s a w) : ∀ (xs : List Operand) (ws : List W), opnds s.slot xs = some ws → ws.length = xs.length ∧
    ∀ (j : Nat) (y : W) (x : Operand), ws[j]? = some y → xs[j]? = some x → RW G s.obj w K y (a.eval x)
  | [], ws, h => by simp [opnds] at h; subst h; exact ⟨rfl, fun j y x h => by simp at h⟩
  | x :: r, ws, h => by
    simp only [opnds] at h
    cases hx : opnd s.slot x with
    | none => simp [hx] at h
    | some y =>
      cases hr : opnds s.slot r with
      | none => simp [hx, hr] at h
      | some ys =>
        simp [hx, hr] at h
        subst h
        obtain ⟨h1, h2⟩ := opnds_rw I r ys hr
        refine ⟨by simp [h1], fun j z x' hz hx' => ?_⟩
        cases j with
        | zero => simp at hz hx'; subst hz; subst hx'; exact opnd_rw I hx
        | succ j => simp at hz hx'; exact h2 j z x' hz hx'

theorem fnCells_one : ∀ (ws : List W) (as : List A), fnCells ws = some as → ws = as.map W.one
  | [], as, h => by simp [fnCells] at h; subst h; rfl
  | x :: r, as, h => by
    simp only [fnCells] at h
    cases x with
    | one y =>
      cases hr : fnCells r with
      | none => simp [fnCell, hr] at h
      | some ys => simp [fnCell, hr] at h; subst h; simp [fnCells_one r ys hr]
    | agg ys => simp [fnCell] at h
    | tup ys => simp [fnCell] at h

theorem good_makeFunc (I : Inv B Own w0 G K s a w) {o : Oper} (hd : ∀ t', o.dst = some t' → t' < a.tmps.size) {fn : Fn} {first caps : Array Operand} (ho : o.op = .makeFunc fn first caps) {e : Eff}
    (h : (eop E N call s.slot o.dst o.type (.makeFunc fn first caps)).get s.obj = some e) : Good P B Own w0 s a w o e := by
  cases fn with
  | func f =>
    simp only [eop] at h
    split at h
    · rename_i as h1 h2
      simp at h; subst h
      cases ho2 : opnds s.slot caps.toList with
      | none => simp [ho2] at h2
      | some ws =>
        simp [ho2] at h2
        have hws := fnCells_one _ _ h2
        obtain ⟨hl, hr⟩ := opnds_rw I _ _ ho2
        have hf : first = #[] := by cases first; simp_all
        refine good_put I hd (v := .func (.func f) #[] (caps.map a.eval)) (by unfold execOp; simp [ho, Instr.makeFunc, hf]) (.one (.clo (by rw [hws] at hl; simpa using hl) fun j c v hc hv => ?_))
        have hc2 : ws[j]? = some (.one c) := by rw [hws]; simp [hc]
        have hj : j < caps.size := by
          have := (List.getElem?_eq_some_iff.1 hc2).1
          simpa [hl] using this
        have hx : caps.toList[j]? = some caps[j] := by simp [hj]
        have := hr j _ _ hc2 hx
        simp [hj] at hv
        subst hv
        cases this with
        | one h => exact h
    · simp at h
  | _ => simp [eop] at h

theorem info_of {t : Nat} {ti : TI} (h : TIok P t ti) : ∃ i z, P.info? t = some i ∧ i.size = ti.size ∧ i.bytes = ti.bytes ∧ i.zero = some z ∧ z.cells.size = ti.size ∧ ti.zero.length = ti.size ∧
    ∀ (j : Nat) (c : C) (v : Value), ti.zero[j]? = some c → z.cells[j]? = some v → zcell c v = true := h.info

theorem varCell_ra {c : C} {v : Value} {ob : Nat → Option Ob} (h : zcell c v = true) : RA G ob w K (varCell c) v := by
  have hr : RC w K c v := zcell_rc h
  unfold varCell
  split
  · cases hr; exact .nil0
  · exact .c hr

theorem get_newBox {d : Option Nat} {cs : List A} {e : Eff} {look : Nat → Option Ob} (h : (newBox d cs).get look = some e) :
    ∃ t, d = some t ∧ look t = none ∧ e = ⟨some (.one (.loc t 0)), [(t, .box cs false)]⟩ := by
  cases d with
  | none => simp [newBox] at h
  | some t =>
    simp only [newBox, fresh, Rd.get_bind, Rd.get_look] at h
    cases hl : look t with
    | none => simp [hl] at h; exact ⟨t, rfl, hl, h.symm⟩
    | some o => simp [hl] at h

theorem good_alloc (hT : TabOk P E.T) (I : Inv B Own w0 G K s a w) {o : Oper} (hd : ∀ t', o.dst = some t' → t' < a.tmps.size) {t : Nat} (ho : o.op = .alloc t) {e : Eff}
    (h : (eop E N call s.slot o.dst o.type (.alloc t)).get s.obj = some e) : Good P B Own w0 s a w o e := by
  simp only [eop] at h
  split at h
  · rename_i ti hti
    obtain ⟨d, hdst, hf, rfl⟩ := get_newBox h
    obtain ⟨i, z, h1, h2, h3, h4, h5, h6, h7⟩ := (hT _ _ hti).info
    obtain ⟨G', hG⟩ := I.newBox (hd d hdst) hf (ti.zero.map varCell) z.cells t (by simp [h5, h6]) (fun j c x hc hx => by
      simp at hc
      obtain ⟨c0, hc0, rfl⟩ := hc
      exact varCell_ra (h7 j c0 x hc0 hx))
    exact good_value (v := .pointer (some ⟨w.heap.size, 0, none⟩)) (w' := w.alloc (.cells z.cells t)) (by unfold execOp; simp [ho, Instr.alloc, zeroValue, typeInfo, h1, h4, newVar, newRow]) (hdst ▸ hG)
  · simp at h

theorem good_box (I : Inv B Own w0 G K s a w) {o : Oper} (hd : ∀ t', o.dst = some t' → t' < a.tmps.size) {t : Nat} {x : Operand} (ho : o.op = .box t x) {e : Eff}
    (h : (eop E N call s.slot o.dst o.type (.box t x)).get s.obj = some e) : Good P B Own w0 s a w o e := by
  simp only [eop] at h
  split at h
  · rename_i cs hcs
    obtain ⟨d, hdst, hf, rfl⟩ := get_newBox h
    cases hx : opnd s.slot x with
    | none => simp [hx] at hcs
    | some y =>
      simp [hx] at hcs
      obtain ⟨hl, hr⟩ := cells_ra (opnd_rw I hx) hcs
      obtain ⟨G', hG⟩ := I.newBox (hd d hdst) hf cs (a.eval x).cells t hl hr
      exact good_value (v := .pointer (some ⟨w.heap.size, 0, none⟩)) (w' := w.alloc (.cells (a.eval x).cells t)) (by unfold execOp; simp [ho, Instr.box, newVar, newRow]) (hdst ▸ hG)
  · simp at h

/-! cells side by side -/
def CR (G : Gh) (ob : Nat → Option Ob) (w : World) (K : Nat → Prop) (as : List A) (vs : List Value) : Prop :=
  as.length = vs.length ∧ ∀ (j : Nat) (c : A) (x : Value), as[j]? = some c → vs[j]? = some x → RA G ob w K c x

theorem CR.take {ob : Nat → Option Ob} {as : List A} {vs : List Value} (h : CR G ob w K as vs) (n : Nat) : CR G ob w K (as.take n) (vs.take n) :=
  ⟨by simp [h.1], fun j c x hc hx => by
    rw [List.getElem?_take] at hc hx
    split at hc <;> simp_all
    exact h.2 j c x hc hx⟩
theorem CR.drop {ob : Nat → Option Ob} {as : List A} {vs : List Value} (h : CR G ob w K as vs) (n : Nat) : CR G ob w K (as.drop n) (vs.drop n) :=
  ⟨by simp [h.1], fun j c x hc hx => by
    rw [List.getElem?_drop] at hc hx
    exact h.2 _ c x hc hx⟩
theorem CR.append {ob : Nat → Option Ob} {as bs : List A} {vs us : List Value} (h : CR G ob w K as vs) (k : CR G ob w K bs us) : CR G ob w K (as ++ bs) (vs ++ us) :=
  ⟨by simp [h.1, k.1], fun j c x hc hx => by
    by_cases hj : j < as.length
    · rw [List.getElem?_append_left hj] at hc
      rw [List.getElem?_append_left (by rw [← h.1]; exact hj)] at hx
      exact h.2 j c x hc hx
    · rw [List.getElem?_append_right (by omega)] at hc
      rw [List.getElem?_append_right (by rw [← h.1]; omega), ← h.1] at hx
      exact k.2 _ c x hc hx⟩
theorem CR.splice {ob : Nat → Option Ob} {as bs : List A} {vs us : List Value} (h : CR G ob w K as vs) (k : CR G ob w K bs us) (o : Nat) : CR G ob w K (Am.splice as o bs) (Am.splice vs o us) := by
  unfold Am.splice
  refine ((h.take o).append k).append ?_
  rw [k.1]
  exact h.drop _
theorem CR.pack {ob : Nat → Option Ob} {as : List A} {vs : List Value} (h : CR G ob w K as vs) {ag : Bool} {x : W} (hp : packW ag as = some x) (v : Value)
    (hv : if ag = true then v = .agg vs.toArray else vs = [v]) : RW G ob w K x v := by
  unfold packW at hp
  cases ag with
  | true =>
    simp at hp hv
    subst hp; subst hv
    exact .agg (by simp [h.1]) (fun j c x hc hx => h.2 j c x hc (by simpa using hx))
  | false =>
    simp at hp hv
    subst hv
    split at hp
    · rename_i a1
      cases hp
      exact .one (h.2 0 a1 v rfl rfl)
    · cases hp

/-- what a read gives -/
theorem load_spec (I : Inv B Own w0 G K s a w) {n : Nat} {p : A} {v : Value} {as : List A} (hr : RW G s.obj w K (.one p) v) (h : (loadC n p).get s.obj = some as) (hn : 0 < n) :
    ∃ b o vs, v = .pointer (some ⟨b, o, none⟩) ∧ vs.length = n ∧ w.rangeAt b o vs ∧ CR G s.obj w K as vs := by
  unfold loadC at h
  split at h
  · rename_i k off
    simp only [Rd.get_look] at h
    split at h
    · rename_i cells frz hob
      obtain ⟨b, hg, hv⟩ := rw_loc hr hob
      obtain ⟨b', arr, ty, h1, h2, h3, _, h4⟩ := I.ob k _ hob
      rw [hg] at h1
      cases h1
      cases hb : leN (off + n) cells.length with
      | false => simp [hb] at h
      | true =>
        simp [hb] at h
        subst h
        have hle : off + n ≤ cells.length := leN_le hb
        refine ⟨b, off, (arr.toList.drop off).take n, hv, by simp [h3]; omega, fun j x hx => ?_, ?_⟩
        · rw [List.getElem?_take] at hx
          split at hx
          · rw [List.getElem?_drop] at hx
            rw [cell_of_row w b (off + j) arr ty (0, 0) h2]
            simpa using hx
          · cases hx
        · have : CR G s.obj w K cells arr.toList := ⟨by simp [h3], fun j c x hc hx => h4 j c x hc (by simpa using hx)⟩
          exact (this.drop off).take n
    · simp at h
  · rename_i cs
    obtain ⟨b, off, g, hv, hK, hc, hg⟩ := rw_ptr hr
    cases hb : leN n cs.length with
    | false => simp [hb] at h
    | true =>
      simp [hb] at h
      subst h
      have hle : n ≤ cs.length := leN_le hb
      refine ⟨b, off, (List.range n).map g, hv, by simp, fun j x hx => ?_, by simp; omega, fun j c x hcj hx => ?_⟩
      · have hj : j < n := by have := (List.getElem?_eq_some_iff.1 hx).1; simpa using this
        simp [List.getElem?_range hj] at hx
        subst hx
        exact hc j _ (List.getElem?_eq_getElem (by omega))
      · have hj : j < n := by have := (List.getElem?_eq_some_iff.1 hx).1; simpa using this
        simp [List.getElem?_range hj] at hx
        subst hx
        have hj2 : j < cs.length := by omega
        simp [hj, hj2] at hcj
        subst hcj
        exact .c (hg j _ (List.getElem?_eq_getElem hj2))
  · rename_i k ver i off
    simp only [Rd.get_look] at h
    split at h
    · rename_i e rows ver' frz hob
      cases hb : eqN ver ver' with
      | false => simp [hb] at h
      | true =>
        have hver := beq_eq hb
        subst hver
        simp only [hb, cond_true, rowAt_get] at h
        split at h
        · rename_i row hrow
          cases hb2 : leN (off + n) e with
          | false => simp [hb2] at h
          | true =>
            simp [hb2] at h
            subst h
            have hle : off + n ≤ e := leN_le hb2
            cases hr with
            | one hr => cases hr with
              | eloc hob' _ _ hval =>
                rw [hob] at hob'
                cases hob'
                obtain ⟨b, m, cap, hg, hv⟩ := hval _ _ _ rfl
                obtain ⟨_, xs, hown, hrows, _⟩ := I.ob k _ hob
                rw [hg] at hown
                have hblk : (Value.slice (some ⟨b, 0, none⟩) m cap).ownBlock = some b := rfl
                have hcell := hown.cells hblk
                obtain ⟨hlen, hrep⟩ := hrows i row hrow
                have hi : i < rows.length := (List.getElem?_eq_some_iff.1 hrow).1
                have hxl : xs.length = rows.length * e := hown.1
                have hie : i * e + e ≤ xs.length := by
                  rw [hxl]
                  have : (i + 1) * e ≤ rows.length * e := Nat.mul_le_mul_right e hi
                  rwa [Nat.add_mul, Nat.one_mul] at this
                refine ⟨b, i * e + off, (xs.drop (i * e + off)).take n, hv, by simp; omega, fun j x hx => ?_, ⟨by simp [hlen]; omega, fun j c x hcj hx => ?_⟩⟩
                · rw [List.getElem?_take] at hx
                  split at hx
                  · rw [List.getElem?_drop] at hx
                    have := hcell _ _ hx
                    rwa [Addr.add_mid, Nat.zero_add] at this
                  · cases hx
                · rw [List.getElem?_take] at hx
                  split at hx
                  · rename_i hj
                    rw [List.getElem?_drop] at hx
                    simp [hj] at hcj
                    obtain ⟨c0, hc0, rfl⟩ := hcj
                    obtain ⟨x', hx', hrc⟩ := hrep (off + j) c0 hc0
                    rw [← Nat.add_assoc, hx] at hx'
                    cases hx'
                    exact .c hrc
                  · cases hx
        · simp at h
    · simp at h
  · simp at h

theorem agg_iff {ti : TI} : ti.agg = true ↔ (∃ offs, ti.kd = .struct offs) ∨ ∃ n e, ti.kd = .array n e := by
  unfold TI.agg
  cases ti.kd <;> simp

theorem good_load (hT : TabOk P E.T) (I : Inv B Own w0 G K s a w) {o : Oper} (hd : ∀ t', o.dst = some t' → t' < a.tmps.size) {t : Nat} {x : Operand} (ho : o.op = .load t x) {e : Eff}
    (h : (eop E N call s.slot o.dst o.type (.load t x)).get s.obj = some e) : Good P B Own w0 s a w o e := by
  simp only [eop] at h
  split at h
  · rename_i ti p hti hx
    simp only [Rd.get_bind] at h
    cases hl : (loadC ti.size p).get s.obj with
    | none => simp [hl] at h
    | some as =>
      simp [hl] at h
      obtain ⟨z, hz, rfl⟩ := get_val h
      have hok := hT _ _ hti
      obtain ⟨b, off, vs, hv, hlen, hrange, hcr⟩ := load_spec I (opnd_rw I hx) hl hok.pos
      obtain ⟨i, zv, h1, h2, _⟩ := hok.info
      have hsz : (P.info? t).map (·.size) = some vs.length := by simp [h1, h2, hlen]
      cases hag : ti.agg with
      | true =>
        have hd2 : ∃ d, P.underlying t = some d ∧ d.isRow = true := by
          have hk := hok.kd
          rcases agg_iff.1 hag with ⟨offs, ho⟩ | ⟨n, e, ho⟩
          · rw [ho] at hk; obtain ⟨fs, hu, _⟩ := hk; exact ⟨_, hu, rfl⟩
          · rw [ho] at hk; exact ⟨_, hk, rfl⟩
        obtain ⟨d, hu, hrow⟩ := hd2
        refine good_put I hd (v := .agg vs.toArray) ?_ (hcr.pack hz _ (by simp [hag]))
        unfold execOp
        simp [ho, hv, run_loadAt_mid w b off t vs d hrange hu hrow hsz]
      | false =>
        have hone : vs = [vs.head!] := by
          unfold packW at hz
          simp [hag] at hz
          split at hz
          · rename_i a1
            have : vs.length = 1 := by rw [← hcr.1]; rfl
            match vs, this with
            | [v0], _ => rfl
          · cases hz
        have hagg : (isAgg t).run P w = .ok false w := by
          have hk := hok.kd
          unfold isAgg
          cases hkd : ti.kd with
          | struct offs => exfalso; rw [(agg_iff (ti := ti)).2 (.inl ⟨offs, hkd⟩)] at hag; cases hag
          | array n e => exfalso; rw [(agg_iff (ti := ti)).2 (.inr ⟨n, e, hkd⟩)] at hag; cases hag
          | sc => rw [hkd] at hk; obtain ⟨d, hu, hrow⟩ := hk; rw [Sem.run_bind, run_underlying hu w]; cases d <;> first | rfl | (simp [TypeDesc.isRow] at hrow)
          | bool => rw [hkd] at hk; rw [Sem.run_bind, run_underlying hk w]; rfl
          | str => rw [hkd] at hk; rw [Sem.run_bind, run_underlying hk w]; rfl
          | slice e => rw [hkd] at hk; rw [Sem.run_bind, run_underlying hk w]; rfl
        have hcell : w.cell? ⟨b, off, none⟩ = some vs.head! := by
          have := hrange 0 vs.head! (by rw [hone]; rfl)
          simpa using this
        refine good_put I hd (v := vs.head!) ?_ (hcr.pack hz _ (by rw [hag]; exact hone))
        unfold execOp
        simp [ho, hv, Instr.loadAt, Instr.sureAddr, loadVar, hagg, hcell]
  · simp at h
end
end Am

namespace Am
open Go
variable [RowOps] [LoopOps]
open RowOps LoopOps

theorem map1_get {α β : Type} {f : α → Rd β} {look : Nat → Option Ob} : ∀ (xs : List α) (ys : List β), (Rd.map1 f xs).get look = some ys →
    ys.length = xs.length ∧ ∀ (j : Nat) (x : α), xs[j]? = some x → ∃ y, ys[j]? = some y ∧ (f x).get look = some y
  | [], ys, h => by simp [Rd.map1] at h; subst h; exact ⟨rfl, fun j x h => by simp at h⟩
  | x :: r, ys, h => by
    simp only [Rd.map1, Rd.get_bind] at h
    cases hx : (f x).get look with
    | none => simp [hx] at h
    | some y =>
      cases hr : (Rd.map1 f r).get look with
      | none => simp [hx, hr] at h
      | some zs =>
        simp [hx, hr] at h
        subst h
        obtain ⟨h1, h2⟩ := map1_get r zs hr
        refine ⟨by simp [h1], fun j x' hx' => ?_⟩
        cases j with
        | zero => simp at hx'; subst hx'; exact ⟨y, rfl, hx⟩
        | succ j => simp at hx'; exact h2 j x' hx'

def Ob.freeze : Ob → Ob
  | .box c _ => .box c true
  | .arr e r v _ => .arr e r v true
  | .dead => .dead

section
variable {P : Program} {E : Cfg} {N : Ar} {call : Orc} {B : Nat} {Own : Nat → Prop} {w0 : Base} {G : Gh} {K : Nat → Prop} {s : St} {a : Act} {w : World}

theorem rowsOf_ref {k ver : Nat} {win : Option Nat} {r : Nat × List (List C)} (h : (rowsOf (.ref k ver win)).get s.obj = some r) :
    ∃ e rows frz, s.obj k = some (.arr e rows ver frz) ∧ r = (e, winOf rows win) := by
  simp only [rowsOf, Rd.get_look] at h
  split at h
  · rename_i e rows ver' frz hob
    cases hb : eqN ver ver' with
    | false => simp [hb] at h
    | true => have := beq_eq hb; subst this; simp at h; exact ⟨e, rows, frz, hob, h.symm⟩
  · simp at h

theorem ra_ref {k ver : Nat} {win : Option Nat} {v : Value} {e : Nat} {rows : List (List C)} {frz : Bool} (h : RA G s.obj w K (.ref k ver win) v) (ho : s.obj k = some (.arr e rows ver frz)) :
    WinV (G.val k) rows.length win v := by
  cases h with
  | ref ho' _ _ h => rw [ho] at ho'; cases ho'; exact h _ _ _ rfl

/-- the slice that a reference is -/
theorem ref_slice (I : Inv B Own w0 G K s a w) {k ver : Nat} {win : Option Nat} {v : Value} {e : Nat} {rows : List (List C)} {frz : Bool} (h : RA G s.obj w K (.ref k ver win) v)
    (ho : s.obj k = some (.arr e rows ver frz)) : ∃ ty xs, w.ownsRow 0 ty e (G.val k) rows.length xs ∧ Rows w K e rows xs ∧ (frz = true → ∀ b, blk (G.val k) = some b → K b) ∧
      ((G.val k = .slice none 0 0 ∧ rows = [] ∧ v = .slice none 0 0) ∨
       ∃ g cap, G.val k = .slice (some ⟨g, 0, none⟩) rows.length cap ∧ v = .slice (some ⟨g, 0, none⟩) (winOf rows win).length cap ∧ (winOf rows win).length ≤ rows.length ∧
        ∀ (i : Nat) (row : List C), (winOf rows win)[i]? = some row → rows[i]? = some row) := by
  obtain ⟨ty, xs, hown, hrows, hf⟩ := I.ob k _ ho
  refine ⟨ty, xs, hown, hrows, hf, ?_⟩
  have hv := ra_ref h ho
  rcases hown.2 with ⟨hn, hn0⟩ | ⟨g, cap, cur, hg, _⟩
  · have hr : rows = [] := List.eq_nil_of_length_eq_zero hn0
    refine .inl ⟨hn, hr, ?_⟩
    cases win with
    | none => simpa [WinV, hn] using hv
    | some n =>
      obtain ⟨h1, h2⟩ := hv
      rw [hn] at h2
      simp [hr] at h1
      subst h1
      exact h2
  · refine .inr ⟨g, cap, hg, ?_⟩
    cases win with
    | none => exact ⟨by simpa [WinV, winOf, hg] using hv, Nat.le_refl _, fun i row h => h⟩
    | some n =>
      obtain ⟨h1, h2⟩ := hv
      rw [hg] at h2
      have hl : (winOf rows (some n)).length = n := by simp [winOf, Nat.min_eq_left h1]
      refine ⟨by rw [hl]; exact h2, by rw [hl]; exact h1, fun i row h => ?_⟩
      simp [winOf, List.getElem?_take] at h
      exact h.2

theorem deNil_rc {w : World} {K : Nat → Prop} {c : C} {v : Value} (h : RC w K c v) : RC w K (deNil c) v := by
  unfold deNil
  split
  · cases h
    exact .sl (rows := []) (a := none) (cap := 0) (fun _ _ => undef) (Nat.le_refl 0) (fun i row h => by simp at h) (fun h => absurd rfl h) (fun i row j c h => by simp at h)
  · exact h

theorem reify_rc (I : Inv B Own w0 G K s a w) {K' : Nat → Prop} (hK : ∀ b, K b → K' b) : ∀ (n : Nat) (x : A) (v : Value) (c : C) (ks : List Nat), RA G s.obj w K x v →
    (reify n x).get s.obj = some c → (keysOf n x).get s.obj = some ks → (∀ k ∈ ks, ∀ b, blk (G.val k) = some b → K' b) → RC w K' c v := by
  intro n
  induction n with
  | zero => intro x v c ks _ h; simp [reify] at h
  | succ n ih =>
    intro x v c ks hr h hk hks
    cases x with
    | c x =>
      simp [reify] at h
      subst h
      cases hr with
      | c hr => exact deNil_rc (hr.mono (fun _ _ => rfl) hK)
    | nil0 e =>
      simp [reify] at h
      subst h
      cases hr
      exact .sl (rows := []) (a := none) (cap := 0) (fun _ _ => undef) (Nat.le_refl 0) (fun i row h => by simp at h) (fun h => absurd rfl h) (fun i row j c h => by simp at h)
    | ref k ver win =>
      simp only [reify, Rd.get_bind] at h
      cases hro : (rowsOf (.ref k ver win)).get s.obj with
      | none => simp [hro] at h
      | some r =>
        obtain ⟨e, rows, frz, hob, rfl⟩ := rowsOf_ref hro
        simp [hro] at h
        subst h
        simp [keysOf, hob] at hk
        subst hk
        obtain ⟨_, xs, hown, hrows, _, hv⟩ := ref_slice I hr hob
        rcases hv with ⟨_, hr0, hv⟩ | ⟨g, cap, hg, hv, hwl, hsub⟩
        · have : winOf rows win = [] := by subst hr0; cases win <;> simp [winOf]
          rw [this, hv]
          exact .sl (rows := []) (a := none) (cap := 0) (fun _ _ => undef) (Nat.le_refl 0) (fun i row h => by simp at h) (fun h => absurd rfl h) (fun i row j c h => by simp at h)
        · rw [hv]
          have hblk : (G.val k).ownBlock = some g := by rw [hg]; rfl
          have hcap : (winOf rows win).length ≤ cap := by
            rcases hown.2 with ⟨hn, _⟩ | ⟨g', cap', cur, hg', _, _, hnc, _⟩
            · rw [hg] at hn; cases hn
            · rw [hg] at hg'; cases hg'; exact Nat.le_trans hwl hnc
          refine .sl (fun i j => xs.getD (i * e + j) undef) hcap (fun i row h => (hrows i row (hsub i row h)).1) (fun _ => ⟨g, 0, rfl, hks k (by simp) g (by rw [hg]; rfl), fun i row j c h1 h2 => ?_⟩) (fun i row j c h1 h2 => ?_)
          · obtain ⟨x, hx, _⟩ := (hrows i row (hsub i row h1)).2 j c h2
            have := hown.cells hblk _ _ hx
            rw [Addr.add_mid] at this
            simpa [hx] using this
          · obtain ⟨x, hx, hc⟩ := (hrows i row (hsub i row h1)).2 j c h2
            simpa [hx] using hc.mono (fun _ _ => rfl) hK
    | loc k off =>
      simp only [reify, Rd.get_look] at h
      simp only [keysOf, Rd.get_look] at hk
      cases hob : s.obj k with
      | none => simp [hob] at h
      | some o =>
        cases o with
        | box cells frz =>
          simp only [hob, Rd.get_bind] at h hk
          cases hcs : (Rd.map1 (reify n) (cells.drop off)).get s.obj with
          | none => simp [hcs] at h
          | some cs =>
            cases hrs : (Rd.map1 (keysOf n) (cells.drop off)).get s.obj with
            | none => simp [hrs] at hk
            | some rs =>
              simp [hcs] at h
              simp [hrs] at hk
              subst h
              subst hk
              obtain ⟨b, hg, hv⟩ := rw_loc (.one hr) hob
              obtain ⟨b', arr, ty, h1, h2, h3, _, h4⟩ := I.ob k _ hob
              rw [hg] at h1
              cases h1
              obtain ⟨l1, m1⟩ := map1_get _ _ hcs
              obtain ⟨l2, m2⟩ := map1_get _ _ hrs
              rw [hv]
              have hj : ∀ (j : Nat) (c : C), cs[j]? = some c → ∃ x y, (cells.drop off)[j]? = some x ∧ arr[off + j]? = some y ∧ RC w K' c y := fun j c hc => by
                have hlt : j < (cells.drop off).length := by rw [← l1]; exact (List.getElem?_eq_some_iff.1 hc).1
                have hx : (cells.drop off)[j]? = some (cells.drop off)[j] := List.getElem?_eq_getElem hlt
                have hlt2 : off + j < arr.size := by simp at hlt; omega
                have hy : arr[off + j]? = some arr[off + j] := Array.getElem?_eq_getElem hlt2
                obtain ⟨c', hc', hre⟩ := m1 j _ hx
                obtain ⟨r', hr', hke⟩ := m2 j _ hx
                rw [hc] at hc'
                cases hc'
                have hxx := hx
                rw [List.getElem?_drop] at hxx
                exact ⟨_, _, hx, hy, ih _ _ _ _ (h4 (off + j) _ _ hxx hy) hre hke (fun k' hk' => hks k' (List.mem_cons_of_mem _ (List.mem_flatten.2 ⟨r', List.mem_of_getElem? hr', hk'⟩)))⟩
              refine .ptr (fun j => (arr[off + j]?).getD undef) (hks k (by simp) b (by rw [hg]; rfl)) (fun j c hc => ?_) (fun j c hc => ?_)
              · obtain ⟨x, y, _, hy, _⟩ := hj j c hc
                rw [cell_of_row w b (off + j) arr ty (0, 0) h2, hy]
                rfl
              · obtain ⟨x, y, _, hy, hrc⟩ := hj j c hc
                simpa [hy] using hrc
        | arr e rows ver frz => simp [hob] at h
        | dead => simp [hob] at h
    | eloc k ver i off => simp [reify] at h
    | clo f caps =>
      simp only [reify, Rd.get_bind] at h
      simp only [keysOf, Rd.get_bind] at hk
      cases hcs : (Rd.map1 (reify n) caps).get s.obj with
      | none => simp [hcs] at h
      | some cs =>
        cases hrs : (Rd.map1 (keysOf n) caps).get s.obj with
        | none => simp [hrs] at hk
        | some rs =>
          simp [hcs] at h
          simp [hrs] at hk
          subst h
          subst hk
          obtain ⟨l1, m1⟩ := map1_get _ _ hcs
          obtain ⟨l2, m2⟩ := map1_get _ _ hrs
          cases hr with
          | clo hl hr =>
            rename_i vs
            refine .clo (by rw [l1, hl]) (fun j c v hc hv => ?_)
            have hlt : j < caps.length := by rw [← l1]; exact (List.getElem?_eq_some_iff.1 hc).1
            have hx : caps[j]? = some caps[j] := List.getElem?_eq_getElem hlt
            obtain ⟨c', hc', hre⟩ := m1 j _ hx
            obtain ⟨r', hr', hke⟩ := m2 j _ hx
            rw [hc] at hc'
            cases hc'
            exact ih _ _ _ _ (hr j _ v hx hv) hre hke (fun k' hk' => hks k' (List.mem_flatten.2 ⟨r', List.mem_of_getElem? hr', hk'⟩))

theorem freeze1 (I : Inv B Own w0 G K s a w) {k : Nat} {o : Ob} (ho : s.obj k = some o) (hd : o ≠ .dead) :
    Inv B Own w0 G (fun b => K b ∨ blk (G.val k) = some b) ⟨s.fr, (k, o.freeze) :: s.ob⟩ a w := by
  have hst : ObStep G G s.obj (St.mk s.fr ((k, o.freeze) :: s.ob)).obj := fun k' o' h => by
    rw [obj_cons]
    by_cases e : k' = k
    · subst e
      rw [ho] at h
      cases h
      rw [if_pos rfl]
      refine ⟨_, rfl, fun e rows ver frz h => ?_, fun cells frz h => ?_⟩
      · cases o <;> simp [Ob.freeze] at h
        obtain ⟨rfl, rfl, rfl, rfl⟩ := h
        exact ⟨_, _, _, _, rfl, Nat.le_refl _, fun _ => ⟨rfl, Nat.le_refl _, rfl⟩⟩
      · cases o <;> simp [Ob.freeze] at h
        obtain ⟨rfl, rfl⟩ := h
        exact ⟨_, _, rfl, rfl⟩
    · rw [if_neg e]
      exact ObStep.refl G s.obj k' o' h
  have hlv : o.freeze.live = false := by cases o <;> rfl
  have hkk : ∀ b, K b ∨ blk (G.val k) = some b → K b ∨ B ≤ b ∨ Own b := fun b hb => by
    rcases hb with hb | hb
    · exact .inl hb
    · cases hlo : o.live with
      | true => exact .inr (I.own k o b ho hlo hb).1
      | false =>
        have hro := I.ob k o ho
        cases o with
        | box cells frz =>
          simp [Ob.live] at hlo
          obtain ⟨b', arr, ty, h1', _, _, hf, _⟩ := hro
          rw [h1'] at hb
          simp [blk] at hb
          subst hb
          exact .inl (hf hlo)
        | arr e rows ver frz =>
          simp [Ob.live] at hlo
          obtain ⟨_, xs, _, _, hf⟩ := hro
          exact .inl (hf hlo b hb)
        | dead => exact absurd rfl hd
  refine I.step hst (fun _ _ => rfl) (fun _ h => .inl h) (fun t x hx => .inl ⟨hx, rfl⟩) (fun k' o' h => ?_) ?_ ?_ ?_ (Chg.refl _ _ _) rfl hkk
  · rw [obj_cons] at h
    by_cases e : k' = k
    · subst e
      rw [if_pos rfl] at h
      cases h
      refine .inr ?_
      have hro := I.ob k' o ho
      cases o with
      | box cells frz =>
        obtain ⟨b, arr, ty, h1, h2, h3, _, h4⟩ := hro
        exact ⟨b, arr, ty, h1, h2, h3, fun _ => .inr (by rw [h1]; rfl), fun j x y hx hy => (h4 j x y hx hy).step hst (fun _ _ => rfl) (fun _ h => .inl h)⟩
      | arr e rows ver frz =>
        obtain ⟨ty, xs, h1, h2, _⟩ := hro
        exact ⟨ty, xs, h1, h2.mono (fun _ _ => rfl) (fun _ h => .inl h), fun _ b hb => .inr hb⟩
      | dead => exact absurd rfl hd
    · rw [if_neg e] at h
      exact .inl ⟨h, rfl, rfl, fun _ _ => rfl⟩
  · intro k1 k2 o1 o2 b hne h1 h2 hl1 hl2 hb1
    rw [obj_cons] at h1 h2
    by_cases e1 : k1 = k
    · rw [if_pos e1] at h1; cases h1; rw [hlv] at hl1; cases hl1
    · by_cases e2 : k2 = k
      · rw [if_pos e2] at h2; cases h2; rw [hlv] at hl2; cases hl2
      · rw [if_neg e1] at h1
        rw [if_neg e2] at h2
        exact I.dis k1 k2 o1 o2 b hne h1 h2 hl1 hl2 hb1
  · intro k1 o1 b h1 hl1 hb1
    rw [obj_cons] at h1
    by_cases e1 : k1 = k
    · rw [if_pos e1] at h1; cases h1; rw [hlv] at hl1; cases hl1
    · rw [if_neg e1] at h1
      refine ⟨(I.own k1 o1 b h1 hl1 hb1).1, fun hk => ?_⟩
      rcases hk with hk | hk
      · exact (I.own k1 o1 b h1 hl1 hb1).2 hk
      · cases hlo : o.live with
        | true => exact I.dis k1 k o1 o b e1 h1 ho hl1 hlo hb1 hk
        | false =>
          have hro := I.ob k o ho
          cases o with
          | box cells frz =>
            simp [Ob.live] at hlo
            obtain ⟨b', arr, ty, h1', _, _, hf, _⟩ := hro
            rw [h1'] at hk
            simp [blk] at hk
            subst hk
            exact (I.own k1 o1 b' h1 hl1 hb1).2 (hf hlo)
          | arr e rows ver frz =>
            simp [Ob.live] at hlo
            obtain ⟨_, xs, _, _, hf⟩ := hro
            exact (I.own k1 o1 b h1 hl1 hb1).2 (hf hlo b hk)
          | dead => exact absurd rfl hd
  · intro b hb
    rcases hb with hb | hb
    · exact I.Kb b hb
    · exact (I.ob k o ho).lt hd hb

theorem freeze_spec (I : Inv B Own w0 G K s a w) : ∀ (ks : List Nat) (us : List (Nat × Ob)), (frzAll ks).get s.obj = some us →
    ∃ K', Inv B Own w0 G K' ⟨s.fr, us ++ s.ob⟩ a w ∧ (∀ b, K b → K' b) ∧ (∀ b, K' b → K b ∨ ∃ k ∈ ks, blk (G.val k) = some b) ∧ (∀ k ∈ ks, ∀ b, blk (G.val k) = some b → K' b) ∧
      (∀ k o, s.obj k = some o → (St.mk s.fr (us ++ s.ob)).obj k = some (if k ∈ ks then o.freeze else o)) ∧ (∀ k, s.obj k = none → (St.mk s.fr (us ++ s.ob)).obj k = none) := by
  intro ks
  induction ks with
  | nil =>
    intro us h
    simp [frzAll] at h
    subst h
    exact ⟨K, I, fun _ h => h, fun _ h => .inl h, fun k h => by simp at h, fun k o h => by simpa using h, fun k h => h⟩
  | cons k ks ih =>
    intro us h
    simp only [frzAll, Rd.get_look] at h
    have key : ∀ (o : Ob), s.obj k = some o → o ≠ .dead → ∀ us', (frzAll ks).get s.obj = some us' → us = (k, o.freeze) :: us' →
        ∃ K', Inv B Own w0 G K' ⟨s.fr, us ++ s.ob⟩ a w ∧ (∀ b, K b → K' b) ∧ (∀ b, K' b → K b ∨ ∃ k' ∈ k :: ks, blk (G.val k') = some b) ∧ (∀ k' ∈ k :: ks, ∀ b, blk (G.val k') = some b → K' b) ∧
          (∀ k' o, s.obj k' = some o → (St.mk s.fr (us ++ s.ob)).obj k' = some (if k' ∈ k :: ks then o.freeze else o)) ∧ (∀ k', s.obj k' = none → (St.mk s.fr (us ++ s.ob)).obj k' = none) := by
      intro o ho hd us' hus' he
      subst he
      obtain ⟨K1, I1, h1, h2, h3, h4, h5⟩ := ih us' hus'
      have ho1 := h4 k o ho
      have hff : (if k ∈ ks then o.freeze else o).freeze = o.freeze := by split <;> cases o <;> rfl
      have hd1 : (if k ∈ ks then o.freeze else o) ≠ .dead := by split <;> cases o <;> simp_all [Ob.freeze]
      have I2 := freeze1 I1 ho1 hd1
      rw [hff] at I2
      refine ⟨_, I2, fun b hb => .inl (h1 b hb), fun b hb => ?_, fun k' hk' b hb => ?_, fun k' o' ho' => ?_, fun k' ho' => ?_⟩
      · rcases hb with hb | hb
        · rcases h2 b hb with h | ⟨k', hk', hb'⟩
          · exact .inl h
          · exact .inr ⟨k', List.mem_cons_of_mem _ hk', hb'⟩
        · exact .inr ⟨k, by simp, hb⟩
      · rcases List.mem_cons.1 hk' with rfl | hk'
        · exact .inr hb
        · exact .inl (h3 k' hk' b hb)
      · have := obj_cons ⟨s.fr, us' ++ s.ob⟩ k o.freeze k'
        simp only [List.cons_append] at this ⊢
        rw [this]
        by_cases e : k' = k
        · subst e
          rw [ho] at ho'
          cases ho'
          simp
        · rw [if_neg e, h4 k' o' ho']
          simp [e]
      · have := obj_cons ⟨s.fr, us' ++ s.ob⟩ k o.freeze k'
        simp only [List.cons_append] at this ⊢
        rw [this, if_neg (fun e => by rw [e, ho] at ho'; cases ho')]
        exact h5 k' ho'
    cases ho : s.obj k with
    | none => simp [ho] at h
    | some o =>
      cases o with
      | box cells frz =>
        simp only [ho, Rd.get_bind] at h
        cases hus : (frzAll ks).get s.obj with
        | none => simp [hus] at h
        | some us' => simp [hus] at h; exact key _ ho (by simp) us' hus h.symm
      | arr e rows ver frz =>
        simp only [ho, Rd.get_bind] at h
        cases hus : (frzAll ks).get s.obj with
        | none => simp [hus] at h
        | some us' => simp [hus] at h; exact key _ ho (by simp) us' hus h.symm
      | dead => simp [ho] at h
end
end Am

namespace Am
open Go
variable [RowOps] [LoopOps]
open RowOps LoopOps

section
variable {P : Program} {E : Cfg} {N : Ar} {call : Orc} {B : Nat} {Own : Nat → Prop} {w0 : Base} {G : Gh} {K : Nat → Prop} {s : St} {a : Act} {w : World}

/-- a live object is written in its block -/
theorem Inv.write (I : Inv B Own w0 G K s a w) {k : Nat} {o o' : Ob} {b : Nat} {new : Array Value} (ho : s.obj k = some o) (hl : o.live = true) (_hl' : o'.live = true) (hb : blk (G.val k) = some b)
    (hst : ObStep G G s.obj (St.mk s.fr ((k, o') :: s.ob)).obj) (hro : RO G (St.mk s.fr ((k, o') :: s.ob)).obj (w.setRow b new) K k o') :
    Inv B Own w0 G K ⟨s.fr, (k, o') :: s.ob⟩ a (w.setRow b new) := by
  have hnK : ¬ K b := (I.own k o b ho hl hb).2
  have hother : ∀ b', b' ≠ b → (w.setRow b new).heap[b']? = w.heap[b']? := fun b' h => setRow_other w b b' new h
  refine I.step hst (fun b' hb' => hother b' (fun e => hnK (e ▸ hb'))) (fun _ h => h) (fun t x hx => .inl ⟨hx, rfl⟩) (fun k' o1 h => ?_) ?_ ?_ (fun b' hb' => by simpa using I.Kb b' hb') ?_ rfl
  · rw [obj_cons] at h
    by_cases e : k' = k
    · subst e; rw [if_pos rfl] at h; cases h; exact .inr hro
    · rw [if_neg e] at h
      cases hlo : o1.live with
      | true => exact .inl ⟨h, rfl, rfl, fun b' hb' => hother b' (fun e' => I.dis k' k o1 o b' e h ho hlo hl hb' (e' ▸ hb))⟩
      | false =>
        cases o1 with
        | dead => exact .inr trivial
        | box cells frz =>
          simp [Ob.live] at hlo
          obtain ⟨b1, arr, ty, h1, _, _, hf, _⟩ := I.ob k' _ h
          exact .inl ⟨h, rfl, rfl, fun b' hb' => hother b' (fun e' => hnK (by rw [h1] at hb'; simp [blk] at hb'; rw [← e', ← hb']; exact hf hlo))⟩
        | arr e rows ver frz =>
          simp [Ob.live] at hlo
          obtain ⟨_, xs, _, _, hf⟩ := I.ob k' _ h
          exact .inl ⟨h, rfl, rfl, fun b' hb' => hother b' (fun e' => hnK (e' ▸ hf hlo b' hb'))⟩
  · intro k1 k2 o1 o2 b1 hne h1 h2 hl1 hl2 hb1
    rw [obj_cons] at h1 h2
    by_cases e1 : k1 = k
    · subst e1
      have e2 : k2 ≠ k1 := fun e => hne e.symm
      rw [if_neg e2] at h2
      exact I.dis k1 k2 o o2 b1 hne ho h2 hl hl2 hb1
    · rw [if_neg e1] at h1
      by_cases e2 : k2 = k
      · subst e2
        exact I.dis k1 k2 o1 o b1 hne h1 ho hl1 hl hb1
      · rw [if_neg e2] at h2
        exact I.dis k1 k2 o1 o2 b1 hne h1 h2 hl1 hl2 hb1
  · intro k1 o1 b1 h1 hl1 hb1
    rw [obj_cons] at h1
    by_cases e1 : k1 = k
    · subst e1; exact I.own k1 o b1 ho hl hb1
    · rw [if_neg e1] at h1; exact I.own k1 o1 b1 h1 hl1 hb1
  · refine ⟨rfl, rfl, rfl, by simp, fun b' hb' hno => hother b' (fun e => ?_)⟩
    subst e
    rcases (I.own k o b' ho hl hb).1 with h | h
    · omega
    · exact hno h

theorem CR.step {G' : Gh} {ob ob' : Nat → Option Ob} {w' : World} {K' : Nat → Prop} (hs : ObStep G G' ob ob')
    (hw : ∀ b, K b → w'.heap[b]? = w.heap[b]?) (hK : ∀ b, K b → K' b) {as : List A} {vs : List Value} (h : CR G ob w K as vs) : CR G' ob' w' K' as vs :=
  ⟨h.1, fun j c x hc hx => (h.2 j c x hc hx).step hs hw hK⟩

theorem length_splice {α : Type} (xs : List α) (o : Nat) (ys : List α) (h : o + ys.length ≤ xs.length) : (splice xs o ys).length = xs.length := by
  simp [splice]; omega

theorem splice_get {α : Type} (xs : List α) (o : Nat) (ys : List α) (h : o + ys.length ≤ xs.length) (m : Nat) :
    (splice xs o ys)[m]? = if o ≤ m ∧ m < o + ys.length then ys[m - o]? else xs[m]? := by
  unfold splice
  by_cases h1 : m < o
  · rw [List.append_assoc, List.getElem?_append_left (by simp; omega), List.getElem?_take, if_pos h1, if_neg (by omega)]
  · by_cases h2 : m < o + ys.length
    · rw [List.append_assoc, List.getElem?_append_right (by simp; omega), List.getElem?_append_left (by simp; omega), if_pos ⟨by omega, h2⟩]
      congr 1; simp; omega
    · rw [List.getElem?_append_right (by simp; omega), if_neg (by omega), List.getElem?_drop]
      congr 1; simp; omega

/-- a store of cells into an own variable -/
theorem store_loc (I : Inv B Own w0 G K s a w) {k off : Nat} {cells xs : List A} {v : Value} {vs : List Value} (hob : s.obj k = some (.box cells false)) (hr : RW G s.obj w K (.one (.loc k off)) v)
    (hx : CR G s.obj w K xs vs) (hfit : off + xs.length ≤ cells.length) (h1 : ∀ u ∈ vs, u.oneCell' = true) :
    ∃ b w', v = .pointer (some ⟨b, off, none⟩) ∧ (storeCells ⟨b, off, none⟩ vs).run P w = .ok () w' ∧ Inv B Own w0 G K ⟨s.fr, (k, .box (splice cells off xs) false) :: s.ob⟩ a w' := by
  obtain ⟨b, hg, hv⟩ := rw_loc hr hob
  obtain ⟨b', arr, ty, hg', hh, hsz, _, hcells⟩ := I.ob k _ hob
  rw [hg] at hg'
  cases hg'
  have hblk : blk (G.val k) = some b := by rw [hg]; rfl
  have hfit2 : off + 0 + vs.length ≤ arr.size := by rw [← hx.1, hsz]; simpa using hfit
  have hrun := run_storeCells_at P b off ty vs 0 arr w hh hfit2 h1
  simp only [Nat.add_zero] at hrun
  have hst : ObStep G G s.obj (St.mk s.fr ((k, .box (splice cells off xs) false) :: s.ob)).obj := fun k' o' h => by
    rw [obj_cons]
    by_cases e : k' = k
    · subst e
      rw [hob] at h; cases h
      rw [if_pos rfl]
      exact ⟨_, rfl, fun e rows ver frz h => by (simp at h), fun cells' frz' h => ⟨_, _, rfl, rfl⟩⟩
    · rw [if_neg e]; exact ObStep.refl G s.obj k' o' h
  refine ⟨b, _, hv, hrun, I.write hob rfl rfl hblk hst ⟨b, _, ty, hg, setRow_heap w b arr _ ty (0, 0) hh, ?_, (fun h => by cases h), ?_⟩⟩
  · have : (arr.toList.take off ++ vs ++ arr.toList.drop (off + vs.length)).length = cells.length := by
      have := length_splice arr.toList off vs (by rw [← hx.1]; simp [hsz]; exact hfit)
      unfold splice at this
      rw [this]; simp [hsz]
    rw [length_splice cells off xs hfit]
    simpa using this
  · have hc0 : CR G s.obj w K cells arr.toList := ⟨by simp [hsz], fun j c x hc hx => hcells j c x hc (by simpa using hx)⟩
    have hnK : ¬ K b := (I.own k _ b hob rfl hblk).2
    have hc1 := (hc0.splice hx off).step hst (w' := w.setRow b (arr.toList.take off ++ vs ++ arr.toList.drop (off + vs.length)).toArray)
      (fun b' hb' => setRow_other w b b' _ (fun e => hnK (e ▸ hb'))) (fun _ h => h)
    intro j c x hc hx'
    refine hc1.2 j c x hc ?_
    simpa [splice] using hx'

/-- rows of which one turns -/
theorem Rows.set {e : Nat} {rows : List (List C)} {xs : List Value} (h : Rows w K e rows xs) (hxl : xs.length = rows.length * e) {i off : Nat} {row : List C} (hi : rows[i]? = some row) {cs : List C} {vs : List Value}
    (hl : cs.length = vs.length) (hfit : off + cs.length ≤ e) (hr : ∀ (j : Nat) (c : C) (x : Value), cs[j]? = some c → vs[j]? = some x → RC w K c x) :
    Rows w K e (rows.set i (splice row off cs)) (splice xs (i * e + off) vs) := by
  have hil : i < rows.length := (List.getElem?_eq_some_iff.1 hi).1
  have hie : i * e + e ≤ xs.length := by
    rw [hxl]
    have : (i + 1) * e ≤ rows.length * e := Nat.mul_le_mul_right e hil
    rwa [Nat.add_mul, Nat.one_mul] at this
  have hrl : row.length = e := (h i row hi).1
  intro i' row' hi'
  rw [List.getElem?_set] at hi'
  by_cases e1 : i = i'
  · subst e1
    simp [hil] at hi'
    subst hi'
    refine ⟨by rw [length_splice _ _ _ (by omega), hrl], fun j c hj => ?_⟩
    rw [splice_get row off cs (by omega)] at hj
    rw [splice_get xs (i * e + off) vs (by omega)]
    split at hj
    · rename_i hc
      have hlt : j - off < vs.length := by omega
      rw [if_pos (by omega), show i * e + j - (i * e + off) = j - off by omega, List.getElem?_eq_getElem hlt]
      exact ⟨_, rfl, hr _ c _ hj (List.getElem?_eq_getElem hlt)⟩
    · rename_i hc
      have hjl : j < row.length := (List.getElem?_eq_some_iff.1 hj).1
      rw [if_neg (by omega)]
      exact (h i row hi).2 j c hj
  · rw [if_neg e1] at hi'
    refine ⟨(h i' row' hi').1, fun j c hj => ?_⟩
    have hjl : j < e := by rw [← (h i' row' hi').1]; exact (List.getElem?_eq_some_iff.1 hj).1
    rw [splice_get xs (i * e + off) vs (by omega), if_neg]
    · exact (h i' row' hi').2 j c hj
    · rcases Nat.lt_or_gt_of_ne e1 with hlt | hlt
      · have : (i + 1) * e ≤ i' * e := Nat.mul_le_mul_right e hlt
        rw [Nat.add_mul, Nat.one_mul] at this
        omega
      · have : (i' + 1) * e ≤ i * e := Nat.mul_le_mul_right e hlt
        rw [Nat.add_mul, Nat.one_mul] at this
        omega

/-- a store of frozen cells into an element of an own array -/
theorem store_eloc (I : Inv B Own w0 G K s a w) {k ver i off e : Nat} {rows : List (List C)} {row : List C} {v : Value} {cs : List C} {vs : List Value} (hob : s.obj k = some (.arr e rows ver false))
    (hr : RW G s.obj w K (.one (.eloc k ver i off)) v) (hi : rows[i]? = some row) (hl : cs.length = vs.length) (hfit : off + cs.length ≤ e)
    (hx : ∀ (j : Nat) (c : C) (x : Value), cs[j]? = some c → vs[j]? = some x → RC w K c x) (h1 : ∀ u ∈ vs, u.oneCell' = true) :
    ∃ b w', v = .pointer (some ⟨b, i * e + off, none⟩) ∧ (storeCells ⟨b, i * e + off, none⟩ vs).run P w = .ok () w' ∧ Inv B Own w0 G K ⟨s.fr, (k, .arr e (rows.set i (splice row off cs)) ver false) :: s.ob⟩ a w' := by
  cases hr with
  | one hr => cases hr with
    | eloc hob' _ _ hval =>
      rw [hob] at hob'
      cases hob'
      obtain ⟨b, m, cap, hg, hv⟩ := hval _ _ _ rfl
      obtain ⟨ty, xs, hown, hrows, _⟩ := I.ob k _ hob
      have hblk : blk (G.val k) = some b := by rw [hg]; rfl
      have hxl : xs.length = rows.length * e := hown.1
      have hil : i < rows.length := (List.getElem?_eq_some_iff.1 hi).1
      have hie : i * e + e ≤ xs.length := by
        rw [hxl]
        have : (i + 1) * e ≤ rows.length * e := Nat.mul_le_mul_right e hil
        rwa [Nat.add_mul, Nat.one_mul] at this
      have hown0 := hown
      rcases hown.2 with ⟨hn, _⟩ | ⟨g, cap', cur, hg', _, hh, hnc, hcm, hcs, htake⟩
      · rw [hg] at hn; cases hn
      rw [hg] at hg'
      cases hg'
      have hcur : xs.length ≤ cur.size := by rw [← htake]; simp; omega
      have hrun := run_storeCells_at P b (i * e + off) ty vs 0 cur w hh (by omega) h1
      simp only [Nat.add_zero] at hrun
      have hst : ObStep G G s.obj (St.mk s.fr ((k, .arr e (rows.set i (splice row off cs)) ver false) :: s.ob)).obj := fun k' o' h => by
        rw [obj_cons]
        by_cases e1 : k' = k
        · subst e1
          rw [hob] at h; cases h
          rw [if_pos rfl]
          refine ⟨_, rfl, fun e rows ver frz h => ?_, fun cells' frz' h => by (simp at h)⟩
          cases h
          exact ⟨_, _, _, _, rfl, Nat.le_refl _, fun _ => ⟨rfl, by simp, rfl⟩⟩
        · rw [if_neg e1]; exact ObStep.refl G s.obj k' o' h
      refine ⟨b, _, hv, hrun, I.write hob rfl rfl hblk hst ⟨ty, splice xs (i * e + off) vs, ⟨?_, .inr ⟨b, cap, _, ?_, Nat.zero_le _, setRow_heap w b cur _ _ (0, 0) hh, ?_, hcm, ?_, ?_⟩⟩, ?_, fun h => by cases h⟩⟩
      · rw [length_splice _ _ _ (by omega), hxl]; simp
      · simpa using hg
      · simpa using hnc
      · have := length_splice cur.toList (i * e + off) vs (by simp; omega)
        unfold splice at this
        simp at this ⊢
        rw [this, hcs]
      · apply List.ext_getElem?
        intro j
        have hs1 := splice_get cur.toList (i * e + off) vs (by simp; omega) j
        have hs2 := splice_get xs (i * e + off) vs (by omega) j
        unfold splice at hs1
        rw [hs2, List.getElem?_take]
        simp only [List.length_set]
        by_cases hj : j < rows.length * e
        · rw [if_pos hj, hs1, ← htake, List.getElem?_take, if_pos hj]
        · rw [if_neg hj, if_neg (by omega), List.getElem?_eq_none (by omega)]
      · have hnK : ¬ K b := (I.own k _ b hob rfl hblk).2
        exact (hrows.set hxl hi hl hfit hx).mono (fun b' hb' => setRow_other w b b' _ (fun e => hnK (e ▸ hb'))) (fun _ h => h)

theorem reifyAll_rc (I : Inv B Own w0 G K s a w) {K' : Nat → Prop} (hK : ∀ b, K b → K' b) {xs : List A} {vs : List Value} {cs : List C} {ks : List Nat} (hx : CR G s.obj w K xs vs)
    (h : (reifyAll xs).get s.obj = some cs) (hk : (keysAll xs).get s.obj = some ks) (hks : ∀ k ∈ ks, ∀ b, blk (G.val k) = some b → K' b) :
    cs.length = xs.length ∧ ∀ (j : Nat) (c : C) (x : Value), cs[j]? = some c → vs[j]? = some x → RC w K' c x := by
  unfold reifyAll at h
  unfold keysAll at hk
  simp only [Rd.get_bind] at hk
  cases hrs : (Rd.map1 (keysOf depth) xs).get s.obj with
  | none => simp [hrs] at hk
  | some rs =>
    simp [hrs] at hk
    subst hk
    obtain ⟨l1, m1⟩ := map1_get _ _ h
    obtain ⟨l2, m2⟩ := map1_get _ _ hrs
    refine ⟨l1, fun j c x hc hv => ?_⟩
    have hlt : j < xs.length := by rw [← l1]; exact (List.getElem?_eq_some_iff.1 hc).1
    have hxj : xs[j]? = some xs[j] := List.getElem?_eq_getElem hlt
    obtain ⟨c', hc', hre⟩ := m1 j _ hxj
    obtain ⟨r', hr', hke⟩ := m2 j _ hxj
    rw [hc] at hc'
    cases hc'
    exact reify_rc I hK depth _ x c r' (hx.2 j _ x hxj hv) hre hke (fun k' hk' => hks k' (List.mem_flatten.2 ⟨r', List.mem_of_getElem? hr', hk'⟩))

theorem storeVar_of (t : TypeId) {i : TypeInfo} (hi : P.info? t = some i) {v : Value} (hs : v.cells.size = i.size) {w' : World} {ad : Addr} (h : (storeCells ad v.cells.toList).run P w = .ok () w') :
    (storeVar t ad v).run P w = .ok () w' := by
  simp [storeVar, Go.sizeOf, typeInfo, hi, hs, h]

theorem memN_not {k : Nat} : ∀ {l : List Nat}, memN k l = false → k ∉ l
  | [], _ => by simp
  | j :: r, h => by
    simp only [memN] at h
    cases hj : eqN j k with
    | true => simp [hj] at h
    | false =>
      simp only [hj, cond_false] at h
      simp only [List.mem_cons, not_or]
      exact ⟨fun e => by rw [e] at hj; simp at hj, memN_not h⟩

theorem good_store (hT : TabOk P E.T) (I : Inv B Own w0 G K s a w) {o : Oper} {t : Nat} {x y : Operand} (ho : o.op = .store t x y) {e : Eff}
    (h : (eop E N call s.slot o.dst o.type (.store t x y)).get s.obj = some e) : Good P B Own w0 s a w o e := by
  simp only [eop] at h
  split at h
  · rename_i ti p xs hti hx hy hnd
    cases hb : eqN xs.length ti.size with
    | false => simp [hb] at h
    | true =>
      have hlen := beq_eq hb
      simp only [hb, cond_true, Rd.get_bind] at h
      cases hst : (storeC xs p).get s.obj with
      | none => simp [hst] at h
      | some us =>
        simp [hst] at h
        subst h
        obtain ⟨i, z, h1, h2, _⟩ := (hT _ _ hti).info
        cases hyo : opnd s.slot y with
        | none => simp [hyo] at hy
        | some W0 =>
          simp [hyo] at hy
          obtain ⟨hl, hr⟩ := cells_ra (opnd_rw I hyo) hy
          have hcr : CR G s.obj w K xs (a.eval y).cells.toList := ⟨by simpa using hl.symm, fun j c x hc hx => hr j c x hc (by simpa using hx)⟩
          have h1c : ∀ u ∈ (a.eval y).cells.toList, u.oneCell' = true := fun u hu => by
            obtain ⟨j, hj⟩ := List.getElem?_of_mem hu
            have hlt : j < xs.length := by rw [hcr.1]; exact (List.getElem?_eq_some_iff.1 hj).1
            exact (hcr.2 j _ u (List.getElem?_eq_getElem hlt) hj).one
          have hfin : ∀ (ad : Addr) (w' : World), a.eval x = .pointer (some ad) → (storeCells ad (a.eval y).cells.toList).run P w = .ok () w' → ∀ K', Inv B Own w0 G K' ⟨s.fr, us ++ s.ob⟩ a w' →
              Good P B Own w0 s a w o ⟨none, us⟩ := by
            intro ad w' hv hrun K' I'
            refine good_skip (w' := w') (G' := G) (K' := K') ?_ ?_
            · have hsv := storeVar_of (P := P) t h1 (v := a.eval y) (by rw [hl, hlen, h2]) hrun
              unfold execOp
              simp [ho, hv, Instr.storeAt, Instr.sureAddr, hsv]
            · have := I'.drop none undef
              rw [hnd]
              exact this
          unfold storeC at hst
          split at hst
          · rename_i k off
            simp only [Rd.get_look] at hst
            split at hst
            · rename_i cells hob
              cases hb2 : leN (off + xs.length) cells.length with
              | false => simp [hb2] at hst
              | true =>
                simp [hb2] at hst
                subst hst
                obtain ⟨b, w', hv, hrun, I'⟩ := store_loc (P := P) I hob (opnd_rw I hx) hcr (leN_le hb2) h1c
                exact hfin _ w' hv hrun K I'
            · simp at hst
          · rename_i k ver i' off
            simp only [Rd.get_bind] at hst
            cases hcs : (reifyAll xs).get s.obj with
            | none => simp [hcs] at hst
            | some cs =>
              cases hks : (keysAll xs).get s.obj with
              | none => simp [hcs, hks] at hst
              | some ks =>
                simp only [hcs, hks, Option.bind_some, Rd.get_look] at hst
                split at hst
                · rename_i e' rows ver' hob
                  cases hb3 : (eqN ver ver' && !memN k ks) with
                  | false => simp [hb3] at hst
                  | true =>
                    simp only [hb3, cond_true, rowAt_get] at hst
                    simp only [Bool.and_eq_true, Bool.not_eq_true'] at hb3
                    have hver := beq_eq hb3.1
                    subst hver
                    split at hst
                    · rename_i row hrow
                      cases hb2 : leN (off + xs.length) e' with
                      | false => simp [hb2] at hst
                      | true =>
                        simp only [hb2, cond_true, Rd.get_bind] at hst
                        cases hus : (frzAll ks).get s.obj with
                        | none => simp [hus] at hst
                        | some us' =>
                          simp [hus] at hst
                          subst hst
                          obtain ⟨K', I1, k1, k2, k3, k4, k5⟩ := freeze_spec I ks us' hus
                          have hnm : k ∉ ks := memN_not hb3.2
                          obtain ⟨hcl, hcr2⟩ := reifyAll_rc I k1 hcr hcs hks k3
                          have hob1 : (St.mk s.fr (us' ++ s.ob)).obj k = some (.arr e' rows ver false) := by rw [k4 k _ hob, if_neg hnm]
                          have hrw1 : RW G (St.mk s.fr (us' ++ s.ob)).obj w K' (.one (.eloc k ver i' off)) (a.eval x) := opnd_rw I1 hx
                          obtain ⟨b, w', hv, hrun, I'⟩ := store_eloc (P := P) I1 hob1 hrw1 hrow (by rw [hcl, hcr.1]) (by rw [hcl]; exact leN_le hb2) hcr2 h1c
                          exact hfin _ w' hv hrun K' I'
                    · simp at hst
                · simp at hst
          · simp at hst
  · simp at h
end
end Am

namespace Am
open Go
variable [RowOps] [LoopOps]
open RowOps LoopOps

section
variable {P : Program} {E : Cfg} {N : Ar} {call : Orc} {B : Nat} {Own : Nat → Prop} {w0 : Base} {G : Gh} {K : Nat → Prop} {s : St} {a : Act} {w : World}

theorem good_fieldAddr (hT : TabOk P E.T) (I : Inv B Own w0 G K s a w) {o : Oper} (hd : ∀ t', o.dst = some t' → t' < a.tmps.size) {t : Nat} {x : Operand} {f : Nat} (ho : o.op = .fieldAddr t x f) {e : Eff}
    (h : (eop E N call s.slot o.dst o.type (.fieldAddr t x f)).get s.obj = some e) : Good P B Own w0 s a w o e := by
  simp only [eop] at h
  split at h
  · rename_i offs sz by_ ze p hti hx
    rw [nth_get] at h
    split at h
    · rename_i of hof
      obtain ⟨fs, hu, hsz, hfs⟩ := (hT _ _ hti).kd
      obtain ⟨fd, hfd, hoff, hfsz, hpos, hle⟩ := hfs f of hof
      have hrun : ∀ b off, a.eval x = .pointer (some ⟨b, off, none⟩) → (execOp a.eval o).run P w = .ok (.value (.pointer (some ⟨b, off + of.1, none⟩))) w := by
        intro b off hv
        have hso : (Go.sizeOf fd.type).run P w = .ok of.2 w := by
          cases hi : P.info? fd.type with
          | none => simp [hi] at hfsz
          | some i => simp [hi] at hfsz; simp [Go.sizeOf, typeInfo, hi, hfsz]
        have hne : of.2 ≠ 0 := by omega
        unfold execOp
        simp [ho, hv, Instr.fieldAt, run_underlying hu, hfd, Instr.sureAddr, fieldPlace, hso, hne, hoff, Addr.add_mid]
      simp only [Rd.get_bind] at h
      cases hq : (addOff of.1 p).get s.obj with
      | none => simp [hq] at h
      | some q =>
        simp [hq] at h
        subst h
        have hr := opnd_rw I hx
        unfold addOff at hq
        split at hq
        · rename_i k off
          simp only [Rd.get_look] at hq
          split at hq
          · rename_i cells frz hob
            simp at hq
            subst hq
            obtain ⟨b, hg, hv⟩ := rw_loc hr hob
            exact good_put I hd (hrun b off hv) (.one (.loc hob rfl fun _ _ _ => ⟨b, hg, rfl⟩))
          · simp at hq
        · rename_i cs
          cases hb : leN of.1 cs.length with
          | false => simp [hb] at hq
          | true =>
            simp [hb] at hq
            subst hq
            obtain ⟨b, off, g, hv, hK, hc, hg⟩ := rw_ptr hr
            refine good_put I hd (hrun b off hv) (.one (.c (.ptr (fun j => g (of.1 + j)) hK (fun j c hj => ?_) (fun j c hj => ?_))))
            · rw [List.getElem?_drop] at hj
              rw [Nat.add_assoc]
              exact hc _ c hj
            · rw [List.getElem?_drop] at hj
              exact hg _ c hj
        · rename_i k ver i off
          simp only [Rd.get_look] at hq
          split at hq
          · rename_i e1 rows ver' frz hob
            cases hb : eqN ver ver' with
            | false => simp [hb] at hq
            | true =>
              have hver := beq_eq hb
              subst hver
              simp at hq
              subst hq
              cases hr with
              | one hr => cases hr with
                | eloc hob' _ hvv hval =>
                  rw [hob] at hob'
                  cases hob'
                  obtain ⟨b, m, cap, hg, hv⟩ := hval _ _ _ rfl
                  refine good_put I hd (hrun b _ hv) (.one (.eloc hob rfl hvv fun e1 rows1 frz1 he => ?_))
                  cases he
                  exact ⟨b, m, cap, hg, by rw [Nat.add_assoc]⟩
          · simp at hq
        · simp at hq
    · simp at h
  · simp at h

/-- what a slice is -/
theorem rw_sl {nl : Bool} {e : Nat} {rows : List (List C)} {v : Value} {ob : Nat → Option Ob} (h : RW G ob w K (.one (.c (.sl nl e rows))) v) :
    ∃ a0 cap, v = .slice a0 rows.length cap ∧ (rows ≠ [] → ∃ b o, a0 = some ⟨b, o, none⟩ ∧ K b ∧ ∃ g : Nat → Nat → Value, (∀ (i : Nat) (row : List C), rows[i]? = some row → row.length = e) ∧
      (∀ (i : Nat) (row : List C) (j : Nat) (c : C), rows[i]? = some row → row[j]? = some c → w.cell? ⟨b, o + i * e + j, none⟩ = some (g i j)) ∧
      ∀ (i : Nat) (row : List C) (j : Nat) (c : C), rows[i]? = some row → row[j]? = some c → RC w K c (g i j)) := by
  cases h with
  | one h => cases h with
    | c h => cases h with
      | nil => exact ⟨none, 0, rfl, fun h => absurd rfl h⟩
      | sl g hc he ha hr =>
        refine ⟨_, _, rfl, fun hne => ?_⟩
        obtain ⟨b, o, h1, h2, h3⟩ := ha hne
        exact ⟨b, o, h1, h2, g, he, h3, hr⟩

theorem nat_of {x : W} {n : Nat} {v : Value} {ob : Nat → Option Ob} (h : natOf x = some n) (hr : RW G ob w K x v) : ∃ k, v = .int k (n : Int) := by
  unfold natOf at h
  split at h
  · rename_i k m
    have := rw_sc hr
    subst this
    cases m with
    | ofNat m => simp at h; subst h; exact ⟨k, rfl⟩
    | negSucc m => simp at h
  · cases h

theorem addOff_spec (I : Inv B Own w0 G K s a w) {d : Nat} {p q : A} {v : Value} (hr : RW G s.obj w K (.one p) v) (hq : (addOff d p).get s.obj = some q) :
    ∃ b off, v = .pointer (some ⟨b, off, none⟩) ∧ RW G s.obj w K (.one q) (.pointer (some ⟨b, off + d, none⟩)) := by
  unfold addOff at hq
  split at hq
  · rename_i k off
    simp only [Rd.get_look] at hq
    split at hq
    · rename_i cells frz hob
      simp at hq
      subst hq
      obtain ⟨b, hg, hv⟩ := rw_loc hr hob
      exact ⟨b, off, hv, .one (.loc hob rfl fun _ _ _ => ⟨b, hg, rfl⟩)⟩
    · simp at hq
  · rename_i cs
    cases hb : leN d cs.length with
    | false => simp [hb] at hq
    | true =>
      simp [hb] at hq
      subst hq
      obtain ⟨b, off, g, hv, hK, hc, hg⟩ := rw_ptr hr
      refine ⟨b, off, hv, .one (.c (.ptr (fun j => g (d + j)) hK (fun j c hj => ?_) (fun j c hj => ?_)))⟩
      · rw [List.getElem?_drop] at hj
        rw [Nat.add_assoc]
        exact hc _ c hj
      · rw [List.getElem?_drop] at hj
        exact hg _ c hj
  · rename_i k ver i off
    simp only [Rd.get_look] at hq
    split at hq
    · rename_i e1 rows ver' frz hob
      cases hb : eqN ver ver' with
      | false => simp [hb] at hq
      | true =>
        have hver := beq_eq hb
        subst hver
        simp at hq
        subst hq
        cases hr with
        | one hr => cases hr with
          | eloc hob' _ hvv hval =>
            rw [hob] at hob'
            cases hob'
            obtain ⟨b, m, cap, hg, hv⟩ := hval _ _ _ rfl
            refine ⟨b, _, hv, .one (.eloc hob rfl hvv fun e1 rows1 frz1 he => ?_)⟩
            cases he
            exact ⟨b, m, cap, hg, by rw [Nat.add_assoc]⟩
    · simp at hq
  · simp at hq

theorem good_indexArr (hN : NOk N) (hT : TabOk P E.T) (I : Inv B Own w0 G K s a w) {o : Oper} (hd : ∀ t', o.dst = some t' → t' < a.tmps.size) {t : Nat} {x ix : Operand} (ho : o.op = .indexAddr t x ix) {m el sz by_ : Nat} {ze : List C} (hti : E.T t = some ⟨.array m el, sz, by_, ze⟩)
    {p : A} (hx : opnd s.slot x = some (.one p)) {n : Nat} (hix : (opnd s.slot ix).bind natOf = some n) {te : TI} (hte : E.T el = some te) {e : Eff}
    (h : (bif N.nle (n + 1) m then (addOff (n * te.size) p).bind fun q => Rd.ret (Eff.mk (some (.one q)) []) else .fail).get s.obj = some e) : Good P B Own w0 s a w o e := by
  have hu : P.underlying t = some (.array m el) := (hT _ _ hti).kd
  obtain ⟨i0, z0, hi1, hi2, _⟩ := (hT _ _ hte).info
  cases hb : N.nle (n + 1) m with
  | false => rw [hb] at h; simp at h
  | true =>
    rw [hb] at h
    have hlt : n < m := hN.nle _ _ hb
    simp only [cond_true, Rd.get_bind] at h
    cases hi : opnd s.slot ix with
    | none => simp [hi] at hix
    | some W1 =>
      simp [hi] at hix
      obtain ⟨k, hk⟩ := nat_of hix (opnd_rw I hi)
      cases hq : (addOff (n * te.size) p).get s.obj with
      | none => simp [hq] at h
      | some q =>
        simp [hq] at h
        subst h
        obtain ⟨b, off, hv, hr⟩ := addOff_spec I (opnd_rw I hx) hq
        refine good_put I hd ?_ hr
        unfold execOp
        simp [ho, hv, hk, Instr.indexAt, run_underlying hu, asIntOf, Instr.sureAddr, hlt, Go.sizeOf, typeInfo, hi1, hi2, Addr.add_mid]

theorem good_indexAddr (hN : NOk N) (hT : TabOk P E.T) (I : Inv B Own w0 G K s a w) {o : Oper} (hd : ∀ t', o.dst = some t' → t' < a.tmps.size) {t : Nat} {x ix : Operand} (ho : o.op = .indexAddr t x ix) {e : Eff}
    (h : (eop E N call s.slot o.dst o.type (.indexAddr t x ix)).get s.obj = some e) : Good P B Own w0 s a w o e := by
  simp only [eop] at h
  split at h
  · rename_i el sz by_ ze p n hti hx hix
    split at h
    · rename_i te hte
      have hu : P.underlying t = some (.slice el) := (hT _ _ hti).kd
      obtain ⟨i0, z0, hi1, hi2, _⟩ := (hT _ _ hte).info
      cases hi : opnd s.slot ix with
      | none => simp [hi] at hix
      | some W1 =>
        simp [hi] at hix
        obtain ⟨k, hk⟩ := nat_of hix (opnd_rw I hi)
        have hrun : ∀ b off len cap, a.eval x = .slice (some ⟨b, off, none⟩) len cap → n < len → (execOp a.eval o).run P w = .ok (.value (.pointer (some ⟨b, off + n * te.size, none⟩))) w := by
          intro b off len cap hv hlt
          unfold execOp
          simp [ho, hv, hk, Instr.indexAt, run_underlying hu, asIntOf, hlt, Go.sizeOf, typeInfo, hi1, hi2, Addr.add_mid]
        simp only [Rd.get_bind] at h
        cases hq : (idxAddr te.size n p).get s.obj with
        | none => simp [hq] at h
        | some q =>
          simp [hq] at h
          subst h
          have hr := opnd_rw I hx
          unfold idxAddr at hq
          split at hq
          · rename_i nl e' rows
            rw [rowAt_get] at hq
            split at hq
            · rename_i row hrow
              cases hb : eqN te.size e' with
              | false => simp [hb] at hq
              | true =>
                have he := beq_eq hb
                subst he
                simp at hq
                subst hq
                obtain ⟨a0, cap, hv, hne⟩ := rw_sl hr
                have hlt : n < rows.length := (List.getElem?_eq_some_iff.1 hrow).1
                obtain ⟨b, off, ha0, hK, g, hle, hc, hg⟩ := hne (fun h0 => by rw [h0] at hlt; simp at hlt)
                rw [ha0] at hv
                exact good_put I hd (hrun b off _ _ hv hlt) (.one (.c (.ptr (g n) hK (fun j c hj => hc n row j c hrow hj) (fun j c hj => hg n row j c hrow hj))))
            · simp at hq
          · rename_i kk ver win
            simp only [Rd.get_look] at hq
            split at hq
            · rename_i e' rows ver' frz hob
              cases hb : eqN ver ver' with
              | false => simp [hb] at hq
              | true =>
                have hver := beq_eq hb
                subst hver
                cases hb2 : eqN te.size e' with
                | false => simp [hb2] at hq
                | true =>
                  have he := beq_eq hb2
                  subst he
                  simp only [hb, hb2, cond_true, rowAt_get] at hq
                  split at hq
                  · rename_i row hrow
                    simp at hq
                    subst hq
                    cases hr with
                    | one hr =>
                      obtain ⟨_, xs, hown, hrows, _, hcase⟩ := ref_slice I hr hob
                      have hlt : n < (winOf rows win).length := (List.getElem?_eq_some_iff.1 hrow).1
                      rcases hcase with ⟨_, hr0, _⟩ | ⟨g, cap, hg, hv, _, hsub⟩
                      · subst hr0; exfalso; cases win <;> simp [winOf] at hlt
                      · refine good_put I hd (hrun g 0 _ _ hv hlt) (.one (.eloc hob rfl (fun _ _ _ _ h => by cases h; exact Nat.le_refl _) fun e1 rows1 frz1 he => ?_))
                        cases he
                        exact ⟨g, _, cap, hg, by simp⟩
                  · simp at hq
            · simp at hq
          · simp at hq
    · simp at h
  · rename_i m el sz by_ ze p n hti hx hix
    split at h
    · rename_i te hte
      exact good_indexArr hN hT I hd ho hti hx hix hte h
    · simp at h
  · simp at h

/-- the rows of a slice, and its value -/
theorem rows_spec (I : Inv B Own w0 G K s a w) {p : A} {v : Value} {r : Nat × List (List C)} (hr : RW G s.obj w K (.one p) v) (h : (rowsOf p).get s.obj = some r) :
    ∃ a0 cap, v = .slice a0 r.2.length cap ∧ ∃ xs, xs.length = r.2.length * r.1 ∧ Rows w K r.1 r.2 xs ∧ (r.2 ≠ [] → ∃ b off, a0 = some ⟨b, off, none⟩ ∧ w.rangeAt b off xs) := by
  cases p with
  | c x =>
    cases x with
    | sl nl e rows =>
      simp [rowsOf] at h
      subst h
      obtain ⟨a0, cap, hv, hne⟩ := rw_sl hr
      refine ⟨a0, cap, hv, ?_⟩
      by_cases h0 : rows = []
      · subst h0; exact ⟨[], by simp, fun i row h => by simp at h, fun h => absurd rfl h⟩
      · obtain ⟨b, off, ha0, hK, g, hle, hc, hg⟩ := hne h0
        refine ⟨(List.range (rows.length * e)).map fun m => g (m / e) (m % e), by simp, fun i row hi => ⟨hle i row hi, fun j c hj => ?_⟩, fun _ => ⟨b, off, ha0, fun m x hx => ?_⟩⟩
        · have hi' : i < rows.length := (List.getElem?_eq_some_iff.1 hi).1
          have hj' : j < e := by rw [← hle i row hi]; exact (List.getElem?_eq_some_iff.1 hj).1
          have hlt : i * e + j < rows.length * e := by
            have : (i + 1) * e ≤ rows.length * e := Nat.mul_le_mul_right e hi'
            rw [Nat.add_mul, Nat.one_mul] at this
            omega
          have hd : (i * e + j) / e = i := by rw [Nat.mul_comm, Nat.mul_add_div (by omega), Nat.div_eq_of_lt hj', Nat.add_zero]
          have hm : (i * e + j) % e = j := by rw [Nat.mul_comm, Nat.mul_add_mod, Nat.mod_eq_of_lt hj']
          refine ⟨g i j, by simp [List.getElem?_range hlt, hd, hm], hg i row j c hi hj⟩
        · have hlt : m < rows.length * e := by simpa using (List.getElem?_eq_some_iff.1 hx).1
          simp [List.getElem?_range hlt] at hx
          subst hx
          have he : 0 < e := by rcases Nat.eq_zero_or_pos e with h | h; · rw [h] at hlt; simp at hlt
                                · exact h
          have hi' : m / e < rows.length := Nat.div_lt_of_lt_mul (by rw [Nat.mul_comm]; exact hlt)
          have hrow : rows[m / e]? = some rows[m / e] := List.getElem?_eq_getElem hi'
          have hl := hle _ _ hrow
          have hj' : m % e < (rows[m / e]).length := by rw [hl]; exact Nat.mod_lt _ he
          have := hc (m / e) _ (m % e) _ hrow (List.getElem?_eq_getElem hj')
          rwa [Nat.add_assoc, Nat.div_add_mod'] at this
    | v x =>
      unfold rowsOf at h
      split at h
      · rename_i he; cases he
      · rename_i a0 c0 he
        cases he
        simp at h
        subst h
        have := rw_sc hr
        exact ⟨_, _, this, [], by simp, fun i row h => by simp at h, fun h => absurd rfl h⟩
      · rename_i he; cases he
      · rename_i he; cases he
      · simp at h
    | ptr cs => simp [rowsOf] at h
    | clo f cs => simp [rowsOf] at h
  | nil0 e =>
    simp [rowsOf] at h
    subst h
    cases hr with
    | one hr => cases hr; exact ⟨none, 0, rfl, [], by simp, fun i row h => by simp at h, fun h => absurd rfl h⟩
  | ref k ver win =>
    obtain ⟨e, rows, frz, hob, rfl⟩ := rowsOf_ref h
    cases hr with
    | one hr =>
      obtain ⟨_, xs, hown, hrows, _, hcase⟩ := ref_slice I hr hob
      rcases hcase with ⟨_, hr0, hv⟩ | ⟨g, cap, hg, hv, hle, hsub⟩
      · have h0 : winOf rows win = [] := by subst hr0; cases win <;> simp [winOf]
        simp only [h0]
        exact ⟨none, 0, hv, [], by simp, fun i row h => by simp at h, fun h => absurd rfl h⟩
      · refine ⟨_, cap, hv, xs.take ((winOf rows win).length * e), ?_, fun i row hi => ⟨(hrows i row (hsub i row hi)).1, fun j c hj => ?_⟩, fun _ => ⟨g, 0, rfl, fun m x hx => ?_⟩⟩
        · have : (winOf rows win).length * e ≤ rows.length * e := Nat.mul_le_mul_right e hle
          rw [List.length_take, hown.1, Nat.min_eq_left this]
        · obtain ⟨x, hx, hc⟩ := (hrows i row (hsub i row hi)).2 j c hj
          refine ⟨x, ?_, hc⟩
          have hi' : i < (winOf rows win).length := (List.getElem?_eq_some_iff.1 hi).1
          have hj' : j < e := by rw [← (hrows i row (hsub i row hi)).1]; exact (List.getElem?_eq_some_iff.1 hj).1
          have : (i + 1) * e ≤ (winOf rows win).length * e := Nat.mul_le_mul_right e hi'
          rw [Nat.add_mul, Nat.one_mul] at this
          show (xs.take ((winOf rows win).length * e))[i * e + j]? = some x
          rw [List.getElem?_take, if_pos (by omega)]
          exact hx
        · rw [List.getElem?_take] at hx
          split at hx
          · have hblk : (G.val k).ownBlock = some g := by rw [hg]; rfl
            have := hown.cells hblk m x hx
            rwa [Addr.add_mid] at this
          · cases hx
  | loc k off => simp [rowsOf] at h
  | eloc k ver i off => simp [rowsOf] at h
  | clo f cs => simp [rowsOf] at h

theorem good_len (hT : TabOk P E.T) (I : Inv B Own w0 G K s a w) {o : Oper} (hd : ∀ t', o.dst = some t' → t' < a.tmps.size) {c : Call} (ho : o.op = .call c) (hc : c.callee = .builtin .len) {p : A} {v : Value}
    (hr : RW G s.obj w K (.one p) v) (hargs : (c.args.map a.eval) = #[v]) {e : Eff}
    (h : (lenW E c.argTypes.toList p).get s.obj = some e) : Good P B Own w0 s a w o e := by
  unfold lenW at h
  split at h
  · rename_i t hts
    have hat : c.argTypes[0]? = some t := by
      have : c.argTypes.toList[0]? = some t := by rw [hts]; rfl
      simpa using this
    have key : ∀ n : Int, (Builtin.len_ c.argTypes o.type #[v]).run P w = .ok (.int .i64 n) w → (execOp a.eval o).run P w = .ok (.value (.int .i64 n)) w := by
      intro n hn
      unfold execOp
      simp only [ho, resolve, hc, hargs]
      simp [invoke, builtin, hn]
    split at h
    · rename_i hti
      have hu : P.underlying t = some .string := (hT _ _ hti).kd
      split at h
      · rename_i x
        simp at h
        subst h
        have hv := rw_sc hr
        subst hv
        exact good_put I hd (key _ (by simp [Builtin.len_, hat, run_underlying hu, goInt])) (.one (.c (.v rfl)))
      · simp at h
    · rename_i el _ _ _ hti
      have hu : P.underlying t = some (.slice el) := (hT _ _ hti).kd
      simp only [Rd.get_bind] at h
      cases hro : (rowsOf p).get s.obj with
      | none => simp [hro] at h
      | some r =>
        simp [hro] at h
        subst h
        obtain ⟨a0, cap, hv, _⟩ := rows_spec I hr hro
        subst hv
        exact good_put I hd (key _ (by simp [Builtin.len_, hat, run_underlying hu, goInt])) (.one (.c (.v rfl)))
    · simp at h
  · simp at h
end
end Am

namespace Am
open Go
variable [RowOps] [LoopOps]
open RowOps LoopOps

section
variable {P : Program} {E : Cfg} {N : Ar} {call : Orc} {B : Nat} {Own : Nat → Prop} {w0 : Base} {G : Gh} {K : Nat → Prop} {s : St} {a : Act} {w : World}

theorem lowB_spec (I : Inv B Own w0 G K s a w) {lo : Option Operand} {l : Nat} (h : lowB s.slot lo = some l) : (lo.map a.eval = none ∧ l = 0) ∨ ∃ k, lo.map a.eval = some (.int k (l : Int)) := by
  cases lo with
  | none => simp [lowB] at h; exact .inl ⟨rfl, h.symm⟩
  | some x =>
    simp only [lowB] at h
    obtain ⟨y, hy, h⟩ := Option.bind_eq_some_iff.1 h
    obtain ⟨k, hk⟩ := nat_of h (opnd_rw I hy)
    exact .inr ⟨k, by simp [hk]⟩
theorem highB_spec (I : Inv B Own w0 G K s a w) {hi : Option Operand} {h : Option Nat} (hh : highB s.slot hi = some h) : (hi.map a.eval = none ∧ h = none) ∨ ∃ k n, h = some n ∧ hi.map a.eval = some (.int k (n : Int)) := by
  cases hi with
  | none => simp [highB] at hh; exact .inl ⟨rfl, hh.symm⟩
  | some x =>
    simp only [highB] at hh
    obtain ⟨n, hn, h⟩ := Option.map_eq_some_iff.1 hh
    obtain ⟨y, hy, hn⟩ := Option.bind_eq_some_iff.1 hn
    obtain ⟨k, hk⟩ := nat_of hn (opnd_rw I hy)
    exact .inr ⟨k, n, h.symm, by simp [hk]⟩

theorem bounds_run {iss : Bool} {len cap l : Nat} {h : Option Nat} {lo hi : Option Value} (h1 : (lo = none ∧ l = 0) ∨ ∃ k, lo = some (.int k (l : Int))) (h2 : (hi = none ∧ h = none) ∨ ∃ k n, h = some n ∧ hi = some (.int k (n : Int)))
    (hl : l ≤ highOf h len) (hh : highOf h len ≤ cap) : (Instr.sliceBounds iss len cap lo hi none).run P w = .ok (l, highOf h len, cap) w := by
  unfold Instr.sliceBounds
  rcases h2 with ⟨rfl, rfl⟩ | ⟨k, n, rfl, rfl⟩
  · rcases h1 with ⟨rfl, rfl⟩ | ⟨k', rfl⟩
    · simp [highOf]
    · simp only [highOf] at hl
      simp [highOf, Instr.sliceBound, asIntOf, hl]
  · simp only [highOf] at hl hh
    rcases h1 with ⟨rfl, rfl⟩ | ⟨k', rfl⟩
    · simp [highOf, Instr.sliceBound, asIntOf, hh]
    · simp [highOf, Instr.sliceBound, asIntOf, hh, hl]

theorem sizeOf_run {t : Nat} {ti : TI} (h : TIok P t ti) : (Go.sizeOf t).run P w = .ok ti.size w := by
  obtain ⟨i, z, h1, h2, _⟩ := h.info
  simp [Go.sizeOf, typeInfo, h1, h2]

theorem good_slice (hN : NOk N) (hT : TabOk P E.T) (I : Inv B Own w0 G K s a w) {o : Oper} (hd : ∀ t', o.dst = some t' → t' < a.tmps.size) {t : Nat} {x : Operand} {lo hi mx : Option Operand} (ho : o.op = .slice t x lo hi mx) {e : Eff}
    (h : (eop E N call s.slot o.dst o.type (.slice t x lo hi mx)).get s.obj = some e) : Good P B Own w0 s a w o e := by
  simp only [eop] at h
  split at h
  · rename_i el sz by_ ze p l hh hti hx hlo hhi
    split at h
    · rename_i te hte
      have hu : P.underlying t = some (.slice el) := (hT _ _ hti).kd
      have hlo := lowB_spec I hlo
      have hhi := highB_spec I hhi
      have hr := opnd_rw I hx
      have hso := sizeOf_run (w := w) (hT _ _ hte)
      have hrun : ∀ (ad : Option Addr) (len cap : Nat), a.eval x = .slice ad len cap → l ≤ highOf hh len → highOf hh len ≤ cap →
          (execOp a.eval o).run P w = .ok (.value (.slice (if cap = l then ad else ad.map (·.add (l * te.size))) (highOf hh len - l) (cap - l))) w := fun ad len cap hv h1 h2 => by
        unfold execOp
        simp [ho, hv, Instr.sliceAt, run_underlying hu, Instr.slice, bounds_run hlo hhi h1 h2, hso]
      simp only [Rd.get_bind] at h
      cases hq : (sliceA N te.size l hh p).get s.obj with
      | none => simp [hq] at h
      | some q =>
        simp [hq] at h
        subst h
        unfold sliceA at hq
        simp only [rowsCut_eq] at hq
        split at hq
        · rename_i e
          cases hb : (N.nle l (highOf hh 0) && N.nle (highOf hh 0) 0) with
          | false => rw [hb] at hq; simp at hq
          | true =>
            rw [hb] at hq
            simp at hq
            subst hq
            simp only [Bool.and_eq_true] at hb
            have b2 := hN.nle _ _ hb.1
            have b3 := hN.nle _ _ hb.2
            have hl0 : l = 0 := by omega
            subst hl0
            have hv := rw_nil hr
            have hH : highOf hh 0 = 0 := by omega
            have := hrun none 0 0 hv (by omega) (by omega)
            rw [hH] at this
            exact good_put I hd this (.one (.c .nil))
        · rename_i nl e rows _
          cases hb : (eqN e te.size && (N.nle l (highOf hh (rowsLen rows)) && N.nle (highOf hh (rowsLen rows)) (rowsLen rows))) with
          | false => rw [hb] at hq; simp at hq
          | true =>
            rw [hb] at hq
            simp at hq
            subst hq
            simp only [Bool.and_eq_true, rowsLen_eq] at hb
            obtain ⟨b1, b2, b3⟩ := hb
            have b1 := beq_eq b1
            have b2 := hN.nle _ _ b2
            have b3 := hN.nle _ _ b3
            generalize hv : a.eval x = v at hr
            cases hr with
            | one hr => cases hr with
              | c hr => cases hr with
                | nil =>
                  simp at b2 b3
                  have hl0 : l = 0 := by omega
                  subst hl0
                  refine good_put I hd (hrun none 0 0 hv (by simp) (by simp [b3])) (.one (.c ?_))
                  have e1 : cutR [] 0 (highOf hh 0) = [] := by simp [cutR]
                  simp only [List.length_nil, e1, b3]
                  exact .sl (rows := []) (a := none) (cap := 0) (fun _ _ => undef) (Nat.le_refl 0) (fun i row h => by simp at h) (fun h => absurd rfl h) (fun i row j c h => by simp at h)
                | @sl _ _ ad cap g hc he ha hr =>
                  generalize hH : highOf hh rows.length = H at *
                  refine good_put I hd (hrun ad rows.length cap hv (by rw [hH]; exact b2) (by rw [hH]; omega)) (.one (.c ?_))
                  rw [hH]
                  have hlen : (cutR rows l H).length = H - l := by simp [cutR]; omega
                  have hat : ∀ (i : Nat) (row : List C), (cutR rows l H)[i]? = some row → rows[l + i]? = some row ∧ i < H - l := fun i row hi => by
                    have hi2 := (List.getElem?_eq_some_iff.1 hi).1
                    rw [hlen] at hi2
                    simp only [cutR, List.getElem?_drop, List.getElem?_take] at hi
                    split at hi
                    · exact ⟨hi, hi2⟩
                    · cases hi
                  rw [← hlen]
                  refine .sl (fun i j => g (l + i) j) (by rw [hlen]; omega) (fun i row hi => he _ _ (hat i row hi).1) (fun hne => ?_) (fun i row j c hi hj => hr _ _ _ _ (hat i row hi).1 hj)
                  have hlt : l < H := by
                    rcases Nat.lt_or_ge l H with h | h
                    · exact h
                    · exact absurd (List.eq_nil_of_length_eq_zero (by rw [hlen]; omega)) hne
                  have hne' : rows ≠ [] := fun e => by rw [e] at b3; simp at b3; omega
                  obtain ⟨b, off, rfl, hk, hcell⟩ := ha hne'
                  have hcl : cap ≠ l := by omega
                  refine ⟨b, off + l * te.size, by simp [hcl, Addr.add_mid], hk, fun i row j c hi hj => ?_⟩
                  have := hcell (l + i) row j c (hat i row hi).1 hj
                  rw [← this, b1]
                  congr 2
                  rw [Nat.add_mul]; omega
        · rename_i e
          cases hb : (N.nle l (highOf hh 0) && N.nle (highOf hh 0) 0) with
          | false => rw [hb] at hq; simp at hq
          | true =>
            rw [hb] at hq
            simp at hq
            subst hq
            simp only [Bool.and_eq_true] at hb
            have b2 := hN.nle _ _ hb.1
            have b3 := hN.nle _ _ hb.2
            have hl0 : l = 0 := by omega
            subst hl0
            generalize hv : a.eval x = v at hr
            cases hr with
            | one hr => cases hr with
              | nil0 =>
                have hH : highOf hh 0 = 0 := by omega
                have := hrun none 0 0 hv (by omega) (by omega)
                rw [hH] at this
                exact good_put I hd this (.one .nil0)
        · rename_i k ver win
          simp only [Rd.get_look] at hq
          split at hq
          · rename_i e rows ver' frz hob
            cases hb : (eqN ver ver' && (eqN l 0 && N.nle (highOf hh (rowsLen (winOf rows win))) (rowsLen (winOf rows win)))) with
            | false => rw [hb] at hq; simp at hq
            | true =>
              rw [hb] at hq
              simp at hq
              subst hq
              simp only [Bool.and_eq_true, rowsLen_eq] at hb
              obtain ⟨b1, b2, b3⟩ := hb
              have b1 := beq_eq b1
              have b2 := beq_eq b2
              have b3 := hN.nle _ _ b3
              subst b1; subst b2
              generalize hv : a.eval x = v at hr
              cases hr with
              | one hr =>
                obtain ⟨ty, xs, hown, hrows, _, hcase⟩ := ref_slice I hr hob
                rcases hcase with ⟨hg, hr0, rfl⟩ | ⟨g, cap, hg, rfl, hwl, hsub⟩
                · have h0 : winOf rows win = [] := by subst hr0; cases win <;> simp [winOf]
                  rw [h0] at b3 ⊢
                  simp at b3
                  have := hrun none 0 0 hv (by omega) (by omega)
                  simp only [List.length_nil, b3] at this ⊢
                  refine good_put I hd this (.one (.ref hob rfl (fun _ _ _ _ h => by cases h; exact Nat.le_refl _) fun e1 r1 f1 h => ?_))
                  cases h
                  exact ⟨Nat.zero_le _, by rw [hg]; rfl⟩
                · have hcap : rows.length ≤ cap := by
                    rcases hown.2 with ⟨hn, _⟩ | ⟨g', cap', cur, hg', _, _, hnc, _⟩
                    · rw [hg] at hn; cases hn
                    · rw [hg] at hg'; cases hg'; exact hnc
                  generalize hH : highOf hh (winOf rows win).length = H at *
                  have := hrun _ _ cap hv (by omega) (by rw [hH]; omega)
                  rw [hH] at this
                  refine good_put I hd this (.one (.ref hob rfl (fun _ _ _ _ h => by cases h; exact Nat.le_refl _) fun e1 r1 f1 h => ?_))
                  cases h
                  refine ⟨by omega, ?_⟩
                  rw [hg]
                  by_cases hc0 : cap = 0
                  · simp [PreV, hc0]
                  · simp [PreV, hc0, Addr.add_mid]
          · simp at hq
        · simp at hq
    · simp at h
  · rename_i sz by_ ze b l hh hti hx hlo hhi
    have hu : P.underlying t = some .string := (hT _ _ hti).kd
    have hlo := lowB_spec I hlo
    have hhi := highB_spec I hhi
    have hv := rw_sc (opnd_rw I hx)
    cases hb : (N.nle l (highOf hh b.data.toList.length) && N.nle (highOf hh b.data.toList.length) b.data.toList.length) with
    | false => rw [hb] at h; simp at h
    | true =>
      rw [hb] at h
      simp only [cond_true] at h
      obtain ⟨z, hz, rfl⟩ := get_val h
      simp only [Option.some.injEq] at hz
      subst hz
      simp only [Bool.and_eq_true] at hb
      have b2 := hN.nle _ _ hb.1
      have b3 := hN.nle _ _ hb.2
      have hlen : b.data.toList.length = b.size := Array.length_toList
      have hcut : cutS b l (highOf hh b.data.toList.length) = b.extract l (highOf hh b.data.toList.length) := by
        apply ByteArray.ext
        rw [← Array.toList_inj]
        simp [cutS, ByteArray.data_extract, List.extract_eq_take_drop, List.drop_take]
      rw [hcut]
      refine good_put I hd (v := .string (b.extract l (highOf hh b.data.toList.length))) ?_ (.one (.c (.v rfl)))
      rw [hlen] at b2 b3 ⊢
      have hbr := bounds_run (P := P) (w := w) (iss := false) hlo hhi b2 b3
      unfold execOp
      simp [ho, hv, Instr.sliceAt, run_underlying hu, Instr.slice, hbr]
  · simp at h

theorem good_index (hT : TabOk P E.T) (I : Inv B Own w0 G K s a w) {o : Oper} (hd : ∀ t', o.dst = some t' → t' < a.tmps.size) {t : Nat} {x i : Operand} (ho : o.op = .index t x i) {e : Eff}
    (h : (eop E N call s.slot o.dst o.type (.index t x i)).get s.obj = some e) : Good P B Own w0 s a w o e := by
  simp only [eop] at h
  split at h
  · rename_i sz by_ ze b n hti hx hix
    split at h
    · rename_i u hu8
      have hu : P.underlying t = some .string := (hT _ _ hti).kd
      obtain ⟨z, hz, rfl⟩ := get_val h
      simp only [Option.some.injEq] at hz
      subst hz
      have hv := rw_sc (opnd_rw I hx)
      obtain ⟨y, hy, hn⟩ := Option.bind_eq_some_iff.1 hix
      obtain ⟨k, hk⟩ := nat_of hn (opnd_rw I hy)
      rw [nth_get] at hu8
      have hb : b[n]? = some u := by
        have h1 : n < b.data.toList.length := (List.getElem?_eq_some_iff.1 hu8).1
        have h2 : n < b.size := Nat.lt_of_lt_of_eq h1 Array.length_toList
        have h3 : b.data.toList[n] = u := (List.getElem?_eq_some_iff.1 hu8).2
        rw [getElem?_pos b n h2]
        rw [← h3]; rfl
      refine good_put I hd (v := .int .u8 (Int.ofNat u.toNat)) ?_ (.one (.c (.v rfl)))
      unfold execOp
      simp [ho, hv, hk, Instr.index, run_underlying hu, asIntOf, hb]
    · simp at h
  · simp at h

def FtOk (P : Program) (fty : Nat → Nat → Option Nat) : Prop := ∀ t f ft, fty t f = some ft → ∀ fs fd, P.underlying t = some (.struct fs) → fs[f]? = some fd → fd.type = ft

theorem isAgg_run {t : Nat} {ti : TI} (hok : TIok P t ti) : (isAgg t).run P w = .ok ti.agg w := by
  have hk := hok.kd
  unfold isAgg
  unfold TI.agg
  cases hkd : ti.kd with
  | struct offs => rw [hkd] at hk; obtain ⟨fs, hu, _⟩ := hk; rw [Sem.run_bind, run_underlying hu w]; rfl
  | array n e => rw [hkd] at hk; rw [Sem.run_bind, run_underlying hk w]; rfl
  | sc => rw [hkd] at hk; obtain ⟨d, hu, hrow⟩ := hk; rw [Sem.run_bind, run_underlying hu w]; cases d <;> first | rfl | (simp [TypeDesc.isRow] at hrow)
  | bool => rw [hkd] at hk; rw [Sem.run_bind, run_underlying hk w]; rfl
  | str => rw [hkd] at hk; rw [Sem.run_bind, run_underlying hk w]; rfl
  | slice e => rw [hkd] at hk; rw [Sem.run_bind, run_underlying hk w]; rfl

theorem good_field (hT : TabOk P E.T) (hFT : FtOk P E.fty) (I : Inv B Own w0 G K s a w) {o : Oper} (hd : ∀ t', o.dst = some t' → t' < a.tmps.size) {t : Nat} {x : Operand} {f : Nat} (ho : o.op = .field t x f) {e : Eff}
    (h : (eop E N call s.slot o.dst o.type (.field t x f)).get s.obj = some e) : Good P B Own w0 s a w o e := by
  simp only [eop] at h
  split at h
  · rename_i offs sz by_ ze as ft hti hx hft
    split at h
    · rename_i of ti hof hte
      rw [nth_get] at hof
      cases hb : (eqN ti.size of.2 && leN (of.1 + of.2) as.length) with
      | false => rw [hb] at h; simp at h
      | true =>
        rw [hb] at h
        simp only [cond_true] at h
        simp only [Bool.and_eq_true] at hb
        have hb1 := beq_eq hb.1
        have hb2 : of.1 + of.2 ≤ as.length := leN_le hb.2
        obtain ⟨z, hz, rfl⟩ := get_val h
        obtain ⟨fs, hu, hsz, hfs⟩ := (hT _ _ hti).kd
        obtain ⟨fd, hfd, hoff, _, hpos, _⟩ := hfs f of hof
        have hty := hFT t f ft hft fs fd hu hfd
        have hr := opnd_rw I hx
        generalize hv : a.eval x = v at hr
        cases hr with
        | agg hl hr =>
          rename_i vs
          have hcr : CR G s.obj w K as vs.toList := ⟨by simpa using hl, fun j c x h1 h2 => hr j c x h1 (by simpa using h2)⟩
          have hcr2 := (hcr.drop of.1).take of.2
          have hag := isAgg_run (w := w) (hT _ _ hte)
          have hso := sizeOf_run (w := w) (hT _ _ hte)
          cases hag2 : ti.agg with
          | true =>
            rw [hag2] at hag hz
            refine good_put I hd (v := .agg (vs.extract of.1 (of.1 + of.2))) ?_ (hcr2.pack hz _ (by simp only [if_true]; congr 1; rw [← Array.toList_inj, Array.toList_extract]; simp [List.extract_eq_take_drop]))
            unfold execOp
            simp [ho, hv, Instr.field, run_underlying hu, hfd, part, hty, hag, hso, hoff, hb1, asAgg]
          | false =>
            rw [hag2] at hag hz
            have h1 : ((vs.toList.drop of.1).take of.2) = [vs.toList.getD of.1 undef] := by
              have hlen : ((as.drop of.1).take of.2).length = 1 := by
                unfold packW at hz
                simp only [cond_false] at hz
                split at hz
                · rename_i a1 he; rw [he]; rfl
                · cases hz
              have hle : of.1 < vs.toList.length := by rw [← hcr.1]; simp at hlen; omega
              have hn1 : of.2 = 1 := by simp at hlen; omega
              rw [hn1, List.drop_eq_getElem_cons hle]
              simp [List.getD_eq_getElem?_getD, List.getElem?_eq_getElem hle]
            have hat : vs[of.1]? = some (vs.toList.getD of.1 undef) := by
              have hle : of.1 < vs.toList.length := by rw [← hcr.1]; omega
              have : vs.toList[of.1]? = some (vs.toList.getD of.1 undef) := by rw [List.getD_eq_getElem?_getD, List.getElem?_eq_getElem hle]; rfl
              simpa using this
            refine good_put I hd (v := vs.toList.getD of.1 undef) ?_ (hcr2.pack hz _ (by simpa using h1))
            unfold execOp
            generalize vs.toList.getD of.1 undef = u at hat ⊢
            simp [ho, hv, Instr.field, run_underlying hu, hfd, part, hty, hag, hoff, asAgg, hat]
    · simp at h
  · simp at h
end
end Am

namespace Am
open Go
variable [RowOps] [LoopOps]
open RowOps LoopOps

section
variable {P : Program}

theorem run_append_any (w : World) (t ty ty0 e : TypeId) (i : TypeInfo) (z : Value) (size bytes : Nat) (ht : P.underlying t = some (.slice e)) (hi : P.info? e = some i) (hz : i.zero = some z)
    (hsize : i.size = size) (hby : i.bytes = bytes) (hzs : z.cells.size = size) (hbp : 0 < bytes)
    (v : Value) (n : Nat) (xs : List Value) (hown : w.ownsRow 0 ty0 size v n xs)
    (a0 : Option Addr) (m c : Nat) (news : List Value) (hl : news.length = m * size) (hnews : 0 < m → ∃ ad, a0 = some ad ∧ ∀ (j : Nat) (u : Value), news[j]? = some u → w.cell? (ad.add j) = some u)
    (h1 : ∀ u ∈ news, u.oneCell' = true) (hbytes : (n + m) * bytes ≤ 140737488355328) :
    ∃ v' w' ty', (Builtin.append_ #[t, t] ty #[v, .slice a0 m c]).run P w = .ok v' w' ∧ w'.ownsRow 0 ty' size v' (n + m) (xs ++ news) ∧ w.grownBy w' v.ownBlock ∧
      (v'.ownBlock = v.ownBlock ∨ v'.ownBlock = some w.heap.size) ∧ v'.oneCell' = true := by
  subst hsize
  subst hby
  have hnm : n + m ≤ 140737488355328 := Nat.le_trans (Nat.le_mul_of_pos_right _ hbp) hbytes
  have h63 : n + m ≤ maxLen := by simp only [maxLen]; omega
  have hlen : (xs ++ news).length = (n + m) * i.size := by rw [List.length_append, hown.1, hl, Nat.add_mul]
  have grown : ∀ (old : Nat), old < n + m → ∀ (row : Option Nat),
      (w.drew.alloc (.cells (xs.toArray ++ news.toArray ++ Builtin.zeroCells z.cells (grownCap w (n + m) old e - (n + m))) e)).ownsRow 0 e i.size
        (.slice (some ⟨w.heap.size, 0, none⟩) (n + m) (grownCap w (n + m) old e)) (n + m) (xs ++ news) ∧
      w.grownBy (w.drew.alloc (.cells (xs.toArray ++ news.toArray ++ Builtin.zeroCells z.cells (grownCap w (n + m) old e - (n + m))) e)) row := by
    intro old ho row
    have hge := grownCap_ge w (n + m) old e
    have hcm : grownCap w (n + m) old e ≤ maxLen := grownCap_le_maxLen w (n + m) old e h63
    refine ⟨⟨hlen, .inr ⟨w.heap.size, _, _, rfl, Nat.zero_le _, heap_alloc_new w.drew _, hge, hcm, ?_, ?_⟩⟩, ⟨rfl, rfl, rfl, by simp, fun k hk _ => heap_alloc_old w.drew _ k hk⟩⟩
    · simp only [Array.size_append, List.size_toArray, size_zeroCells, hzs, hown.1, hl, ← Nat.add_mul]
      congr 1
      omega
    · simp only [Array.toList_append, List.append_assoc]
      rw [← List.append_assoc, ← hlen]
      exact List.take_left
  by_cases hm : m = 0
  · subst hm
    have hn : news = [] := List.eq_nil_of_length_eq_zero (by simpa using hl)
    subst hn
    have hfc : (Builtin.firstCells i.size 0 (.slice a0 0 c)).run P w = .ok #[] w := by
      cases a0 with
      | none => simp [Builtin.firstCells]
      | some ad => simp [Builtin.firstCells, loadCells, loadCellsFrom]
    refine ⟨v, w, ty0, ?_, by simpa using hown, ⟨rfl, rfl, rfl, Nat.le_refl _, fun _ _ _ => rfl⟩, .inl rfl, ?_⟩
    · rcases hown.2 with ⟨rfl, rfl⟩ | ⟨g, cap, cur, rfl, _, _, hnc, _⟩
      · simp [Builtin.append_, run_underlying ht, Go.sizeOf, typeInfo, hi, Builtin.lenOf, hfc]
      · simp [Builtin.append_, run_underlying ht, Go.sizeOf, typeInfo, hi, Builtin.lenOf, hfc, hnc, storeCells]
    · rcases hown.2 with ⟨rfl, rfl⟩ | ⟨g, cap, cur, rfl, _⟩ <;> rfl
  · obtain ⟨ad, rfl, hc⟩ := hnews (by omega)
    rcases hown.2 with ⟨rfl, rfl⟩ | ⟨g, cap, cur, rfl, _, hg, hnc, hcm, hcs, htake⟩
    · have hx : xs = [] := List.eq_nil_of_length_eq_zero (by simpa using hown.1)
      subst hx
      have hr := run_append_nil (P := P) w t ty e i z ht hi hz ad m c news hl hc (by omega) (by omega) (by have hb := hbytes; simp only [Nat.zero_add] at hb; omega)
      have hgr := grown 0 (by omega) (Value.ownBlock (.slice none 0 0))
      simp only [Nat.zero_add, List.nil_append, Array.empty_append] at hgr ⊢
      exact ⟨_, _, e, hr, hgr.1, hgr.2, .inr rfl, rfl⟩
    · by_cases hroom : n + m ≤ cap
      · have hfit : n * i.size + news.length ≤ cur.size := by rw [hl, hcs, ← Nat.add_mul]; exact Nat.mul_le_mul_right _ hroom
        have hf := run_firstCells_some (P := P) w i.size m ad m c news hl hc
        have hst := run_storeCells_at P g (n * i.size) ty0 news 0 cur w hg (by simpa using hfit) h1
        simp only [Nat.add_zero] at hst
        have hr : (Builtin.append_ #[t, t] ty #[.slice (some ⟨g, 0, none⟩) n cap, .slice (some ad) m c]).run P w =
            .ok (.slice (some ⟨g, 0, none⟩) (n + m) cap) (w.setRow g (cur.toList.take (n * i.size) ++ news ++ cur.toList.drop (n * i.size + news.length)).toArray) := by
          simp [Builtin.append_, run_underlying ht, Go.sizeOf, typeInfo, hi, Builtin.lenOf, hroom, hf, Addr.add_lit, hst]
        refine ⟨_, _, ty0, hr, ⟨hlen, .inr ⟨g, cap, _, rfl, Nat.zero_le _, setRow_heap w g cur _ ty0 _ hg, hroom, hcm, ?_, ?_⟩⟩, ⟨rfl, rfl, rfl, by simp, fun k _ hk => setRow_other w g k _ (fun e => hk (by simp [Value.ownBlock, e]))⟩, .inl rfl, rfl⟩
        · simp only [List.size_toArray, List.length_append, List.length_take, List.length_drop, Array.length_toList]
          omega
        · rw [htake, ← hlen]
          exact List.take_left
      · have holds : ∀ (j : Nat) (u : Value), xs[j]? = some u → w.cell? ((⟨g, 0, none⟩ : Addr).add j) = some u := hown.cells (g := g) rfl
        have hr := run_append_grow (P := P) w t ty e i z ht hi hz ⟨g, 0, none⟩ n cap xs hown.1 holds ad m c news hl hc (by omega) (by omega) (growslice_fits (by omega) hbytes)
        have hgr := grown cap (by omega) (Value.ownBlock (.slice (some ⟨g, 0, none⟩) n cap))
        exact ⟨_, _, e, hr, hgr.1, hgr.2, .inr rfl, rfl⟩
end

section
variable {P : Program} {E : Cfg} {N : Ar} {call : Orc} {B : Nat} {Own : Nat → Prop} {w0 : Base} {G : Gh} {K : Nat → Prop} {s : St} {a : Act} {w : World}

theorem Rows.append {e : Nat} {r1 r2 : List (List C)} {x1 x2 : List Value} (h1 : Rows w K e r1 x1) (hl : x1.length = r1.length * e) (h2 : Rows w K e r2 x2) : Rows w K e (r1 ++ r2) (x1 ++ x2) := by
  intro i row hi
  by_cases hlt : i < r1.length
  · rw [List.getElem?_append_left hlt] at hi
    refine ⟨(h1 i row hi).1, fun j c hj => ?_⟩
    obtain ⟨x, hx, hc⟩ := (h1 i row hi).2 j c hj
    exact ⟨x, by rw [List.getElem?_append_left (List.getElem?_eq_some_iff.1 hx).1]; exact hx, hc⟩
  · rw [List.getElem?_append_right (by omega)] at hi
    refine ⟨(h2 _ row hi).1, fun j c hj => ?_⟩
    obtain ⟨x, hx, hc⟩ := (h2 _ row hi).2 j c hj
    have hge : r1.length * e ≤ i * e := Nat.mul_le_mul_right e (by omega)
    refine ⟨x, ?_, hc⟩
    rw [List.getElem?_append_right (by omega), hl]
    rw [Nat.mul_sub_right_distrib] at hx
    rw [show i * e + j - r1.length * e = i * e - r1.length * e + j by omega]
    exact hx

theorem Rows.one {e : Nat} {rows : List (List C)} {xs : List Value} (h : Rows w K e rows xs) (hl : xs.length = rows.length * e) : ∀ u ∈ xs, u.oneCell' = true := by
  intro u hu
  obtain ⟨m, hm⟩ := List.getElem?_of_mem hu
  have hlt : m < rows.length * e := by rw [← hl]; exact (List.getElem?_eq_some_iff.1 hm).1
  have he : 0 < e := by
    rcases Nat.eq_zero_or_pos e with h | h
    · rw [h] at hlt; simp at hlt
    · exact h
  have hi' : m / e < rows.length := Nat.div_lt_of_lt_mul (by rw [Nat.mul_comm]; exact hlt)
  have hrow : rows[m / e]? = some rows[m / e] := List.getElem?_eq_getElem hi'
  obtain ⟨hrl, hr⟩ := h _ _ hrow
  have hj' : m % e < (rows[m / e]).length := by rw [hrl]; exact Nat.mod_lt _ he
  obtain ⟨x, hx, hc⟩ := hr _ _ (List.getElem?_eq_getElem hj')
  rw [Nat.div_add_mod' m e, hm] at hx
  cases hx
  exact hc.one

theorem own_blk {v : Value} {n : Nat} {ty : TypeId} {size : Nat} {xs : List Value} (_h : w.ownsRow 0 ty size v n xs) : v.ownBlock = blk v := by
  rcases _h.2 with ⟨rfl, _⟩ | ⟨g, cap, cur, rfl, _⟩ <;> rfl

/-- an own array behind an append -/
theorem Inv.regrow (I : Inv B Own w0 G K s a w) {k e ver : Nat} {rows rows' : List (List C)} {v' : Value} {ty' : TypeId} {xs : List Value} {w' : World} (hob : s.obj k = some (.arr e rows ver false))
    (hown : w'.ownsRow 0 ty' e v' rows'.length xs) (hr : Rows w K e rows' xs) (hg : w.grownBy w' (blk (G.val k))) (hb : blk v' = blk (G.val k) ∨ blk v' = some w.heap.size) :
    Inv B Own w0 (G.set k v' ty') K ⟨s.fr, (k, .arr e rows' (ver + 1) false) :: s.ob⟩ a w' := by
  have hnK : ∀ b, blk (G.val k) = some b → ¬ K b := fun b hb => (I.own k _ b hob rfl hb).2
  have hsame : ∀ b, b < w.heap.size → blk (G.val k) ≠ some b → w'.heap[b]? = w.heap[b]? := fun b h1 h2 => hg.block b h1 (fun e => h2 e.symm)
  have hK : ∀ b, K b → w'.heap[b]? = w.heap[b]? := fun b hb => hsame b (I.Kb b hb) (fun e => hnK b e hb)
  have hst : ObStep G (G.set k v' ty') s.obj (St.mk s.fr ((k, .arr e rows' (ver + 1) false) :: s.ob)).obj := fun k' o' h => by
    rw [obj_cons]
    by_cases e1 : k' = k
    · subst e1
      rw [hob] at h; cases h
      rw [if_pos rfl]
      refine ⟨_, rfl, fun e2 rows2 ver2 frz2 h => ?_, fun cells' frz' h => by (simp at h)⟩
      cases h
      exact ⟨_, _, _, _, rfl, Nat.le_succ _, fun h => by omega⟩
    · rw [if_neg e1]
      exact ⟨o', h, fun e rows ver frz h => ⟨e, rows, ver, frz, h, Nat.le_refl _, fun _ => ⟨rfl, Nat.le_refl _, by simp [e1]⟩⟩, fun cells frz h => ⟨cells, frz, h, by simp [e1]⟩⟩
  refine I.step hst hK (fun _ h => h) (fun t x hx => .inl ⟨hx, rfl⟩) (fun k' o1 h => ?_) ?_ ?_ (fun b hb => Nat.lt_of_lt_of_le (I.Kb b hb) hg.size) ?_ rfl
  · rw [obj_cons] at h
    by_cases e1 : k' = k
    · subst e1
      rw [if_pos rfl] at h; cases h
      exact .inr ⟨ty', xs, by simpa using hown, hr.mono hK (fun _ h => h), fun h => by cases h⟩
    · rw [if_neg e1] at h
      cases hlo : o1.live with
      | true => exact .inl ⟨h, by simp [e1], by simp [e1], fun b' hb' => hsame b' (I.live_lt h hlo hb') (fun e' => I.dis k' k o1 _ b' e1 h hob hlo rfl hb' e')⟩
      | false =>
        cases o1 with
        | dead => exact .inr trivial
        | box cells frz =>
          simp [Ob.live] at hlo
          obtain ⟨b1, arr, ty, h1, _, _, hf, _⟩ := I.ob k' _ h
          refine .inl ⟨h, by simp [e1], by simp [e1], fun b' hb' => hK b' ?_⟩
          rw [h1] at hb'; simp [blk] at hb'; rw [← hb']; exact hf hlo
        | arr e rows ver frz =>
          simp [Ob.live] at hlo
          obtain ⟨_, xs, _, _, hf⟩ := I.ob k' _ h
          exact .inl ⟨h, by simp [e1], by simp [e1], fun b' hb' => hK b' (hf hlo b' hb')⟩
  · intro k1 k2 o1 o2 b1 hne h1 h2 hl1 hl2 hb1
    rw [obj_cons] at h1 h2
    simp only [Gh.val_set] at hb1 ⊢
    by_cases e1 : k1 = k
    · have e2 : k2 ≠ k := fun e => hne (e1.trans e.symm)
      rw [if_pos e1] at hb1
      rw [if_neg e2] at h2 ⊢
      intro hb2
      rcases hb with hb | hb
      · rw [hb] at hb1; exact I.dis k2 k o2 _ b1 e2 h2 hob hl2 rfl hb2 hb1
      · rw [hb] at hb1; cases hb1; exact Nat.lt_irrefl _ (I.live_lt h2 hl2 hb2)
    · rw [if_neg e1] at h1 hb1
      by_cases e2 : k2 = k
      · rw [if_pos e2]
        intro hb2
        rcases hb with hb | hb
        · rw [hb] at hb2; exact I.dis k1 k o1 _ b1 e1 h1 hob hl1 rfl hb1 hb2
        · rw [hb] at hb2; cases hb2; exact Nat.lt_irrefl _ (I.live_lt h1 hl1 hb1)
      · rw [if_neg e2] at h2 ⊢
        exact I.dis k1 k2 o1 o2 b1 hne h1 h2 hl1 hl2 hb1
  · intro k1 o1 b1 h1 hl1 hb1
    rw [obj_cons] at h1
    simp only [Gh.val_set] at hb1
    by_cases e1 : k1 = k
    · rw [if_pos e1] at hb1
      rcases hb with hb | hb
      · rw [hb] at hb1; exact I.own k _ b1 hob rfl hb1
      · rw [hb] at hb1; cases hb1; exact ⟨.inl I.sz, fun h => Nat.lt_irrefl _ (I.Kb _ h)⟩
    · rw [if_neg e1] at h1 hb1
      exact I.own k1 o1 b1 h1 hl1 hb1
  · refine ⟨hg.os, hg.tape, hg.output, hg.size, fun b' hb' hno => hsame b' (Nat.lt_of_lt_of_le hb' I.sz) (fun e => ?_)⟩
    rcases (I.own k _ b' hob rfl e).1 with h | h
    · omega
    · exact hno h

theorem good_append (hN : NOk N) (hT : TabOk P E.T) (I : Inv B Own w0 G K s a w) {o : Oper} (hd : ∀ t', o.dst = some t' → t' < a.tmps.size) {c : Call} (ho : o.op = .call c) (hc : c.callee = .builtin .append) {p q : A} {vp vq : Value}
    (hrp : RW G s.obj w K (.one p) vp) (hrq : RW G s.obj w K (.one q) vq) (hargs : (c.args.map a.eval) = #[vp, vq]) {e : Eff}
    (hmk : ∀ t t' t0, c.argTypes.toList = [t, t'] → o.dst = some t0 → (appendMake E N t t' t0 p q).get s.obj = some e → Good P B Own w0 s a w o e)
    (h : (appendW E N o.dst c.argTypes.toList p q).get s.obj = some e) : Good P B Own w0 s a w o e := by
  unfold appendW at h
  split at h
  · rename_i t t' t0 hts hdst
    cases hb : eqN t t' with
    | false =>
      rw [hb] at h
      exact hmk t t' t0 hts hdst h
    | true =>
      have ht := beq_eq hb
      subst ht
      simp only [hb, cond_true] at h
      have hat : c.argTypes = #[t, t] := by rw [← Array.toList_inj]; exact hts
      split at h
      · rename_i el _ _ _ hti
        have hu : P.underlying t = some (.slice el) := (hT _ _ hti).kd
        split at h
        · rename_i te hte
          obtain ⟨i, z, hi, hi2, hi3, hz, hzs, _⟩ := (hT _ _ hte).info
          simp only [Rd.get_bind] at h
          cases hro : (rowsOf q).get s.obj with
          | none => simp [hro] at h
          | some ys =>
            simp only [hro, Option.bind_some] at h
            cases hb2 : (bif eqN ys.1 te.size then true else noRows ys.2) with
            | false => simp [hb2] at h
            | true =>
              simp only [hb2, cond_true] at h
              obtain ⟨a0, cq, hvq, news, hnl, hnr, hnew⟩ := rows_spec I hrq hro
              have hboth : news.length = ys.2.length * te.size ∧ Rows w K te.size ys.2 news := by
                cases hb4 : eqN ys.1 te.size with
                | true => rw [beq_eq hb4] at hnl hnr; exact ⟨hnl, hnr⟩
                | false =>
                  rw [hb4] at hb2
                  simp only [cond_false] at hb2
                  have h0 : ys.2 = [] := by
                    unfold noRows at hb2
                    split at hb2
                    · assumption
                    · cases hb2
                  rw [h0] at hnl ⊢
                  exact ⟨by simpa using hnl, fun i row h => by simp at h⟩
              obtain ⟨hnl, hnr⟩ := hboth
              have h1 : ∀ u ∈ news, u.oneCell' = true := hnr.one hnl
              have hcells : 0 < ys.2.length → ∃ ad, a0 = some ad ∧ ∀ (j : Nat) (u : Value), news[j]? = some u → w.cell? (ad.add j) = some u := fun hp => by
                obtain ⟨b, off, ha0, hrg⟩ := hnew (fun h0 => by rw [h0] at hp; simp at hp)
                exact ⟨_, ha0, fun j u hj => by rw [Addr.add_mid]; exact hrg j u hj⟩
              have key : ∀ v' w', (Builtin.append_ #[t, t] o.type #[vp, vq]).run P w = .ok v' w' → (execOp a.eval o).run P w = .ok (.value v') w' := by
                intro v' w' hr
                unfold execOp
                simp only [ho, resolve, hc, hargs]
                simp [invoke, builtin, hat, hr]
              have hnew2 : ∀ (e : Eff), vp = .slice none 0 0 → (bif N.room ys.2.length te.bytes then (fresh t0).bind fun _ => Rd.ret (Eff.mk (some (.one (.ref t0 0 none))) [(t0, .arr te.size ys.2 0 false)]) else .fail).get s.obj = some e → Good P B Own w0 s a w o e := by
                intro e hv h
                cases hle : N.room ys.2.length te.bytes with
                | false => simp [hle] at h
                | true =>
                  simp only [hle, cond_true, fresh, Rd.get_bind, Rd.get_look] at h
                  cases hf : s.obj t0 with
                  | some o => simp [hf] at h
                  | none =>
                    simp [hf] at h
                    subst h
                    obtain ⟨v', w', ty', hrun, hown, hg, hblk, hone⟩ := run_append_any w t o.type el el i z te.size te.bytes hu hi hz hi2 hi3 hzs (hT _ _ hte).bpos (.slice none 0 0) 0 [] (World.ownsRow_nil w 0 el te.size) a0 ys.2.length cq news hnl hcells h1
                      (by simpa using hN.roomle _ _ hle)
                    have hb' := own_blk hown
                    obtain ⟨G', hG⟩ := I.newArr (hd t0 hdst) hf te.size ys.2 v' ty' news (Grew.of_grownBy hg) (by simpa using hown)
                      (fun b hb => by
                        rw [← hb'] at hb
                        rcases hblk with h | h
                        · rw [h] at hb; simp [Value.ownBlock] at hb
                        · rw [h] at hb; cases hb; exact Nat.le_refl _) hnr hone
                    exact good_value (key v' w' (by rw [hv, hvq]; exact hrun)) (by rw [hdst]; exact hG)
              unfold appendTo at h
              simp only [rowsCat_eq] at h
              split at h
              · rename_i k ver win
                simp only [Rd.get_look] at h
                split at h
                · rename_i e' rows ver' hob
                  cases hb3 : (eqN ver ver' && eqN e' te.size) with
                  | false => simp [hb3] at h
                  | true =>
                    simp only [hb3, cond_true] at h
                    simp only [Bool.and_eq_true] at hb3
                    have hver := beq_eq hb3.1
                    have hes := beq_eq hb3.2
                    subst hver
                    subst hes
                    rw [rowsLen_eq] at h
                    cases hle : N.room (winOf rows win ++ ys.2).length te.bytes with
                    | false => simp only [hle, cond_false, Rd.get_fail] at h; cases h
                    | true =>
                      simp only [hle, cond_true, Rd.get_ret, Option.some.injEq] at h
                      subst h
                      cases hrp with
                      | one hrp =>
                        obtain ⟨tyk, xs, hown, hrows, _, hcase⟩ := ref_slice I hrp hob
                        have hpre : ∃ xs0, w.ownsRow 0 tyk te.size vp (winOf rows win).length xs0 ∧ Rows w K te.size (winOf rows win) xs0 ∧ blk vp = blk (G.val k) := by
                          rcases hcase with ⟨hg, hr0, hv⟩ | ⟨g, cap, hg, hv, hlen, hsub⟩
                          · have h0 : winOf rows win = [] := by subst hr0; cases win <;> simp [winOf]
                            rw [h0, hv, hg]
                            exact ⟨[], World.ownsRow_nil w 0 _ _, fun i row h => by simp at h, rfl⟩
                          · refine ⟨xs.take ((winOf rows win).length * te.size), ⟨?_, .inr ?_⟩, fun i row hi => ⟨(hrows i row (hsub i row hi)).1, fun j c hj => ?_⟩, by rw [hv, hg]; rfl⟩
                            · have : (winOf rows win).length * te.size ≤ rows.length * te.size := Nat.mul_le_mul_right _ hlen
                              rw [List.length_take, hown.1, Nat.min_eq_left this]
                            · rcases hown.2 with ⟨hn, _⟩ | ⟨g', cap', cur, hg', hz0, hh, hnc, hcm, hcs, htake⟩
                              · rw [hg] at hn; cases hn
                              · rw [hg] at hg'
                                cases hg'
                                refine ⟨g, cap, cur, hv, hz0, hh, Nat.le_trans hlen hnc, hcm, hcs, ?_⟩
                                rw [← htake, List.take_take]
                                congr 1
                                exact (Nat.min_eq_left (Nat.mul_le_mul_right _ hlen)).symm
                            · obtain ⟨x, hx, hcc⟩ := (hrows i row (hsub i row hi)).2 j c hj
                              refine ⟨x, ?_, hcc⟩
                              have hi' : i < (winOf rows win).length := (List.getElem?_eq_some_iff.1 hi).1
                              have hj' : j < te.size := by rw [← (hrows i row (hsub i row hi)).1]; exact (List.getElem?_eq_some_iff.1 hj).1
                              have : (i + 1) * te.size ≤ (winOf rows win).length * te.size := Nat.mul_le_mul_right _ hi'
                              rw [Nat.add_mul, Nat.one_mul] at this
                              rw [List.getElem?_take, if_pos (by omega)]
                              exact hx
                        obtain ⟨xs0, hown0, hrows0, hblk0⟩ := hpre
                        obtain ⟨v', w', ty', hrun, hown', hg, hblk, hone⟩ := run_append_any w t o.type tyk el i z te.size te.bytes hu hi hz hi2 hi3 hzs (hT _ _ hte).bpos vp _ xs0 hown0 a0 ys.2.length cq news hnl hcells h1
                          (by have := hN.roomle _ _ hle; simpa using this)
                        have hbv : vp.ownBlock = blk (G.val k) := (own_blk hown0).trans hblk0
                        have hrows' := hrows0.append hown0.1 hnr
                        have I1 := I.regrow (v' := v') (ty' := ty') (w' := w') hob (by simpa using hown') hrows' (hbv ▸ hg) (by rw [← own_blk hown', ← hbv]; exact hblk)
                        refine good_value (G' := G.set k v' ty') (K' := K) (key v' w' (by rw [hvq]; exact hrun)) ?_
                        have I2 := I1.put (d := o.dst) hd (x := .one (.ref k (ver + 1) none)) (v := v') (.one (.ref (o := .arr te.size (winOf rows win ++ ys.2) (ver + 1) false) (by rw [obj_cons, if_pos rfl]) hone
                          (fun _ _ _ _ h => by cases h; exact Nat.le_refl _) fun _ _ _ _ => by simp [WinV]))
                        rw [hdst] at I2 ⊢
                        exact I2
                · simp at h
              · refine hnew2 e ?_ (by rw [rowsLen_eq] at h; exact h)
                cases hrp with
                | one h => cases h; rfl
              · exact hnew2 e (rw_nil hrp) (by rw [rowsLen_eq] at h; exact h)
              · simp at h
        · simp at h
      · simp at h
  · simp at h
end
end Am

namespace Am
open Go
variable [RowOps] [LoopOps]
open RowOps LoopOps

theorem mapM_opt {α β : Type} (g : α → Option β) : ∀ (l : List α) (ys : List β), l.length = ys.length → (∀ (j : Nat) (x : α), l[j]? = some x → ∃ y, ys[j]? = some y ∧ g x = some y) → l.mapM g = some ys
  | [], [], _, _ => rfl
  | [], _ :: _, h, _ => by simp at h
  | _ :: _, [], h, _ => by simp at h
  | x :: l, y :: ys, h, hg => by
    have h0 := hg 0 x rfl
    simp at h0
    have ih := mapM_opt g l ys (by simpa using h) (fun j z hz => by simpa using hg (j + 1) z (by simpa using hz))
    simp [List.mapM_cons, h0, ih]

theorem fold_cells : ∀ (vs : List Value) (k off : Nat) (cs : Array Value), off + k + vs.length ≤ cs.size →
    ((vs.zipIdx k).foldl (fun (cs : Array Value) (p : Value × Nat) => cs.setIfInBounds (off + p.2) p.1) cs).toList = splice cs.toList (off + k) vs
  | [], k, off, cs, _ => by simp [splice]
  | v :: vs, k, off, cs, h => by
    simp only [List.length_cons] at h
    have ih := fold_cells vs (k + 1) off (cs.setIfInBounds (off + k) v) (by simp; omega)
    simp only [List.zipIdx_cons, List.foldl_cons, ih]
    apply List.ext_getElem?
    intro m
    rw [splice_get _ _ _ (by simp; omega), splice_get _ _ _ (by simp; omega)]
    simp only [Array.toList_setIfInBounds, List.getElem?_set, Array.length_toList, List.length_cons]
    by_cases h1 : m = off + k
    · subst h1
      rw [if_neg (by omega), if_pos rfl, if_pos (by omega), if_pos (by omega)]
      simp
    · by_cases h2 : off + (k + 1) ≤ m ∧ m < off + (k + 1) + vs.length
      · rw [if_pos h2, if_pos (by omega), show m - (off + k) = (m - (off + (k + 1))) + 1 by omega]
        simp
      · rw [if_neg h2, if_neg (fun e => h1 e.symm), if_neg (by omega)]

theorem fill_step (place : Nat → Option (Nat × Nat)) (cells : Array Value) (i off size : Nat) (v : Value) (rest : List (Nat × Value)) (hp : place i = some (off, size)) (hs : v.cells.size = size) (hf : off + size ≤ cells.size) :
    ∃ cells', Instr.fill place cells ((i, v) :: rest) = Instr.fill place cells' rest ∧ cells'.toList = splice cells.toList off v.cells.toList ∧ cells'.size = cells.size := by
  have hfold := fold_cells v.cells.toList 0 off cells (by simp; omega)
  refine ⟨(v.cells.toList.zipIdx 0).foldl (fun (cs : Array Value) (p : Value × Nat) => cs.setIfInBounds (off + p.2) p.1) cells, ?_, by simpa using hfold, ?_⟩
  · simp only [Instr.fill, hp]
    rw [if_neg (by simp; exact ⟨hs, by omega⟩)]
    congr 1
    rw [← Array.foldl_toList]
    simp
  · rw [← Array.length_toList, hfold, length_splice _ _ _ (by simp; omega)]
    simp

section
variable {P : Program} {E : Cfg} {N : Ar} {call : Orc} {B : Nat} {Own : Nat → Prop} {w0 : Base} {G : Gh} {K : Nat → Prop} {s : St} {a : Act} {w : World}

theorem fill_struct (I : Inv B Own w0 G K s a w) {offs : List (Nat × Nat)} {n : Nat} (hof : ∀ (j : Nat) (o : Nat × Nat), offs[j]? = some o → o.1 + o.2 ≤ n) :
    ∀ (ps : List (Nat × Operand)) (qs : List (Nat × List A)) (as : List A) (cells : Array Value), partsOf s.slot offs ps = some qs → cells.size = n → CR G s.obj w K as cells.toList →
      ∃ cells', Instr.fill (offs.toArray[·]?) cells (ps.map fun p => (p.1, a.eval p.2)) = some cells' ∧ CR G s.obj w K (fillC as qs) cells'.toList
  | [], qs, as, cells, h, hn, hc => by
    simp [partsOf] at h
    subst h
    exact ⟨cells, rfl, hc⟩
  | (i, x) :: ps, qs, as, cells, h, hn, hc => by
    simp only [partsOf, nth_get] at h
    cases ho : offs[i]? with
    | none => simp [ho] at h
    | some o =>
      cases hx : opnd s.slot x with
      | none => simp [ho, hx] at h
      | some y =>
        cases hy : y.cells with
        | none => simp [ho, hx, hy] at h
        | some bs =>
          simp only [ho, hx, hy, Option.bind_some] at h
          cases hb : eqN bs.length o.2 with
          | false => simp [hb] at h
          | true =>
            have hlen := beq_eq hb
            simp only [hb, cond_true] at h
            cases hr : partsOf s.slot offs ps with
            | none => simp [hr] at h
            | some rs =>
              simp [hr] at h
              subst h
              obtain ⟨hl, hcr⟩ := cells_ra (opnd_rw I hx) hy
              have hbc : CR G s.obj w K bs (a.eval x).cells.toList := ⟨by simpa using hl.symm, fun j c z h1 h2 => hcr j c z h1 (by simpa using h2)⟩
              obtain ⟨cells1, e1, e2, e3⟩ := fill_step (offs.toArray[·]?) cells i o.1 o.2 (a.eval x) (ps.map fun p => (p.1, a.eval p.2)) (by simpa using ho) (by rw [hl, hlen]) (by rw [hn]; exact hof i o ho)
              obtain ⟨cells', f1, f2⟩ := fill_struct I hof ps rs (splice as o.1 bs) cells1 hr (e3.trans hn) (by rw [e2]; exact hc.splice hbc o.1)
              exact ⟨cells', by simp only [List.map_cons]; rw [e1]; exact f1, f2⟩

theorem zero_cr {ti : TI} {z : Value} (h6 : ti.zero.length = ti.size) (h5 : z.cells.size = ti.size) (h7 : ∀ (j : Nat) (c : C) (v : Value), ti.zero[j]? = some c → z.cells[j]? = some v → zcell c v = true) {ob : Nat → Option Ob} :
    CR G ob w K (ti.zero.map A.c) z.cells.toList := by
  refine ⟨by simp [h5, h6], fun j c x hc hx => ?_⟩
  simp at hc
  obtain ⟨c0, hc0, rfl⟩ := hc
  exact .c (zcell_rc (h7 j c0 x hc0 (by simpa using hx)))

theorem good_build (hT : TabOk P E.T) (I : Inv B Own w0 G K s a w) {o : Oper} (hd : ∀ t', o.dst = some t' → t' < a.tmps.size) {t : Nat} {ps : Array (Nat × Operand)} (ho : o.op = .build t ps) {e : Eff}
    (h : (eop E N call s.slot o.dst o.type (.build t ps)).get s.obj = some e) : Good P B Own w0 s a w o e := by
  simp only [eop] at h
  split at h
  · rename_i offs sz by_ ze hti
    split at h
    · rename_i qs hqs
      simp at h
      subst h
      have hok := hT _ _ hti
      obtain ⟨i, z, h1, h2, h3, h4, h5, h6, h7⟩ := hok.info
      obtain ⟨fs, hu, hsz, hfs⟩ := hok.kd
      have hplaces : fs.toList.mapM (fun f => (P.info? f.type).map fun i => (f.offset, i.size)) = some offs := by
        refine mapM_opt _ _ _ (by simpa using hsz) (fun j f hf => ?_)
        have hj : j < offs.length := by rw [← hsz]; simpa using (List.getElem?_eq_some_iff.1 hf).1
        obtain ⟨f', hf', ho1, ho2, _⟩ := hfs j offs[j] (List.getElem?_eq_getElem hj)
        have : f = f' := by
          have h' : fs[j]? = some f := by simpa using hf
          rw [hf'] at h'; cases h'; rfl
        subst this
        refine ⟨_, List.getElem?_eq_getElem hj, ?_⟩
        cases hi : P.info? f.type with
        | none => simp [hi] at ho2
        | some i => simp [hi] at ho2 ⊢; exact Prod.ext ho1 ho2
      obtain ⟨cells', f1, f2⟩ := fill_struct I (n := sz) (fun j o hj => (hfs j o hj).choose_spec.2.2.2.2) ps.toList qs _ z.cells hqs h5 (zero_cr (ti := ⟨.struct offs, sz, by_, ze⟩) h6 h5 h7)
      have hbuilt : P.built t ((ps.map fun p => (p.1, a.eval p.2)).toList) = some cells' := by
        unfold Program.built
        simp only [h1, hu, h4, hplaces]
        simpa using f1
      have hrun := run_build (P := P) w t _ _ hbuilt
      exact good_put I hd (v := .agg cells') (by unfold execOp; simp only [ho]; simp [hrun]) (.agg (by simpa using f2.1) (fun j c v hc hv => f2.2 j c v hc (by simpa using hv)))
    · simp at h
  · simp at h

theorem madeRows {ti : TI} {z : Value} (h6 : ti.zero.length = ti.size) (h5 : z.cells.size = ti.size) (h7 : ∀ (j : Nat) (c : C) (v : Value), ti.zero[j]? = some c → z.cells[j]? = some v → zcell c v = true) (n : Nat) :
    Rows w K ti.size (List.replicate n ti.zero) (madeCells z.cells (n * ti.size)).toList := by
  intro i row hi
  rw [List.getElem?_replicate] at hi
  split at hi
  · rename_i hin
    cases hi
    refine ⟨h6, fun j c hj => ?_⟩
    have hjl : j < ti.size := by rw [← h6]; exact (List.getElem?_eq_some_iff.1 hj).1
    have hlt : i * ti.size + j < n * ti.size := by
      have : (i + 1) * ti.size ≤ n * ti.size := Nat.mul_le_mul_right _ hin
      rw [Nat.add_mul, Nat.one_mul] at this
      omega
    have hz : z.cells[j]? = some z.cells[j] := Array.getElem?_eq_getElem (by omega)
    refine ⟨z.cells[j], ?_, zcell_rc (h7 j c _ hj hz)⟩
    have hm : (i * ti.size + j) % ti.size = j := by rw [Nat.mul_comm, Nat.mul_add_mod, Nat.mod_eq_of_lt hjl]
    simp [madeCells, List.getElem?_range hlt, h5, hm]
    exact getElem!_pos z.cells j (by omega)
  · cases hi

theorem get_newArr {d : Option Nat} {el : Nat} {rows : List (List C)} {e : Eff} {look : Nat → Option Ob} (h : (newArr d el rows).get look = some e) :
    ∃ t, d = some t ∧ look t = none ∧ e = ⟨some (.one (.ref t 0 none)), [(t, .arr el rows 0 false)]⟩ := by
  cases d with
  | none => simp [newArr] at h
  | some t =>
    simp only [newArr, fresh, Rd.get_bind, Rd.get_look] at h
    cases hl : look t with
    | none => simp [hl] at h; exact ⟨t, rfl, hl, h.symm⟩
    | some o => simp [hl] at h

theorem good_makeSlice (hN : NOk N) (hT : TabOk P E.T) (I : Inv B Own w0 G K s a w) {o : Oper} (hd : ∀ t', o.dst = some t' → t' < a.tmps.size) {t : Nat} {x y : Operand} (ho : o.op = .makeSlice t x y) {e : Eff}
    (h : (eop E N call s.slot o.dst o.type (.makeSlice t x y)).get s.obj = some e) : Good P B Own w0 s a w o e := by
  simp only [eop] at h
  split at h
  · rename_i el sz by_ ze n m hti hx hy
    split at h
    · rename_i te hte
      cases hb : (eqN n m && N.room n te.bytes) with
      | false => simp only [hb, cond_false, Rd.get_fail] at h; cases h
      | true =>
        simp only [hb, cond_true] at h
        simp only [Bool.and_eq_true] at hb
        have hnm := beq_eq hb.1
        subst hnm
        obtain ⟨t0, hdst, hf, rfl⟩ := get_newArr h
        have hu : P.underlying t = some (.slice el) := (hT _ _ hti).kd
        have hok := hT _ _ hte
        obtain ⟨i, z, h1, h2, h3, h4, h5, h6, h7⟩ := hok.info
        cases hox : opnd s.slot x with
        | none => simp [hox] at hx
        | some W1 =>
          cases hoy : opnd s.slot y with
          | none => simp [hoy] at hy
          | some W2 =>
            simp [hox] at hx
            simp [hoy] at hy
            obtain ⟨kx, hkx⟩ := nat_of hx (opnd_rw I hox)
            obtain ⟨ky, hky⟩ := nat_of hy (opnd_rw I hoy)
            have hle := hN.roomle _ _ hb.2
            have hnl : n ≤ 140737488355328 := Nat.le_trans (Nat.le_mul_of_pos_right _ hok.bpos) hle
            obtain ⟨w', hrun, hown, hg⟩ := run_make_full (P := P) w 0 t el i z te.size hu h1 h4 h2 kx ky n (by rw [h3, Nat.mul_comm]; omega) (by simp only [maxLen]; omega) (Nat.zero_le _)
            obtain ⟨G', hG⟩ := I.newArr (hd t0 hdst) hf te.size (List.replicate n te.zero) _ el _ (Grew.of_grownBy hg) (by simpa using hown) (fun b hb => by simp [blk] at hb; omega) (madeRows h6 h5 h7 n) rfl
            exact good_value (v := .slice (some ⟨w.heap.size, 0, none⟩) n n) (w' := w') (by unfold execOp; simp [ho, hkx, hky, hrun]) (by rw [hdst]; exact hG)
    · simp at h
  · simp at h

theorem appendMake_run {t u ty e : TypeId} {i : TypeInfo} {z : Value} {k ku : IntKind} (hu : P.underlying t = some (.slice e)) (hk : P.underlying u = some (.int ku)) (hi : P.info? e = some i) (hz : i.zero = some z)
    (n : Nat) (hn : 1 ≤ n) (hs : 0 < i.size) (hm : n ≤ 140737488355328) (hb : n * i.bytes ≤ 140737488355328) : (Builtin.append_ #[t, u] ty #[.slice none 0 0, .int k (n : Int)]).run P w =
      .ok (.slice (some ⟨w.heap.size, 0, none⟩) n (grownCap w n 0 e)) (w.drew.alloc (.cells (Builtin.zeroCells z.cells n ++ Builtin.zeroCells z.cells (grownCap w n 0 e - n)) e)) := by
  have a1 : IntKind.i64.wrap (n : Int) = n := by rw [IntKind.wrap_i64]; omega
  have a2 : ¬ (9223372036854775807 < (n : Int)) := by omega
  have a3 : ¬ (281474976710656 < (n : Int) * (i.bytes : Int)) := by rw [← Int.natCast_mul]; omega
  have a4 : ¬ (281474976710656 < Builtin.nextslicecap n 0 * i.bytes) := by rw [nextslicecap_zero hn]; omega
  have a5 : ¬ ((n : Int) < 0) := by omega
  have a6 : ¬ (n * i.size = 0) := Nat.mul_ne_zero (by omega) (by omega)
  have a7 : n ≠ 0 := by omega
  simp [Builtin.append_, run_underlying hu, run_underlying hk, Go.sizeOf, typeInfo, zeroValue, hi, hz, asInt, asIntOf, a1, a2, a3, a4, a5, a6, a7, Question.forced, run_firstCells_none, newRow, grownCap]

theorem good_appendMake (hN : NOk N) (hT : TabOk P E.T) (hI : ∀ t k, E.ik t = some k → P.underlying t = some (.int k)) (I : Inv B Own w0 G K s a w) {o : Oper} (hd : ∀ t', o.dst = some t' → t' < a.tmps.size) {c : Call} (ho : o.op = .call c) (hc : c.callee = .builtin .append) {p q : A} {vp vq : Value}
    (hrp : RW G s.obj w K (.one p) vp) (hrq : RW G s.obj w K (.one q) vq) (hargs : (c.args.map a.eval) = #[vp, vq]) {e : Eff} {t t' t0 : Nat} (hts : c.argTypes.toList = [t, t']) (hdst : o.dst = some t0)
    (h : (appendMake E N t t' t0 p q).get s.obj = some e) : Good P B Own w0 s a w o e := by
  unfold appendMake at h
  split at h
  · rename_i e0 k n
    split at h
    · rename_i el _ _ _ k' hti hik
      split at h
      · rename_i te hte
        cases hb : (N.nle 1 n && N.room n te.bytes) with
        | false => rw [hb] at h; simp at h
        | true =>
          rw [hb] at h
          simp only [cond_true, newArr', fresh, Rd.get_bind, Rd.get_look] at h
          cases hf : s.obj t0 with
          | some o => simp [hf] at h
          | none =>
            simp [hf] at h
            subst h
            simp only [Bool.and_eq_true] at hb
            have hn1 := hN.nle _ _ hb.1
            have hle := hN.roomle _ _ hb.2
            have hat : c.argTypes = #[t, t'] := by rw [← Array.toList_inj]; exact hts
            have hu : P.underlying t = some (.slice el) := (hT _ _ hti).kd
            have hok := hT _ _ hte
            obtain ⟨i, z, h1, h2, h3, h4, h5, h6, h7⟩ := hok.info
            have hnl : n ≤ 140737488355328 := Nat.le_trans (Nat.le_mul_of_pos_right _ hok.bpos) hle
            have hvp := rw_nil hrp
            have hvq := rw_sc hrq
            subst hvp; subst hvq
            have hrun := appendMake_run (P := P) (w := w) (ty := o.type) (k := k) hu (hI _ _ hik) h1 h4 n hn1 (by rw [h2]; exact hok.pos) hnl (by rw [h3]; exact hle)
            have hge := grownCap_ge w n 0 el
            have hcm : grownCap w n 0 el ≤ maxLen := grownCap_le_maxLen w n 0 el (by simp only [maxLen]; omega)
            have hzc : Builtin.zeroCells z.cells n = madeCells z.cells (n * te.size) := by rw [← h5]; rfl
            have hszc : (Builtin.zeroCells z.cells n).size = n * te.size := by rw [size_zeroCells, h5]
            obtain ⟨G', hG⟩ := I.newArr (w' := w.drew.alloc (.cells (Builtin.zeroCells z.cells n ++ Builtin.zeroCells z.cells (grownCap w n 0 el - n)) el)) (hd t0 hdst) hf te.size (List.replicate n te.zero) (.slice (some ⟨w.heap.size, 0, none⟩) n (grownCap w n 0 el)) el (Builtin.zeroCells z.cells n).toList
              (Grew.of_grownBy (show w.grownBy _ none from ⟨rfl, rfl, rfl, by simp, fun k hk _ => heap_alloc_old w.drew _ k hk⟩))
              ⟨by simpa using hszc, .inr ⟨w.heap.size, _, _, by simp, Nat.zero_le _, heap_alloc_new w.drew _, by simpa using hge, hcm, by
                simp only [Array.size_append, size_zeroCells, h5, ← Nat.add_mul]
                congr 1
                omega, by
                simp only [Array.toList_append, List.length_replicate]
                rw [← hszc, ← Array.length_toList]
                exact List.take_left⟩⟩
              (fun b hb => by simp [blk] at hb; omega) (by rw [hzc]; exact madeRows h6 h5 h7 n) rfl
            exact good_value (v := .slice (some ⟨w.heap.size, 0, none⟩) n (grownCap w n 0 el)) (w' := w.drew.alloc (.cells (Builtin.zeroCells z.cells n ++ Builtin.zeroCells z.cells (grownCap w n 0 el - n)) el)) (by
              unfold execOp
              simp only [ho, resolve, hc, hargs]
              simp [invoke, Go.builtin, hat]
              simp [hrun]) (by rw [hdst]; exact hG)
      · simp at h
    · simp at h
  · simp at h

theorem splice_all {α : Type} (xs ys : List α) (h : ys.length = xs.length) : splice xs 0 ys = ys := by
  simp [splice, h]

theorem fill_rows (I : Inv B Own w0 G K s a w) {e : Nat} : ∀ (ps : List (Nat × Operand)) (rows : List (List C)) (q : List (List C) × List Nat) (cells : Array Value) (K' : Nat → Prop),
    (rowParts s.slot e rows ps).get s.obj = some q → cells.size = rows.length * e → (∀ b, K b → K' b) → (∀ k ∈ q.2, ∀ b, blk (G.val k) = some b → K' b) → Rows w K' e rows cells.toList →
      ∃ cells', Instr.fill (fun i => some (i * e, e)) cells (ps.map fun p => (p.1, a.eval p.2)) = some cells' ∧ Rows w K' e q.1 cells'.toList ∧ q.1.length = rows.length ∧ cells'.size = cells.size
  | [], rows, q, cells, K', h, hn, hK, hks, hr => by
    simp [rowParts] at h
    subst h
    exact ⟨cells, rfl, hr, rfl, rfl⟩
  | (i, x) :: ps, rows, q, cells, K', h, hn, hK, hks, hr => by
    simp only [rowParts] at h
    cases hx : opnd s.slot x with
    | none => simp [hx] at h
    | some y =>
      cases hy : y.cells with
      | none => simp [hx, hy] at h
      | some bs =>
        simp only [hx, hy, Option.bind_some] at h
        cases hb : eqN bs.length e with
        | false => simp [hb] at h
        | true =>
          have hlen := beq_eq hb
          simp only [hb, cond_true] at h
          cases hb2 : ltN i rows.length with
          | false => simp [hb2] at h
          | true =>
            have hil : i < rows.length := leN_le hb2
            simp only [hb2, cond_true, Rd.get_bind] at h
            cases hcs : (reifyAll bs).get s.obj with
            | none => simp [hcs] at h
            | some cs =>
              cases hk : (keysAll bs).get s.obj with
              | none => simp [hcs, hk] at h
              | some ks =>
                simp only [hcs, hk, Option.bind_some] at h
                cases hq : (rowParts s.slot e (rows.set i cs) ps).get s.obj with
                | none => simp [hq] at h
                | some q' =>
                  simp [hq] at h
                  subst h
                  obtain ⟨hl, hcr⟩ := cells_ra (opnd_rw I hx) hy
                  have hbc : CR G s.obj w K bs (a.eval x).cells.toList := ⟨by simpa using hl.symm, fun j c z h1 h2 => hcr j c z h1 (by simpa using h2)⟩
                  obtain ⟨hcl, hcr2⟩ := reifyAll_rc I hK hbc hcs hk (fun k hk => hks k (List.mem_append_left _ hk))
                  have hie : i * e + e ≤ cells.size := by
                    rw [hn]
                    have : (i + 1) * e ≤ rows.length * e := Nat.mul_le_mul_right e hil
                    rwa [Nat.add_mul, Nat.one_mul] at this
                  obtain ⟨cells1, e1, e2, e3⟩ := fill_step (fun i => some (i * e, e)) cells i (i * e) e (a.eval x) (ps.map fun p => (p.1, a.eval p.2)) rfl (by rw [hl, hlen]) hie
                  have hrow : rows[i]? = some rows[i] := List.getElem?_eq_getElem hil
                  have hset := hr.set (by simpa using hn) hrow (off := 0) (cs := cs) (vs := (a.eval x).cells.toList) (by rw [hcl, hbc.1]) (by rw [hcl, hlen]; omega) hcr2
                  rw [splice_all _ _ (by rw [hcl, hlen, (hr i _ hrow).1]), Nat.add_zero, ← e2] at hset
                  obtain ⟨cells', f1, f2, f3, f4⟩ := fill_rows I ps (rows.set i cs) q' cells1 K' hq (by rw [e3, hn]; simp) hK (fun k hk => hks k (List.mem_append_right _ hk)) hset
                  exact ⟨cells', by simp only [List.map_cons]; rw [e1]; exact f1, f2, by rw [f3]; simp, f4.trans e3⟩

theorem run_buildSlice (t el : TypeId) (n : Nat) (i : TypeInfo) (z : Value) (size M : Nat) (hu : P.underlying t = some (.slice el)) (hi : P.info? el = some i) (hsz : i.size = size) (hz : i.zero = some z) (hM : n * size = M) (hle : M ≤ 16777216)
    (parts : Array (Nat × Value)) (cells' : Array Value) (hf : Instr.fill (fun i => some (i * size, size)) (madeCells z.cells M) parts.toList = some cells') :
    (Instr.buildSlice t n parts).run P w = .ok (.slice (some ⟨w.heap.size, 0, none⟩) n n) (w.alloc (.cells cells' el)) := by
  subst hsz
  have hbig : ¬ (16777216 < M) := by omega
  unfold Instr.buildSlice
  by_cases h0 : M = 0
  · subst h0
    have hm : madeCells z.cells 0 = #[] := by simp [madeCells]
    rw [hm] at hf
    have hr0 : Array.map (fun _ : Nat => (default : Value)) (Array.range 0) = #[] := by simp
    simp only [Sem.run_bind, run_underlying hu, Result.andThen_ok, Go.sizeOf, typeInfo]
    simp [hi, newRow, hM, hr0, hf]
  · unfold madeCells at hf
    simp [run_underlying hu, Go.sizeOf, typeInfo, hi, hM, hbig, h0, zeroValue, hz, hf, newRow]

theorem good_buildSlice (hT : TabOk P E.T) (I : Inv B Own w0 G K s a w) {o : Oper} (hd : ∀ t', o.dst = some t' → t' < a.tmps.size) {t n : Nat} {ps : Array (Nat × Operand)} (ho : o.op = .buildSlice t n ps) {e : Eff}
    (h : (eop E N call s.slot o.dst o.type (.buildSlice t n ps)).get s.obj = some e) : Good P B Own w0 s a w o e := by
  simp only [eop] at h
  split at h
  · rename_i el sz by_ ze hti
    split at h
    · rename_i te hte
      cases hb : leN (n * te.size) 1000 with
      | false => simp only [hb, cond_false, Rd.get_fail] at h; cases h
      | true =>
        have hle : n * te.size ≤ 1000 := leN_le hb
        simp only [hb, cond_true, Rd.get_bind] at h
        cases hq : (rowParts s.slot te.size (List.replicate n te.zero) ps.toList).get s.obj with
        | none => simp [hq] at h
        | some q =>
          cases hus : (frzAll q.2).get s.obj with
          | none => simp [hq, hus] at h
          | some us =>
            cases hna : (newArr o.dst te.size q.1).get s.obj with
            | none => simp [hq, hus, hna] at h
            | some f =>
              simp [hq, hus, hna] at h
              subst h
              obtain ⟨t0, hdst, hf, rfl⟩ := get_newArr hna
              have hu : P.underlying t = some (.slice el) := (hT _ _ hti).kd
              have hok := hT _ _ hte
              obtain ⟨i, z, h1, h2, h3, h4, h5, h6, h7⟩ := hok.info
              obtain ⟨K', I1, k1, k2, k3, k4, k5⟩ := freeze_spec I q.2 us hus
              obtain ⟨cells', f1, f2, f3, f4⟩ := fill_rows I ps.toList _ q (madeCells z.cells (n * te.size)) K' hq (by simp [madeCells]) k1 k3 (madeRows h6 h5 h7 n)
              have hql : q.1.length = n := by rw [f3]; simp
              have hcl : cells'.size = n * te.size := by rw [f4]; simp [madeCells]
              have hnl : n ≤ 1000 := Nat.le_trans (Nat.le_mul_of_pos_right _ hok.pos) hle
              have hown := World.ownsRow_lit (base := 0) (e := el) (size := te.size) w cells' n (Nat.zero_le _) (by simp only [maxLen]; omega) hcl
              have hrun : (execOp a.eval o).run P w = .ok (.value (.slice (some ⟨w.heap.size, 0, none⟩) n n)) (w.alloc (.cells cells' el)) := by
                have := run_buildSlice (P := P) (w := w) t el n i z te.size (n * te.size) hu h1 h2 h4 rfl (by omega) (ps.map fun p => (p.1, a.eval p.2)) cells' (by simpa using f1)
                unfold execOp
                simp only [ho]
                rw [Sem.run_bind, this]
                rfl
              have hf1 : (St.mk s.fr (us ++ s.ob)).obj t0 = none := k5 t0 hf
              obtain ⟨G', hG⟩ := I1.newArr (hd t0 hdst) hf1 te.size q.1 _ el _ (Grew.alloc w _) (by rw [hql]; exact hown) (fun b hb => by simp [blk] at hb; omega) f2 rfl
              exact good_value hrun (by rw [hdst]; exact hG)
    · simp at h
  · simp at h
end
end Am

