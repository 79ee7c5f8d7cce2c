/-
  A computable evaluator of loaded code over values, and that what it answers is what the code does: this text proves no law of the program; it holds without conditions.
  By an AI agent. No person has read it.
-/
import Derived.Test.YtkcbdopbapogfaaGreatA3
import Derived.LoopN
import Derived.Laws.Sem
set_option linter.all false
namespace Am
open Go
variable [RowOps] [LoopOps]
open RowOps LoopOps

/-! the reader looks only where its log says -/
theorem Rd.run_sub {α : Type} {look : Nat → Option Ob} (m : Rd α) : ∀ (l : List Nat) (a : α) (l' : List Nat), m.run look l = some (a, l') → ∀ k ∈ l, k ∈ l' := by
  induction m with
  | ret a => intro l b l' h; simp only [Rd.run, Option.some.injEq, Prod.mk.injEq] at h; rw [← h.2]; exact fun _ h => h
  | look k f ih => intro l b l' h k' hk; exact ih _ _ _ _ h k' (List.mem_cons_of_mem _ hk)
  | fail => intro l b l' h; simp [Rd.run] at h
theorem Rd.run_local {α : Type} {look look' : Nat → Option Ob} (m : Rd α) : ∀ (l : List Nat) (a : α) (l' : List Nat), m.run look l = some (a, l') → (∀ k ∈ l', look' k = look k) → m.run look' l = some (a, l') := by
  induction m with
  | ret a => intro l b l' h _; exact h
  | look k f ih =>
    intro l b l' h hk
    have h' : (f (look k)).run look (k :: l) = some (b, l') := h
    have : k ∈ l' := Rd.run_sub _ _ _ _ h' k (by simp)
    show (f (look' k)).run look' (k :: l) = some (b, l')
    rw [hk k this]
    exact ih _ _ _ _ h' hk
  | fail => intro l b l' h; simp [Rd.run] at h

theorem opnd_congr {sl sl' : Nat → Option W} {x : Operand} (h : ∀ t, x = .tmp t → sl t = sl' t) : opnd sl x = opnd sl' x := by
  cases x with
  | tmp t => exact h t rfl
  | _ => rfl
theorem opnds_congr {sl sl' : Nat → Option W} : ∀ {xs : List Operand}, (∀ t, .tmp t ∈ xs → sl t = sl' t) → opnds sl xs = opnds sl' xs
  | [], _ => rfl
  | x :: r, h => by
    simp only [opnds, opnd_congr (x := x) fun t e => h t (by simp [e]), opnds_congr (xs := r) fun t e => h t (by simp [e])]
theorem partsOf_congr {sl sl' : Nat → Option W} {offs : List (Nat × Nat)} : ∀ {xs : List (Nat × Operand)}, (∀ t, .tmp t ∈ xs.map (·.2) → sl t = sl' t) → partsOf sl offs xs = partsOf sl' offs xs
  | [], _ => rfl
  | (i, x) :: r, h => by
    simp only [partsOf, opnd_congr (x := x) fun t e => h t (by simp [e]), partsOf_congr (xs := r) fun t e => h t (by simp at e; simp [e])]
theorem rowParts_congr {sl sl' : Nat → Option W} {e : Nat} : ∀ {xs : List (Nat × Operand)} {rows : List (List C)}, (∀ t, .tmp t ∈ xs.map (·.2) → sl t = sl' t) → rowParts sl e rows xs = rowParts sl' e rows xs
  | [], _, _ => rfl
  | (i, x) :: r, rows, h => by
    have := fun rows => rowParts_congr (e := e) (xs := r) (rows := rows) (fun t e => h t (by simp at e; simp [e]))
    simp only [rowParts, opnd_congr (x := x) fun t e => h t (by simp [e]), this]

theorem eop_congr {E : Cfg} {N : Ar} {call : Orc} {sl sl' : Nat → Option W} {d : Option Nat} {ty : Nat} (o : Op) (h : ∀ t, .tmp t ∈ o.operands → sl t = sl' t) :
    eop E N call sl d ty o = eop E N call sl' d ty o := by
  have hx : ∀ x, x ∈ o.operands → opnd sl x = opnd sl' x := fun x hx => opnd_congr fun t e => h t (e ▸ hx)
  cases o with
  | move x => simp only [eop, hx x (by simp [Op.operands])]
  | assign x => simp only [eop, hx x (by simp [Op.operands])]
  | pick c x y => simp only [eop, hx x (by simp [Op.operands]), hx y (by simp [Op.operands]), hx c (by simp [Op.operands])]
  | alloc t => rfl
  | box t x => simp only [eop, hx x (by simp [Op.operands])]
  | build t ps => simp only [eop, partsOf_congr (xs := ps.toList) fun t ht => h t (by simpa [Op.operands] using ht)]
  | buildSlice t n ps =>
    have := fun e rows => rowParts_congr (sl := sl) (sl' := sl') (e := e) (rows := rows) (xs := ps.toList) fun t ht => h t (by simpa [Op.operands] using ht)
    simp only [eop, this]
  | load t x => simp only [eop, hx x (by simp [Op.operands])]
  | store t x y => simp only [eop, hx x (by simp [Op.operands]), hx y (by simp [Op.operands])]
  | nilCheck x => simp only [eop, hx x (by simp [Op.operands])]
  | binOp op ty x y ty' => simp only [eop, hx x (by simp [Op.operands]), hx y (by simp [Op.operands])]
  | unOp op ty x => simp only [eop, hx x (by simp [Op.operands])]
  | fieldAddr t x f => simp only [eop, hx x (by simp [Op.operands])]
  | indexAddr t x i => simp only [eop, hx x (by simp [Op.operands]), hx i (by simp [Op.operands])]
  | extract x i => simp only [eop, hx x (by simp [Op.operands])]
  | index t x i => simp only [eop, hx x (by simp [Op.operands]), hx i (by simp [Op.operands])]
  | field t x f => simp only [eop, hx x (by simp [Op.operands])]
  | convert src dst x => simp only [eop, hx x (by simp [Op.operands])]
  | slice t x lo hi mx =>
    have h1 : lowB sl lo = lowB sl' lo := by cases lo with | none => rfl | some y => simp only [lowB, hx y (by simp [Op.operands])]
    have h2 : highB sl hi = highB sl' hi := by cases hi with | none => rfl | some y => simp only [highB, hx y (by simp [Op.operands])]
    simp only [eop, hx x (by simp [Op.operands]), h1, h2]
  | makeSlice t n m => simp only [eop, hx n (by simp [Op.operands]), hx m (by simp [Op.operands])]
  | makeFunc fn first caps =>
    have := opnds_congr (sl := sl) (sl' := sl') (xs := caps.toList) fun t ht => h t (by simp at ht; simp [Op.operands, ht])
    cases fn <;> simp only [eop, this]
  | call c =>
    have := opnds_congr (sl := sl) (sl' := sl') (xs := c.args.toList) fun t ht => h t (by simp at ht; simp [Op.operands, Call.operands, ht])
    simp only [eop, this]
    cases hc : c.callee with
    | value f => simp only [hx f (by simp [Op.operands, Call.operands, hc])]
    | _ => rfl
  | _ => rfl

section
variable {P : Program} {E : Cfg} {N : Ar} {call : Orc} {B : Nat} {Own : Nat → Prop} {w0 : Base} {G : Gh} {K : Nat → Prop} {s : St} {a : Act} {w : World} {all : Array Oper}

/-- one operation's effect, with its log -/
def stepE (E : Cfg) (N : Ar) (call : Orc) (all : Array Oper) (s : St) (o : Oper) : Option (Eff × List Nat) :=
  match wantedA all s.slot o with
  | some t => bif t then (eop E N call s.slot o.dst o.type o.op).run s.obj [] else some (⟨some (.tup []), []⟩, [])
  | none => none

theorem rw_undef {ob : Nat → Option Ob} : RW G ob w K (.tup []) undef := .tup rfl fun j c v h => by simp at h
theorem wantedA_spec (I : Inv B Own w0 G K s a w) {o : Oper} {t : Bool} (h : wantedA all s.slot o = some t) : Region.wanted o (yielded all a.tmps) = t := by
  unfold wantedA at h
  unfold Region.wanted
  cases hg : o.guard with
  | none => simp [hg] at h; simp [h]
  | some p =>
    obtain ⟨g, b⟩ := p
    simp only [hg] at h
    simp only
    unfold yielded
    split at h
    · rename_i t' ht'
      rw [ht']
      split at h
      · rename_i x hx
        obtain ⟨v, hv, hr⟩ := I.fr t' _ hx
        have := rw_sc hr
        simp only [Option.some.injEq] at h
        simp only [Option.bind_some, hv, this]
        subst h
        cases x <;> cases b <;> rfl
      · rename_i hx
        obtain ⟨v, hv, hr⟩ := I.fr t' _ hx
        simp only [Option.some.injEq] at h
        subst h
        cases hr with
        | tup hl _ =>
          rw [Option.bind_some, hv]
          rfl
      · cases h
    · cases h

theorem wpOp_step (H : Env P E N call) (I : Inv B Own w0 G K s a w) {o : Oper} {i : Nat} (ho : all[i]? = some o) (hd : ∀ t', o.dst = some t' → t' < a.tmps.size) {e : Eff} {l : List Nat}
    (h : stepE E N call all s o = some (e, l)) {next : Act → World → Prop} {Q : Exit → Act → World → Prop}
    (hn : ∀ a' w' G' K', a'.tmps.size = a.tmps.size → Inv B Own w0 G' K' (s.apply o.dst e) a' w' → next a' w') : wpOp P all Q i next a w := by
  unfold stepE at h
  split at h
  · rename_i t ht
    have hw := wantedA_spec I ht
    unfold wpOp
    rw [ho]
    simp only [hw]
    cases t with
    | true =>
      simp only [cond_true] at h
      simp only [if_true]
      exact .inl (good_op H I hd (Rd.run_get _ _ _ _ _ h) next Q hn)
    | false =>
      simp at h
      obtain ⟨rfl, rfl⟩ := h
      exact hn _ _ _ _ (put_size _ _ _) (I.put hd rw_undef)
  · cases h

theorem stepE_congr {s s' : St} (h1 : s'.slot = s.slot) (h2 : s'.obj = s.obj) (o : Oper) : stepE E N call all s' o = stepE E N call all s o := by
  unfold stepE; rw [h1, h2]

theorem wantedA_congr {sl sl' : Nat → Option W} {o : Oper} (h : ∀ t ∈ o.looksAt all, sl t = sl' t) : wantedA all sl o = wantedA all sl' o := by
  unfold wantedA
  cases hg : o.guard with
  | none => rfl
  | some p =>
    obtain ⟨g, b⟩ := p
    simp only
    cases ht : (all[g]?).bind (·.dst) with
    | none => rfl
    | some t =>
      simp only
      rw [h t (by simp [Oper.looksAt, hg, ht])]

theorem stepE_local {s s' : St} {o : Oper} {e : Eff} {l : List Nat} (h : stepE E N call all s o = some (e, l)) (h1 : ∀ t ∈ o.looksAt all, s'.slot t = s.slot t) (h2 : ∀ k ∈ l, s'.obj k = s.obj k) :
    stepE E N call all s' o = some (e, l) := by
  unfold stepE at *
  rw [wantedA_congr h1]
  split at h
  · rename_i t ht
    cases t with
    | false => exact h
    | true =>
      simp only [cond_true] at h ⊢
      rw [eop_congr o.op fun t ht => h1 t (List.mem_append_left _ (List.mem_filterMap.2 ⟨.tmp t, by simpa using ht, rfl⟩))]
      exact Rd.run_local _ _ _ _ h h2
  · cases h

/-! the trace of a region -/
structure Rec where
  i : Nat
  o : Oper
  e : Eff
  l : List Nat

def keysE (e : Eff) : List Nat := e.upd.map (·.1)

def Apart (all : Array Oper) (x y : Rec) : Prop :=
  (∀ d, x.o.dst = some d → d ∉ y.o.looksAt all) ∧ (∀ d, x.o.dst = some d → y.o.dst ≠ some d) ∧ (∀ d, y.o.dst = some d → d ∉ x.o.looksAt all) ∧
  (∀ k ∈ keysE x.e, k ∉ y.l) ∧ (∀ k ∈ keysE x.e, k ∉ keysE y.e) ∧ (∀ k ∈ keysE y.e, k ∉ x.l)

def Trace (E : Cfg) (N : Ar) (call : Orc) (all : Array Oper) : List Rec → St → St → Prop
  | [], s, s' => s'.slot = s.slot ∧ s'.obj = s.obj
  | r :: rs, s, s' => stepE E N call all s r.o = some (r.e, r.l) ∧ Trace E N call all rs (s.apply r.o.dst r.e) s'

theorem apply_congr {s s' : St} (h1 : s'.slot = s.slot) (h2 : s'.obj = s.obj) (d : Option Nat) (e : Eff) : (s'.apply d e).slot = (s.apply d e).slot ∧ (s'.apply d e).obj = (s.apply d e).obj := by
  refine ⟨funext fun t => ?_, funext fun k => ?_⟩
  · rw [slot_apply, slot_apply, h1]
  · rw [obj_apply, obj_apply, h2]

theorem Trace.congr {s s1 s' : St} (h1 : s1.slot = s.slot) (h2 : s1.obj = s.obj) : ∀ {rs : List Rec}, Trace E N call all rs s s' → Trace E N call all rs s1 s'
  | [], h => ⟨h.1.trans h1.symm, h.2.trans h2.symm⟩
  | r :: rs, h => by
    refine ⟨(stepE_congr h1 h2 _).trans h.1, ?_⟩
    have := apply_congr h1 h2 r.o.dst r.e
    exact Trace.congr this.1 this.2 h.2
termination_by rs => rs.length

theorem find_none_of {α : Type} {k : Nat} : ∀ {us : List (Nat × α)}, k ∉ us.map (·.1) → find k us = none
  | [], _ => rfl
  | (j, x) :: r, h => by
    simp at h
    have : eqN j k = false := by rw [Bool.eq_false_iff]; exact fun hb => h.1 (beq_eq hb).symm
    simp only [find, this, cond_false]
    exact find_none_of (by simpa using h.2)

theorem find_mem_of {α : Type} {k : Nat} {x : α} : ∀ {us : List (Nat × α)}, find k us = some x → k ∈ us.map (·.1)
  | [], h => by cases h
  | (j, y) :: r, h => by
    simp only [find] at h
    cases hb : eqN j k with
    | true => simp [beq_eq hb]
    | false => simp only [hb, cond_false] at h; have := find_mem_of h; simp at this; simp [this]

theorem apply_slot_ne {s : St} {d : Option Nat} {e : Eff} {t : Nat} (h : ∀ t', d = some t' → t' ≠ t) : (s.apply d e).slot t = s.slot t := by
  rw [slot_apply]
  cases d with
  | none => rfl
  | some t' => simp [h t' rfl]
theorem apply_obj_ne {s : St} {d : Option Nat} {e : Eff} {k : Nat} (h : k ∉ keysE e) : (s.apply d e).obj k = s.obj k := by
  rw [obj_apply, find_none_of h]; simp

theorem apply_comm (s : St) {x y : Rec} (h : Apart all x y) :
    ((s.apply x.o.dst x.e).apply y.o.dst y.e).slot = ((s.apply y.o.dst y.e).apply x.o.dst x.e).slot ∧ ((s.apply x.o.dst x.e).apply y.o.dst y.e).obj = ((s.apply y.o.dst y.e).apply x.o.dst x.e).obj := by
  obtain ⟨_, h2, _, _, h5, _⟩ := h
  refine ⟨funext fun t => ?_, funext fun k => ?_⟩
  · simp only [slot_apply]
    cases hx : x.o.dst with
    | none => rfl
    | some d =>
      cases hy : y.o.dst with
      | none => rfl
      | some d' =>
        have hne : d' ≠ d := fun e => h2 d hx (by rw [hy, e])
        simp only
        by_cases e1 : d' = t
        · by_cases e2 : d = t
          · exact absurd (e1.trans e2.symm) hne
          · simp [e1, e2]
        · simp [e1]
  · simp only [obj_apply]
    cases hx : find k x.e.upd with
    | none => simp
    | some u =>
      have : find k y.e.upd = none := find_none_of (h5 k (find_mem_of hx))
      simp [this]

theorem Trace.front {s' : St} {r : Rec} {post : List Rec} : ∀ {pre : List Rec} {s : St}, Trace E N call all (pre ++ r :: post) s s' → (∀ x ∈ pre, Apart all x r) →
    stepE E N call all s r.o = some (r.e, r.l) ∧ Trace E N call all (pre ++ post) (s.apply r.o.dst r.e) s'
  | [], s, h, _ => h
  | x :: pre, s, h, hap => by
    obtain ⟨hx, h⟩ := h
    obtain ⟨h1, h2⟩ := Trace.front h (fun y hy => hap y (by simp [hy]))
    have ha := hap x (by simp)
    obtain ⟨a1, a2, a3, a4, a5, a6⟩ := id ha
    have hr : stepE E N call all s r.o = some (r.e, r.l) := stepE_local h1 (fun t ht => (apply_slot_ne fun t' h e => a1 t' h (e ▸ ht)).symm) (fun k hk => (apply_obj_ne fun h => a4 k h hk).symm)
    refine ⟨hr, ?_, ?_⟩
    · exact stepE_local hx (fun t ht => apply_slot_ne fun t' h e => a3 t' h (e ▸ ht)) (fun k hk => apply_obj_ne fun h => a6 k h hk)
    · have := apply_comm s ha
      exact Trace.congr this.1.symm this.2.symm h2

/-- what the check in a drawn region says -/
def Bound (all : Array Oper) (x y : Rec) : Prop := bindsA y.o x.i = true ∨ bindsT all 16 y.o x.i = true
structure RecsOk (all : Array Oper) (rs : List Rec) : Prop where
  at' : ∀ r ∈ rs, all[r.i]? = some r.o
  sorted : rs.Pairwise fun x y => x.i < y.i
  pair : rs.Pairwise fun x y => Bound all x y ∨ Apart all x y

theorem binds_any (e : Edge) : Region.binds .any e = (match e.ground with | .textOnly _ | .gcOnly _ => false | _ => true) := by
  obtain ⟨on, g⟩ := e
  cases g <;> rfl

theorem RecsOk.remove {pre post : List Rec} {r : Rec} (h : RecsOk all (pre ++ r :: post)) : RecsOk all (pre ++ post) := by
  have hs : (pre ++ post).Sublist (pre ++ r :: post) := List.Sublist.append (List.Sublist.refl _) (List.sublist_cons_self _ _)
  exact ⟨fun x hx => h.at' x (hs.subset hx), h.sorted.sublist hs, h.pair.sublist hs⟩

/-- what is listed has its bounds listed -/
def Closed (all : Array Oper) (listed : Array Bool) : Prop := ∀ (k : Nat) (o : Oper), all[k]? = some o → listed.getD k false = true → ∀ e ∈ o.after, Region.binds .any e = true → listed.getD e.on false = true

theorem bindsT_listed {listed : Array Bool} (hcl : Closed all listed) {j : Nat} : ∀ (n : Nat) (o : Oper), (∀ e ∈ o.after, Region.binds .any e = true → listed.getD e.on false = true) → bindsT all n o j = true → listed.getD j false = true
  | 0, _, _, h => by simp [bindsT] at h
  | n + 1, o, ho, h => by
    unfold bindsT at h
    obtain ⟨e, he, h⟩ := List.any_eq_true.1 h
    simp only [Bool.and_eq_true, Bool.or_eq_true] at h
    have hl := ho e (by simpa using he) (by rw [binds_any]; exact h.1)
    rcases h.2 with h | ⟨_, h⟩
    · rw [beq_eq h] at hl; exact hl
    · split at h
      · rename_i o' ho'
        exact bindsT_listed hcl n o' (hcl _ _ ho' hl) h
      · cases h

/-- edges run backwards, and the slots are there -/
def opsOk (n : Nat) (all : Array Oper) : Prop := ∀ (i : Nat) (o : Oper), all[i]? = some o → (∀ t', o.dst = some t' → t' < n) ∧ ∀ e ∈ o.after, Region.binds .any e = true → e.on < i

theorem wpAny_trace (H : Env P E N call) {n : Nat} (hok : opsOk n all) {Q : Exit → Act → World → Prop} : ∀ (fuel : Nat) (rs : List Rec) (listed : Array Bool) (s s' : St) (G : Gh) (K : Nat → Prop) (a : Act) (w : World),
    rs.length ≤ fuel → listed.size = all.size → Closed all listed → RecsOk all rs → (∀ i, i < all.size → (listed.getD i true = false ↔ ∃ r ∈ rs, r.i = i)) → Trace E N call all rs s s' → a.tmps.size = n → Inv B Own w0 G K s a w →
    (∀ a' w' G' K', a'.tmps.size = n → Inv B Own w0 G' K' s' a' w' → Q .normal a' w') → wpAny P .any all Q fuel listed a w := by
  intro fuel
  induction fuel with
  | zero =>
    intro rs listed s s' G K a w hlen hsz _ _ hun htr hn I hq
    have : rs = [] := by cases rs <;> simp_all
    subst this
    refine ⟨?_, hq _ _ _ _ hn (I.congr (fun t => by rw [htr.1]) (fun k => by rw [htr.2]))⟩
    cases hr : Region.ready .any all listed with
    | nil => rfl
    | cons j js =>
      obtain ⟨h1, o, h2, _⟩ := (mem_ready (md := .any) (ops := all) (j := j) (listed := listed)).1 (by rw [hr]; simp)
      obtain ⟨r, hr, _⟩ := (hun j (Array.getElem?_eq_some_iff.1 h2).1).1 h1
      simp at hr
  | succ fuel ih =>
    intro rs listed s s' G K a w hlen hsz hcl hrs hun htr hn I hq
    refine ⟨fun hnil => ?_, fun i hi => ?_⟩
    · cases rs with
      | nil => exact hq _ _ _ _ hn (I.congr (fun t => by rw [htr.1]) (fun k => by rw [htr.2]))
      | cons r rs =>
        exfalso
        have hr := hrs.at' r (by simp)
        have hlt := (Array.getElem?_eq_some_iff.1 hr).1
        have : r.i ∈ Region.ready .any all listed := by
          refine mem_ready.2 ⟨(hun r.i hlt).2 ⟨r, by simp, rfl⟩, r.o, hr, fun e he hbd => ?_⟩
          have hlt2 := (hok _ _ hr).2 e he hbd
          cases hl : listed.getD e.on false with
          | true => rfl
          | false =>
            have : listed.getD e.on true = false := by
              have : e.on < listed.size := by rw [hsz]; omega
              simp [this] at hl ⊢; exact hl
            obtain ⟨r', hr', hri⟩ := (hun e.on (by omega)).1 this
            simp at hr'
            rcases hr' with rfl | hr'
            · omega
            · have := (List.pairwise_cons.1 hrs.sorted).1 r' hr'; omega
        rw [hnil] at this; cases this
    · obtain ⟨h1, o, ho, hall⟩ := mem_ready.1 hi
      have hlt := (Array.getElem?_eq_some_iff.1 ho).1
      obtain ⟨r, hr, rfl⟩ := (hun i hlt).1 h1
      obtain ⟨pre, post, rfl⟩ := List.append_of_mem hr
      have hor : o = r.o := by have := hrs.at' r hr; rw [ho] at this; cases this; rfl
      subst hor
      have hap : ∀ x ∈ pre, Apart all x r := fun x hx => by
        rcases (List.pairwise_append.1 hrs.pair).2.2 x hx r (by simp) with hb | h
        · exfalso
          have : listed.getD x.i false = true := by
            rcases hb with hb | hb
            · unfold bindsA at hb
              obtain ⟨e, he, hb⟩ := List.any_eq_true.1 hb
              simp only [Bool.and_eq_true] at hb
              have he' : e ∈ r.o.after := by simpa using he
              have hon := beq_eq hb.1
              have := hall e he' (by rw [binds_any]; exact hb.2)
              rw [hon] at this
              exact this
            · exact bindsT_listed hcl 16 _ hall hb
          have hx1 := hrs.at' x (by simp [hx])
          have hx2 := (Array.getElem?_eq_some_iff.1 hx1).1
          have hx3 := (hun x.i hx2).2 ⟨x, by simp [hx], rfl⟩
          have : x.i < listed.size := by rw [hsz]; exact hx2
          simp [this] at hx3
          simp_all
        · exact h
      obtain ⟨hst, htr'⟩ := Trace.front htr hap
      refine wpOp_step H I ho (fun t' h => by rw [hn]; exact (hok _ _ ho).1 t' h) hst fun a' w' G' K' hs I' => ?_
      refine ih (pre ++ post) _ _ s' G' K' a' w' (by simp at hlen ⊢; omega) (by simp [hsz]) (fun k o' hk hl e he hbd => by
        by_cases e1 : r.i = k
        · subst e1
          rw [ho] at hk; cases hk
          exact getD_set_true (hall e he hbd)
        · rw [getD_set_ne false e1] at hl
          exact getD_set_true (hcl k o' hk hl e he hbd)) hrs.remove (fun j hj => ?_) htr' (hs.trans hn) I' hq
      have hsplit := List.pairwise_append.1 hrs.sorted
      by_cases hji : r.i = j
      · subst hji
        have hl : r.i < listed.size := by rw [hsz]; exact hlt
        constructor
        · intro h; simp [hl] at h
        · rintro ⟨x, hx, hxi⟩
          exfalso
          simp at hx
          rcases hx with hx | hx
          · have := hsplit.2.2 x hx r (by simp); omega
          · have := (List.pairwise_cons.1 hsplit.2.1).1 x hx; omega
      · rw [getD_set_ne true hji, hun j hj]
        constructor
        · rintro ⟨x, hx, rfl⟩
          simp at hx
          rcases hx with hx | rfl | hx
          · exact ⟨x, by simp [hx], rfl⟩
          · exact absurd rfl hji
          · exact ⟨x, by simp [hx], rfl⟩
        · rintro ⟨x, hx, rfl⟩
          simp at hx
          exact ⟨x, by simp; rcases hx with hx | hx <;> simp [hx], rfl⟩
end
end Am

namespace Am
open Go
variable [RowOps] [LoopOps]
open RowOps LoopOps

section
variable {P : Program} {E : Cfg} {N : Ar} {call : Orc} {B : Nat} {Own : Nat → Prop} {w0 : Base} {all : Array Oper}

theorem step_list (H : Env P E N call) {G : Gh} {K : Nat → Prop} {s : St} {a : Act} {w : World} (I : Inv B Own w0 G K s a w) {o : Oper} (hd : ∀ t', o.dst = some t' → t' < a.tmps.size) {e : Eff} {l : List Nat}
    (h : stepE E N call all s o = some (e, l)) {next : Act → World → Prop} {Q : Exit → Act → World → Prop}
    (hn : ∀ a' w' G' K', a'.tmps.size = a.tmps.size → Inv B Own w0 G' K' (s.apply o.dst e) a' w' → next a' w') :
    if Region.wanted o (yielded all a.tmps) then o.wp P a w next Q ∨ (o.asks P a w ∧ LetsOut Q) else next (a.put o.dst undef) w := by
  unfold stepE at h
  split at h
  · rename_i t ht
    have hw := wantedA_spec I ht
    simp only [hw]
    cases t with
    | true =>
      simp only [cond_true] at h
      simp only [if_true]
      exact .inl (good_op H I hd (Rd.run_get _ _ _ _ _ h) next Q hn)
    | false =>
      simp at h
      obtain ⟨rfl, rfl⟩ := h
      exact hn _ _ _ _ (put_size _ _ _) (I.put hd rw_undef)
  · cases h

theorem runOps_spec (H : Env P E N call) {n : Nat} {ρ : Type} {x : ρ} : ∀ (l : List Oper) (s : St) (C : St → Option ρ), (∀ o ∈ l, ∀ t', o.dst = some t' → t' < n) → runOps E N call all l s C = some x →
    ∃ s', C s' = some x ∧ ∀ (Q : Exit → Act → World → Prop) (a : Act) (w : World) (G : Gh) (K : Nat → Prop), a.tmps.size = n → Inv B Own w0 G K s a w →
      (∀ a' w' G' K', a'.tmps.size = n → Inv B Own w0 G' K' s' a' w' → Q .normal a' w') → wpList P all Q l a w
  | [], s, C, _, h => ⟨s, h, fun Q a w G K hn I hq => hq _ _ _ _ hn I⟩
  | o :: r, s, C, hd, h => by
    simp only [runOps] at h
    have key : ∃ e lg, stepE E N call all s o = some (e, lg) ∧ runOps E N call all r (s.apply o.dst e) C = some x := by
      split at h
      · rename_i t ht
        cases t with
        | true =>
          simp only [cond_true] at h
          split at h
          · rename_i e lg he; exact ⟨e, lg, by simp [stepE, ht, he], h⟩
          · cases h
        | false => exact ⟨⟨some (.tup []), []⟩, [], by simp [stepE, ht], h⟩
      · cases h
    obtain ⟨e, lg, hst, hr⟩ := key
    obtain ⟨s', hs', hw⟩ := runOps_spec H r _ C (fun o' ho' => hd o' (by simp [ho'])) hr
    refine ⟨s', hs', fun Q a w G K hn I hq => ?_⟩
    unfold wpList
    exact step_list H I (fun t' h => by rw [hn]; exact hd o (by simp) t' h) hst fun a' w' G' K' hs I' => hw Q a' w' G' K' (hs.trans hn) I' hq

def Rec.d (r : Rec) : Nat × Oper × List Nat × List Nat := (r.i, r.o, r.l, keysE r.e)

theorem memN_false {k : Nat} {l : List Nat} (h : memN k l = false) : k ∉ l := by
  induction l with
  | nil => simp
  | cons j r ih =>
    simp only [memN] at h
    cases hb : eqN j k with
    | true => simp [hb] at h
    | false =>
      simp only [hb, cond_false] at h
      intro hk
      simp at hk
      rcases hk with rfl | hk
      · simp at hb
      · exact ih h hk

theorem slotsApart_spec {x y : Oper} (h : slotsApart all x y = true) :
    (∀ d, x.dst = some d → d ∉ y.looksAt all) ∧ (∀ d, x.dst = some d → y.dst ≠ some d) ∧ (∀ d, y.dst = some d → d ∉ x.looksAt all) := by
  unfold slotsApart looksA at h
  simp only [Bool.and_eq_true] at h
  obtain ⟨h1, h2⟩ := h
  refine ⟨fun d hd => ?_, fun d hd => ?_, fun d hd => ?_⟩
  · rw [hd] at h1; simp only [Bool.and_eq_true, Bool.not_eq_true'] at h1; exact memN_false h1.1
  · rw [hd] at h1
    simp only [Bool.and_eq_true] at h1
    intro he
    rw [he] at h1
    simp at h1
  · rw [hd] at h2; simp only [Bool.not_eq_true'] at h2; exact memN_false h2

theorem apartFrom_spec {y : Rec} : ∀ (dr : List Rec), apartFrom all y.o y.l (keysE y.e) (dr.map Rec.d) = true → ∀ x ∈ dr, Bound all x y ∨ Apart all x y
  | [], _ => by simp
  | x :: dr, h => by
    simp only [List.map_cons, Rec.d, apartFrom] at h
    have h12 : (bindsA y.o x.i = true ∨ (slotsApart all x.o y.o && apartN (keysE x.e) y.l && apartN (keysE x.e) (keysE y.e) && apartN (keysE y.e) x.l) = true ∨ bindsT all 16 y.o x.i = true) ∧ apartFrom all y.o y.l (keysE y.e) (dr.map Rec.d) = true := by
      split at h
      · rename_i h1; exact ⟨.inl h1, h⟩
      · split at h
        · rename_i h1; exact ⟨.inr (.inl h1), h⟩
        · split at h
          · rename_i h1; exact ⟨.inr (.inr h1), h⟩
          · cases h
    simp only [Bool.and_eq_true] at h12
    obtain ⟨h1, h2⟩ := h12
    intro z hz
    simp at hz
    rcases hz with rfl | hz
    · rcases h1 with h1 | ⟨⟨⟨h1, h3⟩, h4⟩, h5⟩ | h1
      · exact .inl (.inl h1)
      · obtain ⟨a1, a2, a3⟩ := slotsApart_spec h1
        exact .inr ⟨a1, a2, a3, apartN_spec h3, apartN_spec h4, apartN_spec h5⟩
      · exact .inl (.inr h1)
    · exact apartFrom_spec dr h2 z hz

theorem runDraw_spec {ρ : Type} {x : ρ} : ∀ (l : List Oper) (i : Nat) (dr : List Rec) (s : St) (C : St → Option ρ), runDraw E N call all i (dr.map Rec.d) l s C = some x →
    ∃ rs s', C s' = some x ∧ Trace E N call all rs s s' ∧ rs.map (·.o) = l ∧ (∀ (j : Nat) (r : Rec), rs[j]? = some r → r.i = i + j) ∧ rs.Pairwise (fun x y => Bound all x y ∨ Apart all x y) ∧
      ∀ x ∈ dr, ∀ y ∈ rs, Bound all x y ∨ Apart all x y
  | [], i, dr, s, C, h => ⟨[], s, h, ⟨rfl, rfl⟩, rfl, by simp, .nil, by simp⟩
  | o :: l, i, dr, s, C, h => by
    simp only [runDraw] at h
    have key : ∃ e lg, stepE E N call all s o = some (e, lg) ∧ apartFrom all o lg (keysE e) (dr.map Rec.d) = true ∧
        runDraw E N call all (i + 1) ((Rec.mk i o e lg :: dr).map Rec.d) l (s.apply o.dst e) C = some x := by
      split at h
      · rename_i t ht
        cases t with
        | true =>
          simp only [cond_true] at h
          split at h
          · rename_i e lg he
            cases ha : apartFrom all o lg (e.upd.map (·.1)) (dr.map Rec.d) with
            | false => simp [ha] at h
            | true => rw [ha] at h; exact ⟨e, lg, by simp [stepE, ht, he], ha, h⟩
          · cases h
        | false =>
          simp only [cond_false] at h
          cases ha : apartFrom all o [] [] (dr.map Rec.d) with
          | false => simp [ha] at h
          | true => rw [ha] at h; exact ⟨⟨some (.tup []), []⟩, [], by simp [stepE, ht], ha, h⟩
      · cases h
    obtain ⟨e, lg, hst, ha, hr⟩ := key
    obtain ⟨rs, s', h1, h2, h3, h4, h5, h6⟩ := runDraw_spec l (i + 1) (Rec.mk i o e lg :: dr) _ C hr
    refine ⟨Rec.mk i o e lg :: rs, s', h1, ⟨hst, h2⟩, by simp [h3], fun j r hj => ?_, .cons (fun y hy => h6 _ (by simp) y hy) h5, fun x hx y hy => ?_⟩
    · cases j with
      | zero => simp at hj; subst hj; rfl
      | succ j => simp at hj; have := h4 j r hj; omega
    · simp at hy
      rcases hy with rfl | hy
      · exact apartFrom_spec (y := Rec.mk i o e lg) dr ha x hx
      · exact h6 x (by simp [hx]) y hy

theorem Inv.drawn {G : Gh} {K : Nat → Prop} {s : St} {a : Act} {w : World} (I : Inv B Own w0 G K s a w) (n : Nat) : Inv B Own w0 G K s a { w with drawn := n } :=
  I.grow ⟨rfl, rfl, rfl, Nat.le_refl _, fun _ _ => rfl⟩

theorem draw_spec (hm : P.follows .mixedOrders = true) (H : Env P E N call) {n : Nat} (hok : opsOk n all) {ρ : Type} {x : ρ} {s : St} {C : St → Option ρ} (h : runDraw E N call all 0 [] all.toList s C = some x) :
    ∃ s', C s' = some x ∧ ∀ (Q : Exit → Act → World → Prop) (id : Nat) (a : Act) (w : World) (G : Gh) (K : Nat → Prop), a.tmps.size = n → Inv B Own w0 G K s a w →
      (∀ a' w' G' K', a'.tmps.size = n → Inv B Own w0 G' K' s' a' w' → Q .normal a' w') → (Code.region id all true).wp P Q a w := by
  obtain ⟨rs, s', h1, h2, h3, h4, h5, _⟩ := runDraw_spec all.toList 0 [] s C h
  refine ⟨s', h1, fun Q id a w G K hn I hq => wp_region_any hm ?_⟩
  have hlen : rs.length = all.size := by rw [← List.length_map (f := (·.o)), h3]; simp
  have hat : ∀ (j : Nat) (r : Rec), rs[j]? = some r → r.i = j ∧ all[j]? = some r.o := fun j r hj => by
    refine ⟨by have := h4 j r hj; omega, ?_⟩
    have : (rs.map (·.o))[j]? = some r.o := by simp [hj]
    rw [h3] at this; simpa using this
  refine wpAny_trace H hok all.size rs _ s s' G K a _ (by omega) (by simp) (fun k o _ h => by exfalso; simp only [Array.getD_eq_getD_getElem?, Array.getElem?_replicate] at h; split at h <;> cases h) ⟨fun r hr => ?_, ?_, h5⟩ (fun i hi => ?_) h2 hn (I.drawn _) hq
  · obtain ⟨j, hj⟩ := List.getElem?_of_mem hr
    obtain ⟨e1, e2⟩ := hat j r hj
    rw [e1]; exact e2
  · refine List.pairwise_iff_getElem.2 fun i j hi hj hij => ?_
    have e1 := (hat i _ (List.getElem?_eq_getElem hi)).1
    have e2 := (hat j _ (List.getElem?_eq_getElem hj)).1
    omega
  · constructor
    · intro _
      have hi' : i < rs.length := by omega
      exact ⟨rs[i], by simp, (hat i _ (List.getElem?_eq_getElem hi')).1⟩
    · intro _; simp [hi]
end
end Am

namespace Am
open Go
variable [RowOps] [LoopOps]
open RowOps LoopOps

section
variable {B : Nat} {Own : Nat → Prop} {w0 : Base} {G : Gh} {K : Nat → Prop} {s : St} {a : Act} {w : World}

theorem slotsAt_find (s : St) : ∀ (ts : List Nat) (t : Nat) (x : W), find t (slotsAt s ts) = some x → s.slot t = some x
  | [], t, x, h => by simp [slotsAt, find] at h
  | u :: r, t, x, h => by
    simp only [slotsAt] at h
    split at h
    · rename_i y hy
      simp only [find] at h
      cases hb : eqN u t with
      | true => simp only [hb, cond_true, Option.some.injEq] at h; rw [← beq_eq hb, hy, h]
      | false => simp only [hb, cond_false] at h; exact slotsAt_find s r t x h
    · exact slotsAt_find s r t x h
theorem obsAt_find (s : St) : ∀ (ks : List Nat) (k : Nat) (x : Ob), find k (obsAt s ks) = some x → s.obj k = some x
  | [], t, x, h => by simp [obsAt, find] at h
  | u :: r, t, x, h => by
    simp only [obsAt] at h
    split at h
    · rename_i y hy
      simp only [find] at h
      cases hb : eqN u t with
      | true => simp only [hb, cond_true, Option.some.injEq] at h; rw [← beq_eq hb, hy, h]
      | false => simp only [hb, cond_false] at h; exact obsAt_find s r t x h
    · exact obsAt_find s r t x h

theorem okArr_spec {ver : Nat} {o : Option Ob} (h : okArr ver o = true) : ∃ e rows frz, o = some (.arr e rows ver frz) := by
  unfold okArr at h
  split at h
  · rename_i e rows ver' frz; rw [beq_eq h]; exact ⟨e, rows, frz, rfl⟩
  · cases h
theorem okBox_spec {o : Option Ob} (h : okBox o = true) : ∃ cs frz, o = some (.box cs frz) := by
  unfold okBox at h
  split at h
  · rename_i cs frz; exact ⟨cs, frz, rfl⟩
  · cases h

theorem okA_ra {ob : Nat → Option Ob} {l : List (Nat × Ob)} (hs : ∀ k x, find k l = some x → ob k = some x) : ∀ (n : Nat) (c : A) (v : Value), okA l n c = true → RA G ob w K c v → RA G (fun k => find k l) w K c v := by
  intro n
  induction n with
  | zero => intro c v h; simp [okA] at h
  | succ n ih =>
    intro c v h hr
    have key : ∀ {k : Nat} {o o' : Ob}, ob k = some o → find k l = some o' → find k l = some o := fun {k o o'} ho ho' => by
      rw [ho', ← ho, hs k o' ho']
    cases hr with
    | c h => exact .c h
    | nil0 => exact .nil0
    | ref ho h1 hv h2 => obtain ⟨e, rows, frz, h⟩ := okArr_spec (by simpa [okA] using h); exact .ref (key ho h) h1 hv h2
    | loc ho h1 h2 => obtain ⟨cs, frz, h⟩ := okBox_spec (by simpa [okA] using h); exact .loc (key ho h) h1 h2
    | eloc ho h1 hv h2 => obtain ⟨e, rows, frz, h⟩ := okArr_spec (by simpa [okA] using h); exact .eloc (key ho h) h1 hv h2
    | clo hl hr =>
      simp only [okA, List.all_eq_true] at h
      exact .clo hl fun j c v h1 h2 => ih c v (h c (List.mem_of_getElem? h1)) (hr j c v h1 h2)

theorem find_mem_pair {α : Type} {k : Nat} {x : α} : ∀ {us : List (Nat × α)}, find k us = some x → (k, x) ∈ us
  | [], h => by cases h
  | (j, y) :: r, h => by
    simp only [find] at h
    cases hb : eqN j k with
    | true => simp only [hb, cond_true, Option.some.injEq] at h; simp [beq_eq hb, h]
    | false => simp only [hb, cond_false] at h; simp [find_mem_pair h]

theorem closedA_at {l : List (Nat × Ob)} {as : List A} (h : closedA l as = true) {j : Nat} {c : A} (hj : as[j]? = some c) : okA l depth c = true := by
  unfold closedA at h; exact List.all_eq_true.1 h c (List.mem_of_getElem? hj)

/-- what is out of reach is let go -/
theorem Inv.gc (I : Inv B Own w0 G K s a w) {fr : List (Nat × W)} {ob : List (Nat × Ob)} (hio : ∀ k o, ioBase ≤ k → s.obj k = some o → (find k ob).isSome = true) (hf : ∀ t x, find t fr = some x → s.slot t = some x) (ho : ∀ k x, find k ob = some x → s.obj k = some x)
    (hc : closed ⟨fr, ob⟩ = true) : Inv B Own w0 G K ⟨fr, ob⟩ a w := by
  unfold closed at hc
  simp only [Bool.and_eq_true, List.all_eq_true] at hc
  obtain ⟨hcf, hco⟩ := hc
  refine ⟨fun t x hx => ?_, fun k o hk => ?_, fun k k' o o' b hne h1 h2 => I.dis k k' o o' b hne (ho _ _ h1) (ho _ _ h2), fun k o b h1 => I.own k o b (ho _ _ h1), I.Kb, I.sz, I.chg, I.df, I.kb, I.k0, fun k v h => ?_⟩
  · obtain ⟨v, hv, hr⟩ := I.fr t x (hf t x hx)
    refine ⟨v, hv, ?_⟩
    have hcl := hcf _ (find_mem_pair hx)
    simp only at hcl
    show RW G (fun k => find k ob) w K x v
    cases hr with
    | one h => exact .one (okA_ra ho _ _ _ (closedA_at (j := 0) (as := [_]) hcl rfl) h)
    | agg hl h => exact .agg hl fun j c v h1 h2 => okA_ra ho _ _ _ (closedA_at hcl h1) (h j c v h1 h2)
    | tup hl h =>
      refine .tup hl fun j c v h1 h2 => ?_
      simp only [closedW, List.all_eq_true] at hcl
      have hcl := hcl c (List.mem_of_getElem? h1)
      cases h j c v h1 h2 with
      | one h => exact .one (okA_ra ho _ _ _ (closedA_at (j := 0) (as := [_]) hcl rfl) h)
      | agg hl h => exact .agg hl fun j c v h1 h2 => okA_ra ho _ _ _ (closedA_at hcl h1) (h j c v h1 h2)
      | tup hl h => simp at hcl
  · have hro := I.ob k o (ho k o hk)
    have hcl := hco _ (find_mem_pair hk)
    simp only at hcl
    cases o with
    | dead => trivial
    | arr e rows ver frz => exact hro
    | box cells frz =>
      obtain ⟨b, arr, ty, h1, h2, h3, h4, h5⟩ := hro
      exact ⟨b, arr, ty, h1, h2, h3, h4, fun j c x hj hx => okA_ra ho _ _ _ (closedA_at hcl hj) (h5 j c x hj hx)⟩
  · have hg := I.gh k v h
    show RA G (fun k => find k ob) w K (.ref k 0 none) v
    cases hg with
    | @ref _ _ _ _ o hko h1 hv h2 =>
      obtain ⟨o', ho'⟩ := Option.isSome_iff_exists.1 (hio k _ (w0.io k v h) hko)
      have : find k ob = some o := by rw [ho', ← hko, ho k o' ho']
      exact .ref this h1 hv h2

/-! promotion -/
theorem freshIn_spec {ob : List (Nat × Ob)} : ∀ {us : List (Nat × Ob)}, freshIn ob us = true → ∀ u ∈ us, find u.1 ob = none
  | [], _, u, hu => by simp at hu
  | (k, o) :: r, h, u, hu => by
    simp only [freshIn] at h
    split at h
    · rename_i hk
      simp at hu
      rcases hu with rfl | hu
      · exact hk
      · exact freshIn_spec h u hu
    · cases h

def EmptyArr (u : Nat × Ob) : Prop := ∃ e, u.2 = .arr e [] 0 false

theorem RO_empty {G : Gh} {ob : Nat → Option Ob} {k e : Nat} (h : G.val k = .slice none 0 0) : RO G ob w K k (.arr e [] 0 false) := by
  refine ⟨0, [], ?_, fun i row h => by simp at h, fun h => by cases h⟩
  rw [h]
  exact ⟨by simp, .inl ⟨rfl, rfl⟩⟩

theorem Inv.addEmpty (hnd : ∀ x : Nat × Ob, True) : ∀ (us : List (Nat × Ob)) {G : Gh} {s : St}, Inv B Own w0 G K s a w → (∀ u ∈ us, EmptyArr u) → (∀ u ∈ us, s.obj u.1 = none) → nodupN (us.map (·.1)) = true →
    ∃ G', Inv B Own w0 G' K ⟨s.fr, us ++ s.ob⟩ a w ∧ (∀ k, k ∉ us.map (·.1) → G'.val k = G.val k) ∧ (∀ u ∈ us, G'.val u.1 = .slice none 0 0)
  | [], G, s, I, _, _, _ => ⟨G, I, fun _ _ => rfl, by simp⟩
  | (k, o) :: r, G, s, I, he, hf, hn => by
    obtain ⟨hk, hn'⟩ := nodupN_cons (k := k) (r := r.map fun x : Nat × Ob => x.1) hn
    obtain ⟨G', I', h1, h2⟩ := Inv.addEmpty hnd r I (fun u hu => he u (by simp [hu])) (fun u hu => hf u (by simp [hu])) hn'
    obtain ⟨e, heq⟩ := he (k, o) (by simp)
    simp only at heq
    subst heq
    have hfresh : (St.mk s.fr (r ++ s.ob)).obj k = none := by
      show find k (r ++ s.ob) = none
      rw [find_append, find_none_of hk]
      rw [Option.none_or]; exact hf (k, .arr e [] 0 false) (by simp)
    refine ⟨_, I'.addKey hfresh (.arr e [] 0 false) (.slice none 0 0) 0 (RO_empty (by simp)) (fun _ b hb => by simp [blk] at hb), fun j hj => ?_, fun u hu => ?_⟩
    · simp at hj
      simp only [Gh.val_set, hj.1, if_false]
      exact h1 j (by simpa using hj.2)
    · simp at hu
      rcases hu with rfl | hu
      · simp
      · simp only [Gh.val_set]
        split
        · rfl
        · exact h2 u hu

/-- cells before and behind promotion -/
def Prom (G : Gh) (ob : Nat → Option Ob) (c c' : A) : Prop := c' = c ∨ ∃ e k, c = .nil0 e ∧ c' = .ref k 0 none ∧ G.val k = .slice none 0 0 ∧ ob k = some (.arr e [] 0 false)

theorem Prom.ra {ob : Nat → Option Ob} {c c' : A} {v : Value} (h : Prom G ob c c') (hr : RA G ob w K c v) : RA G ob w K c' v := by
  rcases h with rfl | ⟨e, k, rfl, rfl, h1, h2⟩
  · exact hr
  · cases hr
    exact .ref h2 rfl (fun _ _ _ _ h => by cases h; exact Nat.le_refl _) fun _ _ _ h => by cases h; exact h1.symm

def PromW (G : Gh) (ob : Nat → Option Ob) (x x' : W) : Prop := x' = x ∨ ∃ c c', x = .one c ∧ x' = .one c' ∧ Prom G ob c c'
def PromO (G : Gh) (ob : Nat → Option Ob) (o o' : Ob) : Prop := o' = o ∨ ∃ cs cs', o = .box cs false ∧ o' = .box cs' false ∧ cs'.length = cs.length ∧ ∀ (j : Nat) (c c' : A), cs[j]? = some c → cs'[j]? = some c' → Prom G ob c c'

theorem PromO.live {ob : Nat → Option Ob} {o o' : Ob} (h : PromO G ob o o') : o'.live = o.live := by
  rcases h with rfl | ⟨cs, cs', rfl, rfl, _⟩ <;> rfl

theorem Inv.promote (I : Inv B Own w0 G K s a w) {s' : St} (hf : ∀ t x', s'.slot t = some x' → ∃ x, s.slot t = some x ∧ PromW G s.obj x x')
    (ho : ∀ k, (s'.obj k = none ∧ s.obj k = none) ∨ ∃ o o', s'.obj k = some o' ∧ s.obj k = some o ∧ PromO G s.obj o o') : Inv B Own w0 G K s' a w := by
  have ho' : ∀ k o', s'.obj k = some o' → ∃ o, s.obj k = some o ∧ PromO G s.obj o o' := fun k o' h => by
    rcases ho k with ⟨h1, _⟩ | ⟨o1, o2, h1, h2, h3⟩
    · rw [h1] at h; cases h
    · rw [h1] at h; cases h; exact ⟨_, h2, h3⟩
  have hs : ObStep G G s.obj s'.obj := fun k o h => by
    rcases ho k with ⟨_, h2⟩ | ⟨o1, o2, h1, h2, h3⟩
    · rw [h2] at h; cases h
    · rw [h2] at h
      cases h
      refine ⟨o2, h1, fun e rows ver frz he => ?_, fun cells frz he => ?_⟩
      · rcases h3 with rfl | ⟨cs, cs', rfl, rfl, _⟩
        · exact ⟨e, rows, ver, frz, he, Nat.le_refl _, fun _ => ⟨rfl, Nat.le_refl _, rfl⟩⟩
        · cases he
      · rcases h3 with rfl | ⟨cs, cs', rfl, rfl, _⟩
        · exact ⟨cells, frz, he, rfl⟩
        · exact ⟨cs, false, rfl, rfl⟩
  refine ⟨fun t x' hx => ?_, fun k o' hk => ?_, fun k k' o o' b hne h1 h2 hl1 hl2 => ?_, fun k o b h1 hl => ?_, I.Kb, I.sz, I.chg, I.df, I.kb, I.k0, fun k v h => (I.gh k v h).step hs (fun _ _ => rfl) (fun _ h => h)⟩
  · obtain ⟨x, hx0, hp⟩ := hf t x' hx
    obtain ⟨v, hv, hr⟩ := I.fr t x hx0
    refine ⟨v, hv, ?_⟩
    have : RW G s.obj w K x' v := by
      rcases hp with rfl | ⟨c, c', rfl, rfl, hp⟩
      · exact hr
      · cases hr with
        | one h => exact .one (hp.ra h)
    exact this.step hs (fun _ _ => rfl) (fun _ h => h)
  · obtain ⟨o, hk0, hp⟩ := ho' k o' hk
    have : RO G s.obj w K k o' := by
      have hro := I.ob k o hk0
      rcases hp with rfl | ⟨cs, cs', rfl, rfl, hl, hp⟩
      · exact hro
      · obtain ⟨b, arr, ty, h1, h2, h3, h4, h5⟩ := hro
        refine ⟨b, arr, ty, h1, h2, by rw [h3, hl], h4, fun j c x hj hx => ?_⟩
        have hj' : j < cs.length := by rw [← hl]; exact (List.getElem?_eq_some_iff.1 hj).1
        exact (hp j _ c (List.getElem?_eq_getElem hj') hj).ra (h5 j _ x (List.getElem?_eq_getElem hj') hx)
    exact this.step hs (fun _ _ => rfl) (fun _ h => h) rfl rfl (fun _ _ => rfl)
  · obtain ⟨o1, k1, p1⟩ := ho' k o h1
    obtain ⟨o2, k2, p2⟩ := ho' k' o' h2
    exact I.dis k k' o1 o2 b hne k1 k2 (by rw [← p1.live]; exact hl1) (by rw [← p2.live]; exact hl2)
  · obtain ⟨o1, k1, p1⟩ := ho' k o h1
    exact I.own k o1 b k1 (by rw [← p1.live]; exact hl)

theorem find_of_nodup {α : Type} {k : Nat} {x : α} : ∀ {us : List (Nat × α)}, nodupN (us.map (·.1)) = true → (k, x) ∈ us → find k us = some x
  | [], _, h => by simp at h
  | (j, y) :: r, hn, h => by
    obtain ⟨hj, hn'⟩ := nodupN_cons (k := j) (r := r.map fun x : Nat × α => x.1) hn
    simp at h
    rcases h with ⟨rfl, rfl⟩ | h
    · simp [find]
    · have hne : eqN j k = false := by
        rw [Bool.eq_false_iff]; exact fun hb => hj (by rw [beq_eq hb]; exact List.mem_map.2 ⟨_, h, rfl⟩)
      simp only [find, hne, cond_false]
      exact find_of_nodup hn' h

theorem proCells_spec (b : Nat) : ∀ (cs : List A) (j : Nat), (proCells b j cs).1.length = cs.length ∧ (∀ u ∈ (proCells b j cs).2, EmptyArr u) ∧
    ∀ (i : Nat) (c c' : A), cs[i]? = some c → (proCells b j cs).1[i]? = some c' → c' = c ∨ ∃ e k, c = .nil0 e ∧ c' = .ref k 0 none ∧ (k, Ob.arr e [] 0 false) ∈ (proCells b j cs).2
  | [], j => by simp [proCells]
  | c :: r, j => by
    obtain ⟨h1, h2, h3⟩ := proCells_spec b r (j + 1)
    simp only [proCells]
    split
    · rename_i e
      refine ⟨by simp [h1], fun u hu => ?_, fun i c c' hi hi' => ?_⟩
      · simp at hu
        rcases hu with rfl | hu
        · exact ⟨e, rfl⟩
        · exact h2 u hu
      · cases i with
        | zero => simp at hi hi'; subst hi; subst hi'; exact .inr ⟨e, _, rfl, rfl, by simp⟩
        | succ i =>
          simp at hi hi'
          rcases h3 i c c' hi hi' with h | ⟨e', k, h1, h2, h3⟩
          · exact .inl h
          · exact .inr ⟨e', k, h1, h2, by simp [h3]⟩
    · refine ⟨by simp [h1], h2, fun i c c' hi hi' => ?_⟩
      cases i with
      | zero => simp at hi hi'; exact .inl (hi'.symm.trans hi)
      | succ i => simp at hi hi'; exact h3 i c c' hi hi'

theorem proFr_spec : ∀ (fr : List (Nat × W)), (∀ u ∈ (proFr fr).2, EmptyArr u) ∧
    ∀ t x', find t (proFr fr).1 = some x' → ∃ x, find t fr = some x ∧ (x' = x ∨ ∃ e k, x = .one (.nil0 e) ∧ x' = .one (.ref k 0 none) ∧ (k, Ob.arr e [] 0 false) ∈ (proFr fr).2)
  | [] => by simp [proFr, find]
  | (t, x) :: r => by
    obtain ⟨h1, h2⟩ := proFr_spec r
    simp only [proFr]
    split
    · rename_i e
      refine ⟨fun u hu => ?_, fun t' x' h => ?_⟩
      · simp at hu
        rcases hu with rfl | hu
        · exact ⟨e, rfl⟩
        · exact h1 u hu
      · simp only [find] at h ⊢
        cases hb : eqN t t' with
        | true => simp only [hb, cond_true, Option.some.injEq] at h ⊢; subst h; exact ⟨_, rfl, .inr ⟨e, _, rfl, rfl, by simp⟩⟩
        | false =>
          simp only [hb, cond_false] at h ⊢
          obtain ⟨x, hx, h⟩ := h2 t' x' h
          refine ⟨x, hx, ?_⟩
          rcases h with h | ⟨e', k, h3, h4, h5⟩
          · exact .inl h
          · exact .inr ⟨e', k, h3, h4, List.mem_cons_of_mem _ h5⟩
    · refine ⟨h1, fun t' x' h => ?_⟩
      simp only [find] at h ⊢
      cases hb : eqN t t' with
      | true => simp only [hb, cond_true, Option.some.injEq] at h ⊢; exact ⟨_, rfl, .inl h.symm⟩
      | false => simp only [hb, cond_false] at h ⊢; exact h2 t' x' h

theorem proOb_spec : ∀ (ob : List (Nat × Ob)), (∀ u ∈ (proOb ob).2, EmptyArr u) ∧
    ∀ k, (find k (proOb ob).1 = none ∧ find k ob = none) ∨ ∃ o o', find k (proOb ob).1 = some o' ∧ find k ob = some o ∧ (o' = o ∨ ∃ cs cs', o = .box cs false ∧ o' = .box cs' false ∧ cs'.length = cs.length ∧
      ∀ (j : Nat) (c c' : A), cs[j]? = some c → cs'[j]? = some c' → c' = c ∨ ∃ e k, c = .nil0 e ∧ c' = .ref k 0 none ∧ (k, Ob.arr e [] 0 false) ∈ (proOb ob).2)
  | [] => by simp [proOb, find]
  | (t, x) :: r => by
    obtain ⟨h1, h2⟩ := proOb_spec r
    simp only [proOb]
    split
    · rename_i cells
      obtain ⟨p1, p2, p3⟩ := proCells_spec (keyMax * 2000 + t) cells 0
      refine ⟨fun u hu => ?_, fun k => ?_⟩
      · simp at hu
        rcases hu with hu | hu
        · exact p2 u hu
        · exact h1 u hu
      · simp only [find]
        cases hb : eqN t k with
        | true =>
          simp only [cond_true]
          refine .inr ⟨_, _, rfl, rfl, .inr ⟨_, _, rfl, rfl, p1, fun j c c' hj hj' => ?_⟩⟩
          rcases p3 j c c' hj hj' with h | ⟨e', k, h3, h4, h5⟩
          · exact .inl h
          · exact .inr ⟨e', k, h3, h4, by simp [h5]⟩
        | false =>
          simp only [cond_false]
          rcases h2 k with h | ⟨o, o', h3, h4, h⟩
          · exact .inl h
          · refine .inr ⟨o, o', h3, h4, ?_⟩
            rcases h with h | ⟨cs, cs', h5, h6, h7, h⟩
            · exact .inl h
            · refine .inr ⟨cs, cs', h5, h6, h7, fun j c c' hj hj' => ?_⟩
              rcases h j c c' hj hj' with h | ⟨e', k, h3, h4, h5⟩
              · exact .inl h
              · exact .inr ⟨e', k, h3, h4, by simp [h5]⟩
    · refine ⟨h1, fun k => ?_⟩
      simp only [find]
      cases hb : eqN t k with
      | true => exact .inr ⟨_, _, rfl, rfl, .inl rfl⟩
      | false => exact h2 k

theorem ioIn_spec : ∀ (l : List (Nat × Ob)) (k : Nat) (o : Ob), ioBase ≤ k → find k l = some o → k ∈ ioIn l
  | [], k, o, _, h => by simp [find] at h
  | (j, x) :: r, k, o, hk, h => by
    simp only [find] at h
    simp only [ioIn]
    cases hb : eqN j k with
    | true =>
      have := beq_eq hb
      subst this
      have : leN ioBase j = true := by rw [leN_eq]; exact hk
      simp [this]
    | false =>
      simp only [hb, cond_false] at h
      have := ioIn_spec r k o hk h
      cases leN ioBase j <;> simp [this]

theorem keepsIo_spec {ob : List (Nat × Ob)} : ∀ {l : List Nat}, keepsIo ob l = true → ∀ k ∈ l, (find k ob).isSome = true
  | [], _, k, h => by simp at h
  | j :: r, h, k, hk => by
    simp only [keepsIo] at h
    split at h
    · rename_i o ho
      simp at hk
      rcases hk with rfl | hk
      · simp [ho]
      · exact keepsIo_spec h k hk
    · cases h

/-! new names -/
theorem mem_finj : ∀ {mp : List (Nat × Nat)}, nodupN (mp.map (·.2)) = true → ∀ {k j x : Nat}, (k, x) ∈ mp → (j, x) ∈ mp → k = j
  | [], _, k, j, x, h, _ => by simp at h
  | (i, y) :: r, hn, k, j, x, h, h' => by
    obtain ⟨h1, h2⟩ := nodupN_cons (k := y) (r := r.map fun p : Nat × Nat => p.2) hn
    have hx : ∀ {k : Nat}, (k, y) ∈ r → False := fun h => h1 (List.mem_map.2 ⟨_, h, rfl⟩)
    simp at h h'
    rcases h with ⟨rfl, rfl⟩ | h
    · rcases h' with ⟨rfl, _⟩ | h'
      · rfl
      · exact (hx h').elim
    · rcases h' with ⟨rfl, rfl⟩ | h'
      · exact (hx h).elim
      · exact mem_finj h2 h h'

def finv (k' : Nat) : List (Nat × Nat) → Option Nat
  | [] => none
  | (k, x) :: r => if x = k' then some k else finv k' r
theorem finv_mem {k' : Nat} : ∀ {mp : List (Nat × Nat)} {k : Nat}, finv k' mp = some k → (k, k') ∈ mp
  | [], k, h => by cases h
  | (i, y) :: r, k, h => by
    simp only [finv] at h
    split at h
    · rename_i e; cases h; simp [e]
    · simp [finv_mem h]
theorem finv_some {k' k : Nat} : ∀ {mp : List (Nat × Nat)}, (k, k') ∈ mp → ∃ j, finv k' mp = some j
  | [], h => by simp at h
  | (i, y) :: r, h => by
    simp only [finv]
    split
    · exact ⟨i, rfl⟩
    · rename_i hne
      simp at h
      rcases h with ⟨_, rfl⟩ | h
      · exact absurd rfl hne
      · exact finv_some h

/-- the objects under their new names -/
def Gren (G : Gh) (mp : List (Nat × Nat)) : Gh := ⟨fun k' => match finv k' mp with | some k => G.val k | none => undef, fun k' => match finv k' mp with | some k => G.ty k | none => 0⟩

theorem Gren_val {mp : List (Nat × Nat)} (hn : nodupN (mp.map (·.2)) = true) {k k' : Nat} (h : find k mp = some k') : (Gren G mp).val (renOf mp k) = G.val k := by
  have hm := find_mem_pair h
  obtain ⟨j, hj⟩ := finv_some hm
  have := mem_finj hn (finv_mem hj) hm
  subst this
  simp only [Gren, renOf, h, hj]

theorem renOf_inj {mp : List (Nat × Nat)} (hn : nodupN (mp.map (·.2)) = true) {k j k' j' : Nat} (hk : find k mp = some k') (hj : find j mp = some j') (h : renOf mp k = renOf mp j) : k = j := by
  simp only [renOf, hk, hj] at h
  subst h
  exact mem_finj hn (find_mem_pair hk) (find_mem_pair hj)

theorem named_spec {mp : List (Nat × Nat)} : ∀ {ob : List (Nat × Ob)}, named mp ob = true → ∀ k o, (k, o) ∈ ob → ∃ k', find k mp = some k'
  | [], _, k, o, h => by simp at h
  | (j, x) :: r, hn, k, o, h => by
    simp only [named] at hn
    split at hn
    · rename_i k' hk'
      simp at h
      rcases h with ⟨rfl, rfl⟩ | h
      · exact ⟨k', hk'⟩
      · exact named_spec hn k o h
    · cases hn

theorem find_ren {mp : List (Nat × Nat)} (hn : nodupN (mp.map (·.2)) = true) {k k' : Nat} (hk : find k mp = some k') : ∀ {ob : List (Nat × Ob)}, named mp ob = true → find (renOf mp k) (renObs mp ob) = (find k ob).map (renO mp k)
  | [], _ => rfl
  | (j, x) :: r, hnm => by
    obtain ⟨j', hj⟩ := named_spec hnm j x (by simp)
    have hnm' : named mp r = true := by simp only [named, hj] at hnm; exact hnm
    simp only [renObs, find]
    by_cases e : j = k
    · subst e; simp
    · have h1 : eqN j k = false := by rw [Bool.eq_false_iff]; exact fun hb => e (beq_eq hb)
      have h2 : eqN (renOf mp j) (renOf mp k) = false := by rw [Bool.eq_false_iff]; exact fun hb => e (renOf_inj hn hj hk (beq_eq hb))
      simp only [h1, h2, cond_false]
      exact find_ren hn hk hnm'

theorem find_ren_inv {mp : List (Nat × Nat)} (hn : nodupN (mp.map (·.2)) = true) {ob : List (Nat × Ob)} (hnm : named mp ob = true) {k' : Nat} {o' : Ob} (h : find k' (renObs mp ob) = some o') :
    ∃ k o j, k' = renOf mp k ∧ find k mp = some j ∧ find k ob = some o ∧ o' = renO mp k o := by
  have hm := find_mem_pair h
  have : ∀ {ob : List (Nat × Ob)}, (k', o') ∈ renObs mp ob → ∃ k o, (k, o) ∈ ob ∧ k' = renOf mp k := by
    intro ob
    induction ob with
    | nil => intro h; simp [renObs] at h
    | cons p r ih =>
      intro h
      simp [renObs] at h
      rcases h with ⟨h, _⟩ | h
      · exact ⟨p.1, p.2, by simp, h⟩
      · obtain ⟨k, o, h1, h2⟩ := ih h; exact ⟨k, o, by simp [h1], h2⟩
  obtain ⟨k, o, hko, rfl⟩ := this hm
  obtain ⟨j, hj⟩ := named_spec hnm k o hko
  rw [find_ren hn hj hnm] at h
  cases hf : find k ob with
  | none => rw [hf] at h; cases h
  | some o1 => rw [hf] at h; simp at h; exact ⟨k, o1, j, rfl, hj, hf, h.symm⟩

theorem ren_ra {mp : List (Nat × Nat)} (hn : nodupN (mp.map (·.2)) = true) {ob : List (Nat × Ob)} (hnm : named mp ob = true) : ∀ (n : Nat) (c : A) (v : Value), okA ob n c = true → RA G (fun k => find k ob) w K c v →
    RA (Gren G mp) (fun k => find k (renObs mp ob)) w K (renA mp n c) v := by
  intro n
  induction n with
  | zero => intro c v h; simp [okA] at h
  | succ n ih =>
    intro c v h hr
    have key : ∀ {k : Nat} {o : Ob}, find k ob = some o → ∃ j, find k mp = some j ∧ find (renOf mp k) (renObs mp ob) = some (renO mp k o) := fun {k o} ho => by
      obtain ⟨j, hj⟩ := named_spec hnm k o (find_mem_pair ho)
      exact ⟨j, hj, by rw [find_ren hn hj hnm, ho]; rfl⟩
    cases hr with
    | c h => exact .c h
    | nil0 => exact .nil0
    | @ref k ver win _ o ho h1 hv h2 =>
      obtain ⟨e, rows, frz, h⟩ := okArr_spec (by simpa [okA] using h)
      rw [h] at ho; cases ho
      obtain ⟨j, hj, hf⟩ := key h
      refine .ref hf h1 (fun e1 r1 v1 f1 he => ?_) (fun e1 r1 f1 he => ?_)
      · simp [renO] at he; omega
      · simp [renO] at he
        obtain ⟨rfl, rfl, rfl⟩ := he
        rw [Gren_val hn hj]; exact h2 _ _ _ rfl
    | @loc k off _ o ho h1 h2 =>
      obtain ⟨cs, frz, h⟩ := okBox_spec (by simpa [okA] using h)
      rw [h] at ho; cases ho
      obtain ⟨j, hj, hf⟩ := key h
      refine .loc hf h1 (fun c1 f1 he => ?_)
      rw [Gren_val hn hj]; exact h2 _ _ rfl
    | @eloc k ver i off _ o ho h1 hv h2 =>
      obtain ⟨e, rows, frz, h⟩ := okArr_spec (by simpa [okA] using h)
      rw [h] at ho; cases ho
      obtain ⟨j, hj, hf⟩ := key h
      refine .eloc hf h1 (fun e1 r1 v1 f1 he => ?_) (fun e1 r1 f1 he => ?_)
      · simp [renO] at he; omega
      · simp [renO] at he
        obtain ⟨rfl, rfl, rfl⟩ := he
        rw [Gren_val hn hj]; exact h2 _ _ _ rfl
    | clo hl hr =>
      simp only [okA, List.all_eq_true] at h
      refine .clo (by simpa using hl) fun j c v h1 h2 => ?_
      simp at h1
      obtain ⟨c0, hc0, rfl⟩ := h1
      exact ih c0 v (h c0 (List.mem_of_getElem? hc0)) (hr j c0 v hc0 h2)

theorem ren_rw {mp : List (Nat × Nat)} (hn : nodupN (mp.map (·.2)) = true) {ob : List (Nat × Ob)} (hnm : named mp ob = true) {x : W} {v : Value} (hc : closedW ob x = true) (hr : RW G (fun k => find k ob) w K x v) :
    RW (Gren G mp) (fun k => find k (renObs mp ob)) w K (renW mp x) v := by
  have hagg : ∀ (as : List A) (us : Array Value), closedA ob as = true → as.length = us.size → (∀ (j : Nat) (c : A) (v : Value), as[j]? = some c → us[j]? = some v → RA G (fun k => find k ob) w K c v) →
      RW (Gren G mp) (fun k => find k (renObs mp ob)) w K (.agg (as.map (renA mp depth))) (.agg us) := fun as us hc hl hr => by
    refine .agg (by simpa using hl) fun j c v h1 h2 => ?_
    simp at h1
    obtain ⟨c0, hc0, rfl⟩ := h1
    exact ren_ra hn hnm depth c0 v (closedA_at hc hc0) (hr j c0 v hc0 h2)
  cases hr with
  | one h => exact .one (ren_ra hn hnm depth _ _ (closedA_at (j := 0) (as := [_]) hc rfl) h)
  | agg hl h => exact hagg _ _ hc hl h
  | tup hl h =>
    refine .tup (by simpa using hl) fun j c v h1 h2 => ?_
    simp at h1
    obtain ⟨c0, hc0, rfl⟩ := h1
    simp only [closedW, List.all_eq_true] at hc
    have hcl := hc c0 (List.mem_of_getElem? hc0)
    cases h j c0 v hc0 h2 with
    | one h => exact .one (ren_ra hn hnm depth _ _ (closedA_at (j := 0) (as := [_]) hcl rfl) h)
    | agg hl h => exact hagg _ _ hcl hl h
    | tup hl h => simp at hcl

theorem find_renFr {mp : List (Nat × Nat)} : ∀ {fr : List (Nat × W)} {t : Nat} {x' : W}, find t (renFr mp fr) = some x' → ∃ x, find t fr = some x ∧ x' = renW mp x
  | [], t, x', h => by cases h
  | (u, y) :: r, t, x', h => by
    simp only [renFr, find] at h ⊢
    cases hb : eqN u t with
    | true => simp only [hb, cond_true, Option.some.injEq] at h ⊢; exact ⟨y, rfl, h.symm⟩
    | false => simp only [hb, cond_false] at h ⊢; exact find_renFr h

theorem renO_live {mp : List (Nat × Nat)} {k : Nat} {o : Ob} : (renO mp k o).live = o.live := by cases o <;> rfl

theorem Inv.renamed {fr : List (Nat × W)} {ob : List (Nat × Ob)} (I : Inv B Own w0 G K ⟨fr, ob⟩ a w) {mp : List (Nat × Nat)} (hn : nodupN (mp.map (·.2)) = true) (hnm : named mp ob = true) (hc : closed ⟨fr, ob⟩ = true)
    (hio : ∀ k k', find k mp = some k' → ioBase ≤ k → k' = k) : Inv B Own w0 (Gren G mp) K ⟨renFr mp fr, renObs mp ob⟩ a w := by
  unfold closed at hc
  simp only [Bool.and_eq_true, List.all_eq_true] at hc
  obtain ⟨hcf, hco⟩ := hc
  refine ⟨fun t x' hx => ?_, fun k' o' hk => ?_, fun k1 k2 o1 o2 b hne h1 h2 hl1 hl2 hb => ?_, fun k' o' b h1 hl hb => ?_, I.Kb, I.sz, I.chg, I.df, I.kb, I.k0, fun k v h => ?_⟩
  · obtain ⟨x, hx0, rfl⟩ := find_renFr hx
    obtain ⟨v, hv, hr⟩ := I.fr t x hx0
    exact ⟨v, hv, ren_rw hn hnm (hcf _ (find_mem_pair hx0)) hr⟩
  · obtain ⟨k, o, j, rfl, hj, hko, rfl⟩ := find_ren_inv hn hnm hk
    have hro := I.ob k o hko
    have hcl := hco _ (find_mem_pair hko)
    cases o with
    | dead => trivial
    | arr e rows ver frz =>
      obtain ⟨ty, xs, h1, h2, h3⟩ := hro
      exact ⟨ty, xs, by rw [Gren_val hn hj]; exact h1, h2, by rw [Gren_val hn hj]; exact h3⟩
    | box cells frz =>
      obtain ⟨b, arr, ty, h1, h2, h3, h4, h5⟩ := hro
      refine ⟨b, arr, ty, by rw [Gren_val hn hj]; exact h1, h2, by simpa using h3, h4, fun i c x hi hx => ?_⟩
      simp at hi
      obtain ⟨c0, hc0, rfl⟩ := hi
      exact ren_ra hn hnm depth c0 x (closedA_at hcl hc0) (h5 i c0 x hc0 hx)
  · obtain ⟨k, o, j, rfl, hj, hko, rfl⟩ := find_ren_inv hn hnm h1
    obtain ⟨l, p, i, rfl, hi, hlp, rfl⟩ := find_ren_inv hn hnm h2
    rw [renO_live] at hl1 hl2
    rw [Gren_val hn hj] at hb
    rw [Gren_val hn hi]
    exact I.dis k l o p b (fun e => hne (by rw [e])) hko hlp hl1 hl2 hb
  · obtain ⟨k, o, j, rfl, hj, hko, rfl⟩ := find_ren_inv hn hnm h1
    rw [renO_live] at hl
    rw [Gren_val hn hj] at hb
    exact I.own k o b hko hl hb
  · have hg := I.gh k v h
    have hik := w0.io k v h
    cases hg with
    | @ref _ _ _ _ o hko h1 hv h2 =>
      have hko : find k ob = some o := hko
      obtain ⟨j, hj⟩ := named_spec hnm k o (find_mem_pair hko)
      have hjk := hio k j hj hik
      subst hjk
      have hre : renOf mp j = j := by simp [renOf, hj]
      have hrv : ∀ ver, renV j ver = ver := fun ver => by
        have : leN ioBase j = true := by rw [leN_eq]; exact hik
        simp [renV, this]
      have hf := find_ren hn hj hnm
      rw [hre, hko] at hf
      have hgv := Gren_val (G := G) hn hj
      rw [hre] at hgv
      refine .ref (o := renO mp j o) hf h1 (fun e rows ver' frz he => ?_) (fun e rows frz he => ?_)
      · exact Nat.zero_le _
      · rw [hgv]
        cases o with
        | arr e1 r1 v1 f1 =>
          simp [renO, hrv] at he
          obtain ⟨rfl, rfl, rfl, rfl⟩ := he
          exact h2 _ _ _ rfl
        | box _ _ => simp [renO] at he
        | dead => simp [renO] at he

theorem renPairs_io : ∀ (keys : List Nat) (i : Nat) (k k' : Nat), find k (renPairs i keys) = some k' → ioBase ≤ k → k' = k
  | [], _, k, k', h, _ => by cases h
  | j :: r, i, k, k', h, hk => by
    simp only [renPairs, find] at h
    cases hb : eqN j k with
    | true =>
      have := beq_eq hb
      subst this
      have : leN ioBase j = true := by rw [leN_eq]; exact hk
      simp [this] at h
      exact h.symm
    | false => simp only [hb, cond_false] at h; exact renPairs_io r (i + 1) k k' h hk

theorem rename_spec (I : Inv B Own w0 G K s a w) {s' : St} (h : rename s = some s') : ∃ G', Inv B Own w0 G' K s' a w := by
  unfold rename at h
  simp only at h
  generalize hkeys : reach s 4 (addN [] (ioIn s.ob ++ (List.map (fun x => keysW x.2) s.fr).flatten)) = keys at h
  cases hc : (closed ⟨s.fr, obsAt s keys⟩ && (keepsIo (obsAt s keys) (ioIn s.ob) && (nodupN ((renPairs 0 keys).map (·.2)) && named (renPairs 0 keys) (obsAt s keys)))) with
  | false => rw [hc] at h; cases h
  | true =>
    rw [hc] at h
    simp only [cond_true, Option.some.injEq] at h
    simp only [Bool.and_eq_true] at hc
    obtain ⟨h1, h2, h3, h4⟩ := hc
    subst h
    have I1 := I.gc (fr := s.fr) (ob := obsAt s keys) (fun k o hk ho => keepsIo_spec h2 k (ioIn_spec s.ob k o hk ho)) (fun t x h => h) (obsAt_find s keys) h1
    exact ⟨_, I1.renamed h3 h4 h1 (renPairs_io keys 0)⟩

theorem canon_spec (I : Inv B Own w0 G K s a w) {live : List Nat} {s' : St} (h : canon live s = some s') : ∃ G', Inv B Own w0 G' K s' a w := by
  unfold canon at h
  simp only at h
  generalize hfr : slotsAt s live = fr at h
  generalize hob : obsAt s (reach s 4 (addN [] (ioIn s.ob ++ (List.map (fun x => keysW x.2) fr).flatten))) = ob at h
  cases hc0 : (closed ⟨fr, ob⟩ && keepsIo ob (ioIn s.ob)) with
  | false => simp [hc0] at h
  | true =>
    simp only [hc0, cond_true] at h
    simp only [Bool.and_eq_true] at hc0
    obtain ⟨hc, hki⟩ := hc0
    have I1 := I.gc (fr := fr) (ob := ob) (fun k o hk ho => keepsIo_spec hki k (ioIn_spec s.ob k o hk ho)) (hfr ▸ slotsAt_find s live) (hob ▸ obsAt_find s _) hc
    cases hb : (freshIn ob ((proFr fr).2 ++ (proOb ob).2) && nodupN (((proFr fr).2 ++ (proOb ob).2).map (·.1))) with
    | false => rw [hb] at h; cases h
    | true =>
      rw [hb] at h
      simp only [cond_true] at h
      simp only [Bool.and_eq_true] at hb
      obtain ⟨hf, hn⟩ := hb
      obtain ⟨f1, f2⟩ := proFr_spec fr
      obtain ⟨o1, o2⟩ := proOb_spec ob
      obtain ⟨G', I2, g1, g2⟩ := Inv.addEmpty (fun _ => trivial) ((proFr fr).2 ++ (proOb ob).2) I1 (fun u hu => by
        simp only [List.mem_append] at hu; rcases hu with hu | hu; exact f1 u hu; exact o1 u hu) (fun u hu => freshIn_spec hf u hu) hn
      have hin : ∀ k e, (k, Ob.arr e [] 0 false) ∈ (proFr fr).2 ++ (proOb ob).2 → G'.val k = .slice none 0 0 ∧ (St.mk fr (((proFr fr).2 ++ (proOb ob).2) ++ ob)).obj k = some (.arr e [] 0 false) := fun k e hk => by
        refine ⟨g2 _ hk, ?_⟩
        show find k (((proFr fr).2 ++ (proOb ob).2) ++ ob) = _
        rw [find_append, find_of_nodup hn hk]; rfl
      refine rename_spec (G := G') ?_ h
      refine I2.promote (fun t x' hx => ?_) (fun k => ?_)
      · obtain ⟨x, hx0, h⟩ := f2 t x' hx
        refine ⟨x, hx0, ?_⟩
        rcases h with h | ⟨e, k, h3, h4, h5⟩
        · exact .inl h
        · exact .inr ⟨_, _, h3, h4, .inr ⟨e, k, rfl, rfl, hin k e (by simp [h5])⟩⟩
      · show (find k ((proOb ob).1 ++ ((proFr fr).2 ++ (proOb ob).2)) = none ∧ find k (((proFr fr).2 ++ (proOb ob).2) ++ ob) = none) ∨
          ∃ o o', find k ((proOb ob).1 ++ ((proFr fr).2 ++ (proOb ob).2)) = some o' ∧ find k (((proFr fr).2 ++ (proOb ob).2) ++ ob) = some o ∧ PromO G' _ o o'
        rw [find_append k (proOb ob).1, find_append k ((proFr fr).2 ++ (proOb ob).2) ob]
        generalize hus : (proFr fr).2 ++ (proOb ob).2 = us at *
        cases hk : find k us with
        | none =>
          rcases o2 k with ⟨h1, h2⟩ | ⟨o, o', h3, h4, h⟩
          · left; simp [h1, h2]
          · right
            refine ⟨o, o', by simp [h3], by simp [h4], ?_⟩
            rcases h with h | ⟨cs, cs', h5, h6, h7, h⟩
            · exact .inl h
            · refine .inr ⟨cs, cs', h5, h6, h7, fun j c c' hj hj' => ?_⟩
              rcases h j c c' hj hj' with h | ⟨e, k, h3, h4, h5⟩
              · exact .inl h
              · exact .inr ⟨e, k, h3, h4, hin k e (by rw [← hus]; simp [h5])⟩
        | some u =>
          have hnone : find k ob = none := freshIn_spec hf _ (find_mem_pair hk)
          right
          refine ⟨u, u, ?_, by simp, .inl rfl⟩
          rcases o2 k with ⟨h1, h2⟩ | ⟨o, o', h3, h4, h⟩
          · simp [h1]
          · rw [hnone] at h4; cases h4
end
end Am

namespace Am
open Go
variable [RowOps] [LoopOps]
open RowOps LoopOps

def edgesOk (n : Nat) : Nat → List Oper → Bool
  | _, [] => true
  | i, o :: r => (match o.dst with | some t => Nat.blt t n | none => true) && (o.after.toList.all fun e => (match e.ground with | .textOnly _ | .gcOnly _ => true | _ => false) || Nat.blt e.on i) && edgesOk n (i + 1) r

/-- what is asked of the text of a function -/
def codeOk (n : Nat) : Code → Bool
  | .region _ ops _ => edgesOk n 0 ops.toList
  | .seq x y => codeOk n x && codeOk n y
  | .cond _ x y => codeOk n x && codeOk n y
  | .block _ x => codeOk n x
  | .loop x => codeOk n x
  | _ => true

theorem edgesOk_spec {n : Nat} : ∀ (l : List Oper) (i : Nat), edgesOk n i l = true → ∀ (j : Nat) (o : Oper), l[j]? = some o → (∀ t', o.dst = some t' → t' < n) ∧ ∀ e ∈ o.after, Region.binds .any e = true → e.on < i + j
  | [], i, _, j, o, h => by simp at h
  | x :: r, i, h, j, o, ho => by
    simp only [edgesOk, Bool.and_eq_true] at h
    obtain ⟨⟨h1, h2⟩, h3⟩ := h
    cases j with
    | zero =>
      simp at ho
      subst ho
      refine ⟨fun t' ht => ?_, fun e he hb => ?_⟩
      · rw [ht] at h1; simpa [Nat.blt_eq] using h1
      · have := List.all_eq_true.1 h2 e (by simpa using he)
        rw [binds_any] at hb
        cases hg : e.ground <;> simp [hg, Nat.blt_eq] at this hb ⊢ <;> exact this
    | succ j =>
      simp at ho
      obtain ⟨k1, k2⟩ := edgesOk_spec r (i + 1) h3 j o ho
      exact ⟨k1, fun e he hb => by have := k2 e he hb; omega⟩

theorem opsOk_of {n : Nat} {ops : Array Oper} (h : edgesOk n 0 ops.toList = true) : opsOk n ops := fun i o ho => by
  obtain ⟨h1, h2⟩ := edgesOk_spec _ _ h i o (by simpa using ho)
  exact ⟨h1, fun e he hb => by have := h2 e he hb; omega⟩

def exitOf : Ex → Exit
  | .normal => .normal
  | .ret => .ret
  | .exit id => .exit id

section
variable {P : Program} {E : Cfg} {N : Ar} {call : Orc} {B : Nat} {Own : Nat → Prop} {w0 : Base}

/-- what is owed behind a piece of code -/
def Behind (B : Nat) (Own : Nat → Prop) (w0 : Base) (n : Nat) {ρ : Type} (C : Ex → St → Option ρ) (x : ρ) (Q : Exit → Act → World → Prop) : Prop :=
  ∀ e s', C e s' = some x → ∀ a' w' G' K', a'.tmps.size = n → Inv B Own w0 G' K' s' a' w' → Q (exitOf e) a' w'

/-- a piece of code keeps to its run -/
def Keeps (P : Program) (B : Nat) (Own : Nat → Prop) (w0 : Base) (n : Nat) (c : Code) {ρ : Type} (ev : St → (Ex → St → Option ρ) → Option ρ) : Prop :=
  ∀ (s : St) (C : Ex → St → Option ρ) (x : ρ) (Q : Exit → Act → World → Prop) (a : Act) (w : World) (G : Gh) (K : Nat → Prop), ev s C = some x → a.tmps.size = n → Inv B Own w0 G K s a w →
    Behind B Own w0 n C x Q → c.wp P Q a w

theorem loopN_keeps {n : Nat} {c : Code} {ρ : Type} {body : St → (Ex → St → Option ρ) → Option ρ} (hb : Keeps P B Own w0 n c body) (live : List Nat) : ∀ (m : Nat) (s : St) (C : Ex → St → Option ρ) (x : ρ)
    (Q : Exit → Act → World → Prop) (a : Act) (w : World) (G : Gh) (K : Nat → Prop), loopN (canon live) body m s C = some x → a.tmps.size = n → Inv B Own w0 G K s a w → Behind B Own w0 n C x Q →
    Code.rounds P c Q m a w
  | 0, s, C, x, Q, a, w, G, K, h, _, _, _ => by simp [loopN] at h
  | m + 1, s, C, x, Q, a, w, G, K, h, hn, I, hq => by
    simp only [loopN] at h
    split at h
    · rename_i s1 hs1
      obtain ⟨G1, I1⟩ := canon_spec I hs1
      rw [rounds_succ]
      refine hb s1 _ x _ a w G1 K h hn I1 fun e s2 h2 a2 w2 G2 K2 hn2 I2 => ?_
      cases e with
      | normal => exact loopN_keeps hb live m s2 C x Q a2 w2 G2 K2 h2 hn2 I2 hq
      | ret => exact hq .ret s2 h2 a2 w2 G2 K2 hn2 I2
      | exit id => exact hq (.exit id) s2 h2 a2 w2 G2 K2 hn2 I2
    · cases h

theorem evalC_keeps (hm : P.follows .mixedOrders = true) (H : Env P E N call) {n : Nat} (fuel f : Nat) {ρ : Type} : ∀ (c : Code) (b : Nat), codeOk n c = true → Keeps P B Own w0 n c (evalC (ρ := ρ) E N call fuel f b c) := by
  intro c
  induction c with
  | skip => intro b _ s C x Q a w G K h hn I hq; exact wp_skip (hq .normal s (by simpa [evalC] using h) a w G K hn I)
  | ret => intro b _ s C x Q a w G K h hn I hq; exact wp_ret (hq .ret s (by simpa [evalC] using h) a w G K hn I)
  | exit id => intro b _ s C x Q a w G K h hn I hq; exact wp_exit (hq (.exit id) s (by simpa [evalC] using h) a w G K hn I)
  | region id ops draw =>
    intro b hc s C x Q a w G K h hn I hq
    have hok := opsOk_of hc
    simp only [evalC] at h
    cases draw with
    | true =>
      simp only [cond_true] at h
      obtain ⟨s', h1, h2⟩ := draw_spec hm H hok h
      exact h2 Q id a w G K hn I fun a' w' G' K' hn' I' => hq .normal s' h1 a' w' G' K' hn' I'
    | false =>
      simp only [cond_false] at h
      obtain ⟨s', h1, h2⟩ := runOps_spec H ops.toList s _ (fun o ho => by
        obtain ⟨i, hi⟩ := List.getElem?_of_mem ho
        exact (hok i o (by simpa using hi)).1) h
      exact wp_region_list (h2 Q a w G K hn I fun a' w' G' K' hn' I' => hq .normal s' h1 a' w' G' K' hn' I')
  | seq c1 c2 ih1 ih2 =>
    intro b hc s C x Q a w G K h hn I hq
    simp only [codeOk, Bool.and_eq_true] at hc
    simp only [evalC] at h
    refine wp_seq (ih1 b hc.1 s _ x _ a w G K h hn I fun e s1 h1 a1 w1 G1 K1 hn1 I1 => ?_)
    cases e with
    | normal => exact ih2 b hc.2 s1 C x Q a1 w1 G1 K1 h1 hn1 I1 hq
    | ret => exact hq .ret s1 h1 a1 w1 G1 K1 hn1 I1
    | exit id => exact hq (.exit id) s1 h1 a1 w1 G1 K1 hn1 I1
  | cond o c1 c2 ih1 ih2 =>
    intro b hc s C x Q a w G K h hn I hq
    simp only [codeOk, Bool.and_eq_true] at hc
    simp only [evalC] at h
    split at h
    · rename_i t ht
      have hv := rw_sc (opnd_rw I ht)
      refine wp_cond hv ?_
      cases t with
      | true => exact ih1 b hc.1 s C x Q a w G K h hn I hq
      | false => exact ih2 b hc.2 s C x Q a w G K h hn I hq
    · cases h
  | block id c ih =>
    intro b hc s C x Q a w G K h hn I hq
    simp only [codeOk] at hc
    simp only [evalC] at h
    refine wp_block (ih id hc s _ x _ a w G K h hn I fun e s1 h1 a1 w1 G1 K1 hn1 I1 => ?_)
    cases e with
    | normal => exact hq .normal s1 h1 a1 w1 G1 K1 hn1 I1
    | ret => exact hq .ret s1 h1 a1 w1 G1 K1 hn1 I1
    | exit j =>
      simp only at h1
      show Exit.inBlock id Q (.exit j) a1 w1
      unfold Exit.inBlock
      cases hj : eqN j id with
      | true =>
        rw [hj] at h1
        have := beq_eq hj
        subst this
        simp only [if_true]
        exact hq .normal s1 h1 a1 w1 G1 K1 hn1 I1
      | false =>
        rw [hj] at h1
        have hne : j ≠ id := fun e => by rw [e] at hj; simp at hj
        simp only [hne, if_false]
        exact hq (.exit j) s1 h1 a1 w1 G1 K1 hn1 I1
  | loop c ih =>
    intro b hc s C x Q a w G K h hn I hq
    simp only [codeOk] at hc
    simp only [evalC, loop_eq] at h
    exact wp_loop_rounds fuel (loopN_keeps (ih b hc) (E.live f b) fuel s C x Q a w G K h hn I hq)
  | _ => intro b _ s C x Q a w G K h; simp [evalC] at h
end
end Am

namespace Am
open Go
variable [RowOps] [LoopOps]
open RowOps LoopOps

inductive LO (G : Gh) : List Value → List Nat → Prop where
  | nil : LO G [] []
  | skip {v : Value} {l : List Value} {ks : List Nat} (h : blk v = none) (t : LO G l ks) : LO G (v :: l) ks
  | key {v : Value} {l : List Value} {k : Nat} {ks : List Nat} (h : ∀ b, blk v = some b → blk (G.val k) = some b) (t : LO G l ks) : LO G (v :: l) (k :: ks)

theorem LO.append {G : Gh} {l l' : List Value} {ks ks' : List Nat} (h : LO G l ks) (h' : LO G l' ks') : LO G (l ++ l') (ks ++ ks') := by
  induction h with
  | nil => exact h'
  | skip h _ ih => exact .skip h ih
  | key h _ ih => exact .key h ih

theorem LO.at' {G : Gh} {l : List Value} {ks : List Nat} (h : LO G l ks) : ∀ {i : Nat} {u : Value} {b : Nat}, l[i]? = some u → blk u = some b → ∃ k ∈ ks, blk (G.val k) = some b := by
  induction h with
  | nil => intro i u b h; simp at h
  | skip h _ ih =>
    intro i u b hu hb
    cases i with
    | zero => simp at hu; subst hu; rw [h] at hb; cases hb
    | succ i => exact ih (by simpa using hu) hb
  | key h _ ih =>
    intro i u b hu hb
    cases i with
    | zero => simp at hu; subst hu; exact ⟨_, by simp, h b hb⟩
    | succ i => obtain ⟨k, hk, hb⟩ := ih (by simpa using hu) hb; exact ⟨k, by simp [hk], hb⟩

theorem LO.pair {G : Gh} {l : List Value} {ks : List Nat} (h : LO G l ks) (hn : nodupN ks = true) (hd : ∀ k ∈ ks, ∀ k' ∈ ks, ∀ b, k ≠ k' → blk (G.val k) = some b → blk (G.val k') ≠ some b) :
    ∀ (i j : Nat) (u u' : Value) (b : Nat), i ≠ j → l[i]? = some u → l[j]? = some u' → blk u = some b → blk u' ≠ some b := by
  induction h with
  | nil => intro i j u u' b _ h; simp at h
  | skip h t ih =>
    intro i j u u' b hne hu hu' hb hb'
    cases i with
    | zero => simp at hu; subst hu; rw [h] at hb; cases hb
    | succ i =>
      cases j with
      | zero => simp at hu'; subst hu'; rw [h] at hb'; cases hb'
      | succ j => exact ih hn hd i j u u' b (by omega) (by simpa using hu) (by simpa using hu') hb hb'
  | @key v l k ks h t ih =>
    obtain ⟨hk, hn'⟩ := nodupN_cons hn
    intro i j u u' b hne hu hu' hb hb'
    cases i with
    | zero =>
      cases j with
      | zero => exact hne rfl
      | succ j =>
        simp at hu
        subst hu
        obtain ⟨k', hk', hb2⟩ := t.at' (by simpa using hu') hb'
        exact hd k (by simp) k' (by simp [hk']) b (fun e => hk (e ▸ hk')) (h b hb) hb2
    | succ i =>
      cases j with
      | zero =>
        simp at hu'
        subst hu'
        obtain ⟨k', hk', hb2⟩ := t.at' (by simpa using hu) hb
        exact hd k (by simp) k' (by simp [hk']) b (fun e => hk (e ▸ hk')) (h b hb') hb2
      | succ j => exact ih hn' (fun k hk k' hk' => hd k (by simp [hk]) k' (by simp [hk'])) i j u u' b (by omega) (by simpa using hu) (by simpa using hu') hb hb'

theorem map1_cons {α β : Type} {f : α → Rd β} {look : Nat → Option Ob} {x : α} {r : List α} {ys : List β} (h : (Rd.map1 f (x :: r)).get look = some ys) : ∃ y ys', ys = y :: ys' ∧ (f x).get look = some y ∧ (Rd.map1 f r).get look = some ys' := by
  simp only [Rd.map1, Rd.get_bind] at h
  cases h1 : (f x).get look with
  | none => simp [h1] at h
  | some y =>
    simp only [h1, Option.bind_some] at h
    cases h2 : (Rd.map1 f r).get look with
    | none => simp [h2] at h
    | some ys' => simp [h2] at h; exact ⟨y, ys', h.symm, rfl, rfl⟩

section
variable {P : Program} {E : Cfg} {B : Nat} {Own : Nat → Prop} {w0 : Base} {G : Gh} {K : Nat → Prop} {s : St} {a : Act} {w : World}

theorem own_nil {e : Nat} {K' : Nat → Prop} : R1R w K' (.own e []) (.slice none 0 0) :=
  ⟨⟨0, [], ⟨by simp, .inl ⟨rfl, rfl⟩⟩, fun i row h => by simp at h⟩, rfl⟩

/-- the keys of what leaves as it stands -/
def Lives (s : St) (ks : List Nat) : Prop := ∀ k ∈ ks, ∃ o, s.obj k = some o ∧ o.live = true
def There (s : St) (ks : List Nat) : Prop := ∀ k ∈ ks, ∃ o, s.obj k = some o ∧ o ≠ .dead

/-- what an exported part owes -/
def Exp (G : Gh) (s : St) (K : Nat → Prop) (own frz : List Nat) (R : (Nat → Prop) → List Value → Prop) : Prop :=
  Lives s own ∧ There s frz ∧ ∀ K' : Nat → Prop, (∀ b, K b → K' b) → (∀ k ∈ frz, ∀ b, blk (G.val k) = some b → K' b) → ∃ l, R K' l ∧ LO G l own

theorem expC_spec (I : Inv B Own w0 G K s a w) {x : A} {v : Value} {r : R1 × List Nat × List Nat} (hr : RA G s.obj w K x v) (h : (expC x).get s.obj = some r) :
    Exp G s K r.2.1 r.2.2 fun K' l => R1R w K' r.1 v ∧ l = lv1 r.1 v := by
  have fall : ∀ c ks, (reify depth x).get s.obj = some c → (keysOf depth x).get s.obj = some ks → Exp G s K [] ks fun K' l => R1R w K' (.d c) v ∧ l = lv1 (.d c) v := fun c ks h1 h2 =>
    ⟨by simp [Lives], keysOf_there _ _ _ h2, fun K' hK hks => ⟨[], ⟨reify_rc I hK depth x v c ks hr h1 h2 hks, rfl⟩, .nil⟩⟩
  unfold expC at h
  split at h
  · simp at h; subst h
    cases hr
    exact ⟨by simp [Lives], by simp [There], fun K' _ _ => ⟨_, ⟨own_nil, rfl⟩, .skip rfl .nil⟩⟩
  · simp at h; subst h
    cases hr with
    | c hr =>
      cases hr
      exact ⟨by simp [Lives], by simp [There], fun K' _ _ => ⟨_, ⟨own_nil, rfl⟩, .skip rfl .nil⟩⟩
  · simp at h; subst h
    cases hr with
    | c hr => exact ⟨by simp [Lives], by simp [There], fun K' hK _ => ⟨[], ⟨hr.mono (fun _ _ => rfl) hK, rfl⟩, .nil⟩⟩
  · rename_i k ver win
    simp only [Rd.get_look] at h
    split at h
    · rename_i e rows ver' frz hob
      cases hb : eqN ver ver' with
      | false => simp [hb] at h
      | true =>
        have := beq_eq hb
        subst this
        simp only [hb, cond_true] at h
        cases frz with
        | true =>
          simp at h; subst h
          refine fall _ [k] ?_ ?_
          · simp [depth, reify, rowsOf, hob]
          · simp [depth, keysOf, hob]
        | false =>
          simp at h; subst h
          refine ⟨fun k' hk' => ?_, by simp [There], fun K' hK _ => ?_⟩
          · simp at hk'; subst hk'; exact ⟨_, hob, rfl⟩
          · obtain ⟨h1, h2⟩ := own_of_ref I hr hob
            exact ⟨_, ⟨⟨h1.mono (fun _ _ => rfl) hK (fun _ _ => rfl), hr.one⟩, rfl⟩, .key h2 .nil⟩
    · simp at h
  · simp only [Rd.get_bind] at h
    cases h1 : (reify depth x).get s.obj with
    | none => simp [h1] at h
    | some c =>
      cases h2 : (keysOf depth x).get s.obj with
      | none => simp [h1, h2] at h
      | some ks =>
        simp [h1, h2] at h
        subst h
        exact fall c ks h1 h2

theorem Exp.append {own frz own' frz' : List Nat} {R R' : (Nat → Prop) → List Value → Prop} (h : Exp G s K own frz R) (h' : Exp G s K own' frz' R') :
    Exp G s K (own ++ own') (frz ++ frz') fun K' l => ∃ l1 l2, R K' l1 ∧ R' K' l2 ∧ l = l1 ++ l2 := by
  refine ⟨fun k hk => ?_, fun k hk => ?_, fun K' hK hks => ?_⟩
  · simp at hk; rcases hk with hk | hk; exact h.1 k hk; exact h'.1 k hk
  · simp at hk; rcases hk with hk | hk; exact h.2.1 k hk; exact h'.2.1 k hk
  · obtain ⟨l1, p1, q1⟩ := h.2.2 K' hK fun k hk => hks k (by simp [hk])
    obtain ⟨l2, p2, q2⟩ := h'.2.2 K' hK fun k hk => hks k (by simp [hk])
    exact ⟨_, ⟨l1, l2, p1, p2, rfl⟩, q1.append q2⟩
theorem Exp.mono {own frz : List Nat} {R R' : (Nat → Prop) → List Value → Prop} (h : Exp G s K own frz R) (hR : ∀ K' l, R K' l → R' K' l) : Exp G s K own frz R' :=
  ⟨h.1, h.2.1, fun K' hK hks => let ⟨l, p, q⟩ := h.2.2 K' hK hks; ⟨l, hR _ _ p, q⟩⟩
theorem Exp.nil {R : (Nat → Prop) → List Value → Prop} (hR : ∀ K', R K' []) : Exp G s K [] [] R :=
  ⟨by simp [Lives], by simp [There], fun K' _ _ => ⟨[], hR K', .nil⟩⟩

theorem expCs_spec (I : Inv B Own w0 G K s a w) : ∀ (as : List A) (vs : List Value) (xs : List (R1 × List Nat × List Nat)), CR G s.obj w K as vs → (Rd.map1 expC as).get s.obj = some xs →
    Exp G s K (xs.map (·.2.1)).flatten (xs.map (·.2.2)).flatten fun K' l => RL w K' (xs.map (·.1)) vs ∧ l = lvs (xs.map (·.1)) vs
  | [], [], xs, _, h => by simp [Rd.map1] at h; subst h; exact .nil fun _ => ⟨trivial, rfl⟩
  | [], _ :: _, xs, hc, _ => by simp [CR] at hc
  | _ :: _, [], xs, hc, _ => by simp [CR] at hc
  | x :: as, v :: vs, xs, hc, h => by
    obtain ⟨y, ys, rfl, h1, h2⟩ := map1_cons h
    have hc' : CR G s.obj w K as vs := ⟨by simpa using hc.1, fun j c x h1 h2 => hc.2 (j + 1) c x (by simpa using h1) (by simpa using h2)⟩
    refine ((expC_spec I (hc.2 0 x v rfl rfl) h1).append (expCs_spec I as vs ys hc' h2)).mono fun K' l hl => ?_
    obtain ⟨l1, l2, ⟨p1, rfl⟩, ⟨p2, rfl⟩, rfl⟩ := hl
    exact ⟨⟨p1, p2⟩, rfl⟩

theorem expW_spec (I : Inv B Own w0 G K s a w) {x : W} {v : Value} {r : R × List Nat × List Nat} (hr : RW G s.obj w K x v) (h : (expW x).get s.obj = some r) :
    Exp G s K r.2.1 r.2.2 fun K' l => RR0 w K' r.1 v l := by
  cases hr with
  | one hr =>
    simp only [expW, Rd.get_bind] at h
    rename_i x
    cases hx : (expC x).get s.obj with
    | none => simp [hx] at h
    | some y =>
      simp [hx] at h
      subst h
      exact (expC_spec I hr hx).mono fun K' l hl => hl
  | agg hl hr =>
    rename_i as us
    simp only [expW, Rd.get_bind] at h
    cases hx : (Rd.map1 expC as).get s.obj with
    | none => simp [hx] at h
    | some ys =>
      simp [hx] at h
      subst h
      refine (expCs_spec I as us.toList ys ⟨by simpa using hl, fun j c x h1 h2 => hr j c x h1 (by simpa using h2)⟩ hx).mono fun K' l hl => ?_
      exact ⟨us, rfl, hl.1, hl.2⟩
  | tup _ _ => simp [expW] at h

/-- reading a variable -/
theorem loadVar_spec (hT : TabOk P E.T) (I : Inv B Own w0 G K s a w) {t : Nat} {ti : TI} {p : A} {v : Value} {as : List A} {z : W} (hti : E.T t = some ti) (hr : RW G s.obj w K (.one p) v)
    (hl : (loadC ti.size p).get s.obj = some as) (hz : packW ti.agg as = some z) : ∃ ad u, v = .pointer (some ad) ∧ (loadVar t ad).run P w = .ok u w ∧ RW G s.obj w K z u := by
  have hok := hT _ _ hti
  obtain ⟨b, off, vs, hv, hlen, hrange, hcr⟩ := load_spec I hr hl hok.pos
  obtain ⟨i, zv, h1, h2, _⟩ := hok.info
  have hsz : (P.info? t).map (·.size) = some vs.length := by simp [h1, h2, hlen]
  refine ⟨_, if ti.agg then .agg vs.toArray else vs.head!, hv, ?_⟩
  cases hag : ti.agg with
  | true =>
    have hd2 : ∃ d, P.underlying t = some d ∧ d.isRow = true := by
      have hk := hok.kd
      rcases agg_iff.1 hag with ⟨offs, ho⟩ | ⟨n, e, ho⟩
      · rw [ho] at hk; obtain ⟨fs, hu, _⟩ := hk; exact ⟨_, hu, rfl⟩
      · rw [ho] at hk; exact ⟨_, hk, rfl⟩
    obtain ⟨d, hu, hrow⟩ := hd2
    exact ⟨by simpa using run_loadVar_mid w b off t vs d hrange hu hrow hsz, hcr.pack hz _ (by simp [hag])⟩
  | false =>
    have hone : vs = [vs.head!] := by
      unfold packW at hz
      simp [hag] at hz
      split at hz
      · rename_i a1
        have : vs.length = 1 := by rw [← hcr.1]; rfl
        match vs, this with
        | [v0], _ => rfl
      · cases hz
    have hagg : (isAgg t).run P w = .ok false w := by
      have hk := hok.kd
      unfold isAgg
      cases hkd : ti.kd with
      | struct offs => exfalso; rw [(agg_iff (ti := ti)).2 (.inl ⟨offs, hkd⟩)] at hag; cases hag
      | array n e => exfalso; rw [(agg_iff (ti := ti)).2 (.inr ⟨n, e, hkd⟩)] at hag; cases hag
      | sc => rw [hkd] at hk; obtain ⟨d, hu, hrow⟩ := hk; rw [Sem.run_bind, run_underlying hu w]; cases d <;> first | rfl | (simp [TypeDesc.isRow] at hrow)
      | bool => rw [hkd] at hk; rw [Sem.run_bind, run_underlying hk w]; rfl
      | str => rw [hkd] at hk; rw [Sem.run_bind, run_underlying hk w]; rfl
      | slice e => rw [hkd] at hk; rw [Sem.run_bind, run_underlying hk w]; rfl
    have hcell : w.cell? ⟨b, off, none⟩ = some vs.head! := by
      have := hrange 0 vs.head! (by rw [hone]; rfl)
      simpa using this
    exact ⟨by simp [loadVar, hagg, hcell], hcr.pack hz _ (by rw [hag]; exact hone)⟩

def resVal (a : Act) : ResultVar → Sem Value
  | .tmp t => pure (a.tmps.getD t undef)
  | .cell p t => do loadVar t (← asAddr (a.tmps.getD p undef))

theorem resOf_spec (hT : TabOk P E.T) (I : Inv B Own w0 G K s a w) {rv : ResultVar} {r : R × List Nat × List Nat} (h : (resOf E s rv).get s.obj = some r) :
    ∃ u, (resVal a rv).run P w = .ok u w ∧ Exp G s K r.2.1 r.2.2 fun K' l => RR0 w K' r.1 u l := by
  cases rv with
  | tmp t =>
    simp only [resOf] at h
    split at h
    · rename_i x hx
      obtain ⟨v, hv, hr⟩ := I.fr t x hx
      refine ⟨v, ?_, expW_spec I hr h⟩
      simp only [resVal, Sem.run_pure]
      rw [Array.getD_eq_getD_getElem?, hv]; rfl
    · simp at h
  | cell p ty =>
    simp only [resOf] at h
    split at h
    · rename_i c ti hx hti
      obtain ⟨v, hv, hr⟩ := I.fr p _ hx
      simp only [Rd.get_bind] at h
      cases hl : (loadC ti.size c).get s.obj with
      | none => simp [hl] at h
      | some cs =>
        simp only [hl, Option.bind_some] at h
        split at h
        · rename_i z hz
          obtain ⟨ad, u, rfl, h1, h2⟩ := loadVar_spec hT I hti hr hl hz
          refine ⟨u, ?_, expW_spec I h2 h⟩
          have : a.tmps.getD p undef = .pointer (some ad) := by rw [Array.getD_eq_getD_getElem?, hv]; rfl
          simp only [resVal, this, asAddr, Sem.run_bind, Sem.run_pure, Result.andThen_ok, h1]
        · simp at h
    · simp at h

theorem resOfs_spec (hT : TabOk P E.T) (I : Inv B Own w0 G K s a w) : ∀ (rs : List ResultVar) (xs : List (R × List Nat × List Nat)), (Rd.map1 (resOf E s) rs).get s.obj = some xs →
    ∃ us : List Value, (rs.mapM (resVal a)).run P w = .ok us w ∧ Exp G s K (xs.map (·.2.1)).flatten (xs.map (·.2.2)).flatten fun K' l => RT w K' (xs.map (·.1)) us l
  | [], xs, h => by
    simp [Rd.map1] at h; subst h
    exact ⟨[], by simp, .nil fun _ => rfl⟩
  | rv :: rs, xs, h => by
    obtain ⟨y, ys, rfl, h1, h2⟩ := map1_cons h
    obtain ⟨u, e1, p1⟩ := resOf_spec hT I h1
    obtain ⟨us, e2, p2⟩ := resOfs_spec hT I rs ys h2
    refine ⟨u :: us, ?_, (p1.append p2).mono fun K' l hl => hl⟩
    rw [List.mapM_cons]
    simp only [Sem.run_bind, e1, Result.andThen_ok, e2, Sem.run_pure]

def retV : List Value → Value
  | [u] => u
  | us => .tuple us.toArray
theorem results_run {fn : Func} {us : List Value} (h : (fn.results.toList.mapM (resVal a)).run P w = .ok us w) :
    (results fn a.tmps).run P w = .ok (retV us) w := by
  have e : (results fn a.tmps) = (do let vs ← fn.results.mapM (resVal a); pure (if h : vs.size = 1 then vs[0] else .tuple vs)) := by
    unfold results
    congr 1
    first
      | done
      | (congr 1
         funext rv
         cases rv <;> rfl)
  have e2 : fn.results.mapM (resVal a) = List.toArray <$> fn.results.toList.mapM (resVal a) := by
    have := List.mapM_toArray (l := fn.results.toList) (f := resVal a)
    simpa using this
  rw [e, Sem.run_bind, e2]
  simp only [map_eq_pure_bind, Sem.run_bind, h, Result.andThen_ok, Sem.run_pure]
  congr 1
  match us with
  | [] => rfl
  | [u] => rfl
  | u :: u' :: r => simp [retV]
end
end Am

namespace Am
open Go
variable [RowOps] [LoopOps]
open RowOps LoopOps

theorem codeOk_mono {n m : Nat} (h : n ≤ m) : ∀ (c : Code), codeOk n c = true → codeOk m c = true := by
  have he : ∀ (l : List Oper) (i : Nat), edgesOk n i l = true → edgesOk m i l = true := by
    intro l
    induction l with
    | nil => intro i _; rfl
    | cons o r ih =>
      intro i hh
      simp only [edgesOk, Bool.and_eq_true] at hh ⊢
      refine ⟨⟨?_, hh.1.2⟩, ih _ hh.2⟩
      have := hh.1.1
      cases hd : o.dst with
      | none => rfl
      | some t => rw [hd] at this; simp only [Nat.blt_eq] at this ⊢; omega
  intro c
  induction c with
  | region id ops d => exact fun hh => he _ _ hh
  | seq x y ih1 ih2 => intro hh; simp only [codeOk, Bool.and_eq_true] at hh ⊢; exact ⟨ih1 hh.1, ih2 hh.2⟩
  | cond o x y ih1 ih2 => intro hh; simp only [codeOk, Bool.and_eq_true] at hh ⊢; exact ⟨ih1 hh.1, ih2 hh.2⟩
  | block id x ih => intro hh; exact ih hh
  | loop x ih => intro hh; exact ih hh
  | _ => intro _; rfl

/-! entry -/
def wArg (i : Nat) : Arg → W
  | .one x => .one (.c x)
  | .agg xs => .agg (xs.map A.c)
  | .mv .. => .one (.ref (ioBase + i) 0 none)
  | .io .. => .one (.ref (ioBase + i) 0 none)
def oArg : Arg → Option Ob
  | .mv e rows => some (.arr e rows 0 false)
  | .io e rows => some (.arr e rows 0 false)
  | _ => none

def entry1 (i : Nat) (g : Arg) (s : St) : St := ⟨(i, wArg i g) :: s.fr, (match oArg g with | some o => [(ioBase + i, o)] | none => []) ++ s.ob⟩
theorem entry_cons (i : Nat) (g : Arg) (r : List Arg) (s : St) : entry i (g :: r) s = entry (i + 1) r (entry1 i g s) := by cases g <;> rfl

theorem entry1_slot (i : Nat) (g : Arg) (s : St) (t : Nat) : (entry1 i g s).slot t = if t = i then some (wArg i g) else s.slot t := by
  show find t ((i, wArg i g) :: s.fr) = _
  by_cases h : t = i
  · subst h; simp [find]
  · rw [find_cons_ne (fun e => h e.symm), if_neg h]; rfl
theorem entry1_obj (i : Nat) (g : Arg) (s : St) (k : Nat) : (entry1 i g s).obj k = if k = ioBase + i then (oArg g).or (s.obj k) else s.obj k := by
  show find k ((match oArg g with | some o => [(ioBase + i, o)] | none => []) ++ s.ob) = _
  cases ho : oArg g with
  | none => simp [St.obj]
  | some o =>
    by_cases h : k = ioBase + i
    · subst h; simp [find]
    · rw [if_neg h]
      show find k ((ioBase + i, o) :: s.ob) = _
      rw [find_cons_ne (fun e => h e.symm)]; rfl

theorem entry_slot : ∀ (args : List Arg) (i : Nat) (s : St) (t : Nat), (entry i args s).slot t = if i ≤ t ∧ t < i + args.length then (args[t - i]?).map (wArg t) else s.slot t
  | [], i, s, t => by simp [entry]; intro h1 h2; omega
  | g :: r, i, s, t => by
    rw [entry_cons, entry_slot r (i + 1), entry1_slot]
    by_cases h : t = i
    · subst h
      have : ¬ (t + 1 ≤ t) := by omega
      simp [this]
    · simp only [h, if_false]
      by_cases h2 : i + 1 ≤ t
      · have e : t - i = (t - (i + 1)) + 1 := by omega
        simp only [List.length_cons]
        by_cases h3 : t < i + 1 + r.length
        · have h4 : i ≤ t ∧ t < i + (r.length + 1) := by omega
          rw [if_pos ⟨h2, h3⟩, if_pos h4, e]; simp
        · have h4 : ¬ (i ≤ t ∧ t < i + (r.length + 1)) := by omega
          rw [if_neg (fun h => h3 h.2), if_neg h4]
      · have h4 : ¬ (i ≤ t ∧ t < i + (g :: r).length) := by simp; omega
        rw [if_neg (fun h => h2 h.1), if_neg h4]

theorem entry_obj : ∀ (args : List Arg) (i : Nat) (s : St) (k : Nat), (entry i args s).obj k = if ioBase + i ≤ k ∧ k < ioBase + (i + args.length) then ((args[k - (ioBase + i)]?).bind oArg).or (s.obj k) else s.obj k
  | [], i, s, k => by simp [entry]
  | g :: r, i, s, k => by
    rw [entry_cons, entry_obj r (i + 1), entry1_obj]
    by_cases h : k = ioBase + i
    · subst h
      have h1 : ¬ (ioBase + (i + 1) ≤ ioBase + i ∧ ioBase + i < ioBase + (i + 1 + r.length)) := by omega
      have h2 : ioBase + i ≤ ioBase + i ∧ ioBase + i < ioBase + (i + (g :: r).length) := by simp
      rw [if_neg h1, if_pos rfl, if_pos h2]; simp
    · simp only [h, if_false]
      by_cases h2 : ioBase + (i + 1) ≤ k
      · have e : k - (ioBase + i) = (k - (ioBase + (i + 1))) + 1 := by omega
        simp only [List.length_cons]
        by_cases h3 : k < ioBase + (i + 1 + r.length)
        · have h4 : ioBase + i ≤ k ∧ k < ioBase + (i + (r.length + 1)) := by omega
          rw [if_pos ⟨h2, h3⟩, if_pos h4, e]; simp
        · have h4 : ¬ (ioBase + i ≤ k ∧ k < ioBase + (i + (r.length + 1))) := by omega
          rw [if_neg (fun h => h3 h.2), if_neg h4]
      · have h4 : ¬ (ioBase + i ≤ k ∧ k < ioBase + (i + (g :: r).length)) := by simp; omega
        rw [if_neg (fun h => h2 h.1), if_neg h4]

theorem entry_obj0 {args : List Arg} {k : Nat} {o : Ob} (h : (entry 0 args ⟨[], []⟩).obj k = some o) : ∃ j g, args[j]? = some g ∧ k = ioBase + j ∧ oArg g = some o := by
  rw [entry_obj] at h
  split at h
  · rename_i hk
    have : (St.mk [] []).obj k = none := rfl
    rw [this, Option.or_none] at h
    obtain ⟨g, hg, ho⟩ := Option.bind_eq_some_iff.1 h
    exact ⟨_, g, hg, by omega, ho⟩
  · cases h
theorem entry_obj1 {args : List Arg} {j : Nat} {g : Arg} {o : Ob} (h : args[j]? = some g) (ho : oArg g = some o) : (entry 0 args ⟨[], []⟩).obj (ioBase + j) = some o := by
  have hj := (List.getElem?_eq_some_iff.1 h).1
  rw [entry_obj, if_pos (by omega)]
  have : ioBase + j - (ioBase + 0) = j := by omega
  rw [this, h]
  simp [ho]
theorem entry_slot0 {args : List Arg} {t : Nat} {x : W} (h : (entry 0 args ⟨[], []⟩).slot t = some x) : ∃ g, args[t]? = some g ∧ x = wArg t g := by
  rw [entry_slot] at h
  split at h
  · simp at h; obtain ⟨g, hg, rfl⟩ := h; exact ⟨g, hg, rfl⟩
  · cases h

theorem oArg_own {g : Arg} {o : Ob} (h : oArg g = some o) : g.own = true := by cases g <;> simp_all [oArg, Arg.own]

def G0 (vs : List Value) : Gh := ⟨fun k => (vs[k - ioBase]?).getD undef, fun _ => 0⟩
def gh0 (args : List Arg) (vs : List Value) (k : Nat) : Option Value :=
  if ioBase ≤ k then (match args[k - ioBase]?, vs[k - ioBase]? with
    | some g, some v => if g.own then some v else none
    | _, _ => none) else none
theorem gh0_io (args : List Arg) (vs : List Value) (k : Nat) (v : Value) (h : gh0 args vs k = some v) : ioBase ≤ k := by
  unfold gh0 at h
  split at h
  · assumption
  · cases h
theorem gh0_at {args : List Arg} {vs : List Value} {j : Nat} {g : Arg} {v : Value} (h : args[j]? = some g) (hv : vs[j]? = some v) (ho : g.own = true) : gh0 args vs (ioBase + j) = some v := by
  unfold gh0
  have : ioBase + j - ioBase = j := by omega
  rw [if_pos (Nat.le_add_right _ _), this, h, hv]
  simp [ho]
theorem G0_at {vs : List Value} {j : Nat} {v : Value} (hv : vs[j]? = some v) : (G0 vs).val (ioBase + j) = v := by
  have : ioBase + j - ioBase = j := by omega
  simp [G0, this, hv]

theorem ownV_one {w : World} {K : Nat → Prop} {e : Nat} {rows : List (List C)} {v : Value} (h : OwnV w K e rows v) : v.oneCell' = true := by
  obtain ⟨ty, xs, h, _⟩ := h
  rcases h.2 with ⟨rfl, _⟩ | ⟨g, cap, cur, rfl, _⟩ <;> rfl

def base0 (w : World) (K : Nat → Prop) (args : List Arg) (vs : List Value) : Base := ⟨w, K, gh0 args vs, gh0_io args vs⟩

theorem argR_own {w : World} {K : Nat → Prop} {g : Arg} {v : Value} {o : Ob} (h : ArgR w K g v) (ho : oArg g = some o) : ∃ e rows, o = .arr e rows 0 false ∧ OwnV w K e rows v ∧ ∀ b, blk v = some b → ¬ K b := by
  cases g with
  | one x => cases ho
  | agg x => cases ho
  | mv e rows => simp [oArg] at ho; exact ⟨e, rows, ho.symm, h⟩
  | io e rows => simp [oArg] at ho; exact ⟨e, rows, ho.symm, h⟩

theorem entry_inv {w : World} {K : Nat → Prop} {args : List Arg} {vs : Array Value} (hA : ArgsR w K args vs.toList) (n : Nat) :
    Inv w.heap.size (OwnA args vs.toList) (base0 w K args vs.toList) (G0 vs.toList) K (entry 0 args ⟨[], []⟩) { tmps := vs ++ Array.replicate n undef, defers := [] } w := by
  have hval : ∀ {j : Nat} {g : Arg}, args[j]? = some g → ∃ v, vs.toList[j]? = some v := fun {j g} h => by
    have hj := (List.getElem?_eq_some_iff.1 h).1
    exact ⟨_, List.getElem?_eq_getElem (by rw [← hA.len]; exact hj)⟩
  have href : ∀ (j : Nat) (g : Arg) (v : Value), args[j]? = some g → g.own = true → vs.toList[j]? = some v → RA (G0 vs.toList) (entry 0 args ⟨[], []⟩).obj w K (.ref (ioBase + j) 0 none) v := fun j g v h ho hv => by
    obtain ⟨o, hog⟩ : ∃ o, oArg g = some o := by cases g <;> simp_all [oArg, Arg.own]
    obtain ⟨e, rows, rfl, h1, h2⟩ := argR_own (hA.rep j g v h hv) hog
    exact .ref (entry_obj1 h hog) (ownV_one h1) (fun _ _ _ _ h => by cases h; exact Nat.le_refl _) fun _ _ _ h => by cases h; exact (G0_at hv).symm
  refine ⟨fun t x hx => ?_, fun k o hk => ?_, fun k k' o o' b hne h1 h2 _ _ hb hb' => ?_, fun k o b h1 _ hb => ?_, hA.Kb, Nat.le_refl _, Chg.refl _ _ _, rfl, fun b hb => .inl hb, fun b hb => hb, fun k v hk => ?_⟩
  · obtain ⟨g, hg, rfl⟩ := entry_slot0 hx
    obtain ⟨v, hv⟩ := hval hg
    refine ⟨v, ?_, ?_⟩
    · have : vs[t]? = some v := by simpa using hv
      rw [Array.getElem?_append_left (Array.getElem?_eq_some_iff.1 this).1]; exact this
    · have hr := hA.rep t g v hg hv
      cases g with
      | one x => exact .one (.c hr)
      | agg xs =>
        obtain ⟨us, rfl, hl, hr⟩ := hr
        refine .agg (by simpa using hl) fun j c u hc hu => ?_
        simp at hc
        obtain ⟨c0, hc0, rfl⟩ := hc
        exact .c (hr j c0 u hc0 hu)
      | mv e rows => exact .one (href t _ v hg rfl hv)
      | io e rows => exact .one (href t _ v hg rfl hv)
  · obtain ⟨j, g, hg, rfl, ho⟩ := entry_obj0 hk
    obtain ⟨v, hv⟩ := hval hg
    obtain ⟨e, rows, rfl, ⟨ty, xs, h1, h2⟩, h3⟩ := argR_own (hA.rep j g v hg hv) ho
    exact ⟨ty, xs, by rw [G0_at hv]; exact h1, h2, fun h => by cases h⟩
  · obtain ⟨j, g, hg, rfl, ho⟩ := entry_obj0 h1
    obtain ⟨j', g', hg', rfl, ho'⟩ := entry_obj0 h2
    obtain ⟨v, hv⟩ := hval hg
    obtain ⟨v', hv'⟩ := hval hg'
    rw [G0_at hv] at hb
    rw [G0_at hv'] at hb'
    exact hA.apart j j' g g' v v' b (fun e => hne (by rw [e])) hg hg' (oArg_own ho) (oArg_own ho') hv hv' hb hb'
  · obtain ⟨j, g, hg, rfl, ho⟩ := entry_obj0 h1
    obtain ⟨v, hv⟩ := hval hg
    rw [G0_at hv] at hb
    obtain ⟨e, rows, rfl, _, h3⟩ := argR_own (hA.rep j g v hg hv) ho
    exact ⟨.inr ⟨j, g, v, hg, oArg_own ho, hv, hb⟩, h3 b hb⟩
  · have hk2 : gh0 args vs.toList k = some v := hk
    have hio := gh0_io _ _ _ _ hk2
    unfold gh0 at hk2
    rw [if_pos hio] at hk2
    split at hk2
    · rename_i g v' hg hv
      split at hk2
      · rename_i hown
        have hvv := Option.some.inj hk2
        rw [← hvv]
        have := href (k - ioBase) g v' hg hown hv
        have e : ioBase + (k - ioBase) = k := by omega
        rw [e] at this; exact this
      · cases hk2
    · cases hk2

/-! the end -/
theorem outsOf_spec {s : St} {w : World} {K1 : Nat → Prop} : ∀ (args : List Arg) (i : Nat) (outs : Outs), outsOf s i args = some outs →
    (∀ j e rows0, args[j]? = some (.io e rows0) → ∃ rows, s.obj (ioBase + (i + j)) = some (.arr e rows 0 false)) ∧
    ∀ vs : List Value, args.length = vs.length → (∀ j e rows0 v rows, args[j]? = some (.io e rows0) → vs[j]? = some v → s.obj (ioBase + (i + j)) = some (.arr e rows 0 false) → OwnV w K1 e rows v ∧ ∀ b, blk v = some b → ¬ K1 b) →
      OutR w K1 args vs outs
  | [], i, outs, h => by
    simp [outsOf] at h; subst h
    refine ⟨by simp, fun vs hl _ => ?_⟩
    cases vs with
    | nil => rfl
    | cons v vs => simp at hl
  | g :: args, i, outs, h => by
    have step : ∀ o, outsOf s (i + 1) args = some o → (∀ j e rows0, args[j]? = some (.io e rows0) → ∃ rows, s.obj (ioBase + (i + (j + 1))) = some (.arr e rows 0 false)) ∧
        ∀ vs : List Value, args.length = vs.length → (∀ j e rows0 v rows, args[j]? = some (.io e rows0) → vs[j]? = some v → s.obj (ioBase + (i + (j + 1))) = some (.arr e rows 0 false) → OwnV w K1 e rows v ∧ ∀ b, blk v = some b → ¬ K1 b) →
          OutR w K1 args vs o := fun o ho => by
      have e : ∀ j, i + 1 + j = i + (j + 1) := fun j => by omega
      have := outsOf_spec (w := w) (K1 := K1) args (i + 1) o ho
      simpa only [e] using this
    have rest : (∀ e rows, g ≠ .io e rows) → outsOf s (i + 1) args = some outs → (∀ j e rows0, (g :: args)[j]? = some (.io e rows0) → ∃ rows, s.obj (ioBase + (i + j)) = some (.arr e rows 0 false)) ∧
        ∀ vs : List Value, (g :: args).length = vs.length → (∀ j e rows0 v rows, (g :: args)[j]? = some (.io e rows0) → vs[j]? = some v → s.obj (ioBase + (i + j)) = some (.arr e rows 0 false) → OwnV w K1 e rows v ∧ ∀ b, blk v = some b → ¬ K1 b) →
          OutR w K1 (g :: args) vs outs := fun hg ho => by
      obtain ⟨h1, h2⟩ := step outs ho
      refine ⟨fun j e rows0 hj => ?_, fun vs hl hv => ?_⟩
      · cases j with
        | zero => simp at hj; exact absurd hj (hg _ _)
        | succ j => exact h1 j e rows0 (by simpa using hj)
      · cases vs with
        | nil => simp at hl
        | cons v vs =>
          have := h2 vs (by simpa using hl) fun j e rows0 v' rows a1 a2 a3 => hv (j + 1) e rows0 v' rows (by simpa using a1) (by simpa using a2) a3
          cases g with
          | io e rows => exact absurd rfl (hg _ _)
          | _ => exact this
    cases g with
    | one x => exact rest (fun _ _ h => by cases h) h
    | agg x => exact rest (fun _ _ h => by cases h) h
    | mv e x => exact rest (fun _ _ h => by cases h) h
    | io e rows0 =>
      simp only [outsOf] at h
      split at h
      · rename_i e' rows ver hob
        rw [rowsLen_eq, rowsLen_eq] at h
        cases hb : (eqN ver 0 && (eqN rows.length rows0.length && eqN e' e)) with
        | false => rw [hb] at h; cases h
        | true =>
          rw [hb] at h
          simp only [Bool.and_eq_true] at hb
          obtain ⟨hb1, hb2, hb3⟩ := hb
          have hb1 := beq_eq hb1
          have hb2 := beq_eq hb2
          have hb3 := beq_eq hb3
          subst hb1; subst hb3
          cases ho : outsOf s (i + 1) args with
          | none => simp [ho] at h
          | some o =>
            simp [ho] at h
            subst h
            obtain ⟨h1, h2⟩ := step o ho
            refine ⟨fun j e rows1 hj => ?_, fun vs hl hv => ?_⟩
            · cases j with
              | zero => simp at hj; obtain ⟨rfl, _⟩ := hj; exact ⟨rows, hob⟩
              | succ j => exact h1 j e rows1 (by simpa using hj)
            · cases vs with
              | nil => simp at hl
              | cons v vs =>
                obtain ⟨k1, k2⟩ := hv 0 _ _ v rows rfl rfl hob
                exact ⟨rows, o, rfl, k1, hb2, k2, h2 vs (by simpa using hl) fun j e rows0 v' rows a1 a2 a3 => hv (j + 1) e rows0 v' rows (by simpa using a1) (by simpa using a2) a3⟩
      · cases h

theorem ioArgs_mem : ∀ (args : List Arg) (i j : Nat) (e : Nat) (rows : List (List C)), args[j]? = some (.io e rows) → ioBase + (i + j) ∈ ioArgs i args
  | [], _, j, _, _, h => by simp at h
  | g :: r, i, j, e, rows, h => by
    cases j with
    | zero => simp at h; subst h; simp [ioArgs]
    | succ j =>
      have := ioArgs_mem r (i + 1) j e rows (by simpa using h)
      have e1 : i + 1 + j = i + (j + 1) := by omega
      rw [e1] at this
      cases g <;> simp [ioArgs, this]

theorem frzAll_of {look : Nat → Option Ob} : ∀ (ks : List Nat), (∀ k ∈ ks, ∃ o, look k = some o ∧ o ≠ .dead) → ∃ us, (frzAll ks).get look = some us
  | [], _ => ⟨[], rfl⟩
  | k :: ks, h => by
    obtain ⟨us, hu⟩ := frzAll_of ks fun k hk => h k (by simp [hk])
    obtain ⟨o, ho, hd⟩ := h k (by simp)
    cases o with
    | dead => exact absurd rfl hd
    | box cells frz => exact ⟨(k, .box cells true) :: us, by simp [frzAll, ho, hu]⟩
    | arr e rows ver frz => exact ⟨(k, .arr e rows ver true) :: us, by simp [frzAll, ho, hu]⟩

section
variable {P : Program} {E : Cfg} {N : Ar} {call : Orc}

theorem end_post (hT : TabOk P E.T) {w w' : World} {K K' : Nat → Prop} {args : List Arg} {vs : Array Value} (hA : ArgsR w K args vs.toList) {s : St} {a : Act} {G : Gh} {fn : Func} {r : R} {outs : Outs}
    (I : Inv w.heap.size (OwnA args vs.toList) (base0 w K args vs.toList) G K' s a w') (hr : resultOf E s (ioArgs 0 args) fn.results.toList = some r) (ho : outsOf s 0 args = some outs) :
    ∃ v, (results fn a.tmps).run P w' = .ok v w' ∧ Post args vs.toList w K r outs v w' := by
  unfold resultOf at hr
  split at hr
  · rename_i xs lg hxs
    replace hxs := Rd.run_get _ _ _ _ _ hxs
    simp only at hr
    cases hc : (nodupN (xs.map (·.2.1)).flatten && (apartN (xs.map (·.2.1)).flatten (xs.map (·.2.2)).flatten && (apartN (xs.map (·.2.1)).flatten (ioArgs 0 args) && apartN (ioArgs 0 args) (xs.map (·.2.2)).flatten))) with
    | false => rw [hc] at hr; cases hr
    | true =>
      rw [hc] at hr
      simp only [Bool.and_eq_true] at hc
      obtain ⟨c1, e2, e3, e4⟩ := hc
      have c2 := apartN_spec e2
      have c3 := apartN_spec e3
      have c4 := apartN_spec e4
      obtain ⟨us, hrun, hlive, hthere, hexp⟩ := resOfs_spec hT I fn.results.toList xs hxs
      obtain ⟨fz, hfz⟩ := frzAll_of _ hthere
      obtain ⟨K1, I1, k1, k2, k3, k4, k5⟩ := freeze_spec I _ fz hfz
      obtain ⟨l, hRT, hLO⟩ := hexp K1 k1 k3
      obtain ⟨o1, o2⟩ := outsOf_spec (w := w') (K1 := K1) args 0 outs ho
      have hkeep : ∀ k o, s.obj k = some o → k ∉ (xs.map (·.2.2)).flatten → (St.mk s.fr (fz ++ s.ob)).obj k = some o := fun k o hk hn => by rw [k4 k o hk, if_neg hn]
      -- arguments handed in and out
      have hio : ∀ j e rows0 v, args[j]? = some (.io e rows0) → vs.toList[j]? = some v → ∃ rows, s.obj (ioBase + j) = some (.arr e rows 0 false) ∧ G.val (ioBase + j) = v ∧ (ioBase + j) ∈ ioArgs 0 args := fun j e rows0 v hj hv => by
        obtain ⟨rows, hob⟩ := o1 j e rows0 hj
        rw [Nat.zero_add] at hob
        have hg := I.gh (ioBase + j) v (gh0_at hj hv rfl)
        cases hg with
        | ref hob' _ _ hval =>
          rw [hob] at hob'
          cases hob'
          have := ioArgs_mem args 0 j e rows0 hj
          rw [Nat.zero_add] at this
          exact ⟨rows, hob, (hval _ _ _ rfl).symm, this⟩
      have hown : ∀ b, OwnA args vs.toList b → MvA args vs.toList b ∨ ∃ k o, s.obj k = some o ∧ o.live = true ∧ blk (G.val k) = some b ∧ k ∈ ioArgs 0 args := fun b ⟨j, g, v, hg, hog, hv, hb⟩ => by
        cases g with
        | one x => cases hog
        | agg x => cases hog
        | mv e rows => exact .inl ⟨j, _, v, hg, rfl, hv, hb⟩
        | io e rows =>
          obtain ⟨rows', h1, h2, h3⟩ := hio j e rows v hg hv
          exact .inr ⟨_, _, h1, rfl, by rw [h2]; exact hb, h3⟩
      refine ⟨_, results_run hrun, K1, l, I.chg, fun b hb => k1 b (I.k0 b hb), I1.Kb, fun b hb => ?_, ?_, fun i u b hu hb => ?_, ?_, ?_⟩
      · rcases I1.kb b hb with h | h | h
        · exact .inl h
        · exact .inr (.inl h)
        · rcases hown b h with h | ⟨k, o, h1, h2, h3, h4⟩
          · exact .inr (.inr h)
          · exact absurd hb (I1.own k o b (hkeep k o h1 (c4 k h4)) h2 h3).2
      · simp only [cond_true] at hr
        split at hr
        · rename_i x
          simp only [Option.some.injEq] at hr
          subst hr
          have key : ∀ us l, RT w' K1 [x.1] us l → RR w' K1 x.1 (retV us) l := fun us l hRT => by
            match us, hRT with
            | [], h => cases h
            | _ :: _ :: _, h => obtain ⟨_, _, _, h, _⟩ := h; cases h
            | [u], h =>
              obtain ⟨l1, l2, h1, h2, rfl⟩ := h
              have h2 : l2 = [] := h2
              subst h2
              rw [List.append_nil]
              obtain ⟨x1, x2⟩ := x
              cases x1 with
              | tup rs => cases h1
              | one x => exact h1
              | agg x => exact h1
          exact key us l hRT
        · rename_i hne
          simp only [Option.some.injEq] at hr
          subst hr
          have hul : us.length = xs.length := by
            have : ∀ (rs : List R) (us l : List Value), RT w' K1 rs us l → us.length = rs.length := by
              intro rs
              induction rs with
              | nil => intro us l h; cases us with | nil => rfl | cons => cases h
              | cons r rs ih => intro us l h; cases us with | nil => cases h | cons u us => obtain ⟨_, _, _, h, _⟩ := h; simp [ih us _ h]
            simpa using this _ _ _ hRT
          have : retV us = .tuple us.toArray := by
            match us, hul with
            | [], _ => rfl
            | [u], h =>
              exfalso
              match xs, h, hne with
              | [x], _, hne => exact hne x rfl
            | _ :: _ :: _, _ => rfl
          rw [this]
          exact ⟨us.toArray, rfl, hRT⟩
      · obtain ⟨k, hk, hbk⟩ := hLO.at' hu hb
        obtain ⟨o, hob, hl⟩ := hlive k hk
        refine ⟨?_, (I1.own k o b (hkeep k o hob (c2 k hk)) hl hbk).2⟩
        rcases (I.own k o b hob hl hbk).1 with h | h
        · exact .inl h
        · rcases hown b h with h | ⟨k', o', h1, h2, h3, h4⟩
          · exact .inr h
          · exact absurd h3 (I.dis k k' o o' b (fun e => c3 k hk (e ▸ h4)) hob h1 hl h2 hbk)
      · exact hLO.pair c1 fun k hk k' hk' b hne hb hb' => by
          obtain ⟨o, h1, h2⟩ := hlive k hk
          obtain ⟨o', h1', h2'⟩ := hlive k' hk'
          exact I.dis k k' o o' b hne h1 h1' h2 h2' hb hb'
      · refine o2 vs.toList hA.len fun j e rows0 v rows hj hv hob => ?_
        rw [Nat.zero_add] at hob
        obtain ⟨rows', h1, h2, h3⟩ := hio j e rows0 v hj hv
        have hk := hkeep _ _ hob (c4 _ h3)
        obtain ⟨ty, ys, h4, h5, _⟩ := I1.ob _ _ hk
        rw [h2] at h4
        exact ⟨⟨ty, ys, h4, h5⟩, fun b hb => (I1.own _ _ b hk rfl (by rw [h2]; exact hb)).2⟩
  · cases hr

theorem evalF_sat (hm : P.follows .mixedOrders = true) (H : Env P E N call) {f : Nat} {fn : Func} {c : Code} (hf : P.funcs[f]? = some fn) (hname : fn.name ≠ "runtime.NumGoroutine") (hb : fn.body = some c)
    (hok : codeOk fn.ntmps c = true) {fuel : Nat} {args : List Arg} {r : R} {outs : Outs} (h : evalF E N call fuel f fn args = some (r, outs)) : Sat P f args r outs := by
  refine ⟨⟨fn, hf, by simp [hb], hname⟩, fun w vs K hA => calls_of_wp hf hb ?_⟩
  simp only [evalF, hb] at h
  have I0 := entry_inv hA (fn.ntmps - vs.size)
  refine evalC_keeps hm H (n := vs.size + (fn.ntmps - vs.size)) fuel f c 0 (codeOk_mono (by omega) c hok) _ _ (r, outs) _ _ w _ K h (by simp) I0 fun e s' he a' w' G' K' hn' I' => ?_
  have fin : (match resultOf E s' (ioArgs 0 args) fn.results.toList, outsOf s' 0 args with | some r, some o => some (r, o) | _, _ => none) = some (r, outs) →
      a'.defers = [] ∧ ∃ v, (results fn a'.tmps).run P w' = .ok v w' ∧ ∃ v', Ending.returned v = .returned v' ∧ Post args vs.toList w K r outs v' w' := fun he => by
    refine ⟨I'.df, ?_⟩
    split at he
    · rename_i r' o' h1 h2
      cases he
      obtain ⟨v, h3, h4⟩ := end_post H.T hA (fn := fn) I' h1 h2
      exact ⟨v, h3, v, rfl, h4⟩
    · cases he
  cases e with
  | normal => exact fin he
  | ret => exact fin he
  | exit id => cases he

/-- what is asked of a table of functions -/
def FnOk (P : Program) (E : Cfg) : Prop := ∀ f fn, E.F f = some fn → P.funcs[f]? = some fn ∧ fn.name ≠ "runtime.NumGoroutine" ∧ ∀ c, fn.body = some c → codeOk fn.ntmps c = true

/-- what is asked of the functions shown apart -/
def XOk (P : Program) (E : Cfg) : Prop := ∀ f args r outs, E.F f = none → E.X f args = some (r, outs) → Sat P f args r outs

theorem evalFn_sat (hm : P.follows .mixedOrders = true) (hN : NOk N) (hT : TabOk P E.T) (hE : EqOk P E.eqT) (hI : ∀ t k, E.ik t = some k → P.underlying t = some (.int k)) (hFT : FtOk P E.fty) (hF : FnOk P E) (hX : XOk P E) : ∀ (n f : Nat) (args : List Arg) (r : R) (outs : Outs), evalFn E N n f args = some (r, outs) → Sat P f args r outs := by
  intro n
  induction n with
  | zero => intro f args r outs h; simp [evalFn] at h
  | succ n ih =>
    intro f args r outs h
    simp only [evalFn] at h
    split at h
    · rename_i fn hfn
      obtain ⟨h1, h2, h3⟩ := hF f fn hfn
      cases hb : fn.body with
      | none => simp [evalF, hb] at h
      | some c => exact evalF_sat hm ⟨hN, hT, hI, hFT, hE, ih⟩ h1 h2 hb (h3 c hb) h
    · rename_i hfn
      exact hX f args r outs hfn h
end
end Am

namespace Am
open Go
variable [RowOps] [LoopOps]
open RowOps LoopOps

theorem Rd.run_bind {α β : Type} (look : Nat → Option Ob) (m : Rd α) (g : α → Rd β) : ∀ l, (m.bind g).run look l = (m.run look l).bind fun p => (g p.1).run look p.2 := by
  induction m with
  | ret a => intro l; rfl
  | look k f ih => intro l; exact ih _ _
  | fail => intro l; rfl

def leO (c c' : Orc) : Prop := ∀ f args x, c f args = some x → c' f args = some x
theorem leO.refl (c : Orc) : leO c c := fun _ _ _ h => h

section
variable {E : Cfg} {N : Ar}

theorem callW_mono {c c' : Orc} {d : Option Nat} {f : Nat} {ws : List W} {look : Nat → Option Ob} {l : List Nat} {x : Eff × List Nat}
    (hc : ∀ args y, c f args = some y → c' f args = some y) (h : (callW E c d f ws).run look l = some x) : (callW E c' d f ws).run look l = some x := by
  unfold callW at h ⊢
  rw [Rd.run_bind] at h ⊢
  obtain ⟨p, hp, h⟩ := Option.bind_eq_some_iff.1 h
  rw [hp, Option.bind_some]
  cases hcl : c f p.1 with
  | none => simp [hcl, Rd.run] at h
  | some y => rw [hcl] at h; rw [hc _ _ hcl]; exact h

/-- the one place where a function is asked -/
theorem eop_ask {c : Orc} {sl : Nat → Option W} {d : Option Nat} {ty : Nat} {o : Op} {look : Nat → Option Ob} {l : List Nat} {x : Eff × List Nat} (h : (eop E N c sl d ty o).run look l = some x) :
    (∀ c', (eop E N c' sl d ty o).run look l = some x) ∨ ∃ f args y, c f args = some y ∧ ∀ c', c' f args = some y → (eop E N c' sl d ty o).run look l = some x := by
  have key : ∀ f ws, (callW E c d f ws).run look l = some x → ∃ args y, c f args = some y ∧ ∀ c' : Orc, c' f args = some y → (callW E c' d f ws).run look l = some x := fun f ws h => by
    unfold callW at h
    rw [Rd.run_bind] at h
    obtain ⟨p, hp, h⟩ := Option.bind_eq_some_iff.1 h
    cases hcl : c f p.1 with
    | none => simp [hcl, Rd.run] at h
    | some y =>
      refine ⟨_, y, hcl, fun c' hc' => ?_⟩
      unfold callW
      rw [Rd.run_bind, hp, Option.bind_some, hc']
      rw [hcl] at h
      exact h
  cases o with
  | call cl =>
    simp only [eop] at h ⊢
    split at h
    · simp [Rd.run] at h
    · rename_i ws hws
      split at h
      · left; intro c'; exact h
      · split at h
        · obtain ⟨args, y, h1, h2⟩ := key _ _ h
          exact .inr ⟨_, args, y, h1, h2⟩
        · obtain ⟨args, y, h1, h2⟩ := key _ _ h
          exact .inr ⟨_, args, y, h1, h2⟩
        · simp [Rd.run] at h
      · simp [Rd.run] at h
  | makeFunc fn first caps => left; intro c'; cases fn <;> exact h
  | _ => left; intro c'; exact h

theorem eop_mono {c c' : Orc} (hc : leO c c') {sl : Nat → Option W} {d : Option Nat} {ty : Nat} {o : Op} {look : Nat → Option Ob} {l : List Nat} {x : Eff × List Nat} (h : (eop E N c sl d ty o).run look l = some x) :
    (eop E N c' sl d ty o).run look l = some x := by
  rcases eop_ask h with h | ⟨f, args, y, h1, h2⟩
  · exact h c'
  · exact h2 c' (hc _ _ _ h1)

/-- a chain of oracles, and its limit -/
structure Chain (c : Nat → Orc) (O : Orc) : Prop where
  mono : ∀ n m, n ≤ m → leO (c n) (c m)
  lim : ∀ f args x, O f args = some x → ∃ n, c n f args = some x

theorem eop_lim {c : Nat → Orc} {O : Orc} (H : Chain c O) {sl : Nat → Option W} {d : Option Nat} {ty : Nat} {o : Op} {look : Nat → Option Ob} {l : List Nat} {x : Eff × List Nat} (h : (eop E N O sl d ty o).run look l = some x) :
    ∃ n, (eop E N (c n) sl d ty o).run look l = some x := by
  rcases eop_ask h with h | ⟨f, args, y, h1, h2⟩
  · exact ⟨0, h _⟩
  · obtain ⟨n, hn⟩ := H.lim _ _ _ h1
    exact ⟨n, h2 _ hn⟩

section
variable {ρ : Type} {x : ρ}

/-- what follows, along the chain -/
def Up (C' : Nat → St → Option ρ) (x : ρ) : Prop := ∀ n m s, n ≤ m → C' n s = some x → C' m s = some x

theorem runOps_mono {c c' : Orc} (hc : leO c c') {all : Array Oper} {C C' : St → Option ρ} (hC : ∀ s, C s = some x → C' s = some x) : ∀ (l : List Oper) (s : St), runOps E N c all l s C = some x → runOps E N c' all l s C' = some x
  | [], s, h => hC s h
  | o :: r, s, h => by
    simp only [runOps] at h ⊢
    split at h
    · rename_i t ht
      cases t with
      | true =>
        simp only [cond_true] at h ⊢
        split at h
        · rename_i e lg he
          rw [eop_mono hc he]
          exact runOps_mono hc hC r _ h
        · cases h
      | false => exact runOps_mono hc hC r _ h
    · cases h

theorem runOps_lim {c : Nat → Orc} {O : Orc} (H : Chain c O) {all : Array Oper} {C : St → Option ρ} {C' : Nat → St → Option ρ} (hC : ∀ s, C s = some x → ∃ n, C' n s = some x) (hU : Up C' x) :
    ∀ (l : List Oper) (s : St), runOps E N O all l s C = some x → ∃ n, runOps E N (c n) all l s (C' n) = some x
  | [], s, h => hC s h
  | o :: r, s, h => by
    simp only [runOps] at h
    split at h
    · rename_i t ht
      cases t with
      | true =>
        simp only [cond_true] at h
        split at h
        · rename_i e lg he
          obtain ⟨n, hn⟩ := eop_lim H he
          obtain ⟨m, hm⟩ := runOps_lim H hC hU r _ h
          refine ⟨max n m, ?_⟩
          simp only [runOps, ht, cond_true, eop_mono (H.mono n _ (Nat.le_max_left n m)) hn]
          exact runOps_mono (H.mono m _ (Nat.le_max_right n m)) (fun s hs => hU _ _ _ (Nat.le_max_right n m) hs) r _ hm
        · cases h
      | false =>
        obtain ⟨m, hm⟩ := runOps_lim H hC hU r _ h
        refine ⟨m, ?_⟩
        simp only [runOps, ht, cond_false]
        exact hm
    · cases h

theorem runDraw_mono {c c' : Orc} (hc : leO c c') {all : Array Oper} {C C' : St → Option ρ} (hC : ∀ s, C s = some x → C' s = some x) : ∀ (l : List Oper) (i : Nat) (d : List (Nat × Oper × List Nat × List Nat)) (s : St),
    runDraw E N c all i d l s C = some x → runDraw E N c' all i d l s C' = some x
  | [], i, d, s, h => hC s h
  | o :: r, i, d, s, h => by
    simp only [runDraw] at h ⊢
    split at h
    · rename_i t ht
      cases t with
      | true =>
        simp only [cond_true] at h ⊢
        split at h
        · rename_i e lg he
          rw [eop_mono hc he]
          simp only
          cases ha : apartFrom all o lg (e.upd.map (·.1)) d with
          | false => simp [ha] at h
          | true => simp only [ha, cond_true] at h ⊢; exact runDraw_mono hc hC r _ _ _ h
        · cases h
      | false =>
        simp only [cond_false] at h ⊢
        cases ha : apartFrom all o [] [] d with
        | false => simp [ha] at h
        | true => simp only [ha, cond_true] at h ⊢; exact runDraw_mono hc hC r _ _ _ h
    · cases h

theorem runDraw_lim {c : Nat → Orc} {O : Orc} (H : Chain c O) {all : Array Oper} {C : St → Option ρ} {C' : Nat → St → Option ρ} (hC : ∀ s, C s = some x → ∃ n, C' n s = some x) (hU : Up C' x) :
    ∀ (l : List Oper) (i : Nat) (d : List (Nat × Oper × List Nat × List Nat)) (s : St), runDraw E N O all i d l s C = some x → ∃ n, runDraw E N (c n) all i d l s (C' n) = some x
  | [], i, d, s, h => hC s h
  | o :: r, i, d, s, h => by
    simp only [runDraw] at h
    split at h
    · rename_i t ht
      cases t with
      | true =>
        simp only [cond_true] at h
        split at h
        · rename_i e lg he
          cases ha : apartFrom all o lg (e.upd.map (·.1)) d with
          | false => simp [ha] at h
          | true =>
            simp only [ha, cond_true] at h
            obtain ⟨n, hn⟩ := eop_lim H he
            obtain ⟨m, hm⟩ := runDraw_lim H hC hU r _ _ _ h
            refine ⟨max n m, ?_⟩
            simp only [runDraw, ht, cond_true, eop_mono (H.mono n _ (Nat.le_max_left n m)) hn, ha]
            exact runDraw_mono (H.mono m _ (Nat.le_max_right n m)) (fun s hs => hU _ _ _ (Nat.le_max_right n m) hs) r _ _ _ hm
        · cases h
      | false =>
        simp only [cond_false] at h
        cases ha : apartFrom all o [] [] d with
        | false => simp [ha] at h
        | true =>
          simp only [ha, cond_true] at h
          obtain ⟨m, hm⟩ := runDraw_lim H hC hU r _ _ _ h
          refine ⟨m, ?_⟩
          simp only [runDraw, ht, cond_false, ha, cond_true]
          exact hm
    · cases h

theorem loopN_mono {can : St → Option St} {b b' : St → (Ex → St → Option ρ) → Option ρ} (hb : ∀ s (C C' : Ex → St → Option ρ), (∀ e s, C e s = some x → C' e s = some x) → b s C = some x → b' s C' = some x) :
    ∀ (n m : Nat) (s : St) (C C' : Ex → St → Option ρ), n ≤ m → (∀ e s, C e s = some x → C' e s = some x) → loopN can b n s C = some x → loopN can b' m s C' = some x
  | 0, _, s, C, C', _, _, h => by simp [loopN] at h
  | n + 1, 0, s, C, C', hle, _, h => by omega
  | n + 1, m + 1, s, C, C', hle, hC, h => by
    simp only [loopN] at h ⊢
    split at h
    · refine hb _ _ _ (fun e s' he => ?_) h
      cases e with
      | normal => exact loopN_mono hb n m s' C C' (by omega) hC he
      | ret => exact hC _ _ he
      | exit id => exact hC _ _ he
    · cases h

theorem evalC_mono {c c' : Orc} (hc : leO c c') {fuel fuel' f : Nat} (hf : fuel ≤ fuel') : ∀ (cd : Code) (b : Nat) (s : St) (C C' : Ex → St → Option ρ), (∀ e s, C e s = some x → C' e s = some x) →
    evalC E N c fuel f b cd s C = some x → evalC E N c' fuel' f b cd s C' = some x := by
  intro cd
  induction cd with
  | skip => intro b s C C' hC h; exact hC _ _ (by simpa [evalC] using h)
  | ret => intro b s C C' hC h; exact hC _ _ (by simpa [evalC] using h)
  | exit id => intro b s C C' hC h; exact hC _ _ (by simpa [evalC] using h)
  | region id ops draw =>
    intro b s C C' hC h
    simp only [evalC] at h ⊢
    cases draw with
    | true => exact runDraw_mono hc (hC _) _ _ _ _ h
    | false => exact runOps_mono hc (hC _) _ _ h
  | seq c1 c2 ih1 ih2 =>
    intro b s C C' hC h
    simp only [evalC] at h ⊢
    refine ih1 b s _ _ (fun e s' he => ?_) h
    cases e with
    | normal => exact ih2 b s' C C' hC he
    | ret => exact hC _ _ he
    | exit id => exact hC _ _ he
  | cond o c1 c2 ih1 ih2 =>
    intro b s C C' hC h
    simp only [evalC] at h ⊢
    split at h
    · rename_i t ht
      cases t with
      | true => exact ih1 b s C C' hC h
      | false => exact ih2 b s C C' hC h
    · cases h
  | block id cd ih =>
    intro b s C C' hC h
    simp only [evalC] at h ⊢
    refine ih id s _ _ (fun e s' he => ?_) h
    cases e with
    | normal => exact hC _ _ he
    | ret => exact hC _ _ he
    | exit j =>
      simp only at he ⊢
      cases hj : eqN j id <;> rw [hj] at he <;> exact hC _ _ he
  | loop cd ih =>
    intro b s C C' hC h
    simp only [evalC, loop_eq] at h ⊢
    exact loopN_mono (fun s C C' hC h => ih b s C C' hC h) fuel fuel' s C C' hf hC h
  | _ => intro b s C C' hC h; simp [evalC] at h

/-- what follows, along the chain -/
def Up' (C' : Nat → Ex → St → Option ρ) (x : ρ) : Prop := ∀ n m e s, n ≤ m → C' n e s = some x → C' m e s = some x

theorem evalC_lim {c : Nat → Orc} {O : Orc} (H : Chain c O) {fuel f : Nat} : ∀ (cd : Code) (b : Nat) (s : St) (C : Ex → St → Option ρ) (C' : Nat → Ex → St → Option ρ), (∀ e s, C e s = some x → ∃ n, C' n e s = some x) → Up' C' x →
    evalC E N O fuel f b cd s C = some x → ∃ n, evalC E N (c n) n f b cd s (C' n) = some x := by
  intro cd
  induction cd with
  | skip => intro b s C C' hC hU h; obtain ⟨n, hn⟩ := hC .normal s (by simpa [evalC] using h); exact ⟨n, by simpa [evalC] using hn⟩
  | ret => intro b s C C' hC hU h; obtain ⟨n, hn⟩ := hC .ret s (by simpa [evalC] using h); exact ⟨n, by simpa [evalC] using hn⟩
  | exit id => intro b s C C' hC hU h; obtain ⟨n, hn⟩ := hC (.exit id) s (by simpa [evalC] using h); exact ⟨n, by simpa [evalC] using hn⟩
  | region id ops draw =>
    intro b s C C' hC hU h
    simp only [evalC] at h ⊢
    cases draw with
    | true => exact runDraw_lim H (hC _) (fun n m s => hU n m _ s) _ _ _ _ h
    | false => exact runOps_lim H (hC _) (fun n m s => hU n m _ s) _ _ h
  | seq c1 c2 ih1 ih2 =>
    intro b s C C' hC hU h
    simp only [evalC] at h ⊢
    refine ih1 b s _ (fun n e s' => match e with | .normal => evalC E N (c n) n f b c2 s' (C' n) | .ret => C' n .ret s' | .exit id => C' n (.exit id) s') (fun e s' he => ?_) (fun n m e s' hnm he => ?_) h
    · cases e with
      | normal => exact ih2 b s' C C' hC hU he
      | ret => exact hC _ _ he
      | exit id => exact hC _ _ he
    · cases e with
      | normal => exact evalC_mono (H.mono n m hnm) hnm c2 b s' _ _ (fun e s h => hU n m e s hnm h) he
      | ret => exact hU n m _ _ hnm he
      | exit id => exact hU n m _ _ hnm he
  | cond o c1 c2 ih1 ih2 =>
    intro b s C C' hC hU h
    simp only [evalC] at h
    split at h
    · rename_i t ht
      cases t with
      | true => obtain ⟨n, hn⟩ := ih1 b s C C' hC hU h; exact ⟨n, by simp only [evalC, ht]; exact hn⟩
      | false => obtain ⟨n, hn⟩ := ih2 b s C C' hC hU h; exact ⟨n, by simp only [evalC, ht]; exact hn⟩
    · cases h
  | block id cd ih =>
    intro b s C C' hC hU h
    simp only [evalC] at h ⊢
    refine ih id s _ (fun n e s' => match e with | .normal => C' n .normal s' | .exit j => bif eqN j id then C' n .normal s' else C' n (.exit j) s' | .ret => C' n .ret s') (fun e s' he => ?_) (fun n m e s' hnm he => ?_) h
    · cases e with
      | normal => exact hC _ _ he
      | ret => exact hC _ _ he
      | exit j =>
        simp only at he ⊢
        cases hj : eqN j id <;> rw [hj] at he <;> exact hC _ _ he
    · cases e with
      | normal => exact hU n m _ _ hnm he
      | ret => exact hU n m _ _ hnm he
      | exit j =>
        simp only at he ⊢
        cases hj : eqN j id <;> rw [hj] at he <;> exact hU n m _ _ hnm he
  | loop cd ih =>
    intro b s C C' hC hU h
    simp only [evalC, loop_eq] at h ⊢
    have key : ∀ (k : Nat) (s : St), loopN (canon (E.live f b)) (evalC E N O fuel f b cd) k s C = some x → ∃ n, loopN (canon (E.live f b)) (evalC E N (c n) n f b cd) n s (C' n) = some x := by
      intro k
      induction k with
      | zero => intro s h; simp [loopN] at h
      | succ k ihk =>
        intro s h
        simp only [loopN] at h
        split at h
        · rename_i s1 hs1
          obtain ⟨n, hn⟩ := ih b s1 _ (fun n e s' => match e with | .normal => loopN (canon (E.live f b)) (evalC E N (c n) n f b cd) n s' (C' n) | .ret => C' n .ret s' | .exit id => C' n (.exit id) s') (fun e s' he => by
              cases e with
              | normal => exact ihk s' he
              | ret => exact hC _ _ he
              | exit id => exact hC _ _ he) (fun n m e s' hnm he => by
              cases e with
              | normal => exact loopN_mono (fun s C C' hC h => evalC_mono (H.mono n m hnm) hnm cd b s C C' hC h) n m s' _ _ hnm (fun e s h => hU n m e s hnm h) he
              | ret => exact hU n m _ _ hnm he
              | exit id => exact hU n m _ _ hnm he) h
          refine ⟨n + 1, ?_⟩
          simp only [loopN, hs1]
          refine evalC_mono (H.mono n _ (Nat.le_succ n)) (Nat.le_succ n) cd b s1 _ _ (fun e s' he => ?_) hn
          cases e with
          | normal => exact loopN_mono (fun s C C' hC h => evalC_mono (H.mono n _ (Nat.le_succ n)) (Nat.le_succ n) cd b s C C' hC h) n n s' _ _ (Nat.le_refl n) (fun e s h => hU n _ e s (Nat.le_succ n) h) he
          | ret => exact hU n _ _ _ (Nat.le_succ n) he
          | exit id => exact hU n _ _ _ (Nat.le_succ n) he
        · cases h
    exact key fuel s h
  | _ => intro b s C C' hC hU h; simp [evalC] at h
end

theorem evalF_mono {c c' : Orc} (hc : leO c c') {fuel fuel' f : Nat} (hf : fuel ≤ fuel') {fn : Func} {args : List Arg} {x : R × Outs} (h : evalF E N c fuel f fn args = some x) : evalF E N c' fuel' f fn args = some x := by
  unfold evalF at h ⊢
  split at h
  · exact evalC_mono hc hf _ _ _ _ _ (fun e s h => h) h
  · cases h

theorem evalFn_succ : ∀ (n : Nat), leO (evalFn E N n) (evalFn E N (n + 1))
  | 0 => fun f args x h => by simp [evalFn] at h
  | n + 1 => fun f args x h => by
    unfold evalFn at h ⊢
    split at h
    · exact evalF_mono (evalFn_succ n) (Nat.le_succ n) h
    · exact h
theorem evalFn_mono (n m : Nat) (h : n ≤ m) : leO (evalFn E N n) (evalFn E N m) := by
  induction h with
  | refl => exact leO.refl _
  | step _ ih => exact fun f args x h => evalFn_succ _ _ _ _ (ih _ _ _ h)

open Classical in
/-- what a function gives, however long it takes -/
noncomputable def O (E : Cfg) (N : Ar) : Orc := fun f args => if h : ∃ n x, evalFn E N n f args = some x then evalFn E N (choose h) f args else none

theorem O_iff {f : Nat} {args : List Arg} {x : R × Outs} : O E N f args = some x ↔ ∃ n, evalFn E N n f args = some x := by
  unfold O
  constructor
  · intro h
    split at h
    · exact ⟨_, h⟩
    · cases h
  · rintro ⟨n, hn⟩
    have hex : ∃ n x, evalFn E N n f args = some x := ⟨n, x, hn⟩
    rw [dif_pos hex]
    obtain ⟨y, hy⟩ := Classical.choose_spec hex
    have h1 := evalFn_mono _ _ (Nat.le_max_left n (Classical.choose hex)) _ _ _ hn
    have h2 := evalFn_mono _ _ (Nat.le_max_right n (Classical.choose hex)) _ _ _ hy
    rw [h1] at h2
    rw [hy, ← h2]

theorem O_chain : Chain (evalFn E N) (O E N) := ⟨evalFn_mono, fun _ _ _ h => O_iff.1 h⟩

/-- a run that asks the limit -/
theorem O_of {f : Nat} {fn : Func} {args : List Arg} {x : R × Outs} (fuel : Nat) (hf : E.F f = some fn) (h : evalF E N (O E N) fuel f fn args = some x) : O E N f args = some x := by
  unfold evalF at h
  split at h
  · rename_i c hb
    obtain ⟨n, hn⟩ := evalC_lim O_chain c 0 _ _ (fun _ e s => match e with
      | .exit _ => none
      | _ => match resultOf E s (ioArgs 0 args) fn.results.toList, outsOf s 0 args with
        | some r, some o => some (r, o)
        | _, _ => none) (fun e s h => ⟨0, h⟩) (fun _ _ _ _ _ h => h) h
    refine O_iff.2 ⟨n + 1, ?_⟩
    simp only [evalFn, hf, evalF, hb]
    exact hn
  · cases h
end

/-- a function shown apart -/
theorem O_x {E : Cfg} {N : Ar} {f : Nat} {args : List Arg} {x : R × Outs} (hf : E.F f = none) (h : E.X f args = some x) : O E N f args = some x :=
  O_iff.2 ⟨1, by simp only [evalFn, hf]; exact h⟩

theorem O_sat {P : Program} {E : Cfg} {N : Ar} (hm : P.follows .mixedOrders = true) (hN : NOk N) (hT : TabOk P E.T) (hE : EqOk P E.eqT) (hI : ∀ t k, E.ik t = some k → P.underlying t = some (.int k)) (hFT : FtOk P E.fty) (hF : FnOk P E) (hX : XOk P E) {f : Nat} {args : List Arg} {r : R} {outs : Outs} (h : O E N f args = some (r, outs)) : Sat P f args r outs := by
  obtain ⟨n, hn⟩ := O_iff.1 h
  exact evalFn_sat hm hN hT hE hI hFT hF hX n f args r outs hn
end Am

