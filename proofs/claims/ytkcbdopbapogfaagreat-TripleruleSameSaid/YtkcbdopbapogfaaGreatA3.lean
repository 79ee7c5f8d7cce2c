/-
  A computable evaluator of loaded code over values, and that what it answers is what the code does: this text proves no law of the program; it holds without conditions.
  By an AI agent. No person has read it.
-/
import Derived.Test.YtkcbdopbapogfaaGreatA2
set_option linter.all false
namespace Am
open Go
variable [RowOps] [LoopOps]
open RowOps LoopOps

/-! contracts -/
def OwnV (w : World) (K : Nat → Prop) (e : Nat) (rows : List (List C)) (v : Value) : Prop :=
  ∃ ty xs, w.ownsRow 0 ty e v rows.length xs ∧ Rows w K e rows xs

def ArgR (w : World) (K : Nat → Prop) : Arg → Value → Prop
  | .one x, v => RC w K x v
  | .agg xs, v => ∃ us : Array Value, v = .agg us ∧ xs.length = us.size ∧ ∀ (j : Nat) (c : C) (u : Value), xs[j]? = some c → us[j]? = some u → RC w K c u
  | .mv e rows, v => OwnV w K e rows v ∧ ∀ b, blk v = some b → ¬ K b
  | .io e rows, v => OwnV w K e rows v ∧ ∀ b, blk v = some b → ¬ K b

def Arg.own : Arg → Bool
  | .mv .. | .io .. => true
  | _ => false
def Arg.isMv : Arg → Bool
  | .mv .. => true
  | _ => false

structure ArgsR (w : World) (K : Nat → Prop) (args : List Arg) (vs : List Value) : Prop where
  len : args.length = vs.length
  rep : ∀ (i : Nat) (g : Arg) (v : Value), args[i]? = some g → vs[i]? = some v → ArgR w K g v
  apart : ∀ (i j : Nat) (g g' : Arg) (v v' : Value) (b : Nat), i ≠ j → args[i]? = some g → args[j]? = some g' → g.own = true → g'.own = true → vs[i]? = some v → vs[j]? = some v' → blk v = some b → blk v' ≠ some b
  Kb : ∀ b, K b → b < w.heap.size

def OwnA (args : List Arg) (vs : List Value) (b : Nat) : Prop := ∃ (i : Nat) (g : Arg) (v : Value), args[i]? = some g ∧ g.own = true ∧ vs[i]? = some v ∧ blk v = some b
def MvA (args : List Arg) (vs : List Value) (b : Nat) : Prop := ∃ (i : Nat) (g : Arg) (v : Value), args[i]? = some g ∧ g.isMv = true ∧ vs[i]? = some v ∧ blk v = some b

def R1R (w : World) (K : Nat → Prop) : R1 → Value → Prop
  | .d x, v => RC w K x v
  | .own e rows, v => OwnV w K e rows v ∧ v.oneCell' = true
def lv1 : R1 → Value → List Value
  | .own _ _, v => [v]
  | _, _ => []
def lvs : List R1 → List Value → List Value
  | x :: xs, v :: vs => lv1 x v ++ lvs xs vs
  | _, _ => []
def RL (w : World) (K : Nat → Prop) : List R1 → List Value → Prop
  | [], [] => True
  | x :: xs, v :: vs => R1R w K x v ∧ RL w K xs vs
  | _, _ => False
def RR0 (w : World) (K : Nat → Prop) : R → Value → List Value → Prop
  | .one x, v, l => R1R w K x v ∧ l = lv1 x v
  | .agg xs, v, l => ∃ us : Array Value, v = .agg us ∧ RL w K xs us.toList ∧ l = lvs xs us.toList
  | .tup _, _, _ => False
def RT (w : World) (K : Nat → Prop) : List R → List Value → List Value → Prop
  | [], [], l => l = []
  | r :: rs, v :: vs, l => ∃ l1 l2, RR0 w K r v l1 ∧ RT w K rs vs l2 ∧ l = l1 ++ l2
  | _, _, _ => False
def RR (w : World) (K : Nat → Prop) : R → Value → List Value → Prop
  | .tup rs, v, l => ∃ us : Array Value, v = .tuple us ∧ RT w K rs us.toList l
  | r, v, l => RR0 w K r v l

def OutR (w : World) (K : Nat → Prop) : List Arg → List Value → Outs → Prop
  | [], [], o => o = []
  | .io e rows :: as, v :: vs, o => ∃ rows' o', o = rows' :: o' ∧ OwnV w K e rows' v ∧ rows'.length = rows.length ∧ (∀ b, blk v = some b → ¬ K b) ∧ OutR w K as vs o'
  | _ :: as, _ :: vs, o => OutR w K as vs o
  | _, _, _ => False

def Post (args : List Arg) (vs : List Value) (w : World) (K : Nat → Prop) (r : R) (outs : Outs) (v : Value) (w' : World) : Prop :=
  ∃ K' l, Chg w.heap.size (OwnA args vs) w w' ∧ (∀ b, K b → K' b) ∧ (∀ b, K' b → b < w'.heap.size) ∧ (∀ b, K' b → K b ∨ w.heap.size ≤ b ∨ MvA args vs b) ∧
    RR w' K' r v l ∧ (∀ (i : Nat) (u : Value) (b : Nat), l[i]? = some u → blk u = some b → (w.heap.size ≤ b ∨ MvA args vs b) ∧ ¬ K' b) ∧
    (∀ (i j : Nat) (u u' : Value) (b : Nat), i ≠ j → l[i]? = some u → l[j]? = some u' → blk u = some b → blk u' ≠ some b) ∧ OutR w' K' args vs outs

def Sat (P : Program) (f : Nat) (args : List Arg) (r : R) (outs : Outs) : Prop :=
  (∃ fn, P.funcs[f]? = some fn ∧ fn.body.isSome = true ∧ fn.name ≠ "runtime.NumGoroutine") ∧
  ∀ (w : World) (vs : Array Value) (K : Nat → Prop), ArgsR w K args vs.toList → Calls P f vs w fun e w' => ∃ v, e = .returned v ∧ Post args vs.toList w K r outs v w'

theorem OwnV.mono {w w' : World} {K K' : Nat → Prop} (hw : ∀ b, K b → w'.heap[b]? = w.heap[b]?) (hK : ∀ b, K b → K' b) {e : Nat} {rows : List (List C)} {v : Value}
    (hb : ∀ b, blk v = some b → w'.heap[b]? = w.heap[b]?) (h : OwnV w K e rows v) : OwnV w' K' e rows v := by
  obtain ⟨ty, xs, h1, h2⟩ := h
  exact ⟨ty, xs, ownsRow_block h1 hb, h2.mono hw hK⟩

section
variable {P : Program} {E : Cfg} {N : Ar} {call : Orc} {B : Nat} {Own : Nat → Prop} {w0 : Base} {G : Gh} {K : Nat → Prop} {s : St} {a : Act} {w : World}

/-- the state is what its lookups say -/
theorem Inv.congr {s' : St} (I : Inv B Own w0 G K s a w) (h1 : ∀ t, s'.slot t = s.slot t) (h2 : ∀ k, s'.obj k = s.obj k) : Inv B Own w0 G K s' a w := by
  have e2 : s'.obj = s.obj := funext h2
  exact ⟨fun t x hx => by rw [e2]; exact I.fr t x (by rw [← h1]; exact hx), fun k o ho => by rw [e2] at ho ⊢; exact I.ob k o ho, by rw [e2]; exact I.dis, by rw [e2]; exact I.own, I.Kb, I.sz, I.chg, I.df, I.kb, I.k0, by rw [e2]; exact I.gh⟩

theorem flat_rc {w' : World} {K1 : Nat → Prop} {x : R1} {v : Value} (hf : x.flat = 0) (h : R1R w' K1 x v) (K2 : Nat → Prop) (w2 : World) : R1R w2 K2 x v ∧ lv1 x v = [] := by
  cases x with
  | d c =>
    cases c with
    | v x => cases h with | v h => exact ⟨.v h, rfl⟩
    | sl nl e rows => simp [R1.flat] at hf
    | ptr cs => simp [R1.flat] at hf
    | clo f cs => simp [R1.flat] at hf
  | own e rows => simp [R1.flat] at hf

/-- one own result laid among the objects -/
theorem imp_own (I : Inv B Own w0 G K s a w) {k e : Nat} {rows : List (List C)} {v : Value} (hf : s.obj k = none) (h : OwnV w K e rows v) (h1 : v.oneCell' = true)
    (hb : ∀ b, blk v = some b → (B ≤ b ∨ Own b) ∧ ¬ K b ∧ ∀ k' o', s.obj k' = some o' → o'.live = true → blk (G.val k') ≠ some b) :
    ∃ G', Inv B Own w0 G' K ⟨s.fr, (k, .arr e rows 0 false) :: s.ob⟩ a w ∧ ObStep G G' s.obj (St.mk s.fr ((k, .arr e rows 0 false) :: s.ob)).obj ∧ (∀ k', k' ≠ k → G'.val k' = G.val k') ∧ G'.val k = v ∧
      RA G' (St.mk s.fr ((k, .arr e rows 0 false) :: s.ob)).obj w K (.ref k 0 none) v := by
  obtain ⟨ty, xs, hown, hrows⟩ := h
  refine ⟨G.set k v ty, I.addKey hf (.arr e rows 0 false) v ty ⟨ty, xs, by simpa using hown, hrows, fun h => by cases h⟩ (fun _ b hbv => hb b hbv), ObStep.add G s hf _ _ _, fun k' h => by simp [h], by simp, ?_⟩
  exact .ref (o := .arr e rows 0 false) (by rw [obj_cons, if_pos rfl]) h1 (fun _ _ _ _ h => by cases h; exact Nat.le_refl _) fun _ _ _ _ => by simp [WinV]

theorem freshAll_get : ∀ (us : List (Nat × Ob)) {look : Nat → Option Ob} {u : Unit}, (freshAll us).get look = some u → ∀ x ∈ us, look x.1 = none
  | [], _, _, _, x, h => by simp at h
  | (k, o) :: r, look, u, h, x, hx => by
    simp only [freshAll, fresh, Rd.get_bind, Rd.get_look] at h
    cases hl : look k with
    | some o => simp [hl] at h
    | none =>
      simp [hl] at h
      rcases List.mem_cons.1 hx with rfl | hx
      · exact hl
      · exact freshAll_get r h x hx

theorem find_none {α : Type} {k : Nat} : ∀ {l : List (Nat × α)}, (∀ x ∈ l, x.1 ≠ k) → find k l = none
  | [], _ => rfl
  | (j, y) :: r, h => by
    have : eqN j k = false := by rw [Bool.eq_false_iff]; exact fun hb => h (j, y) (by simp) (beq_eq hb)
    simp only [find, this, cond_false]
    exact find_none (fun x hx => h x (List.mem_cons_of_mem _ hx))

/-- the keys that a result takes -/
theorem impCells_keys (t : Nat) : ∀ (xs : List R1) (j : Nat), ∀ u ∈ (impCells t j xs).2.2, ∃ m, j ≤ m ∧ m < (impCells t j xs).2.1 ∧ u.1 = t + keyMax * m
  | [], j, u, h => by simp [impCells] at h
  | .d x :: r, j, u, h => by
    simp only [impCells] at h ⊢
    exact impCells_keys t r j u h
  | .own e rows :: r, j, u, h => by
    simp only [impCells] at h ⊢
    rcases List.mem_cons.1 h with rfl | h
    · refine ⟨j, Nat.le_refl _, ?_, rfl⟩
      clear h
      have : ∀ (xs : List R1) (j : Nat), j ≤ (impCells t j xs).2.1 := by
        intro xs
        induction xs with
        | nil => intro j; simp [impCells]
        | cons x r ih => intro j; cases x with
          | d x => simpa [impCells] using ih j
          | own e rows => simp only [impCells]; exact Nat.le_trans (Nat.le_succ j) (ih (j + 1))
      exact Nat.lt_of_lt_of_le (Nat.lt_succ_self j) (this r (j + 1))
    · obtain ⟨m, h1, h2, h3⟩ := impCells_keys t r (j + 1) u h
      exact ⟨m, by omega, h2, h3⟩

/-- results' cells laid among the objects -/
theorem impCells_spec (t : Nat) : ∀ (xs : List R1) (vs : List Value) (j : Nat) (G : Gh) (s : St), Inv B Own w0 G K s a w → (∀ u ∈ (impCells t j xs).2.2, s.obj u.1 = none) → RL w K xs vs →
    (∀ (i : Nat) (u : Value) (b : Nat), (lvs xs vs)[i]? = some u → blk u = some b → (B ≤ b ∨ Own b) ∧ ¬ K b ∧ ∀ k o, s.obj k = some o → o.live = true → blk (G.val k) ≠ some b) →
    (∀ (i i' : Nat) (u u' : Value) (b : Nat), i ≠ i' → (lvs xs vs)[i]? = some u → (lvs xs vs)[i']? = some u' → blk u = some b → blk u' ≠ some b) →
    ∃ G', Inv B Own w0 G' K ⟨s.fr, (impCells t j xs).2.2 ++ s.ob⟩ a w ∧ ObStep G G' s.obj (St.mk s.fr ((impCells t j xs).2.2 ++ s.ob)).obj ∧ CR G' (St.mk s.fr ((impCells t j xs).2.2 ++ s.ob)).obj w K (impCells t j xs).1 vs ∧
      (∀ k o b, (St.mk s.fr ((impCells t j xs).2.2 ++ s.ob)).obj k = some o → o.live = true → blk (G'.val k) = some b → (∃ o', s.obj k = some o' ∧ o'.live = true ∧ blk (G.val k) = some b) ∨ ∃ u ∈ lvs xs vs, blk u = some b)
  | [], [], j, G, s, I, _, _, _, _ => ⟨G, I, ObStep.refl G s.obj, ⟨rfl, fun j c x h => by simp [impCells] at h⟩, fun k o b h1 h2 h3 => .inl ⟨o, h1, h2, h3⟩⟩
  | [], _ :: _, _, _, _, _, _, h, _, _ => by simp [RL] at h
  | _ :: _, [], _, _, _, _, _, h, _, _ => by simp [RL] at h
  | .d x :: xs, v :: vs, j, G, s, I, hf, hr, hb, hd => by
    obtain ⟨h1, h2⟩ := hr
    obtain ⟨G', I', hs, hc, hl⟩ := impCells_spec t xs vs j G s I (by simpa [impCells] using hf) h2 (by simpa [lvs, lv1] using hb) (by simpa [lvs, lv1] using hd)
    refine ⟨G', by simpa [impCells] using I', by simpa [impCells] using hs, ?_, by simpa [impCells, lvs, lv1] using hl⟩
    simp only [impCells]
    refine ⟨by simp [hc.1], fun i c y hi hy => ?_⟩
    cases i with
    | zero => simp at hi hy; subst hi; subst hy; exact .c h1
    | succ i => simp at hi hy; exact hc.2 i c y hi hy
  | .own e rows :: xs, v :: vs, j, G, s, I, hf, hr, hb, hd => by
    obtain ⟨⟨hown, hone⟩, h2⟩ := hr
    simp only [impCells] at hf ⊢
    have hb' : ∀ (i : Nat) (u : Value) (b : Nat), (lvs xs vs)[i]? = some u → blk u = some b → (B ≤ b ∨ Own b) ∧ ¬ K b ∧ ∀ k o, s.obj k = some o → o.live = true → blk (G.val k) ≠ some b :=
      fun i u b hu hub => hb (i + 1) u b (by simpa [lvs, lv1] using hu) hub
    obtain ⟨G1, I1, hs1, hc1, hl1⟩ := impCells_spec t xs vs (j + 1) G s I (fun u hu => hf u (List.mem_cons_of_mem _ hu)) h2 hb'
      (fun i i' u u' b hne hu hu' => hd (i + 1) (i' + 1) u u' b (by omega) (by simpa [lvs, lv1] using hu) (by simpa [lvs, lv1] using hu'))
    have hf1 : (St.mk s.fr ((impCells t (j + 1) xs).2.2 ++ s.ob)).obj (t + keyMax * j) = none := by
      show find _ _ = none
      rw [find_append, find_none, Option.none_or]
      · exact hf _ (List.mem_cons_self ..)
      · intro u hu he
        obtain ⟨m, hm, _, hk⟩ := impCells_keys t xs (j + 1) u hu
        rw [hk] at he
        simp only [keyMax] at he
        omega
    have hv0 := hb 0 v
    obtain ⟨G2, I2, hs2, hg2, hgk, hra⟩ := imp_own I1 hf1 hown hone (fun b hbv => by
      obtain ⟨p1, p2, p3⟩ := hv0 b (by simp [lvs, lv1]) hbv
      refine ⟨p1, p2, fun k' o' ho' hl' hbk => ?_⟩
      rcases hl1 k' o' b ho' hl' hbk with ⟨o'', q1, q2, q3⟩ | ⟨u, hu, hub⟩
      · exact p3 k' o'' q1 q2 q3
      · obtain ⟨i, hi⟩ := List.getElem?_of_mem hu
        exact hd 0 (i + 1) v u b (by omega) (by simp [lvs, lv1]) (by simpa [lvs, lv1] using hi) hbv hub)
    have hcomp : ObStep G G2 s.obj (St.mk s.fr ((t + keyMax * j, .arr e rows 0 false) :: ((impCells t (j + 1) xs).2.2 ++ s.ob))).obj := fun k o ho => by
      obtain ⟨o1, ho1, ha1, hb1⟩ := hs1 k o ho
      obtain ⟨o2, ho2, ha2, hb2⟩ := hs2 k o1 ho1
      refine ⟨o2, ho2, fun e rows ver frz h => ?_, fun cells frz h => ?_⟩
      · obtain ⟨e1, r1, v1, f1, q1, q2, q3⟩ := ha2 _ _ _ _ h
        obtain ⟨e0, r0, v0, f0, p1, p2, p3⟩ := ha1 _ _ _ _ q1
        refine ⟨e0, r0, v0, f0, p1, Nat.le_trans p2 q2, fun hv => ?_⟩
        obtain ⟨x1, x2, x3⟩ := q3 (by omega)
        obtain ⟨y1, y2, y3⟩ := p3 (by omega)
        exact ⟨y1.trans x1, Nat.le_trans y2 x2, x3.trans y3⟩
      · obtain ⟨c1, f1, q1, q2⟩ := hb2 _ _ h
        obtain ⟨c0, f0, p1, p2⟩ := hb1 _ _ q1
        exact ⟨c0, f0, p1, q2.trans p2⟩
    refine ⟨G2, I2, hcomp, ⟨by simp [hc1.1], fun i c y hi hy => ?_⟩, fun k o b ho hl hbk => ?_⟩
    · cases i with
      | zero => simp at hi hy; subst hi; subst hy; exact hra
      | succ i => simp at hi hy; exact (hc1.2 i c y hi hy).step hs2 (fun _ _ => rfl) (fun _ h => h)
    · by_cases hk : k = t + keyMax * j
      · subst hk
        rw [hgk] at hbk
        exact .inr ⟨v, by simp [lvs, lv1], hbk⟩
      · have ho' : (St.mk s.fr ((impCells t (j + 1) xs).2.2 ++ s.ob)).obj k = some o := by
          have := obj_cons ⟨s.fr, (impCells t (j + 1) xs).2.2 ++ s.ob⟩ (t + keyMax * j) (.arr e rows 0 false) k
          rw [if_neg hk] at this
          rw [← this]; exact ho
        rw [hg2 k hk] at hbk
        rcases hl1 k o b ho' hl hbk with h | ⟨u, hu, hub⟩
        · exact .inl h
        · exact .inr ⟨u, by simp [lvs, lv1, hu], hub⟩
end
end Am

namespace Am
open Go
variable [RowOps] [LoopOps]
open RowOps LoopOps

theorem impCells_le (t : Nat) : ∀ (xs : List R1) (j : Nat), j ≤ (impCells t j xs).2.1
  | [], j => Nat.le_refl _
  | .d x :: r, j => by simpa [impCells] using impCells_le t r j
  | .own e rows :: r, j => by simp only [impCells]; exact Nat.le_trans (Nat.le_succ j) (impCells_le t r (j + 1))

theorem ObStep.trans {G0 G1 G2 : Gh} {o0 o1 o2 : Nat → Option Ob} (h1 : ObStep G0 G1 o0 o1) (h2 : ObStep G1 G2 o1 o2) : ObStep G0 G2 o0 o2 := fun k o ho => by
  obtain ⟨p, hp, ha1, hb1⟩ := h1 k o ho
  obtain ⟨q, hq, ha2, hb2⟩ := h2 k p hp
  refine ⟨q, hq, fun e rows ver frz h => ?_, fun cells frz h => ?_⟩
  · obtain ⟨e1, r1, v1, f1, q1, q2, q3⟩ := ha2 _ _ _ _ h
    obtain ⟨e0, r0, v0, f0, p1, p2, p3⟩ := ha1 _ _ _ _ q1
    refine ⟨e0, r0, v0, f0, p1, Nat.le_trans p2 q2, fun hv => ?_⟩
    obtain ⟨x1, x2, x3⟩ := q3 (by omega)
    obtain ⟨y1, y2, y3⟩ := p3 (by omega)
    exact ⟨y1.trans x1, Nat.le_trans y2 x2, x3.trans y3⟩
  · obtain ⟨c1, f1, q1, q2⟩ := hb2 _ _ h
    obtain ⟨c0, f0, p1, p2⟩ := hb1 _ _ q1
    exact ⟨c0, f0, p1, q2.trans p2⟩

section
variable {P : Program} {E : Cfg} {N : Ar} {call : Orc} {B : Nat} {Own : Nat → Prop} {w0 : Base} {K : Nat → Prop} {a : Act} {w : World}

/-- what the own parts of a result owe -/
def Fresh (B : Nat) (Own : Nat → Prop) (K : Nat → Prop) (G : Gh) (s : St) (l : List Value) : Prop :=
  (∀ (i : Nat) (u : Value) (b : Nat), l[i]? = some u → blk u = some b → (B ≤ b ∨ Own b) ∧ ¬ K b ∧ ∀ k o, s.obj k = some o → o.live = true → blk (G.val k) ≠ some b) ∧
  (∀ (i i' : Nat) (u u' : Value) (b : Nat), i ≠ i' → l[i]? = some u → l[i']? = some u' → blk u = some b → blk u' ≠ some b)

theorem Fresh.left {G : Gh} {s : St} {l1 l2 : List Value} (h : Fresh B Own K G s (l1 ++ l2)) : Fresh B Own K G s l1 :=
  ⟨fun i u b hu hb => h.1 i u b (by rw [List.getElem?_append_left (List.getElem?_eq_some_iff.1 hu).1]; exact hu) hb,
   fun i i' u u' b hne hu hu' hb => h.2 i i' u u' b hne (by rw [List.getElem?_append_left (List.getElem?_eq_some_iff.1 hu).1]; exact hu) (by rw [List.getElem?_append_left (List.getElem?_eq_some_iff.1 hu').1]; exact hu') hb⟩
theorem Fresh.right {G : Gh} {s : St} {l1 l2 : List Value} (h : Fresh B Own K G s (l1 ++ l2)) : Fresh B Own K G s l2 :=
  ⟨fun i u b hu hb => h.1 (l1.length + i) u b (by rw [List.getElem?_append_right (by omega)]; simpa using hu) hb,
   fun i i' u u' b hne hu hu' hb => h.2 (l1.length + i) (l1.length + i') u u' b (by omega) (by rw [List.getElem?_append_right (by omega)]; simpa using hu) (by rw [List.getElem?_append_right (by omega)]; simpa using hu') hb⟩

/-- what laying one value does -/
def Laid (B : Nat) (Own : Nat → Prop) (w0 : Base) (K : Nat → Prop) (a : Act) (w : World) (G : Gh) (s : St) (us : List (Nat × Ob)) (l : List Value) (G' : Gh) : Prop :=
  Inv B Own w0 G' K ⟨s.fr, us ++ s.ob⟩ a w ∧ ObStep G G' s.obj (St.mk s.fr (us ++ s.ob)).obj ∧
  (∀ k o b, (St.mk s.fr (us ++ s.ob)).obj k = some o → o.live = true → blk (G'.val k) = some b → (∃ o', s.obj k = some o' ∧ o'.live = true ∧ blk (G.val k) = some b) ∨ ∃ u ∈ l, blk u = some b)

theorem impW_spec {G : Gh} {s : St} (I : Inv B Own w0 G K s a w) {t j j' : Nat} {r : R} {W0 : W} {us : List (Nat × Ob)} {v : Value} {l : List Value} (h : impW t j r = some (W0, j', us)) (hr : RR0 w K r v l)
    (hf : ∀ u ∈ us, s.obj u.1 = none) (hfr : Fresh B Own K G s l) :
    (∃ G', Laid B Own w0 K a w G s us l G' ∧ RW G' (St.mk s.fr (us ++ s.ob)).obj w K W0 v) ∧ j ≤ j' ∧ ∀ u ∈ us, ∃ m, j ≤ m ∧ m < j' ∧ u.1 = t + keyMax * m := by
  cases r with
  | one x =>
    obtain ⟨h1, rfl⟩ := hr
    simp only [impW] at h
    have hk := impCells_keys t [x] j
    have hle := impCells_le t [x] j
    have hlv : lvs [x] [v] = lv1 x v := by simp [lvs]
    split at h
    · rename_i a1 j1 us1 he
      simp only [Option.some.injEq, Prod.mk.injEq] at h
      obtain ⟨rfl, rfl, rfl⟩ := h
      rw [he] at hk hle
      obtain ⟨G', I', hs, hc, hl⟩ := impCells_spec t [x] [v] j G s I (by rw [he]; exact hf) ⟨h1, trivial⟩ (by rw [hlv]; exact hfr.1) (by rw [hlv]; exact hfr.2)
      rw [he] at I' hs hc hl
      rw [hlv] at hl
      exact ⟨⟨G', ⟨I', hs, hl⟩, .one (hc.2 0 a1 v rfl rfl)⟩, hle, hk⟩
    · cases h
  | agg xs =>
    obtain ⟨vs, rfl, h1, rfl⟩ := hr
    simp only [impW, Option.some.injEq, Prod.mk.injEq] at h
    obtain ⟨rfl, rfl, rfl⟩ := h
    obtain ⟨G', I', hs, hc, hl⟩ := impCells_spec t xs vs.toList j G s I hf h1 hfr.1 hfr.2
    exact ⟨⟨G', ⟨I', hs, hl⟩, .agg (by simpa using hc.1) (fun i c x h1 h2 => hc.2 i c x h1 (by simpa using h2))⟩, impCells_le t xs j, impCells_keys t xs j⟩
  | tup rs => cases hr

theorem impWs_spec {t : Nat} : ∀ (rs : List R) (vs l : List Value) (j j' : Nat) (Ws : List W) (us : List (Nat × Ob)) (G : Gh) (s : St), Inv B Own w0 G K s a w → impWs t j rs = some (Ws, j', us) → RT w K rs vs l →
    (∀ u ∈ us, s.obj u.1 = none) → Fresh B Own K G s l →
    (∃ G', Laid B Own w0 K a w G s us l G' ∧ Ws.length = vs.length ∧ ∀ (i : Nat) (y : W) (v : Value), Ws[i]? = some y → vs[i]? = some v → RW G' (St.mk s.fr (us ++ s.ob)).obj w K y v) ∧ j ≤ j' ∧ ∀ u ∈ us, ∃ m, j ≤ m ∧ m < j' ∧ u.1 = t + keyMax * m
  | [], [], l, j, j', Ws, us, G, s, I, h, hr, hf, hfr => by
    simp [impWs] at h
    obtain ⟨rfl, rfl, rfl⟩ := h
    exact ⟨⟨G, ⟨I, ObStep.refl G s.obj, fun k o b h1 h2 h3 => .inl ⟨o, h1, h2, h3⟩⟩, rfl, fun i y v h => by simp at h⟩, Nat.le_refl _, fun u h => by simp at h⟩
  | [], _ :: _, _, _, _, _, _, _, _, _, _, hr, _, _ => by simp [RT] at hr
  | _ :: _, [], _, _, _, _, _, _, _, _, _, hr, _, _ => by simp [RT] at hr
  | r :: rs, v :: vs, l, j, j', Ws, us, G, s, I, h, hr, hf, hfr => by
    obtain ⟨l1, l2, hr1, hr2, rfl⟩ := hr
    simp only [impWs] at h
    cases hx : impW t j r with
    | none => simp [hx] at h
    | some x =>
      cases hy : impWs t x.2.1 rs with
      | none => simp [hx, hy] at h
      | some y =>
        simp [hx, hy] at h
        obtain ⟨rfl, rfl, rfl⟩ := h
        obtain ⟨W1, j1, us1⟩ := x
        obtain ⟨W2, j2, us2⟩ := y
        simp only at hf hy ⊢
        obtain ⟨⟨G1, ⟨I1, hs1, hl1⟩, hlen, hrw⟩, hj1, hk1⟩ := impWs_spec rs vs l2 j1 j2 W2 us2 G s I hy hr2 (fun u hu => hf u (List.mem_append_right _ hu)) hfr.right
        have hfr1 : Fresh B Own K G1 (St.mk s.fr (us2 ++ s.ob)) l1 := by
          refine ⟨fun i u b hu hb => ?_, hfr.left.2⟩
          obtain ⟨p1, p2, p3⟩ := hfr.left.1 i u b hu hb
          refine ⟨p1, p2, fun k o ho hlv hbk => ?_⟩
          rcases hl1 k o b ho hlv hbk with ⟨o', q1, q2, q3⟩ | ⟨u', hu', hub'⟩
          · exact p3 k o' q1 q2 q3
          · obtain ⟨i', hi'⟩ := List.getElem?_of_mem hu'
            have hil : i < l1.length := (List.getElem?_eq_some_iff.1 hu).1
            exact hfr.2 i (l1.length + i') u u' b (by omega) (by rw [List.getElem?_append_left hil]; exact hu) (by rw [List.getElem?_append_right (by omega)]; simpa using hi') hb hub'
        obtain ⟨⟨G2, ⟨I2, hs2, hl2⟩, hrw2⟩, hj2, hk2⟩ := impW_spec I1 hx hr1 (fun u hu => by
            show find _ _ = none
            rw [find_append, find_none, Option.none_or]
            · exact hf u (List.mem_append_left _ hu)
            · intro u' hu' he
              obtain ⟨m', hm1, _, hk'⟩ := hk1 u' hu'
              have hx' := hx
              obtain ⟨m, _, hm2, hk⟩ : ∃ m, j ≤ m ∧ m < j1 ∧ u.1 = t + keyMax * m := by
                cases r with
                | one x =>
                  simp only [impW] at hx'
                  have := impCells_keys t [x] j
                  split at hx'
                  · rename_i he'
                    simp only [Option.some.injEq, Prod.mk.injEq] at hx'
                    obtain ⟨_, rfl, rfl⟩ := hx'
                    rw [he'] at this
                    exact this u hu
                  · cases hx'
                | agg xs =>
                  simp only [impW, Option.some.injEq, Prod.mk.injEq] at hx'
                  obtain ⟨_, rfl, rfl⟩ := hx'
                  exact impCells_keys t xs j u hu
                | tup rs => simp [impW] at hx'
              rw [hk', hk] at he
              simp only [keyMax] at he
              omega) hfr1
        have happ : us1 ++ us2 ++ s.ob = us1 ++ (us2 ++ s.ob) := List.append_assoc ..
        refine ⟨⟨G2, ⟨by rw [happ]; exact I2, by rw [happ]; exact hs1.trans hs2, fun k o b ho hlv hbk => ?_⟩, by simp [hlen], fun i y v' hy' hv' => ?_⟩, Nat.le_trans hj2 hj1, fun u hu => ?_⟩
        · rw [happ] at ho
          rcases hl2 k o b ho hlv hbk with ⟨o', q1, q2, q3⟩ | ⟨u, hu, hub⟩
          · rcases hl1 k o' b q1 q2 q3 with h | ⟨u, hu, hub⟩
            · exact .inl h
            · exact .inr ⟨u, List.mem_append_right _ hu, hub⟩
          · exact .inr ⟨u, List.mem_append_left _ hu, hub⟩
        · rw [happ]
          cases i with
          | zero => simp at hy' hv'; subst hy'; subst hv'; exact hrw2
          | succ i => simp at hy' hv'; exact (hrw i y v' hy' hv').step hs2 (fun _ _ => rfl) (fun _ h => h)
        · rcases List.mem_append.1 hu with hu | hu
          · obtain ⟨m, h1, h2, h3⟩ := hk2 u hu
            exact ⟨m, h1, by omega, h3⟩
          · obtain ⟨m, h1, h2, h3⟩ := hk1 u hu
            exact ⟨m, by omega, h2, h3⟩

theorem imp_spec {G : Gh} {s : St} (I : Inv B Own w0 G K s a w) {t : Nat} {r : R} {W0 : W} {us : List (Nat × Ob)} {v : Value} {l : List Value} (h : imp t r = some (W0, us)) (hr : RR w K r v l)
    (hf : ∀ u ∈ us, s.obj u.1 = none) (hfr : Fresh B Own K G s l) :
    ∃ G', Laid B Own w0 K a w G s us l G' ∧ RW G' (St.mk s.fr (us ++ s.ob)).obj w K W0 v := by
  cases r with
  | tup rs =>
    obtain ⟨vs, rfl, hr⟩ := hr
    simp only [imp] at h
    cases hx : impWs t 0 rs with
    | none => simp [hx] at h
    | some y =>
      obtain ⟨Ws, j', us'⟩ := y
      simp [hx] at h
      obtain ⟨rfl, rfl⟩ := h
      obtain ⟨⟨G', h1, h2, h3⟩, _⟩ := impWs_spec rs vs.toList l 0 j' Ws us' G s I hx hr hf hfr
      exact ⟨G', h1, .tup (by simpa using h2) (fun j c v hc hv => h3 j c v hc (by simpa using hv))⟩
  | one x =>
    simp only [imp] at h
    cases hx : impW t 0 (.one x) with
    | none => simp [hx] at h
    | some y =>
      obtain ⟨W1, j', us'⟩ := y
      simp [hx] at h
      obtain ⟨rfl, rfl⟩ := h
      exact (impW_spec I hx hr hf hfr).1
  | agg xs =>
    simp only [imp] at h
    cases hx : impW t 0 (.agg xs) with
    | none => simp [hx] at h
    | some y =>
      obtain ⟨W1, j', us'⟩ := y
      simp [hx] at h
      obtain ⟨rfl, rfl⟩ := h
      exact (impW_spec I hx hr hf hfr).1
end
end Am

namespace Am
open Go
variable [RowOps] [LoopOps]
open RowOps LoopOps

theorem RL.mono {w : World} {K K' : Nat → Prop} (hK : ∀ b, K b → K' b) : ∀ {xs : List R1} {vs : List Value}, RL w K xs vs → RL w K' xs vs
  | [], [], _ => trivial
  | [], _ :: _, h => by simp [RL] at h
  | _ :: _, [], h => by simp [RL] at h
  | x :: xs, v :: vs, h => by
    refine ⟨?_, RL.mono hK h.2⟩
    have h1 := h.1
    cases x with
    | d x => exact RC.mono (fun _ _ => rfl) hK h1
    | own e rows => exact ⟨h1.1.mono (fun _ _ => rfl) hK (fun _ _ => rfl), h1.2⟩
theorem RR0.mono {w : World} {K K' : Nat → Prop} (hK : ∀ b, K b → K' b) {r : R} {v : Value} {l : List Value} (h : RR0 w K r v l) : RR0 w K' r v l := by
  cases r with
  | one x => exact ⟨(RL.mono hK (xs := [x]) (vs := [v]) ⟨h.1, trivial⟩).1, h.2⟩
  | agg xs => obtain ⟨us, h1, h2, h3⟩ := h; exact ⟨us, h1, RL.mono hK h2, h3⟩
  | tup rs => cases h
theorem RT.mono {w : World} {K K' : Nat → Prop} (hK : ∀ b, K b → K' b) : ∀ {rs : List R} {vs l : List Value}, RT w K rs vs l → RT w K' rs vs l
  | [], [], _, h => h
  | [], _ :: _, _, h => by simp [RT] at h
  | _ :: _, [], _, h => by simp [RT] at h
  | r :: rs, v :: vs, l, h => by
    obtain ⟨l1, l2, h1, h2, h3⟩ := h
    exact ⟨l1, l2, h1.mono hK, RT.mono hK h2, h3⟩
theorem RR.mono {w : World} {K K' : Nat → Prop} (hK : ∀ b, K b → K' b) {r : R} {v : Value} {l : List Value} (h : RR w K r v l) : RR w K' r v l := by
  cases r with
  | one x => exact RR0.mono (r := .one x) hK h
  | agg xs => exact RR0.mono (r := .agg xs) hK h
  | tup rs => obtain ⟨us, h1, h2⟩ := h; exact ⟨us, h1, RT.mono hK h2⟩

theorem RL.flat {w w2 : World} {K K2 : Nat → Prop} : ∀ {xs : List R1} {vs : List Value}, (∀ x ∈ xs, R1.flat x = 0) → RL w K xs vs → RL w2 K2 xs vs ∧ lvs xs vs = []
  | [], [], _, _ => ⟨trivial, rfl⟩
  | [], _ :: _, _, h => by simp [RL] at h
  | _ :: _, [], _, h => by simp [RL] at h
  | x :: xs, v :: vs, hf, h => by
    obtain ⟨h1, h2⟩ := flat_rc (hf x (by simp)) h.1 K2 w2
    obtain ⟨h3, h4⟩ := RL.flat (w2 := w2) (K2 := K2) (fun y hy => hf y (List.mem_cons_of_mem _ hy)) h.2
    exact ⟨⟨h1, h3⟩, by simp [lvs, h2, h4]⟩
theorem foldr_max_zero {α : Type} (f : α → Nat) : ∀ (l : List α), l.foldr (fun x n => max (f x) n) 0 = 0 → ∀ x ∈ l, f x = 0
  | [], _, x, h => by simp at h
  | y :: l, h, x, hx => by
    simp only [List.foldr_cons] at h
    have h1 : f y = 0 := by omega
    have h2 : l.foldr (fun x n => max (f x) n) 0 = 0 := by omega
    rcases List.mem_cons.1 hx with rfl | hx
    · exact h1
    · exact foldr_max_zero f l h2 x hx
theorem RR0.flat {w w2 : World} {K K2 : Nat → Prop} {r : R} {v : Value} {l : List Value} (hf : r.flat = 0) (h : RR0 w K r v l) : RR0 w2 K2 r v l ∧ l = [] := by
  cases r with
  | one x =>
    obtain ⟨h1, h2⟩ := flat_rc hf h.1 K2 w2
    exact ⟨⟨h1, h.2⟩, by rw [h.2, h2]⟩
  | agg xs =>
    obtain ⟨us, h1, h2, h3⟩ := h
    obtain ⟨h4, h5⟩ := RL.flat (w2 := w2) (K2 := K2) (foldr_max_zero R1.flat xs hf) h2
    exact ⟨⟨us, h1, h4, h3⟩, by rw [h3, h5]⟩
  | tup rs => cases h
theorem RT.flat {w w2 : World} {K K2 : Nat → Prop} : ∀ {rs : List R} {vs l : List Value}, (∀ r ∈ rs, R.flat r = 0) → RT w K rs vs l → RT w2 K2 rs vs l ∧ l = []
  | [], [], _, _, h => ⟨h, h⟩
  | [], _ :: _, _, _, h => by simp [RT] at h
  | _ :: _, [], _, _, h => by simp [RT] at h
  | r :: rs, v :: vs, l, hf, h => by
    obtain ⟨l1, l2, h1, h2, h3⟩ := h
    obtain ⟨p1, p2⟩ := h1.flat (w2 := w2) (K2 := K2) (hf r (by simp))
    obtain ⟨q1, q2⟩ := RT.flat (w2 := w2) (K2 := K2) (fun y hy => hf y (List.mem_cons_of_mem _ hy)) h2
    exact ⟨⟨l1, l2, p1, q1, h3⟩, by rw [h3, p2, q2]; rfl⟩
theorem RR.flat {w w2 : World} {K K2 : Nat → Prop} {r : R} {v : Value} {l : List Value} (hf : r.flats = 0) (h : RR w K r v l) : RR w2 K2 r v l ∧ l = [] := by
  cases r with
  | one x => exact RR0.flat (r := .one x) hf h
  | agg xs => exact RR0.flat (r := .agg xs) hf h
  | tup rs =>
    obtain ⟨us, h1, h2⟩ := h
    obtain ⟨h3, h4⟩ := RT.flat (w2 := w2) (K2 := K2) (foldr_max_zero R.flat rs hf) h2
    exact ⟨⟨us, h1, h3⟩, h4⟩

/-- the key of an argument that is moved, or handed in and out -/
def ioAt : List Nat → List W → Nat → Option Nat
  | m :: _, w :: _, 0 => match m, w with
    | 1, .one (.ref k _ _) => some k
    | 2, .one (.ref k _ _) => some k
    | _, _ => none
  | _ :: ms, _ :: ws, i + 1 => ioAt ms ws i
  | _, _, _ => none

theorem ioKeys_cons (m : Nat) (ms : List Nat) (x : W) (ws : List W) : ioKeys (m :: ms) (x :: ws) = (match ioAt (m :: ms) (x :: ws) 0 with | some k => [k] | none => []) ++ ioKeys ms ws := by
  simp only [ioKeys, ioAt]
  split <;> simp_all

theorem ioAt_mem : ∀ (ms : List Nat) (ws : List W) (i k : Nat), ioAt ms ws i = some k → k ∈ ioKeys ms ws
  | m :: ms, x :: ws, 0, k, h => by rw [ioKeys_cons, h]; simp
  | m :: ms, x :: ws, i + 1, k, h => by rw [ioKeys_cons]; exact List.mem_append_right _ (ioAt_mem ms ws i k h)
  | [], _, _, _, h => by simp [ioAt] at h
  | _ :: _, [], _, _, h => by simp [ioAt] at h

theorem ioAt_of_mem : ∀ (ms : List Nat) (ws : List W) (k : Nat), k ∈ ioKeys ms ws → ∃ i, ioAt ms ws i = some k
  | m :: ms, x :: ws, k, h => by
    rw [ioKeys_cons] at h
    rcases List.mem_append.1 h with h | h
    · cases h0 : ioAt (m :: ms) (x :: ws) 0 with
      | none => simp [h0] at h
      | some k' => simp [h0] at h; subst h; exact ⟨0, h0⟩
    · obtain ⟨i, hi⟩ := ioAt_of_mem ms ws k h
      exact ⟨i + 1, hi⟩
  | [], _, _, h => by simp [ioKeys] at h
  | _ :: _, [], _, h => by simp [ioKeys] at h

theorem nodupN_cons {k : Nat} {r : List Nat} (h : nodupN (k :: r) = true) : k ∉ r ∧ nodupN r = true := by
  simp only [nodupN] at h
  cases hm : memN k r with
  | true => simp [hm] at h
  | false => simp [hm] at h; exact ⟨memN_not hm, h⟩
theorem nodupN_append {l r : List Nat} (h : nodupN (l ++ r) = true) : (∀ k ∈ l, k ∉ r) ∧ nodupN r = true := by
  induction l with
  | nil => exact ⟨fun k h => by simp at h, h⟩
  | cons x l ih =>
    obtain ⟨h1, h2⟩ := nodupN_cons h
    obtain ⟨h3, h4⟩ := ih h2
    refine ⟨fun k hk hr => ?_, h4⟩
    rcases List.mem_cons.1 hk with rfl | hk
    · exact h1 (List.mem_append_right _ hr)
    · exact h3 k hk hr

theorem ioAt_inj : ∀ (ms : List Nat) (ws : List W) (i j k k' : Nat), nodupN (ioKeys ms ws) = true → i ≠ j → ioAt ms ws i = some k → ioAt ms ws j = some k' → k ≠ k'
  | m :: ms, x :: ws, 0, 0, _, _, _, h, _, _ => absurd rfl h
  | m :: ms, x :: ws, 0, j + 1, k, k', hn, _, h1, h2 => by
    rw [ioKeys_cons, h1] at hn
    have := (nodupN_append hn).1 k (by simp)
    exact fun e => this (e ▸ ioAt_mem ms ws j k' h2)
  | m :: ms, x :: ws, i + 1, 0, k, k', hn, _, h1, h2 => by
    rw [ioKeys_cons, h2] at hn
    have := (nodupN_append hn).1 k' (by simp)
    exact fun e => this (e ▸ ioAt_mem ms ws i k h1)
  | m :: ms, x :: ws, i + 1, j + 1, k, k', hn, hne, h1, h2 => by
    rw [ioKeys_cons] at hn
    exact ioAt_inj ms ws i j k k' (nodupN_append hn).2 (fun e => hne (by rw [e])) h1 h2
  | [], _, _, _, _, _, _, _, h, _ => by simp [ioAt] at h
  | _ :: _, [], _, _, _, _, _, _, h, _ => by simp [ioAt] at h

theorem apartN_spec : ∀ {l r : List Nat}, apartN l r = true → ∀ k ∈ l, k ∉ r
  | [], _, _, k, h => by simp at h
  | x :: l, r, h, k, hk => by
    simp only [apartN] at h
    cases hm : memN x r with
    | true => simp [hm] at h
    | false =>
      simp [hm] at h
      rcases List.mem_cons.1 hk with rfl | hk
      · exact memN_not hm
      · exact apartN_spec h k hk

section
variable {P : Program} {E : Cfg} {N : Ar} {call : Orc} {B : Nat} {Own : Nat → Prop} {w0 : Base} {G : Gh} {K : Nat → Prop} {s : St} {a : Act} {w : World}

/-- what an own argument is -/
def IoR (G : Gh) (s : St) (w : World) (K : Nat → Prop) (g : Arg) (v : Value) (k : Nat) : Prop :=
  ∃ e rows ver, s.obj k = some (.arr e rows ver false) ∧ (∀ b, blk v = some b → blk (G.val k) = some b) ∧
    match g with
    | .mv e' rows' => OwnV w K e' rows' v
    | .io e' rows' => v = G.val k ∧ e' = e ∧ rows' = rows ∧ OwnV w K e rows v
    | _ => False

theorem own_of_ref (I : Inv B Own w0 G K s a w) {k ver : Nat} {win : Option Nat} {v : Value} {e : Nat} {rows : List (List C)} {frz : Bool} (h : RA G s.obj w K (.ref k ver win) v)
    (ho : s.obj k = some (.arr e rows ver frz)) : OwnV w K e (winOf rows win) v ∧ ∀ b, blk v = some b → blk (G.val k) = some b := by
  obtain ⟨ty, xs, hown, hrows, _, hcase⟩ := ref_slice I h ho
  rcases hcase with ⟨hg, hr0, hv⟩ | ⟨g, cap, hg, hv, hlen, hsub⟩
  · have h0 : winOf rows win = [] := by subst hr0; cases win <;> simp [winOf]
    rw [h0, hv]
    exact ⟨⟨ty, [], World.ownsRow_nil w 0 _ _, fun i row h => by simp at h⟩, fun b hb => by simp [blk] at hb⟩
  · refine ⟨⟨ty, xs.take ((winOf rows win).length * e), ⟨?_, .inr ?_⟩, fun i row hi => ⟨(hrows i row (hsub i row hi)).1, fun j c hj => ?_⟩⟩, fun b hb => by rw [hv] at hb; rw [hg]; exact hb⟩
    · have : (winOf rows win).length * e ≤ rows.length * e := Nat.mul_le_mul_right _ hlen
      rw [List.length_take, hown.1, Nat.min_eq_left this]
    · rcases hown.2 with ⟨hn, _⟩ | ⟨g', cap', cur, hg', hz0, hh, hnc, hcm, hcs, htake⟩
      · rw [hg] at hn; cases hn
      · rw [hg] at hg'
        cases hg'
        refine ⟨g, cap, cur, hv, hz0, hh, Nat.le_trans hlen hnc, hcm, hcs, ?_⟩
        rw [← htake, List.take_take]
        congr 1
        exact (Nat.min_eq_left (Nat.mul_le_mul_right _ hlen)).symm
    · obtain ⟨x, hx, hcc⟩ := (hrows i row (hsub i row hi)).2 j c hj
      refine ⟨x, ?_, hcc⟩
      have hi' : i < (winOf rows win).length := (List.getElem?_eq_some_iff.1 hi).1
      have hj' : j < e := by rw [← (hrows i row (hsub i row hi)).1]; exact (List.getElem?_eq_some_iff.1 hj).1
      have : (i + 1) * e ≤ (winOf rows win).length * e := Nat.mul_le_mul_right _ hi'
      rw [Nat.add_mul, Nat.one_mul] at this
      rw [List.getElem?_take, if_pos (by omega)]
      exact hx

/-- the arguments of a call -/
theorem args_spec (I : Inv B Own w0 G K s a w) {Kc : Nat → Prop} (hK : ∀ b, K b → Kc b) : ∀ (ms : List Nat) (ws : List W) (vs : List Value) (args : List Arg) (fk : List Nat),
    (argsOf ms ws).get s.obj = some args → ws.length = vs.length → (∀ (i : Nat) (y : W) (v : Value), ws[i]? = some y → vs[i]? = some v → RW G s.obj w K y v) →
    (wsKeys (fzWs ms ws)).get s.obj = some fk → (∀ k ∈ fk, ∀ b, blk (G.val k) = some b → Kc b) →
    args.length = vs.length ∧ ∀ (i : Nat) (g : Arg) (v : Value), args[i]? = some g → vs[i]? = some v → (g.own = false ∧ ArgR w Kc g v) ∨ (g.own = true ∧ ∃ k, ioAt ms ws i = some k ∧ IoR G s w K g v k)
  | ms, [], [], args, fk, h, _, _, _, _ => by
    cases ms <;> simp [argsOf] at h <;> subst h <;> exact ⟨rfl, fun i g v h => by simp at h⟩
  | _, [], _ :: _, _, _, _, hl, _, _, _ => by simp at hl
  | _, _ :: _, [], _, _, _, hl, _, _, _ => by simp at hl
  | ms, x :: ws, v :: vs, args, fk, h, hl, hrw, hfk, hks => by
    have hx := hrw 0 x v rfl rfl
    have h' : ∃ m ms', (m = (match ms with | [] => 0 | m :: _ => m)) ∧ ms' = ms.tail ∧ ((argOf m x).bind fun a => (argsOf ms' ws).bind fun as => Rd.ret (a :: as)).get s.obj = some args := by
      refine ⟨_, _, rfl, rfl, ?_⟩
      cases ms <;> simpa only [argsOf] using h
    obtain ⟨m, ms', hm, hms', h'⟩ := h'
    simp only [Rd.get_bind] at h'
    cases ha : (argOf m x).get s.obj with
    | none => simp [ha] at h'
    | some g0 =>
      cases hr : (argsOf ms' ws).get s.obj with
      | none => simp [ha, hr] at h'
      | some args' =>
        simp [ha, hr] at h'
        subst h'
        -- the keys of the rest, and of this one
        have hkeys : ∃ fk', (wsKeys (fzWs ms' ws)).get s.obj = some fk' ∧ (∀ k ∈ fk', k ∈ fk) ∧ (m = 0 → ∃ as ks, x.cells = some as ∧ (keysAll as).get s.obj = some ks ∧ ∀ k ∈ ks, k ∈ fk) := by
          have hfz : fzWs ms (x :: ws) = if m = 0 then x :: fzWs ms' ws else fzWs ms' ws := by
            cases ms with
            | nil => simp at hm; subst hm; simp at hms'; subst hms'; simp [fzWs]
            | cons m0 ms0 => simp at hm hms'; subst hm; subst hms'; simp only [fzWs]; split <;> simp_all
          rw [hfz] at hfk
          by_cases hm0 : m = 0
          · rw [if_pos hm0] at hfk
            simp only [wsKeys] at hfk
            cases hc : x.cells with
            | none => simp [hc] at hfk
            | some as =>
              simp only [hc, Rd.get_bind] at hfk
              cases hk1 : (keysAll as).get s.obj with
              | none => simp [hk1] at hfk
              | some ks =>
                cases hk2 : (wsKeys (fzWs ms' ws)).get s.obj with
                | none => simp [hk1, hk2] at hfk
                | some fk' =>
                  simp [hk1, hk2] at hfk
                  subst hfk
                  exact ⟨fk', rfl, fun k hk => List.mem_append_right _ hk, fun _ => ⟨as, ks, rfl, hk1, fun k hk => List.mem_append_left _ hk⟩⟩
          · rw [if_neg hm0] at hfk
            exact ⟨fk, hfk, fun k hk => hk, fun h => absurd h hm0⟩
        obtain ⟨fk', hfk', hsub, hthis⟩ := hkeys
        obtain ⟨hlen, hrest⟩ := args_spec I hK ms' ws vs args' fk' hr (by simpa using hl) (fun i y u h1 h2 => hrw (i + 1) y u (by simpa using h1) (by simpa using h2)) hfk' (fun k hk => hks k (hsub k hk))
        refine ⟨by simp [hlen], fun i g u hg hu => ?_⟩
        cases i with
        | zero =>
          simp at hg hu
          subst hg
          subst hu
          have hat : ∀ k, (m = 1 ∨ m = 2) → ∀ ver win, x = .one (.ref k ver win) → ioAt ms (x :: ws) 0 = some k := by
            intro k hmm ver win hxe
            cases ms with
            | nil => simp at hm; omega
            | cons m0 ms0 =>
              simp at hm
              subst hm
              subst hxe
              rcases hmm with rfl | rfl <;> rfl
          unfold argOf at ha
          split at ha
          · rename_i e0
            simp at ha
            subst ha
            refine .inl ⟨rfl, ?_⟩
            have := rw_nil hx
            subst this
            exact RC.nil
          · rename_i y _
            simp only [Rd.get_bind] at ha
            cases hre : (reify depth y).get s.obj with
            | none => simp [hre] at ha
            | some c =>
              simp [hre] at ha
              subst ha
              obtain ⟨as, ks, hc, hk, hin⟩ := hthis rfl
              simp [W.cells] at hc
              subst hc
              simp only [keysAll, Rd.get_bind] at hk
              cases hk1 : (keysOf depth y).get s.obj with
              | none => simp [Rd.map1, hk1] at hk
              | some ks1 =>
                simp [Rd.map1, hk1] at hk
                subst hk
                cases hx with
                | one hx => exact .inl ⟨rfl, reify_rc I hK depth y v c ks1 hx hre hk1 (fun k hk => hks k (hin k hk))⟩
          · rename_i as
            simp only [Rd.get_bind] at ha
            cases hre : (reifyAll as).get s.obj with
            | none => simp [hre] at ha
            | some cs =>
              simp [hre] at ha
              subst ha
              obtain ⟨as', ks, hc, hk, hin⟩ := hthis rfl
              simp [W.cells] at hc
              subst hc
              cases hx with
              | agg hxl hxr =>
                rename_i us
                obtain ⟨q1, q2⟩ := reifyAll_rc I hK (vs := us.toList) ⟨by simpa using hxl, fun j c x h1 h2 => hxr j c x h1 (by simpa using h2)⟩ hre hk (fun k hk => hks k (hin k hk))
                exact .inl ⟨rfl, us, rfl, by rw [q1]; simpa using hxl, fun j c u h1 h2 => q2 j c u h1 (by simpa using h2)⟩
          · rename_i k ver win
            simp only [Rd.get_look] at ha
            split at ha
            · rename_i e rows ver' hob
              cases hb : eqN ver ver' with
              | false => simp [hb] at ha
              | true =>
                have := beq_eq hb
                subst this
                simp at ha
                subst ha
                cases hx with
                | one hx =>
                  obtain ⟨q1, q2⟩ := own_of_ref I hx hob
                  exact .inr ⟨rfl, k, hat k (.inl rfl) ver win rfl, e, rows, ver, hob, q2, q1⟩
            · simp at ha
          · rename_i k ver
            simp only [Rd.get_look] at ha
            split at ha
            · rename_i e rows ver' hob
              cases hb : eqN ver ver' with
              | false => simp [hb] at ha
              | true =>
                have := beq_eq hb
                subst this
                simp at ha
                subst ha
                cases hx with
                | one hx =>
                  obtain ⟨q1, q2⟩ := own_of_ref I hx hob
                  have hv := ra_ref hx hob
                  exact .inr ⟨rfl, k, hat k (.inr rfl) ver none rfl, e, rows, ver, hob, q2, by simpa [WinV] using hv, rfl, rfl, q1⟩
            · simp at ha
          · simp at ha
        | succ i =>
          simp at hg hu
          rcases hrest i g u hg hu with h | ⟨h1, k, h2, h3⟩
          · exact .inl h
          · refine .inr ⟨h1, k, ?_, h3⟩
            cases ms with
            | nil => subst hms'; cases ws <;> simp [ioAt] at h2
            | cons m0 ms0 => simp at hms'; subst hms'; exact h2
end
end Am

namespace Am
open Go
variable [RowOps] [LoopOps]
open RowOps LoopOps

section
variable {P : Program} {E : Cfg} {N : Ar} {call : Orc} {B : Nat} {Own : Nat → Prop} {w0 : Base} {G : Gh} {K : Nat → Prop} {s : St} {a : Act} {w : World}

theorem map1_there {look : Nat → Option Ob} {f : A → Rd (List Nat)} (hf : ∀ a ks, (f a).get look = some ks → ∀ k ∈ ks, ∃ o, look k = some o ∧ o ≠ .dead) {xs : List A} {rs : List (List Nat)}
    (h : (Rd.map1 f xs).get look = some rs) : ∀ k ∈ rs.flatten, ∃ o, look k = some o ∧ o ≠ .dead := by
  intro k hk
  obtain ⟨l1, m1⟩ := map1_get _ _ h
  obtain ⟨r, hr, hkr⟩ := List.mem_flatten.1 hk
  obtain ⟨j, hj⟩ := List.getElem?_of_mem hr
  have hlt : j < xs.length := by rw [← l1]; exact (List.getElem?_eq_some_iff.1 hj).1
  obtain ⟨y, hy, hfy⟩ := m1 j _ (List.getElem?_eq_getElem hlt)
  rw [hj] at hy
  cases hy
  exact hf _ _ hfy k hkr

theorem keysOf_there {look : Nat → Option Ob} : ∀ (n : Nat) (x : A) (ks : List Nat), (keysOf n x).get look = some ks → ∀ k ∈ ks, ∃ o, look k = some o ∧ o ≠ .dead
  | 0, x, ks, h => by simp [keysOf] at h
  | n + 1, x, ks, h => by
    cases x with
    | c x => simp [keysOf] at h; subst h; intro k hk; simp at hk
    | nil0 e => simp [keysOf] at h; subst h; intro k hk; simp at hk
    | eloc k ver i off => simp [keysOf] at h
    | ref k ver win =>
      simp only [keysOf, Rd.get_look] at h
      split at h
      · rename_i e r v f ho
        simp at h; subst h
        intro k' hk'
        simp at hk'
        subst hk'
        exact ⟨_, ho, by simp⟩
      · simp at h
    | loc k off =>
      simp only [keysOf, Rd.get_look] at h
      split at h
      · rename_i cells f ho
        simp only [Rd.get_bind] at h
        cases hm : (Rd.map1 (keysOf n) (cells.drop off)).get look with
        | none => simp [hm] at h
        | some rs =>
          simp [hm] at h; subst h
          intro k' hk'
          rcases List.mem_cons.1 hk' with rfl | hk'
          · exact ⟨_, ho, by simp⟩
          · exact map1_there (keysOf_there n) hm k' hk'
      · simp at h
    | clo f caps =>
      simp only [keysOf, Rd.get_bind] at h
      cases hm : (Rd.map1 (keysOf n) caps).get look with
      | none => simp [hm] at h
      | some rs =>
        simp [hm] at h; subst h
        exact map1_there (keysOf_there n) hm

theorem wsKeys_there {look : Nat → Option Ob} : ∀ (ws : List W) (fk : List Nat), (wsKeys ws).get look = some fk → ∀ k ∈ fk, ∃ o, look k = some o ∧ o ≠ .dead
  | [], fk, h => by simp [wsKeys] at h; subst h; intro k hk; simp at hk
  | x :: ws, fk, h => by
    simp only [wsKeys] at h
    cases hc : x.cells with
    | none => simp [hc] at h
    | some as =>
      simp only [hc, Rd.get_bind, keysAll] at h
      cases hm : (Rd.map1 (keysOf depth) as).get look with
      | none => simp [hm] at h
      | some rs =>
        cases hw : (wsKeys ws).get look with
        | none => simp [hm, hw] at h
        | some fk' =>
          simp [hm, hw] at h
          subst h
          intro k hk
          rcases List.mem_append.1 hk with hk | hk
          · exact map1_there (keysOf_there depth) hm k hk
          · exact wsKeys_there ws fk' hw k hk

/-- a block of a live object is no other object's -/
theorem Inv.live_apart (I : Inv B Own w0 G K s a w) {k k' : Nat} {o o' : Ob} {b : Nat} (hne : k ≠ k') (ho : s.obj k = some o) (ho' : s.obj k' = some o') (hl : o.live = true) (hd : o' ≠ .dead)
    (hb : blk (G.val k) = some b) : blk (G.val k') ≠ some b := by
  intro hb'
  cases hlo : o'.live with
  | true => exact I.dis k k' o o' b hne ho ho' hl hlo hb hb'
  | false =>
    have hro := I.ob k' o' ho'
    have hnK := (I.own k o b ho hl hb).2
    cases o' with
    | box cells frz =>
      simp [Ob.live] at hlo
      obtain ⟨b', arr, ty, h1', _, _, hf, _⟩ := hro
      rw [h1'] at hb'
      simp [blk] at hb'
      subst hb'
      exact hnK (hf hlo)
    | arr e rows ver frz =>
      simp [Ob.live] at hlo
      obtain ⟨_, xs, _, _, hf⟩ := hro
      exact hnK (hf hlo b hb')
    | dead => exact hd rfl

/-- what becomes of the objects that are moved, or handed in and out -/
def OutOb (G : Gh) (s : St) (w' : World) (K2 : Nat → Prop) (us : List (Nat × Ob)) (k : Nat) : Prop :=
  match find k us with
  | none => True
  | some o' => o' = .dead ∨ ∃ e rows rows' ver, o' = .arr e rows' ver false ∧ s.obj k = some (.arr e rows ver false) ∧ rows'.length = rows.length ∧ OwnV w' K2 e rows' (G.val k) ∧ ∀ b, blk (G.val k) = some b → ¬ K2 b

theorem Inv.called (I : Inv B Own w0 G K s a w) {w' : World} {K2 OwnC : Nat → Prop} {us : List (Nat × Ob)} (hK : ∀ b, K b → K2 b) (hc : Chg w.heap.size OwnC w w')
    (hio : ∀ b, OwnC b → ∃ k o u, s.obj k = some o ∧ o.live = true ∧ blk (G.val k) = some b ∧ find k us = some u)
    (hus : ∀ k u, find k us = some u → ∃ o, s.obj k = some o ∧ o.live = true) (hout : ∀ k, OutOb G s w' K2 us k)
    (hK2 : ∀ b, K2 b → K b ∨ (w.heap.size ≤ b ∧ b < w'.heap.size) ∨ ∃ k o, s.obj k = some o ∧ o.live = true ∧ find k us = some .dead ∧ blk (G.val k) = some b) :
    Inv B Own w0 G K2 ⟨s.fr, us ++ s.ob⟩ a w' := by
  have hobj : ∀ k, (St.mk s.fr (us ++ s.ob)).obj k = (find k us).or (s.obj k) := fun k => find_append k us s.ob
  have hKo : ∀ b, K b → ¬ OwnC b := fun b hb ho => by
    obtain ⟨k, o, u, h1, h2, h3, _⟩ := hio b ho
    exact (I.own k o b h1 h2 h3).2 hb
  have hw : ∀ b, K b → w'.heap[b]? = w.heap[b]? := fun b hb => hc.block b (I.Kb b hb) (hKo b hb)
  have hst : ObStep G G s.obj (St.mk s.fr (us ++ s.ob)).obj := fun k o ho => by
    rw [hobj]
    have := hout k
    unfold OutOb at this
    cases hf : find k us with
    | none => exact ⟨o, by simpa using ho, fun e rows ver frz h => ⟨e, rows, ver, frz, h, Nat.le_refl _, fun _ => ⟨rfl, Nat.le_refl _, rfl⟩⟩, fun cells frz h => ⟨cells, frz, h, rfl⟩⟩
    | some u =>
      rw [hf] at this
      refine ⟨u, rfl, fun e rows ver frz h => ?_, fun cells frz h => ?_⟩
      · rcases this with h0 | ⟨e1, r1, r1', v1, h1, h2, h3, _⟩
        · rw [h0] at h; cases h
        · rw [h1] at h
          cases h
          rw [ho] at h2
          cases h2
          exact ⟨_, _, _, _, rfl, Nat.le_refl _, fun _ => ⟨rfl, Nat.le_of_eq h3.symm, rfl⟩⟩
      · rcases this with h0 | ⟨e1, r1, r1', v1, h1, _⟩
        · rw [h0] at h; cases h
        · rw [h1] at h; cases h
  have hlive : ∀ k o, (St.mk s.fr (us ++ s.ob)).obj k = some o → o.live = true → ∃ o0, s.obj k = some o0 ∧ o0.live = true ∧ find k us ≠ some .dead := fun k o ho hl => by
    rw [hobj] at ho
    cases hf : find k us with
    | none => rw [hf] at ho; exact ⟨o, by simpa using ho, hl, by simp⟩
    | some u =>
      rw [hf] at ho
      simp at ho
      subst ho
      obtain ⟨o0, h1, h2⟩ := hus k u hf
      exact ⟨o0, h1, h2, fun e => by simp at e; rw [e] at hl; cases hl⟩
  refine I.step hst hw hK (fun t x hx => .inl ⟨hx, rfl⟩) (fun k o ho => ?_) (fun k k' o o' b hne h1 h2 hl1 hl2 hb1 => ?_) (fun k o b h1 hl1 hb1 => ?_) (fun b hb => ?_) ?_ rfl (fun b hb => by
    rcases hK2 b hb with h | ⟨h, _⟩ | ⟨k', o', h1', h2', _, h4'⟩
    · exact .inl h
    · exact .inr (.inl (Nat.le_trans I.sz h))
    · exact .inr (I.own k' o' b h1' h2' h4').1)
  · rw [hobj] at ho
    have := hout k
    unfold OutOb at this
    cases hf : find k us with
    | none =>
      rw [hf] at ho
      simp at ho
      cases hlo : o.live with
      | true =>
        refine .inl ⟨ho, rfl, rfl, fun b hb => hc.block b (I.live_lt ho hlo hb) (fun hoc => ?_)⟩
        obtain ⟨k', o', u, h1, h2, h3, h4⟩ := hio b hoc
        exact I.dis k k' o o' b (fun e => by rw [e, h4] at hf; cases hf) ho h1 hlo h2 hb h3
      | false =>
        cases o with
        | dead => exact .inr trivial
        | box cells frz =>
          simp [Ob.live] at hlo
          obtain ⟨b1, arr, ty, h1, _, _, hfz, _⟩ := I.ob k _ ho
          refine .inl ⟨ho, rfl, rfl, fun b hb => hw b ?_⟩
          rw [h1] at hb; simp [blk] at hb; rw [← hb]; exact hfz hlo
        | arr e rows ver frz =>
          simp [Ob.live] at hlo
          obtain ⟨_, xs, _, _, hfz⟩ := I.ob k _ ho
          exact .inl ⟨ho, rfl, rfl, fun b hb => hw b (hfz hlo b hb)⟩
    | some u =>
      rw [hf] at ho this
      simp at ho
      subst ho
      rcases this with h0 | ⟨e1, r1, r1', v1, h1, h2, h3, ⟨ty, xs, h4, h5⟩, h6⟩
      · subst h0; exact .inr trivial
      · subst h1
        exact .inr ⟨ty, xs, h4, h5, fun h => by cases h⟩
  · obtain ⟨p, hp, hpl, _⟩ := hlive k o h1 hl1
    obtain ⟨q, hq, hql, _⟩ := hlive k' o' h2 hl2
    exact I.dis k k' p q b hne hp hq hpl hql hb1
  · obtain ⟨p, hp, hpl, hnd⟩ := hlive k o h1 hl1
    refine ⟨(I.own k p b hp hpl hb1).1, fun hk2 => ?_⟩
    rcases hK2 b hk2 with h | ⟨h, _⟩ | ⟨k', o', h1', h2', h3', h4'⟩
    · exact (I.own k p b hp hpl hb1).2 h
    · have := I.live_lt hp hpl hb1; omega
    · exact I.dis k k' p o' b (fun e => by rw [e] at hnd; exact hnd h3') hp h1' hpl h2' hb1 h4'
  · rcases hK2 b hb with h | ⟨_, h⟩ | ⟨k', o', h1', h2', h3', h4'⟩
    · exact Nat.lt_of_lt_of_le (I.Kb b h) hc.size
    · exact h
    · exact Nat.lt_of_lt_of_le (I.live_lt h1' h2' h4') hc.size
  · refine ⟨hc.os, hc.tape, hc.output, hc.size, fun b hb hno => hc.block b (Nat.lt_of_lt_of_le hb I.sz) (fun hoc => ?_)⟩
    obtain ⟨k, o, u, h1, h2, h3, _⟩ := hio b hoc
    rcases (I.own k o b h1 h2 h3).1 with h | h
    · omega
    · exact hno h
end
end Am

namespace Am
open Go
variable [RowOps] [LoopOps]
open RowOps LoopOps
section
variable {P : Program} {E : Cfg} {N : Ar} {call : Orc} {B : Nat} {Own : Nat → Prop} {w0 : Base} {G : Gh} {K : Nat → Prop} {s : St} {a : Act} {w : World}

def modeAt (ms : List Nat) (i : Nat) : Nat := (ms[i]?).getD 0
def ModeOk (m : Nat) (g : Arg) : Prop := (m = 0 → g.own = false) ∧ (m = 1 → g.isMv = true) ∧ (m = 2 → ∃ e rows, g = .io e rows) ∧ m ≤ 2

theorem argOf_mode {m : Nat} {x : W} {g : Arg} {look : Nat → Option Ob} (h : (argOf m x).get look = some g) : ModeOk m g := by
  unfold argOf at h
  split at h
  · simp at h; subst h; exact ⟨fun _ => rfl, fun h => by omega, fun h => by omega, by omega⟩
  · simp only [Rd.get_bind] at h
    rename_i y _
    cases hr : (reify depth y).get look with
    | none => simp [hr] at h
    | some c => simp [hr] at h; subst h; exact ⟨fun _ => rfl, fun h => by omega, fun h => by omega, by omega⟩
  · simp only [Rd.get_bind] at h
    rename_i as
    cases hr : (reifyAll as).get look with
    | none => simp [hr] at h
    | some c => simp [hr] at h; subst h; exact ⟨fun _ => rfl, fun h => by omega, fun h => by omega, by omega⟩
  · rename_i k ver win
    simp only [Rd.get_look] at h
    split at h
    · rename_i e rows ver' _
      cases hb : eqN ver ver' with
      | false => simp [hb] at h
      | true => simp [hb] at h; subst h; exact ⟨fun h => by omega, fun _ => rfl, fun h => by omega, by omega⟩
    · simp at h
  · rename_i k ver
    simp only [Rd.get_look] at h
    split at h
    · rename_i e rows ver' _
      cases hb : eqN ver ver' with
      | false => simp [hb] at h
      | true => simp [hb] at h; subst h; exact ⟨fun h => by omega, fun h => by omega, fun _ => ⟨_, _, rfl⟩, by omega⟩
    · simp at h
  · simp at h

theorem argsOf_mode {look : Nat → Option Ob} : ∀ (ms : List Nat) (ws : List W) (args : List Arg), (argsOf ms ws).get look = some args → ws.length = args.length ∧ ∀ (i : Nat) (g : Arg), args[i]? = some g → ModeOk (modeAt ms i) g
  | ms, [], args, h => by cases ms <;> simp [argsOf] at h <;> subst h <;> exact ⟨rfl, fun i g h => by simp at h⟩
  | ms, x :: ws, args, h => by
    have h' : ((argOf (modeAt ms 0) x).bind fun a => (argsOf ms.tail ws).bind fun as => Rd.ret (a :: as)).get look = some args := by
      cases ms <;> simpa [argsOf, modeAt] using h
    simp only [Rd.get_bind] at h'
    cases ha : (argOf (modeAt ms 0) x).get look with
    | none => simp [ha] at h'
    | some g0 =>
      cases hr : (argsOf ms.tail ws).get look with
      | none => simp [ha, hr] at h'
      | some args' =>
        simp [ha, hr] at h'
        subst h'
        obtain ⟨h1, h2⟩ := argsOf_mode ms.tail ws args' hr
        refine ⟨by simp [h1], fun i g hg => ?_⟩
        cases i with
        | zero => simp at hg; subst hg; exact argOf_mode ha
        | succ i =>
          simp at hg
          have := h2 i g hg
          have he : modeAt ms.tail i = modeAt ms (i + 1) := by cases ms <;> simp [modeAt]
          rwa [he] at this

theorem find_cons_ne {α : Type} {k j : Nat} {x : α} {r : List (Nat × α)} (h : j ≠ k) : find k ((j, x) :: r) = find k r := by
  have : eqN j k = false := by rw [Bool.eq_false_iff]; exact fun hb => h (beq_eq hb)
  simp [find, this]
theorem find_cons_eq {α : Type} {k : Nat} {x : α} {r : List (Nat × α)} : find k ((k, x) :: r) = some x := by simp [find]

/-- where the outs go -/
theorem outsTo_spec {w' : World} {K2 : Nat → Prop} {look : Nat → Option Ob} : ∀ (ms : List Nat) (ws : List W) (vs : List Value) (args : List Arg) (outs : Outs) (us : List (Nat × Ob)),
    (outsTo ms ws outs).get look = some us → args.length = vs.length → ws.length = args.length → (∀ (i : Nat) (g : Arg), args[i]? = some g → ModeOk (modeAt ms i) g) →
    (∀ (i : Nat) (g : Arg) (v : Value), args[i]? = some g → vs[i]? = some v → (g.own = false) ∨ (g.own = true ∧ ∃ k, ioAt ms ws i = some k ∧ IoR G s w K g v k)) →
    (∀ k ∈ ioKeys ms ws, look k = s.obj k) → nodupN (ioKeys ms ws) = true → OutR w' K2 args vs outs →
    (∀ k ∈ ioKeys ms ws, ∃ u, find k us = some u) ∧ (∀ k u, find k us = some u → k ∈ ioKeys ms ws) ∧ (∀ k, k ∈ ioKeys ms ws → OutOb G s w' K2 us k) ∧
      (∀ (i : Nat) (g : Arg) (k : Nat), args[i]? = some g → g.isMv = true → ioAt ms ws i = some k → find k us = some .dead)
  | [], ws, vs, args, outs, us, h, _, _, _, _, _, _, _ => by
    have : us = [] := by cases ws <;> simp [outsTo] at h <;> exact h
    subst this
    exact ⟨fun k hk => by simp [ioKeys] at hk, fun k u h => by simp [find] at h, fun k hk => by simp [ioKeys] at hk, fun i g k _ _ h => by simp [ioAt] at h⟩
  | m :: ms, [], vs, args, outs, us, h, _, _, _, _, _, _, _ => by
    have : us = [] := by simp [outsTo] at h; exact h
    subst this
    exact ⟨fun k hk => by simp [ioKeys] at hk, fun k u h => by simp [find] at h, fun k hk => by simp [ioKeys] at hk, fun i g k _ _ h => by simp [ioAt] at h⟩
  | m :: ms, x :: ws, vs, [], outs, us, h, _, hl, _, _, _, _, _ => by simp at hl
  | m :: ms, x :: ws, [], g :: args, outs, us, h, hl, _, _, _, _, _, _ => by simp at hl
  | m :: ms, x :: ws, v :: vs, g :: args, outs, us, h, hl1, hl2, hm, hio, hlk, hnd, hout => by
    have hm0 : ModeOk m g := by simpa [modeAt] using hm 0 g rfl
    have hmr : ∀ (i : Nat) (g : Arg), args[i]? = some g → ModeOk (modeAt ms i) g := fun i g' hg => by simpa [modeAt] using hm (i + 1) g' (by simpa using hg)
    have hior : ∀ (i : Nat) (g : Arg) (v : Value), args[i]? = some g → vs[i]? = some v → (g.own = false) ∨ (g.own = true ∧ ∃ k, ioAt ms ws i = some k ∧ IoR G s w K g v k) :=
      fun i g' v' hg hv => by simpa [ioAt] using hio (i + 1) g' v' (by simpa using hg) (by simpa using hv)
    have hndr : nodupN (ioKeys ms ws) = true := by rw [ioKeys_cons] at hnd; exact (nodupN_append hnd).2
    have hlkr : ∀ k ∈ ioKeys ms ws, look k = s.obj k := fun k hk => hlk k (by rw [ioKeys_cons]; exact List.mem_append_right _ hk)
    simp only [outsTo] at h
    split at h
    · rename_i k ver win
      simp only [Rd.get_bind] at h
      cases hr : (outsTo ms ws outs).get look with
      | none => simp [hr] at h
      | some us' =>
        simp [hr] at h
        subst h
        have hgm := hm0.2.1 rfl
        have hout' : OutR w' K2 args vs outs := by
          cases g <;> simp [Arg.isMv] at hgm
          simpa [OutR] using hout
        obtain ⟨q1, q2, q3, q4⟩ := outsTo_spec ms ws vs args outs us' hr (by simpa using hl1) (by simpa using hl2) hmr hior hlkr hndr hout'
        have hkeys : ioKeys (1 :: ms) (.one (.ref k ver win) :: ws) = k :: ioKeys ms ws := rfl
        rw [hkeys] at hnd ⊢
        obtain ⟨hk0, _⟩ := nodupN_cons hnd
        refine ⟨fun k' hk' => ?_, fun k' u hu => ?_, fun k' hk' => ?_, fun i g' k' hg hmv hat => ?_⟩
        · rcases List.mem_cons.1 hk' with rfl | hk'
          · exact ⟨_, find_cons_eq⟩
          · have hne : k ≠ k' := fun e => hk0 (by rw [e]; exact hk')
            rw [find_cons_ne hne]; exact q1 k' hk'
        · by_cases e : k = k'
          · subst e; simp
          · rw [find_cons_ne e] at hu; exact List.mem_cons_of_mem _ (q2 k' u hu)
        · rcases List.mem_cons.1 hk' with rfl | hk'
          · unfold OutOb; rw [find_cons_eq]; exact .inl rfl
          · have := q3 k' hk'
            unfold OutOb at this ⊢
            have hne : k ≠ k' := fun e => hk0 (by rw [e]; exact hk')
            rwa [find_cons_ne hne]
        · cases i with
          | zero => simp [ioAt] at hat; subst hat; exact find_cons_eq
          | succ i =>
            simp at hg
            have hat' : ioAt ms ws i = some k' := hat
            have hne : k ≠ k' := fun e => hk0 (by rw [e]; exact ioAt_mem ms ws i k' hat')
            rw [find_cons_ne hne]
            exact q4 i g' k' hg hmv hat'
    · rename_i k ver win rows outs'
      simp only [Rd.get_look] at h
      split at h
      · rename_i e r0 ver' f0 hob
        simp only [Rd.get_bind] at h
        cases hr : (outsTo ms ws outs').get look with
        | none => simp [hr] at h
        | some us' =>
          simp [hr] at h
          subst h
          obtain ⟨eg, rg, rfl⟩ := hm0.2.2.1 rfl
          obtain ⟨rows', o', ho', hown, hlen, hnb, hout'⟩ := hout
          cases ho'
          have hkeys : ioKeys (2 :: ms) (.one (.ref k ver win) :: ws) = k :: ioKeys ms ws := rfl
          rw [hkeys] at hnd hlk ⊢
          obtain ⟨hk0, _⟩ := nodupN_cons hnd
          obtain ⟨q1, q2, q3, q4⟩ := outsTo_spec ms ws vs args outs' us' hr (by simpa using hl1) (by simpa using hl2) hmr hior hlkr hndr hout'
          have hio0 := hio 0 (.io eg rg) v rfl rfl
          simp only [Arg.own] at hio0
          rcases hio0 with h0 | ⟨_, k1, hk1, e1, r1, v1, hobj, hbl, hve, rfl, rfl, hov⟩
          · cases h0
          · have : k1 = k := by simpa [ioAt] using hk1.symm
            subst this
            have hlk0 := hlk k1 (by simp)
            rw [hob, hobj] at hlk0
            cases hlk0
            refine ⟨fun k' hk' => ?_, fun k' u hu => ?_, fun k' hk' => ?_, fun i g' k' hg hmv hat => ?_⟩
            · rcases List.mem_cons.1 hk' with rfl | hk'
              · exact ⟨_, find_cons_eq⟩
              · have hne : k1 ≠ k' := fun e => hk0 (by rw [e]; exact hk')
                rw [find_cons_ne hne]; exact q1 k' hk'
            · by_cases e : k1 = k'
              · subst e; simp
              · rw [find_cons_ne e] at hu; exact List.mem_cons_of_mem _ (q2 k' u hu)
            · rcases List.mem_cons.1 hk' with rfl | hk'
              · unfold OutOb; rw [find_cons_eq]; exact .inr ⟨_, _, _, _, rfl, hobj, hlen, hve ▸ hown, by rw [← hve]; exact hnb⟩
              · have := q3 k' hk'
                unfold OutOb at this ⊢
                have hne : k1 ≠ k' := fun e => hk0 (by rw [e]; exact hk')
                rwa [find_cons_ne hne]
            · cases i with
              | zero => simp at hg; subst hg; cases hmv
              | succ i =>
                simp at hg
                have hat' : ioAt ms ws i = some k' := hat
                have hne : k1 ≠ k' := fun e => hk0 (by rw [e]; exact ioAt_mem ms ws i k' hat')
                rw [find_cons_ne hne]
                exact q4 i g' k' hg hmv hat'
      · simp at h
    · have hgo := hm0.1 rfl
      have hout' : OutR w' K2 args vs outs := by
        cases g <;> simp [Arg.own] at hgo <;> simpa [OutR] using hout
      obtain ⟨q1, q2, q3, q4⟩ := outsTo_spec ms ws vs args outs us h (by simpa using hl1) (by simpa using hl2) hmr hior hlkr hndr hout'
      have hkeys : ioKeys (0 :: ms) (x :: ws) = ioKeys ms ws := rfl
      rw [hkeys]
      refine ⟨q1, q2, q3, fun i g' k' hg hmv hat => ?_⟩
      cases i with
      | zero => simp at hg; subst hg; cases g <;> simp [Arg.own, Arg.isMv] at hgo hmv
      | succ i => simp at hg; exact q4 i g' k' hg hmv hat
    · simp at h
end
end Am

namespace Am
open Go
variable [RowOps] [LoopOps]
open RowOps LoopOps

section
variable {P : Program} {E : Cfg} {N : Ar} {call : Orc} {B : Nat} {Own : Nat → Prop} {w0 : Base} {G : Gh} {K : Nat → Prop} {s : St} {a : Act} {w : World}

theorem ioAt_lt : ∀ (ms : List Nat) (ws : List W) (i k : Nat), ioAt ms ws i = some k → i < ws.length ∧ (modeAt ms i = 1 ∨ modeAt ms i = 2)
  | [], _, _, _, h => by simp [ioAt] at h
  | _ :: _, [], _, _, h => by simp [ioAt] at h
  | m :: ms, x :: ws, 0, k, h => by
    simp only [ioAt] at h
    split at h <;> simp_all [modeAt]
  | m :: ms, x :: ws, i + 1, k, h => by
    obtain ⟨h1, h2⟩ := ioAt_lt ms ws i k h
    exact ⟨by simpa using h1, by simpa [modeAt] using h2⟩

theorem mv_own {g : Arg} (h : g.isMv = true) : g.own = true := by cases g <;> simp_all [Arg.isMv, Arg.own]

theorem argR_of (I : Inv B Own w0 G K s a w) {Kc : Nat → Prop} (hK : ∀ b, K b → Kc b) {fk : List Nat} (hKc : ∀ b, Kc b → K b ∨ ∃ k ∈ fk, blk (G.val k) = some b)
    (hfk : ∀ k ∈ fk, ∃ o, s.obj k = some o ∧ o ≠ .dead) {g : Arg} {v : Value} {k : Nat} (hg : g.own = true) (hk : k ∉ fk) (h : IoR G s w K g v k) : ArgR w Kc g v := by
  obtain ⟨e, rows, ver, ho, hb, h⟩ := h
  have hnb : ∀ b, blk v = some b → ¬ Kc b := fun b hbv hkc => by
    have hbk := hb b hbv
    rcases hKc b hkc with h | ⟨k', hk', hb'⟩
    · exact (I.own k _ b ho rfl hbk).2 h
    · obtain ⟨o', ho', hd'⟩ := hfk k' hk'
      exact I.live_apart (fun e => hk (by rw [e]; exact hk')) ho ho' rfl hd' hbk hb'
  cases g with
  | one x => cases hg
  | agg xs => cases hg
  | mv e' rows' => exact ⟨h.mono (fun _ _ => rfl) hK (fun _ _ => rfl), hnb⟩
  | io e' rows' => obtain ⟨_, rfl, rfl, h⟩ := h; exact ⟨h.mono (fun _ _ => rfl) hK (fun _ _ => rfl), hnb⟩

/-- a call of a function whose contract is known -/
theorem good_callW (hcall : ∀ f args r outs, call f args = some (r, outs) → Sat P f args r outs) (I : Inv B Own w0 G K s a w) {o : Oper} (hd : ∀ t', o.dst = some t' → t' < a.tmps.size) {c : Call} (ho : o.op = .call c)
    {fo : Operand} (hc : c.callee = .value fo) {g : Nat} {cvs : Array Value} (hf : a.eval fo = .func (.func g) #[] cvs) {ws : List W} {vs : List Value} (hvs : ((c.args.map a.eval) ++ cvs).toList = vs)
    (hlen : ws.length = vs.length) (hrw : ∀ (i : Nat) (y : W) (v : Value), ws[i]? = some y → vs[i]? = some v → RW G s.obj w K y v) {e : Eff}
    (h : (callW E call o.dst g ws).get s.obj = some e) : Good P B Own w0 s a w o e := by
  simp only [callW, Rd.get_bind] at h
  cases hargs : (argsOf (E.modes g) ws).get s.obj with
  | none => simp [hargs] at h
  | some args =>
  simp only [hargs, Option.bind_some] at h
  cases hcl : call g args with
  | none => simp [hcl] at h
  | some ro =>
  obtain ⟨r, outs⟩ := ro
  simp only [hcl, Rd.get_bind] at h
  cases hfk : (wsKeys (fzWs (E.modes g) ws)).get s.obj with
  | none => simp [hfk] at h
  | some fk =>
  simp only [hfk, Option.bind_some] at h
  cases hnd : (nodupN (ioKeys (E.modes g) ws) && apartN (ioKeys (E.modes g) ws) fk) with
  | false => simp [hnd] at h
  | true =>
  simp only [hnd, cond_true, Rd.get_bind] at h
  simp only [Bool.and_eq_true] at hnd
  have hap := apartN_spec hnd.2
  obtain ⟨⟨fn, hfn, hbody, hname⟩, hsat⟩ := hcall g args r outs hcl
  have hth := wsKeys_there _ _ hfk
  -- what the callee may read
  let Kc : Nat → Prop := fun b => K b ∨ ∃ k ∈ fk, blk (G.val k) = some b
  have hKc : ∀ b, K b → Kc b := fun b h => .inl h
  obtain ⟨hal, hspec⟩ := args_spec I hKc (E.modes g) ws vs args fk hargs hlen hrw hfk (fun k hk b hb => .inr ⟨k, hk, hb⟩)
  obtain ⟨hwl, hmode⟩ := argsOf_mode (E.modes g) ws args hargs
  have hioa : ∀ (i : Nat) (g' : Arg) (v : Value), args[i]? = some g' → vs[i]? = some v → (g'.own = false) ∨ (g'.own = true ∧ ∃ k, ioAt (E.modes g) ws i = some k ∧ IoR G s w K g' v k) := fun i g' v h1 h2 => by
    rcases hspec i g' v h1 h2 with ⟨h, _⟩ | h
    · exact .inl h
    · exact .inr h
  have hA : ArgsR w Kc args vs := by
    refine ⟨hal, fun i g' v h1 h2 => ?_, fun i j g1 g2 v1 v2 b hne h1 h2 hg1 hg2 hv1 hv2 hb1 hb2 => ?_, fun b hb => ?_⟩
    · rcases hspec i g' v h1 h2 with ⟨_, h⟩ | ⟨hg, k, hk, hio⟩
      · exact h
      · exact argR_of I hKc (fun b h => h) hth hg (hap k (ioAt_mem _ _ _ _ hk)) hio
    · rcases hioa i g1 v1 h1 hv1 with h | ⟨_, k1, hk1, e1, r1, ver1, ho1, hbk1, _⟩
      · rw [h] at hg1; cases hg1
      · rcases hioa j g2 v2 h2 hv2 with h | ⟨_, k2, hk2, e2, r2, ver2, ho2, hbk2, _⟩
        · rw [h] at hg2; cases hg2
        · exact I.dis k1 k2 _ _ b (ioAt_inj _ _ i j k1 k2 hnd.1 hne hk1 hk2) ho1 ho2 rfl rfl (hbk1 b hb1) (hbk2 b hb2)
    · rcases hb with hb | ⟨k, hk, hb⟩
      · exact I.Kb b hb
      · obtain ⟨o', ho', hd'⟩ := hth k hk
        exact (I.ob k o' ho').lt hd' hb
  have hrun : (execOp a.eval o).run P w = .ok (.enter g ((c.args.map a.eval) ++ cvs)) w := by
    obtain ⟨bc, hbc⟩ := Option.isSome_iff_exists.1 hbody
    unfold execOp
    simp only [ho, resolve, hc, hf, Deferred.ofValue]
    simp [invoke, callFunc, program, Sem.run, hfn, hname, hbc]
  -- the objects that the call freezes
  obtain ⟨us1, hm, h⟩ := Option.bind_eq_some_iff.1 h
  have hfrz : ∃ K', Inv B Own w0 G K' ⟨s.fr, us1 ++ s.ob⟩ a w ∧ (∀ b, K b → K' b) ∧
      (∀ b, K' b → K b ∨ ∃ k ∈ fk, blk (G.val k) = some b) ∧
      (∀ k, k ∉ fk → (St.mk s.fr (us1 ++ s.ob)).obj k = s.obj k) ∧ (∀ k, s.obj k = none → (St.mk s.fr (us1 ++ s.ob)).obj k = none) ∧
      ((ioKeys (E.modes g) ws = [] ∧ r.flats = 0 ∧ K' = K) ∨ (∀ k ∈ fk, ∀ b, blk (G.val k) = some b → K' b)) := by
    have hB : ∀ us1, (frzAll fk).get s.obj = some us1 → ∃ K', Inv B Own w0 G K' ⟨s.fr, us1 ++ s.ob⟩ a w ∧ (∀ b, K b → K' b) ∧ (∀ b, K' b → K b ∨ ∃ k ∈ fk, blk (G.val k) = some b) ∧
        (∀ k, k ∉ fk → (St.mk s.fr (us1 ++ s.ob)).obj k = s.obj k) ∧ (∀ k, s.obj k = none → (St.mk s.fr (us1 ++ s.ob)).obj k = none) ∧ (∀ k ∈ fk, ∀ b, blk (G.val k) = some b → K' b) := fun us1 h1 => by
      obtain ⟨K', I1, k1, k2, k3, k4, k5⟩ := freeze_spec I fk us1 h1
      refine ⟨K', I1, k1, k2, fun k hk => ?_, k5, k3⟩
      cases hok : s.obj k with
      | none => exact k5 k hok
      | some o' => rw [k4 k o' hok, if_neg hk]
    split at hm
    · rename_i hio0 hfl0
      simp at hm
      subst hm
      exact ⟨K, I, fun _ h => h, fun _ h => .inl h, fun _ _ => rfl, fun _ h => h, .inl ⟨hio0, hfl0, rfl⟩⟩
    · obtain ⟨K', h1, h2, h3, h4, h5, h6⟩ := hB us1 hm
      exact ⟨K', h1, h2, h3, h4, h5, .inr h6⟩
  obtain ⟨K', I1, k1, k2, k4, k5, hcase⟩ := hfrz
  cases hus2 : (outsTo (E.modes g) ws outs).get s.obj with
  | none => simp [hus2] at h
  | some us2 =>
  simp only [hus2, Option.bind_some] at h
  -- what stands behind the call
  refine fun next Q hn => ?_
  unfold Oper.wp
  rw [hrun, Oper.upon_enter]
  refine (hsat w _ Kc (hvs ▸ hA)).mono ?_
  rintro e' w' ⟨v, rfl, K1, l, hchg, hK1, hK1b, hK1s, hrr, hl1, hl2, hout⟩
  rw [hvs] at hchg hK1s hl1 hout
  have hliveio : ∀ (i : Nat) (g' : Arg) (v : Value) (b : Nat), args[i]? = some g' → g'.own = true → vs[i]? = some v → blk v = some b →
      ∃ k o', ioAt (E.modes g) ws i = some k ∧ s.obj k = some o' ∧ o'.live = true ∧ blk (G.val k) = some b := fun i g' v b h1 hg h2 hb => by
    rcases hioa i g' v h1 h2 with h | ⟨_, k, hk, e1, r1, ver1, ho1, hbk1, _⟩
    · rw [h] at hg; cases hg
    · exact ⟨k, _, hk, ho1, rfl, hbk1 b hb⟩
  -- the frozen set behind the call
  have hnone2 : ∀ k, s.obj k = none → find k us2 = none → (St.mk s.fr (us2 ++ (us1 ++ s.ob))).obj k = none := fun k h1 h2 => by
    show find k (us2 ++ (us1 ++ s.ob)) = none
    rw [find_append, h2, Option.none_or]
    exact k5 k h1
  have hstep : ∃ K2, Inv B Own w0 G K2 ⟨s.fr, us2 ++ (us1 ++ s.ob)⟩ a w' ∧ RR w' K2 r v l ∧ Fresh B Own K2 G ⟨s.fr, us2 ++ (us1 ++ s.ob)⟩ l ∧ (∀ k, s.obj k = none → find k us2 = none) := by
    rcases hcase with ⟨hio0, hfl0, rfl⟩ | hfz
    · -- nothing is frozen
      obtain ⟨hrr', hl0⟩ := hrr.flat (w2 := w') (K2 := K') hfl0
      obtain ⟨q1, q2, q3, q4⟩ := outsTo_spec (w' := w') (K2 := K1) (E.modes g) ws vs args outs us2 hus2 hal hwl hmode hioa (fun _ _ => rfl) hnd.1 hout
      have hnone : ∀ k, find k us2 = none := fun k => by
        cases hf' : find k us2 with
        | none => rfl
        | some u => have := q2 k u hf'; rw [hio0] at this; simp at this
      have hnoown : ∀ b, ¬ OwnA args vs b := fun b ⟨i, g', v', h1, hg, h2, hb⟩ => by
        obtain ⟨k, o', hk, _⟩ := hliveio i g' v' b h1 hg h2 hb
        have := ioAt_mem _ _ _ _ hk
        rw [hio0] at this; simp at this
      refine ⟨K', ?_, hrr', ?_, fun k _ => hnone k⟩
      · exact I1.called (w' := w') (K2 := K') (OwnC := OwnA args vs) (us := us2) (fun _ h => h) hchg (fun b hb => absurd hb (hnoown b)) (fun k u h => by rw [hnone] at h; cases h)
          (fun k => by unfold OutOb; rw [hnone]; trivial) (fun b h => .inl h)
      · rw [hl0]
        exact ⟨fun i u b h => by simp at h, fun i i' u u' b _ h => by simp at h⟩
    · -- what was reached is frozen
      obtain ⟨q1, q2, q3, q4⟩ := outsTo_spec (w' := w') (K2 := K1) (E.modes g) ws vs args outs us2 hus2 hal hwl hmode hioa (fun _ _ => rfl) hnd.1 hout
      have hKcK' : ∀ b, Kc b → K' b := fun b h => by
        rcases h with h | ⟨k, hk, hb⟩
        · exact k1 b h
        · exact hfz k hk b hb
      have hus : ∀ k u, find k us2 = some u → ∃ o', s.obj k = some o' ∧ o'.live = true := fun k u hf' => by
        obtain ⟨i, hi⟩ := ioAt_of_mem _ _ _ (q2 k u hf')
        obtain ⟨hil, hmi⟩ := ioAt_lt _ _ _ _ hi
        rw [hwl] at hil
        have hg := List.getElem?_eq_getElem hil
        have hv' : vs[i]? = some (vs[i]'(by rw [← hal]; exact hil)) := List.getElem?_eq_getElem (by rw [← hal]; exact hil)
        rcases hspec i _ _ hg hv' with ⟨h0, _⟩ | ⟨_, k', hk', e1, r1, ver1, ho1, _⟩
        · exfalso
          have hmo := hmode i _ hg
          rcases hmi with hm | hm
          · rw [mv_own (hmo.2.1 hm)] at h0; cases h0
          · obtain ⟨e0, r0, he⟩ := hmo.2.2.1 hm; rw [he] at h0; cases h0
        · rw [hi] at hk'; cases hk'; exact ⟨_, ho1, rfl⟩
      have hfind : ∀ k, k ∈ ioKeys (E.modes g) ws → (St.mk s.fr (us1 ++ s.ob)).obj k = s.obj k := fun k hk => k4 k (hap k hk)
      have hmvk : ∀ b, MvA args vs b → ∃ k o', (St.mk s.fr (us1 ++ s.ob)).obj k = some o' ∧ o'.live = true ∧ find k us2 = some .dead ∧ blk (G.val k) = some b := fun b ⟨i, g', v', h1, hmv, h2, hbv⟩ => by
        obtain ⟨k, o', hk, h3, h4, h5⟩ := hliveio i g' v' b h1 (mv_own hmv) h2 hbv
        exact ⟨k, o', by rw [hfind k (ioAt_mem _ _ _ _ hk)]; exact h3, h4, q4 i g' k h1 hmv hk, h5⟩
      refine ⟨fun b => K' b ∨ K1 b, ?_, hrr.mono (fun b h => .inr h), ⟨fun i u b hu hb => ?_, hl2⟩, fun k hk => ?_⟩
      · refine I1.called (w' := w') (K2 := fun b => K' b ∨ K1 b) (OwnC := OwnA args vs) (us := us2) (fun b h => .inl h) hchg (fun b hb => ?_) (fun k u hf' => ?_) (fun k => ?_) (fun b hb => ?_)
        · obtain ⟨i, g', v', h1, hg, h2, hbv⟩ := hb
          obtain ⟨k, o', hk, h3, h4, h5⟩ := hliveio i g' v' b h1 hg h2 hbv
          have hkm := ioAt_mem _ _ _ _ hk
          obtain ⟨u, hu⟩ := q1 k hkm
          exact ⟨k, o', u, by rw [hfind k hkm]; exact h3, h4, h5, hu⟩
        · obtain ⟨o', h1, h2⟩ := hus k u hf'
          exact ⟨o', by rw [hfind k (q2 k u hf')]; exact h1, h2⟩
        · cases hf' : find k us2 with
          | none => unfold OutOb; rw [hf']; trivial
          | some u =>
            have hkm := q2 k u hf'
            have := q3 k hkm
            unfold OutOb at this ⊢
            rw [hf'] at this ⊢
            rcases this with h | ⟨e1, r1, r1', ver1, h1, h2, h3, h4, h5⟩
            · exact .inl h
            · refine .inr ⟨e1, r1, r1', ver1, h1, by rw [hfind k hkm]; exact h2, h3, h4.mono (fun _ _ => rfl) (fun b h => .inr h) (fun _ _ => rfl), fun b hb hk2 => ?_⟩
              rcases hk2 with hk2 | hk2
              · exact (I1.own k _ b (by rw [hfind k hkm]; exact h2) rfl hb).2 hk2
              · exact h5 b hb hk2
        · rcases hb with hb | hb
          · exact .inl hb
          · rcases hK1s b hb with h | h | h
            · exact .inl (hKcK' b h)
            · exact .inr (.inl ⟨h, hK1b b hb⟩)
            · exact .inr (.inr (hmvk b h))
      · obtain ⟨hnew, hnk1⟩ := hl1 i u b hu hb
        have hlv2 : ∀ k o, (St.mk s.fr (us2 ++ (us1 ++ s.ob))).obj k = some o → o.live = true → ∃ o0, (St.mk s.fr (us1 ++ s.ob)).obj k = some o0 ∧ o0.live = true ∧ find k us2 ≠ some .dead := fun k o ho hl => by
          have ho' : (find k us2).or ((St.mk s.fr (us1 ++ s.ob)).obj k) = some o := by
            have : (St.mk s.fr (us2 ++ (us1 ++ s.ob))).obj k = (find k us2).or ((St.mk s.fr (us1 ++ s.ob)).obj k) := find_append k us2 _
            rw [← this]; exact ho
          cases hf' : find k us2 with
          | none => rw [hf'] at ho'; exact ⟨o, by simpa using ho', hl, by simp⟩
          | some u =>
            rw [hf'] at ho'
            simp at ho'
            subst ho'
            obtain ⟨o0, h1, h2⟩ := hus k u hf'
            exact ⟨o0, by rw [hfind k (q2 k u hf')]; exact h1, h2, fun e => by simp at e; rw [e] at hl; cases hl⟩
        rcases hnew with hnew | hmv
        · refine ⟨.inl (Nat.le_trans I.sz hnew), fun h => ?_, fun k o ho hl hbk => ?_⟩
          · rcases h with h | h
            · have := I1.Kb b h; omega
            · exact hnk1 h
          · obtain ⟨o0, h1, h2, _⟩ := hlv2 k o ho hl
            have := I1.live_lt h1 h2 hbk; omega
        · obtain ⟨km, om, h1, h2, h3, h4⟩ := hmvk b hmv
          refine ⟨(I1.own km om b h1 h2 h4).1, fun h => ?_, fun k o ho hl hbk => ?_⟩
          · rcases h with h | h
            · exact (I1.own km om b h1 h2 h4).2 h
            · exact hnk1 h
          · obtain ⟨o0, h5, h6, h7⟩ := hlv2 k o ho hl
            exact I1.dis k km o0 om b (fun e => h7 (by rw [e]; exact h3)) h5 h1 h6 h2 hbk h4
      · cases hf' : find k us2 with
        | none => rfl
        | some u => obtain ⟨o', h1, _⟩ := hus k u hf'; rw [hk] at h1; cases h1
  obtain ⟨K2, I2, hrr2, hfresh, hn2⟩ := hstep
  cases hdst : o.dst with
  | none =>
    rw [hdst] at h hn
    simp at h
    subst h
    refine hn _ _ G K2 rfl (I2.congr (fun t => rfl) (fun k => ?_))
    show find k ((us2 ++ us1) ++ s.ob) = find k (us2 ++ (us1 ++ s.ob))
    rw [List.append_assoc]
  | some t =>
    rw [hdst] at h hn
    simp only at h
    cases himp : imp t r with
    | none => simp [himp] at h
    | some q =>
      obtain ⟨W0, us3⟩ := q
      simp only [himp, Rd.get_bind] at h
      cases hfa : (freshAll us3).get s.obj with
      | none => simp [hfa] at h
      | some u0 =>
        simp [hfa] at h
        subst h
        have hfn := freshAll_get us3 hfa
        obtain ⟨G', ⟨I3, _, _⟩, hrw3⟩ := imp_spec I2 himp hrr2 (fun u hu => hnone2 u.1 (hfn u hu) (hn2 u.1 (hfn u hu))) hfresh
        have I4 := I3.put (d := some t) (fun t' h => by cases h; exact hd t hdst) hrw3
        refine hn _ _ G' K2 (put_size _ _ _) (I4.congr (fun t' => rfl) (fun k => ?_))
        show find k ((us3 ++ (us2 ++ us1)) ++ s.ob) = find k ([] ++ (us3 ++ (us2 ++ (us1 ++ s.ob))))
        simp [List.append_assoc]
end
end Am

namespace Am
open Go
variable [RowOps] [LoopOps]
open RowOps LoopOps

section
variable {P : Program} {E : Cfg} {N : Ar} {call : Orc} {B : Nat} {Own : Nat → Prop} {w0 : Base} {G : Gh} {K : Nat → Prop} {s : St} {a : Act} {w : World}

theorem retype_rw {ob : Nat → Option Ob} {x : W} {v : Value} (e : Nat) (h : RW G ob w K x v) : RW G ob w K (retype e x) v := by
  unfold retype
  split
  · rw [rw_nil h]; exact .one (.c .nil)
  · exact h

theorem retypes_rw (E : Cfg) : ∀ (ts : List Nat) (ws : List W) , (retypes E ts ws).length = ws.length ∧ ∀ (j : Nat) (y : W) (v : Value) (ob : Nat → Option Ob), (retypes E ts ws)[j]? = some y →
    (∀ y', ws[j]? = some y' → RW G ob w K y' v) → RW G ob w K y v
  | [], ws => by refine ⟨by simp [retypes], fun j y v ob h h2 => h2 y (by simpa [retypes] using h)⟩
  | t :: ts, [] => by refine ⟨by simp [retypes], fun j y v ob h h2 => h2 y (by simpa [retypes] using h)⟩
  | t :: ts, x :: ws => by
    obtain ⟨h1, h2⟩ := retypes_rw E ts ws
    refine ⟨by simp [retypes, h1], fun j y v ob h hy => ?_⟩
    cases j with
    | zero =>
      have hx := hy x (by simp)
      simp only [retypes, List.getElem?_cons_zero, Option.some.injEq] at h
      subst h
      split
      · split
        · exact retype_rw _ hx
        · exact hx
      · exact hx
    | succ j => exact h2 j y v ob (by simpa [retypes] using h) (fun y' h' => hy y' (by simpa using h'))

theorem good_call (hN : NOk N) (hT : TabOk P E.T) (hI : ∀ t k, E.ik t = some k → P.underlying t = some (.int k)) (hcall : ∀ f args r outs, call f args = some (r, outs) → Sat P f args r outs) (I : Inv B Own w0 G K s a w) {o : Oper} (hd : ∀ t', o.dst = some t' → t' < a.tmps.size) {c : Call} (ho : o.op = .call c) {e : Eff}
    (h : (eop E N call s.slot o.dst o.type (.call c)).get s.obj = some e) : Good P B Own w0 s a w o e := by
  simp only [eop] at h
  split at h
  · simp at h
  rename_i ws hws
  obtain ⟨hl, hr⟩ := opnds_rw I _ _ hws
  obtain ⟨hl2, hr2⟩ := retypes_rw (G := G) (w := w) (K := K) E c.argTypes.toList ws
  have hrr : ∀ (i : Nat) (y : W) (v : Value), (retypes E c.argTypes.toList ws)[i]? = some y → (c.args.map a.eval).toList[i]? = some v → RW G s.obj w K y v := fun i y v h1 h2 => by
    refine hr2 i y v s.obj h1 fun y' h3 => ?_
    simp only [Array.toList_map, List.getElem?_map] at h2
    cases hx : c.args.toList[i]? with
    | none => rw [hx] at h2; cases h2
    | some x => rw [hx] at h2; simp at h2; subst h2; exact hr i y' x h3 hx
  have hll : (retypes E c.argTypes.toList ws).length = (c.args.map a.eval).toList.length := by rw [hl2, hl]; simp
  split at h
  · -- a builtin
    rename_i b hb
    unfold builtinW at h
    split at h
    · rename_i p hws'
      rw [hws'] at hll hrr
      obtain ⟨v, hv⟩ : ∃ v, (c.args.map a.eval) = #[v] := by
        simp at hll
        exact Array.size_eq_one_iff.1 (by simp [← hll])
      exact good_len hT I hd ho hb (hrr 0 _ v rfl (by rw [hv]; rfl)) hv h
    · rename_i p q hws'
      rw [hws'] at hll hrr
      obtain ⟨v, v', hv⟩ : ∃ v v', (c.args.map a.eval) = #[v, v'] := by
        have : (c.args.map a.eval).toList.length = 2 := by rw [← hll]; rfl
        match hm : (c.args.map a.eval).toList, this with
        | [v, v'], _ => exact ⟨v, v', by rw [← Array.toList_inj, hm]⟩
      exact good_append hN hT I hd ho hb (hrr 0 _ v rfl (by rw [hv]; rfl)) (hrr 1 _ v' rfl (by rw [hv]; rfl)) hv (fun t t' t0 hts hdst h => good_appendMake hN hT hI I hd ho hb (hrr 0 _ v rfl (by rw [hv]; rfl)) (hrr 1 _ v' rfl (by rw [hv]; rfl)) hv hts hdst h) h
    · rename_i p hws'
      rw [hws'] at hll hrr
      obtain ⟨v, hv⟩ : ∃ v, (c.args.map a.eval) = #[v] := by
        simp at hll
        exact Array.size_eq_one_iff.1 (by simp [← hll])
      unfold capW at h
      split at h
      · rename_i t e0 hts
        split at h
        · rename_i el _ _ _ hti
          simp at h
          subst h
          have hu : P.underlying t = some (.slice el) := (hT _ _ hti).kd
          have hat : c.argTypes[0]? = some t := by
            have : c.argTypes.toList[0]? = some t := by rw [hts]; rfl
            simpa using this
          have hvn := rw_nil (hrr 0 _ v rfl (by rw [hv]; rfl))
          subst hvn
          refine good_put I hd (v := .int .i64 0) ?_ (.one (.c (.v rfl)))
          unfold execOp
          simp [ho, resolve, hb, hv, invoke, Go.builtin, Builtin.cap_, hat, run_underlying hu, goInt]
        · simp at h
      · simp at h
    · rename_i k x k' y hws'
      rw [hws'] at hll hrr
      obtain ⟨v, v', hv⟩ : ∃ v v', (c.args.map a.eval) = #[v, v'] := by
        have : (c.args.map a.eval).toList.length = 2 := by rw [← hll]; rfl
        match hm : (c.args.map a.eval).toList, this with
        | [v, v'], _ => exact ⟨v, v', by rw [← Array.toList_inj, hm]⟩
      have e1 := rw_sc (hrr 0 _ v rfl (by rw [hv]; rfl))
      have e2 := rw_sc (hrr 1 _ v' rfl (by rw [hv]; rfl))
      simp at h
      subst h
      refine good_put I hd (v := .int k (if y < x then y else x)) ?_ ?_
      · unfold execOp
        simp [ho, resolve, hb, hv, e1, e2, invoke, Go.builtin, Builtin.min_, Builtin.min2]
      · rw [hN.lt]
        by_cases hxy : y < x <;> simp [hxy] <;> exact .one (.c (.v rfl))
    · rename_i k x k' y hws'
      rw [hws'] at hll hrr
      obtain ⟨v, v', hv⟩ : ∃ v v', (c.args.map a.eval) = #[v, v'] := by
        have : (c.args.map a.eval).toList.length = 2 := by rw [← hll]; rfl
        match hm : (c.args.map a.eval).toList, this with
        | [v, v'], _ => exact ⟨v, v', by rw [← Array.toList_inj, hm]⟩
      have e1 := rw_sc (hrr 0 _ v rfl (by rw [hv]; rfl))
      have e2 := rw_sc (hrr 1 _ v' rfl (by rw [hv]; rfl))
      simp at h
      subst h
      refine good_put I hd (v := .int k (if x < y then y else x)) ?_ ?_
      · unfold execOp
        simp [ho, resolve, hb, hv, e1, e2, invoke, Go.builtin, Builtin.max_, Builtin.max2]
      · rw [hN.lt]
        by_cases hxy : x < y <;> simp [hxy] <;> exact .one (.c (.v rfl))
    · simp at h
  · rename_i fo hfo
    split at h
    · rename_i g caps hx
      have := opnd_rw I hx
      generalize hv : a.eval fo = v at this
      cases this with
      | one this => cases this with
        | clo hsz hcr =>
          rename_i cvs
          refine good_callW hcall I hd ho hfo hv rfl ?_ ?_ h
          · simp [hl2, hl, hsz]
          · intro i y u hy hu
            rw [Array.toList_append] at hu
            rcases Nat.lt_or_ge i (retypes E c.argTypes.toList ws).length with hi | hi
            · rw [List.getElem?_append_left hi] at hy
              rw [List.getElem?_append_left (by rw [← hll]; exact hi)] at hu
              exact hrr i y u hy hu
            · rw [List.getElem?_append_right hi] at hy
              rw [List.getElem?_append_right (by rw [← hll]; exact hi), ← hll] at hu
              simp only [List.getElem?_map, Option.map_eq_some_iff] at hy
              obtain ⟨z, hz, rfl⟩ := hy
              exact .one (hcr _ _ _ hz (by simpa using hu))
    · rename_i g caps hx
      have := opnd_rw I hx
      generalize hv : a.eval fo = v at this
      cases this with
      | one this => cases this with
        | c this => cases this with
          | clo hsz hcr =>
            rename_i cvs
            refine good_callW hcall I hd ho hfo hv rfl ?_ ?_ h
            · simp [hl2, hl, hsz]
            · intro i y u hy hu
              rw [Array.toList_append] at hu
              rcases Nat.lt_or_ge i (retypes E c.argTypes.toList ws).length with hi | hi
              · rw [List.getElem?_append_left hi] at hy
                rw [List.getElem?_append_left (by rw [← hll]; exact hi)] at hu
                exact hrr i y u hy hu
              · rw [List.getElem?_append_right hi] at hy
                rw [List.getElem?_append_right (by rw [← hll]; exact hi), ← hll] at hu
                simp only [List.getElem?_map, Option.map_eq_some_iff] at hy
                obtain ⟨z, hz, rfl⟩ := hy
                exact .one (.c (hcr _ _ _ hz (by simpa using hu)))
    · simp at h
  · simp at h

structure Env (P : Program) (E : Cfg) (N : Ar) (call : Orc) : Prop where
  N : NOk N
  T : TabOk P E.T
  I : ∀ t k, E.ik t = some k → P.underlying t = some (.int k)
  FT : FtOk P E.fty
  E : EqOk P E.eqT
  call : ∀ f args r outs, call f args = some (r, outs) → Sat P f args r outs

theorem good_op (H : Env P E N call) (I : Inv B Own w0 G K s a w) {o : Oper} (hd : ∀ t', o.dst = some t' → t' < a.tmps.size) {e : Eff}
    (h : (eop E N call s.slot o.dst o.type o.op).get s.obj = some e) : Good P B Own w0 s a w o e := by
  have hT := H.T
  have hN := H.N
  cases ho : o.op with
  | move x => exact good_move I hd ho (ho ▸ h)
  | assign x => exact good_assign I hd ho (ho ▸ h)
  | pick c x y => exact good_pick I hd ho (ho ▸ h)
  | alloc t => exact good_alloc hT I hd ho (ho ▸ h)
  | box t x => exact good_box I hd ho (ho ▸ h)
  | build t ps => exact good_build hT I hd ho (ho ▸ h)
  | buildSlice t n ps => exact good_buildSlice hT I hd ho (ho ▸ h)
  | load t x => exact good_load hT I hd ho (ho ▸ h)
  | store t x y => exact good_store hT I ho (ho ▸ h)
  | nilCheck x => exact good_nilCheck I hd ho (ho ▸ h)
  | binOp op ty x y ty' => exact good_binOp hN hT H.E I hd ho (ho ▸ h)
  | unOp op ty x => exact good_unOp hN I hd ho (ho ▸ h)
  | fieldAddr t x f => exact good_fieldAddr hT I hd ho (ho ▸ h)
  | indexAddr t x i => exact good_indexAddr hN hT I hd ho (ho ▸ h)
  | extract x i => exact good_extract I hd ho (ho ▸ h)
  | makeSlice t n m => exact good_makeSlice hN hT I hd ho (ho ▸ h)
  | makeFunc fn first caps => exact good_makeFunc I hd ho (ho ▸ h)
  | call c => exact good_call hN hT H.I H.call I hd ho (ho ▸ h)
  | index t x i => exact good_index hT I hd ho (ho ▸ h)
  | field t x f => exact good_field hT H.FT I hd ho (ho ▸ h)
  | convert src dst x => exact good_convert hN H.I I hd ho (ho ▸ h)
  | slice t x lo hi mx => exact good_slice hN hT I hd ho (ho ▸ h)
  | _ => rw [ho] at h; simp [eop] at h
end
end Am

