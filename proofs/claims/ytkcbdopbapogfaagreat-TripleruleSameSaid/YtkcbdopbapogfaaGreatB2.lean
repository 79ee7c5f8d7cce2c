/-
  From the row's reading of an argument to that evaluator's values, and back: each theorem bears its own conditions.
  By an AI agent. No person has read it.
-/
import Derived.Test.YtkcbdopbapogfaaGreatB1
import Derived.Test.YtkcbdopbapogfaaGreatS25
import Derived.Test.YtkcbdopbapogfaaGreatRows
import Derived.WalkKit
import Derived.ProofKit
import Derived.JoinedOf
import Derived.JoinedAt
set_option linter.all false
namespace Am
open Go Go.Proofs Go.ChangeShapes Go.WideShapes Go.ChangeAt Go.RowKit
set_option linter.unusedVariables false

theorem cells5 : Tryz.prog.cellsOf 5 = 1 := by kernel_rfl
theorem cells148 : Tryz.prog.cellsOf 148 = 2 := by kernel_rfl
theorem cells107 : Tryz.prog.cellsOf 107 = 3 := by kernel_rfl
theorem cells56 : Tryz.prog.cellsOf 56 = 1 := by kernel_rfl
theorem cells57 : Tryz.prog.cellsOf 57 = 1 := by kernel_rfl
theorem cells60 : Tryz.prog.cellsOf 60 = 1 := by kernel_rfl
theorem cells59 : Tryz.prog.cellsOf 59 = 2 := by kernel_rfl
theorem cells62 : Tryz.prog.cellsOf 62 = 4 := by kernel_rfl
theorem laid : laidOutB Tryz.prog = true := by kernel_rfl
theorem own : ownKnob Tryz.prog.godebug = none := by kernel_rfl
theorem read62 : Tryz.prog.readableRec 62 = true := by kernel_rfl
theorem row62 : 62 < Tryz.prog.types.size := of_decide_eq_true (by kernel_rfl)

abbrev Rws (z : Nat) (l : List (List Nat)) : Prop := ∀ r ∈ l, r.length = z ∧ ∀ b ∈ r, b < 256
theorem getD_bd {r : List Nat} (h : ∀ b ∈ r, b < 256) (i : Nat) : r.getD i 0 < 256 := by
  rw [List.getD_eq_getElem?_getD]
  cases hi : r[i]? with
  | none => decide
  | some b => exact h b (List.mem_of_getElem? hi)
theorem rws2 {l : List (List Nat)} (h : Rws 2 l) : ∃ dn : List (Nat × Nat), (l.map fun r => r.map u8) = rB2 dn ∧ ∀ p ∈ dn, p.1 < 256 := by
  refine ⟨l.map fun r => (r.getD 0 0, r.getD 1 0), ?_, fun p hp => ?_⟩
  · unfold rB2
    rw [List.map_map]
    refine List.map_congr_left fun r hr => ?_
    match r, (h r hr).1 with
    | [a, b], _ => rfl
  · obtain ⟨r, hr, rfl⟩ := List.mem_map.1 hp
    exact getD_bd (h r hr).2 0
theorem rws3 {l : List (List Nat)} (h : Rws 3 l) : ∃ de : List (Nat × Nat × Nat), (l.map fun r => r.map u8) = rB3 de ∧ ∀ p ∈ de, p.1 < 256 ∧ p.2.1 < 256 ∧ p.2.2 < 256 := by
  refine ⟨l.map fun r => (r.getD 0 0, r.getD 1 0, r.getD 2 0), ?_, fun p hp => ?_⟩
  · unfold rB3
    rw [List.map_map]
    refine List.map_congr_left fun r hr => ?_
    match r, (h r hr).1 with
    | [a, b, c], _ => rfl
  · obtain ⟨r, hr, rfl⟩ := List.mem_map.1 hp
    exact ⟨getD_bd (h r hr).2 0, getD_bd (h r hr).2 1, getD_bd (h r hr).2 2⟩
theorem rws1 {l : List (List Nat)} (h : Rws 1 l) : ∃ xn : List Nat, (l.map fun r => r.map u8) = rB1 xn ∧ ∀ a ∈ xn, a < 256 := by
  refine ⟨l.map fun r => r.getD 0 0, ?_, fun p hp => ?_⟩
  · unfold rB1
    rw [List.map_map]
    refine List.map_congr_left fun r hr => ?_
    match r, (h r hr).1 with
    | [a], _ => rfl
  · obtain ⟨r, hr, rfl⟩ := List.mem_map.1 hp
    exact getD_bd (h r hr).2 0

/-- what the bytes of a draft are -/
structure DBd (dn : List (Nat × Nat)) (de : List (Nat × Nat × Nat)) (xn : List Nat) (xe : List (Nat × Nat × Nat)) : Prop where
  b1 : ∀ p ∈ dn, p.1 < 256
  b2 : ∀ p ∈ de, p.1 < 256 ∧ p.2.1 < 256 ∧ p.2.2 < 256
  b3 : ∀ a ∈ xn, a < 256
  b4 : ∀ p ∈ xe, p.1 < 256 ∧ p.2.1 < 256 ∧ p.2.2 < 256

set_option maxRecDepth 100000 in
/-- A DRAFT AS AN ARGUMENT -/
theorem draft_of {H : Type} {enc : TypeId × Value → H} {W : World} {base : Nat} {v : Value} {d : DataW H} {ps : List MemPlace} (hv : Value.okWide Tryz.prog W .any base 62 v)
    (h : DataW.Trod enc Tryz.prog W 0 (fun _ => true) true 62 v d ps) : ∃ dn de xn xe, DBd dn de xn xe ∧ ArgR W (· < W.heap.size) (dA dn de xn xe) v := by
  obtain ⟨us, rfl, hus⟩ := okWide_struct Tryz.underlying62 hv
  rw [cells62] at hus
  obtain ⟨us⟩ := us
  match us, hus with
  | [v0, v1, v2, v3], _ =>
  obtain ⟨fuel, hf⟩ := h
  obtain ⟨xs, n, _, _, _, hxs, hfs⟩ := DataW.trod_struct Tryz.underlying62 hf
  match xs, hxs with
  | [x0, x1, x2], _ =>
  have h0 := hfs 0 _ rfl
  have h1 := hfs 1 _ rfl
  have h2 := hfs 2 _ rfl
  simp only [cells59, cells60, cells57, Value.cells, List.drop, List.take, List.getElem?_cons_zero, List.getElem?_cons_succ] at h0 h1 h2
  clear hfs
  obtain ⟨ys, m, _, _, _, hys, hgs⟩ := DataW.trod_struct Tryz.underlying59 h0
  match ys, hys with
  | [y0, y1], _ =>
  have g0 := hgs 0 _ rfl
  have g1 := hgs 1 _ rfl
  simp only [cells56, cells57, List.drop, List.take, List.getElem?_cons_zero, List.getElem?_cons_succ] at g0 g1
  clear hgs
  have B1 := bytes_u8 (H := H) (enc := enc) Tryz.underlying5 cells5
  have B2 := bytes_arr (H := H) (enc := enc) Tryz.underlying148 Tryz.underlying5 cells5 cells148
  have B3 := bytes_arr (H := H) (enc := enc) Tryz.underlying107 Tryz.underlying5 cells5 cells107
  obtain ⟨l0, w0, e0, p0, q0⟩ := rows_of Tryz.underlying56 (by decide) B2 g0
  obtain ⟨l1, w1, e1, p1, q1⟩ := rows_of Tryz.underlying57 (by decide) B3 g1
  obtain ⟨l2, w2, e2, p2, q2⟩ := rows_of Tryz.underlying60 (by decide) B1 h1
  obtain ⟨l3, w3, e3, p3, q3⟩ := rows_of Tryz.underlying57 (by decide) B3 h2
  obtain rfl := List.singleton_inj.1 e0
  obtain rfl := List.singleton_inj.1 e1
  obtain rfl := List.singleton_inj.1 e2
  obtain rfl := List.singleton_inj.1 e3
  obtain ⟨dn, r0, t0⟩ := rws2 p0
  obtain ⟨de, r1, t1⟩ := rws3 p1
  obtain ⟨xn, r2, t2⟩ := rws1 p2
  obtain ⟨xe, r3, t3⟩ := rws3 p3
  rw [r0] at q0
  rw [r1] at q1
  rw [r2] at q2
  rw [r3] at q3
  refine ⟨dn, de, xn, xe, ⟨t0, t1, t2, t3⟩, _, rfl, rfl, fun j c u hc hu => ?_⟩
  match j, hc, hu with
  | 0, hc, hu => simp at hc hu; subst hc hu; exact q0
  | 1, hc, hu => simp at hc hu; subst hc hu; exact q1
  | 2, hc, hu => simp at hc hu; subst hc hu; exact q2
  | 3, hc, hu => simp at hc hu; subst hc hu; exact q3
  | j + 4, hc, hu => simp at hc

set_option maxRecDepth 100000 in
/-- A LAW OF ONE DRAFT THAT ANSWERS true FOR EVERY DRAFT, AS A CONTRACT OF THE GIVEN PROGRAM -/
theorem law1 {f : Nat} {fn : Func} {s : ChangeSpec} (hp : fn.params = #[62]) (hr : fn.resultTypes = #[4]) (hvars : s.vars = [])
    (hfn : ∀ (H : Type) (d : DataW H), s.fn H [d] = { results := [.lit (.bool true)], args := [d] })
    (law : ∀ dn de xn xe, DBd dn de xn xe → O Ez NR f [dA dn de xn xe] = some (rb true, []))
    (H : Type) (enc : TypeId × Value → H) (W : World) (base : Nat) (args : Array Value) (ds gs : List (DataW H)) (before : List MemPlace)
    (hval : ∀ (j : Nat) t v, fn.params[j]? = some t → args[j]? = some v → Value.okWide Tryz.prog W .any base t v)
    (hW : DataW.Whole enc Tryz.prog fn.params.toList s.vars false W args.toList ds gs before) :
    Calls Tryz.prog f args W fun e W' => ∃ v, e = .returned v ∧ s.post enc Tryz.prog fn false true false false W args v W' := by
  have hW' := hW
  obtain ⟨p, q, hA0, hV, rfl, hfz, hnd⟩ := hW
  have hA : DataW.TrodAll enc Tryz.prog W 0 (fun _ => true) true fn.params.toList args.toList ds p := hA0
  rw [hp] at hA hval
  obtain ⟨v0, vs0, d0, ds0, p0, q0, hargs, rfl, rfl, h0, r0⟩ := trodAll_cons hA
  obtain ⟨rfl, rfl, rfl⟩ := trodAll_nil r0
  obtain rfl : args = #[v0] := by cases args; simp_all
  rw [hvars] at hV
  obtain ⟨rfl, rfl⟩ := trodVars_none hV
  clear hA0
  simp only [List.append_nil] at hW'
  obtain ⟨dn, de, xn, xe, hb, ha⟩ := draft_of (hval 0 62 v0 rfl rfl) h0
  have hS := (Ez_sat (law dn de xn xe hb)).2 W #[v0] (· < W.heap.size) ⟨rfl, fun i g v hg hv => by
      match i, hg, hv with
      | 0, hg, hv => simp at hg hv; subst hg hv; exact ha
      | i + 1, hg, hv => simp at hg, fun i j g g' v v' b hij hg hg' ho => by
      match i, hg with
      | 0, hg => simp at hg; subst hg; cases ho
      | i + 1, hg => simp at hg, fun b hb => hb⟩
  refine hS.mono fun e W' ⟨v, he, K', l, hchg, _, _, _, hrr, _⟩ => ?_
  obtain ⟨h1, _⟩ := hrr
  have hv : v = .bool true := by cases h1; rfl
  subst he hv
  have hBl : Below W.heap.size W W' := below_of_chg hchg fun b ⟨i, g, v, hg, ho, _⟩ => by
    match i, hg with
    | 0, hg => simp at hg; subst hg; cases ho
    | i + 1, hg => simp at hg
  have hlt : ∀ x ∈ p0, x.block < W.heap.size := fun x hx => hW'.lt x hx
  refine ⟨_, rfl, post_below (pa := p0) (pv := []) hW' (fun b sp hd => ?_) (fun sp hsp => ?_) (fun sp hsp => ?_) (by simp) hBl ?_⟩
  · rw [hr]
    simp only [List.append_nil, hfn]
    exact trodAll_cons_mk (shut_bool Tryz.underlying4 _) trodAll_mk0
  · rw [hp]
    simp only [List.append_nil, hfn]
    have := trodAll_cons_mk (WideElems.Trod_stays (sp' := sp) laid read62 row62 h0 (fun x hx => hBl.same (hlt x hx)) (fun x hx => hsp x hx)) (trodAll_mk0 (enc := enc) (P := Tryz.prog) (w := W') (base := 0) (spare := sp) (held := true))
    simpa using this
  · rw [hvars]
    simp only [List.append_nil, hfn]
    rfl
  · exact ok_one hr rfl (okWide_bool_mk Tryz.underlying4 _)
end Am

