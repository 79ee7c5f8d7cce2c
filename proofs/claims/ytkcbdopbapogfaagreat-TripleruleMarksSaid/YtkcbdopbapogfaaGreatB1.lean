/-
  From the row's reading of an argument to that evaluator's values, and back: each theorem bears its own conditions.
  By an AI agent. No person has read it.
-/
import Derived.Test.YtkcbdopbapogfaaGreatT2
import Derived.Test.YtkcbdopbapogfaaGreatS22
import Derived.Carry
import Derived.Deep.Slices
import Derived.ChangeSame
import Derived.ChangeArms
import Derived.OpenShut
set_option linter.all false
namespace Am
open Go Go.ChangeShapes Go.WideShapes Go.RowKit
set_option linter.unusedVariables false
section
variable {H : Type} {enc : TypeId × Value → H} {P : Program}

/-- the specification's 'post', of a call below whose start nothing has turned -/
theorem post_below {f : Func} {s : ChangeSpec} {apart fresh handsOn again : Bool} {W W' : World} {args : Array Value} {v : Value} {ds gs : List (DataW H)} {before pa pv : List MemPlace}
    (hW : DataW.Whole enc P f.params.toList s.vars apart W args.toList ds gs before)
    (hres : ∀ (b : Nat) (sp : Nat → Bool) (hd : Bool), DataW.TrodAll enc P W' b sp hd f.resultTypes.toList (v.resultList f.resultTypes.size) (s.fn H (ds ++ gs)).results [])
    (hargs : ∀ sp : Nat → Bool, (∀ p ∈ before, sp p.block = true) → DataW.TrodAll enc P W' 0 sp true f.params.toList args.toList (s.fn H (ds ++ gs)).args pa)
    (hvars : ∀ sp : Nat → Bool, (∀ p ∈ before, sp p.block = true) → DataW.TrodVars enc P W' sp s.vars (s.fn H (ds ++ gs)).vars pv)
    (hps : before = pa ++ pv) (hB : Below W.heap.size W W')
    (hok : ∀ (j : Nat) (t : TypeId) (r : Value), f.resultTypes[j]? = some t → (v.resultList f.resultTypes.size)[j]? = some r → Value.okWide P W' .any 0 t r) :
    s.post enc P f apart fresh handsOn again W args v W' := by
  have hlt := hW.lt
  have hold : ∀ p ∈ before, (fun b => decide (b < W.heap.size)) p.block = true := fun p hp => by simpa using hlt p hp
  refine ⟨ds, gs, before, [], pa, pv, hW, hres _ _ _, hargs _ hold, hvars _ hold, World.keptBut_mono (fun p hp => ⟨hp, ?_⟩) (hB.frame (· ∈ before)), fun _ => ?_⟩
  · rw [hps, List.mem_append] at hp
    exact Or.inr hp
  · obtain ⟨_, _, _, _, _, hz, hn⟩ := hW
    refine ⟨hok, _, _, ([] ++ pa) ++ pv, ⟨[] ++ pa, pv, trodAll_append (hargs _ (fun _ _ => rfl)) (hres _ _ _), hvars _ (fun _ _ => rfl), rfl, ?_, ?_⟩, ?_⟩
    · intro b off hp
      have hp' : MemPlace.cell b off ∈ before := by rw [hps]; simpa using hp
      rw [hB.frozen (p := ⟨b, off, none⟩) (hlt _ hp')]
      exact hz b off hp'
    · intro ha
      have := hn ha
      rw [hps] at this
      simpa using this
    · intro p hp _
      rw [hps]
      simpa using hp

/-- what changed a call is below its start nothing, where it owned nothing of what came in -/
theorem below_of_chg {Own : Nat → Prop} {W W' : World} (h : Chg W.heap.size Own W W') (ho : ∀ b, ¬ Own b) : Below W.heap.size W W' := ⟨h.os, h.tape, h.output, h.size, fun k hk => h.block k hk (ho k)⟩

def b8 (b : Nat) : Value := .int .u8 (Int.ofNat b)
/-- elements of type e are z bytes -/
def BytesT (H : Type) (enc : TypeId × Value → H) (P : Program) (e : TypeId) (z : Nat) : Prop :=
  P.cellsOf e = z ∧ ∀ (w : World) (base : Nat) (spare : Nat → Bool) (held : Bool) (n : Nat) (cs : List Value) (y : DataW H × List MemPlace),
    DataW.trod enc P w base spare held n e cs = some y → ∃ bs : List Nat, bs.length = z ∧ (∀ b ∈ bs, b < 256) ∧ cs = bs.map b8

theorem bytes_u8 {e : TypeId} (he : P.underlying e = some (.int .u8)) (hc : P.cellsOf e = 1) : BytesT H enc P e 1 := by
  refine ⟨hc, fun w base spare held n cs y h => ?_⟩
  obtain ⟨k, rfl, _, hw⟩ := DataW.trod_int he h
  have hx : 0 ≤ k ∧ k ≤ 255 := by simpa [Lit.wf, IntKind.min, IntKind.max, IntKind.signed, IntKind.bits] using hw
  refine ⟨[k.toNat], rfl, fun b hb => ?_, ?_⟩
  · simp at hb; omega
  · have : Int.ofNat k.toNat = k := by rw [Int.ofNat_eq_natCast]; omega
    rw [List.map_cons, b8, this]; rfl

theorem bytes_arr {t e : TypeId} {n : Nat} (ht : P.underlying t = some (.array n e)) (he : P.underlying e = some (.int .u8)) (hc : P.cellsOf e = 1) (hct : P.cellsOf t = n) : BytesT H enc P t n := by
  refine ⟨hct, fun w base spare held k cs y h => ?_⟩
  obtain ⟨xs, m, _, _, hl, hn, hi⟩ := DataW.trod_array ht h
  rw [hct] at hl
  rw [hc] at hi
  have key : ∀ i, i < n → ∃ b : Nat, b < 256 ∧ cs[i]? = some (b8 b) := fun i h => by
    have h1 := hi i h
    rw [List.getElem?_eq_getElem (by omega : i < xs.length), Nat.mul_one] at h1
    obtain ⟨bs, q1, q2, q3⟩ := (bytes_u8 (H := H) (enc := enc) he hc).2 _ _ _ _ _ _ _ h1
    match bs, q1 with
    | [b], _ =>
      refine ⟨b, q2 b (by simp), ?_⟩
      have : ((cs.drop i).take 1)[0]? = some (b8 b) := by rw [q3]; rfl
      rw [List.getElem?_take_of_lt (by omega), List.getElem?_drop] at this
      simpa using this
  obtain ⟨f, hf⟩ := Go.Deep.choose_lt key
  refine ⟨(List.range n).map f, by simp, fun b hb => ?_, ?_⟩
  · obtain ⟨i, h1, rfl⟩ := List.mem_map.1 hb
    exact (hf i (List.mem_range.1 h1)).1
  · apply List.ext_getElem?
    intro i
    by_cases h1 : i < n
    · rw [(hf i h1).2]; simp [h1]
    · rw [List.getElem?_eq_none (by omega)]; simp [h1]

/-- A SLICE OF BYTES, OF PAIRS OR TRIPLES OF BYTES, READ AS ROWS -/
theorem rows_of {t e : TypeId} {z : Nat} (ht : P.underlying t = some (.slice e)) (hz : 0 < z) (hb : BytesT H enc P e z) {W : World} {fuel : Nat} {spare : Nat → Bool} {held : Bool} {cs : List Value} {x : DataW H × List MemPlace}
    (h : DataW.trod enc P W 0 spare held fuel t cs = some x) :
    ∃ (rows : List (List Nat)) (v : Value), cs = [v] ∧ (∀ r ∈ rows, r.length = z ∧ ∀ b ∈ r, b < 256) ∧ RC W (· < W.heap.size) (.sl false z (rows.map fun r => r.map u8)) v := by
  rcases Go.Deep.open_slice ht h with ⟨rfl, _⟩ | ⟨a, len, cap, m, n, D, Pl, rfl, _, hl, _, hm, _, hx⟩
  · exact ⟨[], _, rfl, fun r hr => (by cases hr), RC.sl (rows := []) (fun _ _ => .nilFunc) (Nat.le_refl _) (fun i row h => by simp at h) (fun h => absurd rfl h) (fun i row j c h => by simp at h)⟩
  · have hlm : len ≤ m := by rw [hm]; split <;> omega
    rw [hb.1] at hx
    have key : ∀ i, i < len → ∃ bs : List Nat, bs.length = z ∧ (∀ b ∈ bs, b < 256) ∧ ∀ j, j < z → W.cell? (a.add (i * z + j)) = (bs[j]?).map b8 := fun i hi => by
      obtain ⟨cs', h1, h2⟩ := hx i (by omega)
      obtain ⟨bs, q1, q2, q3⟩ := hb.2 _ _ _ _ _ _ _ h2
      refine ⟨bs, q1, q2, fun j hj => ?_⟩
      have := (World.cells?_some h1).2.2 j hj
      rw [Go.Deep.add_add] at this
      rw [this, q3]
      simp
    obtain ⟨f, hf⟩ := Go.Deep.choose_lt key
    refine ⟨(List.range len).map f, _, rfl, fun r hr => ?_, ?_⟩
    · obtain ⟨i, h1, rfl⟩ := List.mem_map.1 hr
      have := hf i (List.mem_range.1 h1)
      exact ⟨this.1, this.2.1⟩
    · rw [List.map_map]
      have hlen : len = ((List.range len).map ((fun r => r.map u8) ∘ f)).length := by simp
      have hrow : ∀ (i : Nat) (row : List C), ((List.range len).map ((fun r => r.map u8) ∘ f))[i]? = some row → i < len ∧ row = (f i).map u8 := fun i row h => by
        by_cases hi : i < len
        · simp [hi] at h
          exact ⟨hi, h.symm⟩
        · simp [hi] at h
      have hcell : ∀ (i : Nat) (row : List C) (j : Nat) (c : C), ((List.range len).map ((fun r => r.map u8) ∘ f))[i]? = some row → row[j]? = some c → ∃ b, (f i)[j]? = some b ∧ c = u8 b ∧ W.cell? (a.add (i * z + j)) = some (b8 b) := fun i row j c h1 h2 => by
        obtain ⟨hi, rfl⟩ := hrow i row h1
        rw [List.getElem?_map] at h2
        obtain ⟨b, hb1, rfl⟩ := Option.map_eq_some_iff.1 h2
        have q := hf i hi
        have hj : j < z := by rw [← q.1]; exact (List.getElem?_eq_some_iff.1 hb1).1
        exact ⟨b, hb1, rfl, by rw [q.2.2 j hj, hb1]; rfl⟩
      generalize (List.range len).map ((fun r => r.map u8) ∘ f) = L at *
      rw [show Value.slice (some a) len cap = Value.slice (some a) L.length cap by rw [← hlen]]
      refine RC.sl (fun i j => b8 ((f i).getD j 0)) (by rw [← hlen]; exact hl) (fun i row h => ?_) (fun hne => ?_) (fun i row j c h1 h2 => ?_)
      · obtain ⟨hi, rfl⟩ := hrow i row h
        rw [List.length_map]; exact (hf i hi).1
      · have hl0 : 0 < len := by
          rcases Nat.eq_zero_or_pos len with h0 | h0
          · exact absurd (List.length_eq_zero_iff.1 (hlen ▸ h0)) hne
          · exact h0
        have c0 := (hf 0 hl0).2.2 0 hz
        have l0 := (hf 0 hl0).1
        rw [List.getElem?_eq_getElem (by omega)] at c0
        obtain ⟨blk, off, spot⟩ := a
        have hs : spot = none ∧ blk < W.heap.size := by
          simp only [Nat.zero_mul, Nat.zero_add, Addr.add, if_pos, World.cell?, Option.map_some] at c0
          split at c0
          · rename_i hh
            have hlt := (Array.getElem?_eq_some_iff.1 hh).1
            cases spot with
            | none => exact ⟨rfl, hlt⟩
            | some s => simp at c0
          · cases c0
        obtain ⟨rfl, hlt⟩ := hs
        refine ⟨blk, off, rfl, hlt, fun i row j c h1 h2 => ?_⟩
        obtain ⟨b, e1, _, e3⟩ := hcell i row j c h1 h2
        have e4 : (f i).getD j 0 = b := by rw [List.getD_eq_getElem?_getD, e1]; rfl
        rw [e4, ← e3]
        congr 1
        unfold Addr.add
        split
        · rename_i h; simp only [Addr.mk.injEq, true_and, and_true]; omega
        · simp only [Addr.mk.injEq, true_and, and_true]; omega
      · obtain ⟨b, e1, rfl, _⟩ := hcell i row j c h1 h2
        have e4 : (f i).getD j 0 = b := by rw [List.getD_eq_getElem?_getD, e1]; rfl
        rw [e4]
        exact .v rfl
end
end Am

