/-
  What functions of the given program answer, as values, shown by that evaluator: each theorem bears its own conditions.
  By an AI agent. No person has read it.
-/
import Derived.Test.YtkcbdopbapogfaaGreatS27
set_option linter.all false
set_option maxRecDepth 100000
noncomputable section
namespace Am
open Go Go.Proofs

theorem any_comm (l : List Int) (x : Int) : (l.any fun y => y == x) = (l.any fun y => x == y) := by
  congr 1
  funext y
  exact BEq.comm
theorem s170' (l : List Int) (x : Int) (hl : l.length < 1000000) : O Ez NR 170 [.one (.sl false 1 (rI l)), .one (vi x)] = some (rb (l.any fun y => x == y), []) := by
  rw [← any_comm]; exact s170 l x hl

theorem s221 (l : List Int) (x : Int) (hl : l.length < 1000000) : O Ez NR 221 [.one (.sl false 1 (rI l)), .one (vi x)] = some (rb (l.any fun y => y == x), []) := by
  obtain ⟨n, hn0⟩ : ∃ n : Nat, 1000000 < n := ⟨1000001, by omega⟩
  refine spec_of n F221 ?_
  intro rat rlen hat hln rcat hcat rcut hcut lp hlp o wrap lt le eq eqs nle tdiv tmod add sub mul room ho hw hlt hle heq heqs hnle hdiv hmod hadd hsub hmul hroom
  have ln := (hln (rI l)).trans (rI_len l)
  have rn := fun i => (hat (rI l) i).trans (rI_at l i)
  generalize hr : (l.any fun y => y == x) = r
  generalize rI l = ρ at *
  cbv
  refine loopU (hlp _ _ _ _ _) (fun s i => s.setI 5 i) (fun i => ∀ y ∈ l.take i, (y == x) = false) l.length (by omega) (by simp) (by cbv) (by cbv) ?_
  intro i hi hp C' hret hex hnorm
  rcases Nat.lt_or_ge i l.length with h | h
  · obtain ⟨y, hy⟩ : ∃ y, l[i]? = some y := ⟨_, List.getElem?_eq_getElem h⟩
    have f1 : lt (Int.ofNat i) (Int.ofNat (rlen ρ)) = true := by rw [hlt, ln, lt_true h]
    have f2 : rat ρ i = some [vi y] := by rw [rn, hy]; rfl
    have f3 : eq y x = (y == x) := heq _ _
    cbv
    rw [f1]
    cbv
    rw [f2]
    cbv
    rw [f3]
    cases hb : y == x with
    | true =>
      have : r = true := by rw [← hr, List.any_eq_true]; exact ⟨y, List.mem_of_getElem? hy, hb⟩
      rw [this]
      cbv
      rw [hret]
      cbv
    | false =>
      cbv
      refine hnorm _ h (fun z hz => ?_) ?_
      · rw [take_succ_some hy] at hz
        rcases List.mem_append.1 hz with hz | hz
        · exact hp z hz
        · rw [List.mem_singleton.1 hz]; exact hb
      · cbv
        rw [hadd, wrap_succ (by omega)]
  · have f1 : lt (Int.ofNat i) (Int.ofNat (rlen ρ)) = false := by rw [hlt, ln, lt_false h]
    have : r = false := by
      rw [← hr, List.any_eq_false]
      intro y hy
      rw [hp y (by rw [List.take_of_length_le h]; exact hy)]
      simp
    rw [this]
    cbv
    rw [f1]
    cbv
    rw [hex]
    cbv
theorem s221u (n x : Nat) (hn : n < 1000000) (hx : x < n) : O Ez NR 221 [.one (.sl false 1 (rI (upto n))), .one (vi (Int.ofNat x))] = some (rb true, []) := by
  rw [s221 _ _ (by rw [upto_len]; exact hn)]
  have : (upto n).any (fun y => y == Int.ofNat x) = true := by
    rw [List.any_eq_true]
    exact ⟨Int.ofNat x, List.mem_of_getElem? (upto_at n x hx), beq_self_eq_true _⟩
  rw [this]

theorem s179u (m x : Nat) (hm : m < 1000000) (hx : x < m) : O Ez NR 179 [.one (.sl false 1 (rI (upto m))), .one (vi (Int.ofNat x))] = some (ri (Int.ofNat x), []) := by
  obtain ⟨n, hn0⟩ : ∃ n : Nat, 1000000 < n := ⟨1000001, by omega⟩
  refine spec_of n F179 ?_
  intro rat rlen hat hln rcat hcat rcut hcut lp hlp o wrap lt le eq eqs nle tdiv tmod add sub mul room ho hw hlt hle heq heqs hnle hdiv hmod hadd hsub hmul hroom
  have ln := (hln (rI (upto m))).trans (rI_len (upto m))
  rw [upto_len] at ln
  have rn := fun i (h : i < m) => (by rw [hat, rI_at, upto_at _ i h]; rfl : rat (rI (upto m)) i = some [vi (Int.ofNat i)])
  generalize rI (upto m) = ρ at *
  cbv
  refine loopU (hlp _ _ _ _ _) (fun s i => s.setI 5 i) (fun i => i ≤ x) m (by omega) (by omega) (by cbv) (by cbv) ?_
  intro i hi hp C' hret hex hnorm
  have h : i < m := by omega
  have f1 : lt (Int.ofNat i) (Int.ofNat (rlen ρ)) = true := by rw [hlt, ln, lt_true h]
  have f2 := rn i h
  cbv
  rw [f1]
  cbv
  rw [f2]
  cbv
  by_cases hix : i = x
  · have f3 : eq (Int.ofNat i) (Int.ofNat x) = true := by rw [heq, hix]; simp
    rw [f3]
    cbv
    rw [hret]
    cbv
    rw [hix]
  · have f3 : eq (Int.ofNat i) (Int.ofNat x) = false := by rw [heq, ofn, ofn, beq_eq_false_iff_ne]; omega
    rw [f3]
    cbv
    refine hnorm _ h (by omega) ?_
    cbv
    rw [hadd, wrap_succ (by omega)]

theorem s220u (m : Nat) (hm : m < 1000000) : O Ez NR 220 [.one (.sl false 1 (rI (upto m))), .one (vi (Int.ofNat m))] = some (ri 0, []) := by
  obtain ⟨n, hn0⟩ : ∃ n : Nat, 1000000 < n := ⟨1000001, by omega⟩
  refine spec_of n F220 ?_
  intro rat rlen hat hln rcat hcat rcut hcut lp hlp o wrap lt le eq eqs nle tdiv tmod add sub mul room ho hw hlt hle heq heqs hnle hdiv hmod hadd hsub hmul hroom
  have ln := (hln (rI (upto m))).trans (rI_len (upto m))
  rw [upto_len] at ln
  have rn := fun i (h : i < m) => (by rw [hat, rI_at, upto_at _ i h]; rfl : rat (rI (upto m)) i = some [vi (Int.ofNat i)])
  generalize rI (upto m) = ρ at *
  cbv
  refine loopU (hlp _ _ _ _ _) (fun s i => s.setI 5 i) (fun i => True) m (by omega) trivial (by cbv) (by cbv) ?_
  intro i hi hp C' hret hex hnorm
  rcases Nat.lt_or_ge i m with h | h
  · have f1 : lt (Int.ofNat i) (Int.ofNat (rlen ρ)) = true := by rw [hlt, ln, lt_true h]
    have f2 := rn i h
    have f3 : lt (Int.ofNat i) 0 = false := by rw [hlt, ofn]; simp
    have f4 : le (Int.ofNat m) (Int.ofNat i) = false := by rw [hle, ofn, ofn]; simp; omega
    cbv
    rw [f1]
    cbv
    rw [f2]
    cbv
    rw [f3]
    cbv
    rw [f2]
    cbv
    rw [f4]
    cbv
    rcases Nat.eq_zero_or_pos i with h0 | h0
    · have f5 : lt 0 (Int.ofNat i) = false := by rw [hlt, h0]; rfl
      rw [f5]
      cbv
      refine hnorm _ h trivial ?_
      cbv
      rw [hadd, wrap_succ (by omega)]
    · have f5 : lt 0 (Int.ofNat i) = true := by rw [hlt, ofn]; simp; omega
      obtain ⟨k, rfl⟩ : ∃ k, i = k + 1 := ⟨i - 1, by omega⟩
      have f6 : sub .i64 (Int.ofNat (k + 1)) 1 = Int.ofNat k := by
        rw [hsub, show Int.ofNat (k + 1) - 1 = Int.ofNat k by rw [ofn, ofn]; omega]
        exact wrap_of (by rw [ofn]; omega) (by rw [ofn]; omega)
      have f7 := rn k (by omega)
      have f8 : le (Int.ofNat (k + 1)) (Int.ofNat k) = false := by rw [hle, ofn, ofn]; simp; omega
      generalize hk1 : k + 1 = k1 at *
      rw [f5]
      cbv
      rw [f2]
      cbv
      rw [f6]
      cbv
      rw [f7]
      cbv
      rw [f8]
      cbv
      refine hnorm _ h trivial ?_
      cbv
      rw [hadd, wrap_succ (by omega)]
  · have f1 : lt (Int.ofNat i) (Int.ofNat (rlen ρ)) = false := by rw [hlt, ln, lt_false h]
    cbv
    rw [f1]
    cbv
    rw [hex]
    cbv

theorem s178u {ns : List Int} {es : List (Int × Int × Int)} (hn : nOk ns) (he : eOk ns.length es) : O Ez NR 178 [gA ns es, mA (upto ns.length) (upto es.length)] = some (ri 0, []) := by
  have m1 := hn.1
  have m2 := he.1
  obtain ⟨n, hn0⟩ : ∃ n : Nat, 200 < n := ⟨201, by omega⟩
  refine spec_of n F178 ?_
  intro rat rlen hat hln rcat hcat rcut hcut lp hlp o wrap lt le eq eqs nle tdiv tmod add sub mul room ho hw hlt hle heq heqs hnle hdiv hmod hadd hsub hmul hroom
  have e1 := ho _ _ _ (s220u ns.length (by omega))
  have e2 := ho _ _ _ (s220u es.length (by omega))
  have e3 : ∀ a : Int, 0 ≤ a → a < ns.length → o 221 [.one (.sl false 1 (rI (upto ns.length))), .one (vi a)] = some (rb true, []) := fun a h0 h1 => by
    obtain ⟨k, rfl⟩ := toN h0
    rw [ofn] at h1
    exact ho _ _ _ (s221u ns.length k (by omega) (by omega))
  have l1 := (hln (rI ns)).trans (rI_len ns)
  have l2 := (hln (rE es)).trans (rE_len es)
  have l3 := (hln (rI (upto es.length))).trans (rI_len (upto es.length))
  rw [upto_len] at l3
  have r1 := fun i (h : i < es.length) => (by rw [hat, rI_at, upto_at _ i h]; rfl : rat (rI (upto es.length)) i = some [vi (Int.ofNat i)])
  have r2 := fun i => (hat (rE es) i).trans (rE_at es i)
  have q0 : eq 0 0 = true := by rw [heq]; rfl
  have bd := he.2
  dsimp only [gA, mA] at *
  generalize rI (upto ns.length) = α at *
  generalize rI (upto es.length) = β at *
  generalize rI ns = ρ at *
  generalize rE es = σ at *
  rw [← l1] at e1
  rw [← l2] at e2
  cbv
  rw [e1]
  cbv
  rw [q0]
  cbv
  rw [e2]
  cbv
  rw [q0]
  cbv
  refine loopU (hlp _ _ _ _ _) (fun s i => s.setI 7 i) (fun i => True) es.length (by omega) trivial (by cbv) (by cbv) ?_
  intro i hi hp C' hret hex hnorm
  rcases Nat.lt_or_ge i es.length with h | h
  · obtain ⟨⟨ty, a, b⟩, hx⟩ : ∃ x, es[i]? = some x := ⟨_, List.getElem?_eq_getElem h⟩
    have hxx := bd _ (List.mem_of_getElem? hx)
    simp only at hxx
    have f1 : lt (Int.ofNat i) (Int.ofNat (rlen β)) = true := by rw [hlt, l3, lt_true h]
    have f2 := r1 i h
    have f3 : rat σ i = some [vi ty, vi a, vi b] := by rw [r2, hx]; rfl
    have f4 := e3 a hxx.2.2.1 hxx.2.2.2.1
    have f5 := e3 b hxx.2.2.2.2.1 hxx.2.2.2.2.2
    cbv
    rw [f1]
    cbv
    rw [f2]
    cbv
    rw [f3]
    cbv
    rw [f4]
    cbv
    rw [f5]
    cbv
    refine hnorm _ h trivial ?_
    cbv
    rw [hadd, wrap_succ (by omega)]
  · have f1 : lt (Int.ofNat i) (Int.ofNat (rlen β)) = false := by rw [hlt, l3, lt_false h]
    cbv
    rw [f1]
    cbv
    rw [hex]
    cbv

theorem s134u {ns : List Int} {es : List (Int × Int × Int)} (hn : nOk ns) (he : eOk ns.length es) : O Ez NR 134 [gA ns es, mA (upto ns.length) (upto es.length)] = some (ri 0, []) := by
  refine spec_of 1 F134 ?_
  intro rat rlen hat hln rcat hcat rcut hcut lp hlp o wrap lt le eq eqs nle tdiv tmod add sub mul room ho hw hlt hle heq heqs hnle hdiv hmod hadd hsub hmul hroom
  have e1 := ho _ _ _ (s127 hn he)
  have e2 := ho _ _ _ (s178u hn he)
  have q0 : eq 0 0 = true := by rw [heq]; rfl
  dsimp only [gA, mA] at *
  generalize rI (upto ns.length) = α at *
  generalize rI (upto es.length) = β at *
  generalize rI ns = ρ at *
  generalize rE es = σ at *
  cbv
  rw [e1]
  cbv
  rw [q0]
  cbv
  rw [e2]
  cbv

theorem s123 (l : List Int) (m : Nat) (hl : l.length < 1000000) (hm : m < 1000000) : O Ez NR 123 [.one (vi (Int.ofNat m)), .one (.sl false 1 (rI l))] = some (.one (own1 (lack l m)), []) := by
  refine spec_of (m + 1) F123 ?_
  intro rat rlen hat hln rcat hcat rcut hcut lp hlp o wrap lt le eq eqs nle tdiv tmod add sub mul room ho hw hlt hle heq heqs hnle hdiv hmod hadd hsub hmul hroom
  have e0 := fun i => ho _ _ _ (s170' l (Int.ofNat i) hl)
  have hR0 : rI (lack l 0) = [] := rfl
  have hR1 := fun i (h : l.any (fun y => Int.ofNat i == y) = true) => (by rw [lack_succ, if_pos h, List.append_nil] : rI (lack l (i + 1)) = rI (lack l i))
  have hR2 := fun i (h : l.any (fun y => Int.ofNat i == y) = false) => (by rw [lack_succ, if_neg (by rw [h]; decide), rI_app]; rfl : rI (lack l (i + 1)) = rI (lack l i) ++ [[vi (Int.ofNat i)]])
  have hRl := fun i => (by rw [rI_len]; exact lack_len l i : (rI (lack l i)).length ≤ i)
  dsimp only [own1]
  generalize hR : (fun i => rI (lack l i)) = R
  have hRR : ∀ i, rI (lack l i) = R i := fun i => by rw [← hR]
  simp only [hRR] at hR0 hR1 hR2 hRl ⊢
  generalize rI l = ρ at e0 ⊢
  generalize hn : m + 1 = n
  cbv
  refine loopU (hlp _ _ _ _ _) (fun s i => (s.setI 6 i).setS 5 (R i)) (fun i => True) m (by omega) trivial (by cbv) (by show St.setS (St.setI _ 6 0) 5 (R 0) = _; rw [hR0]; cbv) ?_
  intro i hi hp C' hret hex hnorm
  rcases Nat.lt_or_ge i m with h | h
  · have e1 : lt (Int.ofNat i) (Int.ofNat m) = true := by rw [hlt, lt_true h]
    have e2 := e0 i
    have r1 : room (rlen (rcat (R i) [[vi (Int.ofNat i)]])) 8 = true := hroom _ _ (by rw [hln, hcat, List.length_append]; have := hRl i; simp; omega)
    have g1 := hR1 i
    have g2 := hR2 i
    generalize (l.any fun y => Int.ofNat i == y) = b at e2 g1 g2
    cbv
    rw [e1]
    cbv
    rw [e2]
    cbv
    cases b with
    | true =>
      cbv
      refine hnorm _ h trivial ?_
      rw [g1 rfl]
      cbv
      rw [hadd, wrap_succ (by omega)]
    | false =>
      cbv
      rw [r1]
      cbv
      refine hnorm _ h trivial ?_
      rw [g2 rfl, ← hcat]
      cbv
      rw [hadd, wrap_succ (by omega)]
  · have e1 : lt (Int.ofNat i) (Int.ofNat m) = false := by rw [hlt, lt_false h]
    have : i = m := by omega
    subst this
    cbv
    rw [e1]
    cbv
    rw [hex]
    cbv

theorem s71 {ln : List Int} {le' : List (Int × Int × Int)} {rn : List Int} {re : List (Int × Int × Int)} {kn ke im ie : List Int} (h1 : rn.length < 1000000) (h2 : re.length < 1000000) (h3 : im.length < 1000000) (h4 : ie.length < 1000000) :
    O Ez NR 71 [.agg (rC ln le' rn re kn ke im ie)] = some (.tup [.one (own1 (lack im rn.length)), .one (own1 (lack ie re.length))], []) := by
  refine spec_of 1 F71 ?_
  intro rat rlen hat hln rcat hcat rcut hcut lp hlp o wrap lt le eq eqs nle tdiv tmod add sub mul room ho hw hlt hle heq heqs hnle hdiv hmod hadd hsub hmul hroom
  have e1 := ho _ _ _ (s123 im rn.length h3 h1)
  have e2 := ho _ _ _ (s123 ie re.length h4 h2)
  have l1 : rlen (rI rn) = rn.length := by rw [hln, rI_len]
  have l2 : rlen (rE re) = re.length := by rw [hln, rE_len]
  dsimp only [own1, rC] at *
  generalize rI (lack im rn.length) = a1 at e1 ⊢
  generalize rI (lack ie re.length) = a2 at e2 ⊢
  rw [← l1] at e1
  rw [← l2] at e2
  generalize rI rn = ρ at e1 ⊢
  generalize rE re = σ at e2 ⊢
  generalize rI ln = ρ1
  generalize rE le' = σ1
  generalize rI kn = ρ2
  generalize rI ke = ρ3
  generalize rI im = ρ4 at e1 ⊢
  generalize rI ie = ρ5 at e2 ⊢
  cbv
  rw [e1]
  cbv
  rw [e2]
  cbv

theorem s79 {l : List Int} (hl : l.length < 1000000) (hd : l.Nodup) : O Ez NR 79 [.one (.sl false 1 (rI l))] = some (rb true, []) := by
  obtain ⟨n, hn0⟩ : ∃ n : Nat, 1000000 < n := ⟨1000001, by omega⟩
  refine spec_of n F79 ?_
  intro rat rlen hat hln rcat hcat rcut hcut lp hlp o wrap lt le eq eqs nle tdiv tmod add sub mul room ho hw hlt hle heq heqs hnle hdiv hmod hadd hsub hmul hroom
  have ln := (hln (rI l)).trans (rI_len l)
  have rn := fun i => (hat (rI l) i).trans (rI_at l i)
  have hne : ∀ i j x y, j < i → l[i]? = some x → l[j]? = some y → x ≠ y := fun i j x y hij hx hy hxy => by
    obtain ⟨hi, rfl⟩ := List.getElem?_eq_some_iff.1 hx
    obtain ⟨hj, rfl⟩ := List.getElem?_eq_some_iff.1 hy
    exact (List.pairwise_iff_getElem.1 hd) j i hj hi hij hxy.symm
  generalize rI l = ρ at *
  cbv
  refine loopU (hlp _ _ _ _ _) (fun s i => s.setI 3 i) (fun i => True) l.length (by omega) trivial (by cbv) (by cbv) ?_
  intro i hi hp C' hret hex hnorm
  rcases Nat.lt_or_ge i l.length with h | h
  · obtain ⟨x, hx⟩ : ∃ x, l[i]? = some x := ⟨_, List.getElem?_eq_getElem h⟩
    have f1 : lt (Int.ofNat i) (Int.ofNat (rlen ρ)) = true := by rw [hlt, ln, lt_true h]
    have f2 : rat ρ i = some [vi x] := by rw [rn, hx]; rfl
    cbv
    rw [f1]
    cbv
    refine loopU (hlp _ _ _ _ _) (fun s j => s.setI 4 j) (fun i => True) i (by omega) trivial (by cbv) (by cbv) ?_
    intro j hj hp2 C2 hret2 hex2 hnorm2
    rcases Nat.lt_or_ge j i with h2 | h2
    · obtain ⟨y, hy⟩ : ∃ y, l[j]? = some y := ⟨_, List.getElem?_eq_getElem (by omega)⟩
      have f3 : lt (Int.ofNat j) (Int.ofNat i) = true := by rw [hlt, lt_true h2]
      have f4 : rat ρ j = some [vi y] := by rw [rn, hy]; rfl
      have f5 : eq x y = false := by rw [heq, beq_eq_false_iff_ne]; exact hne i j x y h2 hx hy
      cbv
      rw [f3]
      cbv
      rw [f2]
      cbv
      rw [f4]
      cbv
      rw [f5]
      cbv
      refine hnorm2 _ h2 trivial ?_
      cbv
      rw [hadd, wrap_succ (by omega)]
    · have f3 : lt (Int.ofNat j) (Int.ofNat i) = false := by rw [hlt, lt_false h2]
      cbv
      rw [f3]
      cbv
      rw [hex2]
      cbv
      refine hnorm _ h trivial ?_
      cbv
      rw [hadd, wrap_succ (by omega)]
  · have f1 : lt (Int.ofNat i) (Int.ofNat (rlen ρ)) = false := by rw [hlt, ln, lt_false h]
    cbv
    rw [f1]
    cbv
    rw [hex]
    cbv
end Am

