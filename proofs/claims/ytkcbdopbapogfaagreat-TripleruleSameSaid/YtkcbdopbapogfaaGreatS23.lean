/-
  What functions of the given program answer, as values, shown by that evaluator: each theorem bears its own conditions.
  By an AI agent. No person has read it.
-/
import Derived.Test.YtkcbdopbapogfaaGreatS22
set_option linter.all false
set_option maxRecDepth 100000
noncomputable section
namespace Am
open Go Go.Proofs

theorem kds_at {l : List Nat} {i a : Nat} (h : l[i]? = some a) : (kds l)[i]? = some (Int.ofNat (a % 5)) := by unfold kds; rw [List.getElem?_map, h]; rfl
/-- the nodes of a draft's rule -/
def mLn (dn : List (Nat × Nat)) : List Int := kds (dn.map (·.1))
def mLe (dn : List (Nat × Nat)) (de : List (Nat × Nat × Nat)) : List (Int × Int × Int) := addE (mLn dn) de [] (rounds (mLn dn) de.length)
def mRn (dn : List (Nat × Nat)) (xn : List Nat) : List Int := mLn dn ++ kds xn
def mRe (dn : List (Nat × Nat)) (de : List (Nat × Nat × Nat)) (xn : List Nat) (xe : List (Nat × Nat × Nat)) : List (Int × Int × Int) := addE (mRn dn xn) xe (mLe dn de) (rounds (mRn dn xn) xe.length)
abbrev dA (dn : List (Nat × Nat)) (de : List (Nat × Nat × Nat)) (xn : List Nat) (xe : List (Nat × Nat × Nat)) : Arg := .agg [.sl false 2 (rB2 dn), .sl false 3 (rB3 de), .sl false 1 (rB1 xn), .sl false 3 (rB3 xe)]
/-- a draft that is small -/
structure DOk (dn : List (Nat × Nat)) (de : List (Nat × Nat × Nat)) (xn : List Nat) (xe : List (Nat × Nat × Nat)) : Prop where
  h1 : dn.length ≤ 3
  h2 : de.length ≤ 3
  h3 : xn.length ≤ 3
  h4 : xe.length ≤ 4
  b1 : ∀ p ∈ dn, p.1 < 256
  b2 : ∀ p ∈ de, p.1 < 256 ∧ p.2.1 < 256 ∧ p.2.2 < 256
  b3 : ∀ a ∈ xn, a < 256
  b4 : ∀ p ∈ xe, p.1 < 256 ∧ p.2.1 < 256 ∧ p.2.2 < 256

theorem mLn_len (dn : List (Nat × Nat)) : (mLn dn).length = dn.length := by unfold mLn; rw [kds_len]; simp
theorem mRn_len (dn : List (Nat × Nat)) (xn : List Nat) : (mRn dn xn).length = dn.length + xn.length := by unfold mRn; rw [List.length_append, mLn_len, kds_len]
theorem rounds_le (ns : List Int) (m : Nat) : rounds ns m ≤ m := by unfold rounds; split <;> omega
theorem mLe_len (dn : List (Nat × Nat)) (de : List (Nat × Nat × Nat)) : (mLe dn de).length ≤ de.length := by
  unfold mLe
  have := addE_len (mLn dn) de [] (rounds (mLn dn) de.length)
  have := rounds_le (mLn dn) de.length
  simp at *
  omega
theorem mRn_ok (dn : List (Nat × Nat)) (xn : List Nat) : ∀ x ∈ mRn dn xn, 0 ≤ x ∧ x < 5 := fun x hx => by
  rcases List.mem_append.1 hx with hx | hx
  · exact kds_ok _ _ hx
  · exact kds_ok _ _ hx

set_option maxHeartbeats 4000000 in
theorem s27 {dn : List (Nat × Nat)} {de : List (Nat × Nat × Nat)} {xn : List Nat} {xe : List (Nat × Nat × Nat)} (h : DOk dn de xn xe) :
    O Ez NR 27 [dA dn de xn xe] = some (.agg (rR (mLn dn) (mLe dn de) (mRn dn xn) (mRe dn de xn xe) (upto (mLn dn).length) (upto (mLe dn de).length)), []) := by
  have h1 := h.h1
  have h2 := h.h2
  have h3 := h.h3
  have h4 := h.h4
  have q1 := mLn_len dn
  have q2 := mLe_len dn de
  obtain ⟨n, hfn⟩ : ∃ n : Nat, 200 < n := ⟨201, by omega⟩
  refine spec_of n F27 ?_
  intro rat rlen hat hln rcat hcat rcut hcut lp hlp o wrap lt le eq eqs nle tdiv tmod add sub mul room ho hw hlt hle heq heqs hnle hdiv hmod hadd hsub hmul hroom
  have e1 := ho _ _ _ k26
  have e2 := ho _ _ _ (s66 dn de h1 h2 h.b1 h.b2)
  have e3 := ho _ _ _ (s67 (ns := mLn dn) (es := mLe dn de) (by omega) (by omega))
  have e4 := fun ty a b h1 h2 h3 => ho _ _ _ (@s68 ty a b h1 h2 h3)
  have e5 := ho _ _ _ (s70 (ns := mLn dn) (es := mLe dn de) (by omega) (by omega))
  have e6 := ho _ _ _ (s69 (gn := mLn dn) (ge := mLe dn de) (hn := mRn dn xn) (he := mRe dn de xn xe) (im := upto (mLn dn).length) (ie := upto (mLe dn de).length) (by omega) (by omega))
  rw [show kds (dn.map (·.1)) = mLn dn from rfl] at e2
  rw [show addE (mLn dn) de [] (rounds (mLn dn) de.length) = mLe dn de from rfl] at e2
  have nl0 : ∀ k, nle 0 k = true := fun k => by rw [hnle]; exact Nat.ble_eq_true_of_le (by omega)
  have nls : ∀ k, nle k k = true := fun k => by rw [hnle]; exact Nat.ble_eq_true_of_le (Nat.le_refl _)
  have cT : ∀ ρ, rcut ρ 0 (rlen ρ) = ρ := fun ρ => by rw [hcut, hln]; simp [cutR]
  have cF : ∀ ρ, rlen ρ = 3 → rcut ρ 0 3 = ρ := fun ρ hr => by rw [hcut]; rw [hln] at hr; simp [cutR, ← hr]
  have la := (hln (rB2 dn)).trans (rB2_len dn)
  have lb := (hln (rB3 de)).trans (rB3_len de)
  have lc := (hln (rB1 xn)).trans (rB1_len xn)
  have ld := (hln (rB3 xe)).trans (rB3_len xe)
  have rc := fun i => (hat (rB1 xn) i).trans (rB1_at xn i)
  have rd := fun i => (hat (rB3 xe) i).trans (rB3_at xe i)
  have l5 : rlen tN = 5 := by rw [hln]; rfl
  have l6 : rlen tE = 6 := by rw [hln]; rfl
  have ne5 : eq (Int.ofNat (rlen tN)) 0 = false := by rw [heq, l5]; rfl
  have ne6 : eq (Int.ofNat (rlen tE)) 0 = false := by rw [heq, l6]; rfl
  have md5 : ∀ a : Nat, tmod (Int.ofNat a) (Int.ofNat (rlen tN)) = Int.ofNat (a % 5) := fun a => by rw [hmod, l5]; rfl
  have md6 : ∀ a : Nat, tmod (Int.ofNat a) (Int.ofNat (rlen tE)) = Int.ofNat (a % 6) := fun a => by rw [hmod, l6]; rfl
  have n13 : nle 1 3 = true := by rw [hnle]; rfl
  have n23 : nle 2 3 = true := by rw [hnle]; rfl
  have n33 : nle 3 3 = true := by rw [hnle]; rfl
  have G0 : rI (mLn dn ++ (kds xn).take 0) = rI (mLn dn) := by rw [List.take_zero, List.append_nil]
  have G1 := fun i a (h : xn[i]? = some a) => (by rw [take_succ_some (kds_at h), ← List.append_assoc, rI_app, hcat]; rfl : rI (mLn dn ++ (kds xn).take (i + 1)) = rcat (rI (mLn dn ++ (kds xn).take i)) [[vi (Int.ofNat (a % 5))]])
  have Gl := fun i => (by rw [rI_len, List.length_append, List.length_take]; omega : (rI (mLn dn ++ (kds xn).take i)).length ≤ 3 + i)
  have Gm : rI (mLn dn ++ (kds xn).take xn.length) = rI (mRn dn xn) := by rw [List.take_of_length_le (by rw [kds_len]; exact Nat.le_refl _)]; rfl
  have kok := mRn_ok dn xn
  have hm1 : mRe dn de xn xe = addE (mRn dn xn) xe (mLe dn de) (rounds (mRn dn xn) xe.length) := rfl
  generalize mRe dn de xn xe = MR at *
  generalize mRn dn xn = ns at *
  have ln' := (hln (rI ns)).trans (rI_len ns)
  have rn' := fun i => (hat (rI ns) i).trans (rI_at ns i)
  generalize hle' : mLe dn de = le0 at *
  have E0 : rE (addE ns xe le0 0) = rE le0 := rfl
  have Ey := fun i (h : fits ns (edv ns.length xe i) = true) => (by rw [addE_yes h, rE_app, hcat]; rfl : rE (addE ns xe le0 (i + 1)) = rcat (rE (addE ns xe le0 i)) [[vi (edv ns.length xe i).1, vi (edv ns.length xe i).2.1, vi (edv ns.length xe i).2.2]])
  have En := fun i (h : fits ns (edv ns.length xe i) = false) => (by rw [addE_no h] : rE (addE ns xe le0 (i + 1)) = rE (addE ns xe le0 i))
  have El := fun i => (by rw [rE_len]; have := addE_len ns xe le0 i; omega : (rE (addE ns xe le0 i)).length ≤ 3 + i)
  have Ef : rE (addE ns xe le0 (rounds ns xe.length)) = rE MR := by rw [hm1]
  generalize mLn dn = ln0 at *
  dsimp only [tA, own1, own3, gA, mA, dA, rR, dI, dE, rZ] at *
  generalize hG : (fun i => rI (ln0 ++ (kds xn).take i)) = G
  have hGG : ∀ i, rI (ln0 ++ (kds xn).take i) = G i := fun i => by rw [← hG]
  simp only [hGG] at G0 G1 Gl Gm
  clear hGG hG
  generalize hE : (fun i => rE (addE ns xe le0 i)) = E
  have hEE : ∀ i, rE (addE ns xe le0 i) = E i := fun i => by rw [← hE]
  simp only [hEE] at E0 Ey En El Ef
  clear hEE hE
  generalize emV dn.length = V at *
  generalize rI (upto ln0.length) = u1 at *
  generalize rI (upto le0.length) = u2 at *
  generalize rI sN = s1 at *
  generalize rI sE = s2 at *
  generalize rI ln0 = w0 at *
  generalize rE le0 = σ0 at *
  generalize rI ns = γ at *
  generalize rE MR = εf at *
  generalize rB2 dn = δ2 at *
  generalize rB3 de = δ3 at *
  generalize rB1 xn = x1 at *
  generalize rB3 xe = x3 at *
  generalize tN = τ at *
  generalize tE = υ at *
  have hA : lt (Int.ofNat (rlen δ2)) 3 = true ∨ (lt (Int.ofNat (rlen δ2)) 3 = false ∧ rlen δ2 = 3) := by
    rw [hlt, la, ofn]
    by_cases hh : dn.length < 3
    · left; simp; omega
    · right; constructor
      · simp; omega
      · omega
  have hB : lt (Int.ofNat (rlen δ3)) 3 = true ∨ (lt (Int.ofNat (rlen δ3)) 3 = false ∧ rlen δ3 = 3) := by
    rw [hlt, lb, ofn]
    by_cases hh : de.length < 3
    · left; simp; omega
    · right; constructor
      · simp; omega
      · omega
  generalize hN1 : xn.length = N1 at *
  generalize hN2 : xe.length = N2 at *
  have nF : ∀ ρ, rlen ρ = 3 → nle 3 (rlen ρ) = true := fun ρ hr => by rw [hr, hnle]; rfl
  have hz : lt 0 (Int.ofNat (rlen γ)) = !(decide (ns.length = 0)) := by
    rw [hlt, ln', ofn]
    by_cases h0 : ns.length = 0 <;> simp [h0]
    omega
  have hrr : rounds ns N2 ≤ N2 := rounds_le ns N2
  rcases hA with hA | ⟨hA, hA'⟩ <;> rcases hB with hB | ⟨hB, hB'⟩
  all_goals
    cbv
    rw [e1]
    cbv
    rw [hA]
    cbv
    rw [nl0]
    cbv
    first | rw [nls] | rw [nF _ hA']
    cbv
    rw [hB]
    cbv
    rw [nl0]
    cbv
    first | rw [nls] | rw [nF _ hB']
    cbv
    first | rw [cT δ2] | rw [cF δ2 hA']
    first | rw [cT δ3] | rw [cF δ3 hB']
    rw [e2]
    cbv
    rw [e3]
    cbv
    refine loopU (hlp _ _ _ _ _) (fun s i => (s.setI 7 i).setV 6 0 (G i)) (fun _ => True) N1 (by omega) trivial (by cbv)
      (by show St.setV (St.setI _ 7 0) 6 0 (G 0) = _; rw [G0]; cbv) ?_
    intro i hi hp C' hret hex hnorm
    rcases Nat.lt_or_ge i N1 with hc | hc
    · obtain ⟨a, hx⟩ : ∃ x, xn[i]? = some x := ⟨_, List.getElem?_eq_getElem (by omega)⟩
      have g1 := G1 i a hx
      have hba := h.b3 _ (List.mem_of_getElem? hx)
      have f1 : lt (Int.ofNat i) (Int.ofNat (rlen x1)) = true := by rw [hlt, lc, lt_true hc]
      have f2 : lt (Int.ofNat i) 3 = true := by rw [hlt, ofn]; simp; omega
      have f3 : rat x1 i = some [u8 a] := by rw [rc, hx]; rfl
      have f4 : wrap .i64 (Int.ofNat a) = Int.ofNat a := by rw [hw, wrap_nat (by omega)]
      have r1 : room (rlen (rcat (G i) [[vi (Int.ofNat (a % 5))]])) 8 = true := hroom _ _ (by rw [hln, hcat, List.length_append]; have := Gl i; simp; omega)
      cbv
      rw [f1]
      cbv
      rw [f2]
      cbv
      rw [f3]
      cbv
      rw [f4, ne5]
      cbv
      rw [md5]
      generalize a % 5 = a5 at *
      cbv
      rw [r1]
      cbv
      refine hnorm _ hc trivial ?_
      rw [g1]
      cbv
      rw [hadd, wrap_succ (by omega)]
    · have f1 : lt (Int.ofNat i) (Int.ofNat (rlen x1)) = false := by rw [hlt, lc, lt_false hc]
      have hGi : G i = γ := by rw [show i = N1 by omega]; exact Gm
      rw [hGi]
      cbv
      rw [f1]
      cbv
      rw [hex]
      cbv
      clear hret hex hnorm f1 hp
      refine loopU (hlp _ _ _ _ _) (fun s j => (s.setI 9 j).setV 6 1 (E j)) (fun _ => True) (rounds ns N2) (by omega) trivial (by cbv)
        (by show St.setV (St.setI _ 9 0) 6 1 (E 0) = _; rw [E0]; cbv) ?_
      intro j hj hp C' hret hex hnorm
      rcases Nat.lt_or_ge j (rounds ns N2) with hc2 | hc2
      · have hns : ns.length ≠ 0 := fun h0 => by unfold rounds at hc2; rw [if_pos h0] at hc2; omega
        have hjN : j < N2 := by unfold rounds at hc2; rw [if_neg hns] at hc2; exact hc2
        obtain ⟨p, hx⟩ : ∃ x, xe[j]? = some x := ⟨_, List.getElem?_eq_getElem (by omega)⟩
        have hbp := h.b4 _ (List.mem_of_getElem? hx)
        have hev : edv ns.length xe j = (Int.ofNat (p.1 % 6), Int.ofNat (p.2.1 % ns.length), Int.ofNat (p.2.2 % ns.length)) := by unfold edv; simp [List.getD_eq_getElem?_getD, hx]
        have y1 := Ey j
        have y2 := En j
        rw [hev] at y1 y2
        obtain ⟨a, b, c⟩ := p
        simp only at hbp y1 y2
        have f1 : lt (Int.ofNat j) (Int.ofNat (rlen x3)) = true := by rw [hlt, ld, lt_true hjN]
        have f2 : lt (Int.ofNat j) 4 = true := by rw [hlt, ofn]; simp; omega
        have f0 : lt 0 (Int.ofNat (rlen γ)) = true := by rw [hz]; simp [hns]
        have f3 : rat x3 j = some [u8 a, u8 b, u8 c] := by rw [rd, hx]; rfl
        have w1 : wrap .i64 (Int.ofNat a) = Int.ofNat a := by rw [hw, wrap_nat (by omega)]
        have w2 : wrap .i64 (Int.ofNat b) = Int.ofNat b := by rw [hw, wrap_nat (by omega)]
        have w3 : wrap .i64 (Int.ofNat c) = Int.ofNat c := by rw [hw, wrap_nat (by omega)]
        have nen : eq (Int.ofNat (rlen γ)) 0 = false := by rw [heq, ln', ofn, beq_eq_false_iff_ne]; omega
        have mdn : ∀ a : Nat, tmod (Int.ofNat a) (Int.ofNat (rlen γ)) = Int.ofNat (a % ns.length) := fun a => by rw [hmod, ln']; rfl
        have hb' : b % ns.length < ns.length := Nat.mod_lt _ (by omega)
        have hc' : c % ns.length < ns.length := Nat.mod_lt _ (by omega)
        have ha' : a % 6 < 6 := Nat.mod_lt _ (by omega)
        obtain ⟨xb, hxb⟩ : ∃ x, ns[b % ns.length]? = some x := ⟨_, List.getElem?_eq_getElem hb'⟩
        obtain ⟨xc, hxc⟩ : ∃ x, ns[c % ns.length]? = some x := ⟨_, List.getElem?_eq_getElem hc'⟩
        have f5 : rat γ (b % ns.length) = some [vi xb] := by rw [rn', hxb]; rfl
        have f6 : rat γ (c % ns.length) = some [vi xc] := by rw [rn', hxc]; rfl
        have f7 := e4 (Int.ofNat (a % 6)) xb xc (by rw [ofn]; omega) (kok _ (List.mem_of_getElem? hxb)) (kok _ (List.mem_of_getElem? hxc))
        have hfit : fits ns (Int.ofNat (a % 6), Int.ofNat (b % ns.length), Int.ofNat (c % ns.length)) = fitI (Int.ofNat (a % 6)) xb xc := by
          unfold fits
          simp only [show (Int.ofNat (b % ns.length)).toNat = b % ns.length from rfl, show (Int.ofNat (c % ns.length)).toNat = c % ns.length from rfl, List.getD_eq_getElem?_getD, hxb, hxc, Option.getD_some]
        rw [hfit] at y1 y2
        generalize fitI (Int.ofNat (a % 6)) xb xc = bb at f7 y1 y2
        have r1 : room (rlen (rcat (E j) [[vi (Int.ofNat (a % 6)), vi (Int.ofNat (b % ns.length)), vi (Int.ofNat (c % ns.length))]])) 24 = true := hroom _ _ (by rw [hln, hcat, List.length_append]; have := El j; simp; omega)
        generalize hmb : b % ns.length = kb at *
        generalize hmc : c % ns.length = kc at *
        cbv
        rw [f1]
        cbv
        rw [f2]
        cbv
        rw [f0]
        cbv
        rw [f3]
        cbv
        rw [n13]
        cbv
        rw [w1, ne6, md6]
        generalize a % 6 = ka at *
        cbv
        rw [f3]
        cbv
        rw [n23]
        cbv
        rw [w2, nen, mdn, hmb]
        cbv
        rw [f3]
        cbv
        rw [n33]
        cbv
        rw [w3, nen, mdn, hmc]
        cbv
        rw [f5]
        cbv
        rw [f5]
        cbv
        rw [f6]
        cbv
        rw [f6]
        cbv
        rw [f7]
        cbv
        cases bb with
        | false =>
          cbv
          refine hnorm _ hc2 trivial ?_
          rw [y2 rfl]
          cbv
          rw [hadd, wrap_succ (by omega)]
        | true =>
          cbv
          rw [r1]
          cbv
          refine hnorm _ hc2 trivial ?_
          rw [y1 rfl]
          cbv
          rw [hadd, wrap_succ (by omega)]
      · have hEj : E j = εf := by rw [show j = rounds ns N2 by omega]; exact Ef
        by_cases hns : ns.length = 0
        · have hr0 : j = 0 := by unfold rounds at hj; rw [if_pos hns] at hj; omega
          have f0 : lt 0 (Int.ofNat (rlen γ)) = false := by rw [hz]; simp [hns]
          rw [hEj]
          subst hr0
          cbv
          cases hf : lt (Int.ofNat 0) (Int.ofNat (rlen x3)) with
          | false =>
            cbv
            rw [hex]
            cbv
            rw [e5]
            cbv
            rw [e6]
            cbv
          | true =>
            have f2 : lt (Int.ofNat 0) 4 = true := by rw [hlt]; rfl
            cbv
            rw [f2]
            cbv
            rw [f0]
            cbv
            rw [hex]
            cbv
            rw [e5]
            cbv
            rw [e6]
            cbv
        · have hr0 : j = N2 := by unfold rounds at hj hc2; rw [if_neg hns] at hj hc2; omega
          have f1 : lt (Int.ofNat j) (Int.ofNat (rlen x3)) = false := by rw [hlt, ld, lt_false (by omega)]
          rw [hEj]
          cbv
          rw [f1]
          cbv
          rw [hex]
          cbv
          rw [e5]
          cbv
          rw [e6]
          cbv
end Am

