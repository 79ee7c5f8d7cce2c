/-
  What functions of the given program answer, as values, shown by that evaluator: each theorem bears its own conditions.
  By an AI agent. No person has read it.
-/
import Derived.Test.YtkcbdopbapogfaaGreatS21
set_option linter.all false
set_option maxRecDepth 100000
noncomputable section
namespace Am
open Go Go.Proofs

abbrev u8 (n : Nat) : C := .v (.int .u8 (Int.ofNat n))
def rB2 (l : List (Nat × Nat)) : List (List C) := l.map fun e => [u8 e.1, u8 e.2]
def rB3 (l : List (Nat × Nat × Nat)) : List (List C) := l.map fun e => [u8 e.1, u8 e.2.1, u8 e.2.2]
def rB1 (l : List Nat) : List (List C) := l.map fun e => [u8 e]
theorem rB2_len (l : List (Nat × Nat)) : (rB2 l).length = l.length := by simp [rB2]
theorem rB2_at (l : List (Nat × Nat)) (i : Nat) : (rB2 l)[i]? = (l[i]?).map fun e => [u8 e.1, u8 e.2] := by simp [rB2]
theorem rB3_len (l : List (Nat × Nat × Nat)) : (rB3 l).length = l.length := by simp [rB3]
theorem rB3_at (l : List (Nat × Nat × Nat)) (i : Nat) : (rB3 l)[i]? = (l[i]?).map fun e => [u8 e.1, u8 e.2.1, u8 e.2.2] := by simp [rB3]
theorem rB1_len (l : List Nat) : (rB1 l).length = l.length := by simp [rB1]
theorem rB1_at (l : List Nat) (i : Nat) : (rB1 l)[i]? = (l[i]?).map fun e => [u8 e] := by simp [rB1]

/-- the kinds of nodes -/
def kds (l : List Nat) : List Int := l.map fun a => Int.ofNat (a % 5)
theorem kds_len (l : List Nat) : (kds l).length = l.length := by simp [kds]
theorem kds_ok (l : List Nat) : ∀ x ∈ kds l, 0 ≤ x ∧ x < 5 := fun x hx => by
  obtain ⟨a, _, rfl⟩ := List.mem_map.1 hx
  rw [ofn]
  omega
theorem kds_take {l : List Nat} {i a : Nat} (h : l[i]? = some a) : (kds l).take (i + 1) = (kds l).take i ++ [Int.ofNat (a % 5)] := take_succ_some (by unfold kds; rw [List.getElem?_map, h]; rfl)

/-- the edge that three bytes describe -/
def edv (n : Nat) (de : List (Nat × Nat × Nat)) (i : Nat) : Int × Int × Int := (Int.ofNat ((de.getD i (0, 0, 0)).1 % 6), Int.ofNat ((de.getD i (0, 0, 0)).2.1 % n), Int.ofNat ((de.getD i (0, 0, 0)).2.2 % n))
def fits (ns : List Int) (e : Int × Int × Int) : Bool := fitI e.1 (ns.getD e.2.1.toNat 0) (ns.getD e.2.2.toNat 0)
/-- those that fit, behind some -/
def addE (ns : List Int) (de : List (Nat × Nat × Nat)) (e0 : List (Int × Int × Int)) : Nat → List (Int × Int × Int)
  | 0 => e0
  | i + 1 => if fits ns (edv ns.length de i) = true then addE ns de e0 i ++ [edv ns.length de i] else addE ns de e0 i
theorem addE_yes {ns : List Int} {de : List (Nat × Nat × Nat)} {e0 : List (Int × Int × Int)} {i : Nat} (h : fits ns (edv ns.length de i) = true) : addE ns de e0 (i + 1) = addE ns de e0 i ++ [edv ns.length de i] := by rw [addE, if_pos h]
theorem addE_no {ns : List Int} {de : List (Nat × Nat × Nat)} {e0 : List (Int × Int × Int)} {i : Nat} (h : fits ns (edv ns.length de i) = false) : addE ns de e0 (i + 1) = addE ns de e0 i := by rw [addE, if_neg (by rw [h]; decide)]
theorem addE_len (ns : List Int) (de : List (Nat × Nat × Nat)) (e0 : List (Int × Int × Int)) : ∀ i, (addE ns de e0 i).length ≤ e0.length + i
  | 0 => by simp [addE]
  | i + 1 => by
    have := addE_len ns de e0 i
    cases h : fits ns (edv ns.length de i) with
    | true => rw [addE_yes h]; simp; omega
    | false => rw [addE_no h]; omega
def rounds (ns : List Int) (m : Nat) : Nat := if ns.length = 0 then 0 else m
def emV (i : Nat) : List (List C) := List.replicate i [.sl false 1 []]

theorem s66 (dn : List (Nat × Nat)) (de : List (Nat × Nat × Nat)) (h1 : dn.length ≤ 3) (h2 : de.length ≤ 3) (hb1 : ∀ p ∈ dn, p.1 < 256) (hb2 : ∀ p ∈ de, p.1 < 256 ∧ p.2.1 < 256 ∧ p.2.2 < 256) :
    O Ez NR 66 [tA, .agg [.sl false 2 (rB2 dn), .sl false 3 (rB3 de)]] =
      some (.agg [own1 (kds (dn.map (·.1))), own3 (addE (kds (dn.map (·.1))) de [] (rounds (kds (dn.map (·.1))) de.length)), .own 1 (emV dn.length)], []) := by
  obtain ⟨n, hfn⟩ : ∃ n : Nat, 200 < n := ⟨201, by omega⟩
  refine spec_of n F66 ?_
  intro rat rlen hat hln rcat hcat rcut hcut lp hlp o wrap lt le eq eqs nle tdiv tmod add sub mul room ho hw hlt hle heq heqs hnle hdiv hmod hadd hsub hmul hroom
  have e0 := ho _ _ _ k116
  have e1 := fun a h => ho _ _ _ (k117 a h)
  have e2 := fun ty a b h1 h2 h3 => ho _ _ _ (@s68 ty a b h1 h2 h3)
  have l5 : rlen (rI [0, 1, 2, 3, 4]) = 5 := by rw [hln]; rfl
  have h5 : ∀ k, k < 5 → rat (rI [0, 1, 2, 3, 4]) k = some [vi (Int.ofNat k)] := fun k hk => by
    rw [hat]
    match k, hk with
    | 0, _ => rfl
    | 1, _ => rfl
    | 2, _ => rfl
    | 3, _ => rfl
    | 4, _ => rfl
    | k + 5, h => omega
  have l6 : rlen tE = 6 := by rw [hln]; rfl
  have la := (hln (rB2 dn)).trans (rB2_len dn)
  have lb := (hln (rB3 de)).trans (rB3_len de)
  have ra := fun i => (hat (rB2 dn) i).trans (rB2_at dn i)
  have rb := fun i => (hat (rB3 de) i).trans (rB3_at de i)
  have z0 : lt 0 (Int.ofNat (rlen [])) = false := by rw [hlt, hln]; rfl
  have pos5 : lt 0 (Int.ofNat (rlen (rI [0, 1, 2, 3, 4]))) = true := by rw [hlt, l5]; rfl
  have ne5 : eq (Int.ofNat (rlen (rI [0, 1, 2, 3, 4]))) 0 = false := by rw [heq, l5]; rfl
  have pos6 : lt 0 (Int.ofNat (rlen tE)) = true := by rw [hlt, l6]; rfl
  have ne6 : eq (Int.ofNat (rlen tE)) 0 = false := by rw [heq, l6]; rfl
  have md5 : ∀ a : Nat, tmod (Int.ofNat a) (Int.ofNat (rlen (rI [0, 1, 2, 3, 4]))) = Int.ofNat (a % 5) := fun a => by rw [hmod, l5]; rfl
  have md6 : ∀ a : Nat, tmod (Int.ofNat a) (Int.ofNat (rlen tE)) = Int.ofNat (a % 6) := fun a => by rw [hmod, l6]; rfl
  have n12 : nle 1 2 = true := by rw [hnle]; rfl
  have n13 : nle 1 3 = true := by rw [hnle]; rfl
  have n23 : nle 2 3 = true := by rw [hnle]; rfl
  have n33 : nle 3 3 = true := by rw [hnle]; rfl
  have G0 : rI ((kds (dn.map (·.1))).take 0) = [] := rfl
  have G1 := fun i p (h : dn[i]? = some p) => (by rw [kds_take (a := p.1) (by rw [List.getElem?_map, h]; rfl), rI_app, hcat]; rfl : rI ((kds (dn.map (·.1))).take (i + 1)) = rcat (rI ((kds (dn.map (·.1))).take i)) [[vi (Int.ofNat (p.1 % 5))]])
  have Gl := fun i => (by rw [rI_len, List.length_take]; omega : (rI ((kds (dn.map (·.1))).take i)).length ≤ i)
  have Gm : rI ((kds (dn.map (·.1))).take dn.length) = rI (kds (dn.map (·.1))) := by rw [List.take_of_length_le (by rw [kds_len]; simp)]
  have V0 : emV 0 = [] := rfl
  have V1 := fun i => (by rw [hcat]; unfold emV; rw [List.replicate_succ'] : emV (i + 1) = rcat (emV i) [[.sl false 1 []]])
  have Vl := fun i => (by unfold emV; simp : (emV i).length ≤ i)
  have kok := kds_ok (dn.map (·.1))
  have klen : (kds (dn.map (·.1))).length = dn.length := by rw [kds_len]; simp
  generalize kds (dn.map (·.1)) = ns at *
  have ln' := (hln (rI ns)).trans (rI_len ns)
  have rn' := fun i => (hat (rI ns) i).trans (rI_at ns i)
  have E0 : rE (addE ns de [] 0) = [] := rfl
  have Ey := fun i (h : fits ns (edv ns.length de i) = true) => (by rw [addE_yes h, rE_app, hcat]; rfl : rE (addE ns de [] (i + 1)) = rcat (rE (addE ns de [] i)) [[vi (edv ns.length de i).1, vi (edv ns.length de i).2.1, vi (edv ns.length de i).2.2]])
  have En := fun i (h : fits ns (edv ns.length de i) = false) => (by rw [addE_no h] : rE (addE ns de [] (i + 1)) = rE (addE ns de [] i))
  have El := fun i => (by rw [rE_len]; have := addE_len ns de [] i; simpa using this : (rE (addE ns de [] i)).length ≤ i)
  dsimp only [tA, own1, own3] at *
  generalize hG : (fun i => rI (ns.take i)) = G
  have hGG : ∀ i, rI (ns.take i) = G i := fun i => by rw [← hG]
  simp only [hGG] at G0 G1 Gl Gm
  clear hGG hG
  generalize hE : (fun i => rE (addE ns de [] i)) = E
  have hEE : ∀ i, rE (addE ns de [] i) = E i := fun i => by rw [← hE]
  simp only [hEE] at E0 Ey En El ⊢
  clear hEE hE
  generalize emV = V at *
  generalize rI [0, 1, 2, 3, 4] = lam at *
  generalize rI ns = γ at *
  generalize rB2 dn = δ2 at *
  generalize rB3 de = δ3 at *
  generalize tN = τ at *
  generalize tE = υ at *
  generalize hN1 : dn.length = N1 at *
  generalize hN2 : de.length = N2 at *
  cbv
  rw [e0]
  cbv
  refine loopU (hlp _ _ _ _ _) (fun s i => ((s.setI 7 i).setV 5 0 (G i)).setV 5 2 (V i)) (fun _ => True) N1 (by omega) trivial (by cbv)
    (by show St.setV (St.setV (St.setI _ 7 0) 5 0 (G 0)) 5 2 (V 0) = _; rw [G0, V0]; cbv) ?_
  intro i hi hp C' hret hex hnorm
  rcases Nat.lt_or_ge i N1 with hc | hc
  · obtain ⟨p, hx⟩ : ∃ x, dn[i]? = some x := ⟨_, List.getElem?_eq_getElem (by omega)⟩
    have g1 := G1 i p hx
    obtain ⟨a, b⟩ := p
    simp only at g1
    have f1 : lt (Int.ofNat i) (Int.ofNat (rlen δ2)) = true := by rw [hlt, la, lt_true hc]
    have f2 : lt (Int.ofNat i) 8 = true := by rw [hlt, ofn]; simp; omega
    have f3 : rat δ2 i = some [u8 a, u8 b] := by rw [ra, hx]; rfl
    have hba := hb1 _ (List.mem_of_getElem? hx)
    simp only at hba
    have f4 : wrap .i64 (Int.ofNat a) = Int.ofNat a := by rw [hw, wrap_nat (by omega)]
    have f5 := h5 (a % 5) (Nat.mod_lt _ (by omega))
    have f6 := e1 (a % 5) (Nat.mod_lt _ (by omega))
    have r1 : room (rlen (rcat (G i) [[vi (Int.ofNat (a % 5))]])) 8 = true := hroom _ _ (by rw [hln, hcat, List.length_append]; have := Gl i; simp; omega)
    have r2 : room (rlen (rcat (V i) [[.sl false 1 []]])) 24 = true := hroom _ _ (by rw [hln, hcat, List.length_append]; have := Vl i; simp; omega)
    have v1 := V1 i
    cbv
    rw [f1]
    cbv
    rw [f2]
    cbv
    rw [pos5]
    cbv
    rw [f3]
    cbv
    rw [n12]
    cbv
    rw [f4, ne5, md5]
    generalize a % 5 = a5 at *
    cbv
    rw [f5]
    cbv
    rw [f5]
    cbv
    rw [f6]
    cbv
    refine loopU (hlp _ _ _ _ _) (fun s _ => s) (fun _ => True) 0 (by omega) trivial (by cbv) rfl ?_
    intro j hj _ C2 hret2 hex2 hnorm2
    cbv
    rw [z0]
    cbv
    rw [hex2]
    cbv
    rw [r1]
    cbv
    rw [r2]
    cbv
    refine hnorm _ hc trivial ?_
    rw [g1, v1]
    cbv
    rw [hadd, wrap_succ (by omega)]
  · have f1 : lt (Int.ofNat i) (Int.ofNat (rlen δ2)) = false := by rw [hlt, la, lt_false hc]
    have hGi : G i = γ := by rw [show i = N1 by omega]; exact Gm
    have hi1 : i = N1 := by omega
    rw [hGi]
    cbv
    rw [f1]
    cbv
    rw [hex]
    cbv
    clear hret hex hnorm f1 hp
    subst hi1
    have hz : lt 0 (Int.ofNat (rlen γ)) = !(decide (ns.length = 0)) := by
      rw [hlt, ln', ofn]
      by_cases h0 : ns.length = 0 <;> simp [h0]
      omega
    have hrr : rounds ns N2 ≤ N2 := by unfold rounds; split <;> omega
    refine loopU (hlp _ _ _ _ _) (fun s j => (s.setI 14 j).setV 5 1 (E j)) (fun _ => True) (rounds ns N2) (by omega) trivial (by cbv)
      (by show St.setV (St.setI _ 14 0) 5 1 (E 0) = _; rw [E0]; cbv) ?_
    intro j hj hp C' hret hex hnorm
    rcases Nat.lt_or_ge j (rounds ns N2) with hc2 | hc2
    · have hns : ns.length ≠ 0 := fun h0 => by unfold rounds at hc2; rw [if_pos h0] at hc2; omega
      have hjN : j < N2 := by unfold rounds at hc2; rw [if_neg hns] at hc2; exact hc2
      obtain ⟨p, hx⟩ : ∃ x, de[j]? = some x := ⟨_, List.getElem?_eq_getElem (by omega)⟩
      have hbp := hb2 _ (List.mem_of_getElem? hx)
      have hev : edv ns.length de j = (Int.ofNat (p.1 % 6), Int.ofNat (p.2.1 % ns.length), Int.ofNat (p.2.2 % ns.length)) := by unfold edv; simp [List.getD_eq_getElem?_getD, hx]
      have y1 := Ey j
      have y2 := En j
      rw [hev] at y1 y2
      obtain ⟨a, b, c⟩ := p
      simp only at hbp y1 y2
      have f1 : lt (Int.ofNat j) (Int.ofNat (rlen δ3)) = true := by rw [hlt, lb, lt_true hjN]
      have f2 : lt (Int.ofNat j) 10 = true := by rw [hlt, ofn]; simp; omega
      have f0 : lt 0 (Int.ofNat (rlen γ)) = true := by rw [hz]; simp [hns]
      have f3 : rat δ3 j = some [u8 a, u8 b, u8 c] := by rw [rb, hx]; rfl
      have w1 : wrap .i64 (Int.ofNat a) = Int.ofNat a := by rw [hw, wrap_nat (by omega)]
      have w2 : wrap .i64 (Int.ofNat b) = Int.ofNat b := by rw [hw, wrap_nat (by omega)]
      have w3 : wrap .i64 (Int.ofNat c) = Int.ofNat c := by rw [hw, wrap_nat (by omega)]
      have nen : eq (Int.ofNat (rlen γ)) 0 = false := by rw [heq, ln', ofn, beq_eq_false_iff_ne]; omega
      have mdn : ∀ a : Nat, tmod (Int.ofNat a) (Int.ofNat (rlen γ)) = Int.ofNat (a % ns.length) := fun a => by rw [hmod, ln']; rfl
      have hb' : b % ns.length < ns.length := Nat.mod_lt _ (by omega)
      have hc' : c % ns.length < ns.length := Nat.mod_lt _ (by omega)
      have ha' : a % 6 < 6 := Nat.mod_lt _ (by omega)
      obtain ⟨xb, hxb⟩ : ∃ x, ns[b % ns.length]? = some x := ⟨_, List.getElem?_eq_getElem hb'⟩
      obtain ⟨xc, hxc⟩ : ∃ x, ns[c % ns.length]? = some x := ⟨_, List.getElem?_eq_getElem hc'⟩
      have f5 : rat γ (b % ns.length) = some [vi xb] := by rw [rn', hxb]; rfl
      have f6 : rat γ (c % ns.length) = some [vi xc] := by rw [rn', hxc]; rfl
      have f7 := e2 (Int.ofNat (a % 6)) xb xc (by rw [ofn]; omega) (kok _ (List.mem_of_getElem? hxb)) (kok _ (List.mem_of_getElem? hxc))
      have hfit : fits ns (Int.ofNat (a % 6), Int.ofNat (b % ns.length), Int.ofNat (c % ns.length)) = fitI (Int.ofNat (a % 6)) xb xc := by
        unfold fits
        simp only [show (Int.ofNat (b % ns.length)).toNat = b % ns.length from rfl, show (Int.ofNat (c % ns.length)).toNat = c % ns.length from rfl, List.getD_eq_getElem?_getD, hxb, hxc, Option.getD_some]
      rw [hfit] at y1 y2
      generalize fitI (Int.ofNat (a % 6)) xb xc = bb at f7 y1 y2
      have r1 : room (rlen (rcat (E j) [[vi (Int.ofNat (a % 6)), vi (Int.ofNat (b % ns.length)), vi (Int.ofNat (c % ns.length))]])) 24 = true := hroom _ _ (by rw [hln, hcat, List.length_append]; have := El j; simp; omega)
      generalize hmb : b % ns.length = kb at *
      generalize hmc : c % ns.length = kc at *
      cbv
      rw [f1]
      cbv
      rw [f2]
      cbv
      rw [f0]
      cbv
      rw [pos6]
      cbv
      rw [f3]
      cbv
      rw [n13]
      cbv
      rw [w1, ne6, md6]
      generalize a % 6 = ka at *
      cbv
      rw [f3]
      cbv
      rw [n23]
      cbv
      rw [w2, nen, mdn, hmb]
      cbv
      rw [f3]
      cbv
      rw [n33]
      cbv
      rw [w3, nen, mdn, hmc]
      cbv
      rw [f5]
      cbv
      rw [f5]
      cbv
      rw [f6]
      cbv
      rw [f6]
      cbv
      rw [f7]
      cbv
      cases bb with
      | false =>
        cbv
        refine hnorm _ hc2 trivial ?_
        rw [y2 rfl]
        cbv
        rw [hadd, wrap_succ (by omega)]
      | true =>
        cbv
        rw [r1]
        cbv
        refine hnorm _ hc2 trivial ?_
        rw [y1 rfl]
        cbv
        rw [hadd, wrap_succ (by omega)]
    · have hjr : j = rounds ns N2 := by omega
      subst hjr
      generalize hrn : rounds ns N2 = rr at *
      by_cases hns : ns.length = 0
      · have hr0 : rr = 0 := by rw [← hrn]; unfold rounds; rw [if_pos hns]
        have f0 : lt 0 (Int.ofNat (rlen γ)) = false := by rw [hz]; simp [hns]
        subst hr0
        cbv
        cases hf : lt (Int.ofNat 0) (Int.ofNat (rlen δ3)) with
        | false =>
          cbv
          rw [hex]
          cbv
        | true =>
          have f2 : lt (Int.ofNat 0) 10 = true := by rw [hlt]; rfl
          cbv
          rw [f2]
          cbv
          rw [f0]
          cbv
          rw [hex]
          cbv
      · have hr0 : rr = N2 := by rw [← hrn]; unfold rounds; rw [if_neg hns]
        subst hr0
        have f1 : lt (Int.ofNat rr) (Int.ofNat (rlen δ3)) = false := by rw [hlt, lb, lt_false (by omega)]
        cbv
        rw [f1]
        cbv
        rw [hex]
        cbv
end Am

