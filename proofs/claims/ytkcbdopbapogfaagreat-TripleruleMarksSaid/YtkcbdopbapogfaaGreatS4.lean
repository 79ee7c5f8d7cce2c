/-
  What functions of the given program answer, as values, shown by that evaluator: each theorem bears its own conditions.
  By an AI agent. No person has read it.
-/
import Derived.Test.YtkcbdopbapogfaaGreatS3
set_option linter.all false
set_option maxRecDepth 100000
noncomputable section
namespace Am
open Go Go.Proofs

/-- the example's types -/
def tN : List (List C) := [[.v (.string ⟨#[67, 108, 97, 115, 115]⟩), .v (.int .i64 (-1)), .v (.bool false), .sl false 4 []], [.v (.string ⟨#[65, 116, 116, 114, 105, 98, 117, 116, 101]⟩), .v (.int .i64 (-1)), .v (.bool false), .sl false 4 []], [.v (.string ⟨#[84, 97, 98, 108, 101]⟩), .v (.int .i64 (-1)), .v (.bool false), .sl false 4 []], [.v (.string ⟨#[67, 111, 108, 117, 109, 110]⟩), .v (.int .i64 (-1)), .v (.bool false), .sl false 4 []], [.v (.string ⟨#[77, 97, 112]⟩), .v (.int .i64 (-1)), .v (.bool false), .sl false 4 []]]
def tE : List (List C) := [[.v (.string ⟨#[104, 97, 115]⟩), .v (.int .i64 0), .v (.int .i64 1), .v (.int .i64 0), .v (.int .i64 (-1)), .v (.int .i64 0), .v (.int .i64 (-1))], [.v (.string ⟨#[119, 105, 116, 104]⟩), .v (.int .i64 2), .v (.int .i64 3), .v (.int .i64 0), .v (.int .i64 (-1)), .v (.int .i64 0), .v (.int .i64 (-1))], [.v (.string ⟨#[111, 102, 67, 108, 97, 115, 115]⟩), .v (.int .i64 4), .v (.int .i64 0), .v (.int .i64 0), .v (.int .i64 (-1)), .v (.int .i64 0), .v (.int .i64 (-1))], [.v (.string ⟨#[111, 102, 65, 116, 116, 114, 105, 98, 117, 116, 101]⟩), .v (.int .i64 4), .v (.int .i64 1), .v (.int .i64 0), .v (.int .i64 (-1)), .v (.int .i64 0), .v (.int .i64 (-1))], [.v (.string ⟨#[116, 111, 84, 97, 98, 108, 101]⟩), .v (.int .i64 4), .v (.int .i64 2), .v (.int .i64 0), .v (.int .i64 (-1)), .v (.int .i64 0), .v (.int .i64 (-1))], [.v (.string ⟨#[116, 111, 67, 111, 108, 117, 109, 110]⟩), .v (.int .i64 4), .v (.int .i64 3), .v (.int .i64 0), .v (.int .i64 (-1)), .v (.int .i64 0), .v (.int .i64 (-1))]]
def sN : List Int := [1, 1, 3, 3, 2]
def sE : List Int := [1, 3, 2, 2, 2, 2]
def zN : List Int := [3, 3, 1, 1, 2]
def zE : List Int := [3, 1, 2, 2, 2, 2]
abbrev tC : List C := [.sl false 4 tN, .sl false 7 tE]
abbrev tA : Arg := .agg [.sl false 4 tN, .sl false 7 tE]
abbrev sA (a b : List Int) : Arg := .agg [.sl false 1 (rI a), .sl false 1 (rI b)]
abbrev rS (b : ByteArray) : R := .one (.d (.v (.string b)))
abbrev own1 (l : List Int) : R1 := .own 1 (rI l)
theorem k26 : O Ez NR 26 [] = some (.tup [.agg [.own 4 tN, .own 7 tE], .agg [own1 sN, own1 sE]], []) := O_iff.2 ⟨30, by kernel_rfl⟩
theorem k96 : O Ez NR 96 [tA] = some (.tup [rS ⟨#[]⟩, ri 0], []) := O_iff.2 ⟨60, by kernel_rfl⟩
theorem k74 : O Ez NR 74 [tA] = some (.tup [rS ⟨#[]⟩, ri 0], []) := O_iff.2 ⟨60, by kernel_rfl⟩
theorem k40 : O Ez NR 40 [tA, sA sN sE] = some (.tup [.agg [own1 zN, own1 zE], ri 0], []) := O_iff.2 ⟨60, by kernel_rfl⟩
theorem k51 : O Ez NR 51 [tA, sA sN sE] = some (ri 0, []) := O_iff.2 ⟨60, by kernel_rfl⟩
theorem k51z : O Ez NR 51 [tA, sA zN zE] = some (ri 0, []) := O_iff.2 ⟨60, by kernel_rfl⟩
theorem k97r : O Ez NR 97 [.one (.v (.string ⟨#[114]⟩))] = some (rb true, []) := O_iff.2 ⟨60, by kernel_rfl⟩
theorem k9 : O Ez NR 9 [] = some (rb true, []) := O_iff.2 ⟨100, by kernel_rfl⟩
theorem k116 : O Ez NR 116 [tA] = some (.one (own1 [0, 1, 2, 3, 4]), []) := O_iff.2 ⟨60, by kernel_rfl⟩
theorem k166 (a : Nat) (h : a < 5) : O Ez NR 166 [tA, .one (vi (Int.ofNat a))] = some (.one (own1 [Int.ofNat a]), []) := by
  match a, h with
  | 0, _ => exact O_iff.2 ⟨60, by kernel_rfl⟩
  | 1, _ => exact O_iff.2 ⟨60, by kernel_rfl⟩
  | 2, _ => exact O_iff.2 ⟨60, by kernel_rfl⟩
  | 3, _ => exact O_iff.2 ⟨60, by kernel_rfl⟩
  | 4, _ => exact O_iff.2 ⟨60, by kernel_rfl⟩
  | n + 5, h => omega
theorem k117 (a : Nat) (h : a < 5) : O Ez NR 117 [tA, .one (vi (Int.ofNat a))] = some (.tup [.one (.own 4 []), ri 0], []) := by
  match a, h with
  | 0, _ => exact O_iff.2 ⟨60, by kernel_rfl⟩
  | 1, _ => exact O_iff.2 ⟨60, by kernel_rfl⟩
  | 2, _ => exact O_iff.2 ⟨60, by kernel_rfl⟩
  | 3, _ => exact O_iff.2 ⟨60, by kernel_rfl⟩
  | 4, _ => exact O_iff.2 ⟨60, by kernel_rfl⟩
  | n + 5, h => omega
/-- 0, 1, .. -/
def upto (n : Nat) : List Int := (List.range n).map Int.ofNat
theorem k208 (n : Nat) (h : n < 4) : O Ez NR 208 [.one (.sl false 1 (rI (upto n)))] = some (ri (Int.ofNat n), []) := by
  match n, h with
  | 0, _ => exact O_iff.2 ⟨60, by kernel_rfl⟩
  | 1, _ => exact O_iff.2 ⟨60, by kernel_rfl⟩
  | 2, _ => exact O_iff.2 ⟨60, by kernel_rfl⟩
  | 3, _ => exact O_iff.2 ⟨60, by kernel_rfl⟩
  | n + 4, h => omega
theorem k207 (n x : Nat) (h : n < 4) (hx : x < n) : O Ez NR 207 [.one (.sl false 1 (rI (upto n))), .one (vi (Int.ofNat x))] = some (.tup [ri (Int.ofNat x), rb true], []) := by
  match n, x, h, hx with
  | 1, 0, _, _ => exact O_iff.2 ⟨60, by kernel_rfl⟩
  | 2, 0, _, _ => exact O_iff.2 ⟨60, by kernel_rfl⟩
  | 2, 1, _, _ => exact O_iff.2 ⟨60, by kernel_rfl⟩
  | 3, 0, _, _ => exact O_iff.2 ⟨60, by kernel_rfl⟩
  | 3, 1, _, _ => exact O_iff.2 ⟨60, by kernel_rfl⟩
  | 3, 2, _, _ => exact O_iff.2 ⟨60, by kernel_rfl⟩
  | 1, x + 1, _, h => omega
  | 2, x + 2, _, h => omega
  | 3, x + 3, _, h => omega
  | n + 4, _, h, _ => omega
abbrev cond1 : List C := [vi 1, .sl false 9 [], .sl false 1 [], .sl false 1 [], .sl false 1 [], .sl false 3 [], .sl false 4 [], vi 0, .sl false 5 []]
theorem k163 : O Ez NR 163 [.agg cond1] = some (ri 0, []) := O_iff.2 ⟨60, by kernel_rfl⟩
theorem k153 : O Ez NR 153 [.one (vi 0), .one (.sl false 5 [])] = some (ri 0, []) := O_iff.2 ⟨60, by kernel_rfl⟩
theorem k154 : O Ez NR 154 [.one (.sl false 1 []), .one (vb false)] = some (rb false, []) := O_iff.2 ⟨60, by kernel_rfl⟩
end Am

