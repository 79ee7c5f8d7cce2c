/-
  Tables of the loaded program for that evaluator, each entry checked against the program as loaded: it holds without conditions.
  By an AI agent. No person has read it.
-/
import Derived.Test.YtkcbdopbapogfaaGreatA5
import Derived.Test.YtkcbdopbapogfaaGreatProg
set_option linter.all false
set_option maxRecDepth 100000
namespace Am
open Go Go.Proofs

def szs (t : Nat) : Option Nat := (if t ≤ 75 then (if t ≤ 37 then (if t ≤ 22 then (if t ≤ 4 then (if t ≤ 1 then (if t ≤ 0 then (if t = 0 then some 1 else none) else (if t = 1 then some 1 else none)) else (if t ≤ 2 then (if t = 2 then some 1 else none) else (if t ≤ 3 then (if t = 3 then some 1 else none) else (if t = 4 then some 1 else none)))) else (if t ≤ 6 then (if t ≤ 5 then (if t = 5 then some 1 else none) else (if t = 6 then some 1 else none)) else (if t ≤ 9 then (if t = 9 then some 1 else none) else (if t ≤ 20 then (if t = 20 then some 1 else none) else (if t = 22 then some 1 else none))))) else (if t ≤ 30 then (if t ≤ 25 then (if t ≤ 23 then (if t = 23 then some 1 else none) else (if t = 25 then some 2 else none)) else (if t ≤ 26 then (if t = 26 then some 1 else none) else (if t ≤ 28 then (if t = 28 then some 2 else none) else (if t = 30 then some 4 else none)))) else (if t ≤ 33 then (if t ≤ 31 then (if t = 31 then some 1 else none) else (if t = 33 then some 2 else none)) else (if t ≤ 34 then (if t = 34 then some 1 else none) else (if t ≤ 35 then (if t = 35 then some 1 else none) else (if t = 37 then some 5 else none)))))) else (if t ≤ 57 then (if t ≤ 44 then (if t ≤ 39 then (if t ≤ 38 then (if t = 38 then some 2 else none) else (if t = 39 then some 2 else none)) else (if t ≤ 40 then (if t = 40 then some 1 else none) else (if t ≤ 42 then (if t = 42 then some 9 else none) else (if t = 44 then some 25 else none)))) else (if t ≤ 48 then (if t ≤ 47 then (if t = 47 then some 1 else none) else (if t = 48 then some 1 else none)) else (if t ≤ 53 then (if t = 53 then some 1 else none) else (if t ≤ 56 then (if t = 56 then some 1 else none) else (if t = 57 then some 1 else none))))) else (if t ≤ 67 then (if t ≤ 60 then (if t ≤ 59 then (if t = 59 then some 2 else none) else (if t = 60 then some 1 else none)) else (if t ≤ 62 then (if t = 62 then some 4 else none) else (if t ≤ 64 then (if t = 64 then some 1 else none) else (if t = 67 then some 1 else none)))) else (if t ≤ 70 then (if t ≤ 69 then (if t = 69 then some 1 else none) else (if t = 70 then some 1 else none)) else (if t ≤ 72 then (if t = 72 then some 1 else none) else (if t ≤ 74 then (if t = 74 then some 3 else none) else (if t = 75 then some 1 else none))))))) else (if t ≤ 162 then (if t ≤ 114 then (if t ≤ 100 then (if t ≤ 91 then (if t ≤ 77 then (if t = 77 then some 1 else none) else (if t = 91 then some 1 else none)) else (if t ≤ 93 then (if t = 93 then some 4 else none) else (if t ≤ 94 then (if t = 94 then some 1 else none) else (if t = 100 then some 7 else none)))) else (if t ≤ 104 then (if t ≤ 102 then (if t = 102 then some 1 else none) else (if t = 104 then some 3 else none)) else (if t ≤ 107 then (if t = 107 then some 3 else none) else (if t ≤ 110 then (if t = 110 then some 1 else none) else (if t = 114 then some 1 else none))))) else (if t ≤ 132 then (if t ≤ 124 then (if t ≤ 122 then (if t = 122 then some 1 else none) else (if t = 124 then some 4 else none)) else (if t ≤ 128 then (if t = 128 then some 1 else none) else (if t ≤ 130 then (if t = 130 then some 4 else none) else (if t = 132 then some 1 else none)))) else (if t ≤ 148 then (if t ≤ 145 then (if t = 145 then some 1 else none) else (if t = 148 then some 2 else none)) else (if t ≤ 149 then (if t = 149 then some 1 else none) else (if t ≤ 159 then (if t = 159 then some 3 else none) else (if t = 162 then some 2 else none)))))) else (if t ≤ 204 then (if t ≤ 180 then (if t ≤ 165 then (if t ≤ 164 then (if t = 164 then some 4 else none) else (if t = 165 then some 1 else none)) else (if t ≤ 171 then (if t = 171 then some 1 else none) else (if t ≤ 177 then (if t = 177 then some 1 else none) else (if t = 180 then some 1 else none)))) else (if t ≤ 188 then (if t ≤ 181 then (if t = 181 then some 1 else none) else (if t = 188 then some 5 else none)) else (if t ≤ 194 then (if t = 194 then some 1 else none) else (if t ≤ 198 then (if t = 198 then some 1 else none) else (if t = 204 then some 1 else none))))) else (if t ≤ 223 then (if t ≤ 210 then (if t ≤ 205 then (if t = 205 then some 1 else none) else (if t = 210 then some 1 else none)) else (if t ≤ 211 then (if t = 211 then some 1 else none) else (if t ≤ 216 then (if t = 216 then some 1 else none) else (if t = 223 then some 1 else none)))) else (if t ≤ 241 then (if t ≤ 226 then (if t = 226 then some 1 else none) else (if t ≤ 232 then (if t = 232 then some 1 else none) else (if t = 241 then some 1 else none))) else (if t ≤ 242 then (if t = 242 then some 1 else none) else (if t ≤ 248 then (if t = 248 then some 1 else none) else (if t = 250 then some 1 else none))))))))
theorem szs_ok : ∀ t n, szOf szs t = some n → SzQ Tryz.prog t n := fun t => (nd (nd (nd (nd (nd (nd (lf (Q := SzQ Tryz.prog) (szQ Tryz.type0 rfl)) (lf (Q := SzQ Tryz.prog) (szQ Tryz.type1 rfl))) (nd (lf (Q := SzQ Tryz.prog) (szQ Tryz.type2 rfl)) (nd (lf (Q := SzQ Tryz.prog) (szQ Tryz.type3 rfl)) (lf (Q := SzQ Tryz.prog) (szQ Tryz.type4 rfl))))) (nd (nd (lf (Q := SzQ Tryz.prog) (szQ Tryz.type5 rfl)) (lf (Q := SzQ Tryz.prog) (szQ Tryz.type6 rfl))) (nd (lf (Q := SzQ Tryz.prog) (szQ Tryz.type9 rfl)) (nd (lf (Q := SzQ Tryz.prog) (szQ Tryz.type20 rfl)) (lf (Q := SzQ Tryz.prog) (szQ Tryz.type22 rfl)))))) (nd (nd (nd (lf (Q := SzQ Tryz.prog) (szQ Tryz.type23 rfl)) (lf (Q := SzQ Tryz.prog) (szQ Tryz.type25 rfl))) (nd (lf (Q := SzQ Tryz.prog) (szQ Tryz.type26 rfl)) (nd (lf (Q := SzQ Tryz.prog) (szQ Tryz.type28 rfl)) (lf (Q := SzQ Tryz.prog) (szQ Tryz.type30 rfl))))) (nd (nd (lf (Q := SzQ Tryz.prog) (szQ Tryz.type31 rfl)) (lf (Q := SzQ Tryz.prog) (szQ Tryz.type33 rfl))) (nd (lf (Q := SzQ Tryz.prog) (szQ Tryz.type34 rfl)) (nd (lf (Q := SzQ Tryz.prog) (szQ Tryz.type35 rfl)) (lf (Q := SzQ Tryz.prog) (szQ Tryz.type37 rfl))))))) (nd (nd (nd (nd (lf (Q := SzQ Tryz.prog) (szQ Tryz.type38 rfl)) (lf (Q := SzQ Tryz.prog) (szQ Tryz.type39 rfl))) (nd (lf (Q := SzQ Tryz.prog) (szQ Tryz.type40 rfl)) (nd (lf (Q := SzQ Tryz.prog) (szQ Tryz.type42 rfl)) (lf (Q := SzQ Tryz.prog) (szQ Tryz.type44 rfl))))) (nd (nd (lf (Q := SzQ Tryz.prog) (szQ Tryz.type47 rfl)) (lf (Q := SzQ Tryz.prog) (szQ Tryz.type48 rfl))) (nd (lf (Q := SzQ Tryz.prog) (szQ Tryz.type53 rfl)) (nd (lf (Q := SzQ Tryz.prog) (szQ Tryz.type56 rfl)) (lf (Q := SzQ Tryz.prog) (szQ Tryz.type57 rfl)))))) (nd (nd (nd (lf (Q := SzQ Tryz.prog) (szQ Tryz.type59 rfl)) (lf (Q := SzQ Tryz.prog) (szQ Tryz.type60 rfl))) (nd (lf (Q := SzQ Tryz.prog) (szQ Tryz.type62 rfl)) (nd (lf (Q := SzQ Tryz.prog) (szQ Tryz.type64 rfl)) (lf (Q := SzQ Tryz.prog) (szQ Tryz.type67 rfl))))) (nd (nd (lf (Q := SzQ Tryz.prog) (szQ Tryz.type69 rfl)) (lf (Q := SzQ Tryz.prog) (szQ Tryz.type70 rfl))) (nd (lf (Q := SzQ Tryz.prog) (szQ Tryz.type72 rfl)) (nd (lf (Q := SzQ Tryz.prog) (szQ Tryz.type74 rfl)) (lf (Q := SzQ Tryz.prog) (szQ Tryz.type75 rfl)))))))) (nd (nd (nd (nd (nd (lf (Q := SzQ Tryz.prog) (szQ Tryz.type77 rfl)) (lf (Q := SzQ Tryz.prog) (szQ Tryz.type91 rfl))) (nd (lf (Q := SzQ Tryz.prog) (szQ Tryz.type93 rfl)) (nd (lf (Q := SzQ Tryz.prog) (szQ Tryz.type94 rfl)) (lf (Q := SzQ Tryz.prog) (szQ Tryz.type100 rfl))))) (nd (nd (lf (Q := SzQ Tryz.prog) (szQ Tryz.type102 rfl)) (lf (Q := SzQ Tryz.prog) (szQ Tryz.type104 rfl))) (nd (lf (Q := SzQ Tryz.prog) (szQ Tryz.type107 rfl)) (nd (lf (Q := SzQ Tryz.prog) (szQ Tryz.type110 rfl)) (lf (Q := SzQ Tryz.prog) (szQ Tryz.type114 rfl)))))) (nd (nd (nd (lf (Q := SzQ Tryz.prog) (szQ Tryz.type122 rfl)) (lf (Q := SzQ Tryz.prog) (szQ Tryz.type124 rfl))) (nd (lf (Q := SzQ Tryz.prog) (szQ Tryz.type128 rfl)) (nd (lf (Q := SzQ Tryz.prog) (szQ Tryz.type130 rfl)) (lf (Q := SzQ Tryz.prog) (szQ Tryz.type132 rfl))))) (nd (nd (lf (Q := SzQ Tryz.prog) (szQ Tryz.type145 rfl)) (lf (Q := SzQ Tryz.prog) (szQ Tryz.type148 rfl))) (nd (lf (Q := SzQ Tryz.prog) (szQ Tryz.type149 rfl)) (nd (lf (Q := SzQ Tryz.prog) (szQ Tryz.type159 rfl)) (lf (Q := SzQ Tryz.prog) (szQ Tryz.type162 rfl))))))) (nd (nd (nd (nd (lf (Q := SzQ Tryz.prog) (szQ Tryz.type164 rfl)) (lf (Q := SzQ Tryz.prog) (szQ Tryz.type165 rfl))) (nd (lf (Q := SzQ Tryz.prog) (szQ Tryz.type171 rfl)) (nd (lf (Q := SzQ Tryz.prog) (szQ Tryz.type177 rfl)) (lf (Q := SzQ Tryz.prog) (szQ Tryz.type180 rfl))))) (nd (nd (lf (Q := SzQ Tryz.prog) (szQ Tryz.type181 rfl)) (lf (Q := SzQ Tryz.prog) (szQ Tryz.type188 rfl))) (nd (lf (Q := SzQ Tryz.prog) (szQ Tryz.type194 rfl)) (nd (lf (Q := SzQ Tryz.prog) (szQ Tryz.type198 rfl)) (lf (Q := SzQ Tryz.prog) (szQ Tryz.type204 rfl)))))) (nd (nd (nd (lf (Q := SzQ Tryz.prog) (szQ Tryz.type205 rfl)) (lf (Q := SzQ Tryz.prog) (szQ Tryz.type210 rfl))) (nd (lf (Q := SzQ Tryz.prog) (szQ Tryz.type211 rfl)) (nd (lf (Q := SzQ Tryz.prog) (szQ Tryz.type216 rfl)) (lf (Q := SzQ Tryz.prog) (szQ Tryz.type223 rfl))))) (nd (nd (lf (Q := SzQ Tryz.prog) (szQ Tryz.type226 rfl)) (nd (lf (Q := SzQ Tryz.prog) (szQ Tryz.type232 rfl)) (lf (Q := SzQ Tryz.prog) (szQ Tryz.type241 rfl)))) (nd (lf (Q := SzQ Tryz.prog) (szQ Tryz.type242 rfl)) (nd (lf (Q := SzQ Tryz.prog) (szQ Tryz.type248 rfl)) (lf (Q := SzQ Tryz.prog) (szQ Tryz.type250 rfl)))))))))

theorem ti1 : TIok Tryz.prog 1 ⟨.sc, 1, 8, [.v .nilFunc]⟩ := okTI_spec szs_ok Tryz.type1 Tryz.underlying1 (by rfl)
theorem ti2 : TIok Tryz.prog 2 ⟨.sc, 1, 8, [.v (.int .i64 0)]⟩ := okTI_spec szs_ok Tryz.type2 Tryz.underlying2 (by rfl)
theorem ti3 : TIok Tryz.prog 3 ⟨.sc, 1, 8, [.v (.int .i64 0)]⟩ := okTI_spec szs_ok Tryz.type3 Tryz.underlying3 (by rfl)
theorem ti4 : TIok Tryz.prog 4 ⟨.bool, 1, 1, [.v (.bool false)]⟩ := okTI_spec szs_ok Tryz.type4 Tryz.underlying4 (by rfl)
theorem ti5 : TIok Tryz.prog 5 ⟨.sc, 1, 1, [.v (.int .u8 0)]⟩ := okTI_spec szs_ok Tryz.type5 Tryz.underlying5 (by rfl)
theorem ti6 : TIok Tryz.prog 6 ⟨.sc, 1, 1, [.v (.int .u8 0)]⟩ := okTI_spec szs_ok Tryz.type6 Tryz.underlying6 (by rfl)
theorem ti9 : TIok Tryz.prog 9 ⟨.str, 1, 16, [.v (.string ⟨#[]⟩)]⟩ := okTI_spec szs_ok Tryz.type9 Tryz.underlying9 (by rfl)
theorem ti20 : TIok Tryz.prog 20 ⟨.sc, 1, 16, [.v .nilIface]⟩ := okTI_spec szs_ok Tryz.type20 Tryz.underlying20 (by rfl)
theorem ti22 : TIok Tryz.prog 22 ⟨.slice 93, 1, 24, [.sl true 4 []]⟩ := okTI_spec szs_ok Tryz.type22 Tryz.underlying22 (by rfl)
theorem ti23 : TIok Tryz.prog 23 ⟨.slice 100, 1, 24, [.sl true 7 []]⟩ := okTI_spec szs_ok Tryz.type23 Tryz.underlying23 (by rfl)
theorem ti25 : TIok Tryz.prog 25 ⟨.struct [(0, 1), (1, 1)], 2, 48, [.sl true 4 [], .sl true 7 []]⟩ := okTI_spec szs_ok Tryz.type25 Tryz.underlying25 (by rfl)
theorem ti26 : TIok Tryz.prog 26 ⟨.slice 3, 1, 24, [.sl true 1 []]⟩ := okTI_spec szs_ok Tryz.type26 Tryz.underlying26 (by rfl)
theorem ti28 : TIok Tryz.prog 28 ⟨.struct [(0, 1), (1, 1)], 2, 48, [.sl true 1 [], .sl true 1 []]⟩ := okTI_spec szs_ok Tryz.type28 Tryz.underlying28 (by rfl)
theorem ti30 : TIok Tryz.prog 30 ⟨.struct [(0, 2), (2, 2)], 4, 96, [.sl true 4 [], .sl true 7 [], .sl true 1 [], .sl true 1 []]⟩ := okTI_spec szs_ok Tryz.type30 Tryz.underlying30 (by rfl)
theorem ti31 : TIok Tryz.prog 31 ⟨.slice 74, 1, 24, [.sl true 3 []]⟩ := okTI_spec szs_ok Tryz.type31 Tryz.underlying31 (by rfl)
theorem ti33 : TIok Tryz.prog 33 ⟨.struct [(0, 1), (1, 1)], 2, 48, [.sl true 1 [], .sl true 3 []]⟩ := okTI_spec szs_ok Tryz.type33 Tryz.underlying33 (by rfl)
theorem ti34 : TIok Tryz.prog 34 ⟨.slice 164, 1, 24, [.sl true 4 []]⟩ := okTI_spec szs_ok Tryz.type34 Tryz.underlying34 (by rfl)
theorem ti35 : TIok Tryz.prog 35 ⟨.slice 188, 1, 24, [.sl true 5 []]⟩ := okTI_spec szs_ok Tryz.type35 Tryz.underlying35 (by rfl)
theorem ti37 : TIok Tryz.prog 37 ⟨.struct [(0, 2), (2, 1), (3, 1), (4, 1)], 5, 104, [.sl true 1 [], .sl true 3 [], .sl true 4 [], .v (.int .i64 0), .sl true 5 []]⟩ := okTI_spec szs_ok Tryz.type37 Tryz.underlying37 (by rfl)
theorem ti38 : TIok Tryz.prog 38 ⟨.struct [(0, 1), (1, 1)], 2, 48, [.sl true 1 [], .sl true 1 []]⟩ := okTI_spec szs_ok Tryz.type38 Tryz.underlying38 (by rfl)
theorem ti39 : TIok Tryz.prog 39 ⟨.struct [(0, 1), (1, 1)], 2, 48, [.sl true 1 [], .sl true 1 []]⟩ := okTI_spec szs_ok Tryz.type39 Tryz.underlying39 (by rfl)
theorem ti40 : TIok Tryz.prog 40 ⟨.slice 42, 1, 24, [.sl true 9 []]⟩ := okTI_spec szs_ok Tryz.type40 Tryz.underlying40 (by rfl)
theorem ti42 : TIok Tryz.prog 42 ⟨.struct [(0, 1), (1, 1), (2, 2), (4, 5)], 9, 184, [.v (.int .i64 0), .sl true 9 [], .sl true 1 [], .sl true 1 [], .sl true 1 [], .sl true 3 [], .sl true 4 [], .v (.int .i64 0), .sl true 5 []]⟩ := okTI_spec szs_ok Tryz.type42 Tryz.underlying42 (by rfl)
theorem ti44 : TIok Tryz.prog 44 ⟨.struct [(0, 1), (1, 5), (6, 5), (11, 2), (13, 2), (15, 1), (16, 9)], 25, 512, [.v (.string ⟨#[]⟩), .sl true 1 [], .sl true 3 [], .sl true 4 [], .v (.int .i64 0), .sl true 5 [], .sl true 1 [], .sl true 3 [], .sl true 4 [], .v (.int .i64 0), .sl true 5 [], .sl true 1 [], .sl true 1 [], .sl true 1 [], .sl true 1 [], .v (.bool false), .v (.int .i64 0), .sl true 9 [], .sl true 1 [], .sl true 1 [], .sl true 1 [], .sl true 3 [], .sl true 4 [], .v (.int .i64 0), .sl true 5 []]⟩ := okTI_spec szs_ok Tryz.type44 Tryz.underlying44 (by rfl)
theorem ti47 : TIok Tryz.prog 47 ⟨.sc, 1, 8, [.v (.int .i64 0)]⟩ := okTI_spec szs_ok Tryz.type47 Tryz.underlying47 (by rfl)
theorem ti56 : TIok Tryz.prog 56 ⟨.slice 148, 1, 24, [.sl true 2 []]⟩ := okTI_spec szs_ok Tryz.type56 Tryz.underlying56 (by rfl)
theorem ti57 : TIok Tryz.prog 57 ⟨.slice 107, 1, 24, [.sl true 3 []]⟩ := okTI_spec szs_ok Tryz.type57 Tryz.underlying57 (by rfl)
theorem ti59 : TIok Tryz.prog 59 ⟨.struct [(0, 1), (1, 1)], 2, 48, [.sl true 2 [], .sl true 3 []]⟩ := okTI_spec szs_ok Tryz.type59 Tryz.underlying59 (by rfl)
theorem ti60 : TIok Tryz.prog 60 ⟨.slice 5, 1, 24, [.sl true 1 []]⟩ := okTI_spec szs_ok Tryz.type60 Tryz.underlying60 (by rfl)
theorem ti62 : TIok Tryz.prog 62 ⟨.struct [(0, 2), (2, 1), (3, 1)], 4, 96, [.sl true 2 [], .sl true 3 [], .sl true 1 [], .sl true 3 []]⟩ := okTI_spec szs_ok Tryz.type62 Tryz.underlying62 (by rfl)
theorem ti69 : TIok Tryz.prog 69 ⟨.sc, 1, 8, [.v .nilFunc]⟩ := okTI_spec szs_ok Tryz.type69 Tryz.underlying69 (by rfl)
theorem ti70 : TIok Tryz.prog 70 ⟨.sc, 1, 8, [.v .nilFunc]⟩ := okTI_spec szs_ok Tryz.type70 Tryz.underlying70 (by rfl)
theorem ti72 : TIok Tryz.prog 72 ⟨.sc, 1, 8, [.v .nilFunc]⟩ := okTI_spec szs_ok Tryz.type72 Tryz.underlying72 (by rfl)
theorem ti74 : TIok Tryz.prog 74 ⟨.struct [(0, 1), (1, 1), (2, 1)], 3, 24, [.v (.int .i64 0), .v (.int .i64 0), .v (.int .i64 0)]⟩ := okTI_spec szs_ok Tryz.type74 Tryz.underlying74 (by rfl)
theorem ti77 : TIok Tryz.prog 77 ⟨.slice 44, 1, 24, [.sl true 25 []]⟩ := okTI_spec szs_ok Tryz.type77 Tryz.underlying77 (by rfl)
theorem ti91 : TIok Tryz.prog 91 ⟨.slice 124, 1, 24, [.sl true 4 []]⟩ := okTI_spec szs_ok Tryz.type91 Tryz.underlying91 (by rfl)
theorem ti93 : TIok Tryz.prog 93 ⟨.struct [(0, 1), (1, 1), (2, 1), (3, 1)], 4, 56, [.v (.string ⟨#[]⟩), .v (.int .i64 0), .v (.bool false), .sl true 4 []]⟩ := okTI_spec szs_ok Tryz.type93 Tryz.underlying93 (by rfl)
theorem ti94 : TIok Tryz.prog 94 ⟨.sc, 1, 8, [.v .nilFunc]⟩ := okTI_spec szs_ok Tryz.type94 Tryz.underlying94 (by rfl)
theorem ti100 : TIok Tryz.prog 100 ⟨.struct [(0, 1), (1, 1), (2, 1), (3, 1), (4, 1), (5, 1), (6, 1)], 7, 64, [.v (.string ⟨#[]⟩), .v (.int .i64 0), .v (.int .i64 0), .v (.int .i64 0), .v (.int .i64 0), .v (.int .i64 0), .v (.int .i64 0)]⟩ := okTI_spec szs_ok Tryz.type100 Tryz.underlying100 (by rfl)
theorem ti102 : TIok Tryz.prog 102 ⟨.slice 26, 1, 24, [.sl true 1 []]⟩ := okTI_spec szs_ok Tryz.type102 Tryz.underlying102 (by rfl)
theorem ti104 : TIok Tryz.prog 104 ⟨.struct [(0, 2), (2, 1)], 3, 72, [.sl true 1 [], .sl true 3 [], .sl true 1 []]⟩ := okTI_spec szs_ok Tryz.type104 Tryz.underlying104 (by rfl)
theorem ti107 : TIok Tryz.prog 107 ⟨.array 3 5, 3, 3, [.v (.int .u8 0), .v (.int .u8 0), .v (.int .u8 0)]⟩ := okTI_spec szs_ok Tryz.type107 Tryz.underlying107 (by rfl)
theorem ti122 : TIok Tryz.prog 122 ⟨.slice 9, 1, 24, [.sl true 1 []]⟩ := okTI_spec szs_ok Tryz.type122 Tryz.underlying122 (by rfl)
theorem ti124 : TIok Tryz.prog 124 ⟨.struct [(0, 1), (1, 1), (2, 1), (3, 1)], 4, 56, [.v (.string ⟨#[]⟩), .v (.int .i64 0), .v (.int .i64 0), .sl true 1 []]⟩ := okTI_spec szs_ok Tryz.type124 Tryz.underlying124 (by rfl)
theorem ti128 : TIok Tryz.prog 128 ⟨.sc, 1, 8, [.v .nilFunc]⟩ := okTI_spec szs_ok Tryz.type128 Tryz.underlying128 (by rfl)
theorem ti130 : TIok Tryz.prog 130 ⟨.struct [(0, 2), (2, 1), (3, 1)], 4, 96, [.sl true 1 [], .sl true 3 [], .sl true 1 [], .sl true 1 []]⟩ := okTI_spec szs_ok Tryz.type130 Tryz.underlying130 (by rfl)
theorem ti132 : TIok Tryz.prog 132 ⟨.sc, 1, 8, [.v .nilFunc]⟩ := okTI_spec szs_ok Tryz.type132 Tryz.underlying132 (by rfl)
theorem ti148 : TIok Tryz.prog 148 ⟨.array 2 5, 2, 2, [.v (.int .u8 0), .v (.int .u8 0)]⟩ := okTI_spec szs_ok Tryz.type148 Tryz.underlying148 (by rfl)
theorem ti159 : TIok Tryz.prog 159 ⟨.struct [(0, 1), (1, 1), (2, 1)], 3, 32, [.v (.int .i64 0), .v (.string ⟨#[]⟩), .v (.int .i64 0)]⟩ := okTI_spec szs_ok Tryz.type159 Tryz.underlying159 (by rfl)
theorem ti162 : TIok Tryz.prog 162 ⟨.struct [(0, 1), (1, 1)], 2, 16, [.v (.int .i64 0), .v (.int .i64 0)]⟩ := okTI_spec szs_ok Tryz.type162 Tryz.underlying162 (by rfl)
theorem ti164 : TIok Tryz.prog 164 ⟨.struct [(0, 1), (1, 1), (2, 2)], 4, 32, [.v (.int .i64 0), .v (.int .i64 0), .v (.int .i64 0), .v (.int .i64 0)]⟩ := okTI_spec szs_ok Tryz.type164 Tryz.underlying164 (by rfl)
theorem ti180 : TIok Tryz.prog 180 ⟨.sc, 1, 8, [.v .nilFunc]⟩ := okTI_spec szs_ok Tryz.type180 Tryz.underlying180 (by rfl)
theorem ti181 : TIok Tryz.prog 181 ⟨.slice 4, 1, 24, [.sl true 1 []]⟩ := okTI_spec szs_ok Tryz.type181 Tryz.underlying181 (by rfl)
theorem ti188 : TIok Tryz.prog 188 ⟨.struct [(0, 1), (1, 2), (3, 2)], 5, 40, [.v (.int .i64 0), .v (.int .i64 0), .v (.int .i64 0), .v (.int .i64 0), .v (.int .i64 0)]⟩ := okTI_spec szs_ok Tryz.type188 Tryz.underlying188 (by rfl)
theorem ti204 : TIok Tryz.prog 204 ⟨.sc, 1, 8, [.v .nilFunc]⟩ := okTI_spec szs_ok Tryz.type204 Tryz.underlying204 (by rfl)
theorem ti210 : TIok Tryz.prog 210 ⟨.sc, 1, 8, [.v .nilFunc]⟩ := okTI_spec szs_ok Tryz.type210 Tryz.underlying210 (by rfl)
theorem ti216 : TIok Tryz.prog 216 ⟨.sc, 1, 8, [.v .nilFunc]⟩ := okTI_spec szs_ok Tryz.type216 Tryz.underlying216 (by rfl)
theorem ti223 : TIok Tryz.prog 223 ⟨.sc, 1, 8, [.v .nilFunc]⟩ := okTI_spec szs_ok Tryz.type223 Tryz.underlying223 (by rfl)
theorem ti232 : TIok Tryz.prog 232 ⟨.sc, 1, 8, [.v (.int .u64 0)]⟩ := okTI_spec szs_ok Tryz.type232 Tryz.underlying232 (by rfl)
theorem ti241 : TIok Tryz.prog 241 ⟨.sc, 1, 8, [.v (.int .i64 0)]⟩ := okTI_spec szs_ok Tryz.type241 Tryz.underlying241 (by rfl)
theorem ti248 : TIok Tryz.prog 248 ⟨.sc, 1, 4, [.v (.int .u32 0)]⟩ := okTI_spec szs_ok Tryz.type248 Tryz.underlying248 (by rfl)
theorem ti250 : TIok Tryz.prog 250 ⟨.sc, 1, 8, [.v (.int .u64 0)]⟩ := okTI_spec szs_ok Tryz.type250 Tryz.underlying250 (by rfl)
def Tz (t : Nat) : Option TI := (if t ≤ 69 then (if t ≤ 31 then (if t ≤ 9 then (if t ≤ 3 then (if t ≤ 1 then (if t = 1 then some ⟨.sc, 1, 8, [.v .nilFunc]⟩ else none) else (if t ≤ 2 then (if t = 2 then some ⟨.sc, 1, 8, [.v (.int .i64 0)]⟩ else none) else (if t = 3 then some ⟨.sc, 1, 8, [.v (.int .i64 0)]⟩ else none))) else (if t ≤ 5 then (if t ≤ 4 then (if t = 4 then some ⟨.bool, 1, 1, [.v (.bool false)]⟩ else none) else (if t = 5 then some ⟨.sc, 1, 1, [.v (.int .u8 0)]⟩ else none)) else (if t ≤ 6 then (if t = 6 then some ⟨.sc, 1, 1, [.v (.int .u8 0)]⟩ else none) else (if t = 9 then some ⟨.str, 1, 16, [.v (.string ⟨#[]⟩)]⟩ else none)))) else (if t ≤ 25 then (if t ≤ 22 then (if t ≤ 20 then (if t = 20 then some ⟨.sc, 1, 16, [.v .nilIface]⟩ else none) else (if t = 22 then some ⟨.slice 93, 1, 24, [.sl true 4 []]⟩ else none)) else (if t ≤ 23 then (if t = 23 then some ⟨.slice 100, 1, 24, [.sl true 7 []]⟩ else none) else (if t = 25 then some ⟨.struct [(0, 1), (1, 1)], 2, 48, [.sl true 4 [], .sl true 7 []]⟩ else none))) else (if t ≤ 28 then (if t ≤ 26 then (if t = 26 then some ⟨.slice 3, 1, 24, [.sl true 1 []]⟩ else none) else (if t = 28 then some ⟨.struct [(0, 1), (1, 1)], 2, 48, [.sl true 1 [], .sl true 1 []]⟩ else none)) else (if t ≤ 30 then (if t = 30 then some ⟨.struct [(0, 2), (2, 2)], 4, 96, [.sl true 4 [], .sl true 7 [], .sl true 1 [], .sl true 1 []]⟩ else none) else (if t = 31 then some ⟨.slice 74, 1, 24, [.sl true 3 []]⟩ else none))))) else (if t ≤ 42 then (if t ≤ 37 then (if t ≤ 34 then (if t ≤ 33 then (if t = 33 then some ⟨.struct [(0, 1), (1, 1)], 2, 48, [.sl true 1 [], .sl true 3 []]⟩ else none) else (if t = 34 then some ⟨.slice 164, 1, 24, [.sl true 4 []]⟩ else none)) else (if t ≤ 35 then (if t = 35 then some ⟨.slice 188, 1, 24, [.sl true 5 []]⟩ else none) else (if t = 37 then some ⟨.struct [(0, 2), (2, 1), (3, 1), (4, 1)], 5, 104, [.sl true 1 [], .sl true 3 [], .sl true 4 [], .v (.int .i64 0), .sl true 5 []]⟩ else none))) else (if t ≤ 39 then (if t ≤ 38 then (if t = 38 then some ⟨.struct [(0, 1), (1, 1)], 2, 48, [.sl true 1 [], .sl true 1 []]⟩ else none) else (if t = 39 then some ⟨.struct [(0, 1), (1, 1)], 2, 48, [.sl true 1 [], .sl true 1 []]⟩ else none)) else (if t ≤ 40 then (if t = 40 then some ⟨.slice 42, 1, 24, [.sl true 9 []]⟩ else none) else (if t = 42 then some ⟨.struct [(0, 1), (1, 1), (2, 2), (4, 5)], 9, 184, [.v (.int .i64 0), .sl true 9 [], .sl true 1 [], .sl true 1 [], .sl true 1 [], .sl true 3 [], .sl true 4 [], .v (.int .i64 0), .sl true 5 []]⟩ else none)))) else (if t ≤ 57 then (if t ≤ 47 then (if t ≤ 44 then (if t = 44 then some ⟨.struct [(0, 1), (1, 5), (6, 5), (11, 2), (13, 2), (15, 1), (16, 9)], 25, 512, [.v (.string ⟨#[]⟩), .sl true 1 [], .sl true 3 [], .sl true 4 [], .v (.int .i64 0), .sl true 5 [], .sl true 1 [], .sl true 3 [], .sl true 4 [], .v (.int .i64 0), .sl true 5 [], .sl true 1 [], .sl true 1 [], .sl true 1 [], .sl true 1 [], .v (.bool false), .v (.int .i64 0), .sl true 9 [], .sl true 1 [], .sl true 1 [], .sl true 1 [], .sl true 3 [], .sl true 4 [], .v (.int .i64 0), .sl true 5 []]⟩ else none) else (if t = 47 then some ⟨.sc, 1, 8, [.v (.int .i64 0)]⟩ else none)) else (if t ≤ 56 then (if t = 56 then some ⟨.slice 148, 1, 24, [.sl true 2 []]⟩ else none) else (if t = 57 then some ⟨.slice 107, 1, 24, [.sl true 3 []]⟩ else none))) else (if t ≤ 60 then (if t ≤ 59 then (if t = 59 then some ⟨.struct [(0, 1), (1, 1)], 2, 48, [.sl true 2 [], .sl true 3 []]⟩ else none) else (if t = 60 then some ⟨.slice 5, 1, 24, [.sl true 1 []]⟩ else none)) else (if t ≤ 62 then (if t = 62 then some ⟨.struct [(0, 2), (2, 1), (3, 1)], 4, 96, [.sl true 2 [], .sl true 3 [], .sl true 1 [], .sl true 3 []]⟩ else none) else (if t = 69 then some ⟨.sc, 1, 8, [.v .nilFunc]⟩ else none)))))) else (if t ≤ 130 then (if t ≤ 94 then (if t ≤ 74 then (if t ≤ 70 then (if t = 70 then some ⟨.sc, 1, 8, [.v .nilFunc]⟩ else none) else (if t ≤ 72 then (if t = 72 then some ⟨.sc, 1, 8, [.v .nilFunc]⟩ else none) else (if t = 74 then some ⟨.struct [(0, 1), (1, 1), (2, 1)], 3, 24, [.v (.int .i64 0), .v (.int .i64 0), .v (.int .i64 0)]⟩ else none))) else (if t ≤ 91 then (if t ≤ 77 then (if t = 77 then some ⟨.slice 44, 1, 24, [.sl true 25 []]⟩ else none) else (if t = 91 then some ⟨.slice 124, 1, 24, [.sl true 4 []]⟩ else none)) else (if t ≤ 93 then (if t = 93 then some ⟨.struct [(0, 1), (1, 1), (2, 1), (3, 1)], 4, 56, [.v (.string ⟨#[]⟩), .v (.int .i64 0), .v (.bool false), .sl true 4 []]⟩ else none) else (if t = 94 then some ⟨.sc, 1, 8, [.v .nilFunc]⟩ else none)))) else (if t ≤ 107 then (if t ≤ 102 then (if t ≤ 100 then (if t = 100 then some ⟨.struct [(0, 1), (1, 1), (2, 1), (3, 1), (4, 1), (5, 1), (6, 1)], 7, 64, [.v (.string ⟨#[]⟩), .v (.int .i64 0), .v (.int .i64 0), .v (.int .i64 0), .v (.int .i64 0), .v (.int .i64 0), .v (.int .i64 0)]⟩ else none) else (if t = 102 then some ⟨.slice 26, 1, 24, [.sl true 1 []]⟩ else none)) else (if t ≤ 104 then (if t = 104 then some ⟨.struct [(0, 2), (2, 1)], 3, 72, [.sl true 1 [], .sl true 3 [], .sl true 1 []]⟩ else none) else (if t = 107 then some ⟨.array 3 5, 3, 3, [.v (.int .u8 0), .v (.int .u8 0), .v (.int .u8 0)]⟩ else none))) else (if t ≤ 124 then (if t ≤ 122 then (if t = 122 then some ⟨.slice 9, 1, 24, [.sl true 1 []]⟩ else none) else (if t = 124 then some ⟨.struct [(0, 1), (1, 1), (2, 1), (3, 1)], 4, 56, [.v (.string ⟨#[]⟩), .v (.int .i64 0), .v (.int .i64 0), .sl true 1 []]⟩ else none)) else (if t ≤ 128 then (if t = 128 then some ⟨.sc, 1, 8, [.v .nilFunc]⟩ else none) else (if t = 130 then some ⟨.struct [(0, 2), (2, 1), (3, 1)], 4, 96, [.sl true 1 [], .sl true 3 [], .sl true 1 [], .sl true 1 []]⟩ else none))))) else (if t ≤ 188 then (if t ≤ 162 then (if t ≤ 148 then (if t ≤ 132 then (if t = 132 then some ⟨.sc, 1, 8, [.v .nilFunc]⟩ else none) else (if t = 148 then some ⟨.array 2 5, 2, 2, [.v (.int .u8 0), .v (.int .u8 0)]⟩ else none)) else (if t ≤ 159 then (if t = 159 then some ⟨.struct [(0, 1), (1, 1), (2, 1)], 3, 32, [.v (.int .i64 0), .v (.string ⟨#[]⟩), .v (.int .i64 0)]⟩ else none) else (if t = 162 then some ⟨.struct [(0, 1), (1, 1)], 2, 16, [.v (.int .i64 0), .v (.int .i64 0)]⟩ else none))) else (if t ≤ 180 then (if t ≤ 164 then (if t = 164 then some ⟨.struct [(0, 1), (1, 1), (2, 2)], 4, 32, [.v (.int .i64 0), .v (.int .i64 0), .v (.int .i64 0), .v (.int .i64 0)]⟩ else none) else (if t = 180 then some ⟨.sc, 1, 8, [.v .nilFunc]⟩ else none)) else (if t ≤ 181 then (if t = 181 then some ⟨.slice 4, 1, 24, [.sl true 1 []]⟩ else none) else (if t = 188 then some ⟨.struct [(0, 1), (1, 2), (3, 2)], 5, 40, [.v (.int .i64 0), .v (.int .i64 0), .v (.int .i64 0), .v (.int .i64 0), .v (.int .i64 0)]⟩ else none)))) else (if t ≤ 223 then (if t ≤ 210 then (if t ≤ 204 then (if t = 204 then some ⟨.sc, 1, 8, [.v .nilFunc]⟩ else none) else (if t = 210 then some ⟨.sc, 1, 8, [.v .nilFunc]⟩ else none)) else (if t ≤ 216 then (if t = 216 then some ⟨.sc, 1, 8, [.v .nilFunc]⟩ else none) else (if t = 223 then some ⟨.sc, 1, 8, [.v .nilFunc]⟩ else none))) else (if t ≤ 241 then (if t ≤ 232 then (if t = 232 then some ⟨.sc, 1, 8, [.v (.int .u64 0)]⟩ else none) else (if t = 241 then some ⟨.sc, 1, 8, [.v (.int .i64 0)]⟩ else none)) else (if t ≤ 248 then (if t = 248 then some ⟨.sc, 1, 4, [.v (.int .u32 0)]⟩ else none) else (if t = 250 then some ⟨.sc, 1, 8, [.v (.int .u64 0)]⟩ else none)))))))
theorem Tz_ok : TabOk Tryz.prog Tz := fun t => (nd (nd (nd (nd (nd (lf (Q := TIok Tryz.prog) ti1) (nd (lf (Q := TIok Tryz.prog) ti2) (lf (Q := TIok Tryz.prog) ti3))) (nd (nd (lf (Q := TIok Tryz.prog) ti4) (lf (Q := TIok Tryz.prog) ti5)) (nd (lf (Q := TIok Tryz.prog) ti6) (lf (Q := TIok Tryz.prog) ti9)))) (nd (nd (nd (lf (Q := TIok Tryz.prog) ti20) (lf (Q := TIok Tryz.prog) ti22)) (nd (lf (Q := TIok Tryz.prog) ti23) (lf (Q := TIok Tryz.prog) ti25))) (nd (nd (lf (Q := TIok Tryz.prog) ti26) (lf (Q := TIok Tryz.prog) ti28)) (nd (lf (Q := TIok Tryz.prog) ti30) (lf (Q := TIok Tryz.prog) ti31))))) (nd (nd (nd (nd (lf (Q := TIok Tryz.prog) ti33) (lf (Q := TIok Tryz.prog) ti34)) (nd (lf (Q := TIok Tryz.prog) ti35) (lf (Q := TIok Tryz.prog) ti37))) (nd (nd (lf (Q := TIok Tryz.prog) ti38) (lf (Q := TIok Tryz.prog) ti39)) (nd (lf (Q := TIok Tryz.prog) ti40) (lf (Q := TIok Tryz.prog) ti42)))) (nd (nd (nd (lf (Q := TIok Tryz.prog) ti44) (lf (Q := TIok Tryz.prog) ti47)) (nd (lf (Q := TIok Tryz.prog) ti56) (lf (Q := TIok Tryz.prog) ti57))) (nd (nd (lf (Q := TIok Tryz.prog) ti59) (lf (Q := TIok Tryz.prog) ti60)) (nd (lf (Q := TIok Tryz.prog) ti62) (lf (Q := TIok Tryz.prog) ti69)))))) (nd (nd (nd (nd (lf (Q := TIok Tryz.prog) ti70) (nd (lf (Q := TIok Tryz.prog) ti72) (lf (Q := TIok Tryz.prog) ti74))) (nd (nd (lf (Q := TIok Tryz.prog) ti77) (lf (Q := TIok Tryz.prog) ti91)) (nd (lf (Q := TIok Tryz.prog) ti93) (lf (Q := TIok Tryz.prog) ti94)))) (nd (nd (nd (lf (Q := TIok Tryz.prog) ti100) (lf (Q := TIok Tryz.prog) ti102)) (nd (lf (Q := TIok Tryz.prog) ti104) (lf (Q := TIok Tryz.prog) ti107))) (nd (nd (lf (Q := TIok Tryz.prog) ti122) (lf (Q := TIok Tryz.prog) ti124)) (nd (lf (Q := TIok Tryz.prog) ti128) (lf (Q := TIok Tryz.prog) ti130))))) (nd (nd (nd (nd (lf (Q := TIok Tryz.prog) ti132) (lf (Q := TIok Tryz.prog) ti148)) (nd (lf (Q := TIok Tryz.prog) ti159) (lf (Q := TIok Tryz.prog) ti162))) (nd (nd (lf (Q := TIok Tryz.prog) ti164) (lf (Q := TIok Tryz.prog) ti180)) (nd (lf (Q := TIok Tryz.prog) ti181) (lf (Q := TIok Tryz.prog) ti188)))) (nd (nd (nd (lf (Q := TIok Tryz.prog) ti204) (lf (Q := TIok Tryz.prog) ti210)) (nd (lf (Q := TIok Tryz.prog) ti216) (lf (Q := TIok Tryz.prog) ti223))) (nd (nd (lf (Q := TIok Tryz.prog) ti232) (lf (Q := TIok Tryz.prog) ti241)) (nd (lf (Q := TIok Tryz.prog) ti248) (lf (Q := TIok Tryz.prog) ti250)))))))

noncomputable def Fz (t : Nat) : Option Func := (if t ≤ 132 then (if t ≤ 66 then (if t ≤ 34 then (if t ≤ 18 then (if t ≤ 10 then (if t ≤ 6 then (if t ≤ 4 then (if t ≤ 3 then (if t = 3 then some Tryz.f3 else none) else (if t = 4 then some Tryz.f4 else none)) else (if t ≤ 5 then (if t = 5 then some Tryz.f5 else none) else (if t = 6 then some Tryz.f6 else none))) else (if t ≤ 8 then (if t ≤ 7 then (if t = 7 then some Tryz.f7 else none) else (if t = 8 then some Tryz.f8 else none)) else (if t ≤ 9 then (if t = 9 then some Tryz.f9 else none) else (if t = 10 then some Tryz.f10 else none)))) else (if t ≤ 14 then (if t ≤ 12 then (if t ≤ 11 then (if t = 11 then some Tryz.f11 else none) else (if t = 12 then some Tryz.f12 else none)) else (if t ≤ 13 then (if t = 13 then some Tryz.f13 else none) else (if t = 14 then some Tryz.f14 else none))) else (if t ≤ 16 then (if t ≤ 15 then (if t = 15 then some Tryz.f15 else none) else (if t = 16 then some Tryz.f16 else none)) else (if t ≤ 17 then (if t = 17 then some Tryz.f17 else none) else (if t = 18 then some Tryz.f18 else none))))) else (if t ≤ 26 then (if t ≤ 22 then (if t ≤ 20 then (if t ≤ 19 then (if t = 19 then some Tryz.f19 else none) else (if t = 20 then some Tryz.f20 else none)) else (if t ≤ 21 then (if t = 21 then some Tryz.f21 else none) else (if t = 22 then some Tryz.f22 else none))) else (if t ≤ 24 then (if t ≤ 23 then (if t = 23 then some Tryz.f23 else none) else (if t = 24 then some Tryz.f24 else none)) else (if t ≤ 25 then (if t = 25 then some Tryz.f25 else none) else (if t = 26 then some Tryz.f26 else none)))) else (if t ≤ 30 then (if t ≤ 28 then (if t ≤ 27 then (if t = 27 then some Tryz.f27 else none) else (if t = 28 then some Tryz.f28 else none)) else (if t ≤ 29 then (if t = 29 then some Tryz.f29 else none) else (if t = 30 then some Tryz.f30 else none))) else (if t ≤ 32 then (if t ≤ 31 then (if t = 31 then some Tryz.f31 else none) else (if t = 32 then some Tryz.f32 else none)) else (if t ≤ 33 then (if t = 33 then some Tryz.f33 else none) else (if t = 34 then some Tryz.f34 else none)))))) else (if t ≤ 50 then (if t ≤ 42 then (if t ≤ 38 then (if t ≤ 36 then (if t ≤ 35 then (if t = 35 then some Tryz.f35 else none) else (if t = 36 then some Tryz.f36 else none)) else (if t ≤ 37 then (if t = 37 then some Tryz.f37 else none) else (if t = 38 then some Tryz.f38 else none))) else (if t ≤ 40 then (if t ≤ 39 then (if t = 39 then some Tryz.f39 else none) else (if t = 40 then some Tryz.f40 else none)) else (if t ≤ 41 then (if t = 41 then some Tryz.f41 else none) else (if t = 42 then some Tryz.f42 else none)))) else (if t ≤ 46 then (if t ≤ 44 then (if t ≤ 43 then (if t = 43 then some Tryz.f43 else none) else (if t = 44 then some Tryz.f44 else none)) else (if t ≤ 45 then (if t = 45 then some Tryz.f45 else none) else (if t = 46 then some Tryz.f46 else none))) else (if t ≤ 48 then (if t ≤ 47 then (if t = 47 then some Tryz.f47 else none) else (if t = 48 then some Tryz.f48 else none)) else (if t ≤ 49 then (if t = 49 then some Tryz.f49 else none) else (if t = 50 then some Tryz.f50 else none))))) else (if t ≤ 58 then (if t ≤ 54 then (if t ≤ 52 then (if t ≤ 51 then (if t = 51 then some Tryz.f51 else none) else (if t = 52 then some Tryz.f52 else none)) else (if t ≤ 53 then (if t = 53 then some Tryz.f53 else none) else (if t = 54 then some Tryz.f54 else none))) else (if t ≤ 56 then (if t ≤ 55 then (if t = 55 then some Tryz.f55 else none) else (if t = 56 then some Tryz.f56 else none)) else (if t ≤ 57 then (if t = 57 then some Tryz.f57 else none) else (if t = 58 then some Tryz.f58 else none)))) else (if t ≤ 62 then (if t ≤ 60 then (if t ≤ 59 then (if t = 59 then some Tryz.f59 else none) else (if t = 60 then some Tryz.f60 else none)) else (if t ≤ 61 then (if t = 61 then some Tryz.f61 else none) else (if t = 62 then some Tryz.f62 else none))) else (if t ≤ 64 then (if t ≤ 63 then (if t = 63 then some Tryz.f63 else none) else (if t = 64 then some Tryz.f64 else none)) else (if t ≤ 65 then (if t = 65 then some Tryz.f65 else none) else (if t = 66 then some Tryz.f66 else none))))))) else (if t ≤ 98 then (if t ≤ 82 then (if t ≤ 74 then (if t ≤ 70 then (if t ≤ 68 then (if t ≤ 67 then (if t = 67 then some Tryz.f67 else none) else (if t = 68 then some Tryz.f68 else none)) else (if t ≤ 69 then (if t = 69 then some Tryz.f69 else none) else (if t = 70 then some Tryz.f70 else none))) else (if t ≤ 72 then (if t ≤ 71 then (if t = 71 then some Tryz.f71 else none) else (if t = 72 then some Tryz.f72 else none)) else (if t ≤ 73 then (if t = 73 then some Tryz.f73 else none) else (if t = 74 then some Tryz.f74 else none)))) else (if t ≤ 78 then (if t ≤ 76 then (if t ≤ 75 then (if t = 75 then some Tryz.f75 else none) else (if t = 76 then some Tryz.f76 else none)) else (if t ≤ 77 then (if t = 77 then some Tryz.f77 else none) else (if t = 78 then some Tryz.f78 else none))) else (if t ≤ 80 then (if t ≤ 79 then (if t = 79 then some Tryz.f79 else none) else (if t = 80 then some Tryz.f80 else none)) else (if t ≤ 81 then (if t = 81 then some Tryz.f81 else none) else (if t = 82 then some Tryz.f82 else none))))) else (if t ≤ 90 then (if t ≤ 86 then (if t ≤ 84 then (if t ≤ 83 then (if t = 83 then some Tryz.f83 else none) else (if t = 84 then some Tryz.f84 else none)) else (if t ≤ 85 then (if t = 85 then some Tryz.f85 else none) else (if t = 86 then some Tryz.f86 else none))) else (if t ≤ 88 then (if t ≤ 87 then (if t = 87 then some Tryz.f87 else none) else (if t = 88 then some Tryz.f88 else none)) else (if t ≤ 89 then (if t = 89 then some Tryz.f89 else none) else (if t = 90 then some Tryz.f90 else none)))) else (if t ≤ 94 then (if t ≤ 92 then (if t ≤ 91 then (if t = 91 then some Tryz.f91 else none) else (if t = 92 then some Tryz.f92 else none)) else (if t ≤ 93 then (if t = 93 then some Tryz.f93 else none) else (if t = 94 then some Tryz.f94 else none))) else (if t ≤ 96 then (if t ≤ 95 then (if t = 95 then some Tryz.f95 else none) else (if t = 96 then some Tryz.f96 else none)) else (if t ≤ 97 then (if t = 97 then some Tryz.f97 else none) else (if t = 98 then some Tryz.f98 else none)))))) else (if t ≤ 116 then (if t ≤ 106 then (if t ≤ 102 then (if t ≤ 100 then (if t ≤ 99 then (if t = 99 then some Tryz.f99 else none) else (if t = 100 then some Tryz.f100 else none)) else (if t ≤ 101 then (if t = 101 then some Tryz.f101 else none) else (if t = 102 then some Tryz.f102 else none))) else (if t ≤ 104 then (if t ≤ 103 then (if t = 103 then some Tryz.f103 else none) else (if t = 104 then some Tryz.f104 else none)) else (if t ≤ 105 then (if t = 105 then some Tryz.f105 else none) else (if t = 106 then some Tryz.f106 else none)))) else (if t ≤ 110 then (if t ≤ 108 then (if t ≤ 107 then (if t = 107 then some Tryz.f107 else none) else (if t = 108 then some Tryz.f108 else none)) else (if t ≤ 109 then (if t = 109 then some Tryz.f109 else none) else (if t = 110 then some Tryz.f110 else none))) else (if t ≤ 114 then (if t ≤ 111 then (if t = 111 then some Tryz.f111 else none) else (if t = 114 then some Tryz.f114 else none)) else (if t ≤ 115 then (if t = 115 then some Tryz.f115 else none) else (if t = 116 then some Tryz.f116 else none))))) else (if t ≤ 124 then (if t ≤ 120 then (if t ≤ 118 then (if t ≤ 117 then (if t = 117 then some Tryz.f117 else none) else (if t = 118 then some Tryz.f118 else none)) else (if t ≤ 119 then (if t = 119 then some Tryz.f119 else none) else (if t = 120 then some Tryz.f120 else none))) else (if t ≤ 122 then (if t ≤ 121 then (if t = 121 then some Tryz.f121 else none) else (if t = 122 then some Tryz.f122 else none)) else (if t ≤ 123 then (if t = 123 then some Tryz.f123 else none) else (if t = 124 then some Tryz.f124 else none)))) else (if t ≤ 128 then (if t ≤ 126 then (if t ≤ 125 then (if t = 125 then some Tryz.f125 else none) else (if t = 126 then some Tryz.f126 else none)) else (if t ≤ 127 then (if t = 127 then some Tryz.f127 else none) else (if t = 128 then some Tryz.f128 else none))) else (if t ≤ 130 then (if t ≤ 129 then (if t = 129 then some Tryz.f129 else none) else (if t = 130 then some Tryz.f130 else none)) else (if t ≤ 131 then (if t = 131 then some Tryz.f131 else none) else (if t = 132 then some Tryz.f132 else none)))))))) else (if t ≤ 196 then (if t ≤ 164 then (if t ≤ 148 then (if t ≤ 140 then (if t ≤ 136 then (if t ≤ 134 then (if t ≤ 133 then (if t = 133 then some Tryz.f133 else none) else (if t = 134 then some Tryz.f134 else none)) else (if t ≤ 135 then (if t = 135 then some Tryz.f135 else none) else (if t = 136 then some Tryz.f136 else none))) else (if t ≤ 138 then (if t ≤ 137 then (if t = 137 then some Tryz.f137 else none) else (if t = 138 then some Tryz.f138 else none)) else (if t ≤ 139 then (if t = 139 then some Tryz.f139 else none) else (if t = 140 then some Tryz.f140 else none)))) else (if t ≤ 144 then (if t ≤ 142 then (if t ≤ 141 then (if t = 141 then some Tryz.f141 else none) else (if t = 142 then some Tryz.f142 else none)) else (if t ≤ 143 then (if t = 143 then some Tryz.f143 else none) else (if t = 144 then some Tryz.f144 else none))) else (if t ≤ 146 then (if t ≤ 145 then (if t = 145 then some Tryz.f145 else none) else (if t = 146 then some Tryz.f146 else none)) else (if t ≤ 147 then (if t = 147 then some Tryz.f147 else none) else (if t = 148 then some Tryz.f148 else none))))) else (if t ≤ 156 then (if t ≤ 152 then (if t ≤ 150 then (if t ≤ 149 then (if t = 149 then some Tryz.f149 else none) else (if t = 150 then some Tryz.f150 else none)) else (if t ≤ 151 then (if t = 151 then some Tryz.f151 else none) else (if t = 152 then some Tryz.f152 else none))) else (if t ≤ 154 then (if t ≤ 153 then (if t = 153 then some Tryz.f153 else none) else (if t = 154 then some Tryz.f154 else none)) else (if t ≤ 155 then (if t = 155 then some Tryz.f155 else none) else (if t = 156 then some Tryz.f156 else none)))) else (if t ≤ 160 then (if t ≤ 158 then (if t ≤ 157 then (if t = 157 then some Tryz.f157 else none) else (if t = 158 then some Tryz.f158 else none)) else (if t ≤ 159 then (if t = 159 then some Tryz.f159 else none) else (if t = 160 then some Tryz.f160 else none))) else (if t ≤ 162 then (if t ≤ 161 then (if t = 161 then some Tryz.f161 else none) else (if t = 162 then some Tryz.f162 else none)) else (if t ≤ 163 then (if t = 163 then some Tryz.f163 else none) else (if t = 164 then some Tryz.f164 else none)))))) else (if t ≤ 180 then (if t ≤ 172 then (if t ≤ 168 then (if t ≤ 166 then (if t ≤ 165 then (if t = 165 then some Tryz.f165 else none) else (if t = 166 then some Tryz.f166 else none)) else (if t ≤ 167 then (if t = 167 then some Tryz.f167 else none) else (if t = 168 then some Tryz.f168 else none))) else (if t ≤ 170 then (if t ≤ 169 then (if t = 169 then some Tryz.f169 else none) else (if t = 170 then some Tryz.f170 else none)) else (if t ≤ 171 then (if t = 171 then some Tryz.f171 else none) else (if t = 172 then some Tryz.f172 else none)))) else (if t ≤ 176 then (if t ≤ 174 then (if t ≤ 173 then (if t = 173 then some Tryz.f173 else none) else (if t = 174 then some Tryz.f174 else none)) else (if t ≤ 175 then (if t = 175 then some Tryz.f175 else none) else (if t = 176 then some Tryz.f176 else none))) else (if t ≤ 178 then (if t ≤ 177 then (if t = 177 then some Tryz.f177 else none) else (if t = 178 then some Tryz.f178 else none)) else (if t ≤ 179 then (if t = 179 then some Tryz.f179 else none) else (if t = 180 then some Tryz.f180 else none))))) else (if t ≤ 188 then (if t ≤ 184 then (if t ≤ 182 then (if t ≤ 181 then (if t = 181 then some Tryz.f181 else none) else (if t = 182 then some Tryz.f182 else none)) else (if t ≤ 183 then (if t = 183 then some Tryz.f183 else none) else (if t = 184 then some Tryz.f184 else none))) else (if t ≤ 186 then (if t ≤ 185 then (if t = 185 then some Tryz.f185 else none) else (if t = 186 then some Tryz.f186 else none)) else (if t ≤ 187 then (if t = 187 then some Tryz.f187 else none) else (if t = 188 then some Tryz.f188 else none)))) else (if t ≤ 192 then (if t ≤ 190 then (if t ≤ 189 then (if t = 189 then some Tryz.f189 else none) else (if t = 190 then some Tryz.f190 else none)) else (if t ≤ 191 then (if t = 191 then some Tryz.f191 else none) else (if t = 192 then some Tryz.f192 else none))) else (if t ≤ 194 then (if t ≤ 193 then (if t = 193 then some Tryz.f193 else none) else (if t = 194 then some Tryz.f194 else none)) else (if t ≤ 195 then (if t = 195 then some Tryz.f195 else none) else (if t = 196 then some Tryz.f196 else none))))))) else (if t ≤ 228 then (if t ≤ 212 then (if t ≤ 204 then (if t ≤ 200 then (if t ≤ 198 then (if t ≤ 197 then (if t = 197 then some Tryz.f197 else none) else (if t = 198 then some Tryz.f198 else none)) else (if t ≤ 199 then (if t = 199 then some Tryz.f199 else none) else (if t = 200 then some Tryz.f200 else none))) else (if t ≤ 202 then (if t ≤ 201 then (if t = 201 then some Tryz.f201 else none) else (if t = 202 then some Tryz.f202 else none)) else (if t ≤ 203 then (if t = 203 then some Tryz.f203 else none) else (if t = 204 then some Tryz.f204 else none)))) else (if t ≤ 208 then (if t ≤ 206 then (if t ≤ 205 then (if t = 205 then some Tryz.f205 else none) else (if t = 206 then some Tryz.f206 else none)) else (if t ≤ 207 then (if t = 207 then some Tryz.f207 else none) else (if t = 208 then some Tryz.f208 else none))) else (if t ≤ 210 then (if t ≤ 209 then (if t = 209 then some Tryz.f209 else none) else (if t = 210 then some Tryz.f210 else none)) else (if t ≤ 211 then (if t = 211 then some Tryz.f211 else none) else (if t = 212 then some Tryz.f212 else none))))) else (if t ≤ 220 then (if t ≤ 216 then (if t ≤ 214 then (if t ≤ 213 then (if t = 213 then some Tryz.f213 else none) else (if t = 214 then some Tryz.f214 else none)) else (if t ≤ 215 then (if t = 215 then some Tryz.f215 else none) else (if t = 216 then some Tryz.f216 else none))) else (if t ≤ 218 then (if t ≤ 217 then (if t = 217 then some Tryz.f217 else none) else (if t = 218 then some Tryz.f218 else none)) else (if t ≤ 219 then (if t = 219 then some Tryz.f219 else none) else (if t = 220 then some Tryz.f220 else none)))) else (if t ≤ 224 then (if t ≤ 222 then (if t ≤ 221 then (if t = 221 then some Tryz.f221 else none) else (if t = 222 then some Tryz.f222 else none)) else (if t ≤ 223 then (if t = 223 then some Tryz.f223 else none) else (if t = 224 then some Tryz.f224 else none))) else (if t ≤ 226 then (if t ≤ 225 then (if t = 225 then some Tryz.f225 else none) else (if t = 226 then some Tryz.f226 else none)) else (if t ≤ 227 then (if t = 227 then some Tryz.f227 else none) else (if t = 228 then some Tryz.f228 else none)))))) else (if t ≤ 245 then (if t ≤ 237 then (if t ≤ 232 then (if t ≤ 230 then (if t ≤ 229 then (if t = 229 then some Tryz.f229 else none) else (if t = 230 then some Tryz.f230 else none)) else (if t ≤ 231 then (if t = 231 then some Tryz.f231 else none) else (if t = 232 then some Tryz.f232 else none))) else (if t ≤ 234 then (if t ≤ 233 then (if t = 233 then some Tryz.f233 else none) else (if t = 234 then some Tryz.f234 else none)) else (if t ≤ 236 then (if t = 236 then some Tryz.f236 else none) else (if t = 237 then some Tryz.f237 else none)))) else (if t ≤ 241 then (if t ≤ 239 then (if t ≤ 238 then (if t = 238 then some Tryz.f238 else none) else (if t = 239 then some Tryz.f239 else none)) else (if t ≤ 240 then (if t = 240 then some Tryz.f240 else none) else (if t = 241 then some Tryz.f241 else none))) else (if t ≤ 243 then (if t ≤ 242 then (if t = 242 then some Tryz.f242 else none) else (if t = 243 then some Tryz.f243 else none)) else (if t ≤ 244 then (if t = 244 then some Tryz.f244 else none) else (if t = 245 then some Tryz.f245 else none))))) else (if t ≤ 253 then (if t ≤ 249 then (if t ≤ 247 then (if t ≤ 246 then (if t = 246 then some Tryz.f246 else none) else (if t = 247 then some Tryz.f247 else none)) else (if t ≤ 248 then (if t = 248 then some Tryz.f248 else none) else (if t = 249 then some Tryz.f249 else none))) else (if t ≤ 251 then (if t ≤ 250 then (if t = 250 then some Tryz.f250 else none) else (if t = 251 then some Tryz.f251 else none)) else (if t ≤ 252 then (if t = 252 then some Tryz.f252 else none) else (if t = 253 then some Tryz.f253 else none)))) else (if t ≤ 257 then (if t ≤ 255 then (if t ≤ 254 then (if t = 254 then some Tryz.f254 else none) else (if t = 255 then some Tryz.f255 else none)) else (if t ≤ 256 then (if t = 256 then some Tryz.f256 else none) else (if t = 257 then some Tryz.f257 else none))) else (if t ≤ 260 then (if t ≤ 258 then (if t = 258 then some Tryz.f258 else none) else (if t = 260 then some Tryz.f260 else none)) else (if t ≤ 268 then (if t = 268 then some Tryz.f268 else none) else (if t = 269 then some Tryz.f269 else none)))))))))
theorem fn3 : FnQ Tryz.prog 3 Tryz.f3 := ⟨Tryz.func3, by decide, fun c hc => by cases hc; rfl⟩
theorem fn4 : FnQ Tryz.prog 4 Tryz.f4 := ⟨Tryz.func4, by decide, fun c hc => by cases hc; rfl⟩
theorem fn5 : FnQ Tryz.prog 5 Tryz.f5 := ⟨Tryz.func5, by decide, fun c hc => by cases hc; rfl⟩
theorem fn6 : FnQ Tryz.prog 6 Tryz.f6 := ⟨Tryz.func6, by decide, fun c hc => by cases hc; rfl⟩
theorem fn7 : FnQ Tryz.prog 7 Tryz.f7 := ⟨Tryz.func7, by decide, fun c hc => by cases hc; rfl⟩
theorem fn8 : FnQ Tryz.prog 8 Tryz.f8 := ⟨Tryz.func8, by decide, fun c hc => by cases hc; rfl⟩
theorem fn9 : FnQ Tryz.prog 9 Tryz.f9 := ⟨Tryz.func9, by decide, fun c hc => by cases hc; rfl⟩
theorem fn10 : FnQ Tryz.prog 10 Tryz.f10 := ⟨Tryz.func10, by decide, fun c hc => by cases hc; rfl⟩
theorem fn11 : FnQ Tryz.prog 11 Tryz.f11 := ⟨Tryz.func11, by decide, fun c hc => by cases hc; rfl⟩
theorem fn12 : FnQ Tryz.prog 12 Tryz.f12 := ⟨Tryz.func12, by decide, fun c hc => by cases hc; rfl⟩
theorem fn13 : FnQ Tryz.prog 13 Tryz.f13 := ⟨Tryz.func13, by decide, fun c hc => by cases hc; rfl⟩
theorem fn14 : FnQ Tryz.prog 14 Tryz.f14 := ⟨Tryz.func14, by decide, fun c hc => by cases hc; rfl⟩
theorem fn15 : FnQ Tryz.prog 15 Tryz.f15 := ⟨Tryz.func15, by decide, fun c hc => by cases hc; rfl⟩
theorem fn16 : FnQ Tryz.prog 16 Tryz.f16 := ⟨Tryz.func16, by decide, fun c hc => by cases hc; rfl⟩
theorem fn17 : FnQ Tryz.prog 17 Tryz.f17 := ⟨Tryz.func17, by decide, fun c hc => by cases hc; rfl⟩
theorem fn18 : FnQ Tryz.prog 18 Tryz.f18 := ⟨Tryz.func18, by decide, fun c hc => by cases hc; rfl⟩
theorem fn19 : FnQ Tryz.prog 19 Tryz.f19 := ⟨Tryz.func19, by decide, fun c hc => by cases hc; rfl⟩
theorem fn20 : FnQ Tryz.prog 20 Tryz.f20 := ⟨Tryz.func20, by decide, fun c hc => by cases hc; rfl⟩
theorem fn21 : FnQ Tryz.prog 21 Tryz.f21 := ⟨Tryz.func21, by decide, fun c hc => by cases hc; rfl⟩
theorem fn22 : FnQ Tryz.prog 22 Tryz.f22 := ⟨Tryz.func22, by decide, fun c hc => by cases hc; rfl⟩
theorem fn23 : FnQ Tryz.prog 23 Tryz.f23 := ⟨Tryz.func23, by decide, fun c hc => by cases hc; rfl⟩
theorem fn24 : FnQ Tryz.prog 24 Tryz.f24 := ⟨Tryz.func24, by decide, fun c hc => by cases hc; rfl⟩
theorem fn25 : FnQ Tryz.prog 25 Tryz.f25 := ⟨Tryz.func25, by decide, fun c hc => by cases hc; rfl⟩
theorem fn26 : FnQ Tryz.prog 26 Tryz.f26 := ⟨Tryz.func26, by decide, fun c hc => by cases hc; rfl⟩
theorem fn27 : FnQ Tryz.prog 27 Tryz.f27 := ⟨Tryz.func27, by decide, fun c hc => by cases hc; rfl⟩
theorem fn28 : FnQ Tryz.prog 28 Tryz.f28 := ⟨Tryz.func28, by decide, fun c hc => by cases hc; rfl⟩
theorem fn29 : FnQ Tryz.prog 29 Tryz.f29 := ⟨Tryz.func29, by decide, fun c hc => by cases hc; rfl⟩
theorem fn30 : FnQ Tryz.prog 30 Tryz.f30 := ⟨Tryz.func30, by decide, fun c hc => by cases hc; rfl⟩
theorem fn31 : FnQ Tryz.prog 31 Tryz.f31 := ⟨Tryz.func31, by decide, fun c hc => by cases hc; rfl⟩
theorem fn32 : FnQ Tryz.prog 32 Tryz.f32 := ⟨Tryz.func32, by decide, fun c hc => by cases hc; rfl⟩
theorem fn33 : FnQ Tryz.prog 33 Tryz.f33 := ⟨Tryz.func33, by decide, fun c hc => by cases hc; rfl⟩
theorem fn34 : FnQ Tryz.prog 34 Tryz.f34 := ⟨Tryz.func34, by decide, fun c hc => by cases hc; rfl⟩
theorem fn35 : FnQ Tryz.prog 35 Tryz.f35 := ⟨Tryz.func35, by decide, fun c hc => by cases hc; rfl⟩
theorem fn36 : FnQ Tryz.prog 36 Tryz.f36 := ⟨Tryz.func36, by decide, fun c hc => by cases hc; rfl⟩
theorem fn37 : FnQ Tryz.prog 37 Tryz.f37 := ⟨Tryz.func37, by decide, fun c hc => by cases hc; rfl⟩
theorem fn38 : FnQ Tryz.prog 38 Tryz.f38 := ⟨Tryz.func38, by decide, fun c hc => by cases hc; rfl⟩
theorem fn39 : FnQ Tryz.prog 39 Tryz.f39 := ⟨Tryz.func39, by decide, fun c hc => by cases hc; rfl⟩
theorem fn40 : FnQ Tryz.prog 40 Tryz.f40 := ⟨Tryz.func40, by decide, fun c hc => by cases hc; rfl⟩
theorem fn41 : FnQ Tryz.prog 41 Tryz.f41 := ⟨Tryz.func41, by decide, fun c hc => by cases hc; rfl⟩
theorem fn42 : FnQ Tryz.prog 42 Tryz.f42 := ⟨Tryz.func42, by decide, fun c hc => by cases hc; rfl⟩
theorem fn43 : FnQ Tryz.prog 43 Tryz.f43 := ⟨Tryz.func43, by decide, fun c hc => by cases hc; rfl⟩
theorem fn44 : FnQ Tryz.prog 44 Tryz.f44 := ⟨Tryz.func44, by decide, fun c hc => by cases hc; rfl⟩
theorem fn45 : FnQ Tryz.prog 45 Tryz.f45 := ⟨Tryz.func45, by decide, fun c hc => by cases hc; rfl⟩
theorem fn46 : FnQ Tryz.prog 46 Tryz.f46 := ⟨Tryz.func46, by decide, fun c hc => by cases hc; rfl⟩
theorem fn47 : FnQ Tryz.prog 47 Tryz.f47 := ⟨Tryz.func47, by decide, fun c hc => by cases hc; rfl⟩
theorem fn48 : FnQ Tryz.prog 48 Tryz.f48 := ⟨Tryz.func48, by decide, fun c hc => by cases hc; rfl⟩
theorem fn49 : FnQ Tryz.prog 49 Tryz.f49 := ⟨Tryz.func49, by decide, fun c hc => by cases hc; rfl⟩
theorem fn50 : FnQ Tryz.prog 50 Tryz.f50 := ⟨Tryz.func50, by decide, fun c hc => by cases hc; rfl⟩
theorem fn51 : FnQ Tryz.prog 51 Tryz.f51 := ⟨Tryz.func51, by decide, fun c hc => by cases hc; rfl⟩
theorem fn52 : FnQ Tryz.prog 52 Tryz.f52 := ⟨Tryz.func52, by decide, fun c hc => by cases hc; rfl⟩
theorem fn53 : FnQ Tryz.prog 53 Tryz.f53 := ⟨Tryz.func53, by decide, fun c hc => by cases hc; rfl⟩
theorem fn54 : FnQ Tryz.prog 54 Tryz.f54 := ⟨Tryz.func54, by decide, fun c hc => by cases hc; rfl⟩
theorem fn55 : FnQ Tryz.prog 55 Tryz.f55 := ⟨Tryz.func55, by decide, fun c hc => by cases hc; rfl⟩
theorem fn56 : FnQ Tryz.prog 56 Tryz.f56 := ⟨Tryz.func56, by decide, fun c hc => by cases hc; rfl⟩
theorem fn57 : FnQ Tryz.prog 57 Tryz.f57 := ⟨Tryz.func57, by decide, fun c hc => by cases hc; rfl⟩
theorem fn58 : FnQ Tryz.prog 58 Tryz.f58 := ⟨Tryz.func58, by decide, fun c hc => by cases hc; rfl⟩
theorem fn59 : FnQ Tryz.prog 59 Tryz.f59 := ⟨Tryz.func59, by decide, fun c hc => by cases hc; rfl⟩
theorem fn60 : FnQ Tryz.prog 60 Tryz.f60 := ⟨Tryz.func60, by decide, fun c hc => by cases hc; rfl⟩
theorem fn61 : FnQ Tryz.prog 61 Tryz.f61 := ⟨Tryz.func61, by decide, fun c hc => by cases hc; rfl⟩
theorem fn62 : FnQ Tryz.prog 62 Tryz.f62 := ⟨Tryz.func62, by decide, fun c hc => by cases hc; rfl⟩
theorem fn63 : FnQ Tryz.prog 63 Tryz.f63 := ⟨Tryz.func63, by decide, fun c hc => by cases hc; rfl⟩
theorem fn64 : FnQ Tryz.prog 64 Tryz.f64 := ⟨Tryz.func64, by decide, fun c hc => by cases hc; rfl⟩
theorem fn65 : FnQ Tryz.prog 65 Tryz.f65 := ⟨Tryz.func65, by decide, fun c hc => by cases hc; rfl⟩
theorem fn66 : FnQ Tryz.prog 66 Tryz.f66 := ⟨Tryz.func66, by decide, fun c hc => by cases hc; rfl⟩
theorem fn67 : FnQ Tryz.prog 67 Tryz.f67 := ⟨Tryz.func67, by decide, fun c hc => by cases hc; rfl⟩
theorem fn68 : FnQ Tryz.prog 68 Tryz.f68 := ⟨Tryz.func68, by decide, fun c hc => by cases hc; rfl⟩
theorem fn69 : FnQ Tryz.prog 69 Tryz.f69 := ⟨Tryz.func69, by decide, fun c hc => by cases hc; rfl⟩
theorem fn70 : FnQ Tryz.prog 70 Tryz.f70 := ⟨Tryz.func70, by decide, fun c hc => by cases hc; rfl⟩
theorem fn71 : FnQ Tryz.prog 71 Tryz.f71 := ⟨Tryz.func71, by decide, fun c hc => by cases hc; rfl⟩
theorem fn72 : FnQ Tryz.prog 72 Tryz.f72 := ⟨Tryz.func72, by decide, fun c hc => by cases hc; rfl⟩
theorem fn73 : FnQ Tryz.prog 73 Tryz.f73 := ⟨Tryz.func73, by decide, fun c hc => by cases hc; rfl⟩
theorem fn74 : FnQ Tryz.prog 74 Tryz.f74 := ⟨Tryz.func74, by decide, fun c hc => by cases hc; rfl⟩
theorem fn75 : FnQ Tryz.prog 75 Tryz.f75 := ⟨Tryz.func75, by decide, fun c hc => by cases hc; rfl⟩
theorem fn76 : FnQ Tryz.prog 76 Tryz.f76 := ⟨Tryz.func76, by decide, fun c hc => by cases hc; rfl⟩
theorem fn77 : FnQ Tryz.prog 77 Tryz.f77 := ⟨Tryz.func77, by decide, fun c hc => by cases hc; rfl⟩
theorem fn78 : FnQ Tryz.prog 78 Tryz.f78 := ⟨Tryz.func78, by decide, fun c hc => by cases hc; rfl⟩
theorem fn79 : FnQ Tryz.prog 79 Tryz.f79 := ⟨Tryz.func79, by decide, fun c hc => by cases hc; rfl⟩
theorem fn80 : FnQ Tryz.prog 80 Tryz.f80 := ⟨Tryz.func80, by decide, fun c hc => by cases hc; rfl⟩
theorem fn81 : FnQ Tryz.prog 81 Tryz.f81 := ⟨Tryz.func81, by decide, fun c hc => by cases hc; rfl⟩
theorem fn82 : FnQ Tryz.prog 82 Tryz.f82 := ⟨Tryz.func82, by decide, fun c hc => by cases hc; rfl⟩
theorem fn83 : FnQ Tryz.prog 83 Tryz.f83 := ⟨Tryz.func83, by decide, fun c hc => by cases hc; rfl⟩
theorem fn84 : FnQ Tryz.prog 84 Tryz.f84 := ⟨Tryz.func84, by decide, fun c hc => by cases hc; rfl⟩
theorem fn85 : FnQ Tryz.prog 85 Tryz.f85 := ⟨Tryz.func85, by decide, fun c hc => by cases hc; rfl⟩
theorem fn86 : FnQ Tryz.prog 86 Tryz.f86 := ⟨Tryz.func86, by decide, fun c hc => by cases hc; rfl⟩
theorem fn87 : FnQ Tryz.prog 87 Tryz.f87 := ⟨Tryz.func87, by decide, fun c hc => by cases hc; rfl⟩
theorem fn88 : FnQ Tryz.prog 88 Tryz.f88 := ⟨Tryz.func88, by decide, fun c hc => by cases hc; rfl⟩
theorem fn89 : FnQ Tryz.prog 89 Tryz.f89 := ⟨Tryz.func89, by decide, fun c hc => by cases hc; rfl⟩
theorem fn90 : FnQ Tryz.prog 90 Tryz.f90 := ⟨Tryz.func90, by decide, fun c hc => by cases hc; rfl⟩
theorem fn91 : FnQ Tryz.prog 91 Tryz.f91 := ⟨Tryz.func91, by decide, fun c hc => by cases hc; rfl⟩
theorem fn92 : FnQ Tryz.prog 92 Tryz.f92 := ⟨Tryz.func92, by decide, fun c hc => by cases hc; rfl⟩
theorem fn93 : FnQ Tryz.prog 93 Tryz.f93 := ⟨Tryz.func93, by decide, fun c hc => by cases hc; rfl⟩
theorem fn94 : FnQ Tryz.prog 94 Tryz.f94 := ⟨Tryz.func94, by decide, fun c hc => by cases hc; rfl⟩
theorem fn95 : FnQ Tryz.prog 95 Tryz.f95 := ⟨Tryz.func95, by decide, fun c hc => by cases hc; rfl⟩
theorem fn96 : FnQ Tryz.prog 96 Tryz.f96 := ⟨Tryz.func96, by decide, fun c hc => by cases hc; rfl⟩
theorem fn97 : FnQ Tryz.prog 97 Tryz.f97 := ⟨Tryz.func97, by decide, fun c hc => by cases hc; rfl⟩
theorem fn98 : FnQ Tryz.prog 98 Tryz.f98 := ⟨Tryz.func98, by decide, fun c hc => by cases hc; rfl⟩
theorem fn99 : FnQ Tryz.prog 99 Tryz.f99 := ⟨Tryz.func99, by decide, fun c hc => by cases hc; rfl⟩
theorem fn100 : FnQ Tryz.prog 100 Tryz.f100 := ⟨Tryz.func100, by decide, fun c hc => by cases hc; rfl⟩
theorem fn101 : FnQ Tryz.prog 101 Tryz.f101 := ⟨Tryz.func101, by decide, fun c hc => by cases hc; rfl⟩
theorem fn102 : FnQ Tryz.prog 102 Tryz.f102 := ⟨Tryz.func102, by decide, fun c hc => by cases hc; rfl⟩
theorem fn103 : FnQ Tryz.prog 103 Tryz.f103 := ⟨Tryz.func103, by decide, fun c hc => by cases hc; rfl⟩
theorem fn104 : FnQ Tryz.prog 104 Tryz.f104 := ⟨Tryz.func104, by decide, fun c hc => by cases hc; rfl⟩
theorem fn105 : FnQ Tryz.prog 105 Tryz.f105 := ⟨Tryz.func105, by decide, fun c hc => by cases hc; rfl⟩
theorem fn106 : FnQ Tryz.prog 106 Tryz.f106 := ⟨Tryz.func106, by decide, fun c hc => by cases hc; rfl⟩
theorem fn107 : FnQ Tryz.prog 107 Tryz.f107 := ⟨Tryz.func107, by decide, fun c hc => by cases hc; rfl⟩
theorem fn108 : FnQ Tryz.prog 108 Tryz.f108 := ⟨Tryz.func108, by decide, fun c hc => by cases hc; rfl⟩
theorem fn109 : FnQ Tryz.prog 109 Tryz.f109 := ⟨Tryz.func109, by decide, fun c hc => by cases hc; rfl⟩
theorem fn110 : FnQ Tryz.prog 110 Tryz.f110 := ⟨Tryz.func110, by decide, fun c hc => by cases hc; rfl⟩
theorem fn111 : FnQ Tryz.prog 111 Tryz.f111 := ⟨Tryz.func111, by decide, fun c hc => by cases hc; rfl⟩
theorem fn114 : FnQ Tryz.prog 114 Tryz.f114 := ⟨Tryz.func114, by decide, fun c hc => by cases hc; rfl⟩
theorem fn115 : FnQ Tryz.prog 115 Tryz.f115 := ⟨Tryz.func115, by decide, fun c hc => by cases hc; rfl⟩
theorem fn116 : FnQ Tryz.prog 116 Tryz.f116 := ⟨Tryz.func116, by decide, fun c hc => by cases hc; rfl⟩
theorem fn117 : FnQ Tryz.prog 117 Tryz.f117 := ⟨Tryz.func117, by decide, fun c hc => by cases hc; rfl⟩
theorem fn118 : FnQ Tryz.prog 118 Tryz.f118 := ⟨Tryz.func118, by decide, fun c hc => by cases hc; rfl⟩
theorem fn119 : FnQ Tryz.prog 119 Tryz.f119 := ⟨Tryz.func119, by decide, fun c hc => by cases hc; rfl⟩
theorem fn120 : FnQ Tryz.prog 120 Tryz.f120 := ⟨Tryz.func120, by decide, fun c hc => by cases hc; rfl⟩
theorem fn121 : FnQ Tryz.prog 121 Tryz.f121 := ⟨Tryz.func121, by decide, fun c hc => by cases hc; rfl⟩
theorem fn122 : FnQ Tryz.prog 122 Tryz.f122 := ⟨Tryz.func122, by decide, fun c hc => by cases hc; rfl⟩
theorem fn123 : FnQ Tryz.prog 123 Tryz.f123 := ⟨Tryz.func123, by decide, fun c hc => by cases hc; rfl⟩
theorem fn124 : FnQ Tryz.prog 124 Tryz.f124 := ⟨Tryz.func124, by decide, fun c hc => by cases hc; rfl⟩
theorem fn125 : FnQ Tryz.prog 125 Tryz.f125 := ⟨Tryz.func125, by decide, fun c hc => by cases hc; rfl⟩
theorem fn126 : FnQ Tryz.prog 126 Tryz.f126 := ⟨Tryz.func126, by decide, fun c hc => by cases hc; rfl⟩
theorem fn127 : FnQ Tryz.prog 127 Tryz.f127 := ⟨Tryz.func127, by decide, fun c hc => by cases hc; rfl⟩
theorem fn128 : FnQ Tryz.prog 128 Tryz.f128 := ⟨Tryz.func128, by decide, fun c hc => by cases hc; rfl⟩
theorem fn129 : FnQ Tryz.prog 129 Tryz.f129 := ⟨Tryz.func129, by decide, fun c hc => by cases hc; rfl⟩
theorem fn130 : FnQ Tryz.prog 130 Tryz.f130 := ⟨Tryz.func130, by decide, fun c hc => by cases hc; rfl⟩
theorem fn131 : FnQ Tryz.prog 131 Tryz.f131 := ⟨Tryz.func131, by decide, fun c hc => by cases hc; rfl⟩
theorem fn132 : FnQ Tryz.prog 132 Tryz.f132 := ⟨Tryz.func132, by decide, fun c hc => by cases hc; rfl⟩
theorem fn133 : FnQ Tryz.prog 133 Tryz.f133 := ⟨Tryz.func133, by decide, fun c hc => by cases hc; rfl⟩
theorem fn134 : FnQ Tryz.prog 134 Tryz.f134 := ⟨Tryz.func134, by decide, fun c hc => by cases hc; rfl⟩
theorem fn135 : FnQ Tryz.prog 135 Tryz.f135 := ⟨Tryz.func135, by decide, fun c hc => by cases hc; rfl⟩
theorem fn136 : FnQ Tryz.prog 136 Tryz.f136 := ⟨Tryz.func136, by decide, fun c hc => by cases hc; rfl⟩
theorem fn137 : FnQ Tryz.prog 137 Tryz.f137 := ⟨Tryz.func137, by decide, fun c hc => by cases hc; rfl⟩
theorem fn138 : FnQ Tryz.prog 138 Tryz.f138 := ⟨Tryz.func138, by decide, fun c hc => by cases hc; rfl⟩
theorem fn139 : FnQ Tryz.prog 139 Tryz.f139 := ⟨Tryz.func139, by decide, fun c hc => by cases hc; rfl⟩
theorem fn140 : FnQ Tryz.prog 140 Tryz.f140 := ⟨Tryz.func140, by decide, fun c hc => by cases hc; rfl⟩
theorem fn141 : FnQ Tryz.prog 141 Tryz.f141 := ⟨Tryz.func141, by decide, fun c hc => by cases hc; rfl⟩
theorem fn142 : FnQ Tryz.prog 142 Tryz.f142 := ⟨Tryz.func142, by decide, fun c hc => by cases hc; rfl⟩
theorem fn143 : FnQ Tryz.prog 143 Tryz.f143 := ⟨Tryz.func143, by decide, fun c hc => by cases hc; rfl⟩
theorem fn144 : FnQ Tryz.prog 144 Tryz.f144 := ⟨Tryz.func144, by decide, fun c hc => by cases hc; rfl⟩
theorem fn145 : FnQ Tryz.prog 145 Tryz.f145 := ⟨Tryz.func145, by decide, fun c hc => by cases hc; rfl⟩
theorem fn146 : FnQ Tryz.prog 146 Tryz.f146 := ⟨Tryz.func146, by decide, fun c hc => by cases hc; rfl⟩
theorem fn147 : FnQ Tryz.prog 147 Tryz.f147 := ⟨Tryz.func147, by decide, fun c hc => by cases hc; rfl⟩
theorem fn148 : FnQ Tryz.prog 148 Tryz.f148 := ⟨Tryz.func148, by decide, fun c hc => by cases hc; rfl⟩
theorem fn149 : FnQ Tryz.prog 149 Tryz.f149 := ⟨Tryz.func149, by decide, fun c hc => by cases hc; rfl⟩
theorem fn150 : FnQ Tryz.prog 150 Tryz.f150 := ⟨Tryz.func150, by decide, fun c hc => by cases hc; rfl⟩
theorem fn151 : FnQ Tryz.prog 151 Tryz.f151 := ⟨Tryz.func151, by decide, fun c hc => by cases hc; rfl⟩
theorem fn152 : FnQ Tryz.prog 152 Tryz.f152 := ⟨Tryz.func152, by decide, fun c hc => by cases hc; rfl⟩
theorem fn153 : FnQ Tryz.prog 153 Tryz.f153 := ⟨Tryz.func153, by decide, fun c hc => by cases hc; rfl⟩
theorem fn154 : FnQ Tryz.prog 154 Tryz.f154 := ⟨Tryz.func154, by decide, fun c hc => by cases hc; rfl⟩
theorem fn155 : FnQ Tryz.prog 155 Tryz.f155 := ⟨Tryz.func155, by decide, fun c hc => by cases hc; rfl⟩
theorem fn156 : FnQ Tryz.prog 156 Tryz.f156 := ⟨Tryz.func156, by decide, fun c hc => by cases hc; rfl⟩
theorem fn157 : FnQ Tryz.prog 157 Tryz.f157 := ⟨Tryz.func157, by decide, fun c hc => by cases hc; rfl⟩
theorem fn158 : FnQ Tryz.prog 158 Tryz.f158 := ⟨Tryz.func158, by decide, fun c hc => by cases hc; rfl⟩
theorem fn159 : FnQ Tryz.prog 159 Tryz.f159 := ⟨Tryz.func159, by decide, fun c hc => by cases hc; rfl⟩
theorem fn160 : FnQ Tryz.prog 160 Tryz.f160 := ⟨Tryz.func160, by decide, fun c hc => by cases hc; rfl⟩
theorem fn161 : FnQ Tryz.prog 161 Tryz.f161 := ⟨Tryz.func161, by decide, fun c hc => by cases hc; rfl⟩
theorem fn162 : FnQ Tryz.prog 162 Tryz.f162 := ⟨Tryz.func162, by decide, fun c hc => by cases hc; rfl⟩
theorem fn163 : FnQ Tryz.prog 163 Tryz.f163 := ⟨Tryz.func163, by decide, fun c hc => by cases hc; rfl⟩
theorem fn164 : FnQ Tryz.prog 164 Tryz.f164 := ⟨Tryz.func164, by decide, fun c hc => by cases hc; rfl⟩
theorem fn165 : FnQ Tryz.prog 165 Tryz.f165 := ⟨Tryz.func165, by decide, fun c hc => by cases hc; rfl⟩
theorem fn166 : FnQ Tryz.prog 166 Tryz.f166 := ⟨Tryz.func166, by decide, fun c hc => by cases hc; rfl⟩
theorem fn167 : FnQ Tryz.prog 167 Tryz.f167 := ⟨Tryz.func167, by decide, fun c hc => by cases hc; rfl⟩
theorem fn168 : FnQ Tryz.prog 168 Tryz.f168 := ⟨Tryz.func168, by decide, fun c hc => by cases hc; rfl⟩
theorem fn169 : FnQ Tryz.prog 169 Tryz.f169 := ⟨Tryz.func169, by decide, fun c hc => by cases hc; rfl⟩
theorem fn170 : FnQ Tryz.prog 170 Tryz.f170 := ⟨Tryz.func170, by decide, fun c hc => by cases hc; rfl⟩
theorem fn171 : FnQ Tryz.prog 171 Tryz.f171 := ⟨Tryz.func171, by decide, fun c hc => by cases hc; rfl⟩
theorem fn172 : FnQ Tryz.prog 172 Tryz.f172 := ⟨Tryz.func172, by decide, fun c hc => by cases hc; rfl⟩
theorem fn173 : FnQ Tryz.prog 173 Tryz.f173 := ⟨Tryz.func173, by decide, fun c hc => by cases hc; rfl⟩
theorem fn174 : FnQ Tryz.prog 174 Tryz.f174 := ⟨Tryz.func174, by decide, fun c hc => by cases hc; rfl⟩
theorem fn175 : FnQ Tryz.prog 175 Tryz.f175 := ⟨Tryz.func175, by decide, fun c hc => by cases hc; rfl⟩
theorem fn176 : FnQ Tryz.prog 176 Tryz.f176 := ⟨Tryz.func176, by decide, fun c hc => by cases hc; rfl⟩
theorem fn177 : FnQ Tryz.prog 177 Tryz.f177 := ⟨Tryz.func177, by decide, fun c hc => by cases hc; rfl⟩
theorem fn178 : FnQ Tryz.prog 178 Tryz.f178 := ⟨Tryz.func178, by decide, fun c hc => by cases hc; rfl⟩
theorem fn179 : FnQ Tryz.prog 179 Tryz.f179 := ⟨Tryz.func179, by decide, fun c hc => by cases hc; rfl⟩
theorem fn180 : FnQ Tryz.prog 180 Tryz.f180 := ⟨Tryz.func180, by decide, fun c hc => by cases hc; rfl⟩
theorem fn181 : FnQ Tryz.prog 181 Tryz.f181 := ⟨Tryz.func181, by decide, fun c hc => by cases hc; rfl⟩
theorem fn182 : FnQ Tryz.prog 182 Tryz.f182 := ⟨Tryz.func182, by decide, fun c hc => by cases hc; rfl⟩
theorem fn183 : FnQ Tryz.prog 183 Tryz.f183 := ⟨Tryz.func183, by decide, fun c hc => by cases hc; rfl⟩
theorem fn184 : FnQ Tryz.prog 184 Tryz.f184 := ⟨Tryz.func184, by decide, fun c hc => by cases hc; rfl⟩
theorem fn185 : FnQ Tryz.prog 185 Tryz.f185 := ⟨Tryz.func185, by decide, fun c hc => by cases hc; rfl⟩
theorem fn186 : FnQ Tryz.prog 186 Tryz.f186 := ⟨Tryz.func186, by decide, fun c hc => by cases hc; rfl⟩
theorem fn187 : FnQ Tryz.prog 187 Tryz.f187 := ⟨Tryz.func187, by decide, fun c hc => by cases hc; rfl⟩
theorem fn188 : FnQ Tryz.prog 188 Tryz.f188 := ⟨Tryz.func188, by decide, fun c hc => by cases hc; rfl⟩
theorem fn189 : FnQ Tryz.prog 189 Tryz.f189 := ⟨Tryz.func189, by decide, fun c hc => by cases hc; rfl⟩
theorem fn190 : FnQ Tryz.prog 190 Tryz.f190 := ⟨Tryz.func190, by decide, fun c hc => by cases hc; rfl⟩
theorem fn191 : FnQ Tryz.prog 191 Tryz.f191 := ⟨Tryz.func191, by decide, fun c hc => by cases hc; rfl⟩
theorem fn192 : FnQ Tryz.prog 192 Tryz.f192 := ⟨Tryz.func192, by decide, fun c hc => by cases hc; rfl⟩
theorem fn193 : FnQ Tryz.prog 193 Tryz.f193 := ⟨Tryz.func193, by decide, fun c hc => by cases hc; rfl⟩
theorem fn194 : FnQ Tryz.prog 194 Tryz.f194 := ⟨Tryz.func194, by decide, fun c hc => by cases hc; rfl⟩
theorem fn195 : FnQ Tryz.prog 195 Tryz.f195 := ⟨Tryz.func195, by decide, fun c hc => by cases hc; rfl⟩
theorem fn196 : FnQ Tryz.prog 196 Tryz.f196 := ⟨Tryz.func196, by decide, fun c hc => by cases hc; rfl⟩
theorem fn197 : FnQ Tryz.prog 197 Tryz.f197 := ⟨Tryz.func197, by decide, fun c hc => by cases hc; rfl⟩
theorem fn198 : FnQ Tryz.prog 198 Tryz.f198 := ⟨Tryz.func198, by decide, fun c hc => by cases hc; rfl⟩
theorem fn199 : FnQ Tryz.prog 199 Tryz.f199 := ⟨Tryz.func199, by decide, fun c hc => by cases hc; rfl⟩
theorem fn200 : FnQ Tryz.prog 200 Tryz.f200 := ⟨Tryz.func200, by decide, fun c hc => by cases hc; rfl⟩
theorem fn201 : FnQ Tryz.prog 201 Tryz.f201 := ⟨Tryz.func201, by decide, fun c hc => by cases hc; rfl⟩
theorem fn202 : FnQ Tryz.prog 202 Tryz.f202 := ⟨Tryz.func202, by decide, fun c hc => by cases hc; rfl⟩
theorem fn203 : FnQ Tryz.prog 203 Tryz.f203 := ⟨Tryz.func203, by decide, fun c hc => by cases hc; rfl⟩
theorem fn204 : FnQ Tryz.prog 204 Tryz.f204 := ⟨Tryz.func204, by decide, fun c hc => by cases hc; rfl⟩
theorem fn205 : FnQ Tryz.prog 205 Tryz.f205 := ⟨Tryz.func205, by decide, fun c hc => by cases hc; rfl⟩
theorem fn206 : FnQ Tryz.prog 206 Tryz.f206 := ⟨Tryz.func206, by decide, fun c hc => by cases hc; rfl⟩
theorem fn207 : FnQ Tryz.prog 207 Tryz.f207 := ⟨Tryz.func207, by decide, fun c hc => by cases hc; rfl⟩
theorem fn208 : FnQ Tryz.prog 208 Tryz.f208 := ⟨Tryz.func208, by decide, fun c hc => by cases hc; rfl⟩
theorem fn209 : FnQ Tryz.prog 209 Tryz.f209 := ⟨Tryz.func209, by decide, fun c hc => by cases hc; rfl⟩
theorem fn210 : FnQ Tryz.prog 210 Tryz.f210 := ⟨Tryz.func210, by decide, fun c hc => by cases hc; rfl⟩
theorem fn211 : FnQ Tryz.prog 211 Tryz.f211 := ⟨Tryz.func211, by decide, fun c hc => by cases hc; rfl⟩
theorem fn212 : FnQ Tryz.prog 212 Tryz.f212 := ⟨Tryz.func212, by decide, fun c hc => by cases hc; rfl⟩
theorem fn213 : FnQ Tryz.prog 213 Tryz.f213 := ⟨Tryz.func213, by decide, fun c hc => by cases hc; rfl⟩
theorem fn214 : FnQ Tryz.prog 214 Tryz.f214 := ⟨Tryz.func214, by decide, fun c hc => by cases hc; rfl⟩
theorem fn215 : FnQ Tryz.prog 215 Tryz.f215 := ⟨Tryz.func215, by decide, fun c hc => by cases hc; rfl⟩
theorem fn216 : FnQ Tryz.prog 216 Tryz.f216 := ⟨Tryz.func216, by decide, fun c hc => by cases hc; rfl⟩
theorem fn217 : FnQ Tryz.prog 217 Tryz.f217 := ⟨Tryz.func217, by decide, fun c hc => by cases hc; rfl⟩
theorem fn218 : FnQ Tryz.prog 218 Tryz.f218 := ⟨Tryz.func218, by decide, fun c hc => by cases hc; rfl⟩
theorem fn219 : FnQ Tryz.prog 219 Tryz.f219 := ⟨Tryz.func219, by decide, fun c hc => by cases hc; rfl⟩
theorem fn220 : FnQ Tryz.prog 220 Tryz.f220 := ⟨Tryz.func220, by decide, fun c hc => by cases hc; rfl⟩
theorem fn221 : FnQ Tryz.prog 221 Tryz.f221 := ⟨Tryz.func221, by decide, fun c hc => by cases hc; rfl⟩
theorem fn222 : FnQ Tryz.prog 222 Tryz.f222 := ⟨Tryz.func222, by decide, fun c hc => by cases hc; rfl⟩
theorem fn223 : FnQ Tryz.prog 223 Tryz.f223 := ⟨Tryz.func223, by decide, fun c hc => by cases hc; rfl⟩
theorem fn224 : FnQ Tryz.prog 224 Tryz.f224 := ⟨Tryz.func224, by decide, fun c hc => by cases hc; rfl⟩
theorem fn225 : FnQ Tryz.prog 225 Tryz.f225 := ⟨Tryz.func225, by decide, fun c hc => by cases hc; rfl⟩
theorem fn226 : FnQ Tryz.prog 226 Tryz.f226 := ⟨Tryz.func226, by decide, fun c hc => by cases hc; rfl⟩
theorem fn227 : FnQ Tryz.prog 227 Tryz.f227 := ⟨Tryz.func227, by decide, fun c hc => by cases hc; rfl⟩
theorem fn228 : FnQ Tryz.prog 228 Tryz.f228 := ⟨Tryz.func228, by decide, fun c hc => by cases hc; rfl⟩
theorem fn229 : FnQ Tryz.prog 229 Tryz.f229 := ⟨Tryz.func229, by decide, fun c hc => by cases hc; rfl⟩
theorem fn230 : FnQ Tryz.prog 230 Tryz.f230 := ⟨Tryz.func230, by decide, fun c hc => by cases hc; rfl⟩
theorem fn231 : FnQ Tryz.prog 231 Tryz.f231 := ⟨Tryz.func231, by decide, fun c hc => by cases hc; rfl⟩
theorem fn232 : FnQ Tryz.prog 232 Tryz.f232 := ⟨Tryz.func232, by decide, fun c hc => by cases hc; rfl⟩
theorem fn233 : FnQ Tryz.prog 233 Tryz.f233 := ⟨Tryz.func233, by decide, fun c hc => by cases hc; rfl⟩
theorem fn234 : FnQ Tryz.prog 234 Tryz.f234 := ⟨Tryz.func234, by decide, fun c hc => by cases hc; rfl⟩
theorem fn236 : FnQ Tryz.prog 236 Tryz.f236 := ⟨Tryz.func236, by decide, fun c hc => by cases hc; rfl⟩
theorem fn237 : FnQ Tryz.prog 237 Tryz.f237 := ⟨Tryz.func237, by decide, fun c hc => by cases hc; rfl⟩
theorem fn238 : FnQ Tryz.prog 238 Tryz.f238 := ⟨Tryz.func238, by decide, fun c hc => by cases hc; rfl⟩
theorem fn239 : FnQ Tryz.prog 239 Tryz.f239 := ⟨Tryz.func239, by decide, fun c hc => by cases hc; rfl⟩
theorem fn240 : FnQ Tryz.prog 240 Tryz.f240 := ⟨Tryz.func240, by decide, fun c hc => by cases hc; rfl⟩
theorem fn241 : FnQ Tryz.prog 241 Tryz.f241 := ⟨Tryz.func241, by decide, fun c hc => by cases hc; rfl⟩
theorem fn242 : FnQ Tryz.prog 242 Tryz.f242 := ⟨Tryz.func242, by decide, fun c hc => by cases hc; rfl⟩
theorem fn243 : FnQ Tryz.prog 243 Tryz.f243 := ⟨Tryz.func243, by decide, fun c hc => by cases hc; rfl⟩
theorem fn244 : FnQ Tryz.prog 244 Tryz.f244 := ⟨Tryz.func244, by decide, fun c hc => by cases hc; rfl⟩
theorem fn245 : FnQ Tryz.prog 245 Tryz.f245 := ⟨Tryz.func245, by decide, fun c hc => by cases hc; rfl⟩
theorem fn246 : FnQ Tryz.prog 246 Tryz.f246 := ⟨Tryz.func246, by decide, fun c hc => by cases hc; rfl⟩
theorem fn247 : FnQ Tryz.prog 247 Tryz.f247 := ⟨Tryz.func247, by decide, fun c hc => by cases hc; rfl⟩
theorem fn248 : FnQ Tryz.prog 248 Tryz.f248 := ⟨Tryz.func248, by decide, fun c hc => by cases hc; rfl⟩
theorem fn249 : FnQ Tryz.prog 249 Tryz.f249 := ⟨Tryz.func249, by decide, fun c hc => by cases hc; rfl⟩
theorem fn250 : FnQ Tryz.prog 250 Tryz.f250 := ⟨Tryz.func250, by decide, fun c hc => by cases hc; rfl⟩
theorem fn251 : FnQ Tryz.prog 251 Tryz.f251 := ⟨Tryz.func251, by decide, fun c hc => by cases hc; rfl⟩
theorem fn252 : FnQ Tryz.prog 252 Tryz.f252 := ⟨Tryz.func252, by decide, fun c hc => by cases hc; rfl⟩
theorem fn253 : FnQ Tryz.prog 253 Tryz.f253 := ⟨Tryz.func253, by decide, fun c hc => by cases hc; rfl⟩
theorem fn254 : FnQ Tryz.prog 254 Tryz.f254 := ⟨Tryz.func254, by decide, fun c hc => by cases hc; rfl⟩
theorem fn255 : FnQ Tryz.prog 255 Tryz.f255 := ⟨Tryz.func255, by decide, fun c hc => by cases hc; rfl⟩
theorem fn256 : FnQ Tryz.prog 256 Tryz.f256 := ⟨Tryz.func256, by decide, fun c hc => by cases hc; rfl⟩
theorem fn257 : FnQ Tryz.prog 257 Tryz.f257 := ⟨Tryz.func257, by decide, fun c hc => by cases hc; rfl⟩
theorem fn258 : FnQ Tryz.prog 258 Tryz.f258 := ⟨Tryz.func258, by decide, fun c hc => by cases hc; rfl⟩
theorem fn260 : FnQ Tryz.prog 260 Tryz.f260 := ⟨Tryz.func260, by decide, fun c hc => by cases hc; rfl⟩
theorem fn268 : FnQ Tryz.prog 268 Tryz.f268 := ⟨Tryz.func268, by decide, fun c hc => by cases hc; rfl⟩
theorem fn269 : FnQ Tryz.prog 269 Tryz.f269 := ⟨Tryz.func269, by decide, fun c hc => by cases hc; rfl⟩
theorem Fz_ok : ∀ t fn, Fz t = some fn → FnQ Tryz.prog t fn := fun t => (nd (nd (nd (nd (nd (nd (nd (nd (lf (Q := FnQ Tryz.prog) fn3) (lf (Q := FnQ Tryz.prog) fn4)) (nd (lf (Q := FnQ Tryz.prog) fn5) (lf (Q := FnQ Tryz.prog) fn6))) (nd (nd (lf (Q := FnQ Tryz.prog) fn7) (lf (Q := FnQ Tryz.prog) fn8)) (nd (lf (Q := FnQ Tryz.prog) fn9) (lf (Q := FnQ Tryz.prog) fn10)))) (nd (nd (nd (lf (Q := FnQ Tryz.prog) fn11) (lf (Q := FnQ Tryz.prog) fn12)) (nd (lf (Q := FnQ Tryz.prog) fn13) (lf (Q := FnQ Tryz.prog) fn14))) (nd (nd (lf (Q := FnQ Tryz.prog) fn15) (lf (Q := FnQ Tryz.prog) fn16)) (nd (lf (Q := FnQ Tryz.prog) fn17) (lf (Q := FnQ Tryz.prog) fn18))))) (nd (nd (nd (nd (lf (Q := FnQ Tryz.prog) fn19) (lf (Q := FnQ Tryz.prog) fn20)) (nd (lf (Q := FnQ Tryz.prog) fn21) (lf (Q := FnQ Tryz.prog) fn22))) (nd (nd (lf (Q := FnQ Tryz.prog) fn23) (lf (Q := FnQ Tryz.prog) fn24)) (nd (lf (Q := FnQ Tryz.prog) fn25) (lf (Q := FnQ Tryz.prog) fn26)))) (nd (nd (nd (lf (Q := FnQ Tryz.prog) fn27) (lf (Q := FnQ Tryz.prog) fn28)) (nd (lf (Q := FnQ Tryz.prog) fn29) (lf (Q := FnQ Tryz.prog) fn30))) (nd (nd (lf (Q := FnQ Tryz.prog) fn31) (lf (Q := FnQ Tryz.prog) fn32)) (nd (lf (Q := FnQ Tryz.prog) fn33) (lf (Q := FnQ Tryz.prog) fn34)))))) (nd (nd (nd (nd (nd (lf (Q := FnQ Tryz.prog) fn35) (lf (Q := FnQ Tryz.prog) fn36)) (nd (lf (Q := FnQ Tryz.prog) fn37) (lf (Q := FnQ Tryz.prog) fn38))) (nd (nd (lf (Q := FnQ Tryz.prog) fn39) (lf (Q := FnQ Tryz.prog) fn40)) (nd (lf (Q := FnQ Tryz.prog) fn41) (lf (Q := FnQ Tryz.prog) fn42)))) (nd (nd (nd (lf (Q := FnQ Tryz.prog) fn43) (lf (Q := FnQ Tryz.prog) fn44)) (nd (lf (Q := FnQ Tryz.prog) fn45) (lf (Q := FnQ Tryz.prog) fn46))) (nd (nd (lf (Q := FnQ Tryz.prog) fn47) (lf (Q := FnQ Tryz.prog) fn48)) (nd (lf (Q := FnQ Tryz.prog) fn49) (lf (Q := FnQ Tryz.prog) fn50))))) (nd (nd (nd (nd (lf (Q := FnQ Tryz.prog) fn51) (lf (Q := FnQ Tryz.prog) fn52)) (nd (lf (Q := FnQ Tryz.prog) fn53) (lf (Q := FnQ Tryz.prog) fn54))) (nd (nd (lf (Q := FnQ Tryz.prog) fn55) (lf (Q := FnQ Tryz.prog) fn56)) (nd (lf (Q := FnQ Tryz.prog) fn57) (lf (Q := FnQ Tryz.prog) fn58)))) (nd (nd (nd (lf (Q := FnQ Tryz.prog) fn59) (lf (Q := FnQ Tryz.prog) fn60)) (nd (lf (Q := FnQ Tryz.prog) fn61) (lf (Q := FnQ Tryz.prog) fn62))) (nd (nd (lf (Q := FnQ Tryz.prog) fn63) (lf (Q := FnQ Tryz.prog) fn64)) (nd (lf (Q := FnQ Tryz.prog) fn65) (lf (Q := FnQ Tryz.prog) fn66))))))) (nd (nd (nd (nd (nd (nd (lf (Q := FnQ Tryz.prog) fn67) (lf (Q := FnQ Tryz.prog) fn68)) (nd (lf (Q := FnQ Tryz.prog) fn69) (lf (Q := FnQ Tryz.prog) fn70))) (nd (nd (lf (Q := FnQ Tryz.prog) fn71) (lf (Q := FnQ Tryz.prog) fn72)) (nd (lf (Q := FnQ Tryz.prog) fn73) (lf (Q := FnQ Tryz.prog) fn74)))) (nd (nd (nd (lf (Q := FnQ Tryz.prog) fn75) (lf (Q := FnQ Tryz.prog) fn76)) (nd (lf (Q := FnQ Tryz.prog) fn77) (lf (Q := FnQ Tryz.prog) fn78))) (nd (nd (lf (Q := FnQ Tryz.prog) fn79) (lf (Q := FnQ Tryz.prog) fn80)) (nd (lf (Q := FnQ Tryz.prog) fn81) (lf (Q := FnQ Tryz.prog) fn82))))) (nd (nd (nd (nd (lf (Q := FnQ Tryz.prog) fn83) (lf (Q := FnQ Tryz.prog) fn84)) (nd (lf (Q := FnQ Tryz.prog) fn85) (lf (Q := FnQ Tryz.prog) fn86))) (nd (nd (lf (Q := FnQ Tryz.prog) fn87) (lf (Q := FnQ Tryz.prog) fn88)) (nd (lf (Q := FnQ Tryz.prog) fn89) (lf (Q := FnQ Tryz.prog) fn90)))) (nd (nd (nd (lf (Q := FnQ Tryz.prog) fn91) (lf (Q := FnQ Tryz.prog) fn92)) (nd (lf (Q := FnQ Tryz.prog) fn93) (lf (Q := FnQ Tryz.prog) fn94))) (nd (nd (lf (Q := FnQ Tryz.prog) fn95) (lf (Q := FnQ Tryz.prog) fn96)) (nd (lf (Q := FnQ Tryz.prog) fn97) (lf (Q := FnQ Tryz.prog) fn98)))))) (nd (nd (nd (nd (nd (lf (Q := FnQ Tryz.prog) fn99) (lf (Q := FnQ Tryz.prog) fn100)) (nd (lf (Q := FnQ Tryz.prog) fn101) (lf (Q := FnQ Tryz.prog) fn102))) (nd (nd (lf (Q := FnQ Tryz.prog) fn103) (lf (Q := FnQ Tryz.prog) fn104)) (nd (lf (Q := FnQ Tryz.prog) fn105) (lf (Q := FnQ Tryz.prog) fn106)))) (nd (nd (nd (lf (Q := FnQ Tryz.prog) fn107) (lf (Q := FnQ Tryz.prog) fn108)) (nd (lf (Q := FnQ Tryz.prog) fn109) (lf (Q := FnQ Tryz.prog) fn110))) (nd (nd (lf (Q := FnQ Tryz.prog) fn111) (lf (Q := FnQ Tryz.prog) fn114)) (nd (lf (Q := FnQ Tryz.prog) fn115) (lf (Q := FnQ Tryz.prog) fn116))))) (nd (nd (nd (nd (lf (Q := FnQ Tryz.prog) fn117) (lf (Q := FnQ Tryz.prog) fn118)) (nd (lf (Q := FnQ Tryz.prog) fn119) (lf (Q := FnQ Tryz.prog) fn120))) (nd (nd (lf (Q := FnQ Tryz.prog) fn121) (lf (Q := FnQ Tryz.prog) fn122)) (nd (lf (Q := FnQ Tryz.prog) fn123) (lf (Q := FnQ Tryz.prog) fn124)))) (nd (nd (nd (lf (Q := FnQ Tryz.prog) fn125) (lf (Q := FnQ Tryz.prog) fn126)) (nd (lf (Q := FnQ Tryz.prog) fn127) (lf (Q := FnQ Tryz.prog) fn128))) (nd (nd (lf (Q := FnQ Tryz.prog) fn129) (lf (Q := FnQ Tryz.prog) fn130)) (nd (lf (Q := FnQ Tryz.prog) fn131) (lf (Q := FnQ Tryz.prog) fn132)))))))) (nd (nd (nd (nd (nd (nd (nd (lf (Q := FnQ Tryz.prog) fn133) (lf (Q := FnQ Tryz.prog) fn134)) (nd (lf (Q := FnQ Tryz.prog) fn135) (lf (Q := FnQ Tryz.prog) fn136))) (nd (nd (lf (Q := FnQ Tryz.prog) fn137) (lf (Q := FnQ Tryz.prog) fn138)) (nd (lf (Q := FnQ Tryz.prog) fn139) (lf (Q := FnQ Tryz.prog) fn140)))) (nd (nd (nd (lf (Q := FnQ Tryz.prog) fn141) (lf (Q := FnQ Tryz.prog) fn142)) (nd (lf (Q := FnQ Tryz.prog) fn143) (lf (Q := FnQ Tryz.prog) fn144))) (nd (nd (lf (Q := FnQ Tryz.prog) fn145) (lf (Q := FnQ Tryz.prog) fn146)) (nd (lf (Q := FnQ Tryz.prog) fn147) (lf (Q := FnQ Tryz.prog) fn148))))) (nd (nd (nd (nd (lf (Q := FnQ Tryz.prog) fn149) (lf (Q := FnQ Tryz.prog) fn150)) (nd (lf (Q := FnQ Tryz.prog) fn151) (lf (Q := FnQ Tryz.prog) fn152))) (nd (nd (lf (Q := FnQ Tryz.prog) fn153) (lf (Q := FnQ Tryz.prog) fn154)) (nd (lf (Q := FnQ Tryz.prog) fn155) (lf (Q := FnQ Tryz.prog) fn156)))) (nd (nd (nd (lf (Q := FnQ Tryz.prog) fn157) (lf (Q := FnQ Tryz.prog) fn158)) (nd (lf (Q := FnQ Tryz.prog) fn159) (lf (Q := FnQ Tryz.prog) fn160))) (nd (nd (lf (Q := FnQ Tryz.prog) fn161) (lf (Q := FnQ Tryz.prog) fn162)) (nd (lf (Q := FnQ Tryz.prog) fn163) (lf (Q := FnQ Tryz.prog) fn164)))))) (nd (nd (nd (nd (nd (lf (Q := FnQ Tryz.prog) fn165) (lf (Q := FnQ Tryz.prog) fn166)) (nd (lf (Q := FnQ Tryz.prog) fn167) (lf (Q := FnQ Tryz.prog) fn168))) (nd (nd (lf (Q := FnQ Tryz.prog) fn169) (lf (Q := FnQ Tryz.prog) fn170)) (nd (lf (Q := FnQ Tryz.prog) fn171) (lf (Q := FnQ Tryz.prog) fn172)))) (nd (nd (nd (lf (Q := FnQ Tryz.prog) fn173) (lf (Q := FnQ Tryz.prog) fn174)) (nd (lf (Q := FnQ Tryz.prog) fn175) (lf (Q := FnQ Tryz.prog) fn176))) (nd (nd (lf (Q := FnQ Tryz.prog) fn177) (lf (Q := FnQ Tryz.prog) fn178)) (nd (lf (Q := FnQ Tryz.prog) fn179) (lf (Q := FnQ Tryz.prog) fn180))))) (nd (nd (nd (nd (lf (Q := FnQ Tryz.prog) fn181) (lf (Q := FnQ Tryz.prog) fn182)) (nd (lf (Q := FnQ Tryz.prog) fn183) (lf (Q := FnQ Tryz.prog) fn184))) (nd (nd (lf (Q := FnQ Tryz.prog) fn185) (lf (Q := FnQ Tryz.prog) fn186)) (nd (lf (Q := FnQ Tryz.prog) fn187) (lf (Q := FnQ Tryz.prog) fn188)))) (nd (nd (nd (lf (Q := FnQ Tryz.prog) fn189) (lf (Q := FnQ Tryz.prog) fn190)) (nd (lf (Q := FnQ Tryz.prog) fn191) (lf (Q := FnQ Tryz.prog) fn192))) (nd (nd (lf (Q := FnQ Tryz.prog) fn193) (lf (Q := FnQ Tryz.prog) fn194)) (nd (lf (Q := FnQ Tryz.prog) fn195) (lf (Q := FnQ Tryz.prog) fn196))))))) (nd (nd (nd (nd (nd (nd (lf (Q := FnQ Tryz.prog) fn197) (lf (Q := FnQ Tryz.prog) fn198)) (nd (lf (Q := FnQ Tryz.prog) fn199) (lf (Q := FnQ Tryz.prog) fn200))) (nd (nd (lf (Q := FnQ Tryz.prog) fn201) (lf (Q := FnQ Tryz.prog) fn202)) (nd (lf (Q := FnQ Tryz.prog) fn203) (lf (Q := FnQ Tryz.prog) fn204)))) (nd (nd (nd (lf (Q := FnQ Tryz.prog) fn205) (lf (Q := FnQ Tryz.prog) fn206)) (nd (lf (Q := FnQ Tryz.prog) fn207) (lf (Q := FnQ Tryz.prog) fn208))) (nd (nd (lf (Q := FnQ Tryz.prog) fn209) (lf (Q := FnQ Tryz.prog) fn210)) (nd (lf (Q := FnQ Tryz.prog) fn211) (lf (Q := FnQ Tryz.prog) fn212))))) (nd (nd (nd (nd (lf (Q := FnQ Tryz.prog) fn213) (lf (Q := FnQ Tryz.prog) fn214)) (nd (lf (Q := FnQ Tryz.prog) fn215) (lf (Q := FnQ Tryz.prog) fn216))) (nd (nd (lf (Q := FnQ Tryz.prog) fn217) (lf (Q := FnQ Tryz.prog) fn218)) (nd (lf (Q := FnQ Tryz.prog) fn219) (lf (Q := FnQ Tryz.prog) fn220)))) (nd (nd (nd (lf (Q := FnQ Tryz.prog) fn221) (lf (Q := FnQ Tryz.prog) fn222)) (nd (lf (Q := FnQ Tryz.prog) fn223) (lf (Q := FnQ Tryz.prog) fn224))) (nd (nd (lf (Q := FnQ Tryz.prog) fn225) (lf (Q := FnQ Tryz.prog) fn226)) (nd (lf (Q := FnQ Tryz.prog) fn227) (lf (Q := FnQ Tryz.prog) fn228)))))) (nd (nd (nd (nd (nd (lf (Q := FnQ Tryz.prog) fn229) (lf (Q := FnQ Tryz.prog) fn230)) (nd (lf (Q := FnQ Tryz.prog) fn231) (lf (Q := FnQ Tryz.prog) fn232))) (nd (nd (lf (Q := FnQ Tryz.prog) fn233) (lf (Q := FnQ Tryz.prog) fn234)) (nd (lf (Q := FnQ Tryz.prog) fn236) (lf (Q := FnQ Tryz.prog) fn237)))) (nd (nd (nd (lf (Q := FnQ Tryz.prog) fn238) (lf (Q := FnQ Tryz.prog) fn239)) (nd (lf (Q := FnQ Tryz.prog) fn240) (lf (Q := FnQ Tryz.prog) fn241))) (nd (nd (lf (Q := FnQ Tryz.prog) fn242) (lf (Q := FnQ Tryz.prog) fn243)) (nd (lf (Q := FnQ Tryz.prog) fn244) (lf (Q := FnQ Tryz.prog) fn245))))) (nd (nd (nd (nd (lf (Q := FnQ Tryz.prog) fn246) (lf (Q := FnQ Tryz.prog) fn247)) (nd (lf (Q := FnQ Tryz.prog) fn248) (lf (Q := FnQ Tryz.prog) fn249))) (nd (nd (lf (Q := FnQ Tryz.prog) fn250) (lf (Q := FnQ Tryz.prog) fn251)) (nd (lf (Q := FnQ Tryz.prog) fn252) (lf (Q := FnQ Tryz.prog) fn253)))) (nd (nd (nd (lf (Q := FnQ Tryz.prog) fn254) (lf (Q := FnQ Tryz.prog) fn255)) (nd (lf (Q := FnQ Tryz.prog) fn256) (lf (Q := FnQ Tryz.prog) fn257))) (nd (nd (lf (Q := FnQ Tryz.prog) fn258) (lf (Q := FnQ Tryz.prog) fn260)) (nd (lf (Q := FnQ Tryz.prog) fn268) (lf (Q := FnQ Tryz.prog) fn269)))))))))

def liveZ (t b : Nat) : List Nat := (if t ≤ 135 then (if t ≤ 80 then (if t ≤ 57 then (if t ≤ 43 then (if t ≤ 15 then (if t ≤ 8 then (if t = 8 then (if b = 0 then [3, 5, 12, 70, 71, 72] else []) else []) else (if t = 15 then (if b = 2 then [3, 5, 112, 113, 114] else (if b = 0 then [3, 5, 98, 99, 100] else [])) else [])) else (if t ≤ 27 then (if t = 27 then (if b = 2 then [1, 2, 3, 5, 6, 8, 9] else (if b = 0 then [1, 2, 3, 5, 6, 7] else [])) else []) else (if t ≤ 41 then (if t = 41 then (if b = 0 then [2, 3, 5] else []) else []) else (if t = 43 then (if b = 0 then [0, 1, 12, 13] else []) else [])))) else (if t ≤ 49 then (if t ≤ 44 then (if t = 44 then (if b = 0 then [0, 1, 12, 13] else []) else []) else (if t ≤ 46 then (if t = 46 then (if b = 6 then [1, 8] else (if b = 4 then [1, 3, 4, 5, 6, 7] else (if b = 2 then [1, 3, 4, 5] else (if b = 0 then [1, 3, 4] else [])))) else []) else (if t = 49 then (if b = 2 then [6, 8, 12, 13, 14, 61, 62, 63] else (if b = 0 then [6, 8, 12, 13, 14, 39, 40, 41] else [])) else []))) else (if t ≤ 50 then (if t = 50 then (if b = 2 then [4, 6, 7, 8, 9, 11] else (if b = 0 then [4, 6, 7, 8, 9, 10] else [])) else []) else (if t ≤ 53 then (if t = 53 then (if b = 2 then [6, 25, 26, 27] else (if b = 0 then [0, 3, 9, 10, 11] else [])) else []) else (if t = 57 then (if b = 2 then [2, 3, 9] else (if b = 0 then [2, 3, 7] else [])) else []))))) else (if t ≤ 72 then (if t ≤ 62 then (if t ≤ 59 then (if t = 59 then (if b = 2 then [2, 3, 5, 6] else (if b = 0 then [2, 3, 5] else [])) else []) else (if t ≤ 60 then (if t = 60 then (if b = 0 then [2, 3, 5] else []) else []) else (if t = 62 then (if b = 2 then [3, 5, 6, 8, 9, 13, 14, 15, 16, 97, 98, 99] else (if b = 0 then [3, 5, 6, 8, 9, 13, 14, 15, 16, 53, 54, 55] else [])) else []))) else (if t ≤ 64 then (if t = 64 then (if b = 0 then [0, 1, 5] else []) else []) else (if t ≤ 66 then (if t = 66 then (if b = 4 then [2, 3, 4, 5, 13, 14] else (if b = 2 then [2, 3, 4, 5, 6, 7, 8, 9, 11, 12] else (if b = 0 then [2, 3, 4, 5, 6, 7] else []))) else []) else (if t = 72 then (if b = 0 then [0, 1, 7, 8] else []) else [])))) else (if t ≤ 76 then (if t ≤ 73 then (if t = 73 then (if b = 0 then [0, 3, 4] else []) else []) else (if t ≤ 74 then (if t = 74 then (if b = 2 then [1, 6] else (if b = 0 then [1, 4] else [])) else []) else (if t = 76 then (if b = 2 then [3, 13] else (if b = 0 then [2, 3, 8] else [])) else []))) else (if t ≤ 77 then (if t = 77 then (if b = 0 then [2, 3, 6] else []) else []) else (if t ≤ 79 then (if t = 79 then (if b = 2 then [0, 3, 4] else (if b = 0 then [0, 3] else [])) else []) else (if t = 80 then (if b = 2 then [3, 4, 5, 10] else (if b = 0 then [2, 3, 4, 5, 9] else [])) else [])))))) else (if t ≤ 115 then (if t ≤ 96 then (if t ≤ 92 then (if t ≤ 87 then (if t = 87 then (if b = 2 then [2, 6, 7, 39, 40, 41] else (if b = 0 then [1, 2, 3, 6, 7, 13, 14, 15] else [])) else []) else (if t ≤ 90 then (if t = 90 then (if b = 0 then [0, 1, 7, 8] else []) else []) else (if t = 92 then (if b = 2 then [2, 3, 4, 6, 7, 9] else (if b = 0 then [2, 3, 4, 6, 7, 8] else [])) else []))) else (if t ≤ 93 then (if t = 93 then (if b = 0 then [0, 1, 5] else []) else []) else (if t ≤ 94 then (if t = 94 then (if b = 2 then [2, 3, 4, 5, 7] else (if b = 0 then [2, 3, 4, 5, 6] else [])) else []) else (if t = 96 then (if b = 3 then [1, 44, 45, 46] else (if b = 1 then [1, 27, 28, 29] else [])) else [])))) else (if t ≤ 105 then (if t ≤ 98 then (if t = 98 then (if b = 0 then [2, 3, 8, 58, 59, 60] else []) else []) else (if t ≤ 99 then (if t = 99 then (if b = 1 then [2, 3, 46, 47] else []) else []) else (if t = 105 then (if b = 0 then [0, 1, 7, 8] else []) else []))) else (if t ≤ 109 then (if t = 109 then (if b = 2 then [2, 3, 6] else (if b = 0 then [2, 3, 5] else [])) else []) else (if t ≤ 111 then (if t = 111 then (if b = 0 then [2, 3, 5] else []) else []) else (if t = 115 then (if b = 2 then [2, 3, 4, 5, 8, 9, 10, 11, 12, 13, 16] else (if b = 0 then [2, 3, 4, 5, 8, 9, 10, 11, 12, 13, 14] else [])) else []))))) else (if t ≤ 125 then (if t ≤ 122 then (if t ≤ 116 then (if t = 116 then (if b = 0 then [1, 3, 4] else []) else []) else (if t ≤ 117 then (if t = 117 then (if b = 0 then [7, 8, 9] else []) else []) else (if t = 122 then (if b = 0 then [0, 3, 4] else []) else []))) else (if t ≤ 123 then (if t = 123 then (if b = 0 then [0, 1, 5, 6] else []) else []) else (if t ≤ 124 then (if t = 124 then (if b = 4 then [7, 8, 9] else (if b = 2 then [7, 8] else (if b = 0 then [1, 2, 5, 6] else []))) else []) else (if t = 125 then (if b = 0 then [1, 2, 5, 6] else []) else [])))) else (if t ≤ 131 then (if t ≤ 127 then (if t = 127 then (if b = 2 then [1, 4] else (if b = 0 then [1, 3] else [])) else []) else (if t ≤ 128 then (if t = 128 then (if b = 2 then [2, 3, 6] else (if b = 0 then [2, 3, 5] else [])) else []) else (if t = 131 then (if b = 0 then [0, 1, 5] else []) else []))) else (if t ≤ 132 then (if t = 132 then (if b = 0 then [1, 2, 5] else []) else []) else (if t ≤ 133 then (if t = 133 then (if b = 0 then [2, 4, 7, 10] else []) else []) else (if t = 135 then (if b = 2 then [2, 3, 4, 5, 8, 10] else (if b = 0 then [2, 3, 4, 5, 8, 9] else [])) else []))))))) else (if t ≤ 198 then (if t ≤ 160 then (if t ≤ 142 then (if t ≤ 138 then (if t ≤ 136 then (if t = 136 then (if b = 2 then [3, 4, 5, 10] else (if b = 0 then [3, 4, 5, 9] else [])) else []) else (if t = 138 then (if b = 0 then [3, 5, 7, 10] else []) else [])) else (if t ≤ 140 then (if t = 140 then (if b = 0 then [1, 2, 5] else []) else []) else (if t ≤ 141 then (if t = 141 then (if b = 2 then [2, 3, 21, 22] else (if b = 0 then [1, 2, 3, 8, 9] else [])) else []) else (if t = 142 then (if b = 2 then [2, 3, 67, 68] else (if b = 0 then [2, 3, 37, 38, 39] else [])) else [])))) else (if t ≤ 153 then (if t ≤ 143 then (if t = 143 then (if b = 0 then [3, 8, 9, 10] else []) else []) else (if t ≤ 144 then (if t = 144 then (if b = 1 then [6, 7] else []) else []) else (if t = 153 then (if b = 0 then [0, 17, 18, 19] else []) else []))) else (if t ≤ 157 then (if t = 157 then (if b = 2 then [2, 3, 4, 5, 8, 41, 42, 43] else (if b = 0 then [2, 3, 4, 5, 8, 23, 24, 25] else [])) else []) else (if t ≤ 158 then (if t = 158 then (if b = 2 then [3, 4, 5, 71, 72, 73] else (if b = 0 then [3, 4, 5, 42, 43, 44] else [])) else []) else (if t = 160 then (if b = 0 then [0, 5, 7, 8] else []) else []))))) else (if t ≤ 174 then (if t ≤ 167 then (if t ≤ 164 then (if t = 164 then (if b = 0 then [3, 4, 51, 52, 53] else []) else []) else (if t ≤ 166 then (if t = 166 then (if b = 0 then [1, 2, 5] else []) else []) else (if t = 167 then (if b = 0 then [0, 1, 5] else []) else []))) else (if t ≤ 169 then (if t = 169 then (if b = 0 then [0, 1, 5, 6] else []) else []) else (if t ≤ 170 then (if t = 170 then (if b = 0 then [0, 1, 5] else []) else []) else (if t = 174 then (if b = 0 then [0, 1, 4, 12, 13] else []) else [])))) else (if t ≤ 180 then (if t ≤ 178 then (if t = 178 then (if b = 0 then [2, 3, 7] else []) else []) else (if t ≤ 179 then (if t = 179 then (if b = 0 then [0, 1, 5] else []) else []) else (if t = 180 then (if b = 0 then [1, 3] else []) else []))) else (if t ≤ 181 then (if t = 181 then (if b = 0 then [1, 4, 5, 6] else []) else []) else (if t ≤ 182 then (if t = 182 then (if b = 0 then [5, 7, 8] else []) else []) else (if t = 198 then (if b = 0 then [0, 1, 7, 8] else []) else [])))))) else (if t ≤ 223 then (if t ≤ 212 then (if t ≤ 207 then (if t ≤ 199 then (if t = 199 then (if b = 0 then [7, 20, 21] else []) else []) else (if t ≤ 201 then (if t = 201 then (if b = 0 then [0, 1, 7, 8] else []) else []) else (if t = 207 then (if b = 0 then [0, 1, 6, 7, 8] else []) else []))) else (if t ≤ 210 then (if t = 210 then (if b = 0 then [1, 4, 5, 11, 12, 13] else []) else []) else (if t ≤ 211 then (if t = 211 then (if b = 0 then [4, 7, 8] else []) else []) else (if t = 212 then (if b = 0 then [0, 2, 3] else []) else [])))) else (if t ≤ 217 then (if t ≤ 213 then (if t = 213 then (if b = 2 then [0, 3, 4] else (if b = 0 then [0, 3] else [])) else []) else (if t ≤ 216 then (if t = 216 then (if b = 0 then [0, 1, 2, 7] else []) else []) else (if t = 217 then (if b = 0 then [0, 1, 5] else []) else []))) else (if t ≤ 220 then (if t = 220 then (if b = 0 then [0, 1, 5] else []) else []) else (if t ≤ 221 then (if t = 221 then (if b = 0 then [0, 1, 5] else []) else []) else (if t = 223 then (if b = 0 then [1, 2, 5] else []) else []))))) else (if t ≤ 242 then (if t ≤ 229 then (if t ≤ 226 then (if t = 226 then (if b = 0 then [0, 8, 9, 10] else []) else []) else (if t ≤ 227 then (if t = 227 then (if b = 0 then [0, 1, 7, 8] else []) else []) else (if t = 229 then (if b = 0 then [0, 1, 5] else []) else []))) else (if t ≤ 237 then (if t = 237 then (if b = 0 then [0, 1, 7, 8] else []) else []) else (if t ≤ 238 then (if t = 238 then (if b = 0 then [2, 3, 28, 29, 30] else []) else []) else (if t = 242 then (if b = 2 then [0, 3, 4, 5] else (if b = 0 then [0, 3] else [])) else [])))) else (if t ≤ 255 then (if t ≤ 248 then (if t = 248 then (if b = 0 then [0, 1, 7, 8] else []) else []) else (if t ≤ 252 then (if t = 252 then (if b = 0 then [0, 1, 7, 8, 9] else []) else []) else (if t = 255 then (if b = 0 then [0, 1, 2, 3, 8, 9] else []) else []))) else (if t ≤ 257 then (if t = 257 then (if b = 0 then [0, 1, 7, 8] else []) else []) else (if t ≤ 258 then (if t = 258 then (if b = 0 then [0, 1, 7, 8] else []) else []) else (if t = 260 then (if b = 2 then [0, 1, 2, 6, 7] else (if b = 0 then [0, 1, 2, 6] else [])) else []))))))))
def modesZ (t : Nat) : List Nat := if t = 212 then [2] else if t = 241 then [2] else if t = 242 then [1] else if t = 255 then [2] else if t = 260 then [2] else []
def ikZ (t : Nat) : Option IntKind := (if t ≤ 6 then (if t ≤ 3 then (if t ≤ 2 then (if t = 2 then some .i64 else none) else (if t = 3 then some .i64 else none)) else (if t ≤ 5 then (if t = 5 then some .u8 else none) else (if t = 6 then some .u8 else none))) else (if t ≤ 232 then (if t ≤ 47 then (if t = 47 then some .i64 else none) else (if t = 232 then some .u64 else none)) else (if t ≤ 241 then (if t = 241 then some .i64 else none) else (if t ≤ 248 then (if t = 248 then some .u32 else none) else (if t = 250 then some .u64 else none)))))
theorem ikZ_ok : ∀ t k, ikZ t = some k → IkQ Tryz.prog t k := fun t => (nd (nd (nd (lf (Q := IkQ Tryz.prog) Tryz.underlying2) (lf (Q := IkQ Tryz.prog) Tryz.underlying3)) (nd (lf (Q := IkQ Tryz.prog) Tryz.underlying5) (lf (Q := IkQ Tryz.prog) Tryz.underlying6))) (nd (nd (lf (Q := IkQ Tryz.prog) Tryz.underlying47) (lf (Q := IkQ Tryz.prog) Tryz.underlying232)) (nd (lf (Q := IkQ Tryz.prog) Tryz.underlying241) (nd (lf (Q := IkQ Tryz.prog) Tryz.underlying248) (lf (Q := IkQ Tryz.prog) Tryz.underlying250)))))
theorem eq74 : EqQ Tryz.prog 74 3 := fun l l2 w x y hn hl hk => eqOk_of Tryz.underlying74 Tryz.eqGuardType74 Tryz.stoodInHeld74 ⟨rfl, by decide, ⟨_, Tryz.underlying3⟩, ⟨rfl, by decide, ⟨_, Tryz.underlying3⟩, ⟨rfl, by decide, ⟨_, Tryz.underlying3⟩, True.intro⟩⟩⟩ l l2 w x y hn hl hk
theorem eq162 : EqQ Tryz.prog 162 2 := fun l l2 w x y hn hl hk => eqOk_of Tryz.underlying162 Tryz.eqGuardType162 Tryz.stoodInHeld162 ⟨rfl, by decide, ⟨_, Tryz.underlying3⟩, ⟨rfl, by decide, ⟨_, Tryz.underlying3⟩, True.intro⟩⟩ l l2 w x y hn hl hk
def eqZ (t : Nat) : Option Nat := (if t ≤ 74 then (if t = 74 then some 3 else none) else (if t = 162 then some 2 else none))
theorem eqZ_ok : ∀ t n, eqZ t = some n → EqQ Tryz.prog t n := fun t => (nd (lf (Q := EqQ Tryz.prog) eq74) (lf (Q := EqQ Tryz.prog) eq162))
def ftyZ (t f : Nat) : Option Nat := bif eqN t 104 && eqN f 0 then some 33 else none
theorem ftyZ_ok : FtOk Tryz.prog ftyZ := by
  intro t f ft h fs fd hu hf
  unfold ftyZ at h
  cases hb104_0 : (eqN t 104 && eqN f 0) with
  | true =>
    rw [hb104_0] at h
    simp only [Bool.and_eq_true] at hb104_0
    have e1 := beq_eq hb104_0.1
    have e2 := beq_eq hb104_0.2
    subst e1; subst e2
    cases h
    have := Tryz.underlying104.symm.trans hu
    cases this
    cases hf
    rfl
  | false =>
  rw [hb104_0] at h
  cases h
def Xz (f : Nat) (args : List Arg) : Option (R × Outs) :=
  match args with
  | [.one (.sl false e rows)] => bif eqN f 112 then (bif eqN e 1 && Nat.ble (rows.length * 8) 140737488355328 then some (.one (.own e rows), []) else none) else bif eqN f 113 then (bif eqN e 3 && Nat.ble (rows.length * 24) 140737488355328 then some (.one (.own e rows), []) else none) else bif eqN f 235 then (bif eqN e 1 && Nat.ble (rows.length * 16) 140737488355328 then some (.one (.own e rows), []) else none) else none
  | _ => none
noncomputable def Ez : Cfg := { F := Fz, T := Tz, modes := modesZ, live := liveZ, eqT := eqZ, ik := ikZ, fty := ftyZ, X := Xz }

noncomputable def Fc (t : Nat) : Option Func := if t = 112 then some Tryz.f112 else if t = 113 then some Tryz.f113 else if t = 235 then some Tryz.f235 else none
noncomputable def Ec : Cfg := { F := Fc, T := Tz, modes := modesZ, live := fun _ _ => [], eqT := eqZ, ik := ikZ, fty := ftyZ, X := fun _ _ => none }
theorem Fc112 : Ec.F 112 = some Tryz.f112 := rfl
theorem fn112 : FnQ Tryz.prog 112 Tryz.f112 := ⟨Tryz.func112, by decide, fun c hc => by cases hc; rfl⟩
theorem Fc113 : Ec.F 113 = some Tryz.f113 := rfl
theorem fn113 : FnQ Tryz.prog 113 Tryz.f113 := ⟨Tryz.func113, by decide, fun c hc => by cases hc; rfl⟩
theorem Fc235 : Ec.F 235 = some Tryz.f235 := rfl
theorem fn235 : FnQ Tryz.prog 235 Tryz.f235 := ⟨Tryz.func235, by decide, fun c hc => by cases hc; rfl⟩
-- clones: 112,1,8 113,3,24 235,1,16
theorem F3 : Ez.F 3 = some Tryz.f3 := rfl
theorem F4 : Ez.F 4 = some Tryz.f4 := rfl
theorem F5 : Ez.F 5 = some Tryz.f5 := rfl
theorem F6 : Ez.F 6 = some Tryz.f6 := rfl
theorem F7 : Ez.F 7 = some Tryz.f7 := rfl
theorem F8 : Ez.F 8 = some Tryz.f8 := rfl
theorem F9 : Ez.F 9 = some Tryz.f9 := rfl
theorem F10 : Ez.F 10 = some Tryz.f10 := rfl
theorem F11 : Ez.F 11 = some Tryz.f11 := rfl
theorem F12 : Ez.F 12 = some Tryz.f12 := rfl
theorem F13 : Ez.F 13 = some Tryz.f13 := rfl
theorem F14 : Ez.F 14 = some Tryz.f14 := rfl
theorem F15 : Ez.F 15 = some Tryz.f15 := rfl
theorem F16 : Ez.F 16 = some Tryz.f16 := rfl
theorem F17 : Ez.F 17 = some Tryz.f17 := rfl
theorem F18 : Ez.F 18 = some Tryz.f18 := rfl
theorem F19 : Ez.F 19 = some Tryz.f19 := rfl
theorem F20 : Ez.F 20 = some Tryz.f20 := rfl
theorem F21 : Ez.F 21 = some Tryz.f21 := rfl
theorem F22 : Ez.F 22 = some Tryz.f22 := rfl
theorem F23 : Ez.F 23 = some Tryz.f23 := rfl
theorem F24 : Ez.F 24 = some Tryz.f24 := rfl
theorem F25 : Ez.F 25 = some Tryz.f25 := rfl
theorem F26 : Ez.F 26 = some Tryz.f26 := rfl
theorem F27 : Ez.F 27 = some Tryz.f27 := rfl
theorem F28 : Ez.F 28 = some Tryz.f28 := rfl
theorem F29 : Ez.F 29 = some Tryz.f29 := rfl
theorem F30 : Ez.F 30 = some Tryz.f30 := rfl
theorem F31 : Ez.F 31 = some Tryz.f31 := rfl
theorem F32 : Ez.F 32 = some Tryz.f32 := rfl
theorem F33 : Ez.F 33 = some Tryz.f33 := rfl
theorem F34 : Ez.F 34 = some Tryz.f34 := rfl
theorem F35 : Ez.F 35 = some Tryz.f35 := rfl
theorem F36 : Ez.F 36 = some Tryz.f36 := rfl
theorem F37 : Ez.F 37 = some Tryz.f37 := rfl
theorem F38 : Ez.F 38 = some Tryz.f38 := rfl
theorem F39 : Ez.F 39 = some Tryz.f39 := rfl
theorem F40 : Ez.F 40 = some Tryz.f40 := rfl
theorem F41 : Ez.F 41 = some Tryz.f41 := rfl
theorem F42 : Ez.F 42 = some Tryz.f42 := rfl
theorem F43 : Ez.F 43 = some Tryz.f43 := rfl
theorem F44 : Ez.F 44 = some Tryz.f44 := rfl
theorem F45 : Ez.F 45 = some Tryz.f45 := rfl
theorem F46 : Ez.F 46 = some Tryz.f46 := rfl
theorem F47 : Ez.F 47 = some Tryz.f47 := rfl
theorem F48 : Ez.F 48 = some Tryz.f48 := rfl
theorem F49 : Ez.F 49 = some Tryz.f49 := rfl
theorem F50 : Ez.F 50 = some Tryz.f50 := rfl
theorem F51 : Ez.F 51 = some Tryz.f51 := rfl
theorem F52 : Ez.F 52 = some Tryz.f52 := rfl
theorem F53 : Ez.F 53 = some Tryz.f53 := rfl
theorem F54 : Ez.F 54 = some Tryz.f54 := rfl
theorem F55 : Ez.F 55 = some Tryz.f55 := rfl
theorem F56 : Ez.F 56 = some Tryz.f56 := rfl
theorem F57 : Ez.F 57 = some Tryz.f57 := rfl
theorem F58 : Ez.F 58 = some Tryz.f58 := rfl
theorem F59 : Ez.F 59 = some Tryz.f59 := rfl
theorem F60 : Ez.F 60 = some Tryz.f60 := rfl
theorem F61 : Ez.F 61 = some Tryz.f61 := rfl
theorem F62 : Ez.F 62 = some Tryz.f62 := rfl
theorem F63 : Ez.F 63 = some Tryz.f63 := rfl
theorem F64 : Ez.F 64 = some Tryz.f64 := rfl
theorem F65 : Ez.F 65 = some Tryz.f65 := rfl
theorem F66 : Ez.F 66 = some Tryz.f66 := rfl
theorem F67 : Ez.F 67 = some Tryz.f67 := rfl
theorem F68 : Ez.F 68 = some Tryz.f68 := rfl
theorem F69 : Ez.F 69 = some Tryz.f69 := rfl
theorem F70 : Ez.F 70 = some Tryz.f70 := rfl
theorem F71 : Ez.F 71 = some Tryz.f71 := rfl
theorem F72 : Ez.F 72 = some Tryz.f72 := rfl
theorem F73 : Ez.F 73 = some Tryz.f73 := rfl
theorem F74 : Ez.F 74 = some Tryz.f74 := rfl
theorem F75 : Ez.F 75 = some Tryz.f75 := rfl
theorem F76 : Ez.F 76 = some Tryz.f76 := rfl
theorem F77 : Ez.F 77 = some Tryz.f77 := rfl
theorem F78 : Ez.F 78 = some Tryz.f78 := rfl
theorem F79 : Ez.F 79 = some Tryz.f79 := rfl
theorem F80 : Ez.F 80 = some Tryz.f80 := rfl
theorem F81 : Ez.F 81 = some Tryz.f81 := rfl
theorem F82 : Ez.F 82 = some Tryz.f82 := rfl
theorem F83 : Ez.F 83 = some Tryz.f83 := rfl
theorem F84 : Ez.F 84 = some Tryz.f84 := rfl
theorem F85 : Ez.F 85 = some Tryz.f85 := rfl
theorem F86 : Ez.F 86 = some Tryz.f86 := rfl
theorem F87 : Ez.F 87 = some Tryz.f87 := rfl
theorem F88 : Ez.F 88 = some Tryz.f88 := rfl
theorem F89 : Ez.F 89 = some Tryz.f89 := rfl
theorem F90 : Ez.F 90 = some Tryz.f90 := rfl
theorem F91 : Ez.F 91 = some Tryz.f91 := rfl
theorem F92 : Ez.F 92 = some Tryz.f92 := rfl
theorem F93 : Ez.F 93 = some Tryz.f93 := rfl
theorem F94 : Ez.F 94 = some Tryz.f94 := rfl
theorem F95 : Ez.F 95 = some Tryz.f95 := rfl
theorem F96 : Ez.F 96 = some Tryz.f96 := rfl
theorem F97 : Ez.F 97 = some Tryz.f97 := rfl
theorem F98 : Ez.F 98 = some Tryz.f98 := rfl
theorem F99 : Ez.F 99 = some Tryz.f99 := rfl
theorem F100 : Ez.F 100 = some Tryz.f100 := rfl
theorem F101 : Ez.F 101 = some Tryz.f101 := rfl
theorem F102 : Ez.F 102 = some Tryz.f102 := rfl
theorem F103 : Ez.F 103 = some Tryz.f103 := rfl
theorem F104 : Ez.F 104 = some Tryz.f104 := rfl
theorem F105 : Ez.F 105 = some Tryz.f105 := rfl
theorem F106 : Ez.F 106 = some Tryz.f106 := rfl
theorem F107 : Ez.F 107 = some Tryz.f107 := rfl
theorem F108 : Ez.F 108 = some Tryz.f108 := rfl
theorem F109 : Ez.F 109 = some Tryz.f109 := rfl
theorem F110 : Ez.F 110 = some Tryz.f110 := rfl
theorem F111 : Ez.F 111 = some Tryz.f111 := rfl
theorem F114 : Ez.F 114 = some Tryz.f114 := rfl
theorem F115 : Ez.F 115 = some Tryz.f115 := rfl
theorem F116 : Ez.F 116 = some Tryz.f116 := rfl
theorem F117 : Ez.F 117 = some Tryz.f117 := rfl
theorem F118 : Ez.F 118 = some Tryz.f118 := rfl
theorem F119 : Ez.F 119 = some Tryz.f119 := rfl
theorem F120 : Ez.F 120 = some Tryz.f120 := rfl
theorem F121 : Ez.F 121 = some Tryz.f121 := rfl
theorem F122 : Ez.F 122 = some Tryz.f122 := rfl
theorem F123 : Ez.F 123 = some Tryz.f123 := rfl
theorem F124 : Ez.F 124 = some Tryz.f124 := rfl
theorem F125 : Ez.F 125 = some Tryz.f125 := rfl
theorem F126 : Ez.F 126 = some Tryz.f126 := rfl
theorem F127 : Ez.F 127 = some Tryz.f127 := rfl
theorem F128 : Ez.F 128 = some Tryz.f128 := rfl
theorem F129 : Ez.F 129 = some Tryz.f129 := rfl
theorem F130 : Ez.F 130 = some Tryz.f130 := rfl
theorem F131 : Ez.F 131 = some Tryz.f131 := rfl
theorem F132 : Ez.F 132 = some Tryz.f132 := rfl
theorem F133 : Ez.F 133 = some Tryz.f133 := rfl
theorem F134 : Ez.F 134 = some Tryz.f134 := rfl
theorem F135 : Ez.F 135 = some Tryz.f135 := rfl
theorem F136 : Ez.F 136 = some Tryz.f136 := rfl
theorem F137 : Ez.F 137 = some Tryz.f137 := rfl
theorem F138 : Ez.F 138 = some Tryz.f138 := rfl
theorem F139 : Ez.F 139 = some Tryz.f139 := rfl
theorem F140 : Ez.F 140 = some Tryz.f140 := rfl
theorem F141 : Ez.F 141 = some Tryz.f141 := rfl
theorem F142 : Ez.F 142 = some Tryz.f142 := rfl
theorem F143 : Ez.F 143 = some Tryz.f143 := rfl
theorem F144 : Ez.F 144 = some Tryz.f144 := rfl
theorem F145 : Ez.F 145 = some Tryz.f145 := rfl
theorem F146 : Ez.F 146 = some Tryz.f146 := rfl
theorem F147 : Ez.F 147 = some Tryz.f147 := rfl
theorem F148 : Ez.F 148 = some Tryz.f148 := rfl
theorem F149 : Ez.F 149 = some Tryz.f149 := rfl
theorem F150 : Ez.F 150 = some Tryz.f150 := rfl
theorem F151 : Ez.F 151 = some Tryz.f151 := rfl
theorem F152 : Ez.F 152 = some Tryz.f152 := rfl
theorem F153 : Ez.F 153 = some Tryz.f153 := rfl
theorem F154 : Ez.F 154 = some Tryz.f154 := rfl
theorem F155 : Ez.F 155 = some Tryz.f155 := rfl
theorem F156 : Ez.F 156 = some Tryz.f156 := rfl
theorem F157 : Ez.F 157 = some Tryz.f157 := rfl
theorem F158 : Ez.F 158 = some Tryz.f158 := rfl
theorem F159 : Ez.F 159 = some Tryz.f159 := rfl
theorem F160 : Ez.F 160 = some Tryz.f160 := rfl
theorem F161 : Ez.F 161 = some Tryz.f161 := rfl
theorem F162 : Ez.F 162 = some Tryz.f162 := rfl
theorem F163 : Ez.F 163 = some Tryz.f163 := rfl
theorem F164 : Ez.F 164 = some Tryz.f164 := rfl
theorem F165 : Ez.F 165 = some Tryz.f165 := rfl
theorem F166 : Ez.F 166 = some Tryz.f166 := rfl
theorem F167 : Ez.F 167 = some Tryz.f167 := rfl
theorem F168 : Ez.F 168 = some Tryz.f168 := rfl
theorem F169 : Ez.F 169 = some Tryz.f169 := rfl
theorem F170 : Ez.F 170 = some Tryz.f170 := rfl
theorem F171 : Ez.F 171 = some Tryz.f171 := rfl
theorem F172 : Ez.F 172 = some Tryz.f172 := rfl
theorem F173 : Ez.F 173 = some Tryz.f173 := rfl
theorem F174 : Ez.F 174 = some Tryz.f174 := rfl
theorem F175 : Ez.F 175 = some Tryz.f175 := rfl
theorem F176 : Ez.F 176 = some Tryz.f176 := rfl
theorem F177 : Ez.F 177 = some Tryz.f177 := rfl
theorem F178 : Ez.F 178 = some Tryz.f178 := rfl
theorem F179 : Ez.F 179 = some Tryz.f179 := rfl
theorem F180 : Ez.F 180 = some Tryz.f180 := rfl
theorem F181 : Ez.F 181 = some Tryz.f181 := rfl
theorem F182 : Ez.F 182 = some Tryz.f182 := rfl
theorem F183 : Ez.F 183 = some Tryz.f183 := rfl
theorem F184 : Ez.F 184 = some Tryz.f184 := rfl
theorem F185 : Ez.F 185 = some Tryz.f185 := rfl
theorem F186 : Ez.F 186 = some Tryz.f186 := rfl
theorem F187 : Ez.F 187 = some Tryz.f187 := rfl
theorem F188 : Ez.F 188 = some Tryz.f188 := rfl
theorem F189 : Ez.F 189 = some Tryz.f189 := rfl
theorem F190 : Ez.F 190 = some Tryz.f190 := rfl
theorem F191 : Ez.F 191 = some Tryz.f191 := rfl
theorem F192 : Ez.F 192 = some Tryz.f192 := rfl
theorem F193 : Ez.F 193 = some Tryz.f193 := rfl
theorem F194 : Ez.F 194 = some Tryz.f194 := rfl
theorem F195 : Ez.F 195 = some Tryz.f195 := rfl
theorem F196 : Ez.F 196 = some Tryz.f196 := rfl
theorem F197 : Ez.F 197 = some Tryz.f197 := rfl
theorem F198 : Ez.F 198 = some Tryz.f198 := rfl
theorem F199 : Ez.F 199 = some Tryz.f199 := rfl
theorem F200 : Ez.F 200 = some Tryz.f200 := rfl
theorem F201 : Ez.F 201 = some Tryz.f201 := rfl
theorem F202 : Ez.F 202 = some Tryz.f202 := rfl
theorem F203 : Ez.F 203 = some Tryz.f203 := rfl
theorem F204 : Ez.F 204 = some Tryz.f204 := rfl
theorem F205 : Ez.F 205 = some Tryz.f205 := rfl
theorem F206 : Ez.F 206 = some Tryz.f206 := rfl
theorem F207 : Ez.F 207 = some Tryz.f207 := rfl
theorem F208 : Ez.F 208 = some Tryz.f208 := rfl
theorem F209 : Ez.F 209 = some Tryz.f209 := rfl
theorem F210 : Ez.F 210 = some Tryz.f210 := rfl
theorem F211 : Ez.F 211 = some Tryz.f211 := rfl
theorem F212 : Ez.F 212 = some Tryz.f212 := rfl
theorem F213 : Ez.F 213 = some Tryz.f213 := rfl
theorem F214 : Ez.F 214 = some Tryz.f214 := rfl
theorem F215 : Ez.F 215 = some Tryz.f215 := rfl
theorem F216 : Ez.F 216 = some Tryz.f216 := rfl
theorem F217 : Ez.F 217 = some Tryz.f217 := rfl
theorem F218 : Ez.F 218 = some Tryz.f218 := rfl
theorem F219 : Ez.F 219 = some Tryz.f219 := rfl
theorem F220 : Ez.F 220 = some Tryz.f220 := rfl
theorem F221 : Ez.F 221 = some Tryz.f221 := rfl
theorem F222 : Ez.F 222 = some Tryz.f222 := rfl
theorem F223 : Ez.F 223 = some Tryz.f223 := rfl
theorem F224 : Ez.F 224 = some Tryz.f224 := rfl
theorem F225 : Ez.F 225 = some Tryz.f225 := rfl
theorem F226 : Ez.F 226 = some Tryz.f226 := rfl
theorem F227 : Ez.F 227 = some Tryz.f227 := rfl
theorem F228 : Ez.F 228 = some Tryz.f228 := rfl
theorem F229 : Ez.F 229 = some Tryz.f229 := rfl
theorem F230 : Ez.F 230 = some Tryz.f230 := rfl
theorem F231 : Ez.F 231 = some Tryz.f231 := rfl
theorem F232 : Ez.F 232 = some Tryz.f232 := rfl
theorem F233 : Ez.F 233 = some Tryz.f233 := rfl
theorem F234 : Ez.F 234 = some Tryz.f234 := rfl
theorem F236 : Ez.F 236 = some Tryz.f236 := rfl
theorem F237 : Ez.F 237 = some Tryz.f237 := rfl
theorem F238 : Ez.F 238 = some Tryz.f238 := rfl
theorem F239 : Ez.F 239 = some Tryz.f239 := rfl
theorem F240 : Ez.F 240 = some Tryz.f240 := rfl
theorem F241 : Ez.F 241 = some Tryz.f241 := rfl
theorem F242 : Ez.F 242 = some Tryz.f242 := rfl
theorem F243 : Ez.F 243 = some Tryz.f243 := rfl
theorem F244 : Ez.F 244 = some Tryz.f244 := rfl
theorem F245 : Ez.F 245 = some Tryz.f245 := rfl
theorem F246 : Ez.F 246 = some Tryz.f246 := rfl
theorem F247 : Ez.F 247 = some Tryz.f247 := rfl
theorem F248 : Ez.F 248 = some Tryz.f248 := rfl
theorem F249 : Ez.F 249 = some Tryz.f249 := rfl
theorem F250 : Ez.F 250 = some Tryz.f250 := rfl
theorem F251 : Ez.F 251 = some Tryz.f251 := rfl
theorem F252 : Ez.F 252 = some Tryz.f252 := rfl
theorem F253 : Ez.F 253 = some Tryz.f253 := rfl
theorem F254 : Ez.F 254 = some Tryz.f254 := rfl
theorem F255 : Ez.F 255 = some Tryz.f255 := rfl
theorem F256 : Ez.F 256 = some Tryz.f256 := rfl
theorem F257 : Ez.F 257 = some Tryz.f257 := rfl
theorem F258 : Ez.F 258 = some Tryz.f258 := rfl
theorem F260 : Ez.F 260 = some Tryz.f260 := rfl
theorem F268 : Ez.F 268 = some Tryz.f268 := rfl
theorem F269 : Ez.F 269 = some Tryz.f269 := rfl
end Am

