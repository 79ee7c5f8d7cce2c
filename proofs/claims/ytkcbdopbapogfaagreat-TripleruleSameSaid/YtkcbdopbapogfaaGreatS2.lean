/-
  What functions of the given program answer, as values, shown by that evaluator: each theorem bears its own conditions.
  By an AI agent. No person has read it.
-/
import Derived.Test.YtkcbdopbapogfaaGreatS1
set_option linter.all false
set_option maxRecDepth 100000
noncomputable section
namespace Am
open Go Go.Proofs

def wi (n m : Int) : Bool := decide (0 ≤ n) && decide (n ≤ m)
theorem ofn (n : Nat) : Int.ofNat n = (n : Int) := rfl

theorem s195 (n m : Int) : O Ez NR 195 [.one (vi n), .one (vi m)] = some (rb (wi n m), []) := by
  refine spec_of 1 F195 ?_
  intro rat rlen hat hln rcat hcat rcut hcut lp hlp o wrap lt le eq eqs nle tdiv tmod add sub mul room ho hw hlt hle heq heqs hnle hdiv hmod hadd hsub hmul hroom
  unfold wi
  rw [← hle, ← hle]
  generalize hr : (le 0 n && le n m) = r
  cbv
  cases h1 : le 0 n with
  | false => rw [h1] at hr; cbv; rw [← hr]; rfl
  | true =>
    rw [h1] at hr
    cbv
    rw [← hr]
    cases h2 : le n m <;> rfl

theorem s194 (n : Int) : O Ez NR 194 [.one (vi n)] = some (rb (!wi n 99), []) := by
  refine spec_of 1 F194 ?_
  intro rat rlen hat hln rcat hcat rcut hcut lp hlp o wrap lt le eq eqs nle tdiv tmod add sub mul room ho hw hlt hle heq heqs hnle hdiv hmod hadd hsub hmul hroom
  have e1 := ho _ _ _ (s195 n 99)
  generalize wi n 99 = r at e1 ⊢
  cbv
  rw [e1]
  cbv
  try rfl

/-- does an edge fit so many nodes? -/
def ef (n : Nat) (e : Int × Int × Int) : Bool := wi e.1 99 && (wi e.2.1 (Int.ofNat n - 1) && wi e.2.2 (Int.ofNat n - 1))
theorem s197 (e : Int × Int × Int) (n : Nat) (hn : n < 1000000) : O Ez NR 197 [.agg [vi e.1, vi e.2.1, vi e.2.2], .one (vi (Int.ofNat n))] = some (rb (ef n e), []) := by
  refine spec_of 1 F197 ?_
  intro rat rlen hat hln rcat hcat rcut hcut lp hlp o wrap lt le eq eqs nle tdiv tmod add sub mul room ho hw hlt hle heq heqs hnle hdiv hmod hadd hsub hmul hroom
  have e1 := ho _ _ _ (s195 e.1 99)
  have e2 := ho _ _ _ (s195 e.2.1 (Int.ofNat n - 1))
  have e3 := ho _ _ _ (s195 e.2.2 (Int.ofNat n - 1))
  have hs : sub .i64 (Int.ofNat n) 1 = Int.ofNat n - 1 := by rw [hsub]; exact wrap_of (by have := ofn n; omega) (by have := ofn n; omega)
  unfold ef
  generalize Int.ofNat n - 1 = m at e2 e3 hs ⊢
  generalize wi e.1 99 = b1 at e1 ⊢
  generalize wi e.2.1 m = b2 at e2 ⊢
  generalize wi e.2.2 m = b3 at e3 ⊢
  cbv
  rw [e1]
  cbv
  cases b1 <;> cbv
  rw [hs]
  cbv
  rw [e2]
  cbv
  cases b2 <;> cbv
  rw [hs]
  cbv
  rw [e3]
  cbv
end Am

