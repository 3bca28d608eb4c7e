/- A number's rest, as the law takes it. -/
import Derived.Test.YtfblhdiihlkmjaaGreatDoorKnown
namespace Go.Proofs.YtfblhdiihlkmjaaGreatDoor
open Go Go.Ev
/-- (p%n + n) % n -/
noncomputable def rest (p : Int) (n : Nat) : Int := Int.tmod (wrapInt .i64 (addInt (Int.tmod p (.ofNat n)) (.ofNat n))) (.ofNat n)
theorem rest_range {n : Nat} (h0 : 0 < n) (h1 : n < 1000) (p : Int) : 0 ≤ rest p n ∧ rest p n < n := by
  unfold rest
  rw [wrapInt_eq, addInt_eq]
  have hn : (Int.ofNat n : Int) = (n : Int) := rfl
  rw [hn]
  have a1 : (Int.tmod p n) < n := Int.tmod_lt_of_pos p (by omega)
  have a2 : -(n : Int) < Int.tmod p n := Int.lt_tmod_of_pos p (by omega)
  have hw : IntKind.i64.wrap (Int.tmod p n + n) = Int.tmod p n + n := by
    simp only [IntKind.wrap, IntKind.bits, IntKind.signed]
    simp
    omega
  rw [hw, Int.tmod_eq_emod_of_nonneg (by omega)]
  exact ⟨Int.emod_nonneg _ (by omega), Int.emod_lt_of_pos _ (by omega)⟩
end Go.Proofs.YtfblhdiihlkmjaaGreatDoor
