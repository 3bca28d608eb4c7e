/- TopFlawed comes to true at all whole numbers: by cases. -/
import Derived.Test.YtfblhdiihlkmjaaGreatDoorC0
import Derived.Test.YtfblhdiihlkmjaaGreatDoorC1
import Derived.Test.YtfblhdiihlkmjaaGreatDoorC2
import Derived.Test.YtfblhdiihlkmjaaGreatDoorC3
namespace Go.Proofs.YtfblhdiihlkmjaaGreatDoor
open Go Go.Ev
/-- Some surroundings in which the law comes to true. -/
def Comes (w p c : Int) : Prop := ∃ l hs, EnvOk (En l) ∧ ∀ t, tells (evF (En l) true 100000 4 [.int .i64 w, .int .i64 p, .int .i64 c] (hT t) ⟨hs, true⟩) = true
theorem lt8 {x : Int} (h : 0 ≤ x ∧ x < (8 : Nat)) : x = .ofNat 0 ∨ x = .ofNat 1 ∨ x = .ofNat 2 ∨ x = .ofNat 3 ∨ x = .ofNat 4 ∨ x = .ofNat 5 ∨ x = .ofNat 6 ∨ x = .ofNat 7 := by
  simp only [Int.ofNat_eq_natCast]; omega

theorem lt3' {x : Int} (h : 0 ≤ x ∧ x < (3 : Nat)) : x = .ofNat 0 ∨ x = .ofNat 1 ∨ x = .ofNat 2 := by
  simp only [Int.ofNat_eq_natCast]; omega
theorem lt5' {x : Int} (h : 0 ≤ x ∧ x < (5 : Nat)) : x = .ofNat 0 ∨ x = .ofNat 1 ∨ x = .ofNat 2 ∨ x = .ofNat 3 ∨ x = .ofNat 4 := by
  simp only [Int.ofNat_eq_natCast]; omega
theorem lt6' {x : Int} (h : 0 ≤ x ∧ x < (6 : Nat)) : x = .ofNat 0 ∨ x = .ofNat 1 ∨ x = .ofNat 2 ∨ x = .ofNat 3 ∨ x = .ofNat 4 ∨ x = .ofNat 5 := by
  simp only [Int.ofNat_eq_natCast]; omega
theorem lt7' {x : Int} (h : 0 ≤ x ∧ x < (7 : Nat)) : x = .ofNat 0 ∨ x = .ofNat 1 ∨ x = .ofNat 2 ∨ x = .ofNat 3 ∨ x = .ofNat 4 ∨ x = .ofNat 5 ∨ x = .ofNat 6 := by
  simp only [Int.ofNat_eq_natCast]; omega
theorem atI0 {w p : Int} (hd : boolNot (eqInt (Int.tmod w 2) 0) = false) (hp : rest p 8 = .ofNat 0) (c : Int) : Comes w p c := by
  rcases lt7' (rest_range (n := 7) (by omega) (by omega) c) with hc | hc | hc | hc | hc | hc | hc
  · exact ⟨_, _, known_ok ⟨_, vI0x8_ok⟩ ⟨_, vI0x8_ok⟩, fun t => by rw [cI0x0 t w p c, hd, hp, hc]; rfl⟩
  · exact ⟨_, _, known_ok ⟨_, vI0x15_ok⟩ ⟨_, vI0x15_ok⟩, fun t => by rw [cI0x1 t w p c, hd, hp, hc]; rfl⟩
  · exact ⟨_, _, known_ok ⟨_, vI0x18_ok⟩ ⟨_, vI0x18_ok⟩, fun t => by rw [cI0x2 t w p c, hd, hp, hc]; rfl⟩
  · exact ⟨_, _, known_ok ⟨_, vI0x21_ok⟩ ⟨_, vI0x21_ok⟩, fun t => by rw [cI0x3 t w p c, hd, hp, hc]; rfl⟩
  · exact ⟨_, _, known_ok ⟨_, vI0x22_ok⟩ ⟨_, vI0x22_ok⟩, fun t => by rw [cI0x4 t w p c, hd, hp, hc]; rfl⟩
  · exact ⟨_, _, known_ok ⟨_, vI0x26_ok⟩ ⟨_, vI0x26_ok⟩, fun t => by rw [cI0x5 t w p c, hd, hp, hc]; rfl⟩
  · exact ⟨_, _, known_ok ⟨_, vI0x27_ok⟩ ⟨_, vI0x27_ok⟩, fun t => by rw [cI0x6 t w p c, hd, hp, hc]; rfl⟩
theorem atI1 {w p : Int} (hd : boolNot (eqInt (Int.tmod w 2) 0) = false) (hp : rest p 8 = .ofNat 1) (c : Int) : Comes w p c := by
  rcases lt7' (rest_range (n := 7) (by omega) (by omega) c) with hc | hc | hc | hc | hc | hc | hc
  · exact ⟨_, _, known_ok ⟨_, vI1x8_ok⟩ ⟨_, vI1x8_ok⟩, fun t => by rw [cI1x0 t w p c, hd, hp, hc]; rfl⟩
  · exact ⟨_, _, known_ok ⟨_, vI1x15_ok⟩ ⟨_, vI1x15_ok⟩, fun t => by rw [cI1x1 t w p c, hd, hp, hc]; rfl⟩
  · exact ⟨_, _, known_ok ⟨_, vI1x18_ok⟩ ⟨_, vI1x18_ok⟩, fun t => by rw [cI1x2 t w p c, hd, hp, hc]; rfl⟩
  · exact ⟨_, _, known_ok ⟨_, vI1x21_ok⟩ ⟨_, vI1x21_ok⟩, fun t => by rw [cI1x3 t w p c, hd, hp, hc]; rfl⟩
  · exact ⟨_, _, known_ok ⟨_, vI1x22_ok⟩ ⟨_, vI1x22_ok⟩, fun t => by rw [cI1x4 t w p c, hd, hp, hc]; rfl⟩
  · exact ⟨_, _, known_ok ⟨_, vI1x26_ok⟩ ⟨_, vI1x26_ok⟩, fun t => by rw [cI1x5 t w p c, hd, hp, hc]; rfl⟩
  · exact ⟨_, _, known_ok ⟨_, vI1x27_ok⟩ ⟨_, vI1x27_ok⟩, fun t => by rw [cI1x6 t w p c, hd, hp, hc]; rfl⟩
theorem atI2 {w p : Int} (hd : boolNot (eqInt (Int.tmod w 2) 0) = false) (hp : rest p 8 = .ofNat 2) (c : Int) : Comes w p c := by
  rcases lt6' (rest_range (n := 6) (by omega) (by omega) c) with hc | hc | hc | hc | hc | hc
  · exact ⟨_, _, known_ok ⟨_, vI2x1_ok⟩ ⟨_, vI2x1_ok⟩, fun t => by rw [cI2x0 t w p c, hd, hp, hc]; rfl⟩
  · exact ⟨_, _, known_ok ⟨_, vI2x8_ok⟩ ⟨_, vI2x8_ok⟩, fun t => by rw [cI2x1 t w p c, hd, hp, hc]; rfl⟩
  · exact ⟨_, _, known_ok ⟨_, vI2x16_ok⟩ ⟨_, vI2x16_ok⟩, fun t => by rw [cI2x2 t w p c, hd, hp, hc]; rfl⟩
  · exact ⟨_, _, known_ok ⟨_, vI2x18_ok⟩ ⟨_, vI2x18_ok⟩, fun t => by rw [cI2x3 t w p c, hd, hp, hc]; rfl⟩
  · exact ⟨_, _, known_ok ⟨_, vI2x19_ok⟩ ⟨_, vI2x19_ok⟩, fun t => by rw [cI2x4 t w p c, hd, hp, hc]; rfl⟩
  · exact ⟨_, _, known_ok ⟨_, vI2x22_ok⟩ ⟨_, vI2x22_ok⟩, fun t => by rw [cI2x5 t w p c, hd, hp, hc]; rfl⟩
theorem atI3 {w p : Int} (hd : boolNot (eqInt (Int.tmod w 2) 0) = false) (hp : rest p 8 = .ofNat 3) (c : Int) : Comes w p c := by
  rcases lt6' (rest_range (n := 6) (by omega) (by omega) c) with hc | hc | hc | hc | hc | hc
  · exact ⟨_, _, known_ok ⟨_, vI3x1_ok⟩ ⟨_, vI3x1_ok⟩, fun t => by rw [cI3x0 t w p c, hd, hp, hc]; rfl⟩
  · exact ⟨_, _, known_ok ⟨_, vI3x8_ok⟩ ⟨_, vI3x8_ok⟩, fun t => by rw [cI3x1 t w p c, hd, hp, hc]; rfl⟩
  · exact ⟨_, _, known_ok ⟨_, vI3x16_ok⟩ ⟨_, vI3x16_ok⟩, fun t => by rw [cI3x2 t w p c, hd, hp, hc]; rfl⟩
  · exact ⟨_, _, known_ok ⟨_, vI3x18_ok⟩ ⟨_, vI3x18_ok⟩, fun t => by rw [cI3x3 t w p c, hd, hp, hc]; rfl⟩
  · exact ⟨_, _, known_ok ⟨_, vI3x19_ok⟩ ⟨_, vI3x19_ok⟩, fun t => by rw [cI3x4 t w p c, hd, hp, hc]; rfl⟩
  · exact ⟨_, _, known_ok ⟨_, vI3x22_ok⟩ ⟨_, vI3x22_ok⟩, fun t => by rw [cI3x5 t w p c, hd, hp, hc]; rfl⟩
theorem atI4 {w p : Int} (hd : boolNot (eqInt (Int.tmod w 2) 0) = false) (hp : rest p 8 = .ofNat 4) (c : Int) : Comes w p c := by
  rcases lt7' (rest_range (n := 7) (by omega) (by omega) c) with hc | hc | hc | hc | hc | hc | hc
  · exact ⟨_, _, known_ok ⟨_, vI4x8_ok⟩ ⟨_, vI4x8_ok⟩, fun t => by rw [cI4x0 t w p c, hd, hp, hc]; rfl⟩
  · exact ⟨_, _, known_ok ⟨_, vI4x15_ok⟩ ⟨_, vI4x15_ok⟩, fun t => by rw [cI4x1 t w p c, hd, hp, hc]; rfl⟩
  · exact ⟨_, _, known_ok ⟨_, vI4x18_ok⟩ ⟨_, vI4x18_ok⟩, fun t => by rw [cI4x2 t w p c, hd, hp, hc]; rfl⟩
  · exact ⟨_, _, known_ok ⟨_, vI4x21_ok⟩ ⟨_, vI4x21_ok⟩, fun t => by rw [cI4x3 t w p c, hd, hp, hc]; rfl⟩
  · exact ⟨_, _, known_ok ⟨_, vI4x22_ok⟩ ⟨_, vI4x22_ok⟩, fun t => by rw [cI4x4 t w p c, hd, hp, hc]; rfl⟩
  · exact ⟨_, _, known_ok ⟨_, vI4x26_ok⟩ ⟨_, vI4x26_ok⟩, fun t => by rw [cI4x5 t w p c, hd, hp, hc]; rfl⟩
  · exact ⟨_, _, known_ok ⟨_, vI4x27_ok⟩ ⟨_, vI4x27_ok⟩, fun t => by rw [cI4x6 t w p c, hd, hp, hc]; rfl⟩
theorem atI5 {w p : Int} (hd : boolNot (eqInt (Int.tmod w 2) 0) = false) (hp : rest p 8 = .ofNat 5) (c : Int) : Comes w p c := by
  rcases lt6' (rest_range (n := 6) (by omega) (by omega) c) with hc | hc | hc | hc | hc | hc
  · exact ⟨_, _, known_ok ⟨_, vI5x1_ok⟩ ⟨_, vI5x1_ok⟩, fun t => by rw [cI5x0 t w p c, hd, hp, hc]; rfl⟩
  · exact ⟨_, _, known_ok ⟨_, vI5x8_ok⟩ ⟨_, vI5x8_ok⟩, fun t => by rw [cI5x1 t w p c, hd, hp, hc]; rfl⟩
  · exact ⟨_, _, known_ok ⟨_, vI5x19_ok⟩ ⟨_, vI5x19_ok⟩, fun t => by rw [cI5x2 t w p c, hd, hp, hc]; rfl⟩
  · exact ⟨_, _, known_ok ⟨_, vI5x21_ok⟩ ⟨_, vI5x21_ok⟩, fun t => by rw [cI5x3 t w p c, hd, hp, hc]; rfl⟩
  · exact ⟨_, _, known_ok ⟨_, vI5x22_ok⟩ ⟨_, vI5x22_ok⟩, fun t => by rw [cI5x4 t w p c, hd, hp, hc]; rfl⟩
  · exact ⟨_, _, known_ok ⟨_, vI5x25_ok⟩ ⟨_, vI5x25_ok⟩, fun t => by rw [cI5x5 t w p c, hd, hp, hc]; rfl⟩
theorem atI6 {w p : Int} (hd : boolNot (eqInt (Int.tmod w 2) 0) = false) (hp : rest p 8 = .ofNat 6) (c : Int) : Comes w p c := by
  rcases lt5' (rest_range (n := 5) (by omega) (by omega) c) with hc | hc | hc | hc | hc
  · exact ⟨_, _, known_ok ⟨_, vI6x1_ok⟩ ⟨_, vI6x1_ok⟩, fun t => by rw [cI6x0 t w p c, hd, hp, hc]; rfl⟩
  · exact ⟨_, _, known_ok ⟨_, vI6x8_ok⟩ ⟨_, vI6x8_ok⟩, fun t => by rw [cI6x1 t w p c, hd, hp, hc]; rfl⟩
  · exact ⟨_, _, known_ok ⟨_, vI6x24_ok⟩ ⟨_, vI6x24_ok⟩, fun t => by rw [cI6x2 t w p c, hd, hp, hc]; rfl⟩
  · exact ⟨_, _, known_ok ⟨_, vI6x25_ok⟩ ⟨_, vI6x25_ok⟩, fun t => by rw [cI6x3 t w p c, hd, hp, hc]; rfl⟩
  · exact ⟨_, _, known_ok ⟨_, vI6x28_ok⟩ ⟨_, vI6x28_ok⟩, fun t => by rw [cI6x4 t w p c, hd, hp, hc]; rfl⟩
theorem atI7 {w p : Int} (hd : boolNot (eqInt (Int.tmod w 2) 0) = false) (hp : rest p 8 = .ofNat 7) (c : Int) : Comes w p c := by
  rcases lt5' (rest_range (n := 5) (by omega) (by omega) c) with hc | hc | hc | hc | hc
  · exact ⟨_, _, known_ok ⟨_, vI7x1_ok⟩ ⟨_, vI7x1_ok⟩, fun t => by rw [cI7x0 t w p c, hd, hp, hc]; rfl⟩
  · exact ⟨_, _, known_ok ⟨_, vI7x8_ok⟩ ⟨_, vI7x8_ok⟩, fun t => by rw [cI7x1 t w p c, hd, hp, hc]; rfl⟩
  · exact ⟨_, _, known_ok ⟨_, vI7x15_ok⟩ ⟨_, vI7x15_ok⟩, fun t => by rw [cI7x2 t w p c, hd, hp, hc]; rfl⟩
  · exact ⟨_, _, known_ok ⟨_, vI7x16_ok⟩ ⟨_, vI7x16_ok⟩, fun t => by rw [cI7x3 t w p c, hd, hp, hc]; rfl⟩
  · exact ⟨_, _, known_ok ⟨_, vI7x19_ok⟩ ⟨_, vI7x19_ok⟩, fun t => by rw [cI7x4 t w p c, hd, hp, hc]; rfl⟩
theorem atS0 {w p : Int} (hd : boolNot (eqInt (Int.tmod w 2) 0) = true) (hp : rest p 8 = .ofNat 0) (c : Int) : Comes w p c := by
  exact ⟨_, _, known_ok ⟨_, vS0_ok⟩ ⟨_, vS0_ok⟩, fun t => by rw [cS0 t w p c, hd, hp]; rfl⟩
theorem atS1 {w p : Int} (hd : boolNot (eqInt (Int.tmod w 2) 0) = true) (hp : rest p 8 = .ofNat 1) (c : Int) : Comes w p c := by
  exact ⟨_, _, known_ok ⟨_, vS1_ok⟩ ⟨_, vS1_ok⟩, fun t => by rw [cS1 t w p c, hd, hp]; rfl⟩
theorem atS2 {w p : Int} (hd : boolNot (eqInt (Int.tmod w 2) 0) = true) (hp : rest p 8 = .ofNat 2) (c : Int) : Comes w p c := by
  rcases lt5' (rest_range (n := 5) (by omega) (by omega) c) with hc | hc | hc | hc | hc
  · exact ⟨_, _, known_ok ⟨_, vS2x7_ok⟩ ⟨_, vS2x7_ok⟩, fun t => by rw [cS2x0 t w p c, hd, hp, hc]; rfl⟩
  · exact ⟨_, _, known_ok ⟨_, vS2x21_ok⟩ ⟨_, vS2x21_ok⟩, fun t => by rw [cS2x1 t w p c, hd, hp, hc]; rfl⟩
  · exact ⟨_, _, known_ok ⟨_, vS2x22_ok⟩ ⟨_, vS2x22_ok⟩, fun t => by rw [cS2x2 t w p c, hd, hp, hc]; rfl⟩
  · exact ⟨_, _, known_ok ⟨_, vS2x26_ok⟩ ⟨_, vS2x26_ok⟩, fun t => by rw [cS2x3 t w p c, hd, hp, hc]; rfl⟩
  · exact ⟨_, _, known_ok ⟨_, vS2x27_ok⟩ ⟨_, vS2x27_ok⟩, fun t => by rw [cS2x4 t w p c, hd, hp, hc]; rfl⟩
theorem atS3 {w p : Int} (hd : boolNot (eqInt (Int.tmod w 2) 0) = true) (hp : rest p 8 = .ofNat 3) (c : Int) : Comes w p c := by
  rcases lt3' (rest_range (n := 3) (by omega) (by omega) c) with hc | hc | hc
  · exact ⟨_, _, known_ok ⟨_, vS3x1_ok⟩ ⟨_, vS3x1_ok⟩, fun t => by rw [cS3x0 t w p c, hd, hp, hc]; rfl⟩
  · exact ⟨_, _, known_ok ⟨_, vS3x13_ok⟩ ⟨_, vS3x13_ok⟩, fun t => by rw [cS3x1 t w p c, hd, hp, hc]; rfl⟩
  · exact ⟨_, _, known_ok ⟨_, vS3x16_ok⟩ ⟨_, vS3x16_ok⟩, fun t => by rw [cS3x2 t w p c, hd, hp, hc]; rfl⟩
theorem atS4 {w p : Int} (hd : boolNot (eqInt (Int.tmod w 2) 0) = true) (hp : rest p 8 = .ofNat 4) (c : Int) : Comes w p c := by
  rcases lt7' (rest_range (n := 7) (by omega) (by omega) c) with hc | hc | hc | hc | hc | hc | hc
  · exact ⟨_, _, known_ok ⟨_, vS4x7_ok⟩ ⟨_, vS4x7_ok⟩, fun t => by rw [cS4x0 t w p c, hd, hp, hc]; rfl⟩
  · exact ⟨_, _, known_ok ⟨_, vS4x14_ok⟩ ⟨_, vS4x14_ok⟩, fun t => by rw [cS4x1 t w p c, hd, hp, hc]; rfl⟩
  · exact ⟨_, _, known_ok ⟨_, vS4x17_ok⟩ ⟨_, vS4x17_ok⟩, fun t => by rw [cS4x2 t w p c, hd, hp, hc]; rfl⟩
  · exact ⟨_, _, known_ok ⟨_, vS4x20_ok⟩ ⟨_, vS4x20_ok⟩, fun t => by rw [cS4x3 t w p c, hd, hp, hc]; rfl⟩
  · exact ⟨_, _, known_ok ⟨_, vS4x21_ok⟩ ⟨_, vS4x21_ok⟩, fun t => by rw [cS4x4 t w p c, hd, hp, hc]; rfl⟩
  · exact ⟨_, _, known_ok ⟨_, vS4x25_ok⟩ ⟨_, vS4x25_ok⟩, fun t => by rw [cS4x5 t w p c, hd, hp, hc]; rfl⟩
  · exact ⟨_, _, known_ok ⟨_, vS4x26_ok⟩ ⟨_, vS4x26_ok⟩, fun t => by rw [cS4x6 t w p c, hd, hp, hc]; rfl⟩
theorem atS5 {w p : Int} (hd : boolNot (eqInt (Int.tmod w 2) 0) = true) (hp : rest p 8 = .ofNat 5) (c : Int) : Comes w p c := by
  rcases lt6' (rest_range (n := 6) (by omega) (by omega) c) with hc | hc | hc | hc | hc | hc
  · exact ⟨_, _, known_ok ⟨_, vS5x1_ok⟩ ⟨_, vS5x1_ok⟩, fun t => by rw [cS5x0 t w p c, hd, hp, hc]; rfl⟩
  · exact ⟨_, _, known_ok ⟨_, vS5x8_ok⟩ ⟨_, vS5x8_ok⟩, fun t => by rw [cS5x1 t w p c, hd, hp, hc]; rfl⟩
  · exact ⟨_, _, known_ok ⟨_, vS5x16_ok⟩ ⟨_, vS5x16_ok⟩, fun t => by rw [cS5x2 t w p c, hd, hp, hc]; rfl⟩
  · exact ⟨_, _, known_ok ⟨_, vS5x18_ok⟩ ⟨_, vS5x18_ok⟩, fun t => by rw [cS5x3 t w p c, hd, hp, hc]; rfl⟩
  · exact ⟨_, _, known_ok ⟨_, vS5x19_ok⟩ ⟨_, vS5x19_ok⟩, fun t => by rw [cS5x4 t w p c, hd, hp, hc]; rfl⟩
  · exact ⟨_, _, known_ok ⟨_, vS5x22_ok⟩ ⟨_, vS5x22_ok⟩, fun t => by rw [cS5x5 t w p c, hd, hp, hc]; rfl⟩
theorem atS6 {w p : Int} (hd : boolNot (eqInt (Int.tmod w 2) 0) = true) (hp : rest p 8 = .ofNat 6) (c : Int) : Comes w p c := by
  rcases lt6' (rest_range (n := 6) (by omega) (by omega) c) with hc | hc | hc | hc | hc | hc
  · exact ⟨_, _, known_ok ⟨_, vS6x1_ok⟩ ⟨_, vS6x1_ok⟩, fun t => by rw [cS6x0 t w p c, hd, hp, hc]; rfl⟩
  · exact ⟨_, _, known_ok ⟨_, vS6x8_ok⟩ ⟨_, vS6x8_ok⟩, fun t => by rw [cS6x1 t w p c, hd, hp, hc]; rfl⟩
  · exact ⟨_, _, known_ok ⟨_, vS6x24_ok⟩ ⟨_, vS6x24_ok⟩, fun t => by rw [cS6x2 t w p c, hd, hp, hc]; rfl⟩
  · exact ⟨_, _, known_ok ⟨_, vS6x26_ok⟩ ⟨_, vS6x26_ok⟩, fun t => by rw [cS6x3 t w p c, hd, hp, hc]; rfl⟩
  · exact ⟨_, _, known_ok ⟨_, vS6x27_ok⟩ ⟨_, vS6x27_ok⟩, fun t => by rw [cS6x4 t w p c, hd, hp, hc]; rfl⟩
  · exact ⟨_, _, known_ok ⟨_, vS6x30_ok⟩ ⟨_, vS6x30_ok⟩, fun t => by rw [cS6x5 t w p c, hd, hp, hc]; rfl⟩
theorem atS7 {w p : Int} (hd : boolNot (eqInt (Int.tmod w 2) 0) = true) (hp : rest p 8 = .ofNat 7) (c : Int) : Comes w p c := by
  rcases lt5' (rest_range (n := 5) (by omega) (by omega) c) with hc | hc | hc | hc | hc
  · exact ⟨_, _, known_ok ⟨_, vS7x1_ok⟩ ⟨_, vS7x1_ok⟩, fun t => by rw [cS7x0 t w p c, hd, hp, hc]; rfl⟩
  · exact ⟨_, _, known_ok ⟨_, vS7x8_ok⟩ ⟨_, vS7x8_ok⟩, fun t => by rw [cS7x1 t w p c, hd, hp, hc]; rfl⟩
  · exact ⟨_, _, known_ok ⟨_, vS7x15_ok⟩ ⟨_, vS7x15_ok⟩, fun t => by rw [cS7x2 t w p c, hd, hp, hc]; rfl⟩
  · exact ⟨_, _, known_ok ⟨_, vS7x16_ok⟩ ⟨_, vS7x16_ok⟩, fun t => by rw [cS7x3 t w p c, hd, hp, hc]; rfl⟩
  · exact ⟨_, _, known_ok ⟨_, vS7x19_ok⟩ ⟨_, vS7x19_ok⟩, fun t => by rw [cS7x4 t w p c, hd, hp, hc]; rfl⟩
theorem flawed_comes (w p c : Int) : Comes w p c := by
  cases hd : boolNot (eqInt (Int.tmod w 2) 0)
  · rcases lt8 (rest_range (n := 8) (by omega) (by omega) p) with hp | hp | hp | hp | hp | hp | hp | hp
    · exact atI0 hd hp c
    · exact atI1 hd hp c
    · exact atI2 hd hp c
    · exact atI3 hd hp c
    · exact atI4 hd hp c
    · exact atI5 hd hp c
    · exact atI6 hd hp c
    · exact atI7 hd hp c
  · rcases lt8 (rest_range (n := 8) (by omega) (by omega) p) with hp | hp | hp | hp | hp | hp | hp | hp
    · exact atS0 hd hp c
    · exact atS1 hd hp c
    · exact atS2 hd hp c
    · exact atS3 hd hp c
    · exact atS4 hd hp c
    · exact atS5 hd hp c
    · exact atS6 hd hp c
    · exact atS7 hd hp c
end Go.Proofs.YtfblhdiihlkmjaaGreatDoor
