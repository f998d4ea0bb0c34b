/-
  What the functions of package tag answer: handles as numbers.
-/
import Derived.Test.YtngdmkgbldgmiaaProg
import Derived.WalkKit
import Derived.WalkSpells
import Derived.WalkLawsBesides
import Derived.Deep.QuietTactic
import Derived.BigQuiet
import Derived.Laws.BitsLemmas
namespace Go.Proofs.Ytngdmkgbldgmiaa
open Go.RowKit

theorem and16 (n : Int) : bits .and .i64 n 65535 = n % 65536 := by
  have h127 : (BitVec.ofInt 64 65535).toNat = 2 ^ 16 - 1 := by decide
  have key : (BitVec.ofInt 64 n &&& BitVec.ofInt 64 65535).toNat = (n % ((2 ^ 64 : Nat) : Int)).toNat % 2 ^ 16 := by
    rw [BitVec.toNat_and, BitVec.toNat_ofInt, h127, Nat.and_two_pow_sub_one_eq_mod]
  show IntKind.i64.wrap ((BitVec.ofInt 64 n &&& BitVec.ofInt 64 65535).toNat : Nat) = n % 65536
  rw [key, IntKind.wrap_i64]
  omega

/-- A number from 0 to another one; a handle's parts, as numbers. -/
def hWin (n m : Int) : Bool := decide (0 ≤ n ∧ n ≤ m)
def hRight (h : Int) : Bool := decide (0 ≤ h ∧ h < 1073741824 ∧ h % 65536 ≠ 0)
def hPlace (h : Int) : Int := if hRight h then h % 65536 - 1 else -1
def hGen (h : Int) : Int := if hRight h then h / 65536 else -1
def hMake (p g : Int) : Int := if 0 ≤ p ∧ p ≤ 65534 ∧ 0 ≤ g ∧ g ≤ 16383 then g * 65536 + p + 1 else 0

theorem ret_bool {a b : Bool} (h : a = b) : Ending.returned (.bool a) = .returned (.bool b) := by rw [h]
theorem ret_int {k : IntKind} {a b : Int} (h : a = b) : Ending.returned (.int k a) = .returned (.int k b) := by rw [h]

theorem within_any (n m : Int) (w : World) :
    Calls Try.prog 181 #[.int .i64 n, .int .i64 m] w fun e w' => e = .returned (.bool (hWin n m)) ∧ w' = w := by
  go_enter Try.func181, Try.ntmps181
  go_wp2
  all_goals go_ret
  all_goals refine ⟨ret_bool ?_, rfl⟩
  all_goals unfold hWin
  all_goals rw [Bool.eq_iff_iff]; simp; omega

theorem right_any (h : Int) (w : World) :
    Calls Try.prog 192 #[.int .i64 h] w fun e w' => e = .returned (.bool (hRight h)) ∧ w' = w := by
  have hb := and16 h
  go_enter Try.func192, Try.ntmps192
  go_wp2
  all_goals go_ret
  all_goals refine ⟨ret_bool ?_, rfl⟩
  all_goals unfold hRight
  all_goals rw [Bool.eq_iff_iff]; simp; omega

theorem place_any (h : Int) (w : World) :
    Calls Try.prog 182 #[.int .i64 h] w fun e w' => e = .returned (.int .i64 (hPlace h)) ∧ w' = w := by
  have hb := and16 h
  by_cases hr : hRight h = true
  · have hp : hPlace h = h % 65536 - 1 := by unfold hPlace; rw [if_pos hr]
    rw [hp]; clear hp
    go_enter Try.func182, Try.ntmps182
    go_wp2_with (go_at_call 192; refine (right_any h _).mono ?_; rintro e w' ⟨rfl, rfl⟩)
    go_ret
    exact ⟨rfl, rfl⟩
  · have hp : hPlace h = -1 := by unfold hPlace; rw [if_neg hr]
    rw [hp]; clear hp
    have hr' : hRight h = false := by simpa using hr
    clear hr
    go_enter Try.func182, Try.ntmps182
    go_wp2_with (go_at_call 192; refine (right_any h _).mono ?_; rintro e w' ⟨rfl, rfl⟩)
    go_ret
    exact ⟨rfl, rfl⟩

theorem gen_any (h : Int) (w : World) :
    Calls Try.prog 183 #[.int .i64 h] w fun e w' => e = .returned (.int .i64 (hGen h)) ∧ w' = w := by
  by_cases hr : hRight h = true
  · have hp : hGen h = h / 65536 := by unfold hGen; rw [if_pos hr]
    rw [hp]; clear hp
    go_enter Try.func183, Try.ntmps183
    go_wp2_with (go_at_call 192; refine (right_any h _).mono ?_; rintro e w' ⟨rfl, rfl⟩)
    go_ret
    exact ⟨rfl, rfl⟩
  · have hp : hGen h = -1 := by unfold hGen; rw [if_neg hr]
    rw [hp]; clear hp
    have hr' : hRight h = false := by simpa using hr
    clear hr
    go_enter Try.func183, Try.ntmps183
    go_wp2_with (go_at_call 192; refine (right_any h _).mono ?_; rintro e w' ⟨rfl, rfl⟩)
    go_ret
    exact ⟨rfl, rfl⟩

theorem wraps_i64 (n : Int) (h₀ : 0 ≤ n) (h₁ : n < 2 ^ 63) : IntKind.i64.wrap n = n := by rw [IntKind.wrap_i64]; omega
theorem or16 (g p : Int) (h1 : 0 ≤ g) (h2 : g ≤ 16383) (h3 : 0 ≤ p) (h4 : p < 65536) : bits .or .i64 (g * 65536) p = g * 65536 + p := by
  exact bits_join .i64 63 (by decide) wraps_i64 16 (g * 65536) p (by omega) (by omega) (by omega) h3 (by omega) (by omega)

theorem handle_any (p g : Int) (w : World) :
    Calls Try.prog 158 #[.int .i64 p, .int .i64 g] w fun e w' => e = .returned (.int .i64 (hMake p g)) ∧ w' = w := by
  by_cases h1 : hWin p 65534 = true
  · by_cases h2 : hWin g 16383 = true
    · have hb : 0 ≤ p ∧ p ≤ 65534 ∧ 0 ≤ g ∧ g ≤ 16383 := by simp [hWin] at h1 h2; omega
      have hp : hMake p g = g * 65536 + (p + 1) := by unfold hMake; rw [if_pos hb]; omega
      rw [hp]; clear hp
      obtain ⟨b1, b2, b3, b4⟩ := hb
      have ho := or16 g (p + 1) b3 b4 (by omega) (by omega)
      go_enter Try.func158, Try.ntmps158
      go_wp2_with (go_at_call 181; refine (within_any _ _ _).mono ?_; rintro e w' ⟨rfl, rfl⟩)
      go_ret
      exact ⟨rfl, rfl⟩
    · have hp : hMake p g = 0 := by unfold hMake; rw [if_neg]; simp [hWin] at h1 h2; omega
      rw [hp]; clear hp
      have h2' : hWin g 16383 = false := by simpa using h2
      clear h2
      go_enter Try.func158, Try.ntmps158
      go_wp2_with (go_at_call 181; refine (within_any _ _ _).mono ?_; rintro e w' ⟨rfl, rfl⟩)
      go_ret
      exact ⟨rfl, rfl⟩
  · have hp : hMake p g = 0 := by unfold hMake; rw [if_neg]; simp [hWin] at h1; omega
    rw [hp]; clear hp
    have h2' : hWin p 65534 = false := by simpa using h1
    clear h1
    go_enter Try.func158, Try.ntmps158
    go_wp2_with (go_at_call 181; refine (within_any _ _ _).mono ?_; rintro e w' ⟨rfl, rfl⟩)
    go_ret
    exact ⟨rfl, rfl⟩
end Go.Proofs.Ytngdmkgbldgmiaa
