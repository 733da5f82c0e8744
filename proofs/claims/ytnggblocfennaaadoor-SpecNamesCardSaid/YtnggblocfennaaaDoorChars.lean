/- Letters, digits and type names: the plain functions, and the walks of the functions that ask for them. -/
import Derived.Test.YtnggblocfennaaaDoorRows
import Derived.Test.YtnggblocfennaaaDoorTy
import Derived.Lib.Hide
namespace Go.Proofs.YtnggblocfennaaaDoor
open Go.RowKit

theorem ret_int {k : IntKind} {a b : Int} (h : a = b) : Ending.returned (.int k a) = .returned (.int k b) := by rw [h]
theorem ret_bool {a b : Bool} (h : a = b) : Ending.returned (.bool a) = .returned (.bool b) := by rw [h]

def capital (c : UInt8) : Bool := decide (65 ≤ c.toNat ∧ c.toNat ≤ 90)
def digit (c : UInt8) : Bool := decide (48 ≤ c.toNat ∧ c.toNat ≤ 57)
def letter (c : UInt8) : Bool := decide (97 ≤ c.toNat ∧ c.toNat ≤ 122 ∨ 65 ≤ c.toNat ∧ c.toNat ≤ 90 ∨ c.toNat = 95)
def nameByte (c : UInt8) : Bool := letter c || digit c
/-- a type name: 1 to 24 letters, digits and underscores, a capital first -/
def typeName (l : List UInt8) : Bool :=
  match l with
  | [] => false
  | c :: _ => decide (l.length ≤ 24) && capital c && l.all nameByte

set_option maxHeartbeats 400000 in
theorem capital_any (c : UInt8) (w : World) : Calls Tryd.prog 44 #[.int .u8 c.toNat] w fun e w' => e = .returned (.bool (capital c)) ∧ w = w' := by
  go_enter Tryd.func44, Tryd.ntmps44
  go_wp2_with fail
  all_goals go_ret
  all_goals exact ⟨ret_bool (by rw [Bool.eq_iff_iff]; simp only [capital, Bool.or_eq_true, Bool.and_eq_true, Bool.not_eq_true', Bool.not_eq_false', Bool.or_eq_false_iff, Bool.and_eq_false_iff, Bool.false_eq_true, true_iff, false_iff, decide_eq_true_eq, decide_eq_false_iff_not, beq_iff_eq, beq_eq_false_iff_ne, bne_iff_ne, ne_eq]; omega), rfl⟩

set_option maxHeartbeats 400000 in
theorem digit_any (c : UInt8) (w : World) : Calls Tryd.prog 46 #[.int .u8 c.toNat] w fun e w' => e = .returned (.bool (digit c)) ∧ w = w' := by
  go_enter Tryd.func46, Tryd.ntmps46
  go_wp2_with fail
  all_goals go_ret
  all_goals exact ⟨ret_bool (by rw [Bool.eq_iff_iff]; simp only [digit, Bool.or_eq_true, Bool.and_eq_true, Bool.not_eq_true', Bool.not_eq_false', Bool.or_eq_false_iff, Bool.and_eq_false_iff, Bool.false_eq_true, true_iff, false_iff, decide_eq_true_eq, decide_eq_false_iff_not, beq_iff_eq, beq_eq_false_iff_ne, bne_iff_ne, ne_eq]; omega), rfl⟩

set_option maxHeartbeats 400000 in
theorem letter_any (c : UInt8) (w : World) : Calls Tryd.prog 45 #[.int .u8 c.toNat] w fun e w' => e = .returned (.bool (letter c)) ∧ w = w' := by
  go_enter Tryd.func45, Tryd.ntmps45
  go_wp2_with fail
  all_goals go_ret
  all_goals exact ⟨ret_bool (by rw [Bool.eq_iff_iff]; simp only [letter, Bool.or_eq_true, Bool.and_eq_true, Bool.not_eq_true', Bool.not_eq_false', Bool.or_eq_false_iff, Bool.and_eq_false_iff, Bool.false_eq_true, true_iff, false_iff, decide_eq_true_eq, decide_eq_false_iff_not, beq_iff_eq, beq_eq_false_iff_ne, bne_iff_ne, ne_eq]; omega), rfl⟩

end Go.Proofs.YtnggblocfennaaaDoor
