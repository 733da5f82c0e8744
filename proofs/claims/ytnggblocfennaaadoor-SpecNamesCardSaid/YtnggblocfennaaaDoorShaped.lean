/- Whether a node of a type is as the table says: the walks of the program's own function. -/
import Derived.Test.YtnggblocfennaaaDoorNames
import Derived.Test.YtnggblocfennaaaDoorStrs
import Derived.Test.YtnggblocfennaaaDoorNode
import Derived.Deep.Light
namespace Go.Proofs.YtnggblocfennaaaDoor
open Go.RowKit

set_option maxRecDepth 100000 in
set_option maxHeartbeats 2000000 in
theorem shaped_12 (n : Int) (s : ByteArray) (l : List Ty) (a : Option Addr) (cap : Nat) (vars : Bool) (w : World) (hlen : l.length ≤ maxLen) (hs : s.size ≤ maxLen) :
    Calls Tryd.prog 27 #[.agg (nodeCells 12 s n a l.length cap), .bool vars] w fun e w' => e = .returned (.bool (nodeB vars 12 s.toList n l)) ∧ Below w.heap.size w w' := by
  unfold maxLen at hlen
  unfold nodeCells
  have hspec := nodeB_12 vars s.toList n l
  generalize nodeB vars 12 s.toList n l = R at hspec ⊢
  generalize l.length = len at hspec hlen ⊢
  have Hspec := Lib.hid hspec
  clear hspec
  go_enter Tryd.func27, Tryd.ntmps27
  go_wp2_with fail
  all_goals go_ret
  all_goals refine ⟨ret_bool ?_, below1 _ _⟩
  all_goals (go_light; rw [Hspec.out] <;> simp [*] <;> omega)

set_option maxRecDepth 100000 in
set_option maxHeartbeats 2000000 in
theorem shaped_1 (n : Int) (s : ByteArray) (l : List Ty) (a : Option Addr) (cap : Nat) (vars : Bool) (w : World) (hlen : l.length ≤ maxLen) (hs : s.size ≤ maxLen) :
    Calls Tryd.prog 27 #[.agg (nodeCells 1 s 0 a l.length cap), .bool vars] w fun e w' => e = .returned (.bool (nodeB vars 1 s.toList 0 l)) ∧ Below w.heap.size w w' := by
  unfold maxLen at hlen
  unfold nodeCells
  have hspec := (show nodeB vars 1 s.toList 0 l = (l.length == 0 && s.toList.isEmpty) from rfl)
  generalize nodeB vars 1 s.toList 0 l = R at hspec ⊢
  generalize l.length = len at hspec hlen ⊢
  have Hspec := Lib.hid hspec
  clear hspec
  go_enter Tryd.func27, Tryd.ntmps27
  go_wp2_with fail
  all_goals go_ret
  all_goals refine ⟨ret_bool ?_, below1 _ _⟩
  all_goals (go_light; rw [Hspec.out] <;> simp [*] <;> omega)

set_option maxRecDepth 100000 in
set_option maxHeartbeats 2000000 in
theorem shaped_2 (n : Int) (s : ByteArray) (l : List Ty) (a : Option Addr) (cap : Nat) (vars : Bool) (w : World) (hlen : l.length ≤ maxLen) (hs : s.size ≤ maxLen) :
    Calls Tryd.prog 27 #[.agg (nodeCells 2 s 0 a l.length cap), .bool vars] w fun e w' => e = .returned (.bool (nodeB vars 2 s.toList 0 l)) ∧ Below w.heap.size w w' := by
  unfold maxLen at hlen
  unfold nodeCells
  have hspec := (show nodeB vars 2 s.toList 0 l = (l.length == 0 && s.toList.isEmpty) from rfl)
  generalize nodeB vars 2 s.toList 0 l = R at hspec ⊢
  generalize l.length = len at hspec hlen ⊢
  have Hspec := Lib.hid hspec
  clear hspec
  go_enter Tryd.func27, Tryd.ntmps27
  go_wp2_with fail
  all_goals go_ret
  all_goals refine ⟨ret_bool ?_, below1 _ _⟩
  all_goals (go_light; rw [Hspec.out] <;> simp [*] <;> omega)

set_option maxRecDepth 100000 in
set_option maxHeartbeats 2000000 in
theorem shaped_3 (n : Int) (s : ByteArray) (l : List Ty) (a : Option Addr) (cap : Nat) (vars : Bool) (w : World) (hlen : l.length ≤ maxLen) (hs : s.size ≤ maxLen) :
    Calls Tryd.prog 27 #[.agg (nodeCells 3 s 0 a l.length cap), .bool vars] w fun e w' => e = .returned (.bool (nodeB vars 3 s.toList 0 l)) ∧ Below w.heap.size w w' := by
  unfold maxLen at hlen
  unfold nodeCells
  have hspec := (show nodeB vars 3 s.toList 0 l = (l.length == 0 && s.toList.isEmpty) from rfl)
  generalize nodeB vars 3 s.toList 0 l = R at hspec ⊢
  generalize l.length = len at hspec hlen ⊢
  have Hspec := Lib.hid hspec
  clear hspec
  go_enter Tryd.func27, Tryd.ntmps27
  go_wp2_with fail
  all_goals go_ret
  all_goals refine ⟨ret_bool ?_, below1 _ _⟩
  all_goals (go_light; rw [Hspec.out] <;> simp [*] <;> omega)

set_option maxRecDepth 100000 in
set_option maxHeartbeats 2000000 in
theorem shaped_4 (n : Int) (s : ByteArray) (l : List Ty) (a : Option Addr) (cap : Nat) (vars : Bool) (w : World) (hlen : l.length ≤ maxLen) (hs : s.size ≤ maxLen) :
    Calls Tryd.prog 27 #[.agg (nodeCells 4 s 0 a l.length cap), .bool vars] w fun e w' => e = .returned (.bool (nodeB vars 4 s.toList 0 l)) ∧ Below w.heap.size w w' := by
  unfold maxLen at hlen
  unfold nodeCells
  have hspec := (show nodeB vars 4 s.toList 0 l = (l.length == 0 && s.toList.isEmpty) from rfl)
  generalize nodeB vars 4 s.toList 0 l = R at hspec ⊢
  generalize l.length = len at hspec hlen ⊢
  have Hspec := Lib.hid hspec
  clear hspec
  go_enter Tryd.func27, Tryd.ntmps27
  go_wp2_with fail
  all_goals go_ret
  all_goals refine ⟨ret_bool ?_, below1 _ _⟩
  all_goals (go_light; rw [Hspec.out] <;> simp [*] <;> omega)

set_option maxRecDepth 100000 in
set_option maxHeartbeats 2000000 in
theorem shaped_5 (n : Int) (s : ByteArray) (l : List Ty) (a : Option Addr) (cap : Nat) (vars : Bool) (w : World) (hlen : l.length ≤ maxLen) (hs : s.size ≤ maxLen) :
    Calls Tryd.prog 27 #[.agg (nodeCells 5 s 0 a l.length cap), .bool vars] w fun e w' => e = .returned (.bool (nodeB vars 5 s.toList 0 l)) ∧ Below w.heap.size w w' := by
  unfold maxLen at hlen
  unfold nodeCells
  have hspec := (show nodeB vars 5 s.toList 0 l = (l.length == 1 && s.toList.isEmpty) from rfl)
  generalize nodeB vars 5 s.toList 0 l = R at hspec ⊢
  generalize l.length = len at hspec hlen ⊢
  have Hspec := Lib.hid hspec
  clear hspec
  go_enter Tryd.func27, Tryd.ntmps27
  go_wp2_with fail
  all_goals go_ret
  all_goals refine ⟨ret_bool ?_, below1 _ _⟩
  all_goals (go_light; rw [Hspec.out] <;> simp [*] <;> omega)

set_option maxRecDepth 100000 in
set_option maxHeartbeats 2000000 in
theorem shaped_11 (n : Int) (s : ByteArray) (l : List Ty) (a : Option Addr) (cap : Nat) (vars : Bool) (w : World) (hlen : l.length ≤ maxLen) (hs : s.size ≤ maxLen) :
    Calls Tryd.prog 27 #[.agg (nodeCells 11 s 0 a l.length cap), .bool vars] w fun e w' => e = .returned (.bool (nodeB vars 11 s.toList 0 l)) ∧ Below w.heap.size w w' := by
  unfold maxLen at hlen
  unfold nodeCells
  have hspec := (show nodeB vars 11 s.toList 0 l = (l.length == 1 && s.toList.isEmpty) from rfl)
  generalize nodeB vars 11 s.toList 0 l = R at hspec ⊢
  generalize l.length = len at hspec hlen ⊢
  have Hspec := Lib.hid hspec
  clear hspec
  go_enter Tryd.func27, Tryd.ntmps27
  go_wp2_with fail
  all_goals go_ret
  all_goals refine ⟨ret_bool ?_, below1 _ _⟩
  all_goals (go_light; rw [Hspec.out] <;> simp [*] <;> omega)

set_option maxRecDepth 100000 in
set_option maxHeartbeats 2000000 in
theorem shaped_7 (n : Int) (s : ByteArray) (l : List Ty) (a : Option Addr) (cap : Nat) (vars : Bool) (w : World) (hlen : l.length ≤ maxLen) (hs : s.size ≤ maxLen) :
    Calls Tryd.prog 27 #[.agg (nodeCells 7 s 0 a l.length cap), .bool vars] w fun e w' => e = .returned (.bool (nodeB vars 7 s.toList 0 l)) ∧ Below w.heap.size w w' := by
  unfold maxLen at hlen
  unfold nodeCells
  have hspec := (show nodeB vars 7 s.toList 0 l = (l.length == 0 && typeName s.toList) from rfl)
  generalize nodeB vars 7 s.toList 0 l = R at hspec ⊢
  generalize l.length = len at hspec hlen ⊢
  have Hspec := Lib.hid hspec
  clear hspec
  go_enter Tryd.func27, Tryd.ntmps27
  go_wp2_with (go_at_call 37; refine (isName_any _ _ hs).mono ?_; rintro e w1 ⟨rfl, rfl⟩)
  all_goals go_ret
  all_goals refine ⟨ret_bool ?_, below1 _ _⟩
  all_goals (go_light; rw [Hspec.out] <;> simp [*] <;> omega)

set_option maxRecDepth 100000 in
set_option maxHeartbeats 2000000 in
theorem shaped_9 (n : Int) (s : ByteArray) (l : List Ty) (a : Option Addr) (cap : Nat) (vars : Bool) (w : World) (hlen : l.length ≤ maxLen) (hs : s.size ≤ maxLen) :
    Calls Tryd.prog 27 #[.agg (nodeCells 9 s 0 a l.length cap), .bool vars] w fun e w' => e = .returned (.bool (nodeB vars 9 s.toList 0 l)) ∧ Below w.heap.size w w' := by
  unfold maxLen at hlen
  unfold nodeCells
  have hspec := (show nodeB vars 9 s.toList 0 l = (l.length == 0 && typeName s.toList) from rfl)
  generalize nodeB vars 9 s.toList 0 l = R at hspec ⊢
  generalize l.length = len at hspec hlen ⊢
  have Hspec := Lib.hid hspec
  clear hspec
  go_enter Tryd.func27, Tryd.ntmps27
  go_wp2_with (go_at_call 37; refine (isName_any _ _ hs).mono ?_; rintro e w1 ⟨rfl, rfl⟩)
  all_goals go_ret
  all_goals refine ⟨ret_bool ?_, below1 _ _⟩
  all_goals (go_light; rw [Hspec.out] <;> simp [*] <;> omega)

set_option maxRecDepth 100000 in
set_option maxHeartbeats 2000000 in
theorem shaped_10 (n : Int) (s : ByteArray) (l : List Ty) (a : Option Addr) (cap : Nat) (vars : Bool) (w : World) (hlen : l.length ≤ maxLen) (hs : s.size ≤ maxLen) :
    Calls Tryd.prog 27 #[.agg (nodeCells 10 s 0 a l.length cap), .bool vars] w fun e w' => e = .returned (.bool (nodeB vars 10 s.toList 0 l)) ∧ Below w.heap.size w w' := by
  unfold maxLen at hlen
  unfold nodeCells
  have hspec := (show nodeB vars 10 s.toList 0 l = (decide (1 ≤ l.length) && decide (l.length ≤ 7) && s.toList.isEmpty) from rfl)
  generalize nodeB vars 10 s.toList 0 l = R at hspec ⊢
  generalize l.length = len at hspec hlen ⊢
  have Hspec := Lib.hid hspec
  clear hspec
  go_enter Tryd.func27, Tryd.ntmps27
  go_wp2_with fail
  all_goals go_ret
  all_goals refine ⟨ret_bool ?_, below1 _ _⟩
  all_goals (go_light; rw [Hspec.out] <;> simp [*] <;> omega)

set_option maxRecDepth 100000 in
set_option maxHeartbeats 2000000 in
theorem shaped_n (k n : Int) (s : ByteArray) (l : List Ty) (a : Option Addr) (cap : Nat) (vars : Bool) (w : World) (hlen : l.length ≤ maxLen) (hs : s.size ≤ maxLen) (h12 : k ≠ 12) (hn0 : n ≠ 0) :
    Calls Tryd.prog 27 #[.agg (nodeCells k s n a l.length cap), .bool vars] w fun e w' => e = .returned (.bool (nodeB vars k s.toList n l)) ∧ Below w.heap.size w w' := by
  unfold maxLen at hlen
  unfold nodeCells
  have hspec := nodeB_n vars s.toList l h12 hn0
  generalize nodeB vars k s.toList n l = R at hspec ⊢
  generalize l.length = len at hspec hlen ⊢
  have Hspec := Lib.hid hspec
  clear hspec
  have e1 : (k != 12) = true := by simpa using h12
  have e2 : (n != 0) = true := by simpa using hn0
  go_enter Tryd.func27, Tryd.ntmps27
  go_wp2_with fail
  all_goals go_ret
  all_goals refine ⟨ret_bool ?_, below1 _ _⟩
  all_goals (go_light; rw [Hspec.out] <;> simp [*] <;> omega)

set_option maxRecDepth 100000 in
set_option maxHeartbeats 2000000 in
theorem shaped_no (k : Int) (s : ByteArray) (l : List Ty) (a : Option Addr) (cap : Nat) (vars : Bool) (w : World) (hlen : l.length ≤ maxLen) (hs : s.size ≤ maxLen) (hk : k < 1 ∨ 12 < k) :
    Calls Tryd.prog 27 #[.agg (nodeCells k s 0 a l.length cap), .bool vars] w fun e w' => e = .returned (.bool (nodeB vars k s.toList 0 l)) ∧ Below w.heap.size w w' := by
  unfold maxLen at hlen
  unfold nodeCells
  have hspec := nodeB_no vars s.toList l hk
  generalize nodeB vars k s.toList 0 l = R at hspec ⊢
  generalize l.length = len at hspec hlen ⊢
  have Hspec := Lib.hid hspec
  clear hspec
  go_enter Tryd.func27, Tryd.ntmps27
  go_wp2_with fail
  all_goals go_ret
  all_goals refine ⟨ret_bool ?_, below1 _ _⟩
  all_goals (go_light; rw [Hspec.out] <;> simp [*] <;> omega)

/-- the four names that no nominal type has -/
def words : List ByteArray := [⟨#[73, 110, 116]⟩, ⟨#[66, 111, 111, 108]⟩, ⟨#[84, 101, 120, 116]⟩, ⟨#[85, 110, 105, 116]⟩]
theorem words_strs (w : World) (g : Nat) (hg : g = w.heap.size) : Strs (w.alloc (.cells #[.string ⟨#[73, 110, 116]⟩, .string ⟨#[66, 111, 111, 108]⟩, .string ⟨#[84, 101, 120, 116]⟩, .string ⟨#[85, 110, 105, 116]⟩] 9)) (some ⟨g, 0, none⟩) 4 words := by
  subst hg
  refine ⟨rfl, w.heap.size, 0, fun _ => rfl, fun i h => ?_⟩
  match i, h with
  | 0, _ => simp [words]
  | 1, _ => simp [words]
  | 2, _ => simp [words]
  | 3, _ => simp [words]
theorem words_length : words.length ≤ maxLen := by decide
theorem words_any (s : List UInt8) : (words.any fun x => s == x.toList) = (s == [73, 110, 116] || s == [66, 111, 111, 108] || s == [84, 101, 120, 116] || s == [85, 110, 105, 116]) := by
  simp [words, ByteArray.toList_eq, Bool.or_assoc]

set_option maxRecDepth 100000 in
set_option maxHeartbeats 2000000 in
theorem shaped_6 (n : Int) (s : ByteArray) (l : List Ty) (a : Option Addr) (cap : Nat) (vars : Bool) (w : World) (hlen : l.length ≤ maxLen) (hs : s.size ≤ maxLen) :
    Calls Tryd.prog 27 #[.agg (nodeCells 6 s 0 a l.length cap), .bool vars] w fun e w' => e = .returned (.bool (nodeB vars 6 s.toList 0 l)) ∧ Below w.heap.size w w' := by
  unfold maxLen at hlen
  unfold nodeCells
  have hspec := (show nodeB vars 6 s.toList 0 l = (!taken s.toList l.length && decide (l.length ≤ 3) && typeName s.toList) from rfl)
  generalize nodeB vars 6 s.toList 0 l = R at hspec ⊢
  generalize l.length = len at hspec hlen ⊢
  have Hspec := Lib.hid hspec
  clear hspec
  have hwords := words_any s.toList
  by_cases h0 : len = 0
  · subst h0
    have ht : taken s.toList 0 = words.any fun x => s.toList == x.toList := by rw [hwords]; simp [taken]
    have Ht := Lib.hid ht
    clear ht hwords
    cases hc : (words.any fun x => s.toList == x.toList) with
    | true =>
      have Hc := Lib.hid hc
      clear hc
      go_enter Tryd.func27, Tryd.ntmps27
      go_wp2_with (first | (go_at_call 36; refine (contains_any _ _ _ words s _ ?hw words_length).mono ?_; (case hw => exact words_strs _ _ (by simp)); rw [Hc.out]; rintro e w1 ⟨rfl, rfl⟩) | (go_at_call 37; refine (isName_any _ _ hs).mono ?_; rintro e w1 ⟨rfl, rfl⟩))
      all_goals go_ret
      all_goals refine ⟨ret_bool ?_, below2 _ _ _⟩
      all_goals (go_light; rw [Hspec.out, Ht.out, Hc.out] <;> simp [*] <;> omega)
    | false =>
      have Hc := Lib.hid hc
      clear hc
      go_enter Tryd.func27, Tryd.ntmps27
      go_wp2_with (first | (go_at_call 36; refine (contains_any _ _ _ words s _ ?hw words_length).mono ?_; (case hw => exact words_strs _ _ (by simp)); rw [Hc.out]; rintro e w1 ⟨rfl, rfl⟩) | (go_at_call 37; refine (isName_any _ _ hs).mono ?_; rintro e w1 ⟨rfl, rfl⟩))
      all_goals go_ret
      all_goals refine ⟨ret_bool ?_, below2 _ _ _⟩
      all_goals (go_light; rw [Hspec.out, Ht.out, Hc.out] <;> simp [*] <;> omega)
  clear hwords
  by_cases h1 : len = 1
  · subst h1
    cases e1 : (s.toList == ([65, 114, 114, 97, 121] : List UInt8)) with
    | true =>
      go_enter Tryd.func27, Tryd.ntmps27
      go_wp2_with (go_at_call 37; refine (isName_any _ _ hs).mono ?_; rintro e w1 ⟨rfl, rfl⟩)
      all_goals go_ret
      all_goals refine ⟨ret_bool ?_, below1 _ _⟩
      all_goals (go_light; rw [Hspec.out] <;> simp [taken, *] <;> omega)
    | false =>
      cases e2 : (s.toList == ([87, 101, 97, 107] : List UInt8)) with
      | true =>
        go_enter Tryd.func27, Tryd.ntmps27
        go_wp2_with (go_at_call 37; refine (isName_any _ _ hs).mono ?_; rintro e w1 ⟨rfl, rfl⟩)
        all_goals go_ret
        all_goals refine ⟨ret_bool ?_, below1 _ _⟩
        all_goals (go_light; rw [Hspec.out] <;> simp [taken, *] <;> omega)
      | false =>
        go_enter Tryd.func27, Tryd.ntmps27
        go_wp2_with (go_at_call 37; refine (isName_any _ _ hs).mono ?_; rintro e w1 ⟨rfl, rfl⟩)
        all_goals go_ret
        all_goals refine ⟨ret_bool ?_, below1 _ _⟩
        all_goals (go_light; rw [Hspec.out] <;> simp [taken, *] <;> omega)
  have f0 : ((len : Int) == 0) = false := by simp; omega
  have f1 : ((len : Int) == 1) = false := by simp; omega
  go_enter Tryd.func27, Tryd.ntmps27
  go_wp2_with (go_at_call 37; refine (isName_any _ _ hs).mono ?_; rintro e w1 ⟨rfl, rfl⟩)
  all_goals go_ret
  all_goals refine ⟨ret_bool ?_, below1 _ _⟩
  all_goals (go_light; rw [Hspec.out] <;> simp [taken, *] <;> omega)

set_option maxRecDepth 100000 in
set_option maxHeartbeats 2000000 in
theorem shaped_8 (b off : Nat) (s : ByteArray) (l : List Ty) (a : Option Addr) (cap : Nat) (vars : Bool) (w : World) (hlen : l.length ≤ maxLen) (hs : s.size ≤ maxLen) (hh : 0 < l.length → a = some ⟨b, off, none⟩ ∧ w.cell? ⟨b, off, none⟩ = some (.int .i64 (headKind l))) :
    Calls Tryd.prog 27 #[.agg (nodeCells 8 s 0 a l.length cap), .bool vars] w fun e w' => e = .returned (.bool (nodeB vars 8 s.toList 0 l)) ∧ Below w.heap.size w w' := by
  unfold maxLen at hlen
  unfold nodeCells
  have hspec := (show nodeB vars 8 s.toList 0 l = (l.length == 1 && typeName s.toList && headKind l != 10 && headKind l != 9) from rfl)
  generalize headKind l = hk at hh hspec
  generalize nodeB vars 8 s.toList 0 l = R at hspec ⊢
  generalize l.length = len at hh hspec hlen ⊢
  have Hspec := Lib.hid hspec
  clear hspec
  by_cases h1 : len = 1
  · obtain ⟨rfl, hh'⟩ := hh (by omega)
    have hh : ∀ o, (w.alloc o).cell? ⟨b, off, none⟩ = some (.int .i64 hk) := fun o => cells_later ((Below.refl _ _).alloc (Nat.le_refl _) o) _ _ hh'
    subst h1
    by_cases g1 : hk = 10
    · subst g1
      go_enter Tryd.func27, Tryd.ntmps27
      go_wp2_with (go_at_call 37; refine (isName_any _ _ hs).mono ?_; rintro e w1 ⟨rfl, rfl⟩)
      all_goals go_ret
      all_goals refine ⟨ret_bool ?_, below1 _ _⟩
      all_goals (go_light; rw [Hspec.out] <;> simp [*] <;> omega)
    by_cases g2 : hk = 9
    · subst g2
      go_enter Tryd.func27, Tryd.ntmps27
      go_wp2_with (go_at_call 37; refine (isName_any _ _ hs).mono ?_; rintro e w1 ⟨rfl, rfl⟩)
      all_goals go_ret
      all_goals refine ⟨ret_bool ?_, below1 _ _⟩
      all_goals (go_light; rw [Hspec.out] <;> simp [*] <;> omega)
    have f1 : (hk != 10) = true := by simpa using g1
    have f2 : (hk != 9) = true := by simpa using g2
    go_enter Tryd.func27, Tryd.ntmps27
    go_wp2_with (go_at_call 37; refine (isName_any _ _ hs).mono ?_; rintro e w1 ⟨rfl, rfl⟩)
    all_goals go_ret
    all_goals refine ⟨ret_bool ?_, below1 _ _⟩
    all_goals (go_light; rw [Hspec.out] <;> simp [*] <;> omega)
  · have e1 : ((len : Int) == 1) = false := by simp; omega
    go_enter Tryd.func27, Tryd.ntmps27
    go_wp2_with fail
    all_goals go_ret
    all_goals refine ⟨ret_bool ?_, below1 _ _⟩
    all_goals (go_light; rw [Hspec.out] <;> simp [*] <;> omega)


theorem shaped_all (vars : Bool) (t : Ty) (w : World) (cs : Array Value) (hin : Ty.In w t cs) :
    Calls Tryd.prog 27 #[.agg cs, .bool vars] w fun e w' => e = .returned (.bool (t.okNode vars)) ∧ Below w.heap.size w w' := by
  cases hin with
  | mk k s n l a b off cap C ha hlen hs hk hn hc hi =>
  show Calls _ _ _ _ fun e w' => e = .returned (.bool (nodeB vars k s.toList n l)) ∧ Below w.heap.size w w'
  by_cases h12 : k = 12
  · subst h12; exact shaped_12 n s l a cap vars w (Nat.le_trans hlen.1 hlen.2) hs
  by_cases hn0 : n = 0
  case neg => exact shaped_n k n s l a cap vars w (Nat.le_trans hlen.1 hlen.2) hs h12 hn0
  subst hn0
  by_cases h1 : k = 1
  · subst h1; exact shaped_1 0 s l a cap vars w (Nat.le_trans hlen.1 hlen.2) hs
  by_cases h2 : k = 2
  · subst h2; exact shaped_2 0 s l a cap vars w (Nat.le_trans hlen.1 hlen.2) hs
  by_cases h3 : k = 3
  · subst h3; exact shaped_3 0 s l a cap vars w (Nat.le_trans hlen.1 hlen.2) hs
  by_cases h4 : k = 4
  · subst h4; exact shaped_4 0 s l a cap vars w (Nat.le_trans hlen.1 hlen.2) hs
  by_cases h5 : k = 5
  · subst h5; exact shaped_5 0 s l a cap vars w (Nat.le_trans hlen.1 hlen.2) hs
  by_cases h11 : k = 11
  · subst h11; exact shaped_11 0 s l a cap vars w (Nat.le_trans hlen.1 hlen.2) hs
  by_cases h7 : k = 7
  · subst h7; exact shaped_7 0 s l a cap vars w (Nat.le_trans hlen.1 hlen.2) hs
  by_cases h9 : k = 9
  · subst h9; exact shaped_9 0 s l a cap vars w (Nat.le_trans hlen.1 hlen.2) hs
  by_cases h10 : k = 10
  · subst h10; exact shaped_10 0 s l a cap vars w (Nat.le_trans hlen.1 hlen.2) hs
  by_cases h6 : k = 6
  · subst h6; exact shaped_6 0 s l a cap vars w (Nat.le_trans hlen.1 hlen.2) hs
  by_cases h8 : k = 8
  · subst h8; exact shaped_8 b off s l a cap vars w (Nat.le_trans hlen.1 hlen.2) hs (fun h => ⟨ha h, head_cell h hc hi⟩)
  exact shaped_no k s l a cap vars w (Nat.le_trans hlen.1 hlen.2) hs (by omega)
end Go.Proofs.YtnggblocfennaaaDoor
