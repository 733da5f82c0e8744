/- Whether a node of a type is as the table says: the plain function, and the walks of the two functions that ask for it. -/
import Derived.Test.YtnggblocfennaaaDoorNames
import Derived.Test.YtnggblocfennaaaDoorStrs
import Derived.Deep.Light
namespace Go.Proofs.YtnggblocfennaaaDoor
open Go.RowKit

def Ty.kind : Ty → Int | .mk k _ _ _ => k
def headKind (l : List Ty) : Int := match l with | [] => 0 | t :: _ => t.kind

/-- the names that are taken: Int, Bool, Text, Unit without arguments; Array, Weak with one -/
def taken (s : List UInt8) (len : Nat) : Bool :=
  (len == 0 && (s == [73, 110, 116] || s == [66, 111, 111, 108] || s == [84, 101, 120, 116] || s == [85, 110, 105, 116])) || (len == 1 && (s == [65, 114, 114, 97, 121] || s == [87, 101, 97, 107]))

def nodeB (vars : Bool) (k : Int) (s : List UInt8) (n : Int) (l : List Ty) : Bool :=
  if k = 12 then vars && l.length == 0 && s.isEmpty && decide (0 ≤ n) && decide (n < 40)
  else if n ≠ 0 then false
  else if k = 1 ∨ k = 2 ∨ k = 3 ∨ k = 4 then l.length == 0 && s.isEmpty
  else if k = 5 ∨ k = 11 then l.length == 1 && s.isEmpty
  else if k = 6 then !taken s l.length && decide (l.length ≤ 3) && typeName s
  else if k = 7 ∨ k = 9 then l.length == 0 && typeName s
  else if k = 8 then l.length == 1 && typeName s && headKind l != 10 && headKind l != 9
  else if k = 10 then decide (1 ≤ l.length) && decide (l.length ≤ 7) && s.isEmpty
  else false

def Ty.okNode (vars : Bool) : Ty → Bool | .mk k s n l => nodeB vars k s.toList n l

/-- the head's kind lies in memory -/
theorem head_cell {w : World} {l : List Ty} {b off : Nat} {C : Nat → Nat → Value} (h : 0 < l.length) (hc : ∀ i, i < l.length → ∀ j, j < 4 → w.cell? ⟨b, off + (i * 4 + j), none⟩ = some (C i j))
    (hi : ∀ i, (h : i < l.length) → Ty.In w l[i] #[C i 0, C i 1, C i 2, C i 3]) : w.cell? ⟨b, off, none⟩ = some (.int .i64 (headKind l)) := by
  have h0 := hi 0 h
  have e : C 0 0 = .int .i64 (headKind l) := by
    cases l with
    | nil => simp at h
    | cons t l =>
      simp only [List.getElem_cons_zero] at h0
      generalize hcs : #[C 0 0, C 0 1, C 0 2, C 0 3] = cs at h0
      cases h0 with
      | mk k s n l' a b off cap C ha hlen hs hk hn hc hi =>
        unfold nodeCells at hcs
        simp only [Array.mk.injEq, List.cons.injEq] at hcs
        exact hcs.1
  rw [← e]
  simpa using hc 0 h 0 (by omega)

/-- nodeB, case by case -/
theorem nodeB_12 (vars : Bool) (s : List UInt8) (n : Int) (l : List Ty) : nodeB vars 12 s n l = (vars && l.length == 0 && s.isEmpty && decide (0 ≤ n) && decide (n < 40)) := rfl
theorem nodeB_n {k n : Int} (vars : Bool) (s : List UInt8) (l : List Ty) (h : k ≠ 12) (hn : n ≠ 0) : nodeB vars k s n l = false := by unfold nodeB; rw [if_neg h, if_pos hn]
theorem nodeB_no {k : Int} (vars : Bool) (s : List UInt8) (l : List Ty) (h : k < 1 ∨ 12 < k) : nodeB vars k s 0 l = false := by
  unfold nodeB; rw [if_neg (by omega), if_neg (by omega), if_neg (by omega), if_neg (by omega), if_neg (by omega), if_neg (by omega), if_neg (by omega), if_neg (by omega)]

set_option maxRecDepth 100000 in
set_option maxHeartbeats 2000000 in
theorem node_12 (n : Int) (s : ByteArray) (l : List Ty) (a : Option Addr) (cap : Nat) (vars : Bool) (w : World) (hlen : l.length ≤ maxLen) (hs : s.size ≤ maxLen) :
    Calls Tryd.prog 33 #[.agg (nodeCells 12 s n a l.length cap), .bool vars] w fun e w' => e = .returned (.bool (nodeB vars 12 s.toList n l)) ∧ Below w.heap.size w w' := by
  unfold maxLen at hlen
  unfold nodeCells
  have hspec := nodeB_12 vars s.toList n l
  generalize nodeB vars 12 s.toList n l = R at hspec ⊢
  generalize l.length = len at hspec hlen ⊢
  have Hspec := Lib.hid hspec
  clear hspec
  go_enter Tryd.func33, Tryd.ntmps33
  go_wp2_with fail
  all_goals go_ret
  all_goals refine ⟨ret_bool ?_, below1 _ _⟩
  all_goals (go_light; rw [Hspec.out] <;> simp [*] <;> omega)

set_option maxRecDepth 100000 in
set_option maxHeartbeats 2000000 in
theorem node_1 (n : Int) (s : ByteArray) (l : List Ty) (a : Option Addr) (cap : Nat) (vars : Bool) (w : World) (hlen : l.length ≤ maxLen) (hs : s.size ≤ maxLen) :
    Calls Tryd.prog 33 #[.agg (nodeCells 1 s 0 a l.length cap), .bool vars] w fun e w' => e = .returned (.bool (nodeB vars 1 s.toList 0 l)) ∧ Below w.heap.size w w' := by
  unfold maxLen at hlen
  unfold nodeCells
  have hspec := (show nodeB vars 1 s.toList 0 l = (l.length == 0 && s.toList.isEmpty) from rfl)
  generalize nodeB vars 1 s.toList 0 l = R at hspec ⊢
  generalize l.length = len at hspec hlen ⊢
  have Hspec := Lib.hid hspec
  clear hspec
  go_enter Tryd.func33, Tryd.ntmps33
  go_wp2_with fail
  all_goals go_ret
  all_goals refine ⟨ret_bool ?_, below1 _ _⟩
  all_goals (go_light; rw [Hspec.out] <;> simp [*] <;> omega)

set_option maxRecDepth 100000 in
set_option maxHeartbeats 2000000 in
theorem node_2 (n : Int) (s : ByteArray) (l : List Ty) (a : Option Addr) (cap : Nat) (vars : Bool) (w : World) (hlen : l.length ≤ maxLen) (hs : s.size ≤ maxLen) :
    Calls Tryd.prog 33 #[.agg (nodeCells 2 s 0 a l.length cap), .bool vars] w fun e w' => e = .returned (.bool (nodeB vars 2 s.toList 0 l)) ∧ Below w.heap.size w w' := by
  unfold maxLen at hlen
  unfold nodeCells
  have hspec := (show nodeB vars 2 s.toList 0 l = (l.length == 0 && s.toList.isEmpty) from rfl)
  generalize nodeB vars 2 s.toList 0 l = R at hspec ⊢
  generalize l.length = len at hspec hlen ⊢
  have Hspec := Lib.hid hspec
  clear hspec
  go_enter Tryd.func33, Tryd.ntmps33
  go_wp2_with fail
  all_goals go_ret
  all_goals refine ⟨ret_bool ?_, below1 _ _⟩
  all_goals (go_light; rw [Hspec.out] <;> simp [*] <;> omega)

set_option maxRecDepth 100000 in
set_option maxHeartbeats 2000000 in
theorem node_3 (n : Int) (s : ByteArray) (l : List Ty) (a : Option Addr) (cap : Nat) (vars : Bool) (w : World) (hlen : l.length ≤ maxLen) (hs : s.size ≤ maxLen) :
    Calls Tryd.prog 33 #[.agg (nodeCells 3 s 0 a l.length cap), .bool vars] w fun e w' => e = .returned (.bool (nodeB vars 3 s.toList 0 l)) ∧ Below w.heap.size w w' := by
  unfold maxLen at hlen
  unfold nodeCells
  have hspec := (show nodeB vars 3 s.toList 0 l = (l.length == 0 && s.toList.isEmpty) from rfl)
  generalize nodeB vars 3 s.toList 0 l = R at hspec ⊢
  generalize l.length = len at hspec hlen ⊢
  have Hspec := Lib.hid hspec
  clear hspec
  go_enter Tryd.func33, Tryd.ntmps33
  go_wp2_with fail
  all_goals go_ret
  all_goals refine ⟨ret_bool ?_, below1 _ _⟩
  all_goals (go_light; rw [Hspec.out] <;> simp [*] <;> omega)

set_option maxRecDepth 100000 in
set_option maxHeartbeats 2000000 in
theorem node_4 (n : Int) (s : ByteArray) (l : List Ty) (a : Option Addr) (cap : Nat) (vars : Bool) (w : World) (hlen : l.length ≤ maxLen) (hs : s.size ≤ maxLen) :
    Calls Tryd.prog 33 #[.agg (nodeCells 4 s 0 a l.length cap), .bool vars] w fun e w' => e = .returned (.bool (nodeB vars 4 s.toList 0 l)) ∧ Below w.heap.size w w' := by
  unfold maxLen at hlen
  unfold nodeCells
  have hspec := (show nodeB vars 4 s.toList 0 l = (l.length == 0 && s.toList.isEmpty) from rfl)
  generalize nodeB vars 4 s.toList 0 l = R at hspec ⊢
  generalize l.length = len at hspec hlen ⊢
  have Hspec := Lib.hid hspec
  clear hspec
  go_enter Tryd.func33, Tryd.ntmps33
  go_wp2_with fail
  all_goals go_ret
  all_goals refine ⟨ret_bool ?_, below1 _ _⟩
  all_goals (go_light; rw [Hspec.out] <;> simp [*] <;> omega)

set_option maxRecDepth 100000 in
set_option maxHeartbeats 2000000 in
theorem node_5 (n : Int) (s : ByteArray) (l : List Ty) (a : Option Addr) (cap : Nat) (vars : Bool) (w : World) (hlen : l.length ≤ maxLen) (hs : s.size ≤ maxLen) :
    Calls Tryd.prog 33 #[.agg (nodeCells 5 s 0 a l.length cap), .bool vars] w fun e w' => e = .returned (.bool (nodeB vars 5 s.toList 0 l)) ∧ Below w.heap.size w w' := by
  unfold maxLen at hlen
  unfold nodeCells
  have hspec := (show nodeB vars 5 s.toList 0 l = (l.length == 1 && s.toList.isEmpty) from rfl)
  generalize nodeB vars 5 s.toList 0 l = R at hspec ⊢
  generalize l.length = len at hspec hlen ⊢
  have Hspec := Lib.hid hspec
  clear hspec
  go_enter Tryd.func33, Tryd.ntmps33
  go_wp2_with fail
  all_goals go_ret
  all_goals refine ⟨ret_bool ?_, below1 _ _⟩
  all_goals (go_light; rw [Hspec.out] <;> simp [*] <;> omega)

set_option maxRecDepth 100000 in
set_option maxHeartbeats 2000000 in
theorem node_11 (n : Int) (s : ByteArray) (l : List Ty) (a : Option Addr) (cap : Nat) (vars : Bool) (w : World) (hlen : l.length ≤ maxLen) (hs : s.size ≤ maxLen) :
    Calls Tryd.prog 33 #[.agg (nodeCells 11 s 0 a l.length cap), .bool vars] w fun e w' => e = .returned (.bool (nodeB vars 11 s.toList 0 l)) ∧ Below w.heap.size w w' := by
  unfold maxLen at hlen
  unfold nodeCells
  have hspec := (show nodeB vars 11 s.toList 0 l = (l.length == 1 && s.toList.isEmpty) from rfl)
  generalize nodeB vars 11 s.toList 0 l = R at hspec ⊢
  generalize l.length = len at hspec hlen ⊢
  have Hspec := Lib.hid hspec
  clear hspec
  go_enter Tryd.func33, Tryd.ntmps33
  go_wp2_with fail
  all_goals go_ret
  all_goals refine ⟨ret_bool ?_, below1 _ _⟩
  all_goals (go_light; rw [Hspec.out] <;> simp [*] <;> omega)

set_option maxRecDepth 100000 in
set_option maxHeartbeats 2000000 in
theorem node_7 (n : Int) (s : ByteArray) (l : List Ty) (a : Option Addr) (cap : Nat) (vars : Bool) (w : World) (hlen : l.length ≤ maxLen) (hs : s.size ≤ maxLen) :
    Calls Tryd.prog 33 #[.agg (nodeCells 7 s 0 a l.length cap), .bool vars] w fun e w' => e = .returned (.bool (nodeB vars 7 s.toList 0 l)) ∧ Below w.heap.size w w' := by
  unfold maxLen at hlen
  unfold nodeCells
  have hspec := (show nodeB vars 7 s.toList 0 l = (l.length == 0 && typeName s.toList) from rfl)
  generalize nodeB vars 7 s.toList 0 l = R at hspec ⊢
  generalize l.length = len at hspec hlen ⊢
  have Hspec := Lib.hid hspec
  clear hspec
  go_enter Tryd.func33, Tryd.ntmps33
  go_wp2_with (go_at_call 41; refine (typeName_any _ _ hs).mono ?_; rintro e w1 ⟨rfl, rfl⟩)
  all_goals go_ret
  all_goals refine ⟨ret_bool ?_, below1 _ _⟩
  all_goals (go_light; rw [Hspec.out] <;> simp [*] <;> omega)

set_option maxRecDepth 100000 in
set_option maxHeartbeats 2000000 in
theorem node_9 (n : Int) (s : ByteArray) (l : List Ty) (a : Option Addr) (cap : Nat) (vars : Bool) (w : World) (hlen : l.length ≤ maxLen) (hs : s.size ≤ maxLen) :
    Calls Tryd.prog 33 #[.agg (nodeCells 9 s 0 a l.length cap), .bool vars] w fun e w' => e = .returned (.bool (nodeB vars 9 s.toList 0 l)) ∧ Below w.heap.size w w' := by
  unfold maxLen at hlen
  unfold nodeCells
  have hspec := (show nodeB vars 9 s.toList 0 l = (l.length == 0 && typeName s.toList) from rfl)
  generalize nodeB vars 9 s.toList 0 l = R at hspec ⊢
  generalize l.length = len at hspec hlen ⊢
  have Hspec := Lib.hid hspec
  clear hspec
  go_enter Tryd.func33, Tryd.ntmps33
  go_wp2_with (go_at_call 41; refine (typeName_any _ _ hs).mono ?_; rintro e w1 ⟨rfl, rfl⟩)
  all_goals go_ret
  all_goals refine ⟨ret_bool ?_, below1 _ _⟩
  all_goals (go_light; rw [Hspec.out] <;> simp [*] <;> omega)

set_option maxRecDepth 100000 in
set_option maxHeartbeats 2000000 in
theorem node_10 (n : Int) (s : ByteArray) (l : List Ty) (a : Option Addr) (cap : Nat) (vars : Bool) (w : World) (hlen : l.length ≤ maxLen) (hs : s.size ≤ maxLen) :
    Calls Tryd.prog 33 #[.agg (nodeCells 10 s 0 a l.length cap), .bool vars] w fun e w' => e = .returned (.bool (nodeB vars 10 s.toList 0 l)) ∧ Below w.heap.size w w' := by
  unfold maxLen at hlen
  unfold nodeCells
  have hspec := (show nodeB vars 10 s.toList 0 l = (decide (1 ≤ l.length) && decide (l.length ≤ 7) && s.toList.isEmpty) from rfl)
  generalize nodeB vars 10 s.toList 0 l = R at hspec ⊢
  generalize l.length = len at hspec hlen ⊢
  have Hspec := Lib.hid hspec
  clear hspec
  go_enter Tryd.func33, Tryd.ntmps33
  go_wp2_with fail
  all_goals go_ret
  all_goals refine ⟨ret_bool ?_, below1 _ _⟩
  all_goals (go_light; rw [Hspec.out] <;> simp [*] <;> omega)

set_option maxRecDepth 100000 in
set_option maxHeartbeats 2000000 in
theorem node_n (k n : Int) (s : ByteArray) (l : List Ty) (a : Option Addr) (cap : Nat) (vars : Bool) (w : World) (hlen : l.length ≤ maxLen) (hs : s.size ≤ maxLen) (h12 : k ≠ 12) (hn0 : n ≠ 0) :
    Calls Tryd.prog 33 #[.agg (nodeCells k s n a l.length cap), .bool vars] w fun e w' => e = .returned (.bool (nodeB vars k s.toList n l)) ∧ Below w.heap.size w w' := by
  unfold maxLen at hlen
  unfold nodeCells
  have hspec := nodeB_n vars s.toList l h12 hn0
  generalize nodeB vars k s.toList n l = R at hspec ⊢
  generalize l.length = len at hspec hlen ⊢
  have Hspec := Lib.hid hspec
  clear hspec
  have e1 : (k != 12) = true := by simpa using h12
  have e2 : (n != 0) = true := by simpa using hn0
  go_enter Tryd.func33, Tryd.ntmps33
  go_wp2_with fail
  all_goals go_ret
  all_goals refine ⟨ret_bool ?_, below1 _ _⟩
  all_goals (go_light; rw [Hspec.out] <;> simp [*] <;> omega)

set_option maxRecDepth 100000 in
set_option maxHeartbeats 2000000 in
theorem node_no (k : Int) (s : ByteArray) (l : List Ty) (a : Option Addr) (cap : Nat) (vars : Bool) (w : World) (hlen : l.length ≤ maxLen) (hs : s.size ≤ maxLen) (hk : k < 1 ∨ 12 < k) :
    Calls Tryd.prog 33 #[.agg (nodeCells k s 0 a l.length cap), .bool vars] w fun e w' => e = .returned (.bool (nodeB vars k s.toList 0 l)) ∧ Below w.heap.size w w' := by
  unfold maxLen at hlen
  unfold nodeCells
  have hspec := nodeB_no vars s.toList l hk
  generalize nodeB vars k s.toList 0 l = R at hspec ⊢
  generalize l.length = len at hspec hlen ⊢
  have Hspec := Lib.hid hspec
  clear hspec
  go_enter Tryd.func33, Tryd.ntmps33
  go_wp2_with fail
  all_goals go_ret
  all_goals refine ⟨ret_bool ?_, below1 _ _⟩
  all_goals (go_light; rw [Hspec.out] <;> simp [*] <;> omega)

set_option maxRecDepth 100000 in
set_option maxHeartbeats 2000000 in
theorem node_6 (n : Int) (s : ByteArray) (l : List Ty) (a : Option Addr) (cap : Nat) (vars : Bool) (w : World) (hlen : l.length ≤ maxLen) (hs : s.size ≤ maxLen) :
    Calls Tryd.prog 33 #[.agg (nodeCells 6 s 0 a l.length cap), .bool vars] w fun e w' => e = .returned (.bool (nodeB vars 6 s.toList 0 l)) ∧ Below w.heap.size w w' := by
  unfold maxLen at hlen
  unfold nodeCells
  have hspec := (show nodeB vars 6 s.toList 0 l = (!taken s.toList l.length && decide (l.length ≤ 3) && typeName s.toList) from rfl)
  generalize nodeB vars 6 s.toList 0 l = R at hspec ⊢
  generalize l.length = len at hspec hlen ⊢
  have Hspec := Lib.hid hspec
  clear hspec
  by_cases h0 : len = 0
  · subst h0
    cases e1 : (s.toList == ([73, 110, 116] : List UInt8)) with
    | true =>
      go_enter Tryd.func33, Tryd.ntmps33
      go_wp2_with fail
      all_goals go_ret
      all_goals refine ⟨ret_bool ?_, below1 _ _⟩
      all_goals (go_light; rw [Hspec.out] <;> simp [taken, *] <;> omega)
    | false =>
      cases e2 : (s.toList == ([66, 111, 111, 108] : List UInt8)) with
      | true =>
        go_enter Tryd.func33, Tryd.ntmps33
        go_wp2_with fail
        all_goals go_ret
        all_goals refine ⟨ret_bool ?_, below1 _ _⟩
        all_goals (go_light; rw [Hspec.out] <;> simp [taken, *] <;> omega)
      | false =>
        cases e3 : (s.toList == ([84, 101, 120, 116] : List UInt8)) with
        | true =>
          go_enter Tryd.func33, Tryd.ntmps33
          go_wp2_with fail
          all_goals go_ret
          all_goals refine ⟨ret_bool ?_, below1 _ _⟩
          all_goals (go_light; rw [Hspec.out] <;> simp [taken, *] <;> omega)
        | false =>
          cases e4 : (s.toList == ([85, 110, 105, 116] : List UInt8)) with
          | true =>
            go_enter Tryd.func33, Tryd.ntmps33
            go_wp2_with fail
            all_goals go_ret
            all_goals refine ⟨ret_bool ?_, below1 _ _⟩
            all_goals (go_light; rw [Hspec.out] <;> simp [taken, *] <;> omega)
          | false =>
            go_enter Tryd.func33, Tryd.ntmps33
            go_wp2_with (go_at_call 41; refine (typeName_any _ _ hs).mono ?_; rintro e w1 ⟨rfl, rfl⟩)
            all_goals go_ret
            all_goals refine ⟨ret_bool ?_, below1 _ _⟩
            all_goals (go_light; rw [Hspec.out] <;> simp [taken, *] <;> omega)
  by_cases h1 : len = 1
  · subst h1
    cases e1 : (s.toList == ([65, 114, 114, 97, 121] : List UInt8)) with
    | true =>
      go_enter Tryd.func33, Tryd.ntmps33
      go_wp2_with fail
      all_goals go_ret
      all_goals refine ⟨ret_bool ?_, below1 _ _⟩
      all_goals (go_light; rw [Hspec.out] <;> simp [taken, *] <;> omega)
    | false =>
      cases e2 : (s.toList == ([87, 101, 97, 107] : List UInt8)) with
      | true =>
        go_enter Tryd.func33, Tryd.ntmps33
        go_wp2_with fail
        all_goals go_ret
        all_goals refine ⟨ret_bool ?_, below1 _ _⟩
        all_goals (go_light; rw [Hspec.out] <;> simp [taken, *] <;> omega)
      | false =>
        go_enter Tryd.func33, Tryd.ntmps33
        go_wp2_with (go_at_call 41; refine (typeName_any _ _ hs).mono ?_; rintro e w1 ⟨rfl, rfl⟩)
        all_goals go_ret
        all_goals refine ⟨ret_bool ?_, below1 _ _⟩
        all_goals (go_light; rw [Hspec.out] <;> simp [taken, *] <;> omega)
  have f0 : ((len : Int) == 0) = false := by simp; omega
  have f1 : ((len : Int) == 1) = false := by simp; omega
  go_enter Tryd.func33, Tryd.ntmps33
  go_wp2_with (go_at_call 41; refine (typeName_any _ _ hs).mono ?_; rintro e w1 ⟨rfl, rfl⟩)
  all_goals go_ret
  all_goals refine ⟨ret_bool ?_, below1 _ _⟩
  all_goals (go_light; rw [Hspec.out] <;> simp [taken, *] <;> omega)

set_option maxRecDepth 100000 in
set_option maxHeartbeats 2000000 in
theorem node_8 (b off : Nat) (s : ByteArray) (l : List Ty) (a : Option Addr) (cap : Nat) (vars : Bool) (w : World) (hlen : l.length ≤ maxLen) (hs : s.size ≤ maxLen) (hh : 0 < l.length → a = some ⟨b, off, none⟩ ∧ w.cell? ⟨b, off, none⟩ = some (.int .i64 (headKind l))) :
    Calls Tryd.prog 33 #[.agg (nodeCells 8 s 0 a l.length cap), .bool vars] w fun e w' => e = .returned (.bool (nodeB vars 8 s.toList 0 l)) ∧ Below w.heap.size w w' := by
  unfold maxLen at hlen
  unfold nodeCells
  have hspec := (show nodeB vars 8 s.toList 0 l = (l.length == 1 && typeName s.toList && headKind l != 10 && headKind l != 9) from rfl)
  generalize headKind l = hk at hh hspec
  generalize nodeB vars 8 s.toList 0 l = R at hspec ⊢
  generalize l.length = len at hh hspec hlen ⊢
  have Hspec := Lib.hid hspec
  clear hspec
  by_cases h1 : len = 1
  · obtain ⟨rfl, hh'⟩ := hh (by omega)
    have hh : ∀ o, (w.alloc o).cell? ⟨b, off, none⟩ = some (.int .i64 hk) := fun o => cells_later ((Below.refl _ _).alloc (Nat.le_refl _) o) _ _ hh'
    subst h1
    by_cases g1 : hk = 10
    · subst g1
      go_enter Tryd.func33, Tryd.ntmps33
      go_wp2_with fail
      all_goals go_ret
      all_goals refine ⟨ret_bool ?_, below1 _ _⟩
      all_goals (go_light; rw [Hspec.out] <;> simp [*] <;> omega)
    by_cases g2 : hk = 9
    · subst g2
      go_enter Tryd.func33, Tryd.ntmps33
      go_wp2_with fail
      all_goals go_ret
      all_goals refine ⟨ret_bool ?_, below1 _ _⟩
      all_goals (go_light; rw [Hspec.out] <;> simp [*] <;> omega)
    have f1 : (hk != 10) = true := by simpa using g1
    have f2 : (hk != 9) = true := by simpa using g2
    go_enter Tryd.func33, Tryd.ntmps33
    go_wp2_with (go_at_call 41; refine (typeName_any _ _ hs).mono ?_; rintro e w1 ⟨rfl, rfl⟩)
    all_goals go_ret
    all_goals refine ⟨ret_bool ?_, below1 _ _⟩
    all_goals (go_light; rw [Hspec.out] <;> simp [*] <;> omega)
  · have e1 : ((len : Int) == 1) = false := by simp; omega
    go_enter Tryd.func33, Tryd.ntmps33
    go_wp2_with fail
    all_goals go_ret
    all_goals refine ⟨ret_bool ?_, below1 _ _⟩
    all_goals (go_light; rw [Hspec.out] <;> simp [*] <;> omega)


theorem node_all (vars : Bool) (t : Ty) (w : World) (cs : Array Value) (hin : Ty.In w t cs) :
    Calls Tryd.prog 33 #[.agg cs, .bool vars] w fun e w' => e = .returned (.bool (t.okNode vars)) ∧ Below w.heap.size w w' := by
  cases hin with
  | mk k s n l a b off cap C ha hlen hs hk hn hc hi =>
  show Calls _ _ _ _ fun e w' => e = .returned (.bool (nodeB vars k s.toList n l)) ∧ Below w.heap.size w w'
  by_cases h12 : k = 12
  · subst h12; exact node_12 n s l a cap vars w (Nat.le_trans hlen.1 hlen.2) hs
  by_cases hn0 : n = 0
  case neg => exact node_n k n s l a cap vars w (Nat.le_trans hlen.1 hlen.2) hs h12 hn0
  subst hn0
  by_cases h1 : k = 1
  · subst h1; exact node_1 0 s l a cap vars w (Nat.le_trans hlen.1 hlen.2) hs
  by_cases h2 : k = 2
  · subst h2; exact node_2 0 s l a cap vars w (Nat.le_trans hlen.1 hlen.2) hs
  by_cases h3 : k = 3
  · subst h3; exact node_3 0 s l a cap vars w (Nat.le_trans hlen.1 hlen.2) hs
  by_cases h4 : k = 4
  · subst h4; exact node_4 0 s l a cap vars w (Nat.le_trans hlen.1 hlen.2) hs
  by_cases h5 : k = 5
  · subst h5; exact node_5 0 s l a cap vars w (Nat.le_trans hlen.1 hlen.2) hs
  by_cases h11 : k = 11
  · subst h11; exact node_11 0 s l a cap vars w (Nat.le_trans hlen.1 hlen.2) hs
  by_cases h7 : k = 7
  · subst h7; exact node_7 0 s l a cap vars w (Nat.le_trans hlen.1 hlen.2) hs
  by_cases h9 : k = 9
  · subst h9; exact node_9 0 s l a cap vars w (Nat.le_trans hlen.1 hlen.2) hs
  by_cases h10 : k = 10
  · subst h10; exact node_10 0 s l a cap vars w (Nat.le_trans hlen.1 hlen.2) hs
  by_cases h6 : k = 6
  · subst h6; exact node_6 0 s l a cap vars w (Nat.le_trans hlen.1 hlen.2) hs
  by_cases h8 : k = 8
  · subst h8; exact node_8 b off s l a cap vars w (Nat.le_trans hlen.1 hlen.2) hs (fun h => ⟨ha h, head_cell h hc hi⟩)
  exact node_no k s l a cap vars w (Nat.le_trans hlen.1 hlen.2) hs (by omega)
end Go.Proofs.YtnggblocfennaaaDoor
