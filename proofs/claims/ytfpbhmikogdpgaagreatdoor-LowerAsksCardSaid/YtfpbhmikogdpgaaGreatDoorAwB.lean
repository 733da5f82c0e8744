/- middle's Consumes and Fills at the two instructions of the empty function. -/
import Derived.Test.YtfpbhmikogdpgaaGreatDoorAwA
namespace Go.Proofs.YtfpbhmikogdpgaaGreatDoor
open Go.RowKit

theorem once_nil (w : World) : Calls Tryz.prog 202 #[.slice none 0 0] w fun e w' => e = .returned (.slice none 0 0) ∧ w = w' := by
  go_enter Tryz.func202, Tryz.ntmps202
  go_wp2_with fail
  refine (Tryz.slices_Sort_int_none none 0 w).mono ?_
  rintro e w' ⟨rfl, rfl⟩
  go_wp2_with fail
  refine (Tryz.slices_Compact_int_empty none 0 _).mono ?_
  rintro e w'' ⟨rfl, rfl⟩
  go_wp2_with fail
  go_ret
  exact ⟨rfl, rfl⟩

/-- a list of the number 0 alone, in a block from B on -/
def ZeroAt (B : Nat) (v : Value) (w : World) : Prop := ∃ g cap, v = .slice (some ⟨g, 0, none⟩) 1 cap ∧ B ≤ g ∧ g < w.heap.size ∧ 1 ≤ cap ∧ w.cell? ⟨g, 0, none⟩ = some (.int .i64 0) ∧ w.frozen? ⟨g, 0, none⟩ = false

theorem once_zero (B : Nat) (v : Value) (w : World) (hB : B ≤ w.heap.size) (h : ZeroAt B v w) : Calls Tryz.prog 202 #[v] w fun e w' => ∃ v', e = .returned v' ∧ ZeroAt B v' w' ∧ Below B w w' := by
  obtain ⟨g, cap, rfl, hBg, hg, hcap, hc, hf⟩ := h
  have hH : Sort.Holds (Value.int .i64) w g 0 ([0] : List Int).toArray := fun j hj => by
    obtain rfl : j = 0 := by simpa using hj
    exact ⟨hc, hf⟩
  have hs := Tryz.slices_Sort_int g 0 cap [0] w hH hg (by simp)
  have e1 : (([0] : List Int).mergeSort fun x y => decide (x ≤ y)) = [0] := by simp
  have e2 : Lib.compact ([0] : List Int) = [0] := rfl
  rw [e1] at hs
  have Hs := Lib.hid hs
  clear hs
  go_enter Tryz.func202, Tryz.ntmps202
  go_wp2_with fail
  refine Hs.out.mono ?_
  rintro e w' ⟨rfl, n, os, rfl⟩
  have hb1 : Below B w (Sort.grow (Sort.putRow (Value.int .i64) (Sort.ahead w n) g 0 ([0] : List Int).toArray) os) :=
    below_grow (below_putRow _ (below_ahead (Below.refl _ _) n) _ _ _ hBg) hB os
  have hH2 : Sort.Holds (Value.int .i64) (Sort.grow (Sort.putRow (Value.int .i64) (Sort.ahead w n) g 0 ([0] : List Int).toArray) os) g 0 ([0] : List Int).toArray :=
    Sort.holds_grow _ _ _ _ _ _ (by simpa [Sort.putRow, Sort.mapBlock, Sort.ahead] using hg) (Sort.holds_putRow _ _ _ _ ([0] : List Int).toArray _ (Sort.holds_ahead _ _ _ _ _ _ hH) rfl)
  have hz : g < (Sort.grow (Sort.putRow (Value.int .i64) (Sort.ahead w n) g 0 ([0] : List Int).toArray) os).heap.size := by simp [Sort.grow, Sort.putRow, Sort.mapBlock, Sort.ahead]; omega
  generalize (Sort.grow (Sort.putRow (Value.int .i64) (Sort.ahead w n) g 0 ([0] : List Int).toArray) os) = W at hb1 hH2 hz ⊢
  have hc2 := Tryz.slices_Compact_int g 0 cap [0] W hH2 (by simp) (by simpa using hcap)
  rw [e2] at hc2
  have Hc2 := Lib.hid hc2
  clear hc2 hc hf
  go_wp2_with fail
  refine Hc2.out.mono ?_
  rintro e w2 ⟨rfl, q, rfl⟩
  go_wp2_with fail
  go_ret
  refine ⟨_, rfl, ⟨g, cap, rfl, hBg, by simpa [Sort.putRow, Sort.mapBlock, Sort.ahead] using hz, hcap, ?_, ?_⟩, hb1.trans (below_putRow _ (below_ahead (Below.refl _ _) q) _ _ _ hBg)⟩
  · exact Sort.cell?_putRow (Value.int .i64) (Sort.ahead W q) g 0 ([0] : List Int).toArray _ (Sort.holds_ahead _ _ _ _ _ _ hH2) rfl 0 (by simp)
  · rw [Sort.frozen?_putRow]; exact (hH2 0 (by simp)).2

def rowsC : Array Value := #[.string { data := #[] }, .int .i64 0, .string { data := #[] }, .string { data := #[99, 111, 110, 115, 116] }, .int .i64 15, .string { data := #[] }, .string { data := #[99, 111, 112, 121] }, .int .i64 1, .string { data := #[114] }, .string { data := #[109, 111, 118, 101] }, .int .i64 1, .string { data := #[99] }, .string { data := #[115, 101, 116] }, .int .i64 0, .string { data := #[105, 99] }, .string { data := #[100, 114, 111, 112] }, .int .i64 0, .string { data := #[99] }, .string { data := #[108, 111, 97, 100] }, .int .i64 33, .string { data := #[114] }, .string { data := #[115, 97, 118, 101] }, .int .i64 0, .string { data := #[102, 99] }, .string { data := #[109, 97, 107, 101] }, .int .i64 9, .string { data := #[42] }, .string { data := #[105, 110, 106, 101, 99, 116] }, .int .i64 11, .string { data := #[42] }, .string { data := #[101, 114, 97, 115, 101] }, .int .i64 25, .string { data := #[99] }, .string { data := #[99, 108, 111, 115, 117, 114, 101] }, .int .i64 27, .string { data := #[42] }, .string { data := #[97, 114, 114, 97, 121] }, .int .i64 9, .string { data := #[42] }, .string { data := #[112, 114, 105, 109] }, .int .i64 19, .string { data := #[63] }, .string { data := #[99, 97, 108, 108] }, .int .i64 471, .string { data := #[63] }, .string { data := #[119, 105, 116, 110, 101, 115, 115] }, .int .i64 471, .string { data := #[63] }, .string { data := #[97, 112, 112, 108, 121] }, .int .i64 1, .string { data := #[63] }, .string { data := #[106, 117, 109, 112] }, .int .i64 64, .string { data := #[] }, .string { data := #[98, 114, 97, 110, 99, 104] }, .int .i64 192, .string { data := #[114] }, .string { data := #[99, 97, 115, 101] }, .int .i64 194, .string { data := #[114] }, .string { data := #[114, 101, 116, 117, 114, 110] }, .int .i64 0, .string { data := #[99] }, .string { data := #[116, 104, 114, 111, 119] }, .int .i64 0, .string { data := #[99] }]

set_option maxRecDepth 100000 in
set_option maxHeartbeats 1000000 in
theorem rows_any (k : Nat) (a : ByteArray) (u : Int) (b : ByteArray) (hk : k < 22) (h0 : rowsC[k * 3]? = some (.string a)) (h1 : rowsC[k * 3 + 1]? = some (.int .i64 u)) (h2 : rowsC[k * 3 + 2]? = some (.string b)) (w : World) : Calls Tryz.prog 203 #[.int .i64 k] w fun e w' => e = .returned (.agg #[.string a, .int .i64 u, .string b]) ∧ Below w.heap.size w w' := by
  have k0 : (0 : Int) ≤ k := by omega
  have k1 : (k : Int) < 22 := by omega
  go_enter Tryz.func203, Tryz.ntmps203
  go_upto_region 1 with fail
  obtain ⟨W, hW⟩ : ∃ W, W = w.alloc (.cells #[.string ⟨#[]⟩, .int .i64 0, .string ⟨#[]⟩] 309) := ⟨_, rfl⟩
  have hz : W.heap.size = w.heap.size + 1 := by rw [hW]; simp
  have hb : Below w.heap.size w W := by rw [hW]; exact below1 w _
  have r0 : W.cell? ⟨w.heap.size, 0, none⟩ = some (.string ⟨#[]⟩) := by rw [hW]; exact new_cell w _ _ _ _ rfl
  have r1 : W.cell? ⟨w.heap.size, 1, none⟩ = some (.int .i64 0) := by rw [hW]; exact new_cell w _ _ _ _ rfl
  have r2 : W.cell? ⟨w.heap.size, 2, none⟩ = some (.string ⟨#[]⟩) := by rw [hW]; exact new_cell w _ _ _ _ rfl
  have f0 : W.frozen? ⟨w.heap.size, 0, none⟩ = false := by rw [hW]; exact new_frozen w _ _ _ _ rfl
  have f1 : W.frozen? ⟨w.heap.size, 1, none⟩ = false := by rw [hW]; exact new_frozen w _ _ _ _ rfl
  have f2 : W.frozen? ⟨w.heap.size, 2, none⟩ = false := by rw [hW]; exact new_frozen w _ _ _ _ rfl
  have n1 : w.heap.size < W.heap.size := by omega
  have n2 : w.heap.size ≠ W.heap.size := by omega
  rw [← hW]
  clear hW hz
  have c0 : (W.alloc (.cells rowsC 372)).cell? ⟨W.heap.size, k * 3, none⟩ = some (.string a) := by rw [new_cell _ _ _ _ _ rfl]; exact h0
  have c1 : (W.alloc (.cells rowsC 372)).cell? ⟨W.heap.size, k * 3 + 1, none⟩ = some (.int .i64 u) := by rw [new_cell _ _ _ _ _ rfl]; exact h1
  have c2 : (W.alloc (.cells rowsC 372)).cell? ⟨W.heap.size, k * 3 + 2, none⟩ = some (.string b) := by rw [new_cell _ _ _ _ _ rfl]; exact h2
  clear h0 h1 h2
  go_upto_region 2 with (with_reducible refine wpList_store_new rfl 372 _ _ rfl W _ rowsC rfl rfl ?e1 ?e2 ?e3 ?e4 ?_)
  case e1 => rfl
  case e2 => kernel_rfl
  case e3 => kernel_rfl
  case e4 => kernel_rfl
  go_wp2_with fail
  refine bodyPost_ret (v := .agg #[.string a, .int .i64 u, .string b]) (by simp [results, Tryz.results203, go_sem, *]) rfl ⟨rfl, ?_⟩
  have key : Below w.heap.size w (((W.setCell ⟨w.heap.size, 0, none⟩ (.string a)).setCell ⟨w.heap.size, 1, none⟩ (.int .i64 u)).setCell ⟨w.heap.size, 2, none⟩ (.string b)) :=
    ((hb.setCell (by show _ ≤ w.heap.size; omega) _).setCell (by show _ ≤ w.heap.size; omega) _).setCell (by show _ ≤ w.heap.size; omega) _
  exact key.alloc (by simp [size_set]; omega) _

set_option maxRecDepth 100000 in
set_option maxHeartbeats 1000000 in
theorem throws_no (op dst : Int) (ar : Value) (k0 : Int) (k1 : ByteArray) (k2 : Int) (h1 : op = 1 ∨ op = 20) (har : ∃ a n c, ar = .slice a n c) (w : World) :
    Calls Tryz.prog 204 #[.agg #[.int .i64 op, .int .i64 dst, ar, .string ⟨#[]⟩, .int .i64 0, .int .i64 k0, .string k1, .int .i64 k2, .slice none 0 0, .slice none 0 0, .slice none 0 0, .int .i64 0, .int .i64 0, .int .i64 0]] w fun e w' => e = .returned (.bool false) ∧ Below w.heap.size w w' := by
  obtain ⟨a1, a2, a3, rfl⟩ := har
  rcases h1 with rfl | rfl
  all_goals
    go_enter Tryz.func204, Tryz.ntmps204
    go_wp2_with fail
    go_ret
    exact ⟨rfl, below1 w _⟩
end Go.Proofs.YtfpbhmikogdpgaaGreatDoor
