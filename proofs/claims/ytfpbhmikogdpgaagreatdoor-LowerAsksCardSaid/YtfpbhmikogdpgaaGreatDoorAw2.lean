/- The type Unit at the functions of types that go through a type's nodes. -/
import Derived.Test.YtfpbhmikogdpgaaGreatDoorAw1
import Derived.Test.YtfpbhmikogdpgaaGreatDoorKept
import Derived.Laws.EntriesVeiled
namespace Go.Proofs.YtfpbhmikogdpgaaGreatDoor
open Go.RowKit

def unitC : Array Value := #[.int .i64 4, .string ⟨#[]⟩, .int .i64 0, .slice none 0 0]

set_option maxHeartbeats 1000000 in
theorem each1_unit (fn : FuncId) (cap : Array Value) (hfn : ∀ (args : Array Value) (w : World), (callFunc fn args).run Tryz.prog w = .ok (.enter fn args) w)
    (J J' : World → Prop) (M : Nat → Prop) (hJ : ∀ w w', J w → Below w.heap.size w w' → J w') (hlt : ∀ w, J w → ∀ k, M k → k < w.heap.size)
    (hF : ∀ w, J w → Calls Tryz.prog fn (#[.agg unitC] ++ cap) w fun e w' => e = .returned (.bool true) ∧ J' w' ∧ Kept M w w')
    (p1 p2 : Addr) (w : World) (hw : J w) (hp1 : w.cell? p1 = some (.func (.func fn) #[] cap)) :
    Calls Tryz.prog 267 #[.agg unitC, .pointer (some p1), .pointer (some p2)] w fun e w' => e = .returned (.bool true) ∧ J' w' ∧ Kept M w w' := by
  have hp1' : ∀ o, (w.alloc o).cell? p1 = some (.func (.func fn) #[] cap) := fun o => cells_later (below1 w o) _ _ hp1
  have hf := fun o => hF (w.alloc o) (hJ _ _ hw (below1 w o))
  have hM := hlt w hw
  unfold unitC at hf ⊢
  have Hf := Lib.hid hf
  clear hf hF hJ hlt
  go_enter Tryz.func267, Tryz.ntmps267
  go_wp2_with fail
  refine (Hf.out _).mono ?_
  rintro e w1 ⟨rfl, hJ1, hk1⟩
  have hbox : w1.cell? ⟨w.heap.size, 3, none⟩ = some (.slice none 0 0) := hk1.cell (fun h => by have := hM _ h; simp at this) (new_cell w _ _ _ _ rfl)
  have hK := ((Kept.refl M w).alloc _).trans hk1
  go_wp2_with fail
  go_loop [14] (fun ii => ii = .int .i64 0) (fun _ => 0)
  case atStart => rfl
  case round =>
    subst hrel
    go_wp2_with fail
    go_ret
    exact ⟨rfl, hJ1, hK⟩

set_option maxHeartbeats 1000000 in
/-- a function that is called for the one node of the type Unit, and says true -/
theorem each_unit (fn : FuncId) (cap : Array Value) (hfn : ∀ (args : Array Value) (w : World), (callFunc fn args).run Tryz.prog w = .ok (.enter fn args) w)
    (J J' : World → Prop) (M : Nat → Prop) (hJ : ∀ w w', J w → Below w.heap.size w w' → J w') (hlt : ∀ w, J w → ∀ k, M k → k < w.heap.size)
    (hF : ∀ w, J w → Calls Tryz.prog fn (#[.agg unitC] ++ cap) w fun e w' => e = .returned (.bool true) ∧ J' w' ∧ Kept M w w') (w : World) (hw : J w) :
    Calls Tryz.prog 206 #[.agg unitC, .func (.func fn) #[] cap] w fun e w' => e = .returned (.bool true) ∧ J' w' ∧ Kept M w w' := by
  have hr := fun p1 p2 w' hw' hp1 => each1_unit fn cap hfn J J' M hJ hlt hF p1 p2 w' hw' hp1
  have Hr := Lib.hid hr
  have HJ := Lib.hid hJ
  clear hr hF hJ hlt
  unfold unitC at *
  go_enter Tryz.func206, Tryz.ntmps206
  go_wp2_with fail
  refine (Hr.out _ _ _ ?h1 ?h2).mono ?_
  case h1 => exact HJ.out _ _ hw (below3 _ _ _ _)
  case h2 => exact old_cell (new_cell _ _ _ _ _ (by simp)) _
  rintro e w1 ⟨rfl, hI1, hk1⟩
  go_wp2_with fail
  go_ret
  exact ⟨rfl, hI1, (Kept.of_below (below3 _ _ _ _)).trans hk1⟩

set_option maxRecDepth 100000 in
set_option maxHeartbeats 1000000 in
theorem shaped_unit (w : World) : Calls Tryz.prog 266 #[.agg unitC, .bool false] w fun e w' => e = .returned (.bool true) ∧ Below w.heap.size w w' := by
  unfold unitC
  go_enter Tryz.func266, Tryz.ntmps266
  go_wp2_with fail
  go_ret
  exact ⟨rfl, below1 w _⟩

theorem right1_fn (args : Array Value) (w : World) : (callFunc 265 args).run Tryz.prog w = .ok (.enter 265 args) w := by kernel_rfl
theorem size1_fn (args : Array Value) (w : World) : (callFunc 226 args).run Tryz.prog w = .ok (.enter 226 args) w := by kernel_rfl
theorem params1_fn (args : Array Value) (w : World) : (callFunc 207 args).run Tryz.prog w = .ok (.enter 207 args) w := by kernel_rfl

def CellAt (b : Nat) (v : Value) (w : World) : Prop := w.cell? ⟨b, 0, none⟩ = some v ∧ w.frozen? ⟨b, 0, none⟩ = false
theorem CellAt.later {b : Nat} {v : Value} {w w' : World} (h : CellAt b v w) (hb : Below w.heap.size w w') : CellAt b v w' := ⟨cells_later hb _ _ h.1, frozen_later hb h.1 h.2⟩

set_option maxHeartbeats 1000000 in
theorem size1_unit (b : Nat) (w : World) (hw : CellAt b (.int .i64 0) w) :
    Calls Tryz.prog 226 #[.agg unitC, .pointer (some ⟨b, 0, none⟩)] w fun e w' => e = .returned (.bool true) ∧ CellAt b (.int .i64 1) w' ∧ Kept (fun k => k = b) w w' := by
  obtain ⟨hc, hf⟩ := hw
  have hlt := lt_of_cell hc
  have hne : b ≠ w.heap.size := by simp at hlt; omega
  have hc1 := fun o => old_cell hc o
  have hf1 : ∀ o, (w.alloc o).frozen? ⟨b, 0, none⟩ = false := fun o => frozen_later (below1 w o) hc hf
  unfold unitC
  go_enter Tryz.func226, Tryz.ntmps226
  go_wp2_with fail
  go_ret
  exact ⟨rfl, ⟨old_cell (cell_set hc _) _, frozen_later (below1 _ _) (cell_set hc _) (frozen_set hf _)⟩, ((Kept.refl (fun k => k = b) w).setCell (p := ⟨b, 0, none⟩) (.inl rfl) _).alloc _⟩

set_option maxHeartbeats 1000000 in
theorem size_unit (w : World) : Calls Tryz.prog 171 #[.agg unitC] w fun e w' => e = .returned (.int .i64 1) ∧ Below w.heap.size w w' := by
  have hr := fun b w' hw' => each_unit 226 #[.pointer (some ⟨b, 0, none⟩)] size1_fn (CellAt b (.int .i64 0)) (CellAt b (.int .i64 1)) (fun k => k = b) (fun _ _ h hb => h.later hb) (fun w h k hk => by subst hk; exact lt_of_cell h.1) (fun w h => size1_unit b w h) w' hw'
  have Hr := Lib.hid hr
  clear hr
  unfold unitC at *
  go_enter Tryz.func171, Tryz.ntmps171
  go_wp2_with fail
  refine (Hr.out _ _ ?h1).mono ?_
  case h1 => exact ⟨new_cell _ _ _ _ _ (by simp), new_frozen _ _ _ _ _ (by simp)⟩
  rintro e w1 ⟨rfl, ⟨hc, hf⟩, hk1⟩
  go_wp2_with fail
  go_ret
  exact ⟨rfl, (below2 w _ _).trans (hk1.below (by simp; omega) (fun k hk => by omega))⟩
set_option maxHeartbeats 1000000 in
theorem right1_unit (b ob : Nat) (w : World) (hw : CellAt b (.int .i64 40) w) (ho : w.cell? ⟨ob, 0, none⟩ = some (.bool false)) (hbo : ob ≠ b) :
    Calls Tryz.prog 265 #[.agg unitC, .pointer (some ⟨b, 0, none⟩), .pointer (some ⟨ob, 0, none⟩)] w fun e w' => e = .returned (.bool true) ∧ True ∧ Kept (fun k => k = b) w w' := by
  obtain ⟨hc, hf⟩ := hw
  have hlt := lt_of_cell hc
  have hne : b ≠ w.heap.size := by simp at hlt; omega
  have hc1 := fun o => old_cell hc o
  have hf1 : ∀ o, (w.alloc o).frozen? ⟨b, 0, none⟩ = false := fun o => frozen_later (below1 w o) hc hf
  have hlo := lt_of_cell ho
  have hneo : ob ≠ w.heap.size := by simp at hlo; omega
  have ho2 : (w.setCell ⟨b, 0, none⟩ (.int .i64 39)).cell? ⟨ob, 0, none⟩ = some (.bool false) := cell_set_other ho hbo _
  have hs := fun w => shaped_unit w
  unfold unitC at *
  have Hs := Lib.hid hs
  clear hs
  go_enter Tryz.func265, Tryz.ntmps265
  go_wp2_with fail
  refine (Hs.out _).mono ?_
  rintro e w1 ⟨rfl, hb1⟩
  go_wp2_with fail
  go_ret
  exact ⟨rfl, trivial, (((Kept.refl (fun k => k = b) w).setCell (p := ⟨b, 0, none⟩) (.inl rfl) _).alloc _).trans (.of_below hb1)⟩

set_option maxHeartbeats 1000000 in
theorem right_unit (w : World) : Calls Tryz.prog 205 #[.agg unitC, .bool false] w fun e w' => e = .returned (.bool true) ∧ Below w.heap.size w w' := by
  have hr := fun b ob (hbo : ob ≠ b) w' hw' => each_unit 265 #[.pointer (some ⟨b, 0, none⟩), .pointer (some ⟨ob, 0, none⟩)] right1_fn (fun w => CellAt b (.int .i64 40) w ∧ w.cell? ⟨ob, 0, none⟩ = some (.bool false)) (fun _ => True) (fun k => k = b) (fun _ _ h hb => ⟨h.1.later hb, cells_later hb _ _ h.2⟩) (fun w h k hk => by subst hk; exact lt_of_cell h.1.1) (fun w h => right1_unit b ob w h.1 h.2 hbo) w' hw'
  have Hr := Lib.hid hr
  clear hr
  unfold unitC at *
  go_enter Tryz.func205, Tryz.ntmps205
  go_wp2_with fail
  refine (Hr.out _ _ ?h0 _ ?h1).mono ?_
  case h0 => omega
  case h1 => exact ⟨⟨new_cell _ _ _ _ _ (by simp), new_frozen _ _ _ _ _ (by simp)⟩, old_cell (new_cell _ _ _ _ _ (by simp)) _⟩
  rintro e w1 ⟨rfl, _, hk1⟩
  go_wp2_with fail
  go_ret
  exact ⟨rfl, (below3 w _ _ _).trans (hk1.below (by simp; omega) (fun k hk => by omega))⟩

set_option maxHeartbeats 1000000 in
theorem valid_unit (w : World) : Calls Tryz.prog 155 #[.agg unitC] w fun e w' => e = .returned (.bool true) ∧ Below w.heap.size w w' := by
  have hr := fun o => right_unit (w.alloc o)
  have Hr := Lib.hid hr
  clear hr
  unfold unitC at *
  go_enter Tryz.func155, Tryz.ntmps155
  go_wp2_with fail
  refine (Hr.out _).mono ?_
  rintro e w1 ⟨rfl, hb1⟩
  go_wp2_with fail
  go_ret
  exact ⟨rfl, (below1 w _).trans (hb1.mono (by simp))⟩

set_option maxHeartbeats 1000000 in
theorem params1_unit (b : Nat) (w : World) (hw : CellAt b (.slice none 0 0) w) :
    Calls Tryz.prog 207 #[.agg unitC, .pointer (some ⟨b, 0, none⟩)] w fun e w' => e = .returned (.bool true) ∧ CellAt b (.slice none 0 0) w' ∧ Kept (fun k => k = b) w w' := by
  unfold unitC
  go_enter Tryz.func207, Tryz.ntmps207
  go_wp2_with fail
  go_ret
  exact ⟨rfl, hw.later (below1 w _), (Kept.refl _ w).alloc _⟩

set_option maxHeartbeats 1000000 in
theorem distinct_nil (w : World) : Calls Tryz.prog 208 #[.slice none 0 0] w fun e w' => e = .returned (.slice none 0 0) ∧ Below w.heap.size w w' := by
  go_enter Tryz.func208, Tryz.ntmps208
  go_wp2_with fail
  refine (Tryz.slices_Sort_string_none none 0 w).mono ?_
  rintro e w' ⟨rfl, rfl⟩
  go_wp2_with fail
  refine (Tryz.slices_Compact_string_empty none 0 _).mono ?_
  rintro e w'' ⟨rfl, rfl⟩
  go_wp2_with fail
  go_ret
  exact ⟨rfl, Below.refl _ _⟩

set_option maxHeartbeats 1000000 in
theorem params_unit (w : World) : Calls Tryz.prog 156 #[.agg unitC] w fun e w' => e = .returned (.slice none 0 0) ∧ Below w.heap.size w w' := by
  have hr := fun b w' hw' => each_unit 207 #[.pointer (some ⟨b, 0, none⟩)] params1_fn (CellAt b (.slice none 0 0)) (CellAt b (.slice none 0 0)) (fun k => k = b) (fun _ _ h hb => h.later hb) (fun w h k hk => by subst hk; exact lt_of_cell h.1) (fun w h => params1_unit b w h) w' hw'
  have Hr := Lib.hid hr
  clear hr
  unfold unitC at *
  go_enter Tryz.func156, Tryz.ntmps156
  go_wp2_with fail
  refine (Hr.out _ _ ?h1).mono ?_
  case h1 => exact ⟨new_cell _ _ _ _ _ (by simp), new_frozen _ _ _ _ _ (by simp)⟩
  rintro e w1 ⟨rfl, ⟨hc, hf⟩, hk1⟩
  have hB1 : Below w.heap.size w w1 := (below2 w _ _).trans (hk1.below (by simp; omega) (fun k hk => by omega))
  go_wp2_with fail
  refine (distinct_nil w1).mono ?_
  rintro e w2 ⟨rfl, hb2⟩
  go_wp2_with fail
  go_ret
  exact ⟨rfl, hB1.trans (hb2.mono hB1.size)⟩
end Go.Proofs.YtfpbhmikogdpgaaGreatDoor
