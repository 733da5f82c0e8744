/- The machine of an empty signature. -/
import Derived.Test.YtfpbhmikogdpgaaGreatDoorAw2
import Derived.Deep.CutRange
import Derived.BigRegion
import Derived.Deep.DeepCutAuto
namespace Go.Proofs.YtfpbhmikogdpgaaGreatDoor
open Go.RowKit

set_option maxHeartbeats 1000000 in
theorem twice_nil (w : World) : Calls Tryz.prog 160 #[.slice none 0 0] w fun e w' => e = .returned (.bool false) ∧ w = w' := by
  go_enter Tryz.func160, Tryz.ntmps160
  go_wp2_with fail
  go_loop [7] (fun ii => ii = .int .i64 0) (fun _ => 0)
  case atStart => rfl
  case round =>
    subst hrel
    go_wp2_with fail
    go_ret
    exact ⟨rfl, rfl⟩

set_option maxRecDepth 100000 in
set_option maxHeartbeats 1000000 in
theorem formed_nil (w : World) : Calls Tryz.prog 108 #[.slice none 0 0, .agg #[.slice none 0 0, .slice none 0 0]] w fun e w' => e = .returned (.bool true) ∧ Below w.heap.size w w' := by
  go_enter Tryz.func108, Tryz.ntmps108
  go_wp2_with fail
  go_loop [5, 20] (fun l ii => l = .slice none 0 0 ∧ ii = .int .i64 0) (fun _ _ => 0)
  case atStart => exact ⟨rfl, rfl⟩
  case round =>
    obtain ⟨rfl, rfl⟩ := hrel
    go_wp2_with (go_at_call 160; refine (twice_nil _).mono ?_; rintro e w' ⟨rfl, rfl⟩)
    go_loop [67] (fun ii => ii = .int .i64 0) (fun _ => 0)
    case atStart => rfl
    case round =>
      subst hrel
      go_wp2_with fail
      go_loop [78] (fun ii => ii = .int .i64 0) (fun _ => 0)
      case atStart => rfl
      case round =>
        subst hrel
        go_wp2_with fail
        go_ret
        exact ⟨rfl, below1 w _⟩

/-- the machine of nothing, as far as it is asked -/
structure MachAt (mb : Nat) (w : World) : Prop where
  gen : w.cell? ⟨mb, 1, none⟩ = some (.slice none 0 0)
  words : w.cell? ⟨mb, 2, none⟩ = some (.slice none 0 0)
  c6 : ∃ a c, w.cell? ⟨mb, 6, none⟩ = some (.slice a 0 c)
  c7 : ∃ a c, w.cell? ⟨mb, 7, none⟩ = some (.slice a 0 c)
  c8 : ∃ a c, w.cell? ⟨mb, 8, none⟩ = some (.slice a 0 c)
  f : ∀ j, w.frozen? ⟨mb, j, none⟩ = false

set_option maxRecDepth 100000 in
set_option maxHeartbeats 1000000 in
theorem close_nil (mb : Nat) (w : World) (h : MachAt mb w) : Calls Tryz.prog 112 #[.pointer (some ⟨mb, 0, none⟩)] w fun e w' => e = .returned (.tuple #[]) ∧ w = w' := by
  have hw := h.words
  clear h
  go_enter Tryz.func112, Tryz.ntmps112
  go_wp2_with fail
  go_loop [2] (fun b => b = .bool true ∨ b = .bool false) (fun b => match b with | .bool true => 1 | _ => 0)
  case atStart => exact .inl rfl
  case round =>
    rcases hrel with rfl | rfl
    · go_wp2_with fail
      go_step3
      go_wp2_with fail
      go_step3
      go_wp2_with fail
      go_loop [2, 13] (fun b ii => b = .bool false ∧ ii = .int .i64 0) (fun _ _ => 0)
      case atStart => exact ⟨rfl, rfl⟩
      case round =>
        obtain ⟨rfl, rfl⟩ := hrel
        go_wp2_with fail
        go_round
        case rel => exact .inr rfl
        case measure => simp
    · go_wp2_with fail
      go_end0
      exact ⟨rfl, rfl⟩

set_option maxRecDepth 100000 in
set_option maxHeartbeats 1000000 in
theorem spread_nil (mb : Nat) (w : World) (h : MachAt mb w) : Calls Tryz.prog 115 #[.pointer (some ⟨mb, 0, none⟩)] w fun e w' => e = .returned (.tuple #[]) ∧ w = w' := by
  obtain ⟨a6, k6, hw⟩ := h.c6
  clear h
  go_enter Tryz.func115, Tryz.ntmps115
  go_wp2_with fail
  go_loop [2] (fun b => b = .bool true ∨ b = .bool false) (fun b => match b with | .bool true => 1 | _ => 0)
  case atStart => exact .inl rfl
  case round =>
    rcases hrel with rfl | rfl
    · go_wp2_with fail
      go_loop [2, 16] (fun b ii => b = .bool false ∧ ii = .int .i64 0) (fun _ _ => 0)
      case atStart => exact ⟨rfl, rfl⟩
      case round =>
        obtain ⟨rfl, rfl⟩ := hrel
        go_wp2_with fail
        go_round
        case rel => exact .inr rfl
        case measure => simp
    · go_wp2_with fail
      go_end0
      exact ⟨rfl, rfl⟩

theorem MachAt.later {mb : Nat} {w w' : World} (h : MachAt mb w) (hb : Below w.heap.size w w') : MachAt mb w' := by
  have hlt := lt_of_cell h.gen
  obtain ⟨a6, k6, h6⟩ := h.c6
  obtain ⟨a7, k7, h7⟩ := h.c7
  obtain ⟨a8, k8, h8⟩ := h.c8
  exact ⟨cells_later hb _ _ h.gen, cells_later hb _ _ h.words, ⟨a6, k6, cells_later hb _ _ h6⟩, ⟨a7, k7, cells_later hb _ _ h7⟩, ⟨a8, k8, cells_later hb _ _ h8⟩, fun j => by rw [hb.frozen (by simpa using hlt)]; exact h.f j⟩

def LabIn (mb : Nat) (w W : World) : Prop := MachAt mb W ∧ Below mb w W ∧ W.cell? ⟨w.heap.size, 0, none⟩ = some (.pointer (some ⟨mb, 0, none⟩))

theorem lab_in {mb : Nat} {w : World} (h : MachAt mb w) (a b c : Option Addr) (o2 o3 o4 : Obj) :
    LabIn mb w (((((((w.setCell ⟨mb, 6, none⟩ (.slice a 0 0)).setCell ⟨mb, 7, none⟩ (.slice b 0 0)).setCell ⟨mb, 8, none⟩ (.slice c 0 0)).alloc (.cells #[.pointer (some ⟨mb, 0, none⟩)] 161)).alloc o2).alloc o3).alloc o4).drew := by
  have hlt := lt_of_cell h.gen
  simp at hlt
  obtain ⟨hg, hw, ⟨a6, k6, h6⟩, ⟨a7, k7, h7⟩, ⟨a8, k8, h8⟩, hf⟩ := h
  generalize hW : ((w.setCell ⟨mb, 6, none⟩ (.slice a 0 0)).setCell ⟨mb, 7, none⟩ (.slice b 0 0)).setCell ⟨mb, 8, none⟩ (.slice c 0 0) = W3
  have hs : W3.heap.size = w.heap.size := by rw [← hW, size_set, size_set, size_set]
  have hb3 : Below mb w W3 := by rw [← hW]; exact (((Below.refl mb w).setCell (Nat.le_refl _) _).setCell (Nat.le_refl _) _).setCell (Nat.le_refl _) _
  have e1 : W3.cell? ⟨mb, 1, none⟩ = some (.slice none 0 0) := by
    rw [← hW, World.cell?_setCell_other _ _ _ _ (by simp), World.cell?_setCell_other _ _ _ _ (by simp), World.cell?_setCell_other _ _ _ _ (by simp)]; exact hg
  have e2 : W3.cell? ⟨mb, 2, none⟩ = some (.slice none 0 0) := by
    rw [← hW, World.cell?_setCell_other _ _ _ _ (by simp), World.cell?_setCell_other _ _ _ _ (by simp), World.cell?_setCell_other _ _ _ _ (by simp)]; exact hw
  have e6 : W3.cell? ⟨mb, 6, none⟩ = some (.slice a 0 0) := by
    rw [← hW, World.cell?_setCell_other _ _ _ _ (by simp), World.cell?_setCell_other _ _ _ _ (by simp), World.cell?_setCell_same _ _ _ h6]
  have e7 : W3.cell? ⟨mb, 7, none⟩ = some (.slice b 0 0) := by
    rw [← hW, World.cell?_setCell_other _ _ _ _ (by simp), World.cell?_setCell_same _ _ _ (by rw [World.cell?_setCell_other _ _ _ _ (by simp)]; exact h7)]
  have e8 : W3.cell? ⟨mb, 8, none⟩ = some (.slice c 0 0) := by
    rw [← hW, World.cell?_setCell_same _ _ _ (by rw [World.cell?_setCell_other _ _ _ _ (by simp), World.cell?_setCell_other _ _ _ _ (by simp)]; exact h8)]
  have ef : ∀ j, W3.frozen? ⟨mb, j, none⟩ = false := by
    intro j; rw [← hW, World.frozen?_setCell, World.frozen?_setCell, World.frozen?_setCell]; exact hf j
  clear hW
  have hbW : Below W3.heap.size W3 ((((W3.alloc (.cells #[.pointer (some ⟨mb, 0, none⟩)] 161)).alloc o2).alloc o3).alloc o4).drew :=
    ((((below1 W3 _).alloc (by simp) _).alloc (by simp; omega) _).alloc (by simp; omega) _).drew
  refine ⟨⟨cells_later hbW _ _ e1, cells_later hbW _ _ e2, ⟨_, _, cells_later hbW _ _ e6⟩, ⟨_, _, cells_later hbW _ _ e7⟩, ⟨_, _, cells_later hbW _ _ e8⟩, fun j => ?_⟩, hb3.trans (hbW.mono (by omega)), ?_⟩
  · rw [hbW.frozen (by simp; omega)]; exact ef j
  · have h1 := new_cell W3 #[.pointer (some ⟨mb, 0, none⟩)] 161 w.heap.size 0 hs.symm
    have hbW2 : Below (W3.alloc (.cells #[.pointer (some ⟨mb, 0, none⟩)] 161)).heap.size (W3.alloc (.cells #[.pointer (some ⟨mb, 0, none⟩)] 161)) ((((W3.alloc (.cells #[.pointer (some ⟨mb, 0, none⟩)] 161)).alloc o2).alloc o3).alloc o4).drew :=
      (((below1 _ _).alloc (by simp) _).alloc (by simp <;> omega) _).drew
    exact cells_later hbW2 _ _ h1

set_option maxRecDepth 100000 in
set_option maxHeartbeats 4000000 in
theorem label_nil (mb : Nat) (w : World) (h : MachAt mb w) : Calls Tryz.prog 113 #[.pointer (some ⟨mb, 0, none⟩)] w fun e w' => e = .returned (.tuple #[]) ∧ MachAt mb w' ∧ Below mb w w' := by
  have hlab := fun a b c o2 o3 o4 => lab_in h a b c o2 o3 o4
  have Hlab := Lib.hid hlab
  clear hlab
  obtain ⟨hg, hw, ⟨a6, k6, h6⟩, ⟨a7, k7, h7⟩, ⟨a8, k8, h8⟩, hf⟩ := h
  have f6 := hf 6
  have f7 := hf 7
  have f8 := hf 8
  have hlt := lt_of_cell hg
  simp at hlt
  have Hf := Lib.hid hf
  clear hf
  go_enter Tryz.func113, Tryz.ntmps113
  go_wp2_with fail
  have hm1 : ∀ w, (Instr.makeSlice 199 (.int .i64 0) (.int .i64 0)).run Tryz.prog w = .ok (.slice (some ⟨w.heap.size, 0, none⟩) 0 0) (w.alloc (.cells #[] 132)) := fun _ => by kernel_rfl
  have hm2 : ∀ w, (Instr.makeSlice 191 (.int .i64 0) (.int .i64 0)).run Tryz.prog w = .ok (.slice (some ⟨w.heap.size, 0, none⟩) 0 0) (w.alloc (.cells #[] 30)) := fun _ => by kernel_rfl
  have hm3 : ∀ w, (Instr.makeSlice 200 (.int .i64 0) (.int .i64 0)).run Tryz.prog w = .ok (.slice (some ⟨w.heap.size, 0, none⟩) 0 0) (w.alloc (.cells #[] 208)) := fun _ => by kernel_rfl
  have g6 := fun o => old_cell h6 o
  have g7 := fun o => old_cell h7 o
  have g8 := fun o => old_cell h8 o
  have hz : mb < w.heap.size := hlt
  have hne : mb ≠ w.heap.size := by omega
  have hne1 : mb ≠ w.heap.size + 1 := by omega
  have hne2 : mb ≠ w.heap.size + 1 + 1 := by omega
  have hne3 : mb ≠ w.heap.size + 1 + 1 + 1 := by omega
  have hz1 : mb < w.heap.size + 1 := by omega
  have hz2 : mb < w.heap.size + 1 + 1 := by omega
  have hz3 : mb < w.heap.size + 1 + 1 + 1 := by omega
  go_upto_region 2 with fail
  go_cut [2] (fun s2 wx => s2 = .int .i64 0 ∧ LabIn mb w wx)
  case first =>
    go_region
    all_goals (go_wp2_with fail; go_meet; exact ⟨rfl, Hlab.out _ _ _ _ _ _⟩)
  case rest =>
    obtain ⟨rfl, hm, hbl, hbx⟩ := hcut
    have Hm := Lib.hid hm
    have m1 := hm.gen
    have m2 := hm.words
    have hzz := lt_of_cell hbx
    simp at hzz
    have hzz2 : w.heap.size ≠ wc.heap.size := by omega
    have hzz3 : mb < wc.heap.size := by omega
    have hzz4 : mb ≠ wc.heap.size := by omega
    clear hm hm1 hm2 hm3 g6 g7 g8 h6 h7 h8 f6 f7 f8 Hlab hg hw
    go_wp2_with fail
    go_loop [40] (fun ii => ii = .int .i64 0) (fun _ => 0)
    case atStart => rfl
    case round =>
      subst hrel
      go_wp2_with fail
      go_loop [63] (fun ii => ii = .int .i64 0) (fun _ => 0)
      case atStart => rfl
      case round =>
        subst hrel
        go_wp2_with fail
        go_loop [101] (fun ii => ii = .int .i64 0) (fun _ => 0)
        case atStart => rfl
        case round =>
          subst hrel
          go_wp2_with fail
          go_loop [10] (fun ii => ii = .int .i64 0) (fun _ => 0)
          case atStart => rfl
          case round =>
            subst hrel
            go_wp2_with fail
            go_end0
            exact ⟨rfl, Hm.out.later (below1 wc _), hbl.trans ((below1 wc _).mono (by omega))⟩
end Go.Proofs.YtfpbhmikogdpgaaGreatDoor
