/- machineOf at an empty signature. -/
import Derived.Test.YtfpbhmikogdpgaaGreatDoorAw3
namespace Go.Proofs.YtfpbhmikogdpgaaGreatDoor
open Go.RowKit

set_option maxRecDepth 100000 in
set_option maxHeartbeats 4000000 in
theorem machine_nil (w : World) : Calls Tryz.prog 73 #[.slice none 0 0, .agg #[.slice none 0 0, .slice none 0 0], .slice none 0 0] w fun e w' => (∃ p, e = .returned (.tuple #[p, .int .i64 0])) ∧ Below w.heap.size w w' := by
  go_enter Tryz.func73, Tryz.ntmps73
  have hmm := @run_makeMap Tryz.prog
  go_wp2_with fail
  refine (formed_nil _).mono ?_
  rintro e w1 ⟨rfl, hb0⟩
  have s0 : w1.cell? ⟨w.heap.size, 0, none⟩ = some (.slice none 0 0) := cells_later hb0 _ _ (new_cell w _ _ _ _ rfl)
  have s1 : w1.cell? ⟨w.heap.size, 1, none⟩ = some (.slice none 0 0) := cells_later hb0 _ _ (new_cell w _ _ _ _ rfl)
  have hB1 : Below w.heap.size w w1 := (below1 w _).trans (hb0.mono (by simp))
  have hz : w.heap.size < w1.heap.size := by have := hb0.size; simp at this; omega
  have hne : w.heap.size ≠ w1.heap.size := by omega
  go_wp2_with fail
  have hM0 : ∃ W0 mb, W0 = (((w1.alloc (.map #[] 0)).alloc (.map #[] 0)).alloc (.map #[] 0)).alloc
      (.cells #[.map (some w1.heap.size), .slice none 0 0, .slice none 0 0, .map (some (w1.heap.size + 1)), .slice none 0 0, .slice none 0 0, .slice none 0 0, .slice none 0 0, .slice none 0 0, .map (some (w1.heap.size + 1 + 1))] 202) ∧ mb = w1.heap.size + 1 + 1 + 1 ∧
      MachAt mb W0 ∧ Below w1.heap.size w1 W0 := by
    refine ⟨_, _, rfl, rfl, ?_, ((((below1 w1 _).alloc (by simp) _).alloc (by simp; omega) _).alloc (by simp; omega) _)⟩
    have hnc := fun j => new_cell (((w1.alloc (.map #[] 0)).alloc (.map #[] 0)).alloc (.map #[] 0)) #[.map (some w1.heap.size), .slice none 0 0, .slice none 0 0, .map (some (w1.heap.size + 1)), .slice none 0 0, .slice none 0 0, .slice none 0 0, .slice none 0 0, .slice none 0 0, .map (some (w1.heap.size + 1 + 1))] 202 (w1.heap.size + 1 + 1 + 1) j (by simp)
    exact ⟨hnc 1, hnc 2, ⟨_, _, hnc 6⟩, ⟨_, _, hnc 7⟩, ⟨_, _, hnc 8⟩, fun j => new_frozen _ _ _ _ _ (by simp)⟩
  obtain ⟨W0, mb, hW0, hmb, hM, hbW⟩ := hM0
  rw [← hW0, ← hmb]
  have g0 := cells_later hbW _ _ s0
  have g1 := cells_later hbW _ _ s1
  have hBW : Below w.heap.size w W0 := hB1.trans (hbW.mono (by omega))
  have hzm : w.heap.size < mb := by omega
  have HM := Lib.hid hM
  clear hW0 hmb hM s0 s1 hmm
  go_loop [65] (fun x0 => x0 = .int .i64 0) (fun _ => 0)
  case atStart => exact rfl
  case round =>
    obtain rfl := hrel
    go_wp2_with fail
    go_loop [79] (fun x0 => x0 = .int .i64 0) (fun _ => 0)
    case atStart => exact rfl
    case round =>
      obtain rfl := hrel
      go_wp2_with fail
      go_loop [114] (fun x0 => x0 = .int .i64 0) (fun _ => 0)
      case atStart => exact rfl
      case round =>
        obtain rfl := hrel
        go_wp2_with fail
        go_loop [139] (fun x0 => x0 = .int .i64 0) (fun _ => 0)
        case atStart => exact rfl
        case round =>
          obtain rfl := hrel
          go_wp2_with fail
          go_loop [150] (fun x0 => x0 = .int .i64 0) (fun _ => 0)
          case atStart => exact rfl
          case round =>
            obtain rfl := hrel
            go_wp2_with fail
            go_loop [161] (fun x0 => x0 = .int .i64 0) (fun _ => 0)
            case atStart => exact rfl
            case round =>
              obtain rfl := hrel
              go_wp2_with fail
              refine (close_nil mb W0 HM.out).mono ?_
              rintro e w' ⟨rfl, rfl⟩
              go_wp2_with fail
              refine (label_nil mb _ HM.out).mono ?_
              rintro e w5 ⟨rfl, hM5, hb5⟩
              have HM5 := Lib.hid hM5
              clear hM5
              have q0 : w5.cell? ⟨w.heap.size, 0, none⟩ = some (.slice none 0 0) := by rw [hb5.cell (by simpa using hzm)]; exact g0
              have q1 : w5.cell? ⟨w.heap.size, 1, none⟩ = some (.slice none 0 0) := by rw [hb5.cell (by simpa using hzm)]; exact g1
              have hB5 : Below w.heap.size w w5 := hBW.trans (hb5.mono (by omega))
              go_wp2_with fail
              go_loop [193] (fun x0 => x0 = .int .i64 0) (fun _ => 0)
              case atStart => exact rfl
              case round =>
                obtain rfl := hrel
                go_wp2_with fail
                refine (spread_nil mb _ HM5.out).mono ?_
                rintro e w' ⟨rfl, rfl⟩
                go_wp2_with fail
                go_loop [235] (fun x0 => x0 = .int .i64 0) (fun _ => 0)
                case atStart => exact rfl
                case round =>
                  obtain rfl := hrel
                  go_wp2_with fail
                  go_loop [267] (fun x0 => x0 = .int .i64 0) (fun _ => 0)
                  case atStart => exact rfl
                  case round =>
                    obtain rfl := hrel
                    go_wp2_with fail
                    go_ret2
                    exact ⟨⟨_, rfl⟩, hB5⟩
end Go.Proofs.YtfpbhmikogdpgaaGreatDoor
