/- LowerAsks: the law's own function, out of the contracts of what it calls. -/
import Derived.Test.YtfpbhmikogdpgaaGreatDoorSize
import Derived.Test.YtfpbhmikogdpgaaGreatDoorCount
import Derived.Test.YtfpbhmikogdpgaaGreatDoorPure
import Derived.Test.YtfpbhmikogdpgaaGreatDoorRefCalls
import Derived.Deep.RegionHeld3
import Derived.Deep.RegionWith
import Derived.BigRegion
import Derived.BigGuard
namespace Go.Proofs.YtfpbhmikogdpgaaGreatDoor
open Go.RowKit

def LawSays (w : World) (e : Ending) (w' : World) : Prop := e = .returned (.bool true) ∧ Below w.heap.size w w'
def AwakeSays (w : World) (e : Ending) (w' : World) : Prop := e = .returned (.bool true) ∧ Below w.heap.size w w'

theorem sbox_keep {b : Nat} {w0 W W' : World} {v0 v1 v2 v3 : Value} (h : Below w0.heap.size w0 W ∧ W.cell? ⟨b, 0, none⟩ = some v0 ∧ W.cell? ⟨b, 1, none⟩ = some v1 ∧ W.cell? ⟨b, 2, none⟩ = some v2 ∧ W.cell? ⟨b, 3, none⟩ = some v3) (hb : Below W.heap.size W W') :
    Below w0.heap.size w0 W' ∧ W'.cell? ⟨b, 0, none⟩ = some v0 ∧ W'.cell? ⟨b, 1, none⟩ = some v1 ∧ W'.cell? ⟨b, 2, none⟩ = some v2 ∧ W'.cell? ⟨b, 3, none⟩ = some v3 :=
  ⟨h.1.trans (hb.mono h.1.size), cells_later hb _ _ h.2.1, cells_later hb _ _ h.2.2.1, cells_later hb _ _ h.2.2.2.1, cells_later hb _ _ h.2.2.2.2⟩
theorem sbox_drew {B b : Nat} {w0 W : World} {v0 v1 v2 v3 : Value} (h : Below B w0 W ∧ W.cell? ⟨b, 0, none⟩ = some v0 ∧ W.cell? ⟨b, 1, none⟩ = some v1 ∧ W.cell? ⟨b, 2, none⟩ = some v2 ∧ W.cell? ⟨b, 3, none⟩ = some v3) :
    Below B w0 W.drew ∧ W.drew.cell? ⟨b, 0, none⟩ = some v0 ∧ W.drew.cell? ⟨b, 1, none⟩ = some v1 ∧ W.drew.cell? ⟨b, 2, none⟩ = some v2 ∧ W.drew.cell? ⟨b, 3, none⟩ = some v3 := ⟨h.1.drew, h.2⟩

set_option maxRecDepth 100000 in
set_option maxHeartbeats 4000000 in
theorem law_any (l : List Cod) (v0 v1 v2 : Value) (a : Option Addr) (cap : Nat) (op : Int) (n : ByteArray) (w : World) (hl : Cods w l a cap)
    (hv0 : ∃ a n c, v0 = .slice a n c) (hv1 : ∃ a n c, v1 = .slice a n c) (hv2 : ∃ a n c, v2 = .slice a n c) (hn : n.size ≤ maxLen)
    (hawake : ∀ w, Calls Tryz.prog 12 #[] w (AwakeSays w)) :
    Calls Tryz.prog 3 #[.agg #[v0, v1, v2, .slice a l.length cap], .int .i64 op, .string n] w (LawSays w) := by
  have hs := size_any l v0 v1 v2 a cap (w.alloc (.cells #[v0, v1, v2, .slice a l.length cap] 27)) (hl.under (below1 w _))
  unfold SizeSays at hs
  have Hs := Lib.hid hs
  have Hl := Lib.hid hl
  have Ha := Lib.hid hawake
  unfold maxLen at hn
  clear hs hl hawake
  by_cases hn2 : n.size ≤ 200
  · go_enter Tryz.func3, Tryz.ntmps3
    go_wp2_with fail
    refine Hs.out.mono ?_
    rintro e w1 ⟨N, rfl, hN, hb1⟩
    rcases hN with hN | ⟨hN, htot⟩
    · go_wp2_with fail
      go_ret
      exact ⟨rfl, (below1 w _).trans (hb1.mono (by simp))⟩
    · have hB1 : Below w.heap.size w w1 := (below1 w _).trans (hb1.mono (by simp))
      go_wp2_with fail
      have hS1 : Below w.heap.size w w1 ∧ w1.cell? ⟨w.heap.size, 0, none⟩ = some v0 ∧ w1.cell? ⟨w.heap.size, 1, none⟩ = some v1 ∧ w1.cell? ⟨w.heap.size, 2, none⟩ = some v2 ∧ w1.cell? ⟨w.heap.size, 3, none⟩ = some (.slice a l.length cap) :=
        ⟨hB1, cells_later hb1 _ _ (new_cell w _ _ _ _ rfl), cells_later hb1 _ _ (new_cell w _ _ _ _ rfl), cells_later hb1 _ _ (new_cell w _ _ _ _ rfl), cells_later hb1 _ _ (new_cell w _ _ _ _ rfl)⟩
      have hc5 := fun (W : World) (h : Below w.heap.size w W) => count_any l v0 v1 v2 a cap op W (Hl.out.under h) (by omega)
      have hc6 := fun (W : World) (h : Below w.heap.size w W) => refCount_any l v0 v1 v2 a cap op W (Hl.out.under h) (by omega)
      have hc8 := fun (n : ByteArray) (W : World) (h : Below w.heap.size w W) => calls_any l v0 v1 v2 a cap n W (Hl.out.under h) (by omega) hv0 hv1 hv2
      have hc9 := fun (n : ByteArray) (W : World) (h : Below w.heap.size w W) => refCalls_any l v0 v1 v2 a cap n W (Hl.out.under h) (by omega) hv0 hv1 hv2
      have hcA := fun (n : ByteArray) (W : World) (h : Below w.heap.size w W) => pure_any l v0 v1 v2 a cap n W (Hl.out.under h) hv0 hv1 hv2
      have hcB := fun (n : ByteArray) (W : World) (h : Below w.heap.size w W) => refPure_any l v0 v1 v2 a cap n W (Hl.out.under h) hv0 hv1 hv2
      unfold CallsSays at hc8
      unfold RefCallsSays at hc9
      generalize codCount op l = cc at hc5 hc6
      have H5 := Lib.hid hc5
      have H6 := Lib.hid hc6
      have H8 := Lib.hid hc8
      have H9 := Lib.hid hc9
      have HA := Lib.hid hcA
      have HB := Lib.hid hcB
      clear hc5 hc6 hc8 hc9 hcA hcB hB1 hb1
      clear hn2 hN htot
      go_cut [42] (fun s42 wx => s42 = .bool false ∧ Below w.heap.size w wx ∧ wx.cell? ⟨w.heap.size, 0, none⟩ = some v0 ∧ wx.cell? ⟨w.heap.size, 1, none⟩ = some v1 ∧ wx.cell? ⟨w.heap.size, 2, none⟩ = some v2 ∧ wx.cell? ⟨w.heap.size, 3, none⟩ = some (.slice a l.length cap))
      case first =>
        go_region_held3 (fun wx => Below w.heap.size w wx ∧ wx.cell? ⟨w.heap.size, 0, none⟩ = some v0 ∧ wx.cell? ⟨w.heap.size, 1, none⟩ = some v1 ∧ wx.cell? ⟨w.heap.size, 2, none⟩ = some v2 ∧ wx.cell? ⟨w.heap.size, 3, none⟩ = some (.slice a l.length cap))
          (first | exact sbox_drew hS1 | exact sbox_keep (by assumption) (by assumption) | go_keep)
          (first
            | (go_at_call 5; refine (H5.out _ (by first | assumption | exact And.left (by assumption))).mono ?_; rintro e w' ⟨rfl, hb5⟩)
            | (go_at_call 6; refine (H6.out _ (by first | assumption | exact And.left (by assumption))).mono ?_; rintro e w' ⟨rfl, hb6⟩)
            | (go_at_call 8; refine (H8.out _ _ (by first | assumption | exact And.left (by assumption))).mono ?_; rintro e w' ⟨v, rfl, hv, hbv⟩)
            | (go_at_call 9; refine (H9.out _ _ (by first | assumption | exact And.left (by assumption))).mono ?_; rintro e w' ⟨u, rfl, hu, hbu⟩)
            | (go_at_call 7; refine (eqs_any _ v u _ (by first | assumption | exact StrsAt.under hbu hv) (by first | assumption | exact StrsAt.under hbv hu)).mono ?_; rintro e w' ⟨rfl, hb7⟩)
            | (go_at_call 10; refine (HA.out _ _ (by first | assumption | exact And.left (by assumption))).mono ?_; rintro e w' ⟨rfl, hbA⟩)
            | (go_at_call 11; refine (HB.out _ _ (by first | assumption | exact And.left (by assumption))).mono ?_; rintro e w' ⟨rfl, hbB⟩))
        all_goals (go_wp2_with fail; go_meet; exact ⟨rfl, by assumption⟩)
      case rest =>
        obtain ⟨rfl, hS2⟩ := hcut
        obtain ⟨k0, k1, k2, k3, k4⟩ := hS2
        clear hS1
        go_wp2_with fail
        have hS3 := And.intro k0 (And.intro k1 (And.intro k2 (And.intro k3 k4)))
        have HS3 := Lib.hid hS3
        have hcap : l.length ≤ cap ∧ cap ≤ 17592186043904 := Hl.out.1
        clear k0 k1 k2 k3 k4 hS3
        go_loopw [7] (fun ii wr => ∃ i : Nat, i ≤ l.length ∧ i ≤ 20 ∧ ii = .int .i64 i ∧ Below w.heap.size w wr ∧ wr.cell? ⟨w.heap.size, 0, none⟩ = some v0 ∧ wr.cell? ⟨w.heap.size, 1, none⟩ = some v1 ∧ wr.cell? ⟨w.heap.size, 2, none⟩ = some v2 ∧ wr.cell? ⟨w.heap.size, 3, none⟩ = some (.slice a l.length cap)) (fun ii _ => 20 - (intOf ii).toNat)
        case atStart => exact ⟨0, by omega, by omega, rfl, HS3.out⟩
        case round =>
          obtain ⟨i, hi, hi20, rfl, hSr⟩ := hrel
          obtain ⟨k0, k1, k2, k3, k4⟩ := hSr
          by_cases hlt : i < l.length ∧ i < 20
          · obtain ⟨hlt, hlt2⟩ := hlt
            obtain ⟨b, off, _, _, _, _, _, _, _, _, _, _, _, _, _, _, _, _, _, _, _, _, ha, ⟨hc, _⟩, _⟩ := Cods.cells (Hl.out.under k0) i hlt
            subst ha
            have hSr := And.intro k0 (And.intro k1 (And.intro k2 (And.intro k3 k4)))
            generalize hnm : l[i].name = nm at hc
            clear hnm
            go_upto_region 9 with fail
            go_cut [76] (fun s42 wx => s42 = .bool false ∧ Below w.heap.size w wx ∧ wx.cell? ⟨w.heap.size, 0, none⟩ = some v0 ∧ wx.cell? ⟨w.heap.size, 1, none⟩ = some v1 ∧ wx.cell? ⟨w.heap.size, 2, none⟩ = some v2 ∧ wx.cell? ⟨w.heap.size, 3, none⟩ = some (.slice (some ⟨b, off, none⟩) l.length cap))
            case first =>
              go_region_held3 (fun wx => Below w.heap.size w wx ∧ wx.cell? ⟨w.heap.size, 0, none⟩ = some v0 ∧ wx.cell? ⟨w.heap.size, 1, none⟩ = some v1 ∧ wx.cell? ⟨w.heap.size, 2, none⟩ = some v2 ∧ wx.cell? ⟨w.heap.size, 3, none⟩ = some (.slice (some ⟨b, off, none⟩) l.length cap))
                (first | exact sbox_drew hSr | exact sbox_keep (by assumption) (by assumption) | go_keep)
                (first
                  | (go_at_call 8; refine (H8.out _ _ (by first | assumption | exact And.left (by assumption))).mono ?_; rintro e w' ⟨v, rfl, hv, hbv⟩)
                  | (go_at_call 9; refine (H9.out _ _ (by first | assumption | exact And.left (by assumption))).mono ?_; rintro e w' ⟨u, rfl, hu, hbu⟩)
                  | (go_at_call 7; refine (eqs_any _ v u _ (by first | assumption | exact StrsAt.under hbu hv) (by first | assumption | exact StrsAt.under hbv hu)).mono ?_; rintro e w' ⟨rfl, hb7⟩)
                  | (go_at_call 10; refine (HA.out _ _ (by first | assumption | exact And.left (by assumption))).mono ?_; rintro e w' ⟨rfl, hbA⟩)
                  | (go_at_call 11; refine (HB.out _ _ (by first | assumption | exact And.left (by assumption))).mono ?_; rintro e w' ⟨rfl, hbB⟩))
              all_goals (go_wp2_with fail; go_meet; exact ⟨rfl, by assumption⟩)
            case rest =>
              obtain ⟨rfl, hS4⟩ := hcut
              have HS4 := Lib.hid hS4
              clear hS4 hSr k0 k1 k2 k3 k4 hc
              go_wp2_with fail
              go_roundw
              case rel => exact ⟨i + 1, by omega, by omega, by go_num, HS4.out⟩
              case measure => simp [intOf]; omega
          · have hb0 := k0
            clear HS3
            by_cases hlt3 : i < l.length
            · have h20 : ¬ i < 20 := fun h => hlt ⟨hlt3, h⟩
              go_wp2_with fail
              refine (Ha.out _).mono ?_
              rintro e w5 ⟨rfl, hb5⟩
              go_wp2_with fail
              go_ret
              exact ⟨rfl, hb0.trans (hb5.mono hb0.size)⟩
            · go_wp2_with fail
              refine (Ha.out _).mono ?_
              rintro e w5 ⟨rfl, hb5⟩
              go_wp2_with fail
              go_ret
              exact ⟨rfl, hb0.trans (hb5.mono hb0.size)⟩
  · have hn3 : 200 < n.size := by omega
    go_enter Tryz.func3, Tryz.ntmps3
    go_wp2_with fail
    refine Hs.out.mono ?_
    rintro e w1 ⟨N, rfl, hN, hb1⟩
    go_wp2_with fail
    all_goals (go_ret; exact ⟨rfl, (below1 w _).trans (hb1.mono (by simp))⟩)
end Go.Proofs.YtfpbhmikogdpgaaGreatDoor
