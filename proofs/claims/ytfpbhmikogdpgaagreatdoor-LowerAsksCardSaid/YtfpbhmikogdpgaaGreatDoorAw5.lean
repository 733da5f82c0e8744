/- conform.Check at the module of one empty function. -/
import Derived.Test.YtfpbhmikogdpgaaGreatDoorAw4
namespace Go.Proofs.YtfpbhmikogdpgaaGreatDoor
open Go.RowKit

set_option maxRecDepth 100000 in
set_option maxHeartbeats 1000000 in
theorem rcheck_nil (w : World) : Calls Tryz.prog 56 #[.slice none 0 0, .agg #[.slice none 0 0, .slice none 0 0]] w fun e w' => e = .returned (.int .i64 0) ∧ Below w.heap.size w w' := by
  go_enter Tryz.func56, Tryz.ntmps56
  go_wp2_with fail
  refine (machine_nil _).mono ?_
  rintro e w1 ⟨⟨p, rfl⟩, hb⟩
  go_wp2_with fail
  go_ret
  exact ⟨rfl, (below1 w _).trans (hb.mono (by simp))⟩

def UnitAt (tb : Nat) (w : World) : Prop := w.cell? ⟨tb, 0, none⟩ = some (.int .i64 4) ∧ w.cell? ⟨tb, 1, none⟩ = some (.string ⟨#[]⟩) ∧ w.cell? ⟨tb, 2, none⟩ = some (.int .i64 0) ∧ w.cell? ⟨tb, 3, none⟩ = some (.slice none 0 0)
theorem UnitAt.later {tb : Nat} {w w' : World} (h : UnitAt tb w) (hb : Below w.heap.size w w') : UnitAt tb w' :=
  ⟨cells_later hb _ _ h.1, cells_later hb _ _ h.2.1, cells_later hb _ _ h.2.2.1, cells_later hb _ _ h.2.2.2⟩

set_option maxRecDepth 100000 in
set_option maxHeartbeats 2000000 in
theorem begin_unit (fb tb c : Nat) (w : World) (hu : UnitAt tb w) :
    Calls Tryz.prog 105 #[.agg (modC fb), .agg #[.slice none 0 0, .slice none 0 0], .slice (some ⟨tb, 0, none⟩) 1 c, .slice none 0 0] w fun e w' => (∃ xb, e = .returned (.tuple #[.pointer (some ⟨xb, 0, none⟩), .int .i64 0])) ∧ Below w.heap.size w w' := by
  unfold modC
  have hmm := @run_makeMap Tryz.prog
  have hv := fun w => valid_unit w
  have hp := fun w => params_unit w
  unfold unitC at hv hp
  have Hv := Lib.hid hv
  have Hp := Lib.hid hp
  clear hv hp
  go_enter Tryz.func105, Tryz.ntmps105
  go_wp2_with fail
  obtain ⟨WA, hWA⟩ : ∃ W, W = (w.alloc (.cells #[.slice none 0 0, .slice none 0 0, .slice none 0 0, .slice (some ⟨fb, 0, none⟩) 1 1] 66)).alloc (.cells #[.slice none 0 0, .slice none 0 0] 124) := ⟨_, rfl⟩
  have hbA : Below w.heap.size w WA := by rw [hWA]; exact below2 w _ _
  have m0 : WA.cell? ⟨w.heap.size, 0, none⟩ = some (.slice none 0 0) := by rw [hWA]; exact old_cell (new_cell w _ _ _ _ rfl) _
  have m1 : WA.cell? ⟨w.heap.size, 1, none⟩ = some (.slice none 0 0) := by rw [hWA]; exact old_cell (new_cell w _ _ _ _ rfl) _
  have m2 : WA.cell? ⟨w.heap.size, 2, none⟩ = some (.slice none 0 0) := by rw [hWA]; exact old_cell (new_cell w _ _ _ _ rfl) _
  have m3 : WA.cell? ⟨w.heap.size, 3, none⟩ = some (.slice (some ⟨fb, 0, none⟩) 1 1) := by rw [hWA]; exact old_cell (new_cell w _ _ _ _ rfl) _
  have s0 : WA.cell? ⟨w.heap.size + 1, 0, none⟩ = some (.slice none 0 0) := by rw [hWA]; exact new_cell _ _ _ _ _ (by simp)
  have s1 : WA.cell? ⟨w.heap.size + 1, 1, none⟩ = some (.slice none 0 0) := by rw [hWA]; exact new_cell _ _ _ _ _ (by simp)
  rw [← hWA]
  clear hWA
  refine (rcheck_nil WA).mono ?_
  rintro e w1 ⟨rfl, hb1⟩
  go_wp2_with fail
  go_loopw [31] (fun ii wr => ∃ i : Nat, i ≤ 1 ∧ ii = .int .i64 i ∧ Below WA.heap.size WA wr) (fun ii _ => 1 - (intOf ii).toNat)
  case atStart => exact ⟨0, by omega, rfl, hb1⟩
  case round =>
    obtain ⟨i, hi, rfl, hb2⟩ := hrel
    by_cases hi0 : i < 1
    · obtain rfl : i = 0 := by omega
      obtain ⟨u0, u1, u2, u3⟩ := hu.later (hbA.trans (hb2.mono hbA.size))
      go_wp2_with fail
      refine (Hv.out _).mono ?_
      rintro e w3 ⟨rfl, hb3⟩
      go_wp2_with fail
      go_roundw
      case rel => exact ⟨1, by omega, rfl, hb2.trans (((below1 wr _).trans (hb3.mono (by simp))).mono hb2.size)⟩
      case measure => simp [intOf]
    · obtain rfl : i = 1 := by omega
      go_wp2_with fail
      go_loopw [41] (fun ii wr => ∃ i : Nat, i ≤ 1 ∧ ii = .int .i64 i ∧ Below WA.heap.size WA wr) (fun ii _ => 1 - (intOf ii).toNat)
      case atStart => exact ⟨0, by omega, rfl, hb2⟩
      case round =>
        clear hb2
        obtain ⟨i, hi, rfl, hb2⟩ := hrel
        by_cases hi0 : i < 1
        · obtain rfl : i = 0 := by omega
          obtain ⟨u0, u1, u2, u3⟩ := hu.later (hbA.trans (hb2.mono hbA.size))
          go_wp2_with fail
          refine (Hp.out _).mono ?_
          rintro e w3 ⟨rfl, hb3⟩
          have hb4 := hb2.trans (((below1 wr _).trans (hb3.mono (by simp))).mono hb2.size)
          go_wp2_with fail
          go_loop [48] (fun x => x = .int .i64 0) (fun _ => 0)
          case atStart => rfl
          case round =>
            subst hrel
            go_wp2_with fail
            go_roundw
            case rel => exact ⟨_, _, _, _, _, ⟨1, by omega, rfl⟩, rfl, rfl, rfl, rfl, rfl⟩
            case measure => simp [intOf]
        · obtain rfl : i = 1 := by omega
          have n0 := cells_later hb2 _ _ m0
          have n1 := cells_later hb2 _ _ m1
          have n2 := cells_later hb2 _ _ m2
          have n3 := cells_later hb2 _ _ m3
          have q0 := cells_later hb2 _ _ s0
          have q1 := cells_later hb2 _ _ s1
          go_wp2_with fail
          go_loop [61] (fun x => x = .int .i64 0) (fun _ => 0)
          case atStart => rfl
          case round =>
            subst hrel
            go_wp2_with fail
            go_ret2
            exact ⟨⟨_, rfl⟩, hbA.trans ((hb2.trans (((below1 wr _).alloc (by simp) _).mono hb2.size)).mono hbA.size)⟩
set_option maxRecDepth 100000 in
set_option maxHeartbeats 2000000 in
theorem normal_unit (xb : Nat) (w : World) : Calls Tryz.prog 118 #[.pointer (some ⟨xb, 0, none⟩), .agg unitC, .int .i64 0] w fun e w' => e = .returned (.tuple #[.agg unitC, .int .i64 0]) ∧ Below w.heap.size w w' := by
  have hs := fun w => size_unit w
  unfold unitC at *
  have Hs := Lib.hid hs
  clear hs
  go_enter Tryz.func118, Tryz.ntmps118
  go_wp2_with fail
  go_loop [19] (fun x => x = .int .i64 0) (fun _ => 0)
  case atStart => rfl
  case round =>
    subst hrel
    go_wp2_with fail
    refine (Hs.out _).mono ?_
    rintro e w1 ⟨rfl, hb1⟩
    have hb2 := (below3 w _ _ _).trans (hb1.mono (by simp; omega))
    have fz : ∀ j, w1.frozen? ⟨w.heap.size + 1, j, none⟩ = false := fun j => by rw [hb1.frozen (by simp)]; rw [(below1 ((w.alloc _).alloc _) _).frozen (by simp)]; exact new_frozen _ _ _ _ _ (by simp)
    have r0 : w1.cell? ⟨w.heap.size + 1, 0, none⟩ = some (.int .i64 0) := cells_later hb1 _ _ (old_cell (new_cell _ _ _ _ _ (by simp)) _)
    have r1 : w1.cell? ⟨w.heap.size + 1, 1, none⟩ = some (.string ⟨#[]⟩) := cells_later hb1 _ _ (old_cell (new_cell _ _ _ _ _ (by simp)) _)
    have r2 : w1.cell? ⟨w.heap.size + 1, 2, none⟩ = some (.int .i64 0) := cells_later hb1 _ _ (old_cell (new_cell _ _ _ _ _ (by simp)) _)
    have r3 : w1.cell? ⟨w.heap.size + 1, 3, none⟩ = some (.slice none 0 0) := cells_later hb1 _ _ (old_cell (new_cell _ _ _ _ _ (by simp)) _)
    have v0 : w1.cell? ⟨w.heap.size + 1 + 1, 0, none⟩ = some (.int .i64 4) := cells_later hb1 _ _ (new_cell _ _ _ _ _ (by simp))
    have v1 : w1.cell? ⟨w.heap.size + 1 + 1, 1, none⟩ = some (.string ⟨#[]⟩) := cells_later hb1 _ _ (new_cell _ _ _ _ _ (by simp))
    have v2 : w1.cell? ⟨w.heap.size + 1 + 1, 2, none⟩ = some (.int .i64 0) := cells_later hb1 _ _ (new_cell _ _ _ _ _ (by simp))
    have v3 : w1.cell? ⟨w.heap.size + 1 + 1, 3, none⟩ = some (.slice none 0 0) := cells_later hb1 _ _ (new_cell _ _ _ _ _ (by simp))
    have f0 := fz 0
    have f1 := fz 1
    have f2 := fz 2
    have f3 := fz 3
    clear fz
    go_wp2_with fail
    refine bodyPost_ret (v := .tuple #[.agg #[.int .i64 4, .string ⟨#[]⟩, .int .i64 0, .slice none 0 0], .int .i64 0]) (by simp [results, Tryz.results118, go_sem, *]) rfl ⟨rfl, ?_⟩
    exact (((hb2.setCell (by show _ ≤ w.heap.size + 1; omega) _).setCell (by show _ ≤ w.heap.size + 1; omega) _).setCell (by show _ ≤ w.heap.size + 1; omega) _).setCell (by show _ ≤ w.heap.size + 1; omega) _

set_option maxRecDepth 100000 in
set_option maxHeartbeats 2000000 in
theorem cnormal_unit (fb : Nat) (w : World) : Calls Tryz.prog 74 #[.agg (modC fb), .agg #[.slice none 0 0, .slice none 0 0], .agg unitC] w fun e w' => e = .returned (.tuple #[.agg unitC, .int .i64 0]) ∧ Below w.heap.size w w' := by
  have hn := fun xb w => normal_unit xb w
  have hb := fun tb c w h => begin_unit fb tb c w h
  unfold unitC modC at *
  have Hn := Lib.hid hn
  have Hb := Lib.hid hb
  clear hn hb
  go_enter Tryz.func74, Tryz.ntmps74
  go_wp2_with fail
  obtain ⟨W2, hW2⟩ : ∃ W, W = (w.alloc (.cells #[.slice none 0 0, .slice none 0 0, .slice none 0 0, .slice (some ⟨fb, 0, none⟩) 1 1] 66)).alloc (.cells #[.slice none 0 0, .slice none 0 0] 124) := ⟨_, rfl⟩
  have hs2 : W2.heap.size = w.heap.size + 2 := by rw [hW2]; simp
  have hbw : Below w.heap.size w W2 := by rw [hW2]; exact below2 w _ _
  rw [← hW2]
  obtain ⟨W5, hW5⟩ : ∃ W, W = ((W2.alloc (.cells #[.int .i64 4, .string ⟨#[]⟩, .int .i64 0, .slice none 0 0] 37)).alloc (.cells #[.int .i64 0, .string ⟨#[]⟩, .int .i64 0, .slice none 0 0] 37)).alloc (.cells #[.int .i64 4, .string ⟨#[]⟩, .int .i64 0, .slice none 0 0] 37) := ⟨_, rfl⟩
  have hb25 : Below W2.heap.size W2 W5 := by rw [hW5]; exact below3 _ _ _ _
  have hs5 : W5.heap.size = w.heap.size + 5 := by rw [hW5]; simp; omega
  have b0 : W5.cell? ⟨w.heap.size + 1 + 1, 0, none⟩ = some (.int .i64 4) := by rw [hW5]; exact old_cell (old_cell (new_cell _ _ _ _ _ (by omega)) _) _
  have b1 : W5.cell? ⟨w.heap.size + 1 + 1, 1, none⟩ = some (.string ⟨#[]⟩) := by rw [hW5]; exact old_cell (old_cell (new_cell _ _ _ _ _ (by omega)) _) _
  have b2 : W5.cell? ⟨w.heap.size + 1 + 1, 2, none⟩ = some (.int .i64 0) := by rw [hW5]; exact old_cell (old_cell (new_cell _ _ _ _ _ (by omega)) _) _
  have b3 : W5.cell? ⟨w.heap.size + 1 + 1, 3, none⟩ = some (.slice none 0 0) := by rw [hW5]; exact old_cell (old_cell (new_cell _ _ _ _ _ (by omega)) _) _
  have r0 : W5.cell? ⟨w.heap.size + 1 + 1 + 1, 0, none⟩ = some (.int .i64 0) := by rw [hW5]; exact old_cell (new_cell _ _ _ _ _ (by simp; omega)) _
  have r1 : W5.cell? ⟨w.heap.size + 1 + 1 + 1, 1, none⟩ = some (.string ⟨#[]⟩) := by rw [hW5]; exact old_cell (new_cell _ _ _ _ _ (by simp; omega)) _
  have r2 : W5.cell? ⟨w.heap.size + 1 + 1 + 1, 2, none⟩ = some (.int .i64 0) := by rw [hW5]; exact old_cell (new_cell _ _ _ _ _ (by simp; omega)) _
  have r3 : W5.cell? ⟨w.heap.size + 1 + 1 + 1, 3, none⟩ = some (.slice none 0 0) := by rw [hW5]; exact old_cell (new_cell _ _ _ _ _ (by simp; omega)) _
  have f0 : W5.frozen? ⟨w.heap.size + 1 + 1 + 1, 0, none⟩ = false := by rw [hW5, (below1 ((W2.alloc _).alloc _) _).frozen (by simp; omega)]; exact new_frozen _ _ _ _ _ (by simp; omega)
  have f1 : W5.frozen? ⟨w.heap.size + 1 + 1 + 1, 1, none⟩ = false := by rw [hW5, (below1 ((W2.alloc _).alloc _) _).frozen (by simp; omega)]; exact new_frozen _ _ _ _ _ (by simp; omega)
  have f2 : W5.frozen? ⟨w.heap.size + 1 + 1 + 1, 2, none⟩ = false := by rw [hW5, (below1 ((W2.alloc _).alloc _) _).frozen (by simp; omega)]; exact new_frozen _ _ _ _ _ (by simp; omega)
  have f3 : W5.frozen? ⟨w.heap.size + 1 + 1 + 1, 3, none⟩ = false := by rw [hW5, (below1 ((W2.alloc _).alloc _) _).frozen (by simp; omega)]; exact new_frozen _ _ _ _ _ (by simp; omega)
  have hu : UnitAt (w.heap.size + 1 + 1 + 1 + 1) W5 := by
    rw [hW5]
    exact ⟨new_cell _ _ _ _ _ (by simp; omega), new_cell _ _ _ _ _ (by simp; omega), new_cell _ _ _ _ _ (by simp; omega), new_cell _ _ _ _ _ (by simp; omega)⟩
  rw [← hW5]
  clear hW5 hW2
  refine (Hb.out _ _ _ hu).mono ?_
  rintro e w1 ⟨⟨xb, rfl⟩, hb1⟩
  have c0 := cells_later hb1 _ _ b0
  have c1 := cells_later hb1 _ _ b1
  have c2 := cells_later hb1 _ _ b2
  have c3 := cells_later hb1 _ _ b3
  have d0 := cells_later hb1 _ _ r0
  have d1 := cells_later hb1 _ _ r1
  have d2 := cells_later hb1 _ _ r2
  have d3 := cells_later hb1 _ _ r3
  have g0 := frozen_later hb1 r0 f0
  have g1 := frozen_later hb1 r1 f1
  have g2 := frozen_later hb1 r2 f2
  have g3 := frozen_later hb1 r3 f3
  have hB1 : Below w.heap.size w w1 := hbw.trans ((hb25.trans (hb1.mono (by omega))).mono (by omega))
  clear b0 b1 b2 b3 r0 r1 r2 r3 f0 f1 f2 f3 hu
  go_wp2_with fail
  refine (Hn.out _ _).mono ?_
  rintro e w2 ⟨rfl, hb2⟩
  have hB2 := hB1.trans (hb2.mono hB1.size)
  have hz2 := hb2.size
  have hz1 := hb1.size
  have e0 := cells_later hb2 _ _ d0
  have e1 := cells_later hb2 _ _ d1
  have e2 := cells_later hb2 _ _ d2
  have e3 := cells_later hb2 _ _ d3
  have k0 := frozen_later hb2 d0 g0
  have k1 := frozen_later hb2 d1 g1
  have k2 := frozen_later hb2 d2 g2
  have k3 := frozen_later hb2 d3 g3
  have hq1 : w.heap.size + 1 + 1 + 1 < w2.heap.size := by omega
  have hq2 : w.heap.size + 1 + 1 + 1 ≠ w2.heap.size := by omega
  clear c0 c1 c2 c3 d0 d1 d2 d3 g0 g1 g2 g3
  go_wp2_with fail
  refine bodyPost_ret (v := .tuple #[.agg #[.int .i64 4, .string ⟨#[]⟩, .int .i64 0, .slice none 0 0], .int .i64 0]) (by simp [results, Tryz.results74, go_sem, *]) rfl ⟨rfl, ?_⟩
  have key : Below w.heap.size w ((((w2.setCell ⟨w.heap.size + 1 + 1 + 1, 0, none⟩ (.int .i64 4)).setCell ⟨w.heap.size + 1 + 1 + 1, 1, none⟩ (.string ⟨#[]⟩)).setCell ⟨w.heap.size + 1 + 1 + 1, 2, none⟩ (.int .i64 0)).setCell ⟨w.heap.size + 1 + 1 + 1, 3, none⟩ (.slice none 0 0)) :=
    (((hB2.setCell (by show _ ≤ w.heap.size + 1 + 1 + 1; omega) _).setCell (by show _ ≤ w.heap.size + 1 + 1 + 1; omega) _).setCell (by show _ ≤ w.heap.size + 1 + 1 + 1; omega) _).setCell (by show _ ≤ w.heap.size + 1 + 1 + 1; omega) _
  exact key.alloc (by simp [size_set]; omega) _
end Go.Proofs.YtfpbhmikogdpgaaGreatDoor
