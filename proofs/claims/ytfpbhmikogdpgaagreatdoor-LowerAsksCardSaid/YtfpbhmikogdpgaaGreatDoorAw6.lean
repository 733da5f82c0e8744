/- conform.Check at the module of one empty function: the function's types, then the whole. -/
import Derived.Test.YtfpbhmikogdpgaaGreatDoorAw5
import Derived.Test.YtfpbhmikogdpgaaGreatDoorCopy
import Derived.Deep.CutRange
namespace Go.Proofs.YtfpbhmikogdpgaaGreatDoor
open Go.RowKit

theorem Tryz.infoType : (Tryz.prog.info? 37).map (fun i => (i.zero, i.size, i.bytes)) = some (some (.agg #[.int .i64 0, .string ⟨#[]⟩, .int .i64 0, .slice none 0 0]), 4, 56) := by kernel_rfl

theorem below_grown_nil {w w1 w3 : World} {v : Value} (hb : Below w.heap.size w w1) (hg : w1.grownBy w3 v.ownBlock) (hv : v.ownBlock = none) : Below w.heap.size w w3 :=
  hb.grown hg hb.size (fun k hk => by rw [hv] at hk; cases hk)

set_option maxRecDepth 100000 in
set_option maxHeartbeats 2000000 in
theorem signature_unit (fb : Nat) (w : World) : Calls Tryz.prog 57 #[.agg (modC fb), .agg #[.slice none 0 0, .slice none 0 0], .agg funcC] w fun e w' => e = .returned (.int .i64 0) ∧ Below w.heap.size w w' := by
  obtain ⟨i0, hi, hz0, hz1, hz2⟩ := info_parts Tryz.infoType
  have hn := fun w => cnormal_unit fb w
  unfold unitC modC at *
  have Hn := Lib.hid hn
  have Hi := Lib.hid hi
  have Hz0 := Lib.hid hz0
  have Hz1 := Lib.hid hz1
  have Hz2 := Lib.hid hz2
  clear hn hi hz0 hz1 hz2
  unfold funcC
  go_enter Tryz.func57, Tryz.ntmps57
  go_wp2_with fail
  go_loop [7, 17] (fun l x => l = .slice none 0 0 ∧ x = .int .i64 0) (fun _ _ => 0)
  case atStart => exact ⟨rfl, rfl⟩
  case round =>
    obtain ⟨rfl, rfl⟩ := hrel
    obtain ⟨W3, hW3⟩ : ∃ W, W = ((w.alloc (.cells #[.slice none 0 0, .slice none 0 0, .slice none 0 0, .slice (some ⟨fb, 0, none⟩) 1 1] 66)).alloc (.cells #[.slice none 0 0, .slice none 0 0] 124)).alloc (.cells funcC 63) := ⟨_, rfl⟩
    have hb3 : Below w.heap.size w W3 := by rw [hW3]; exact below3 w _ _ _
    have hs3 : W3.heap.size = w.heap.size + 3 := by rw [hW3]; simp
    have m0 : W3.cell? ⟨w.heap.size, 0, none⟩ = some (.slice none 0 0) := by rw [hW3]; exact old_cell (old_cell (new_cell w _ _ _ _ rfl) _) _
    have m1 : W3.cell? ⟨w.heap.size, 1, none⟩ = some (.slice none 0 0) := by rw [hW3]; exact old_cell (old_cell (new_cell w _ _ _ _ rfl) _) _
    have m2 : W3.cell? ⟨w.heap.size, 2, none⟩ = some (.slice none 0 0) := by rw [hW3]; exact old_cell (old_cell (new_cell w _ _ _ _ rfl) _) _
    have m3 : W3.cell? ⟨w.heap.size, 3, none⟩ = some (.slice (some ⟨fb, 0, none⟩) 1 1) := by rw [hW3]; exact old_cell (old_cell (new_cell w _ _ _ _ rfl) _) _
    have s0 : W3.cell? ⟨w.heap.size + 1, 0, none⟩ = some (.slice none 0 0) := by rw [hW3]; exact old_cell (new_cell _ _ _ _ _ (by simp)) _
    have s1 : W3.cell? ⟨w.heap.size + 1, 1, none⟩ = some (.slice none 0 0) := by rw [hW3]; exact old_cell (new_cell _ _ _ _ _ (by simp)) _
    have p4 : W3.cell? ⟨w.heap.size + 1 + 1, 4, none⟩ = some (.int .i64 4) := by rw [hW3]; exact new_cell _ _ _ _ _ (by simp)
    have p5 : W3.cell? ⟨w.heap.size + 1 + 1, 5, none⟩ = some (.string ⟨#[]⟩) := by rw [hW3]; exact new_cell _ _ _ _ _ (by simp)
    have p6 : W3.cell? ⟨w.heap.size + 1 + 1, 6, none⟩ = some (.int .i64 0) := by rw [hW3]; exact new_cell _ _ _ _ _ (by simp)
    have p7 : W3.cell? ⟨w.heap.size + 1 + 1, 7, none⟩ = some (.slice none 0 0) := by rw [hW3]; exact new_cell _ _ _ _ _ (by simp)
    have p8 : W3.cell? ⟨w.heap.size + 1 + 1, 8, none⟩ = some (.int .i64 0) := by rw [hW3]; exact new_cell _ _ _ _ _ (by simp)
    have hs3a : w.heap.size + 1 + 1 < W3.heap.size := by omega
    unfold funcC at hW3
    rw [← hW3]
    clear hW3 hs3
    go_wp2_with (at_builtin; refine wpList_append_own _ rfl _ _ 35 rfl w.heap.size 37 i0 _ 4 56 Tryz.underlying35 Hi.out Hz0.out Hz1.out Hz2.out rfl (by decide) _ _ _ rfl (World.ownsRow_nil _ _ _ _) ⟨W3.heap.size, 0, none⟩ 1 1 [.int .i64 4, .string ⟨#[]⟩, .int .i64 0, .slice none 0 0] rfl rfl ?c1 ?c2 ?c3 ?c4 ?c5 ?_)
    case c2 => exact ⟨rfl, rfl, rfl, rfl⟩
    case c3 => unfold maxLen; omega
    case c5 => omega
    intro v' w5 hown5 hgrow _
    have hb5 : Below W3.heap.size W3 w5 := (below1 W3 _).grown hgrow (by simp) (fun k hk => by cases hk)
    rcases hown5.2 with ⟨_, hnn⟩ | ⟨g, cap, cur, rfl, hbg, hgg, h1, h2, h3, htake⟩
    · omega
    have hug : ∀ j, j < 4 → w5.cell? ⟨g, j, none⟩ = ([Value.int .i64 4, .string ⟨#[]⟩, .int .i64 0, .slice none 0 0] : List Value)[j]? := by
      intro j hj
      rw [cell_of_row w5 g j cur _ (0, 0) hgg]
      have h4 : (cur.toList.take ((0 + 1) * 4))[j]? = ([Value.int .i64 4, .string ⟨#[]⟩, .int .i64 0, .slice none 0 0] : List Value)[j]? := by rw [htake]
      rw [List.getElem?_take, if_pos (by omega)] at h4
      have h5 : cur[j]? = cur.toList[j]? := by simp
      rw [h5, h4]
    have y0 : w5.cell? ⟨g, 0, none⟩ = some (.int .i64 4) := hug 0 (by omega)
    have y1 : w5.cell? ⟨g, 1, none⟩ = some (.string ⟨#[]⟩) := hug 1 (by omega)
    have y2 : w5.cell? ⟨g, 2, none⟩ = some (.int .i64 0) := hug 2 (by omega)
    have y3 : w5.cell? ⟨g, 3, none⟩ = some (.slice none 0 0) := hug 3 (by omega)
    have x0 := cells_later hb5 _ _ m0
    have x1 := cells_later hb5 _ _ m1
    have x2 := cells_later hb5 _ _ m2
    have x3 := cells_later hb5 _ _ m3
    have t0 := cells_later hb5 _ _ s0
    have t1 := cells_later hb5 _ _ s1
    have q8 := cells_later hb5 _ _ p8
    have hB5 : Below w.heap.size w w5 := hb3.trans (hb5.mono hb3.size)
    clear hown5 hgrow htake hgg hug m0 m1 m2 m3 s0 s1 p4 p5 p6 p7 p8
    go_wp2_with fail
    go_loopw [43] (fun ii wr => ∃ i : Nat, i ≤ 1 ∧ ii = .int .i64 i ∧ Below w5.heap.size w5 wr) (fun ii _ => 1 - (intOf ii).toNat)
    case atStart => exact ⟨0, by omega, rfl, Below.refl _ _⟩
    case round =>
      obtain ⟨i, hi, rfl, hb6⟩ := hrel
      by_cases hi0 : i < 1
      · obtain rfl : i = 0 := by omega
        have a0 := cells_later hb6 _ _ x0
        have a1 := cells_later hb6 _ _ x1
        have a2 := cells_later hb6 _ _ x2
        have a3 := cells_later hb6 _ _ x3
        have b0 := cells_later hb6 _ _ t0
        have b1 := cells_later hb6 _ _ t1
        have d0 := cells_later hb6 _ _ y0
        have d1 := cells_later hb6 _ _ y1
        have d2 := cells_later hb6 _ _ y2
        have d3 := cells_later hb6 _ _ y3
        have z5 := hb5.size
        have z6 := hb6.size
        have n1 : w.heap.size < wr.heap.size := by omega
        have n2 : w.heap.size + 1 < wr.heap.size := by omega
        have n3 : w.heap.size ≠ wr.heap.size := by omega
        have n4 : w.heap.size + 1 ≠ wr.heap.size := by omega
        go_wp2_with fail
        refine (Hn.out _).mono ?_
        rintro e w7 ⟨rfl, hb7⟩
        have hb8 := hb6.trans (((below1 wr _).trans (hb7.mono (by simp))).mono hb6.size)
        go_wp2_with fail
        go_roundw
        case rel => exact ⟨1, by omega, rfl, hb8.alloc hb8.size _⟩
        case measure => simp [intOf]
      · obtain rfl : i = 1 := by omega
        go_wp2_with fail
        go_ret
        exact ⟨rfl, hB5.trans (hb6.mono hB5.size)⟩
set_option maxHeartbeats 1000000 in
theorem indexFunc_nil (f : Value) (w : World) : Calls Tryz.prog 71 #[.slice none 0 0, f] w fun e w' => e = .returned (.int .i64 (-1)) ∧ w = w' := by
  go_enter Tryz.func71, Tryz.ntmps71
  go_wp2_with fail
  go_loop [8] (fun ii => ii = .int .i64 0) (fun _ => 0)
  case atStart => rfl
  case round =>
    subst hrel
    go_wp2_with fail
    go_ret
    exact ⟨rfl, rfl⟩

set_option maxHeartbeats 1000000 in
theorem containsFunc_nil (f : Value) (w : World) : Calls Tryz.prog 53 #[.slice none 0 0, f] w fun e w' => e = .returned (.bool false) ∧ w = w' := by
  go_enter Tryz.func53, Tryz.ntmps53
  go_wp2_with fail
  refine (indexFunc_nil f w).mono ?_
  rintro e w' ⟨rfl, rfl⟩
  go_wp2_with fail
  go_ret
  exact ⟨rfl, rfl⟩

set_option maxRecDepth 100000 in
set_option maxHeartbeats 2000000 in
theorem check_unit (fb : Nat) (w : World) (hf : FuncAt w fb) : Calls Tryz.prog 38 #[.agg (modC fb)] w fun e w' => e = .returned (.tuple #[.int .i64 (-1), .int .i64 0]) ∧ Below w.heap.size w w' := by
  have hs := fun w => signature_unit fb w
  have hlt := lt_of_cell (hf 0 (by omega))
  unfold modC at *
  have Hs := Lib.hid hs
  clear hs
  go_enter Tryz.func38, Tryz.ntmps38
  go_wp2_with fail
  go_loop [14] (fun ii => ii = .int .i64 0) (fun _ => 0)
  case atStart => rfl
  case round =>
    subst hrel
    go_wp2_with fail
    obtain ⟨W1, hW1⟩ : ∃ W, W = w.alloc (.cells #[.slice none 0 0, .slice none 0 0, .slice none 0 0, .slice (some ⟨fb, 0, none⟩) 1 1] 66) := ⟨_, rfl⟩
    have hb1 : Below w.heap.size w W1 := by rw [hW1]; exact below1 w _
    have m0 : W1.cell? ⟨w.heap.size, 0, none⟩ = some (.slice none 0 0) := by rw [hW1]; exact new_cell w _ _ _ _ rfl
    have m1 : W1.cell? ⟨w.heap.size, 1, none⟩ = some (.slice none 0 0) := by rw [hW1]; exact new_cell w _ _ _ _ rfl
    have m2 : W1.cell? ⟨w.heap.size, 2, none⟩ = some (.slice none 0 0) := by rw [hW1]; exact new_cell w _ _ _ _ rfl
    have m3 : W1.cell? ⟨w.heap.size, 3, none⟩ = some (.slice (some ⟨fb, 0, none⟩) 1 1) := by rw [hW1]; exact new_cell w _ _ _ _ rfl
    have hz1 : w.heap.size < W1.heap.size := by rw [hW1]; simp
    rw [← hW1]
    clear hW1
    go_loopw [30] (fun ii wr => ∃ i : Nat, i ≤ 1 ∧ ii = .int .i64 i ∧ Below W1.heap.size W1 wr) (fun ii _ => 1 - (intOf ii).toNat)
    case atStart => exact ⟨0, by omega, rfl, Below.refl _ _⟩
    case round =>
      obtain ⟨i, hi, rfl, hb2⟩ := hrel
      obtain ⟨W2, rfl⟩ : ∃ W2 : World, W2 = wr := ⟨_, rfl⟩
      by_cases hi0 : i < 1
      · obtain rfl : i = 0 := by omega
        have a0 := cells_later hb2 _ _ m0
        have a1 := cells_later hb2 _ _ m1
        have a2 := cells_later hb2 _ _ m2
        have a3 := cells_later hb2 _ _ m3
        have hfw := hf.under (hb1.trans (hb2.mono hb1.size))
        have hrange : World.rangeAt W2 fb 0 funcC.toList := fun j v hj => by
          have hj2 : funcC[j]? = some v := by simpa using hj
          have hjl : j < 22 := by obtain ⟨h, _⟩ := Array.getElem?_eq_some_iff.1 hj2; simpa [funcC] using h
          have := hfw j hjl
          rw [hj2] at this
          rw [Nat.zero_add]; exact this
        have Hrange := Lib.hid hrange
        clear hfw hrange
        have z2 := hb2.size
        have n1 : w.heap.size < W2.heap.size := by omega
        have n3 : w.heap.size ≠ W2.heap.size := by omega
        go_upto_region 11 with (first
          | (with_reducible refine wpList_load_mid rfl 63 _ rfl fb 0 rfl funcC.toList _ Hrange.out Tryz.underlying63 rfl (by kernel_rfl) ?_)
          | (with_reducible refine wpList_store_new rfl 63 _ _ rfl W2 _ funcC rfl rfl rfl (by kernel_rfl) rfl (by kernel_rfl) ?_))
        have c1 : (W2.alloc (.cells funcC 63)).cell? ⟨W2.heap.size, 1, none⟩ = some (.slice none 0 0) := new_cell W2 _ _ _ _ rfl
        have c2 : (W2.alloc (.cells funcC 63)).cell? ⟨W2.heap.size, 2, none⟩ = some (.slice none 0 0) := new_cell W2 _ _ _ _ rfl
        have hb3 := hb2.trans ((below1 W2 (.cells funcC 63)).mono hb2.size)
        have e0 := cells_later hb3 _ _ m0
        have e1 := cells_later hb3 _ _ m1
        have e2 := cells_later hb3 _ _ m2
        have e3 := cells_later hb3 _ _ m3
        have cr : World.rangeAt (W2.alloc (.cells funcC 63)) W2.heap.size 0 funcC.toList := fun j v hj => by
          rw [new_cell W2 _ _ _ _ rfl, Nat.zero_add]; simpa using hj
        obtain ⟨W3, hW3⟩ : ∃ W, W = W2.alloc (.cells funcC 63) := ⟨_, rfl⟩
        have hz3 : W3.heap.size = W2.heap.size + 1 := by rw [hW3]; simp
        rw [← hW3] at c1 c2 hb3 e0 e1 e2 e3 cr ⊢
        have g1 : w.heap.size < W3.heap.size := by omega
        have g2 : w.heap.size ≠ W3.heap.size := by omega
        have g3 : W2.heap.size < W3.heap.size := by omega
        have g4 : W2.heap.size ≠ W3.heap.size := by omega
        have Cr := Lib.hid cr
        clear hW3 hz3 cr
        go_wp2_with (go_at_call 53; refine (containsFunc_nil _ _).mono ?_; rintro e w' ⟨rfl, rfl⟩)
        refine (rcheck_nil _).mono ?_
        rintro e W4 ⟨rfl, hb4⟩
        have s0 := cells_later hb4 _ _ (new_cell W3 #[.slice none 0 0, .slice none 0 0] 124 W3.heap.size 0 rfl)
        have s1 := cells_later hb4 _ _ (new_cell W3 #[.slice none 0 0, .slice none 0 0] 124 W3.heap.size 1 rfl)
        have hb34 : Below W3.heap.size W3 W4 := (below1 W3 _).trans (hb4.mono (by simp))
        have r0 := cells_later hb34 _ _ e0
        have r1 := cells_later hb34 _ _ e1
        have r2 := cells_later hb34 _ _ e2
        have r3 := cells_later hb34 _ _ e3
        have hr4 : World.rangeAt W4 W2.heap.size 0 funcC.toList := fun j v hj => cells_later hb34 _ _ (Cr.out j v hj)
        have Hr4 := Lib.hid hr4
        have hB4 := hb3.trans (hb34.mono hb3.size)
        clear e0 e1 e2 e3 Cr c1 c2 hr4
        go_wp2_with (with_reducible refine wpList_load_mid rfl 63 _ rfl W2.heap.size 0 rfl funcC.toList _ Hr4.out Tryz.underlying63 rfl (by kernel_rfl) ?_)
        refine (Hs.out _).mono ?_
        rintro e W5 ⟨rfl, hb5⟩
        have hB5 := hB4.trans (hb5.mono hB4.size)
        go_wp2_with fail
        go_roundw
        case rel => exact ⟨1, by omega, rfl, hB5⟩
        case measure => simp [intOf]
      · obtain rfl : i = 1 := by omega
        go_wp2_with fail
        go_ret2
        exact ⟨rfl, hb1.trans (hb2.mono hb1.size)⟩
end Go.Proofs.YtfpbhmikogdpgaaGreatDoor
