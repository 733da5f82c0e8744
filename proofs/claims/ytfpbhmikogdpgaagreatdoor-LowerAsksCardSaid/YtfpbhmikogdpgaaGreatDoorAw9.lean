/- flow.Module and lower.checked at the module of one empty function. -/
import Derived.Test.YtfpbhmikogdpgaaGreatDoorAw8
namespace Go.Proofs.YtfpbhmikogdpgaaGreatDoor
open Go.RowKit

/-- what an append of the one function to nothing leaves -/
theorem func_of_owns {B : Nat} {w : World} {v : Value} (h : w.ownsRow B 63 22 v (0 + 1) ([] ++ funcC.toList)) : ∃ g cap, v = .slice (some ⟨g, 0, none⟩) 1 cap ∧ FuncAt w g := by
  rcases h.2 with ⟨_, hn⟩ | ⟨g, cap, cur, hv, hbg, hgg, h1, h2, h3, htake⟩
  · omega
  · refine ⟨g, cap, hv, fun j hj => ?_⟩
    rw [cell_of_row w g j cur _ (0, 0) hgg]
    have h4 : (cur.toList.take ((0 + 1) * 22))[j]? = ([] ++ funcC.toList)[j]? := by rw [htake]
    rw [List.getElem?_take, if_pos (by omega), List.nil_append] at h4
    have h5 : cur[j]? = cur.toList[j]? := by simp
    rw [h5, h4]
    exact arr_get funcC j (show j < 22 from hj)

theorem FuncAt.news {w : World} {fb : Nat} (hf : FuncAt w fb) : ∀ (j : Nat) (u : Value), funcC.toList[j]? = some u → w.cell? ((⟨fb, 0, none⟩ : Addr).add j) = some u := by
  intro j u hj
  have hj2 : funcC[j]? = some u := by simpa using hj
  have hjl : j < 22 := by obtain ⟨h, _⟩ := Array.getElem?_eq_some_iff.1 hj2; simpa [funcC] using h
  have h2 := hf j hjl
  rw [hj2] at h2
  have hadd : (⟨fb, 0, none⟩ : Addr).add j = ⟨fb, j, none⟩ := by unfold Addr.add; split <;> simp_all
  rw [hadd]; exact h2
theorem func_one : ∀ u ∈ funcC.toList, u.oneCell' = true := List.all_eq_true.1 (show (funcC.toList.all fun u => u.oneCell') = true by kernel_rfl)

set_option maxRecDepth 100000 in
set_option maxHeartbeats 2000000 in
theorem module_unit (fb : Nat) (w : World) (hf : FuncAt w fb) : Calls Tryz.prog 39 #[.agg (modC fb)] w fun e w' => e = .returned (.tuple #[.string ⟨#[]⟩, .agg #[.int .i64 0, .int .i64 0]]) ∧ Below w.heap.size w w' := by
  obtain ⟨i0, hi, hz0, hz1, hz2⟩ := info_parts Tryz.infoFunc
  have Hi := Lib.hid hi
  have Hz0 := Lib.hid hz0
  have Hz1 := Lib.hid hz1
  have Hz2 := Lib.hid hz2
  have hcv := fun w => cover_unit fb w
  have hfc := fun w => fcheck_unit fb w
  unfold modC at *
  have Hcv := Lib.hid hcv
  have Hfc := Lib.hid hfc
  clear hi hz0 hz1 hz2 hcv hfc
  go_enter Tryz.func39, Tryz.ntmps39
  go_wp2_with fail
  go_loop [4, 16] (fun l ii => l = .slice none 0 0 ∧ ii = .int .i64 0) (fun _ _ => 0)
  case atStart => exact ⟨rfl, rfl⟩
  case round =>
    obtain ⟨rfl, rfl⟩ := hrel
    obtain ⟨W2, hW2⟩ : ∃ W, W = (w.alloc (.cells #[.slice none 0 0, .slice none 0 0, .slice none 0 0, .slice (some ⟨fb, 0, none⟩) 1 1] 66)).alloc (.cells #[.int .i64 0, .int .i64 0] 95) := ⟨_, rfl⟩
    have hb2 : Below w.heap.size w W2 := by rw [hW2]; exact below2 w _ _
    have m0 : W2.cell? ⟨w.heap.size, 0, none⟩ = some (.slice none 0 0) := by rw [hW2]; exact old_cell (new_cell w _ _ _ _ rfl) _
    have m1 : W2.cell? ⟨w.heap.size, 1, none⟩ = some (.slice none 0 0) := by rw [hW2]; exact old_cell (new_cell w _ _ _ _ rfl) _
    have m2 : W2.cell? ⟨w.heap.size, 2, none⟩ = some (.slice none 0 0) := by rw [hW2]; exact old_cell (new_cell w _ _ _ _ rfl) _
    have m3 : W2.cell? ⟨w.heap.size, 3, none⟩ = some (.slice (some ⟨fb, 0, none⟩) 1 1) := by rw [hW2]; exact old_cell (new_cell w _ _ _ _ rfl) _
    have r0 : W2.cell? ⟨w.heap.size + 1, 0, none⟩ = some (.int .i64 0) := by rw [hW2]; exact new_cell _ _ _ _ _ (by simp)
    have r1 : W2.cell? ⟨w.heap.size + 1, 1, none⟩ = some (.int .i64 0) := by rw [hW2]; exact new_cell _ _ _ _ _ (by simp)
    have f0 : W2.frozen? ⟨w.heap.size + 1, 0, none⟩ = false := by rw [hW2]; exact new_frozen _ _ _ _ _ (by simp)
    have f1 : W2.frozen? ⟨w.heap.size + 1, 1, none⟩ = false := by rw [hW2]; exact new_frozen _ _ _ _ _ (by simp)
    have hz2 : w.heap.size + 1 < W2.heap.size := by rw [hW2]; simp
    have hf2 := hf.under hb2
    have Hf2 := Lib.hid hf2
    rw [← hW2]
    clear hW2 hf2
    go_wp2_with (at_builtin; refine wpList_append_own _ rfl _ _ 64 rfl W2.heap.size 63 i0 _ 22 344 Tryz.underlying64 Hi.out Hz0.out Hz1.out Hz2.out rfl (by decide) _ _ _ rfl (World.ownsRow_nil _ _ _ _) ⟨fb, 0, none⟩ 1 1 funcC.toList rfl rfl Hf2.out.news func_one (by unfold maxLen; omega) (by omega) (Nat.le_refl _) ?_)
    intro v' w3 hown3 hgrow _
    have hb3 : Below W2.heap.size W2 w3 := (Below.refl _ _).grown hgrow (Nat.le_refl _) (fun k hk => by cases hk)
    obtain ⟨g, cap, rfl, hfg⟩ := func_of_owns hown3
    have Hfg := Lib.hid hfg
    clear hown3 hgrow hfg
    go_wp2_with fail
    have hB3 : Below w.heap.size w w3 := hb2.trans (hb3.mono hb2.size)
    have x0 := cells_later hb3 _ _ m0
    have x1 := cells_later hb3 _ _ m1
    have x2 := cells_later hb3 _ _ m2
    have x3 := cells_later hb3 _ _ m3
    have s0 := cells_later hb3 _ _ r0
    have s1 := cells_later hb3 _ _ r1
    have t0 := frozen_later hb3 r0 f0
    have t1 := frozen_later hb3 r1 f1
    have hz3 := hb3.size
    clear m0 m1 m2 m3 r0 r1 f0 f1
    go_loopw [64] (fun ii wr => ∃ i : Nat, i ≤ 1 ∧ ii = .int .i64 i ∧ Below w3.heap.size w3 wr) (fun ii _ => 1 - (intOf ii).toNat)
    case atStart => exact ⟨0, by omega, rfl, Below.refl _ _⟩
    case round =>
      obtain ⟨i, hi, rfl, hb4⟩ := hrel
      obtain ⟨W4, rfl⟩ : ∃ W4 : World, W4 = wr := ⟨_, rfl⟩
      have hz4 := hb4.size
      by_cases hi0 : i < 1
      · obtain rfl : i = 0 := by omega
        have hrange := func_range (Hfg.out.under hb4)
        have Hrange := Lib.hid hrange
        clear hrange
        go_upto_region 18 with (first
          | (with_reducible refine wpList_load_mid rfl 63 _ rfl g 0 rfl funcC.toList _ Hrange.out Tryz.underlying63 rfl (by kernel_rfl) ?_)
          | (with_reducible refine wpList_store_new rfl 63 _ _ rfl W4 _ funcC rfl rfl rfl (by kernel_rfl) rfl (by kernel_rfl) ?_))
        have hb5 := hb4.trans ((below1 W4 (.cells funcC 63)).mono hb4.size)
        have e0 := cells_later hb5 _ _ x0
        have e1 := cells_later hb5 _ _ x1
        have e2 := cells_later hb5 _ _ x2
        have e3 := cells_later hb5 _ _ x3
        have cr := func_range (func_new W4 W4.heap.size rfl)
        obtain ⟨W5, hW5⟩ : ∃ W, W = W4.alloc (.cells funcC 63) := ⟨_, rfl⟩
        have hz5 : W4.heap.size < W5.heap.size := by rw [hW5]; simp
        rw [← hW5] at hb5 e0 e1 e2 e3 cr ⊢
        have Cr := Lib.hid cr
        clear hW5 cr
        go_wp2_with (with_reducible refine wpList_load_mid rfl 63 _ rfl W4.heap.size 0 rfl funcC.toList _ Cr.out Tryz.underlying63 rfl (by kernel_rfl) ?_)
        refine (Hcv.out _).mono ?_
        rintro e W6 ⟨rfl, hb6⟩
        have cr6 : World.rangeAt W6 W4.heap.size 0 funcC.toList := fun j v hj => cells_later hb6 _ _ (Cr.out j v hj)
        have cr7 : ∀ o, World.rangeAt (W6.alloc o) W4.heap.size 0 funcC.toList := fun o j v hj => old_cell (cr6 j v hj) o
        have y0 := cells_later hb6 _ _ e0
        have y1 := cells_later hb6 _ _ e1
        have y2 := cells_later hb6 _ _ e2
        have y3 := cells_later hb6 _ _ e3
        have hz6 := hb6.size
        have n1 : w.heap.size < W6.heap.size := by omega
        have n2 : w.heap.size ≠ W6.heap.size := by omega
        have Cr7 := Lib.hid cr7
        have hb36 := hb5.trans (hb6.mono hb5.size)
        clear e0 e1 e2 e3 Cr cr6 cr7
        go_wp2_with (with_reducible refine wpList_load_mid rfl 63 _ rfl W4.heap.size 0 rfl funcC.toList _ (Cr7.out _) Tryz.underlying63 rfl (by kernel_rfl) ?_)
        refine (Hfc.out _).mono ?_
        rintro e W8 ⟨rfl, hb8⟩
        have q0 := cells_later hb8 _ _ (new_cell W6 #[.int .i64 0, .int .i64 0] 95 W6.heap.size 0 rfl)
        have q1 := cells_later hb8 _ _ (new_cell W6 #[.int .i64 0, .int .i64 0] 95 W6.heap.size 1 rfl)
        have p0 : W8.frozen? ⟨W6.heap.size, 0, none⟩ = false := frozen_later hb8 (new_cell W6 _ _ _ _ rfl) (new_frozen W6 _ _ _ _ rfl)
        have p1 : W8.frozen? ⟨W6.heap.size, 1, none⟩ = false := frozen_later hb8 (new_cell W6 _ _ _ _ rfl) (new_frozen W6 _ _ _ _ rfl)
        have hb38 : Below w3.heap.size w3 W8 := hb36.trans (((below1 W6 _).trans (hb8.mono (by simp))).mono hb36.size)
        go_wp2_with fail
        go_roundw
        case rel => exact ⟨1, by omega, rfl, (hb38.setCell (by show _ ≤ W6.heap.size; omega) _).setCell (by show _ ≤ W6.heap.size; omega) _⟩
        case measure => simp [intOf]
      · obtain rfl : i = 1 := by omega
        have u0 := cells_later hb4 _ _ s0
        have u1 := cells_later hb4 _ _ s1
        have v0 := frozen_later hb4 s0 t0
        have v1 := frozen_later hb4 s1 t1
        have hB4 := hB3.trans (hb4.mono hB3.size)
        go_wp2_with fail
        refine bodyPost_ret (v := .tuple #[.string ⟨#[]⟩, .agg #[.int .i64 0, .int .i64 0]]) (by simp [results, Tryz.results39, go_sem, *]) rfl ⟨rfl, ?_⟩
        exact (hB4.setCell (by show _ ≤ w.heap.size + 1; omega) _).setCell (by show _ ≤ w.heap.size + 1; omega) _
set_option maxRecDepth 100000 in
set_option maxHeartbeats 2000000 in
theorem checked_unit (fb : Nat) (w : World) (hf : FuncAt w fb) : Calls Tryz.prog 22 #[.agg (modC fb)] w fun e w' => e = .returned (.int .i64 0) ∧ Below w.heap.size w w' := by
  have hfn := fun w h => functions_any fb w h
  have hcl := fun w => closed_any w
  have hck := fun w h => check_unit fb w h
  have hmo := fun w h => module_unit fb w h
  unfold modC FunctionsSays at *
  unfold nodeC at hcl
  have Hfn := Lib.hid hfn
  have Hcl := Lib.hid hcl
  have Hck := Lib.hid hck
  have Hmo := Lib.hid hmo
  clear hfn hcl hck hmo
  go_enter Tryz.func22, Tryz.ntmps22
  go_wp2_with fail
  obtain ⟨W1, hW1⟩ : ∃ W, W = w.alloc (.cells #[.slice none 0 0, .slice none 0 0, .slice none 0 0, .slice (some ⟨fb, 0, none⟩) 1 1] 66) := ⟨_, rfl⟩
  have hb1 : Below w.heap.size w W1 := by rw [hW1]; exact below1 w _
  have m0 : W1.cell? ⟨w.heap.size, 0, none⟩ = some (.slice none 0 0) := by rw [hW1]; exact new_cell w _ _ _ _ rfl
  have m1 : W1.cell? ⟨w.heap.size, 1, none⟩ = some (.slice none 0 0) := by rw [hW1]; exact new_cell w _ _ _ _ rfl
  have m2 : W1.cell? ⟨w.heap.size, 2, none⟩ = some (.slice none 0 0) := by rw [hW1]; exact new_cell w _ _ _ _ rfl
  have m3 : W1.cell? ⟨w.heap.size, 3, none⟩ = some (.slice (some ⟨fb, 0, none⟩) 1 1) := by rw [hW1]; exact new_cell w _ _ _ _ rfl
  have hz1 : w.heap.size < W1.heap.size := by rw [hW1]; simp
  rw [← hW1]
  clear hW1
  refine (Hfn.out W1 (hf.under hb1)).mono ?_
  rintro e w3 ⟨g, cap, rfl, hfg, hb3⟩
  have Hfg := Lib.hid hfg
  have hB3 : Below w.heap.size w w3 := hb1.trans (hb3.mono hb1.size)
  have x0 := cells_later hb3 _ _ m0
  have x1 := cells_later hb3 _ _ m1
  have x2 := cells_later hb3 _ _ m2
  have x3 := cells_later hb3 _ _ m3
  have hz3 := hb3.size
  clear m0 m1 m2 m3 hfg
  go_wp2_with fail
  go_loopw [12] (fun ii wr => ∃ i : Nat, i ≤ 1 ∧ ii = .int .i64 i ∧ Below w3.heap.size w3 wr) (fun ii _ => 1 - (intOf ii).toNat)
  case atStart => exact ⟨0, by omega, rfl, Below.refl _ _⟩
  case round =>
    obtain ⟨i, hi, rfl, hb4⟩ := hrel
    obtain ⟨W4, rfl⟩ : ∃ W4 : World, W4 = wr := ⟨_, rfl⟩
    have hz4 := hb4.size
    by_cases hi0 : i < 1
    · obtain rfl : i = 0 := by omega
      have hrange := func_range (Hfg.out.under hb4)
      have Hrange := Lib.hid hrange
      clear hrange
      go_upto_region 4 with (first
        | (with_reducible refine wpList_load_mid rfl 63 _ rfl g 0 rfl funcC.toList _ Hrange.out Tryz.underlying63 rfl (by kernel_rfl) ?_)
        | (with_reducible refine wpList_store_new rfl 63 _ _ rfl W4 _ funcC rfl rfl rfl (by kernel_rfl) rfl (by kernel_rfl) ?_))
      have hb5 := hb4.trans ((below1 W4 (.cells funcC 63)).mono hb4.size)
      have hnr : World.rangeAt (W4.alloc (.cells funcC 63)) W4.heap.size 12 [.int .i64 20, .string { data := #[] }, .int .i64 0, .int .i64 0, .string { data := #[] }, .int .i64 0, .slice none 0 0, .slice none 0 0, .slice none 0 0, .int .i64 0] := node_range (func_new W4 W4.heap.size rfl)
      have Hnr := Lib.hid hnr
      clear hnr
      go_wp2_with (with_reducible refine wpList_load_mid rfl 60 _ rfl W4.heap.size 12 rfl [.int .i64 20, .string { data := #[] }, .int .i64 0, .int .i64 0, .string { data := #[] }, .int .i64 0, .slice none 0 0, .slice none 0 0, .slice none 0 0, .int .i64 0] _ Hnr.out Tryz.underlying60 rfl (by kernel_rfl) ?_)
      refine (Hcl.out _).mono ?_
      rintro e W6 ⟨rfl, hb6⟩
      have hb36 := hb5.trans (hb6.mono hb5.size)
      go_wp2_with fail
      go_roundw
      case rel => exact ⟨1, by omega, rfl, hb36⟩
      case measure => simp [intOf]
    · obtain rfl : i = 1 := by omega
      have y0 := cells_later hb4 _ _ x0
      have y1 := cells_later hb4 _ _ x1
      have y2 := cells_later hb4 _ _ x2
      have y3 := cells_later hb4 _ _ x3
      have hB4 := hB3.trans (hb4.mono hB3.size)
      have hf4 := hf.under hB4
      have Hf4 := Lib.hid hf4
      clear x0 x1 x2 x3 hf4
      go_wp2_with fail
      refine (Hck.out _ Hf4.out).mono ?_
      rintro e W5 ⟨rfl, hb5⟩
      have v0 := cells_later hb5 _ _ y0
      have v1 := cells_later hb5 _ _ y1
      have v2 := cells_later hb5 _ _ y2
      have v3 := cells_later hb5 _ _ y3
      have hB5 := hB4.trans (hb5.mono hB4.size)
      have hf5 := hf.under hB5
      have Hf5 := Lib.hid hf5
      clear y0 y1 y2 y3 hf5
      go_wp2_with fail
      refine (Hmo.out _ Hf5.out).mono ?_
      rintro e W6 ⟨rfl, hb6⟩
      have hB6 := hB5.trans (hb6.mono hB5.size)
      go_wp2_with fail
      go_ret
      exact ⟨rfl, hB6.alloc hB6.size _⟩
end Go.Proofs.YtfpbhmikogdpgaaGreatDoor
