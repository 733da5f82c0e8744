/- lower.Program at the module of one empty function, and the law's awake. -/
import Derived.Test.YtfpbhmikogdpgaaGreatDoorAwJ
import Derived.Test.YtfpbhmikogdpgaaGreatDoorLaw0
namespace Go.Proofs.YtfpbhmikogdpgaaGreatDoor
open Go.RowKit

theorem Tryz.infoCode : (Tryz.prog.info? 40).map (fun i => (i.zero, i.size, i.bytes)) = some (some (.agg #[.string { data := #[] }, .slice none 0 0, .slice none 0 0, .int .i64 0, .slice none 0 0, .int .i64 0, .string { data := #[] }, .int .i64 0, .slice none 0 0, .int .i64 0, .string { data := #[] }, .int .i64 0, .slice none 0 0, .slice none 0 0]), 14, 232) := by kernel_rfl

def ProgSays (w : World) (e : Ending) (w' : World) : Prop := ∃ q cap1 gs cs g cap, e = .returned (.tuple #[.agg #[.slice none 0 0, .slice none 0 0, .slice none 0 0, .slice (some ⟨q, 0, none⟩) 1 cap1], .int .i64 0]) ∧ World.rangeAt w' q 0 (codeR gs cs g cap).toList ∧ Below w.heap.size w w'

/-- what an append of the one code to nothing leaves -/
theorem code_of_owns {B : Nat} {w : World} {v : Value} {cs : List Value} (hl : cs.length = 14) (h : w.ownsRow B 40 14 v (0 + 1) ([] ++ cs)) : ∃ g cap, v = .slice (some ⟨g, 0, none⟩) 1 cap ∧ B ≤ g ∧ g < w.heap.size ∧ World.rangeAt w g 0 cs := by
  rcases h.2 with ⟨_, hn⟩ | ⟨g, cap, cur, hv, hbg, hgg, h1, h2, h3, htake⟩
  · omega
  · refine ⟨g, cap, hv, hbg, (Array.getElem?_eq_some_iff.1 hgg).1, fun j u hj => ?_⟩
    have hjl : j < 14 := by have := (List.getElem?_eq_some_iff.1 hj).1; omega
    rw [Nat.zero_add, cell_of_row w g j cur _ (0, 0) hgg]
    have h4 : (cur.toList.take ((0 + 1) * 14))[j]? = ([] ++ cs)[j]? := by rw [htake]
    rw [List.getElem?_take, if_pos (by omega), List.nil_append] at h4
    have h5 : cur[j]? = cur.toList[j]? := by simp
    rw [h5, h4]; exact hj

set_option maxRecDepth 100000 in
set_option maxHeartbeats 4000000 in
theorem program_unit (fb : Nat) (w : World) (hf : FuncAt w fb) : Calls Tryz.prog 19 #[.agg (modC fb)] w (ProgSays w) := by
  obtain ⟨i0, hi, hz0, hz1, hz2⟩ := info_parts Tryz.infoCode
  have Hi := Lib.hid hi
  have Hz0 := Lib.hid hz0
  have Hz1 := Lib.hid hz1
  have Hz2 := Lib.hid hz2
  have hck := fun w h => checked_unit fb w h
  have hta := fun w => tables_unit fb w
  have hfn := fun w h => functions_any fb w h
  have hlo := fun w => lowered_unit fb w
  unfold modC FunctionsSays BuiltSays at *
  have Hck := Lib.hid hck
  have Hta := Lib.hid hta
  have Hfn := Lib.hid hfn
  have Hlo := Lib.hid hlo
  clear hi hz0 hz1 hz2 hck hta hfn hlo
  go_enter Tryz.func19, Tryz.ntmps19
  go_wp2_with fail
  obtain ⟨W, hW⟩ : ∃ W, W = (w.alloc (.cells #[.slice none 0 0, .slice none 0 0, .slice none 0 0, .slice (some ⟨fb, 0, none⟩) 1 1] 66)).alloc (.cells #[.slice none 0 0, .slice none 0 0, .slice none 0 0, .slice none 0 0] 27) := ⟨_, rfl⟩
  rw [← hW]
  have hB : Below w.heap.size w W := by rw [hW]; exact below2 w _ _
  have hm : World.rangeAt W w.heap.size 0 [.slice none 0 0, .slice none 0 0, .slice none 0 0, .slice (some ⟨fb, 0, none⟩) 1 1] := by
    rw [hW]; exact World.rangeAt_alloc (fun j v hj => by rw [Nat.zero_add, new_cell _ _ _ _ _ rfl]; simpa using hj) _
  have h2 : World.there W (w.heap.size + 1) 0 4 := by rw [hW]; exact there_new _ _ _ _ _ (by simp) rfl
  have hz : w.heap.size + 1 < W.heap.size := by rw [hW]; simp
  have hf0 := hf.under hB
  have Hm := Lib.hid hm
  have H2 := Lib.hid h2
  have Hf0 := Lib.hid hf0
  clear hW hm h2 hf hf0
  refine (Hck.out _ Hf0.out).mono ?_
  rintro e w1 ⟨rfl, hb1⟩
  have hB1 := hB.trans (hb1.mono hB.size)
  have m1 : World.rangeAt w1 w.heap.size 0 [.slice none 0 0, .slice none 0 0, .slice none 0 0, .slice (some ⟨fb, 0, none⟩) 1 1] := fun j v hj => cells_later hb1 _ _ (Hm.out j v hj)
  have t1 := there_later H2.out hb1 (by omega)
  have hf1 := Hf0.out.under hb1
  have hz1 : w.heap.size + 1 < w1.heap.size := by have := hb1.size; omega
  have M1 := Lib.hid m1
  have T1 := Lib.hid t1
  have Hf1 := Lib.hid hf1
  clear m1 t1 hf1 Hm H2 Hf0 hz hb1 hB
  go_wp2_with (with_reducible refine wpList_load_mid rfl 66 _ rfl w.heap.size 0 rfl [.slice none 0 0, .slice none 0 0, .slice none 0 0, .slice (some ⟨fb, 0, none⟩) 1 1] _ M1.out Tryz.underlying66 rfl (by kernel_rfl) ?_)
  refine (Hta.out _).mono ?_
  rintro e w2 ⟨rfl, hb2⟩
  obtain ⟨W2, hW2⟩ : ∃ W, W = w2.alloc (.cells #[.slice none 0 0, .slice none 0 0, .slice none 0 0, .slice none 0 0] 27) := ⟨_, rfl⟩
  have hb3 : Below w1.heap.size w1 W2 := by rw [hW2]; exact hb2.alloc hb2.size _
  have hB3 := hB1.trans (hb3.mono hB1.size)
  have m3 : World.rangeAt W2 w.heap.size 0 [.slice none 0 0, .slice none 0 0, .slice none 0 0, .slice (some ⟨fb, 0, none⟩) 1 1] := fun j v hj => cells_later hb3 _ _ (M1.out j v hj)
  have t3 := there_later T1.out hb3 (by omega)
  have hf3 := Hf1.out.under hb3
  have hzz : w1.heap.size ≤ w2.heap.size := hb2.size
  have p0 : W2.cell? ⟨w2.heap.size, 0, none⟩ = some (.slice none 0 0) := by rw [hW2]; exact new_cell _ _ _ _ _ rfl
  have p1 : W2.cell? ⟨w2.heap.size, 1, none⟩ = some (.slice none 0 0) := by rw [hW2]; exact new_cell _ _ _ _ _ rfl
  have p2 : W2.cell? ⟨w2.heap.size, 2, none⟩ = some (.slice none 0 0) := by rw [hW2]; exact new_cell _ _ _ _ _ rfl
  have p3 : W2.cell? ⟨w2.heap.size, 3, none⟩ = some (.slice none 0 0) := by rw [hW2]; exact new_cell _ _ _ _ _ rfl
  have q3 : W2.frozen? ⟨w2.heap.size, 3, none⟩ = false := by rw [hW2]; exact new_frozen _ _ _ _ _ rfl
  have hz2 : w2.heap.size < W2.heap.size := by rw [hW2]; simp
  have M3 := Lib.hid m3
  have T3 := Lib.hid t3
  have Hf3 := Lib.hid hf3
  have P3 := Lib.hid (And.intro p0 (And.intro p1 (And.intro p2 (And.intro p3 q3))))
  have HW2 := Lib.hid hW2
  clear m3 t3 hf3 hb3 hb2 hW2 p0 p1 p2 p3 q3 hB1
  go_upto_region 5 with fail
  rw [← HW2.out]
  go_wp2_with (with_reducible refine wpList_load_mid rfl 66 _ rfl w.heap.size 0 rfl [.slice none 0 0, .slice none 0 0, .slice none 0 0, .slice (some ⟨fb, 0, none⟩) 1 1] _ M3.out Tryz.underlying66 rfl (by kernel_rfl) ?_)
  refine (Hfn.out _ Hf3.out).mono ?_
  rintro e w4 ⟨gf, capf, rfl, hfa, hb4⟩
  have hB4 := hB3.trans (hb4.mono hB3.size)
  have m4 : World.rangeAt w4 w.heap.size 0 [.slice none 0 0, .slice none 0 0, .slice none 0 0, .slice (some ⟨fb, 0, none⟩) 1 1] := fun j v hj => cells_later hb4 _ _ (M3.out j v hj)
  have t4 := there_later T3.out hb4 (by omega)
  have p0 := cells_later hb4 _ _ P3.out.1
  have p1 := cells_later hb4 _ _ P3.out.2.1
  have p2 := cells_later hb4 _ _ P3.out.2.2.1
  have p3 := cells_later hb4 _ _ P3.out.2.2.2.1
  have q3 := frozen_later hb4 P3.out.2.2.2.1 P3.out.2.2.2.2
  have hz4 : w2.heap.size < w4.heap.size := by have := hb4.size; omega
  have M4 := Lib.hid m4
  have T4 := Lib.hid t4
  have Hfa := Lib.hid hfa
  have P4 := Lib.hid (And.intro p0 (And.intro p1 (And.intro p2 (And.intro p3 q3))))
  clear m4 t4 hfa p0 p1 p2 p3 q3 hb4 hB3 M3 T3 Hf3 P3 M1 T1 Hf1 HW2
  go_wp2_with fail
  obtain ⟨pb, hpb⟩ : ∃ pb, pb = w2.heap.size := ⟨_, rfl⟩
  rw [← hpb] at P4 hz4 hz2 hzz ⊢
  clear hpb
  go_loopw [21] (fun ii wr => (ii = .int .i64 0 ∧ wr = w4) ∨ (ii = .int .i64 1 ∧ ∃ q cap1 gs cs g cap, (q ≠ w.heap.size + 1 ∧ World.rangeAt wr q 0 (codeR gs cs g cap).toList) ∧ Below w.heap.size w wr ∧ World.there wr (w.heap.size + 1) 0 4 ∧ (wr.cell? ⟨pb, 0, none⟩ = some (.slice none 0 0) ∧ wr.cell? ⟨pb, 1, none⟩ = some (.slice none 0 0) ∧ wr.cell? ⟨pb, 2, none⟩ = some (.slice none 0 0) ∧ wr.cell? ⟨pb, 3, none⟩ = some (.slice (some ⟨q, 0, none⟩) 1 cap1)))) (fun ii _ => 1 - (intOf ii).toNat)
  case atStart => exact .inl ⟨rfl, rfl⟩
  case round =>
    rcases hrel with ⟨rfl, rfl⟩ | ⟨rfl, q, cap1, gs, cs, g, cap, ⟨hqn, hrq⟩, hBq, hth, x0, x1, x2, x3⟩
    · obtain ⟨W4, rfl⟩ : ∃ W4 : World, W4 = wr := ⟨_, rfl⟩
      have hrange := func_range Hfa.out
      have Hrange := Lib.hid hrange
      clear hrange
      go_upto_region 8 with (first
        | (with_reducible refine wpList_load_mid rfl 63 _ rfl gf 0 rfl funcC.toList _ Hrange.out Tryz.underlying63 rfl (by kernel_rfl) ?_)
        | (with_reducible refine wpList_store_new rfl 63 _ _ rfl W4 _ funcC rfl rfl rfl (by kernel_rfl) rfl (by kernel_rfl) ?_))
      have hb5 := below1 W4 (.cells funcC 63)
      have cr := func_range (func_new W4 W4.heap.size rfl)
      have m5 : World.rangeAt (W4.alloc (.cells funcC 63)) w.heap.size 0 [.slice none 0 0, .slice none 0 0, .slice none 0 0, .slice (some ⟨fb, 0, none⟩) 1 1] := fun j v hj => cells_later hb5 _ _ (M4.out j v hj)
      obtain ⟨W5, hW5⟩ : ∃ W, W = W4.alloc (.cells funcC 63) := ⟨_, rfl⟩
      have hz5 : W4.heap.size < W5.heap.size := by rw [hW5]; simp
      rw [← hW5] at hb5 cr m5 ⊢
      have Cr := Lib.hid cr
      have M5 := Lib.hid m5
      clear hW5 cr m5
      go_upto_region 9 with (first
        | (with_reducible refine wpList_load_mid rfl 66 _ rfl w.heap.size 0 rfl [.slice none 0 0, .slice none 0 0, .slice none 0 0, .slice (some ⟨fb, 0, none⟩) 1 1] _ M5.out Tryz.underlying66 rfl (by kernel_rfl) ?_)
        | (with_reducible refine wpList_load_mid rfl 63 _ rfl W4.heap.size 0 rfl funcC.toList _ Cr.out Tryz.underlying63 rfl (by kernel_rfl) ?_)
        | (go_at_call 25; refine (Hlo.out _).mono ?_; rintro e w6 ⟨gs, cs, g, cap, rfl, hb6⟩)
        | (refine wpList_store_new rfl 40 _ _ rfl w6 _ (codeR gs cs g cap) rfl rfl rfl (by kernel_rfl) rfl (by simp [codeR, Value.oneCell']) ?_))
      have hb46 : Below W4.heap.size W4 (w6.alloc (.cells (codeR gs cs g cap) 40)) := (hb5.trans (hb6.mono hb5.size)).trans ((below1 w6 _).mono (by have := hb6.size; omega))
      have hrc : World.rangeAt (w6.alloc (.cells (codeR gs cs g cap) 40)) w6.heap.size 0 [.string { data := #[102, 47, 48] }, .slice none 0 0, .slice none 0 0, .int .i64 0, .slice (some ⟨gs, 0, none⟩) 1 cs, .int .i64 4, .string { data := #[] }, .int .i64 0, .slice none 0 0, .int .i64 0, .string { data := #[] }, .int .i64 0, .slice none 0 0, .slice (some ⟨g, 0, none⟩) 1 cap] := fun j v hj => by
        rw [Nat.zero_add, new_cell _ _ _ _ _ rfl]; simpa [codeR] using hj
      have hz6 : W4.heap.size < w6.heap.size := by have := hb6.size; omega
      have hz7 : w6.heap.size < (w6.alloc (.cells (codeR gs cs g cap) 40)).heap.size := by simp
      generalize (w6.alloc (.cells (codeR gs cs g cap) 40)) = W7 at hb46 hrc hz7 ⊢
      have p0 := cells_later hb46 _ _ P4.out.1
      have p1 := cells_later hb46 _ _ P4.out.2.1
      have p2 := cells_later hb46 _ _ P4.out.2.2.1
      have p3 := cells_later hb46 _ _ P4.out.2.2.2.1
      have q3 := frozen_later hb46 P4.out.2.2.2.1 P4.out.2.2.2.2
      have t7 := there_later T4.out hb46 (by omega)
      have hB7 := hB4.trans (hb46.mono hB4.size)
      have Hrc := Lib.hid hrc
      have T7 := Lib.hid t7
      clear hrc t7 hb5 hb6 Cr M5 Hrange
      go_wp2_with (first
        | (with_reducible refine wpList_load_mid rfl 40 _ rfl w6.heap.size 0 rfl [.string { data := #[102, 47, 48] }, .slice none 0 0, .slice none 0 0, .int .i64 0, .slice (some ⟨gs, 0, none⟩) 1 cs, .int .i64 4, .string { data := #[] }, .int .i64 0, .slice none 0 0, .int .i64 0, .string { data := #[] }, .int .i64 0, .slice none 0 0, .slice (some ⟨g, 0, none⟩) 1 cap] _ Hrc.out Tryz.underlying40 rfl (by kernel_rfl) ?_)
        | (at_builtin; refine wpList_append_own _ rfl _ _ 25 rfl W7.heap.size 40 i0 _ 14 232 Tryz.underlying25 Hi.out Hz0.out Hz1.out Hz2.out rfl (by decide) _ _ _ rfl (World.ownsRow_nil _ _ _ _) ⟨W7.heap.size, 0, none⟩ 1 1 [.string { data := #[102, 47, 48] }, .slice none 0 0, .slice none 0 0, .int .i64 0, .slice (some ⟨gs, 0, none⟩) 1 cs, .int .i64 4, .string { data := #[] }, .int .i64 0, .slice none 0 0, .int .i64 0, .string { data := #[] }, .int .i64 0, .slice none 0 0, .slice (some ⟨g, 0, none⟩) 1 cap] rfl rfl ?e1 ?e2 ?e3 ?e4 ?e5 ?_))
      case e1 =>
        intro j u hj
        have hadd : (⟨W7.heap.size, 0, none⟩ : Addr).add j = ⟨W7.heap.size, j, none⟩ := by unfold Addr.add; split <;> simp_all
        rw [hadd, new_cell _ _ _ _ _ rfl]; simpa using hj
      case e2 => intro u hu; simp at hu; rcases hu with rfl | rfl | rfl | rfl | rfl | rfl | rfl | rfl | rfl | rfl | rfl | rfl | rfl | rfl <;> rfl
      case e3 => unfold maxLen; omega
      case e4 => omega
      case e5 => simp
      intro v' w8 hown8 hgrow _
      have hb8 : Below W7.heap.size W7 w8 := (below1 W7 _).grown hgrow (by simp) (fun k hk => by cases hk)
      obtain ⟨q, cap1, rfl, hq1, hq2, hq3⟩ := code_of_owns rfl hown8
      have x0 := cells_later hb8 _ _ p0
      have x1 := cells_later hb8 _ _ p1
      have x2 := cells_later hb8 _ _ p2
      have x3 := cells_later hb8 _ _ p3
      have y3 := frozen_later hb8 p3 q3
      have t8 := there_later T7.out hb8 (by omega)
      have hB8 := hB7.trans (hb8.mono hB7.size)
      have hpbq : pb ≠ q := by omega
      have hwq : w.heap.size + 1 ≠ pb := by omega
      have Hq3 := Lib.hid hq3
      have T8 := Lib.hid t8
      have X := Lib.hid (And.intro x0 (And.intro x1 x2))
      clear hown8 hgrow hq3 t8 p0 p1 p2 p3 q3 x0 x1 x2 Hrc T7
      go_wp2_with fail
      go_roundw
      case rel =>
        refine .inr ⟨by first | rfl | trivial, q, cap1, gs, cs, g, cap, ⟨by omega, fun j v hj => ?_⟩, hB8.setCell (by dsimp only; omega) _, fun j hj => ?_, ?_, ?_, ?_, ?_⟩
        · rw [World.cell?_setCell_far _ _ _ _ (by exact hpbq)]; exact Hq3.out j v hj
        · rw [World.cell?_setCell_far _ _ _ _ (by exact Ne.symm hwq), World.frozen?_setCell]; exact T8.out j hj
        · rw [World.cell?_setCell_other _ _ _ _ (by simp)]; exact X.out.1
        · rw [World.cell?_setCell_other _ _ _ _ (by simp)]; exact X.out.2.1
        · rw [World.cell?_setCell_other _ _ _ _ (by simp)]; exact X.out.2.2
        · exact cell_set x3 _
      case measure => simp [intOf]
    · have Hrq := Lib.hid hrq
      have Hth := Lib.hid hth
      obtain ⟨W9, hW9⟩ : ∃ W, W = wr.setCells (w.heap.size + 1) 0 #[.slice none 0 0, .slice none 0 0, .slice none 0 0, .slice (some ⟨q, 0, none⟩) 1 cap1].toList := ⟨_, rfl⟩
      have hr9 : World.rangeAt W9 (w.heap.size + 1) 0 [.slice none 0 0, .slice none 0 0, .slice none 0 0, .slice (some ⟨q, 0, none⟩) 1 cap1] := by
        rw [hW9]; exact World.rangeAt_setCells_same _ _ _ _ hth
      have hq9 : q ≠ w.heap.size + 1 → World.rangeAt W9 q 0 [.string { data := #[102, 47, 48] }, .slice none 0 0, .slice none 0 0, .int .i64 0, .slice (some ⟨gs, 0, none⟩) 1 cs, .int .i64 4, .string { data := #[] }, .int .i64 0, .slice none 0 0, .int .i64 0, .string { data := #[] }, .int .i64 0, .slice none 0 0, .slice (some ⟨g, 0, none⟩) 1 cap] := fun hne => by
        rw [hW9]; exact World.rangeAt_setCells_apart hrq _ _ _ (.inl hne)
      have hB9 : Below w.heap.size w W9 := by rw [hW9]; exact hBq.trans (below_setCells _ _ _ _ _ (by omega))
      have hone : (#[.slice none 0 0, .slice none 0 0, .slice none 0 0, .slice (some ⟨q, 0, none⟩) 1 cap1] : Array Value).all (·.oneCell') = true := by simp [Value.oneCell']
      have Hone := Lib.hid hone
      clear hone
      have HW9 := Lib.hid hW9
      have Hq9 := Lib.hid hq9
      clear hrq hth hW9 hq9
      go_wp2_with (refine wpList_store_mid rfl 27 _ _ rfl (w.heap.size + 1) 0 #[.slice none 0 0, .slice none 0 0, .slice none 0 0, .slice (some ⟨q, 0, none⟩) 1 cap1] rfl rfl Hth.out (by kernel_rfl) Hone.out ?_; rw [← HW9.out])
      have z0 := hr9 0 _ rfl
      have z1 := hr9 1 _ rfl
      have z2 := hr9 2 _ rfl
      have z3 := hr9 3 _ rfl
      simp only [Nat.zero_add] at z0 z1 z2 z3
      clear hr9
      refine bodyPost_ret (v := .tuple #[.agg #[.slice none 0 0, .slice none 0 0, .slice none 0 0, .slice (some ⟨q, 0, none⟩) 1 cap1], .int .i64 0]) (by simp [results, Tryz.results19, go_sem, *]) rfl ⟨q, cap1, gs, cs, g, cap, rfl, Hq9.out hqn, hB9⟩

set_option maxRecDepth 100000 in
set_option maxHeartbeats 4000000 in
theorem awake_any (w : World) : Calls Tryz.prog 12 #[] w (AwakeSays w) := by
  have hpr := fun fb w h => program_unit fb w h
  unfold modC ProgSays at hpr
  have Hpr := Lib.hid hpr
  clear hpr
  go_enter Tryz.func12, Tryz.ntmps12
  go_wp2_with fail
  have hfa : FuncAt (((w.alloc (.cells #[.int .i64 20, .string { data := #[] }, .int .i64 0, .int .i64 0, .string { data := #[] }, .int .i64 0, .slice none 0 0, .slice none 0 0, .slice none 0 0, .int .i64 0] 60)).alloc (.cells #[.string { data := #[102, 47, 48] }, .slice none 0 0, .slice none 0 0, .slice none 0 0, .int .i64 4, .string { data := #[] }, .int .i64 0, .slice none 0 0, .int .i64 0, .string { data := #[] }, .int .i64 0, .slice none 0 0, .int .i64 20, .string { data := #[] }, .int .i64 0, .int .i64 0, .string { data := #[] }, .int .i64 0, .slice none 0 0, .slice none 0 0, .slice none 0 0, .int .i64 0] 63)).alloc (.cells #[.slice none 0 0, .slice none 0 0, .slice none 0 0, .slice (some ⟨w.heap.size + 1, 0, none⟩) 1 1] 66)) (w.heap.size + 1) := fun j hj => old_cell (func_new (w.alloc _) _ (by simp) j hj) _
  have Hfa := Lib.hid hfa
  clear hfa
  refine (Hpr.out _ _ Hfa.out).mono ?_
  rintro e w1 ⟨q, cap1, gs, cs, g, cap, rfl, hr, hb1⟩
  have hB1 : Below w.heap.size w w1 := (below3 w _ _ _).trans (hb1.mono (by simp; omega))
  have x0 : w1.cell? ⟨q, 0, none⟩ = some (.string { data := #[102, 47, 48] }) := by simpa using hr 0 _ rfl
  have x1 : w1.cell? ⟨q, 13, none⟩ = some (.slice (some ⟨g, 0, none⟩) 1 cap) := by simpa using hr 13 _ rfl
  have hql := lt_of_cell x0
  simp at hql
  have hqn : q ≠ w1.heap.size := by omega
  clear hr Hfa
  go_wp2_with fail
  go_ret
  exact ⟨rfl, hB1.alloc hB1.size _⟩

/-- for every program that lies in memory, every Op and every name the law returns true -/
theorem lowerAsks_any (l : List Cod) (v0 v1 v2 : Value) (a : Option Addr) (cap : Nat) (op : Int) (n : ByteArray) (w : World) (hl : Cods w l a cap)
    (hv0 : ∃ a n c, v0 = .slice a n c) (hv1 : ∃ a n c, v1 = .slice a n c) (hv2 : ∃ a n c, v2 = .slice a n c) (hn : n.size ≤ maxLen) :
    Calls Tryz.prog 3 #[.agg #[v0, v1, v2, .slice a l.length cap], .int .i64 op, .string n] w (LawSays w) :=
  law_any l v0 v1 v2 a cap op n w hl hv0 hv1 hv2 hn awake_any
end Go.Proofs.YtfpbhmikogdpgaaGreatDoor
