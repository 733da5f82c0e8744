/- middle's Consumes and Fills at the two instructions of the empty function. -/
import Derived.Test.YtfpbhmikogdpgaaGreatDoorAwB
namespace Go.Proofs.YtfpbhmikogdpgaaGreatDoor
open Go.RowKit

def i1C : Array Value := #[.int .i64 1, .int .i64 0, .slice none 0 0, .string ⟨#[]⟩, .int .i64 0, .int .i64 4, .string ⟨#[]⟩, .int .i64 0, .slice none 0 0, .slice none 0 0, .slice none 0 0, .int .i64 0, .int .i64 0, .int .i64 0]
def i2C (ab : Nat) : Array Value := #[.int .i64 20, .int .i64 0, .slice (some ⟨ab, 0, none⟩) 1 1, .string ⟨#[]⟩, .int .i64 0, .int .i64 0, .string ⟨#[]⟩, .int .i64 0, .slice none 0 0, .slice none 0 0, .slice none 0 0, .int .i64 0, .int .i64 0, .int .i64 0]

theorem Tryz.infoInt : (Tryz.prog.info? 3).map (fun i => (i.zero, i.size, i.bytes)) = some (some (.int .i64 0), 1, 8) := by kernel_rfl

theorem zero_of_owns {B : Nat} {w : World} {v : Value} (h : w.ownsRow B 3 1 v (0 + 1) ([] ++ [.int .i64 0])) : ZeroAt B v w := by
  rcases h.2 with ⟨_, hn⟩ | ⟨g, cap, cur, hv, hbg, hgg, h1, h2, h3, htake⟩
  · omega
  · refine ⟨g, cap, hv, hbg, (Array.getElem?_eq_some_iff.1 hgg).1, by omega, ?_, frozen_of_row w g 0 cur _ hgg⟩
    rw [cell_of_row w g 0 cur _ (0, 0) hgg]
    have h4 : (cur.toList.take ((0 + 1) * 1))[0]? = ([] ++ [Value.int .i64 0])[0]? := by rw [htake]
    rw [List.getElem?_take, if_pos (by omega)] at h4
    have h5 : cur[0]? = cur.toList[0]? := by simp
    rw [h5, h4]; rfl

set_option maxRecDepth 100000 in
set_option maxHeartbeats 1000000 in
theorem consumes_1 (w : World) : Calls Tryz.prog 153 #[.agg i1C] w fun e w' => e = .returned (.slice none 0 0) ∧ Below w.heap.size w w' := by
  unfold i1C
  go_enter Tryz.func153, Tryz.ntmps153
  go_wp2_with fail
  go_loop [3, 9] (fun l ii => l = .slice none 0 0 ∧ ii = .int .i64 0) (fun _ _ => 0)
  case atStart => exact ⟨rfl, rfl⟩
  case round =>
    obtain ⟨rfl, rfl⟩ := hrel
    go_wp2_with fail
    refine (once_nil _).mono ?_
    rintro e w1 ⟨rfl, rfl⟩
    go_wp2_with fail
    go_ret
    exact ⟨rfl, below1 w _⟩

set_option maxRecDepth 100000 in
set_option maxHeartbeats 1000000 in
theorem fills_2 (ab : Nat) (w : World) : Calls Tryz.prog 154 #[.agg (i2C ab)] w fun e w' => e = .returned (.slice none 0 0) ∧ Below w.heap.size w w' := by
  have hr := fun w => rows_any 20 _ _ _ (by omega) rfl rfl rfl w
  have ht := fun w => throws_no 20 0 (.slice (some ⟨ab, 0, none⟩) 1 1) 0 ⟨#[]⟩ 0 (.inr rfl) ⟨_, _, _, rfl⟩ w
  have Hr := Lib.hid hr
  have Ht := Lib.hid ht
  clear hr ht
  unfold i2C
  have hfld1 : ∀ w, (Instr.field 309 (.agg #[.string { data := #[114, 101, 116, 117, 114, 110] }, .int .i64 0, .string { data := #[99] }]) 1).run Tryz.prog w = .ok (.int .i64 0) w := fun _ => by kernel_rfl
  have hfld2 : ∀ w, (Instr.field 309 (.agg #[.string { data := #[99, 111, 110, 115, 116] }, .int .i64 15, .string { data := #[] }]) 1).run Tryz.prog w = .ok (.int .i64 15) w := fun _ => by kernel_rfl
  have hand1 : ∀ w, (binOp BinOp.and 3 (.int .i64 15) (.int .i64 1)).run Tryz.prog w = .ok (.int .i64 1) w := fun _ => by kernel_rfl
  have hand0 : ∀ w, (binOp BinOp.and 3 (.int .i64 0) (.int .i64 1)).run Tryz.prog w = .ok (.int .i64 0) w := fun _ => by kernel_rfl
  go_enter Tryz.func154, Tryz.ntmps154
  go_wp2_with fail
  refine (Hr.out _).mono ?_
  rintro e w1 ⟨rfl, hb1⟩
  have hB1 : Below w.heap.size w w1 := (below1 w _).trans (hb1.mono (by simp))
  have Hrg : Hid (World.rangeAt w1 w.heap.size 0 [.int .i64 20, .int .i64 0, .slice (some ⟨ab, 0, none⟩) 1 1, .string ⟨#[]⟩, .int .i64 0, .int .i64 0, .string ⟨#[]⟩, .int .i64 0, .slice none 0 0, .slice none 0 0, .slice none 0 0, .int .i64 0, .int .i64 0, .int .i64 0]) := Lib.hid (fun j v hj => by
    refine cells_later hb1 _ _ ?_
    rw [new_cell w _ _ w.heap.size _ rfl, Nat.zero_add]; simpa using hj)
  go_wp2_with (with_reducible refine wpList_load_mid rfl 49 _ rfl w.heap.size 0 rfl _ _ Hrg.out Tryz.underlying49 rfl (by kernel_rfl) ?_)
  refine (Ht.out _).mono ?_
  rintro e w2 ⟨rfl, hb2⟩
  have hB2 := hB1.trans (hb2.mono hB1.size)
  go_wp2_with fail
  refine (once_nil _).mono ?_
  rintro e w3 ⟨rfl, rfl⟩
  go_wp2_with fail
  go_ret
  exact ⟨rfl, hB2⟩
def FillSays (B : Nat) (w : World) (e : Ending) (w' : World) : Prop := ∃ v, e = .returned v ∧ ZeroAt B v w' ∧ Below B w w'

set_option maxRecDepth 100000 in
set_option maxHeartbeats 1000000 in
theorem fills_1 (w : World) : Calls Tryz.prog 154 #[.agg i1C] w (FillSays w.heap.size w) := by
  obtain ⟨i0, hi, hz0, hz1, hz2⟩ := info_parts Tryz.infoInt
  have hr := fun w => rows_any 1 _ _ _ (by omega) rfl rfl rfl w
  have ht := fun w => throws_no 1 0 (.slice none 0 0) 4 ⟨#[]⟩ 0 (.inl rfl) ⟨_, _, _, rfl⟩ w
  have Hr := Lib.hid hr
  have Ht := Lib.hid ht
  have Hi := Lib.hid hi
  have Hz0 := Lib.hid hz0
  have Hz1 := Lib.hid hz1
  have Hz2 := Lib.hid hz2
  clear hr ht hi hz0 hz1 hz2
  unfold i1C
  have hfld1 : ∀ w, (Instr.field 309 (.agg #[.string { data := #[114, 101, 116, 117, 114, 110] }, .int .i64 0, .string { data := #[99] }]) 1).run Tryz.prog w = .ok (.int .i64 0) w := fun _ => by kernel_rfl
  have hfld2 : ∀ w, (Instr.field 309 (.agg #[.string { data := #[99, 111, 110, 115, 116] }, .int .i64 15, .string { data := #[] }]) 1).run Tryz.prog w = .ok (.int .i64 15) w := fun _ => by kernel_rfl
  have hand1 : ∀ w, (binOp BinOp.and 3 (.int .i64 15) (.int .i64 1)).run Tryz.prog w = .ok (.int .i64 1) w := fun _ => by kernel_rfl
  have hand0 : ∀ w, (binOp BinOp.and 3 (.int .i64 0) (.int .i64 1)).run Tryz.prog w = .ok (.int .i64 0) w := fun _ => by kernel_rfl
  go_enter Tryz.func154, Tryz.ntmps154
  go_wp2_with fail
  refine (Hr.out _).mono ?_
  rintro e w1 ⟨rfl, hb1⟩
  have hB1 : Below w.heap.size w w1 := (below1 w _).trans (hb1.mono (by simp))
  have hz : w.heap.size < w1.heap.size := by have := hb1.size; simp at this; omega
  have d1 : w1.cell? ⟨w.heap.size, 1, none⟩ = some (.int .i64 0) := cells_later hb1 _ _ (new_cell w _ _ _ _ rfl)
  have hrg : World.rangeAt w1 w.heap.size 0 [.int .i64 1, .int .i64 0, .slice none 0 0, .string ⟨#[]⟩, .int .i64 0, .int .i64 4, .string ⟨#[]⟩, .int .i64 0, .slice none 0 0, .slice none 0 0, .slice none 0 0, .int .i64 0, .int .i64 0, .int .i64 0] := fun j v hj => by
    refine cells_later hb1 _ _ ?_
    rw [new_cell w _ _ w.heap.size _ rfl, Nat.zero_add]; simpa using hj
  have Hrg := Lib.hid hrg
  clear hrg
  go_wp2_with (at_builtin; refine wpList_append_own _ rfl _ _ 197 rfl w.heap.size 3 i0 _ 1 8 Tryz.underlying197 Hi.out Hz0.out Hz1.out Hz2.out rfl (by decide) _ _ _ rfl (World.ownsRow_nil _ _ _ _) ⟨w1.heap.size, 0, none⟩ 1 1 [.int .i64 0] rfl rfl ?e1 ?e2 ?e3 ?e4 ?e5 ?_)
  case e1 =>
    intro j u hj
    match j, hj with
    | 0, hj => simp at hj; subst hj; simp [Addr.add]
  case e2 => intro u hu; simp at hu; subst hu; rfl
  case e3 => unfold maxLen; omega
  case e4 => omega
  case e5 => simp; omega
  · intro v' w3 hown3 hgrow _
    have hb3 : Below w1.heap.size w1 w3 := (below1 w1 _).grown hgrow (by simp) (fun k hk => by cases hk)
    have hB3 : Below w.heap.size w w3 := hB1.trans (hb3.mono hB1.size)
    have hza := zero_of_owns hown3
    have Hza := Lib.hid hza
    have hrg3 : World.rangeAt w3 w.heap.size 0 [.int .i64 1, .int .i64 0, .slice none 0 0, .string ⟨#[]⟩, .int .i64 0, .int .i64 4, .string ⟨#[]⟩, .int .i64 0, .slice none 0 0, .slice none 0 0, .slice none 0 0, .int .i64 0, .int .i64 0, .int .i64 0] := fun j v hj => cells_later hb3 _ _ (Hrg.out j v hj)
    have Hrg3 := Lib.hid hrg3
    clear hown3 hgrow hza hrg3
    go_wp2_with (with_reducible refine wpList_load_mid rfl 49 _ rfl w.heap.size 0 rfl _ _ Hrg3.out Tryz.underlying49 rfl (by kernel_rfl) ?_)
    refine (Ht.out _).mono ?_
    rintro e w4 ⟨rfl, hb4⟩
    have hB4 := hB3.trans (hb4.mono hB3.size)
    have hza4 : ZeroAt w.heap.size v' w4 := by
      obtain ⟨g, cap, e, h1, h2, h3, h4, h5⟩ := Hza.out
      have := hb4.size
      exact ⟨g, cap, e, h1, by omega, h3, cells_later hb4 _ _ h4, frozen_later hb4 h4 h5⟩
    have Hon := Lib.hid (once_zero w.heap.size v' w4 hB4.size hza4)
    clear hza4
    go_wp2_with fail
    refine Hon.out.mono ?_
    rintro e w5 ⟨v5, rfl, hz5, hb5⟩
    have Hz5 := Lib.hid hz5
    clear hz5
    go_wp2_with fail
    go_ret
    exact ⟨_, rfl, Hz5.out, hB4.trans hb5⟩
set_option maxRecDepth 100000 in
set_option maxHeartbeats 1000000 in
theorem consumes_2 (ab : Nat) (w : World) (h0 : w.cell? ⟨ab, 0, none⟩ = some (.int .i64 2)) (h1 : w.cell? ⟨ab, 1, none⟩ = some (.int .i64 0)) (h2 : w.cell? ⟨ab, 2, none⟩ = some (.slice none 0 0)) : Calls Tryz.prog 153 #[.agg (i2C ab)] w (FillSays w.heap.size w) := by
  obtain ⟨i0, hi, hz0, hz1, hz2⟩ := info_parts Tryz.infoInt
  have Hi := Lib.hid hi
  have Hz0 := Lib.hid hz0
  have Hz1 := Lib.hid hz1
  have Hz2 := Lib.hid hz2
  clear hi hz0 hz1 hz2
  unfold i2C
  go_enter Tryz.func153, Tryz.ntmps153
  go_wp2_with fail
  go_loopw [3, 9] (fun l ii wr => (l = .slice none 0 0 ∧ ii = .int .i64 0 ∧ Below w.heap.size w wr) ∨ (ii = .int .i64 1 ∧ ZeroAt w.heap.size l wr ∧ Below w.heap.size w wr)) (fun _ ii _ => 1 - (intOf ii).toNat)
  case atStart => exact .inl ⟨rfl, rfl, below1 w _⟩
  case round =>
    rcases hrel with ⟨rfl, rfl, hb1⟩ | ⟨rfl, hza, hb1⟩
    · have c0 := cells_later hb1 _ _ h0
      have c1 := cells_later hb1 _ _ h1
      have c2 := cells_later hb1 _ _ h2
      have hz := hb1.size
      go_wp2_with (at_builtin; refine wpList_append_own _ rfl _ _ 197 rfl w.heap.size 3 i0 _ 1 8 Tryz.underlying197 Hi.out Hz0.out Hz1.out Hz2.out rfl (by decide) _ _ _ rfl (World.ownsRow_nil _ _ _ _) ⟨wr.heap.size + 1, 0, none⟩ 1 1 [.int .i64 0] rfl rfl ?e1 ?e2 ?e3 ?e4 ?e5 ?_)
      case e1 =>
        intro j u hj
        match j, hj with
        | 0, hj => simp at hj; subst hj; simp [Addr.add]
      case e2 => intro u hu; simp at hu; subst hu; rfl
      case e3 => unfold maxLen; omega
      case e4 => omega
      case e5 => simp; omega
      · intro v' w3 hown3 hgrow _
        have hb3 : Below wr.heap.size wr w3 := (below2 wr _ _).grown hgrow (by simp; omega) (fun k hk => by cases hk)
        have hB3 : Below w.heap.size w w3 := hb1.trans (hb3.mono hb1.size)
        have hza := zero_of_owns hown3
        have Hza := Lib.hid hza
        clear hown3 hgrow hza
        go_wp2_with fail
        go_roundw
        case rel => exact .inr ⟨rfl, Hza.out, hB3⟩
        case measure => simp [intOf]
    · have Hon := Lib.hid (once_zero w.heap.size _ wr hb1.size hza)
      clear hza
      go_wp2_with fail
      refine Hon.out.mono ?_
      rintro e w5 ⟨v5, rfl, hz5, hb5⟩
      have Hz5 := Lib.hid hz5
      clear hz5
      go_wp2_with fail
      go_ret
      exact ⟨_, rfl, Hz5.out, hb1.trans hb5⟩
end Go.Proofs.YtfpbhmikogdpgaaGreatDoor
