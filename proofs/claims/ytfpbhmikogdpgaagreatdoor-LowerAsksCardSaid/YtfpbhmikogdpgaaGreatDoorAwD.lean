/- lower's builder: its block of 27 cells, and the methods that make blocks and slots. -/
import Derived.Test.YtfpbhmikogdpgaaGreatDoorAwC
import Derived.Deep.AppendLies
import Derived.Deep.RegionLaw
import Derived.BigRegion
import Derived.Deep.CutRange
import Derived.Deep.DeepCutAuto
namespace Go.Proofs.YtfpbhmikogdpgaaGreatDoor
open Go.RowKit

/-- the cells 6 to 24 of the builder's block are those of A -/
structure BAt (bb : Nat) (A : Nat → Value) (w : World) : Prop where
  c : ∀ j, 6 ≤ j → j < 25 → w.cell? ⟨bb, j, none⟩ = some (A j)
  f : ∀ j, w.frozen? ⟨bb, j, none⟩ = false

def upd (A : Nat → Value) (k : Nat) (v : Value) : Nat → Value := fun j => if j = k then v else A j
theorem upd_same (A : Nat → Value) (k : Nat) (v : Value) : upd A k v k = v := by simp [upd]
theorem upd_other (A : Nat → Value) {k j : Nat} (v : Value) (h : j ≠ k) : upd A k v j = A j := by simp [upd, h]

theorem BAt.set {bb : Nat} {A : Nat → Value} {w : World} (h : BAt bb A w) (k : Nat) (h6 : 6 ≤ k) (h25 : k < 25) (v : Value) : BAt bb (upd A k v) (w.setCell ⟨bb, k, none⟩ v) := by
  refine ⟨fun j hj hj2 => ?_, fun j => by rw [World.frozen?_setCell]; exact h.f j⟩
  by_cases e : j = k
  · subst e; rw [World.cell?_setCell_same _ _ _ (h.c j h6 h25), upd_same]
  · rw [World.cell?_setCell_other _ _ _ _ (by simp <;> omega), upd_other _ _ e]; exact h.c j hj hj2
theorem BAt.later {bb B : Nat} {A : Nat → Value} {w w' : World} (h : BAt bb A w) (hb : Below B w w') (hbb : bb < B) : BAt bb A w' :=
  ⟨fun j hj hj2 => by rw [hb.cell (by exact hbb)]; exact h.c j hj hj2, fun j => by rw [hb.frozen (by exact hbb)]; exact h.f j⟩
theorem BAt.lt {bb : Nat} {A : Nat → Value} {w : World} (h : BAt bb A w) : bb < w.heap.size := by
  have := lt_of_cell (h.c 6 (by omega) (by omega)); simpa using this

/-- what an append of one cell to nothing leaves -/
theorem one_of_owns {B E : Nat} {w : World} {v x : Value} (h : w.ownsRow B E 1 v (0 + 1) ([] ++ [x])) : ∃ g cap, v = .slice (some ⟨g, 0, none⟩) 1 cap ∧ B ≤ g ∧ g < w.heap.size ∧ 1 ≤ cap ∧ w.cell? ⟨g, 0, none⟩ = some x ∧ w.frozen? ⟨g, 0, none⟩ = false := by
  rcases h.2 with ⟨_, hn⟩ | ⟨g, cap, cur, hv, hbg, hgg, h1, h2, h3, htake⟩
  · omega
  · refine ⟨g, cap, hv, hbg, (Array.getElem?_eq_some_iff.1 hgg).1, by omega, ?_, frozen_of_row w g 0 cur _ hgg⟩
    rw [cell_of_row w g 0 cur _ (0, 0) hgg]
    have h4 : (cur.toList.take ((0 + 1) * 1))[0]? = ([] ++ [x])[0]? := by rw [htake]
    rw [List.getElem?_take, if_pos (by omega)] at h4
    have h5 : cur[0]? = cur.toList[0]? := by simp
    rw [h5, h4]; rfl

theorem Tryz.infoBlk : (Tryz.prog.info? 46).map (fun i => (i.zero, i.size, i.bytes)) = some (some (.slice none 0 0), 1, 24) := by kernel_rfl

def BlockSays (bb : Nat) (A : Nat → Value) (w : World) (e : Ending) (w' : World) : Prop :=
  e = .returned (.int .i64 0) ∧ ∃ g cap, BAt bb (upd A 19 (.slice (some ⟨g, 0, none⟩) 1 cap)) w' ∧ w.heap.size ≤ g ∧ 1 ≤ cap ∧ w'.cell? ⟨g, 0, none⟩ = some (.slice none 0 0) ∧ w'.frozen? ⟨g, 0, none⟩ = false ∧ Below bb w w'

set_option maxRecDepth 100000 in
set_option maxHeartbeats 2000000 in
theorem bblock_any (bb : Nat) (A : Nat → Value) (w : World) (h : BAt bb A w) (h19 : A 19 = .slice none 0 0) : Calls Tryz.prog 63 #[.pointer (some ⟨bb, 0, none⟩)] w (BlockSays bb A w) := by
  obtain ⟨i0, hi, hz0, hz1, hz2⟩ := info_parts Tryz.infoBlk
  have c19 := h.c 19 (by omega) (by omega)
  rw [h19] at c19
  have hlt := h.lt
  have Hh := Lib.hid h
  have Hi := Lib.hid hi
  have Hz0 := Lib.hid hz0
  have Hz1 := Lib.hid hz1
  have Hz2 := Lib.hid hz2
  have n2 : bb ≠ w.heap.size := by omega
  clear h h19 hi hz0 hz1 hz2
  go_enter Tryz.func63, Tryz.ntmps63
  go_wp2_with (at_builtin; refine wpList_append_own _ rfl _ _ 38 rfl w.heap.size 46 i0 _ 1 24 Tryz.underlying38 Hi.out Hz0.out Hz1.out Hz2.out rfl (by decide) _ _ _ rfl (World.ownsRow_nil _ _ _ _) ⟨w.heap.size, 0, none⟩ 1 1 [.slice none 0 0] rfl rfl ?e1 ?e2 ?e3 ?e4 ?e5 ?_)
  case e1 =>
    intro j u hj
    match j, hj with
    | 0, hj => simp at hj; subst hj; simp [Addr.add]
  case e2 => intro u hu; simp at hu; subst hu; rfl
  case e3 => unfold maxLen; omega
  case e4 => omega
  case e5 => simp
  · intro v' w3 hown3 hgrow _
    have hb3 : Below w.heap.size w w3 := (below1 w _).grown hgrow (by simp) (fun k hk => by cases hk)
    obtain ⟨g, cap, rfl, hg1, hg2, hg3, hg4, hg5⟩ := one_of_owns hown3
    have hk3 := Hh.out.later hb3 hlt
    have d19 : w3.cell? ⟨bb, 19, none⟩ = some (.slice none 0 0) := by rw [hb3.cell (by exact hlt)]; exact c19
    have e19 := hk3.f 19
    have hset := hk3.set 19 (by omega) (by omega) (.slice (some ⟨g, 0, none⟩) 1 cap)
    have Hset := Lib.hid hset
    have hgb : g ≠ bb := by omega
    clear hown3 hgrow hk3 hset c19
    go_wp2_with fail
    go_ret
    exact ⟨rfl, g, cap, Hset.out, hg1, hg3, cell_set_other hg4 hgb _, frozen_set hg5 _, (hb3.mono (by omega)).trans (below_set bb w3 ⟨bb, 19, none⟩ _ (Nat.le_refl _))⟩

theorem Tryz.infoSlot : (Tryz.prog.info? 45).map (fun i => (i.zero, i.size, i.bytes)) = some (some (.agg #[.int .i64 0, .string ⟨#[]⟩, .int .i64 0, .slice none 0 0, .int .i64 0]), 5, 64) := by kernel_rfl

theorem Tryz.infoBool : (Tryz.prog.info? 4).map (fun i => (i.zero, i.size, i.bytes)) = some (some (.bool false), 1, 1) := by kernel_rfl

def SlotSays (bb : Nat) (A : Nat → Value) (w : World) (e : Ending) (w' : World) : Prop :=
  e = .returned (.int .i64 0) ∧ ∃ gs cs g cap, BAt bb (upd (upd A 10 (.slice (some ⟨gs, 0, none⟩) 1 cs)) 21 (.slice (some ⟨g, 0, none⟩) 1 cap)) w' ∧ w.heap.size ≤ g ∧ g < w'.heap.size ∧ w'.cell? ⟨g, 0, none⟩ = some (.bool false) ∧ w'.frozen? ⟨g, 0, none⟩ = false ∧ Below bb w w' ∧
    (∀ a v, a.block < w.heap.size → a.block ≠ bb → w.cell? a = some v → w'.cell? a = some v) ∧ (∀ a, a.block < w.heap.size → w'.frozen? a = w.frozen? a)

set_option maxRecDepth 100000 in
set_option maxHeartbeats 2000000 in
theorem slot_unit (bb : Nat) (A : Nat → Value) (w : World) (h : BAt bb A w) (h10 : A 10 = .slice none 0 0) (h21 : A 21 = .slice none 0 0) : Calls Tryz.prog 62 #[.pointer (some ⟨bb, 0, none⟩), .agg unitC] w (SlotSays bb A w) := by
  have c10 := h.c 10 (by omega) (by omega)
  rw [h10] at c10
  have c21 := h.c 21 (by omega) (by omega)
  rw [h21] at c21
  have hlt := h.lt
  have n2 : bb ≠ w.heap.size := by omega
  have Hh := Lib.hid h
  obtain ⟨i0, hi, hz0, hz1, hz2⟩ := info_parts Tryz.infoSlot
  have Hi := Lib.hid hi
  have Hz0 := Lib.hid hz0
  have Hz1 := Lib.hid hz1
  have Hz2 := Lib.hid hz2
  obtain ⟨j0, ji, jz0, jz1, jz2⟩ := info_parts Tryz.infoBool
  have Ji := Lib.hid ji
  have Jz0 := Lib.hid jz0
  have Jz1 := Lib.hid jz1
  have Jz2 := Lib.hid jz2
  have A21 := Lib.hid h21
  clear h h10 h21 hi hz0 hz1 hz2 ji jz0 jz1 jz2
  unfold unitC
  go_enter Tryz.func62, Tryz.ntmps62
  have hnew : ∀ j u, ([.int .i64 4, .string ⟨#[]⟩, .int .i64 0, .slice none 0 0, .int .i64 2] : List Value)[j]? = some u → ((w.alloc (.cells #[.int .i64 4, .string ⟨#[]⟩, .int .i64 0, .slice none 0 0] 37)).alloc (.cells #[.int .i64 4, .string ⟨#[]⟩, .int .i64 0, .slice none 0 0, .int .i64 2] 45)).drew.cell? ((⟨w.heap.size + 1, 0, none⟩ : Addr).add j) = some u := by
    intro j u hj
    have hadd : (⟨w.heap.size + 1, 0, none⟩ : Addr).add j = ⟨w.heap.size + 1, j, none⟩ := by unfold Addr.add; split <;> simp_all
    rw [hadd]
    show ((w.alloc _).alloc _).cell? _ = _
    rw [new_cell _ _ _ _ _ (by simp)]
    simpa using hj
  have hsz : w.heap.size ≤ ((w.alloc (.cells #[.int .i64 4, .string ⟨#[]⟩, .int .i64 0, .slice none 0 0] 37)).alloc (.cells #[.int .i64 4, .string ⟨#[]⟩, .int .i64 0, .slice none 0 0, .int .i64 2] 45)).drew.heap.size := by
    show _ ≤ ((w.alloc _).alloc _).heap.size
    simp; omega
  have hone : ∀ u ∈ ([.int .i64 4, .string ⟨#[]⟩, .int .i64 0, .slice none 0 0, .int .i64 2] : List Value), u.oneCell' = true := by
    intro u hu; simp at hu; rcases hu with rfl | rfl | rfl | rfl | rfl <;> rfl
  have hmx : 0 + 1 ≤ maxLen := by unfold maxLen; omega
  go_upto_region 1 with fail
  go_cut [4] (fun s4 wx => s4 = .int .i64 0 ∧ ∃ gs cs, BAt bb (upd A 10 (.slice (some ⟨gs, 0, none⟩) 1 cs)) wx ∧ ∃ w1, Below w.heap.size w w1 ∧ wx = w1.setCell ⟨bb, 10, none⟩ (.slice (some ⟨gs, 0, none⟩) 1 cs))
  case first =>
    go_region_law (first | (refine step_append_lies _ (by rfl) _ _ _ (by rfl) w.heap.size 45 i0 _ 5 64 Tryz.underlying34 Hi.out Hz0.out Hz1.out Hz2.out rfl (by omega) (.slice none 0 0) 0 [] (by rfl) (World.ownsRow_nil _ _ _ _) ⟨w.heap.size + 1, 0, none⟩ 1 1 [.int .i64 4, .string ⟨#[]⟩, .int .i64 0, .slice none 0 0, .int .i64 2] (by rfl) (by rfl) hnew hone (by omega) hmx (by omega) hsz (w.heap.size + 1 + 1) (by simp) ?_; intro g cap w1 hown1 hgrow hat hlt1; have hb1 : Below w.heap.size w w1 := ((below2 w _ _).drew).grown hgrow hsz (fun k hk => by cases hk); have d10 : w1.cell? ⟨bb, 10, none⟩ = some (.slice none 0 0) := (hb1.cell (p := ⟨bb, 10, none⟩) hlt).trans c10; have e10 : w1.frozen? ⟨bb, 10, none⟩ = false := (hb1.frozen (p := ⟨bb, 10, none⟩) hlt).trans (Hh.out.f 10)))
    all_goals (go_wp2_with fail; go_meet; exact ⟨rfl, g, cap, (Hh.out.later hb1 hlt).set 10 (by omega) (by omega) _, w1, hb1, rfl⟩)
  case rest =>
    obtain ⟨rfl, gs, cs, hk2, w1, hb1, hwc⟩ := hcut
    have hzz : w.heap.size ≤ wc.heap.size := by rw [hwc, size_set]; exact hb1.size
    have p21 : wc.cell? ⟨bb, 21, none⟩ = some (.slice none 0 0) := by
      have := hk2.c 21 (by omega) (by omega)
      rw [upd_other _ _ (by omega)] at this
      rw [this, A21.out]
    have p10 : wc.cell? ⟨bb, 10, none⟩ = some (.slice (some ⟨gs, 0, none⟩) 1 cs) := by
      have := hk2.c 10 (by omega) (by omega)
      rwa [upd_same] at this
    have hkeep : (∀ a v, a.block < w.heap.size → a.block ≠ bb → w.cell? a = some v → wc.cell? a = some v) ∧ (∀ a, a.block < w.heap.size → wc.frozen? a = w.frozen? a) := by
      subst hwc
      refine ⟨fun a v h1 h2 h3 => ?_, fun a h1 => ?_⟩
      · rw [World.cell?_setCell_far _ _ _ _ (by exact Ne.symm h2), hb1.cell h1]; exact h3
      · rw [World.frozen?_setCell, hb1.frozen h1]
    have hBc : Below bb w wc := by rw [hwc]; exact (hb1.mono (by omega)).trans (below_set bb w1 ⟨bb, 10, none⟩ _ (Nat.le_refl _))
    have Hk2 := Lib.hid hk2
    have Hkeep := Lib.hid hkeep
    have n5 : bb ≠ wc.heap.size := by omega
    clear hk2 hkeep hwc hb1 A21 c10 c21
    go_wp2_with (at_builtin; refine wpList_append_own _ rfl _ _ 133 rfl w.heap.size 4 j0 _ 1 1 Tryz.underlying133 Ji.out Jz0.out Jz1.out Jz2.out rfl (by decide) _ _ _ rfl (World.ownsRow_nil _ _ _ _) ⟨wc.heap.size, 0, none⟩ 1 1 [.bool false] rfl rfl ?e1 ?e2 ?e3 ?e4 ?e5 ?_)
    case e1 =>
      intro j u hj
      match j, hj with
      | 0, hj => simp at hj; subst hj; simp [Addr.add]
    case e2 => intro u hu; simp at hu; subst hu; rfl
    case e3 => unfold maxLen; omega
    case e4 => omega
    case e5 => simp; omega
    · intro v' w3 hown3 hgrow _
      have hb3 : Below wc.heap.size wc w3 := (below1 wc _).grown hgrow (by simp) (fun k hk => by cases hk)
      obtain ⟨g, cap, rfl, hg1, hg2, hg3, hg4, hg5⟩ := one_of_owns hown3
      have hbc : bb < wc.heap.size := by omega
      have hk3 := Hk2.out.later hb3 hbc
      have d21 : w3.cell? ⟨bb, 21, none⟩ = some (.slice none 0 0) := (hb3.cell (p := ⟨bb, 21, none⟩) hbc).trans p21
      have d10 : w3.cell? ⟨bb, 10, none⟩ = some (.slice (some ⟨gs, 0, none⟩) 1 cs) := (hb3.cell (p := ⟨bb, 10, none⟩) hbc).trans p10
      have e21 := hk3.f 21
      have hset := hk3.set 21 (by omega) (by omega) (.slice (some ⟨g, 0, none⟩) 1 cap)
      have Hset := Lib.hid hset
      have hgb : g ≠ bb := by omega
      clear hown3 hgrow hk3 hset p21 p10
      go_wp2_with fail
      go_ret
      exact ⟨rfl, gs, cs, g, cap, Hset.out, hg1, by rw [size_set]; exact hg2, cell_set_other hg4 hgb _, frozen_set hg5 _, hBc.trans ((hb3.mono (by omega)).trans (below_set bb w3 ⟨bb, 21, none⟩ _ (Nat.le_refl _))),
        fun a v h1 h2 h3 => by rw [World.cell?_setCell_far _ _ _ _ (by exact Ne.symm h2), hb3.cell (by omega)]; exact Hkeep.out.1 a v h1 h2 h3,
        fun a h1 => by rw [World.frozen?_setCell, hb3.frozen (by omega)]; exact Hkeep.out.2 a h1⟩
end Go.Proofs.YtfpbhmikogdpgaaGreatDoor
