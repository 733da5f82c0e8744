/- cover.Check and flow.Module at the module of one empty function. -/
import Derived.Test.YtfpbhmikogdpgaaGreatDoorAw6
import Derived.BigRegion
namespace Go.Proofs.YtfpbhmikogdpgaaGreatDoor
open Go.RowKit

set_option maxRecDepth 100000 in
set_option maxHeartbeats 1000000 in
theorem cover1_unit (p1 p2 : Addr) (w : World) : Calls Tryz.prog 75 #[.agg nodeC, .pointer (some p1), .pointer (some p2)] w fun e w' => e = .returned (.agg #[.int .i64 0, .int .i64 0]) ∧ Below w.heap.size w w' := by
  unfold nodeC
  go_enter Tryz.func75, Tryz.ntmps75
  go_wp2_with fail
  go_loop [22] (fun ii => ii = .int .i64 0) (fun _ => 0)
  case atStart => rfl
  case round =>
    subst hrel
    go_wp2_with fail
    exact bodyPost_ret (v := .agg #[.int .i64 0, .int .i64 0]) (by simp [results, Tryz.results75, go_sem]) rfl ⟨rfl, below2 w _ _⟩

theorem cover1_fn (args : Array Value) (w : World) : (callFunc 75 args).run Tryz.prog w = .ok (.enter 75 args) w := by kernel_rfl

theorem node_range {w : World} {b : Nat} (h : ∀ j, j < 22 → w.cell? ⟨b, j, none⟩ = some (funcC[j]?.getD undef)) : World.rangeAt w b 12 nodeC.toList := fun j v hj => by
  have hj2 : nodeC[j]? = some v := by simpa using hj
  have hjl : j < 10 := by obtain ⟨h, _⟩ := Array.getElem?_eq_some_iff.1 hj2; simpa [nodeC] using h
  rw [h (12 + j) (by omega), ← hj2]
  match j, hjl with
  | 0, _ => rfl
  | 1, _ => rfl
  | 2, _ => rfl
  | 3, _ => rfl
  | 4, _ => rfl
  | 5, _ => rfl
  | 6, _ => rfl
  | 7, _ => rfl
  | 8, _ => rfl
  | 9, _ => rfl

theorem func_new (W : World) (g : Nat) (hg : g = W.heap.size) : ∀ j, j < 22 → (W.alloc (.cells funcC 63)).cell? ⟨g, j, none⟩ = some (funcC[j]?.getD undef) := fun j hj => by
  rw [new_cell W funcC _ g j hg]
  have : funcC.size = 22 := rfl
  rw [Array.getElem?_eq_getElem (by omega)]; rfl

set_option maxRecDepth 100000 in
set_option maxHeartbeats 1000000 in
theorem cover_unit (fb : Nat) (w : World) : Calls Tryz.prog 58 #[.agg (modC fb), .agg funcC] w fun e w' => e = .returned (.agg #[.int .i64 0, .int .i64 0]) ∧ Below w.heap.size w w' := by
  have hc := fun p1 p2 w => cover1_unit p1 p2 w
  have hfn := cover1_fn
  have Hc := Lib.hid hc
  clear hc
  unfold modC
  go_enter Tryz.func58, Tryz.ntmps58
  have hr : ∀ o0 o1 o2, World.rangeAt ((((w.alloc o0).alloc (.cells funcC 63)).alloc o1).alloc o2) (w.heap.size + 1) 12 nodeC.toList := fun o0 o1 o2 =>
    node_range fun j hj => old_cell (old_cell (func_new (w.alloc o0) _ (by simp) j hj) _) _
  have Hr := Lib.hid hr
  clear hr
  go_wp2_with (with_reducible refine wpList_load_mid rfl 60 _ rfl (w.heap.size + 1) 12 rfl nodeC.toList _ (Hr.out _ _ _) Tryz.underlying60 rfl (by kernel_rfl) ?_)
  refine (Hc.out _ _ _).mono ?_
  rintro e w1 ⟨rfl, hb1⟩
  have hz : w.heap.size + 1 + 1 < w1.heap.size := by have := hb1.size; simp at this; omega
  have r0 : w1.cell? ⟨w.heap.size + 1 + 1, 0, none⟩ = some (.int .i64 0) := cells_later hb1 _ _ (old_cell (new_cell _ _ _ _ _ (by simp)) _)
  have r1 : w1.cell? ⟨w.heap.size + 1 + 1, 1, none⟩ = some (.int .i64 0) := cells_later hb1 _ _ (old_cell (new_cell _ _ _ _ _ (by simp)) _)
  have f0 : w1.frozen? ⟨w.heap.size + 1 + 1, 0, none⟩ = false := by rw [hb1.frozen (by simp), (below1 (((w.alloc _).alloc _).alloc _) _).frozen (by simp)]; exact new_frozen _ _ _ _ _ (by simp)
  have f1 : w1.frozen? ⟨w.heap.size + 1 + 1, 1, none⟩ = false := by rw [hb1.frozen (by simp), (below1 (((w.alloc _).alloc _).alloc _) _).frozen (by simp)]; exact new_frozen _ _ _ _ _ (by simp)
  have hB : Below w.heap.size w w1 := ((below3 w _ _ _).alloc (by simp; omega) _).trans (hb1.mono (by simp; omega))
  go_wp2_with fail
  refine bodyPost_ret (v := .agg #[.int .i64 0, .int .i64 0]) (by simp [results, Tryz.results58, go_sem, *]) rfl ⟨rfl, ?_⟩
  exact (hB.setCell (by show _ ≤ w.heap.size + 1 + 1; omega) _).setCell (by show _ ≤ w.heap.size + 1 + 1; omega) _

theorem below_set (B : Nat) (w : World) (a : Addr) (v : Value) (h : B ≤ a.block) : Below B w (w.setCell a v) := (Below.refl B w).setCell h v

/-- the walker, as far as it is asked -/
structure WalkAt (wb : Nat) (w : World) : Prop where
  locals : w.cell? ⟨wb, 28, none⟩ = some (.slice none 0 0)
  states : ∃ m, w.cell? ⟨wb, 29, none⟩ = some (.map m)
  ended : w.cell? ⟨wb, 30, none⟩ = some (.bool false)
  f : ∀ j, w.frozen? ⟨wb, j, none⟩ = false

theorem WalkAt.set28 {wb : Nat} {w : World} (h : WalkAt wb w) : WalkAt wb (w.setCell ⟨wb, 28, none⟩ (.slice none 0 0)) := by
  obtain ⟨h0, ⟨m, h1⟩, h2, h3⟩ := h
  exact ⟨World.cell?_setCell_same _ _ _ h0, ⟨m, by rw [World.cell?_setCell_other _ _ _ _ (by simp)]; exact h1⟩, by rw [World.cell?_setCell_other _ _ _ _ (by simp)]; exact h2, fun j => by rw [World.frozen?_setCell]; exact h3 j⟩
theorem WalkAt.set31 {wb : Nat} {w : World} (h : WalkAt wb w) (v : Value) : WalkAt wb (w.setCell ⟨wb, 31, none⟩ v) := by
  obtain ⟨h0, ⟨m, h1⟩, h2, h3⟩ := h
  exact ⟨by rw [World.cell?_setCell_other _ _ _ _ (by simp)]; exact h0, ⟨m, by rw [World.cell?_setCell_other _ _ _ _ (by simp)]; exact h1⟩, by rw [World.cell?_setCell_other _ _ _ _ (by simp)]; exact h2, fun j => by rw [World.frozen?_setCell]; exact h3 j⟩
theorem WalkAt.later {wb : Nat} {w w' : World} (h : WalkAt wb w) (hb : Below w.heap.size w w') : WalkAt wb w' := by
  have hlt := lt_of_cell h.locals
  obtain ⟨h0, ⟨m, h1⟩, h2, h3⟩ := h
  exact ⟨cells_later hb _ _ h0, ⟨m, cells_later hb _ _ h1⟩, cells_later hb _ _ h2, fun j => by rw [hb.frozen (by simpa using hlt)]; exact h3 j⟩

set_option maxRecDepth 100000 in
set_option maxHeartbeats 1000000 in
theorem forget_nil (wb : Nat) (w : World) (h : WalkAt wb w) : Calls Tryz.prog 125 #[.pointer (some ⟨wb, 0, none⟩), .int .i64 0] w fun e w' => e = .returned (.tuple #[]) ∧ WalkAt wb w' ∧ Below wb w w' := by
  have h0 := h.locals
  have f0 := h.f 28
  have Hh := Lib.hid h
  clear h
  go_enter Tryz.func125, Tryz.ntmps125
  go_wp2_with fail
  go_loop [13] (fun ii => ii = .int .i64 0) (fun _ => 0)
  case atStart => rfl
  case round =>
    subst hrel
    go_wp2_with fail
    go_end0
    exact ⟨rfl, Hh.out.set28, below_set wb w ⟨wb, 28, none⟩ _ (Nat.le_refl _)⟩

theorem Tryz.infoPtr : (Tryz.prog.info? 226).map (fun i => (i.zero, i.size, i.bytes)) = some (some (.pointer none), 1, 8) := by kernel_rfl

set_option maxRecDepth 100000 in
set_option maxHeartbeats 2000000 in
theorem block_unit (wb : Nat) (w : World) (h : WalkAt wb w) (hbl : w.cell? ⟨wb, 31, none⟩ = some (.slice none 0 0)) : Calls Tryz.prog 80 #[.pointer (some ⟨wb, 0, none⟩), .agg nodeC, .pointer none] w fun e w' => e = .returned (.tuple #[]) ∧ WalkAt wb w' ∧ Below wb w w' := by
  have h0 := h.locals
  have f31 := h.f 31
  have hlt := lt_of_cell h0
  simp at hlt
  have hmm := @run_makeMap Tryz.prog
  obtain ⟨i0, hi, hz0', hz1', hz2'⟩ := info_parts Tryz.infoPtr
  have Hi := Lib.hid hi
  have Hz0 := Lib.hid hz0'
  have Hz1 := Lib.hid hz1'
  have Hz2 := Lib.hid hz2'
  clear hi hz0' hz1' hz2'
  have Hh := Lib.hid h
  clear h
  have hz1 : wb < w.heap.size := hlt
  have hz2 : wb ≠ w.heap.size := by omega
  have hz3 : wb ≠ w.heap.size + 1 := by omega
  have hz4 : wb ≠ w.heap.size + 1 + 1 := by omega
  have hz5 : wb ≠ w.heap.size + 1 + 1 + 1 := by omega
  have hy1 : wb < w.heap.size + 1 := by omega
  have hy2 : wb < w.heap.size + 1 + 1 := by omega
  have hy3 : wb < w.heap.size + 1 + 1 + 1 := by omega
  unfold nodeC
  go_enter Tryz.func80, Tryz.ntmps80
  obtain ⟨W0, hW0⟩ : ∃ W, W = (((w.alloc (.cells nodeC 60)).alloc (.map #[] 0)).alloc (.cells #[.map (some (w.heap.size + 1)), .pointer none] 228)).alloc (.cells #[.pointer (some ⟨w.heap.size + 1 + 1, 0, none⟩)] 226) := ⟨_, rfl⟩
  have hb0 : Below w.heap.size w W0 := by rw [hW0]; exact (below3 w _ _ _).alloc (by simp; omega) _
  have n8 : W0.cell? ⟨w.heap.size, 8, none⟩ = some (.slice none 0 0) := by rw [hW0]; exact old_cell (old_cell (old_cell (new_cell w _ _ _ _ rfl) _) _) _
  have el : W0.cell? ⟨w.heap.size + 1 + 1 + 1, 0, none⟩ = some (.pointer (some ⟨w.heap.size + 1 + 1, 0, none⟩)) := by rw [hW0]; exact new_cell _ _ _ _ _ (by simp)
  have hz0 : W0.heap.size = w.heap.size + 4 := by rw [hW0]; simp
  unfold nodeC at hW0
  go_wp2_with (at_builtin; rw [← hW0]; refine wpList_append_own _ rfl _ _ 171 rfl w.heap.size 226 i0 _ 1 8 Tryz.underlying171 Hi.out Hz0.out Hz1.out Hz2.out rfl (by decide) _ _ _ rfl (World.ownsRow_nil _ _ _ _) ⟨w.heap.size + 1 + 1 + 1, 0, none⟩ 1 1 [.pointer (some ⟨w.heap.size + 1 + 1, 0, none⟩)] rfl rfl ?c1 ?c2 ?c3 ?c4 ?c5 ?_)
  case c1 =>
    intro j u hj
    match j, hj with
    | 0, hj => simp at hj; subst hj; simpa [Addr.add] using el
  case c2 => intro u hu; simp at hu; subst hu; rfl
  case c3 => unfold maxLen; omega
  case c4 => omega
  case c5 => omega
  · intro v' w5 hown5 hgrow _
    rw [← hW0] at hgrow
    have hb5 : Below W0.heap.size W0 w5 := (Below.refl _ _).grown hgrow (Nat.le_refl _) (fun k hk => by cases hk)
    rcases hown5.2 with ⟨_, hnn⟩ | ⟨g, cap, cur, rfl, hbg, hgg, hg1, hg2, hg3, htake⟩
    · omega
    have hgl : (1 : Nat) ≤ cap := by omega
    have hb05 : Below w.heap.size w w5 := hb0.trans (hb5.mono (by omega))
    have k8 := cells_later hb5 _ _ n8
    have k31 := cells_later hb05 _ _ hbl
    have g31 : w5.frozen? ⟨wb, 31, none⟩ = false := by rw [hb05.frozen (by simpa using hlt)]; exact f31
    have hk5 := Hh.out.later hb05
    have Hk5 := Lib.hid hk5
    clear hown5 hgrow htake hgg hk5 hW0 hz0 n8 el hbl h0 f31 hg2 hg3
    go_wp2_with fail
    obtain ⟨W6, hW6⟩ : ∃ W, W = w5.setCell ⟨wb, 31, none⟩ (.slice (some ⟨g, 0, none⟩) 1 cap) := ⟨_, rfl⟩
    have j8 : W6.cell? ⟨w.heap.size, 8, none⟩ = some (.slice none 0 0) := by rw [hW6, World.cell?_setCell_other _ _ _ _ (by simp <;> omega)]; exact k8
    have j31 : W6.cell? ⟨wb, 31, none⟩ = some (.slice (some ⟨g, 0, none⟩) 1 cap) := by rw [hW6]; exact cell_set k31 _
    have i31 : W6.frozen? ⟨wb, 31, none⟩ = false := by rw [hW6]; exact frozen_set g31 _
    have hk6 : WalkAt wb W6 := by rw [hW6]; exact Hk5.out.set31 _
    have hb6 : Below wb w W6 := by rw [hW6]; exact (hb05.mono (by omega)).trans (below_set wb w5 ⟨wb, 31, none⟩ _ (Nat.le_refl _))
    try rw [← hW6]
    clear hW6 k8 k31 g31 Hk5
    have Hk6 := Lib.hid hk6
    clear hk6
    go_loop [35] (fun ii => ii = .int .i64 0) (fun _ => 0)
    case atStart => rfl
    case round =>
      subst hrel
      go_wp2_with fail
      go_region
      have hk7 : WalkAt wb (W6.setCell ⟨wb, 31, none⟩ (.slice (some ⟨g, 0, none⟩) 0 cap)).drew := (Hk6.out.set31 _).later (Below.refl _ _).drew
      have hb7 : Below wb w (W6.setCell ⟨wb, 31, none⟩ (.slice (some ⟨g, 0, none⟩) 0 cap)).drew := (hb6.trans (below_set wb W6 ⟨wb, 31, none⟩ _ (Nat.le_refl _))).drew
      have Hk7 := Lib.hid hk7
      clear hk7
      go_wp2_with fail
      refine (forget_nil wb _ Hk7.out).mono ?_
      rintro e w8 ⟨rfl, hk8, hb8⟩
      have Hk8 := Lib.hid hk8
      clear hk8
      go_wp2_with fail
      go_end0
      exact ⟨rfl, Hk8.out, hb7.trans hb8⟩
end Go.Proofs.YtfpbhmikogdpgaaGreatDoor
