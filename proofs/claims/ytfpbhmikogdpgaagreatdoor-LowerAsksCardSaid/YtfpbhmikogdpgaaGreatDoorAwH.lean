/- lower's builder at the empty function: the unit's slot, and the return. -/
import Derived.Test.YtfpbhmikogdpgaaGreatDoorAwG
namespace Go.Proofs.YtfpbhmikogdpgaaGreatDoor
open Go.RowKit

def UnitSays (bb g cap19 : Nat) (A : Nat → Value) (w : World) (e : Ending) (w' : World) : Prop :=
  e = .returned (.int .i64 0) ∧ ∃ f gs cs cap v xs, EmAt bb g f (upd (upd A 10 (.slice (some ⟨gs, 0, none⟩) 1 cs)) 21 (.slice (some ⟨f, 0, none⟩) 1 cap)) w' v (.bool true) ∧ w'.ownsRow (bb + 1) 49 14 v 1 xs ∧ (∀ q, v.ownBlock = some q → bb < q ∧ q ≠ g ∧ q ≠ f) ∧ Below bb w w'

set_option maxRecDepth 100000 in
set_option maxHeartbeats 4000000 in
theorem unit_any (bb g cap19 : Nat) (A : Nat → Value) (w : World) (h : BAt bb A w) (h10 : A 10 = .slice none 0 0) (h21 : A 21 = .slice none 0 0) (h19 : A 19 = .slice (some ⟨g, 0, none⟩) 1 cap19) (h20 : A 20 = .int .i64 0)
    (g0 : bb < g) (cg : w.cell? ⟨g, 0, none⟩ = some (.slice none 0 0)) (zg : w.frozen? ⟨g, 0, none⟩ = false) :
    Calls Tryz.prog 66 #[.pointer (some ⟨bb, 0, none⟩)] w (UnitSays bb g cap19 A w) := by
  have hlt := h.lt
  have hgl : g < w.heap.size := by have := lt_of_cell cg; simpa using this
  have hs := fun w h => slot_unit bb A w h h10 h21
  have he := fun (f : Nat) (A : Nat → Value) (w : World) (v : Value) h1 h2 h3 h4 h5 h6 => emit_1 bb g f bb A w v false 0 [] h1 h2 (by omega) h3 h4 h5 h6
  unfold unitC SlotSays at hs
  unfold Emit1Says at he
  have Hs := Lib.hid hs
  have He := Lib.hid he
  have HA := Lib.hid (And.intro h19 h20)
  have hb1 := h.later (below1 w (.cells #[.int .i64 4, .string ⟨#[]⟩, .int .i64 0, .slice none 0 0] 37)) hlt
  have Hb1 := Lib.hid hb1
  clear h10 h21 hs he h19 h20 h hb1
  go_enter Tryz.func66, Tryz.ntmps66
  go_wp2_with fail
  refine (Hs.out _ Hb1.out).mono ?_
  rintro e w1 ⟨rfl, gs, cs, f, cap, hk1, hf1, hf2, hf3, hf4, hB1, hkeep, hfr⟩
  have hz1 : w.heap.size < w1.heap.size := by have := hB1.size; simp at this; omega
  have hE : EmAt bb g f (upd (upd A 10 (.slice (some ⟨gs, 0, none⟩) 1 cs)) 21 (.slice (some ⟨f, 0, none⟩) 1 cap)) w1 (.slice none 0 0) (.bool false) := by
    have hf0 : w.heap.size + 1 ≤ f := by simpa using hf1
    refine ⟨hk1, g0, by omega, by omega, hkeep _ _ (by simp; omega) (by show g ≠ bb; omega) (old_cell cg _), ?_, hf3, hf4, ⟨cap19, ?_⟩, ?_, ⟨cap, by rw [upd_same]⟩⟩
    · rw [hfr _ (by simp; omega), (below1 w _).frozen (by exact hgl)]; exact zg
    · rw [upd_other _ _ (by omega), upd_other _ _ (by omega)]; exact HA.out.1
    · rw [upd_other _ _ (by omega), upd_other _ _ (by omega)]; exact HA.out.2
  have x0 : w1.cell? ⟨w.heap.size, 0, none⟩ = some (.int .i64 4) := hkeep _ _ (by simp) (by show w.heap.size ≠ bb; omega) (new_cell w _ _ _ _ rfl)
  have x1 : w1.cell? ⟨w.heap.size, 1, none⟩ = some (.string ⟨#[]⟩) := hkeep _ _ (by simp) (by show w.heap.size ≠ bb; omega) (new_cell w _ _ _ _ rfl)
  have x2 : w1.cell? ⟨w.heap.size, 2, none⟩ = some (.int .i64 0) := hkeep _ _ (by simp) (by show w.heap.size ≠ bb; omega) (new_cell w _ _ _ _ rfl)
  have x3 : w1.cell? ⟨w.heap.size, 3, none⟩ = some (.slice none 0 0) := hkeep _ _ (by simp) (by show w.heap.size ≠ bb; omega) (new_cell w _ _ _ _ rfl)
  have hem := He.out f _ w1 _ hE (World.ownsRow_nil _ _ _ _) (by intro q hq; cases hq) (by omega) (by omega) (by intro q hq; cases hq)
  have Hem := Lib.hid hem
  have hBw : Below bb w w1 := ((below1 w _).mono (by omega)).trans hB1
  clear hk1 hf1 hf2 hf3 hf4 hkeep hfr hE hem
  go_wp2_with fail
  refine Hem.out.mono ?_
  rintro e w2 ⟨rfl, v, xs, hE2, ho2, hq2, hb2⟩
  have HE2 := Lib.hid hE2
  have Ho2 := Lib.hid ho2
  have Hq2 := Lib.hid hq2
  clear hE2 ho2 hq2
  go_wp2_with fail
  go_ret
  exact ⟨rfl, f, gs, cs, cap, v, xs, HE2.out, Ho2.out, Hq2.out, hBw.trans hb2⟩

def LeaveSays (bb g f : Nat) (A : Nat → Value) (w : World) (e : Ending) (w' : World) : Prop :=
  e = .returned (.tuple #[]) ∧ ∃ v xs, BAt bb (upd A 20 (.int .i64 (-1))) w' ∧ w'.cell? ⟨g, 0, none⟩ = some v ∧ w'.ownsRow (bb + 1) 49 14 v 2 xs ∧ Below bb w w'

theorem eat_any (w : World) : Calls Tryz.prog 104 #[.int .i64 0] w fun e w' => e = .returned (.agg #[.int .i64 2, .int .i64 0, .slice none 0 0]) ∧ Below w.heap.size w w' := by
  go_enter Tryz.func104, Tryz.ntmps104
  go_wp2_with fail
  first
    | (go_ret; exact ⟨rfl, Below.refl _ _⟩)
    | (refine bodyPost_ret (v := .agg #[.int .i64 2, .int .i64 0, .slice none 0 0]) (by simp [results, Tryz.results104, go_sem]) rfl ⟨rfl, ?_⟩; first | exact Below.refl _ _ | exact below1 w _)

set_option maxRecDepth 100000 in
set_option maxHeartbeats 4000000 in
theorem leave_any (bb g f : Nat) (A : Nat → Value) (w : World) (v : Value) (xs : List Value) (h : EmAt bb g f A w v (.bool true)) (h23 : A 23 = .slice none 0 0) (hown : w.ownsRow (bb + 1) 49 14 v 1 xs) (hq : ∀ q, v.ownBlock = some q → bb < q ∧ q ≠ g ∧ q ≠ f) :
    Calls Tryz.prog 65 #[.pointer (some ⟨bb, 0, none⟩), .int .i64 0] w (LeaveSays bb g f A w) := by
  have hlt := h.b.lt
  have hu := unwind_nil bb A w h.b h23 h.a20
  have hb1 := h.b.same 23 (by omega) (by omega) h23
  have Hu := Lib.hid hu
  have Hh := Lib.hid h
  have Hown := Lib.hid hown
  have Hq := Lib.hid hq
  have HA := Lib.hid h23
  clear hu h hown hq h23
  go_enter Tryz.func65, Tryz.ntmps65
  go_wp2_with fail
  refine Hu.out.mono ?_
  rintro e w1 ⟨rfl, rfl⟩
  have hE1 : EmAt bb g f A (w.setCell ⟨bb, 23, none⟩ (.slice none 0 0)) v (.bool true) := by
    have h := Hh.out
    have h1 := h.g0
    have h2 := h.f0
    refine ⟨hb1, h.g0, h.f0, h.gf, ?_, frozen_set h.zg _, ?_, frozen_set h.zf _, h.a19, h.a20, h.a21⟩
    · rw [World.cell?_setCell_far _ _ _ _ (by show bb ≠ g; omega)]; exact h.cg
    · rw [World.cell?_setCell_far _ _ _ _ (by show bb ≠ f; omega)]; exact h.cf
  have ho1 : (w.setCell ⟨bb, 23, none⟩ (.slice none 0 0)).ownsRow (bb + 1) 49 14 v 1 xs := own_keep Hown.out fun k hk => by
    have := (Hq.out k hk).1
    exact Below.heap_setCell w ⟨bb, 23, none⟩ _ _ (by show k ≠ bb; omega)
  have hB1 : Below bb w (w.setCell ⟨bb, 23, none⟩ (.slice none 0 0)) := below_set bb w ⟨bb, 23, none⟩ _ (Nat.le_refl _)
  have hz1 : (w.setCell ⟨bb, 23, none⟩ (.slice none 0 0)).heap.size = w.heap.size := size_set _ _ _
  have c20 := hE1.b.c 20 (by omega) (by omega)
  rw [hE1.a20] at c20
  have hlt1 := hE1.b.lt
  generalize (w.setCell ⟨bb, 23, none⟩ (.slice none 0 0)) = w1 at hE1 ho1 hB1 hz1 c20 hlt1 ⊢
  have HE1 := Lib.hid hE1
  have Ho1 := Lib.hid ho1
  have heat := fun w => eat_any w
  have Heat := Lib.hid heat
  clear hE1 ho1 hz1 hb1 heat
  go_wp2_with fail
  refine (Heat.out _).mono ?_
  rintro e w2 ⟨rfl, hb2⟩
  have hE3 := (HE1.out.later hb2).later (below1 w2 (.cells #[.int .i64 2, .int .i64 0, .slice none 0 0] 51))
  have ho3 : (w2.alloc (.cells #[.int .i64 2, .int .i64 0, .slice none 0 0] 51)).ownsRow (bb + 1) 49 14 v 1 xs := (own_keep Ho1.out fun k hk => hb2.block k (own_lt Ho1.out k hk).2).alloc _
  have hql : ∀ k, v.ownBlock = some k → k < w2.heap.size := fun k hk => by have := (own_lt Ho1.out k hk).2; have := hb2.size; omega
  have hgl : g < w2.heap.size := by have := lt_of_cell (HE1.out.later hb2).cg; simpa using this
  have hfl : f < w2.heap.size := by have := lt_of_cell (HE1.out.later hb2).cf; simpa using this
  have hem := emit_2 bb g f w2.heap.size A (w2.alloc (.cells #[.int .i64 2, .int .i64 0, .slice none 0 0] 51)) v true 1 xs hE3 ho3 (by omega) Hq.out (by simp) (by omega) (fun k hk => by have := hql k hk; omega) (new_cell w2 _ _ _ _ rfl) (new_cell w2 _ _ _ _ rfl) (new_cell w2 _ _ _ _ rfl)
  unfold Emit2Says at hem
  have Hem := Lib.hid hem
  have hB3 : Below bb w1 (w2.alloc (.cells #[.int .i64 2, .int .i64 0, .slice none 0 0] 51)) := (hb2.mono (by omega)).trans ((below1 w2 _).mono (by have := hb2.size; omega))
  clear hE3 ho3 hql hgl hfl hem c20
  go_wp2_with fail
  refine Hem.out.mono ?_
  rintro e w4 ⟨rfl, v4, xs4, hE4, ho4, hq4, hb4⟩
  have c20 := hE4.b.c 20 (by omega) (by omega)
  rw [hE4.a20] at c20
  have f20 := hE4.b.f 20
  have HE4 := Lib.hid hE4
  have Ho4 := Lib.hid ho4
  have Hq4 := Lib.hid hq4
  clear hE4 ho4 hq4
  go_wp2_with fail
  go_end0
  have h4 := HE4.out
  have h40 := h4.g0
  refine ⟨rfl, v4, xs4, h4.b.set 20 (by omega) (by omega) _, ?_, ?_, ((hB1.trans hB3).trans hb4).trans (below_set bb w4 ⟨bb, 20, none⟩ _ (Nat.le_refl _))⟩
  · rw [World.cell?_setCell_far _ _ _ _ (by show bb ≠ g; omega)]; exact h4.cg
  · exact own_keep Ho4.out fun k hk => by
      have := (Hq4.out k hk).1
      exact Below.heap_setCell w4 ⟨bb, 20, none⟩ _ _ (by show k ≠ bb; omega)
end Go.Proofs.YtfpbhmikogdpgaaGreatDoor
