/- lower.lowered at the module of one empty function. -/
import Derived.Test.YtfpbhmikogdpgaaGreatDoorAwI
namespace Go.Proofs.YtfpbhmikogdpgaaGreatDoor
open Go.RowKit

theorem there_new (w : World) (T : TypeId) (cs : Array Value) (b n : Nat) (hb : b = w.heap.size) (hn : cs.size = n) : World.there (w.alloc (.cells cs T)) b 0 n := fun j hj => by
  rw [Nat.zero_add]
  refine ⟨?_, new_frozen _ _ _ _ _ hb⟩
  rw [new_cell _ _ _ _ _ hb]; simp; omega
theorem there_later {w w' : World} {b o n : Nat} (h : World.there w b o n) (hb : Below w.heap.size w w') (hlt : b < w.heap.size) : World.there w' b o n := fun j hj => by
  have := h j hj
  rw [hb.cell (by exact hlt), hb.frozen (by exact hlt)]; exact this

set_option maxRecDepth 100000 in
set_option maxHeartbeats 4000000 in
theorem lowered_unit (fb : Nat) (w : World) : Calls Tryz.prog 25 #[.agg (modC fb), .agg funcC] w (BuiltSays w) := by
  have hmf : ∀ (fn : Fn) (first cap : Array Value) (w : World), (Instr.makeFunc fn first cap).run Tryz.prog w = .ok (.func fn first cap) w := fun _ _ _ _ => rfl
  have hbu := fun w => built_unit fb w
  unfold BuiltSays at hbu
  unfold modC funcC at *
  have Hbu := Lib.hid hbu
  clear hbu
  go_enter_defers Tryz.func25, Tryz.ntmps25
  go_upto_region 2 with fail
  obtain ⟨W, hW⟩ : ∃ W, W = (((w.alloc (.cells #[.slice none 0 0, .slice none 0 0, .slice none 0 0, .slice (some ⟨fb, 0, none⟩) 1 1] 66)).alloc (.cells #[.string { data := #[102, 47, 48] }, .slice none 0 0, .slice none 0 0, .slice none 0 0, .int .i64 4, .string { data := #[] }, .int .i64 0, .slice none 0 0, .int .i64 0, .string { data := #[] }, .int .i64 0, .slice none 0 0, .int .i64 20, .string { data := #[] }, .int .i64 0, .int .i64 0, .string { data := #[] }, .int .i64 0, .slice none 0 0, .slice none 0 0, .slice none 0 0, .int .i64 0] 63)).alloc (.cells #[.string { data := #[] }, .slice none 0 0, .slice none 0 0, .int .i64 0, .slice none 0 0, .int .i64 0, .string { data := #[] }, .int .i64 0, .slice none 0 0, .int .i64 0, .string { data := #[] }, .int .i64 0, .slice none 0 0, .slice none 0 0] 40)).alloc (.cells #[.int .i64 0] 67) := ⟨_, rfl⟩
  rw [← hW]
  have hB : Below w.heap.size w W := by
    rw [hW]; exact (((below1 w _).alloc (by simp) _).alloc (by simp; omega) _).alloc (by simp; omega) _
  have hm : World.rangeAt W w.heap.size 0 [.slice none 0 0, .slice none 0 0, .slice none 0 0, .slice (some ⟨fb, 0, none⟩) 1 1] := by
    rw [hW]; exact World.rangeAt_alloc (World.rangeAt_alloc (World.rangeAt_alloc (fun j v hj => by rw [Nat.zero_add, new_cell _ _ _ _ _ rfl]; simpa using hj) _) _) _
  have hf : World.rangeAt W (w.heap.size + 1) 0 [.string { data := #[102, 47, 48] }, .slice none 0 0, .slice none 0 0, .slice none 0 0, .int .i64 4, .string { data := #[] }, .int .i64 0, .slice none 0 0, .int .i64 0, .string { data := #[] }, .int .i64 0, .slice none 0 0, .int .i64 20, .string { data := #[] }, .int .i64 0, .int .i64 0, .string { data := #[] }, .int .i64 0, .slice none 0 0, .slice none 0 0, .slice none 0 0, .int .i64 0] := by
    rw [hW]; exact World.rangeAt_alloc (World.rangeAt_alloc (fun j v hj => by rw [Nat.zero_add, new_cell _ _ _ _ _ (by simp)]; simpa using hj) _) _
  have h4 : World.there W (w.heap.size + 1 + 1) 0 14 := by
    rw [hW]; exact World.there_alloc (there_new _ _ _ _ _ (by simp) rfl) _
  have h5 : W.cell? ⟨w.heap.size + 1 + 1 + 1, 0, none⟩ = some (.int .i64 0) := by rw [hW]; exact new_cell _ _ _ _ _ (by simp)
  have f5 : W.frozen? ⟨w.heap.size + 1 + 1 + 1, 0, none⟩ = false := by rw [hW]; exact new_frozen _ _ _ _ _ (by simp)
  have hz : w.heap.size + 1 + 1 + 1 < W.heap.size := by rw [hW]; simp
  clear hW
  have Hm := Lib.hid hm
  have Hf := Lib.hid hf
  have H4 := Lib.hid h4
  clear hm hf h4
  go_wp2_with (first
    | (with_reducible refine wpList_load_mid rfl 66 _ rfl w.heap.size 0 rfl [.slice none 0 0, .slice none 0 0, .slice none 0 0, .slice (some ⟨fb, 0, none⟩) 1 1] _ Hm.out Tryz.underlying66 rfl (by kernel_rfl) ?_)
    | (with_reducible refine wpList_load_mid rfl 63 _ rfl (w.heap.size + 1) 0 rfl [.string { data := #[102, 47, 48] }, .slice none 0 0, .slice none 0 0, .slice none 0 0, .int .i64 4, .string { data := #[] }, .int .i64 0, .slice none 0 0, .int .i64 0, .string { data := #[] }, .int .i64 0, .slice none 0 0, .int .i64 20, .string { data := #[] }, .int .i64 0, .int .i64 0, .string { data := #[] }, .int .i64 0, .slice none 0 0, .slice none 0 0, .slice none 0 0, .int .i64 0] _ Hf.out Tryz.underlying63 rfl (by kernel_rfl) ?_))
  refine (Hbu.out _).mono ?_
  rintro e w1 ⟨gs, cs, g, cap, rfl, hb1⟩
  have hB1 := hB.trans (hb1.mono hB.size)
  have r4 := there_later H4.out hb1 (by omega)
  have r5 := cells_later hb1 _ _ h5
  have g5 := frozen_later hb1 h5 f5
  have hz1 := hb1.size
  obtain ⟨W2, hW2⟩ : ∃ W2, W2 = w1.setCells (w.heap.size + 1 + 1) 0 #[.string { data := #[102, 47, 48] }, .slice none 0 0, .slice none 0 0, .int .i64 0, .slice (some ⟨gs, 0, none⟩) 1 cs, .int .i64 4, .string { data := #[] }, .int .i64 0, .slice none 0 0, .int .i64 0, .string { data := #[] }, .int .i64 0, .slice none 0 0, .slice (some ⟨g, 0, none⟩) 1 cap].toList := ⟨_, rfl⟩
  have x5 : W2.cell? ⟨w.heap.size + 1 + 1 + 1, 0, none⟩ = some (.int .i64 0) := by
    rw [hW2]; exact World.rangeAt_setCells_apart (cs := [.int .i64 0]) (fun j v hj => by
      match j, hj with
      | 0, hj => simp at hj; subst hj; exact r5) _ _ _ (.inl (by omega)) 0 _ rfl
  have y5 : W2.frozen? ⟨w.heap.size + 1 + 1 + 1, 0, none⟩ = false := by
    rw [hW2]; exact ((World.there_setCells (b' := w.heap.size + 1 + 1 + 1) (o' := 0) (n := 1) (fun j hj => by
      obtain rfl : j = 0 := by omega
      exact ⟨by rw [r5]; rfl, g5⟩) _ _ _) 0 (by omega)).2
  have hr2 : World.rangeAt W2 (w.heap.size + 1 + 1) 0 [.string { data := #[102, 47, 48] }, .slice none 0 0, .slice none 0 0, .int .i64 0, .slice (some ⟨gs, 0, none⟩) 1 cs, .int .i64 4, .string { data := #[] }, .int .i64 0, .slice none 0 0, .int .i64 0, .string { data := #[] }, .int .i64 0, .slice none 0 0, .slice (some ⟨g, 0, none⟩) 1 cap] := by
    rw [hW2]; exact World.rangeAt_setCells_same _ _ _ _ r4
  have hB2 : Below w.heap.size w W2 := by rw [hW2]; exact hB1.trans (below_setCells _ _ _ _ _ (by omega))
  have R4 := Lib.hid r4
  have HW2 := Lib.hid hW2
  have Hr2 := Lib.hid hr2
  have hone : (#[.string { data := #[102, 47, 48] }, .slice none 0 0, .slice none 0 0, .int .i64 0, .slice (some ⟨gs, 0, none⟩) 1 cs, .int .i64 4, .string { data := #[] }, .int .i64 0, .slice none 0 0, .int .i64 0, .string { data := #[] }, .int .i64 0, .slice none 0 0, .slice (some ⟨g, 0, none⟩) 1 cap] : Array Value).all (·.oneCell') = true := by simp [Value.oneCell']
  have Hone := Lib.hid hone
  unfold codeR
  clear hone r4 h5 f5 r5 g5 hW2 hr2
  go_wp2_with (refine wpList_store_mid rfl 40 _ _ rfl (w.heap.size + 1 + 1) 0 #[.string { data := #[102, 47, 48] }, .slice none 0 0, .slice none 0 0, .int .i64 0, .slice (some ⟨gs, 0, none⟩) 1 cs, .int .i64 4, .string { data := #[] }, .int .i64 0, .slice none 0 0, .int .i64 0, .string { data := #[] }, .int .i64 0, .slice none 0 0, .slice (some ⟨g, 0, none⟩) 1 cap] rfl rfl R4.out (by kernel_rfl) Hone.out ?_; rw [← HW2.out])
  have hr3 : World.rangeAt (W2.setCell ⟨w.heap.size + 1 + 1 + 1, 0, none⟩ (.int .i64 0)) (w.heap.size + 1 + 1) 0 [.string { data := #[102, 47, 48] }, .slice none 0 0, .slice none 0 0, .int .i64 0, .slice (some ⟨gs, 0, none⟩) 1 cs, .int .i64 4, .string { data := #[] }, .int .i64 0, .slice none 0 0, .int .i64 0, .string { data := #[] }, .int .i64 0, .slice none 0 0, .slice (some ⟨g, 0, none⟩) 1 cap] := fun j v hj => by
    rw [World.cell?_setCell_far _ _ _ _ (by dsimp only; omega)]; exact Hr2.out j v hj
  have x6 : (W2.setCell ⟨w.heap.size + 1 + 1 + 1, 0, none⟩ (.int .i64 0)).cell? ⟨w.heap.size + 1 + 1 + 1, 0, none⟩ = some (.int .i64 0) := cell_set x5 _
  have hB3 : Below w.heap.size w (W2.setCell ⟨w.heap.size + 1 + 1 + 1, 0, none⟩ (.int .i64 0)) := hB2.setCell (by dsimp only; omega) _
  generalize (W2.setCell ⟨w.heap.size + 1 + 1 + 1, 0, none⟩ (.int .i64 0)) = W3 at hr3 x6 hB3 ⊢
  have z0 := hr3 0 _ rfl
  have z1 := hr3 1 _ rfl
  have z2 := hr3 2 _ rfl
  have z3 := hr3 3 _ rfl
  have z4 := hr3 4 _ rfl
  have z5 := hr3 5 _ rfl
  have z6 := hr3 6 _ rfl
  have z7 := hr3 7 _ rfl
  have z8 := hr3 8 _ rfl
  have z9 := hr3 9 _ rfl
  have z10 := hr3 10 _ rfl
  have z11 := hr3 11 _ rfl
  have z12 := hr3 12 _ rfl
  have z13 := hr3 13 _ rfl
  simp only [Nat.zero_add] at z0 z1 z2 z3 z4 z5 z6 z7 z8 z9 z10 z11 z12 z13
  clear hr3 x5 y5 hB2
  refine leaves_cons (f := 44) (args := #[.pointer (some ⟨w.heap.size + 1 + 1, 0, none⟩), .pointer (some ⟨w.heap.size + 1 + 1 + 1, 0, none⟩)]) (by simp) (by simp [go_sem]) ?_
  refine (idle44 ⟨w.heap.size + 1 + 1, 0, none⟩ ⟨w.heap.size + 1 + 1 + 1, 0, none⟩ _).mono ?_
  rintro e u' w'' ⟨rfl, rfl, rfl⟩
  have hsay : BuiltSays w (.returned (.tuple #[.agg #[.string { data := #[102, 47, 48] }, .slice none 0 0, .slice none 0 0, .int .i64 0, .slice (some ⟨gs, 0, none⟩) 1 cs, .int .i64 4, .string { data := #[] }, .int .i64 0, .slice none 0 0, .int .i64 0, .string { data := #[] }, .int .i64 0, .slice none 0 0, .slice (some ⟨g, 0, none⟩) 1 cap], .int .i64 0])) w'' := ⟨gs, cs, g, cap, rfl, hB3⟩
  simp [Leaves, settle, results, Tryz.results25, go_sem, z0, z1, z2, z3, z4, z5, z6, z7, z8, z9, z10, z11, z12, z13, x6, hsay]
end Go.Proofs.YtfpbhmikogdpgaaGreatDoor
