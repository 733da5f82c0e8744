/- lower's builder: unwinding where nothing is to be done. -/
import Derived.Test.YtfpbhmikogdpgaaGreatDoorAwD
namespace Go.Proofs.YtfpbhmikogdpgaaGreatDoor
open Go.RowKit

set_option maxRecDepth 100000 in
set_option maxHeartbeats 2000000 in
theorem unwind_nil (bb : Nat) (A : Nat → Value) (w : World) (h : BAt bb A w) (h23 : A 23 = .slice none 0 0) (h20 : A 20 = .int .i64 0) : Calls Tryz.prog 102 #[.pointer (some ⟨bb, 0, none⟩), .int .i64 0] w fun e w' => e = .returned (.tuple #[]) ∧ w' = w.setCell ⟨bb, 23, none⟩ (.slice none 0 0) := by
  have c23 := h.c 23 (by omega) (by omega)
  rw [h23] at c23
  have c20 := h.c 20 (by omega) (by omega)
  rw [h20] at c20
  have f23 := h.f 23
  clear h h23 h20
  go_enter Tryz.func102, Tryz.ntmps102
  go_wp2_with fail
  go_loop [5] (fun ii => ii = .int .i64 (-1)) (fun _ => 0)
  case atStart => rfl
  case round =>
    subst hrel
    go_wp2_with fail
    go_end0
    exact ⟨rfl, rfl⟩
theorem BAt.same {bb : Nat} {A : Nat → Value} {w : World} (h : BAt bb A w) (k : Nat) (h6 : 6 ≤ k) (h25 : k < 25) {v : Value} (e : A k = v) : BAt bb A (w.setCell ⟨bb, k, none⟩ v) := by
  have h2 := h.set k h6 h25 v
  have e2 : upd A k v = A := by funext j; unfold upd; split <;> simp_all
  rw [e2] at h2; exact h2

set_option maxRecDepth 100000 in
set_option maxHeartbeats 2000000 in
theorem pop_nil (bb : Nat) (A : Nat → Value) (w : World) (h : BAt bb A w) (h23 : A 23 = .slice none 0 0) (h20 : A 20 = .int .i64 0 ∨ A 20 = .int .i64 (-1)) : Calls Tryz.prog 101 #[.pointer (some ⟨bb, 0, none⟩), .int .i64 0] w fun e w' => e = .returned (.tuple #[]) ∧ BAt bb A w' ∧ Kept (fun k => k = bb) w w' := by
  have c23 := h.c 23 (by omega) (by omega)
  rw [h23] at c23
  have c20 := h.c 20 (by omega) (by omega)
  have f23 := h.f 23
  have Hh := Lib.hid h
  clear h
  rcases h20 with h20 | h20
  · rw [h20] at c20
    have hu := unwind_nil bb A w Hh.out h23 h20
    have H23 := Lib.hid h23
    have Hu := Lib.hid hu
    clear hu h23 h20
    go_enter Tryz.func101, Tryz.ntmps101
    go_wp2_with fail
    refine Hu.out.mono ?_
    rintro e w1 ⟨rfl, rfl⟩
    have d23 : (w.setCell ⟨bb, 23, none⟩ (.slice none 0 0)).cell? ⟨bb, 23, none⟩ = some (.slice none 0 0) := World.cell?_setCell_same _ _ _ c23
    have e23 : (w.setCell ⟨bb, 23, none⟩ (.slice none 0 0)).frozen? ⟨bb, 23, none⟩ = false := by rw [World.frozen?_setCell]; exact f23
    go_wp2_with fail
    go_end0
    exact ⟨rfl, (Hh.out.same 23 (by omega) (by omega) H23.out).same 23 (by omega) (by omega) H23.out, only_set (only_set (Kept.refl _ w) 23 _) 23 _⟩
  · rw [h20] at c20
    have H23 := Lib.hid h23
    clear h23 h20
    go_enter Tryz.func101, Tryz.ntmps101
    go_wp2_with fail
    go_end0
    exact ⟨rfl, Hh.out.same 23 (by omega) (by omega) H23.out, only_set (Kept.refl _ w) 23 _⟩
end Go.Proofs.YtfpbhmikogdpgaaGreatDoor
