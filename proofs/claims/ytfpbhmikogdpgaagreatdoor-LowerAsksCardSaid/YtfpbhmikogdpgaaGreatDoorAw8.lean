/- flow.Check and lower.lowered's deferred functions: a frame that returns finds nothing to recover. -/
import Derived.Test.YtfpbhmikogdpgaaGreatDoorAw7
import Derived.Defers
import Derived.Recover
namespace Go.Proofs.YtfpbhmikogdpgaaGreatDoor
open Go.RowKit

theorem idle44 (p q : Addr) (w : World) :
    CallsD Tryz.prog 44 #[.pointer (some p), .pointer (some q)] .returning w fun e u' w' => e = .returned (.tuple #[]) ∧ u' = .returning ∧ w' = w := by
  refine callsD_of_wpS Tryz.func44 rfl fun c₀ cs hu => ?_
  apply wpS_seq
  apply wpS_region
  simp [wpOpsS, go_sem, recoverD, hu, Tryz.ntmps44, Exit.thenS]
  refine wpS_cond (t := false) (by simp [Act.eval, Array.replicate]) ?_
  simp only [Bool.false_eq_true, if_false]
  refine wpS_of_wp (wp_skip ?_)
  cases c₀
  simp_all [bodyPostS, results, Tryz.results44]

theorem idle123 (p : Addr) (w : World) :
    CallsD Tryz.prog 123 #[.pointer (some p)] .returning w fun e u' w' => e = .returned (.tuple #[]) ∧ u' = .returning ∧ w' = w := by
  refine callsD_of_wpS Tryz.func123 rfl fun c₀ cs hu => ?_
  apply wpS_seq
  apply wpS_region
  simp [wpOpsS, go_sem, recoverD, hu, Tryz.ntmps123, Exit.thenS]
  refine wpS_of_wp ?_
  simp [Array.replicate]
  go_wp2_with fail
  cases c₀
  simp_all [bodyPostS, results, Tryz.results123]

theorem check1_fn (args : Array Value) (w : World) : (callFunc 78 args).run Tryz.prog w = .ok (.enter 78 args) w := by kernel_rfl

/-- the module's and the function's boxes -/
structure BoxAt (mb fb2 fb : Nat) (w : World) : Prop where
  m0 : w.cell? ⟨mb, 0, none⟩ = some (.slice none 0 0)
  m1 : w.cell? ⟨mb, 1, none⟩ = some (.slice none 0 0)
  m2 : w.cell? ⟨mb, 2, none⟩ = some (.slice none 0 0)
  m3 : w.cell? ⟨mb, 3, none⟩ = some (.slice (some ⟨fb, 0, none⟩) 1 1)
  f : ∀ j, j < 22 → w.cell? ⟨fb2, j, none⟩ = some (funcC[j]?.getD undef)
theorem BoxAt.later {mb fb2 fb : Nat} {w w' : World} (h : BoxAt mb fb2 fb w) (hb : Below w.heap.size w w') : BoxAt mb fb2 fb w' :=
  ⟨cells_later hb _ _ h.m0, cells_later hb _ _ h.m1, cells_later hb _ _ h.m2, cells_later hb _ _ h.m3, fun j hj => cells_later hb _ _ (h.f j hj)⟩

theorem func_range {w : World} {b : Nat} (h : ∀ j, j < 22 → w.cell? ⟨b, j, none⟩ = some (funcC[j]?.getD undef)) : World.rangeAt w b 0 funcC.toList := fun j v hj => by
  have hj2 : funcC[j]? = some v := by simpa using hj
  have hjl : j < 22 := by obtain ⟨h, _⟩ := Array.getElem?_eq_some_iff.1 hj2; simpa [funcC] using h
  have := h j hjl
  rw [hj2] at this
  rw [Nat.zero_add]; exact this

set_option maxRecDepth 100000 in
set_option maxHeartbeats 2000000 in
theorem fcheck1_unit (mb fb2 fb : Nat) (w : World) (h : BoxAt mb fb2 fb w) : Calls Tryz.prog 78 #[.pointer (some ⟨mb, 0, none⟩), .pointer (some ⟨fb2, 0, none⟩)] w fun e w' => e = .returned (.tuple #[]) ∧ Below w.heap.size w w' := by
  obtain ⟨m0, m1, m2, m3, hf⟩ := h
  have f1 : w.cell? ⟨fb2, 1, none⟩ = some (.slice none 0 0) := hf 1 (by omega)
  have f2 : w.cell? ⟨fb2, 2, none⟩ = some (.slice none 0 0) := hf 2 (by omega)
  have f3 : w.cell? ⟨fb2, 3, none⟩ = some (.slice none 0 0) := hf 3 (by omega)
  have f4 : w.cell? ⟨fb2, 4, none⟩ = some (.int .i64 4) := hf 4 (by omega)
  have hfl := lt_of_cell f1
  simp at hfl
  have n1 : fb2 ≠ w.heap.size := by omega
  have n2 : fb2 ≠ w.heap.size + 1 := by omega
  have n3 : fb2 < w.heap.size + 1 := by omega
  have hmm := @run_makeMap Tryz.prog
  have hrg : World.rangeAt w fb2 0 [.string { data := #[102, 47, 48] }, .slice none 0 0, .slice none 0 0, .slice none 0 0, .int .i64 4, .string { data := #[] }, .int .i64 0, .slice none 0 0, .int .i64 0, .string { data := #[] }, .int .i64 0, .slice none 0 0, .int .i64 20, .string { data := #[] }, .int .i64 0, .int .i64 0, .string { data := #[] }, .int .i64 0, .slice none 0 0, .slice none 0 0, .slice none 0 0, .int .i64 0] := func_range hf
  have Hrg := Lib.hid hrg
  have Hf := Lib.hid hf
  clear hf hrg
  go_enter Tryz.func78, Tryz.ntmps78
  go_wp2_with (with_reducible refine wpList_load_mid rfl 63 _ rfl fb2 0 rfl [.string { data := #[102, 47, 48] }, .slice none 0 0, .slice none 0 0, .slice none 0 0, .int .i64 4, .string { data := #[] }, .int .i64 0, .slice none 0 0, .int .i64 0, .string { data := #[] }, .int .i64 0, .slice none 0 0, .int .i64 20, .string { data := #[] }, .int .i64 0, .int .i64 0, .string { data := #[] }, .int .i64 0, .slice none 0 0, .slice none 0 0, .slice none 0 0, .int .i64 0] _ Hrg.out Tryz.underlying63 rfl (by kernel_rfl) ?_)
  go_loop [18] (fun ii => ii = .int .i64 0) (fun _ => 0)
  case atStart => rfl
  case round =>
    subst hrel
    go_upto_region 6 with fail
    obtain ⟨W2, hW2⟩ : ∃ W, W = (w.alloc (.map #[] 0)).alloc (.cells #[.slice none 0 0, .slice none 0 0, .slice none 0 0, .slice (some ⟨fb, 0, none⟩) 1 1, .string { data := #[102, 47, 48] }, .slice none 0 0, .slice none 0 0, .slice none 0 0, .int .i64 4, .string { data := #[] }, .int .i64 0, .slice none 0 0, .int .i64 0, .string { data := #[] }, .int .i64 0, .slice none 0 0, .int .i64 20, .string { data := #[] }, .int .i64 0, .int .i64 0, .string { data := #[] }, .int .i64 0, .slice none 0 0, .slice none 0 0, .slice none 0 0, .int .i64 0, .slice none 0 0, .slice none 0 0, .slice none 0 0, .map (some w.heap.size), .bool false, .slice none 0 0] 173) := ⟨_, rfl⟩
    have hb2 : Below w.heap.size w W2 := by rw [hW2]; exact below2 w _ _
    have hk2 : WalkAt (w.heap.size + 1) W2 := by
      rw [hW2]
      exact ⟨new_cell _ _ _ _ _ (by simp), ⟨_, new_cell _ _ _ _ _ (by simp)⟩, new_cell _ _ _ _ _ (by simp), fun j => new_frozen _ _ _ _ _ (by simp)⟩
    have h31 : W2.cell? ⟨w.heap.size + 1, 31, none⟩ = some (.slice none 0 0) := by rw [hW2]; exact new_cell _ _ _ _ _ (by simp)
    have hnr : World.rangeAt W2 fb2 12 [.int .i64 20, .string { data := #[] }, .int .i64 0, .int .i64 0, .string { data := #[] }, .int .i64 0, .slice none 0 0, .slice none 0 0, .slice none 0 0, .int .i64 0] := node_range fun j hj => cells_later hb2 _ _ (Hf.out j hj)
    have hbk := block_unit (w.heap.size + 1) W2 hk2 h31
    rw [← hW2]
    unfold nodeC at hbk
    have Hbk := Lib.hid hbk
    have Hnr := Lib.hid hnr
    clear hW2 hbk hnr hk2 h31 Hrg hmm
    go_wp2_with (with_reducible refine wpList_load_mid rfl 60 _ rfl fb2 12 rfl [.int .i64 20, .string { data := #[] }, .int .i64 0, .int .i64 0, .string { data := #[] }, .int .i64 0, .slice none 0 0, .slice none 0 0, .slice none 0 0, .int .i64 0] _ Hnr.out Tryz.underlying60 rfl (by kernel_rfl) ?_)
    refine Hbk.out.mono ?_
    rintro e w3 ⟨rfl, hk3, hb3⟩
    have hended := hk3.ended
    have hB3 : Below w.heap.size w w3 := hb2.trans (hb3.mono (by omega))
    have g4 := cells_later hB3 _ _ f4
    clear hk3
    go_wp2_with fail
    go_end0
    exact ⟨rfl, hB3⟩

set_option maxRecDepth 100000 in
set_option maxHeartbeats 2000000 in
theorem guarded_unit (mb fb2 fb : Nat) (w : World) (h : BoxAt mb fb2 fb w) : Calls Tryz.prog 77 #[.func (.func 78) #[] #[.pointer (some ⟨mb, 0, none⟩), .pointer (some ⟨fb2, 0, none⟩)]] w fun e w' => e = .returned (.agg #[.int .i64 0, .int .i64 0]) ∧ Below w.heap.size w w' := by
  have hmf : ∀ (fn : Fn) (first cap : Array Value) (w : World), (Instr.makeFunc fn first cap).run Tryz.prog w = .ok (.func fn first cap) w := fun _ _ _ _ => rfl
  have hfn := check1_fn
  have hc := fun o => fcheck1_unit mb fb2 fb (w.alloc o) (h.later (below1 w o))
  have Hc := Lib.hid hc
  clear hc
  go_enter_defers Tryz.func77, Tryz.ntmps77
  go_wp2_with fail
  refine (Hc.out _).mono ?_
  rintro e w1 ⟨rfl, hb1⟩
  have r0 : w1.cell? ⟨w.heap.size, 0, none⟩ = some (.int .i64 0) := cells_later hb1 _ _ (new_cell w _ _ _ _ rfl)
  have r1 : w1.cell? ⟨w.heap.size, 1, none⟩ = some (.int .i64 0) := cells_later hb1 _ _ (new_cell w _ _ _ _ rfl)
  have hB : Below w.heap.size w w1 := (below1 w _).trans (hb1.mono (by simp))
  go_wp2_with fail
  refine leaves_cons (f := 123) (args := #[.pointer (some ⟨w.heap.size, 0, none⟩)]) (by simp) (by simp [go_sem]) ?_
  refine (idle123 ⟨w.heap.size, 0, none⟩ _).mono ?_
  rintro e u' w'' ⟨rfl, rfl, rfl⟩
  simp [Leaves, settle, results, Tryz.results77, go_sem, r0, r1, hB]

set_option maxRecDepth 100000 in
set_option maxHeartbeats 2000000 in
theorem fcheck_unit (fb : Nat) (w : World) : Calls Tryz.prog 59 #[.agg (modC fb), .agg funcC] w fun e w' => e = .returned (.agg #[.int .i64 0, .int .i64 0]) ∧ Below w.heap.size w w' := by
  have hmf : ∀ (fn : Fn) (first cap : Array Value) (w : World), (Instr.makeFunc fn first cap).run Tryz.prog w = .ok (.func fn first cap) w := fun _ _ _ _ => rfl
  have hg := fun mb fb2 w h => guarded_unit mb fb2 fb w h
  have Hg := Lib.hid hg
  clear hg
  unfold modC
  have hbx : BoxAt w.heap.size (w.heap.size + 1) fb (((w.alloc (.cells #[.slice none 0 0, .slice none 0 0, .slice none 0 0, .slice (some ⟨fb, 0, none⟩) 1 1] 66)).alloc (.cells funcC 63)).alloc (.cells #[.int .i64 0, .int .i64 0] 95)) :=
    ⟨old_cell (old_cell (new_cell w _ _ _ _ rfl) _) _, old_cell (old_cell (new_cell w _ _ _ _ rfl) _) _, old_cell (old_cell (new_cell w _ _ _ _ rfl) _) _, old_cell (old_cell (new_cell w _ _ _ _ rfl) _) _, fun j hj => old_cell (func_new (w.alloc _) _ (by simp) j hj) _⟩
  have Hbx := Lib.hid hbx
  clear hbx
  go_enter Tryz.func59, Tryz.ntmps59
  go_wp2_with fail
  refine (Hg.out _ _ _ Hbx.out).mono ?_
  rintro e w1 ⟨rfl, hb1⟩
  have hz : w.heap.size + 1 + 1 < w1.heap.size := by have := hb1.size; simp at this; omega
  have r0 : w1.cell? ⟨w.heap.size + 1 + 1, 0, none⟩ = some (.int .i64 0) := cells_later hb1 _ _ (new_cell _ _ _ _ _ (by simp))
  have r1 : w1.cell? ⟨w.heap.size + 1 + 1, 1, none⟩ = some (.int .i64 0) := cells_later hb1 _ _ (new_cell _ _ _ _ _ (by simp))
  have f0 : w1.frozen? ⟨w.heap.size + 1 + 1, 0, none⟩ = false := by rw [hb1.frozen (by simp)]; exact new_frozen _ _ _ _ _ (by simp)
  have f1 : w1.frozen? ⟨w.heap.size + 1 + 1, 1, none⟩ = false := by rw [hb1.frozen (by simp)]; exact new_frozen _ _ _ _ _ (by simp)
  have hB : Below w.heap.size w w1 := (below3 w _ _ _).trans (hb1.mono (by simp; omega))
  go_wp2_with fail
  refine bodyPost_ret (v := .agg #[.int .i64 0, .int .i64 0]) (by simp [results, Tryz.results59, go_sem, *]) rfl ⟨rfl, ?_⟩
  exact (hB.setCell (by show _ ≤ w.heap.size + 1 + 1; omega) _).setCell (by show _ ≤ w.heap.size + 1 + 1; omega) _
end Go.Proofs.YtfpbhmikogdpgaaGreatDoor
