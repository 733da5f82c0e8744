/- lower's builder: the scope of the empty block. -/
import Derived.Test.YtfpbhmikogdpgaaGreatDoorAwE
import Derived.Maps.RangeWalk
namespace Go.Proofs.YtfpbhmikogdpgaaGreatDoor
open Go.RowKit

theorem wpList_range_em {P : Program} {w : World} {ops : Array Oper} {rest : List Oper} {o : Oper} {a : Act} {Q : Exit → Act → World → Prop} (hg : o.guard = none) (m : Operand) (t : TypeId) (hop : o.op = Op.range t m) (k e : TypeId) (ht : P.underlying t = some (.map k e)) (b : Nat)
    (hm : a.eval m = .map (some b)) (hb : w.heap[b]? = some (.map #[] 0)) (hK : wpList P ops Q rest (a.put o.dst (.pointer (some ⟨w.heap.size, 0, none⟩))) (w.alloc (.mapIter (some b) 0 #[] 0))) : wpList P ops Q (o :: rest) a w := by
  refine wpList_plain hg fun K' hK' => ?_
  have hrun := run_range_map w t k e b #[] 0 ht hb
  unfold Oper.wp
  simp [execOp, hop, hm, hrun, Result.andThen]
  exact hK' _ _ hK

theorem wpList_next_em {P : Program} {w : World} {ops : Array Oper} {rest : List Oper} {o : Oper} {a : Act} {Q : Exit → Act → World → Prop} (hg : o.guard = none) (it : Operand) (hop : o.op = Op.next it false) (b r : Nat)
    (hit : a.eval it = .pointer (some ⟨r, 0, none⟩)) (hr : w.heap[r]? = some (.mapIter (some b) 0 #[] 0)) (hb : w.heap[b]? = some (.map #[] 0)) (hK : wpList P ops Q rest (a.put o.dst (.tuple #[.bool false])) w) : wpList P ops Q (o :: rest) a w := by
  refine wpList_plain hg fun K' hK' => ?_
  unfold Oper.wp
  rcases run_next_at (P := P) w o.type r b 0 0 #[] #[] 0 hr hb (by simp) (Nat.le_refl _) with ⟨_, hrun⟩ | ⟨e, he, _⟩
  · simp [execOp, hop, hit, hrun, Result.andThen]
    exact hK' _ _ hK
  · simp [leftOf] at he

set_option maxRecDepth 100000 in
set_option maxHeartbeats 2000000 in
theorem scope_nil (bb mb : Nat) (A : Nat → Value) (w : World) (h : BAt bb A w) (h23 : A 23 = .slice none 0 0) (h20 : A 20 = .int .i64 0) (h22 : A 22 = .map (some mb)) (hmb : w.heap[mb]? = some (.map #[] 0)) (hne : mb ≠ bb) : Calls Tryz.prog 64 #[.pointer (some ⟨bb, 0, none⟩), .agg nodeC] w fun e w' => e = .returned (.tuple #[]) ∧ BAt bb A w' ∧ Kept (fun k => k = bb) w w' := by
  have c23 := h.c 23 (by omega) (by omega)
  rw [h23] at c23
  have c20 := h.c 20 (by omega) (by omega)
  rw [h20] at c20
  have c22 := h.c 22 (by omega) (by omega)
  rw [h22] at c22
  have f22 := h.f 22
  have hlt := h.lt
  have n2 : bb ≠ w.heap.size := by omega
  have Hh := Lib.hid h
  have HA := Lib.hid (And.intro h23 (And.intro h20 h22))
  clear h h23 h20 h22
  have hmm := @run_makeMap Tryz.prog
  unfold nodeC
  go_enter Tryz.func64, Tryz.ntmps64
  have hml : mb < w.heap.size := (Array.getElem?_eq_some_iff.1 hmb).1
  go_wp2_with (with_reducible refine wpList_range_em rfl _ 132 rfl _ _ Tryz.underlying132 mb rfl ?e1 ?_)
  case e1 => rw [(MapKept.heap_alloc _ _).2 _ (by simp; omega), (MapKept.heap_alloc _ _).2 _ (by simp; omega), Below.heap_setCell _ _ _ _ hne]; exact hmb
  go_frame
  have hW : ∃ W0 : World, W0 = ((w.setCell ⟨bb, 22, none⟩ (.map (some (w.heap.size + 1)))).alloc (.cells #[.int .i64 20, .string ⟨#[]⟩, .int .i64 0, .int .i64 0, .string ⟨#[]⟩, .int .i64 0, .slice none 0 0, .slice none 0 0, .slice none 0 0, .int .i64 0] 60)).alloc (.map #[] 0) := ⟨_, rfl⟩
  obtain ⟨W0, hW⟩ := hW
  rw [← hW]
  have hB0 : Kept (fun k => k = bb) w W0 := by
    rw [hW]; exact ((only_set (Kept.refl _ w) 22 _).alloc _).alloc _
  have hk0 : BAt bb (upd A 22 (.map (some (w.heap.size + 1)))) W0 := by
    rw [hW]
    exact ((Hh.out.set 22 (by omega) (by omega) _).later (below1 _ _) (by rw [size_set]; omega)).later (below1 _ _) (by simp; omega)
  have hm0 : W0.heap[mb]? = some (.map #[] 0) := by
    rw [hW, (MapKept.heap_alloc _ _).2 _ (by simp; omega), (MapKept.heap_alloc _ _).2 _ (by simp; omega), Below.heap_setCell _ _ _ _ hne]; exact hmb
  have hn0 : W0.cell? ⟨w.heap.size, 8, none⟩ = some (.slice none 0 0) := by
    rw [hW]; exact old_cell (new_cell _ _ _ _ _ (by rw [size_set])) _
  have hz0 : w.heap.size < W0.heap.size := by rw [hW]; simp; omega
  clear hW
  have hB1 : Kept (fun k => k = bb) w (W0.alloc (.mapIter (some mb) 0 #[] 0)) := hB0.alloc _
  have hk1 := hk0.later (below1 W0 (.mapIter (some mb) 0 #[] 0)) (by omega)
  have hm1 : (W0.alloc (.mapIter (some mb) 0 #[] 0)).heap[mb]? = some (.map #[] 0) := by
    rw [(MapKept.heap_alloc _ _).2 _ (Array.getElem?_eq_some_iff.1 hm0).1]; exact hm0
  have hi1 : (W0.alloc (.mapIter (some mb) 0 #[] 0)).heap[W0.heap.size]? = some (.mapIter (some mb) 0 #[] 0) := heap_alloc_new _ _
  have hn1 := old_cell hn0 (.mapIter (some mb) 0 #[] 0)
  obtain ⟨r, hr⟩ : ∃ r, r = W0.heap.size := ⟨_, rfl⟩
  rw [← hr] at hi1 ⊢
  generalize (W0.alloc (.mapIter (some mb) 0 #[] 0)) = W at hB1 hk1 hm1 hi1 hn1 ⊢
  have hp := pop_nil bb _ W hk1 (by rw [upd_other _ _ (by omega)]; exact HA.out.1) (.inl (by rw [upd_other _ _ (by omega)]; exact HA.out.2.1))
  have Hp := Lib.hid hp
  have Hm1 := Lib.hid hm1
  have Hi1 := Lib.hid hi1
  clear hr hm0 hn0 hk0 hB0 hz0 hp hm1 hi1 hmb c22 c20 c23
  go_loop [] (True) (0)
  case atStart => trivial
  case round =>
    go_wp2_with (with_reducible refine wpList_next_em rfl _ rfl mb r rfl Hi1.out Hm1.out ?_)
    go_loop [39] (fun ii => ii = .int .i64 0) (fun _ => 0)
    case atStart => rfl
    case round =>
      subst hrel
      go_wp2_with fail
      refine Hp.out.mono ?_
      rintro e w5 ⟨rfl, hk5, hb5⟩
      have c5 := hk5.c 22 (by omega) (by omega)
      have f5 := hk5.f 22
      have hk6 := hk5.set 22 (by omega) (by omega) (.map (some mb))
      have e6 : upd (upd A 22 (.map (some (w.heap.size + 1)))) 22 (.map (some mb)) = A := by
        funext j; unfold upd; split <;> simp_all [HA.out.2.2]
      rw [e6] at hk6
      have Hk6 := Lib.hid hk6
      clear hk6 hk5 e6
      go_wp2_with fail
      go_end0
      exact ⟨rfl, Hk6.out, only_set (hB1.trans hb5) 22 _⟩
end Go.Proofs.YtfpbhmikogdpgaaGreatDoor
