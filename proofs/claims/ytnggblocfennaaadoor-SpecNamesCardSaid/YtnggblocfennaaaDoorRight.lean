/- types.Valid, types.Open, types.Concrete: each node of a type is as it has to be. -/
import Derived.Test.YtnggblocfennaaaDoorEach
import Derived.Test.YtnggblocfennaaaDoorNode
import Derived.Test.YtnggblocfennaaaDoorShaped
namespace Go.Proofs.YtnggblocfennaaaDoor
open Go.RowKit

def rightStep (vars : Bool) (t : Ty) (σ : Int) : Bool × Int := (decide (0 ≤ wrap64 (σ - 1)) && t.okNode vars, wrap64 (σ - 1))
def RightI (vars : Bool) (lb ob : Nat) (σ : Int) (w : World) : Prop :=
  w.cell? ⟨lb, 0, none⟩ = some (.int .i64 σ) ∧ w.frozen? ⟨lb, 0, none⟩ = false ∧ w.cell? ⟨ob, 0, none⟩ = some (.bool vars)

theorem RightI.later {vars : Bool} {lb ob : Nat} {σ : Int} {w w' : World} (h : RightI vars lb ob σ w) (hb : Below w.heap.size w w') : RightI vars lb ob σ w' :=
  ⟨cells_later hb _ _ h.1, frozen_later hb h.1 h.2.1, cells_later hb _ _ h.2.2⟩

set_option maxHeartbeats 1000000 in
theorem right1_any (vars : Bool) (lb ob B : Nat) (hne : ob ≠ lb) (hB : B ≤ lb) (t : Ty) (σ : Int) (w : World) (cs : Array Value) (hI : RightI vars lb ob σ w) (hT : Ty.Under B w t cs) (_hBw : B ≤ w.heap.size) :
    Calls Tryd.prog 26 (#[.agg cs] ++ #[.pointer (some ⟨lb, 0, none⟩), .pointer (some ⟨ob, 0, none⟩)]) w
      fun e w' => e = .returned (.bool (rightStep vars t σ).1) ∧ RightI vars lb ob (rightStep vars t σ).2 w' ∧ Kept (fun k => k = lb) w w' := by
  show Calls _ _ #[.agg cs, .pointer (some ⟨lb, 0, none⟩), .pointer (some ⟨ob, 0, none⟩)] _ _
  obtain ⟨hl, hf, ho⟩ := hI
  have hT1 := hT
  cases hT with
  | mk k s n l a b off cap C ha hlen hs hk hn hc hi =>
  unfold nodeCells at hT1 ⊢
  have hlb := lt_of_cell hl
  have hob := lt_of_cell ho
  simp at hlb hob
  have hl' : ∀ o, (w.alloc o).cell? ⟨lb, 0, none⟩ = some (.int .i64 σ) := fun o => cells_later (below1 w o) _ _ hl
  have hf' : ∀ o, (w.alloc o).frozen? ⟨lb, 0, none⟩ = false := fun o => frozen_later (below1 w o) hl hf
  have ho' : ∀ o, (w.alloc o).cell? ⟨ob, 0, none⟩ = some (.bool vars) := fun o => cells_later (below1 w o) _ _ ho
  have hW : ∀ o v, (Kept (fun k => k = lb) w ((w.setCell ⟨lb, 0, none⟩ v).alloc o)) := fun o v => (Kept.setCell (M := fun k => k = lb) (Kept.refl _ w) (p := ⟨lb, 0, none⟩) (.inl rfl) v).alloc o
  have hI2 : ∀ o v, RightI vars lb ob v ((w.setCell ⟨lb, 0, none⟩ (.int .i64 v)).alloc o) := fun o v =>
    RightI.later ⟨cell_set hl _, frozen_set hf _, cell_set_other ho hne _⟩ (below1 _ o)
  have hTu : ∀ o v, Ty.In ((w.setCell ⟨lb, 0, none⟩ v).alloc o) (.mk k s n l) #[.int .i64 k, .string s, .int .i64 n, .slice a l.length cap] := fun o v =>
    (hT1.later (((Below.refl B w).setCell (p := ⟨lb, 0, none⟩) hB v).alloc (by rw [size_set]; exact _hBw) o) (Nat.le_refl _)).isin
  by_cases hpos : 0 ≤ wrap64 (σ - 1)
  · have e1 : rightStep vars (.mk k s n l) σ = ((Ty.mk k s n l).okNode vars, wrap64 (σ - 1)) := by simp [rightStep, hpos]
    rw [e1]
    have hs0 := fun o v => shaped_all vars _ _ _ (hTu o v)
    generalize (Ty.mk k s n l).okNode vars = R at hs0 ⊢
    have Hs := Lib.hid hs0
    clear hs0
    go_enter Tryd.func26, Tryd.ntmps26
    go_wp2_with fail
    refine (Hs.out _ _).mono ?_
    rintro e w1 ⟨rfl, hb1⟩
    go_wp2_with fail
    go_ret
    exact ⟨rfl, (hI2 _ _).later hb1, (hW _ _).trans (.of_below hb1)⟩
  · have e1 : rightStep vars (.mk k s n l) σ = (false, wrap64 (σ - 1)) := by simp [rightStep, hpos]
    rw [e1]
    go_enter Tryd.func26, Tryd.ntmps26
    go_wp2_with fail
    go_ret
    exact ⟨rfl, hI2 _ _, hW _ _⟩

theorem right1_fn (args : Array Value) (w : World) : (callFunc 26 args).run Tryd.prog w = .ok (.enter 26 args) w := by kernel_rfl

set_option maxHeartbeats 1000000 in
theorem right_any (vars : Bool) (T : Ty) (w : World) (cs : Array Value) (hin : Ty.In w T cs) :
    Calls Tryd.prog 16 #[.agg cs, .bool vars] w fun e w' => e = .returned (.bool (visit (rightStep vars) T 40).1) ∧ Below w.heap.size w w' := by
  have hr := fun w1 => each_any (rightStep vars) (RightI vars (w.heap.size + 1 + 1) (w.heap.size + 1)) (fun k => k = w.heap.size + 1 + 1) w.heap.size 26
    #[.pointer (some ⟨w.heap.size + 1 + 1, 0, none⟩), .pointer (some ⟨w.heap.size + 1, 0, none⟩)] (fun k hk => by omega) (fun _ _ _ h hb => h.later hb) (fun _ _ h k hk => by subst hk; exact lt_of_cell h.1) right1_fn
    (fun t σ w2 cs2 h1 h2 h3 => right1_any vars _ _ w.heap.size (by omega) (by omega) t σ w2 cs2 h1 h2 h3) T 40 w1 cs
  generalize visit (rightStep vars) T 40 = V at hr ⊢
  have Hr := Lib.hid hr
  clear hr
  have hu := hin.under_size
  obtain ⟨k0, s0, n0, a0, len0, cap0, rfl⟩ : ∃ k s n a len cap, cs = nodeCells k s n a len cap := by cases hin with | mk k s n l a b off cp => exact ⟨k, s, n, a, l.length, cp, rfl⟩
  unfold nodeCells at *
  have HT := Lib.hid hu
  clear hu hin
  go_enter Tryd.func16, Tryd.ntmps16
  go_wp2_with fail
  refine (Hr.out _ ?h1 ?h2 ?h3).mono ?_
  case h1 => exact ⟨new_cell _ _ _ _ _ (by simp), new_frozen _ _ _ _ _ (by simp), old_cell (new_cell _ _ _ _ _ (by simp)) _⟩
  case h2 => exact HT.out.later (below3 w _ _ _) (Nat.le_refl _)
  case h3 => simp; omega
  rintro e w1 ⟨rfl, hI1, hk1⟩
  go_wp2_with fail
  go_ret
  exact ⟨rfl, (below3 w _ _ _).trans (hk1.below (by simp; omega) (fun k hk => by omega))⟩

set_option maxHeartbeats 1000000 in
theorem valid_any (T : Ty) (w : World) (cs : Array Value) (hin : Ty.In w T cs) :
    Calls Tryd.prog 9 #[.agg cs] w fun e w' => e = .returned (.bool (visit (rightStep false) T 40).1) ∧ Below w.heap.size w w' := by
  have hr := fun o => right_any false T (w.alloc o) cs (hin.under (below1 w o))
  generalize visit (rightStep false) T 40 = V at hr ⊢
  have Hr := Lib.hid hr
  clear hr
  obtain ⟨k0, s0, n0, a0, len0, cap0, rfl⟩ : ∃ k s n a len cap, cs = nodeCells k s n a len cap := by cases hin with | mk k s n l a b off cp => exact ⟨k, s, n, a, l.length, cp, rfl⟩
  unfold nodeCells at *
  clear hin
  go_enter Tryd.func9, Tryd.ntmps9
  go_wp2_with fail
  refine (Hr.out _).mono ?_
  rintro e w1 ⟨rfl, hb1⟩
  go_wp2_with fail
  go_ret
  exact ⟨rfl, (below1 w _).trans (hb1.mono (by simp))⟩

set_option maxHeartbeats 1000000 in
theorem open_any (T : Ty) (w : World) (cs : Array Value) (hin : Ty.In w T cs) :
    Calls Tryd.prog 19 #[.agg cs] w fun e w' => e = .returned (.bool (visit (rightStep true) T 40).1) ∧ Below w.heap.size w w' := by
  have hr := fun o => right_any true T (w.alloc o) cs (hin.under (below1 w o))
  generalize visit (rightStep true) T 40 = V at hr ⊢
  have Hr := Lib.hid hr
  clear hr
  obtain ⟨k0, s0, n0, a0, len0, cap0, rfl⟩ : ∃ k s n a len cap, cs = nodeCells k s n a len cap := by cases hin with | mk k s n l a b off cp => exact ⟨k, s, n, a, l.length, cp, rfl⟩
  unfold nodeCells at *
  clear hin
  go_enter Tryd.func19, Tryd.ntmps19
  go_wp2_with fail
  refine (Hr.out _).mono ?_
  rintro e w1 ⟨rfl, hb1⟩
  go_wp2_with fail
  go_ret
  exact ⟨rfl, (below1 w _).trans (hb1.mono (by simp))⟩

def concStep (t : Ty) (σ : Unit) : Bool × Unit := (t.kind != 7 && t.kind != 8 && t.kind != 12, σ)

set_option maxHeartbeats 1000000 in
theorem conc1_any (t : Ty) (w : World) (cs : Array Value) (hin : Ty.In w t cs) :
    Calls Tryd.prog 18 #[.agg cs] w fun e w' => e = .returned (.bool (concStep t ()).1) ∧ Below w.heap.size w w' := by
  cases hin with
  | mk k s n l a b off cp C =>
  have hspec : (concStep (.mk k s n l) ()).1 = (k != 7 && k != 8 && k != 12) := rfl
  generalize (concStep (.mk k s n l) ()).1 = R at hspec ⊢
  have Hspec := Lib.hid hspec
  clear hspec
  unfold nodeCells
  by_cases h7 : k = 7
  · subst h7
    go_enter Tryd.func18, Tryd.ntmps18
    go_wp2_with fail
    go_ret
    exact ⟨ret_bool (by rw [Hspec.out]; rfl), below1 _ _⟩
  by_cases h8 : k = 8
  · subst h8
    go_enter Tryd.func18, Tryd.ntmps18
    go_wp2_with fail
    go_ret
    exact ⟨ret_bool (by rw [Hspec.out]; rfl), below1 _ _⟩
  have e7 : (k != 7) = true := by simpa using h7
  have e8 : (k != 8) = true := by simpa using h8
  go_enter Tryd.func18, Tryd.ntmps18
  go_wp2_with fail
  go_ret
  exact ⟨ret_bool (by rw [Hspec.out, e7, e8]; rfl), below1 _ _⟩

theorem conc1_fn (args : Array Value) (w : World) : (callFunc 18 args).run Tryd.prog w = .ok (.enter 18 args) w := by kernel_rfl

set_option maxHeartbeats 1000000 in
theorem concrete_any (T : Ty) (w : World) (cs : Array Value) (hin : Ty.In w T cs) :
    Calls Tryd.prog 10 #[.agg cs] w fun e w' => e = .returned (.bool (visit concStep T ()).1) ∧ Below w.heap.size w w' := by
  have hr := fun o => each_any concStep (fun _ _ => True) (fun _ => False) w.heap.size 18 #[] (fun k hk => hk.elim) (fun _ _ _ _ _ => trivial) (fun _ _ _ k hk => hk.elim) conc1_fn
    (fun t σ w2 cs2 h1 h2 h3 => (conc1_any t w2 cs2 h2.isin).mono fun e w' h => ⟨h.1, trivial, .of_below h.2⟩) T () (w.alloc o) cs trivial (hin.under_size.later (below1 w o) (Nat.le_refl _)) (by simp)
  generalize visit concStep T () = V at hr ⊢
  have Hr := Lib.hid hr
  clear hr
  obtain ⟨k0, s0, n0, a0, len0, cap0, rfl⟩ : ∃ k s n a len cap, cs = nodeCells k s n a len cap := by cases hin with | mk k s n l a b off cp => exact ⟨k, s, n, a, l.length, cp, rfl⟩
  unfold nodeCells at *
  clear hin
  go_enter Tryd.func10, Tryd.ntmps10
  go_wp2_with fail
  refine (Hr.out _).mono ?_
  rintro e w1 ⟨rfl, _, hk1⟩
  go_wp2_with fail
  go_ret
  exact ⟨rfl, (below1 w _).trans (hk1.below (by simp) (fun k hk => hk.elim))⟩
end Go.Proofs.YtnggblocfennaaaDoor
