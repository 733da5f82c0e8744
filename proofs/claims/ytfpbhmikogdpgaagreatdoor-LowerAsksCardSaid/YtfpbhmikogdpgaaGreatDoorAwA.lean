/- lower's builder at the empty function: the tables of statements and expressions; the clones of empty tables. -/
import Derived.Test.YtfpbhmikogdpgaaGreatDoorAw9
import Derived.WideMake
import Derived.Deep.CutRange
namespace Go.Proofs.YtfpbhmikogdpgaaGreatDoor
open Go.RowKit

set_option maxRecDepth 100000 in
set_option maxHeartbeats 1000000 in
theorem cloneN_nil (w : World) : Calls Tryz.prog 40 #[.slice none 0 0] w fun e w' => e = .returned (.slice none 0 0) ∧ w = w' := by
  have hnil : ∀ w, (binOp BinOp.eql 22 (.slice none 0 0) (.slice none 0 0)).run Tryz.prog w = .ok (.bool true) w := fun _ => by kernel_rfl
  go_enter Tryz.func40, Tryz.ntmps40
  go_wp2_with fail
  go_ret
  exact ⟨rfl, rfl⟩
set_option maxRecDepth 100000 in
set_option maxHeartbeats 1000000 in
theorem cloneP_nil (w : World) : Calls Tryz.prog 41 #[.slice none 0 0] w fun e w' => e = .returned (.slice none 0 0) ∧ w = w' := by
  have hnil : ∀ w, (binOp BinOp.eql 23 (.slice none 0 0) (.slice none 0 0)).run Tryz.prog w = .ok (.bool true) w := fun _ => by kernel_rfl
  go_enter Tryz.func41, Tryz.ntmps41
  go_wp2_with fail
  go_ret
  exact ⟨rfl, rfl⟩
set_option maxRecDepth 100000 in
set_option maxHeartbeats 1000000 in
theorem cloneC_nil (w : World) : Calls Tryz.prog 42 #[.slice none 0 0] w fun e w' => e = .returned (.slice none 0 0) ∧ w = w' := by
  have hnil : ∀ w, (binOp BinOp.eql 24 (.slice none 0 0) (.slice none 0 0)).run Tryz.prog w = .ok (.bool true) w := fun _ => by kernel_rfl
  go_enter Tryz.func42, Tryz.ntmps42
  go_wp2_with fail
  go_ret
  exact ⟨rfl, rfl⟩

set_option maxRecDepth 100000 in
set_option maxHeartbeats 1000000 in
theorem tables_unit (fb : Nat) (w : World) : Calls Tryz.prog 23 #[.agg (modC fb)] w fun e w' => e = .returned (.agg #[.slice none 0 0, .slice none 0 0, .slice none 0 0, .slice none 0 0]) ∧ Below w.heap.size w w' := by
  unfold modC
  go_enter Tryz.func23, Tryz.ntmps23
  go_wp2_with fail
  have q1 := fun w => (cloneN_nil w).mono fun e w' h => (⟨h.1, h.2.symm⟩ : e = .returned (.slice none 0 0) ∧ w' = w)
  have q2 := fun w => (cloneP_nil w).mono fun e w' h => (⟨h.1, h.2.symm⟩ : e = .returned (.slice none 0 0) ∧ w' = w)
  have q3 := fun w => (cloneC_nil w).mono fun e w' h => (⟨h.1, h.2.symm⟩ : e = .returned (.slice none 0 0) ∧ w' = w)
  go_region_held3 (fun wx => wx.cell? ⟨w.heap.size, 0, none⟩ = some (.slice none 0 0) ∧ wx.cell? ⟨w.heap.size, 1, none⟩ = some (.slice none 0 0) ∧ wx.cell? ⟨w.heap.size, 2, none⟩ = some (.slice none 0 0))
    (first | go_keep | (refine ⟨?_, ?_, ?_⟩ <;> simp))
    (first
      | (go_at_call 40; refine (cloneN_nil _).mono ?_; rintro e w' ⟨rfl, rfl⟩)
      | (go_at_call 41; refine (cloneP_nil _).mono ?_; rintro e w' ⟨rfl, rfl⟩)
      | (go_at_call 42; refine (cloneC_nil _).mono ?_; rintro e w' ⟨rfl, rfl⟩))
  go_wp2_with fail
  all_goals (refine bodyPost_ret (v := .agg #[.slice none 0 0, .slice none 0 0, .slice none 0 0, .slice none 0 0]) (by simp [results, Tryz.results23, go_sem]) rfl ⟨rfl, (below2 w _ _).drew⟩)

/-- block M is a map whose keys are the numbers ks -/
def KeysAt (M : Nat) (ks : List Int) (w : World) : Prop := ∃ es clk, w.heap[M]? = some (.map es clk) ∧ es.toList.map (fun e => e.key) = ks.map (fun k => Value.int .i64 k)

theorem find_none (n : Int) : ∀ (l : List MapEntry) (j : Nat) (ks : List Int), l.map (fun e => e.key) = ks.map (fun k => Value.int .i64 k) → n ∉ ks → Instr.findNow (.int .i64) (.int .i64 n) l j = some none := by
  intro l
  induction l with
  | nil => intro j ks _ _; rfl
  | cons e l ih =>
    intro j ks he hn
    cases ks with
    | nil => simp at he
    | cons k ks =>
      simp only [List.map_cons, List.cons.injEq] at he
      have hne : n ≠ k := fun h => hn (by rw [h]; exact .head _)
      have hs : Instr.sameNow (.int .i64) (.int .i64 n) e.key = some false := by
        rw [he.1]; simp [Instr.sameNow, hne]
      rw [Instr.findNow, hs]
      exact ih (j + 1) ks he.2 (fun h => hn (.tail _ h))

theorem insert_at (T e : TypeId) (hT : Tryz.prog.underlying T = some (.map 3 e)) (M : Nat) (ks : List Int) (w : World) (n : Int) (v : Value) (h : KeysAt M ks w) (hn : n ∉ ks) :
    ∃ w'', (Instr.mapUpdate T (.map (some M)) (.int .i64 n) v).run Tryz.prog w = .ok () w'' ∧ KeysAt M (ks ++ [n]) w'' ∧ (∀ B, B ≤ M → Below B w w'') := by
  obtain ⟨es, clk, hM, hk⟩ := h
  have hno := find_none n es.toList 0 ks hk hn
  have hc : (Instr.checkKey false 10000 3 (.int .i64 n)).run Tryz.prog w = .ok () w := MapKept.run_checkKey (k := .int .i64 n) Tryz.underlying3 (by simp [MapKept.IsKey]) false 9999
  refine ⟨{ w with heap := w.heap.setIfInBounds M (.map (es.push { key := .int .i64 n, val := v, born := clk }) (clk + 1)) }, ?_, ⟨es.push { key := .int .i64 n, val := v, born := clk }, clk + 1, ?_, ?_⟩, ?_⟩
  · simp [Instr.mapUpdate, run_underlying hT, MapKept.run_getObj_map hM, hc, MapKept.run_findKey Tryz.underlying3 hno, MapKept.run_setObj_map _ hM, Result.andThen]
  · have := (Array.getElem?_eq_some_iff.1 hM).1
    simp [Array.getElem?_setIfInBounds, this]
  · simp [hk]
  · intro B hB
    refine ⟨rfl, rfl, rfl, by simp, fun k hk => ?_⟩
    show (w.heap.setIfInBounds M _)[k]? = _
    rw [Array.getElem?_setIfInBounds, if_neg (by omega)]

theorem wpList_insert_at {ops : Array Oper} {rest : List Oper} {op : Oper} {a : Act} {w : World} {Q : Exit → Act → World → Prop} (hgd : op.guard = none) (T : TypeId) (m k x : Operand) (ho : op.op = .insert T m k x)
    (e : TypeId) (hT : Tryz.prog.underlying T = some (.map 3 e)) (M : Nat) (n : Int) (v : Value) (hm : a.eval m = .map (some M)) (hk : a.eval k = .int .i64 n) (hv : a.eval x = v)
    (ks : List Int) (h0 : KeysAt M ks w) (hn : n ∉ ks) (h : ∀ w'', KeysAt M (ks ++ [n]) w'' → (∀ B, B ≤ M → Below B w w'') → wpList Tryz.prog ops Q rest (a.put op.dst undef) w'') : wpList Tryz.prog ops Q (op :: rest) a w :=
  wpList_plain hgd fun _ hK => by
    obtain ⟨w'', h1, h2, h3⟩ := insert_at T e hT M ks w n v h0 hn
    unfold Oper.wp execOp
    simp only [ho, hm, hk, hv, Sem.run_bind, Sem.run_pure, Result.andThen_ok, h1]
    exact hK _ _ (h w'' h2 h3)

/-- the map that is being filled, and two cells of an older block -/
structure EmIn (bb M : Nat) (ks : List Int) (B : Nat) (w0 w : World) : Prop where
  keys : KeysAt M ks w
  hB : B ≤ M
  hbb : bb < B
  hb : Below B w0 w

theorem wpList_insert_em {ops : Array Oper} {rest : List Oper} {op : Oper} {a : Act} {w : World} {Q : Exit → Act → World → Prop} (bb : Nat) (v25 v26 : Value) (hgd : op.guard = none) (T : TypeId) (m k x : Operand) (ho : op.op = .insert T m k x)
    (e : TypeId) (hT : Tryz.prog.underlying T = some (.map 3 e)) (M : Nat) (n : Int) (v : Value) (hm : a.eval m = .map (some M)) (hk : a.eval k = .int .i64 n) (hv : a.eval x = v)
    (ks : List Int) (B : Nat) (w0 : World) (h0 : EmIn bb M ks B w0 w) (hn : n ∉ ks) (c25 : w.cell? ⟨bb, 25, none⟩ = some v25) (c26 : w.cell? ⟨bb, 26, none⟩ = some v26) (f25 : w.frozen? ⟨bb, 25, none⟩ = false) (f26 : w.frozen? ⟨bb, 26, none⟩ = false)
    (h : ∀ w'', EmIn bb M (ks ++ [n]) B w0 w'' → w''.cell? ⟨bb, 25, none⟩ = some v25 → w''.cell? ⟨bb, 26, none⟩ = some v26 → w''.frozen? ⟨bb, 25, none⟩ = false → w''.frozen? ⟨bb, 26, none⟩ = false → wpList Tryz.prog ops Q rest (a.put op.dst undef) w'') : wpList Tryz.prog ops Q (op :: rest) a w :=
  wpList_insert_at hgd T m k x ho e hT M n v hm hk hv ks h0.keys hn fun w'' hk2 hb2 =>
    have hb3 := hb2 B h0.hB
    h w'' ⟨hk2, h0.hB, h0.hbb, h0.hb.trans hb3⟩ (by rw [hb3.cell (by exact h0.hbb)]; exact c25) (by rw [hb3.cell (by exact h0.hbb)]; exact c26) (by rw [hb3.frozen (by exact h0.hbb)]; exact f25) (by rw [hb3.frozen (by exact h0.hbb)]; exact f26)

theorem only_set {bb : Nat} {a w : World} (h : Kept (fun k => k = bb) a w) (j : Nat) (u : Value) : Kept (fun k => k = bb) a (w.setCell ⟨bb, j, none⟩ u) := h.setCell (p := ⟨bb, j, none⟩) (.inl rfl) u
set_option maxRecDepth 100000 in
set_option maxHeartbeats 2000000 in
theorem emitters_unit (bb : Nat) (w : World) (h25 : ∃ v, w.cell? ⟨bb, 25, none⟩ = some v) (h26 : ∃ v, w.cell? ⟨bb, 26, none⟩ = some v) (f25 : w.frozen? ⟨bb, 25, none⟩ = false) (f26 : w.frozen? ⟨bb, 26, none⟩ = false) :
    Calls Tryz.prog 61 #[.pointer (some ⟨bb, 0, none⟩)] w fun e w' => e = .returned (.tuple #[]) ∧ Kept (fun k => k = bb) w w' ∧ (∀ j, j < 25 → w'.cell? ⟨bb, j, none⟩ = w.cell? ⟨bb, j, none⟩) ∧ ∀ j, w'.frozen? ⟨bb, j, none⟩ = w.frozen? ⟨bb, j, none⟩ := by
  obtain ⟨v25, h25⟩ := h25
  obtain ⟨v26, h26⟩ := h26
  have hmm := @run_makeMap Tryz.prog
  have hmf : ∀ (fn : Fn) (first cap : Array Value) (w : World), (Instr.makeFunc fn first cap).run Tryz.prog w = .ok (.func fn first cap) w := fun _ _ _ _ => rfl
  go_enter Tryz.func61, Tryz.ntmps61
  have hlt := lt_of_cell h25
  simp at hlt
  have k0 : EmIn bb w.heap.size [] w.heap.size w (w.alloc (.map #[] 0)) := ⟨⟨#[], 0, heap_alloc_new w _, rfl⟩, Nat.le_refl _, hlt, below1 w _⟩
  have c25 := old_cell h25 (.map #[] 0)
  have c26 := old_cell h26 (.map #[] 0)
  have d25 := frozen_later (below1 w (.map #[] 0)) h25 f25
  have d26 := frozen_later (below1 w (.map #[] 0)) h26 f26
  go_upto_region 1 with (first | (with_reducible refine wpList_insert_em bb v25 v26 rfl 136 _ _ _ rfl _ Tryz.underlying136 w.heap.size _ _ rfl rfl rfl _ _ _ (by assumption) (by simp) (by assumption) (by assumption) (by assumption) (by assumption) ?_; intro w'' k1 c1 c2 d1 d2))
  have hb1 := k1.hb
  have e25 : (w''.setCell ⟨bb, 25, none⟩ (.map (some w.heap.size))).cell? ⟨bb, 25, none⟩ = some (.map (some w.heap.size)) := cell_set c1 _
  have e26 : (w''.setCell ⟨bb, 25, none⟩ (.map (some w.heap.size))).cell? ⟨bb, 26, none⟩ = some v26 := by rw [World.cell?_setCell_other _ _ _ _ (by simp)]; exact c2
  have g25 := frozen_set d1 (a := ⟨bb, 25, none⟩) (.map (some w.heap.size))
  have g26 := frozen_set d2 (a := ⟨bb, 25, none⟩) (.map (some w.heap.size))
  have hB2 : Kept (fun k => k = bb) w (w''.setCell ⟨bb, 25, none⟩ (.map (some w.heap.size))) ∧ (∀ j, j < 25 → (w''.setCell ⟨bb, 25, none⟩ (.map (some w.heap.size))).cell? ⟨bb, j, none⟩ = w.cell? ⟨bb, j, none⟩) ∧ ∀ j, (w''.setCell ⟨bb, 25, none⟩ (.map (some w.heap.size))).frozen? ⟨bb, j, none⟩ = w.frozen? ⟨bb, j, none⟩ := by
    refine ⟨only_set (Kept.of_below hb1) 25 _, fun j hj => ?_, fun j => ?_⟩
    · rw [World.cell?_setCell_other _ _ _ _ (by simp <;> omega), hb1.cell (by exact hlt)]
    · rw [World.frozen?_setCell, hb1.frozen (by exact hlt)]
  have HB2 := Lib.hid hB2
  clear hB2
  have hs2 : w.heap.size ≤ (w''.setCell ⟨bb, 25, none⟩ (.map (some w.heap.size))).heap.size := by rw [size_set]; exact hb1.size
  generalize (w''.setCell ⟨bb, 25, none⟩ (.map (some w.heap.size))) = W at e25 e26 g25 g26 HB2 hs2 ⊢
  have k0' : EmIn bb W.heap.size [] W.heap.size W (W.alloc (.map #[] 0)) := ⟨⟨#[], 0, heap_alloc_new W _, rfl⟩, Nat.le_refl _, by omega, below1 W _⟩
  have p25 := old_cell e25 (.map #[] 0)
  have p26 := old_cell e26 (.map #[] 0)
  have r25 := frozen_later (below1 W (.map #[] 0)) e25 g25
  have r26 := frozen_later (below1 W (.map #[] 0)) e26 g26
  clear h25 h26 f25 f26 k0 c25 c26 d25 d26
  go_wp2_with (first | (with_reducible refine wpList_insert_em bb (.map (some w.heap.size)) v26 rfl 137 _ _ _ rfl _ Tryz.underlying137 W.heap.size _ _ rfl rfl rfl _ _ _ (by assumption) (by simp) (by assumption) (by assumption) (by assumption) (by assumption) ?_; intro w3 k3 c3 c4 d3 d4))
  have hb3 := k3.hb
  go_end0
  obtain ⟨hK, hC, hF⟩ := HB2.out
  have hbW : bb < W.heap.size := by omega
  refine ⟨rfl, only_set (hK.trans (Kept.of_below hb3)) 26 _, fun j hj => ?_, fun j => ?_⟩
  · rw [World.cell?_setCell_other _ _ _ _ (by simp <;> omega), hb3.cell (by exact hbW), hC j hj]
  · rw [World.frozen?_setCell, hb3.frozen (by exact hbW), hF]
end Go.Proofs.YtfpbhmikogdpgaaGreatDoor
