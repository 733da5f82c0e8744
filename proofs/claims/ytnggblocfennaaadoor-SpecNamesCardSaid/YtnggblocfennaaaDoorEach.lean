/- types.each: it calls a function for the nodes of a type until it answers false. -/
import Derived.Test.YtnggblocfennaaaDoorKept
import Derived.Test.YtnggblocfennaaaDoorChars
import Derived.Laws.EntriesVeiled
namespace Go.Proofs.YtnggblocfennaaaDoor
open Go.RowKit

mutual
def visit {S : Type} (step : Ty → S → Bool × S) : Ty → S → Bool × S
  | .mk k s n l, σ => if (step (.mk k s n l) σ).1 then visitL step l (step (.mk k s n l) σ).2 else (false, (step (.mk k s n l) σ).2)
def visitL {S : Type} (step : Ty → S → Bool × S) : List Ty → S → Bool × S
  | [], σ => (true, σ)
  | t :: ts, σ => if (visit step t σ).1 then visitL step ts (visit step t σ).2 else (false, (visit step t σ).2)
end

set_option maxHeartbeats 1000000 in
theorem each1_any {S : Type} (step : Ty → S → Bool × S) (I : S → World → Prop) (M : Nat → Prop) (B : Nat) (fn : FuncId) (cap : Array Value) (hM : ∀ k, M k → B ≤ k)
    (hI : ∀ σ w w', I σ w → Below w.heap.size w w' → I σ w') (hlt : ∀ σ w, I σ w → ∀ k, M k → k < w.heap.size)
    (hfn : ∀ (args : Array Value) (w : World), (callFunc fn args).run Tryd.prog w = .ok (.enter fn args) w)
    (hF : ∀ (t : Ty) (σ : S) (w : World) (cs : Array Value), I σ w → Ty.Under B w t cs → B ≤ w.heap.size → Calls Tryd.prog fn (#[.agg cs] ++ cap) w fun e w' => e = .returned (.bool (step t σ).1) ∧ I (step t σ).2 w' ∧ Kept M w w')
    (p1 p2 : Addr) (m1 : ¬ M p1.block) (m2 : ¬ M p2.block) (T : Ty) : ∀ (σ : S) (w : World) (cs : Array Value), I σ w → Ty.Under B w T cs → B ≤ w.heap.size →
    w.cell? p1 = some (.func (.func fn) #[] cap) → w.cell? p2 = some (.func (.func 28) #[] #[.pointer (some p1), .pointer (some p2)]) →
    Calls Tryd.prog 28 #[.agg cs, .pointer (some p1), .pointer (some p2)] w fun e w' => e = .returned (.bool (visit step T σ).1) ∧ I (visit step T σ).2 w' ∧ Kept M w w' := by
  induction T using Ty.ind with
  | h k s n l ih =>
    intro σ w cs hσ hT hB hp1 hp2
    have hT0 := hT
    cases hT with
    | mk _ _ _ _ a b off cp C ha hlen hs hk hn hc hi =>
    unfold maxLen at hlen
    unfold nodeCells at hT0 ⊢
    have hM' := hlt σ w hσ
    have hp1' : ∀ o, (w.alloc o).cell? p1 = some (.func (.func fn) #[] cap) := fun o => cells_later (below1 w o) _ _ hp1
    have hσ' : ∀ o, I σ (w.alloc o) := fun o => hI _ _ _ hσ (below1 w o)
    have hT' : ∀ o, Ty.Under B (w.alloc o) (.mk k s n l) #[.int .i64 k, .string s, .int .i64 n, .slice a l.length cp] := fun o => hT0.later ((below1 w o).mono hB) (Nat.le_refl _)
    have hv : visit step (.mk k s n l) σ = if (step (.mk k s n l) σ).1 then visitL step l (step (.mk k s n l) σ).2 else (false, (step (.mk k s n l) σ).2) := by rw [visit]
    have Hv := Lib.hid hv
    clear hv
    generalize hst : step (.mk k s n l) σ = r at Hv
    have hF0 := fun o => hF (.mk k s n l) σ (w.alloc o) _ (hσ' o) (hT' o) (by simp; omega)
    rw [hst] at hF0
    have HF0 := Lib.hid hF0
    clear hF0
    have hv2 := Hv.out
    generalize hvis : visit step (.mk k s n l) σ = V at hv2 ⊢
    clear Hv hvis
    have Hv := Lib.hid hv2
    clear hv2 hst
    obtain ⟨r1, σ1⟩ := r
    cases r1 with
    | false =>
      go_enter Tryd.func28, Tryd.ntmps28
      go_wp2_with fail
      refine (HF0.out _).mono ?_
      rintro e w1 ⟨rfl, hI1, hk1⟩
      go_wp2_with fail
      go_ret
      have e1 : V = (false, σ1) := Hv.out
      exact ⟨ret_bool (by rw [e1]), by rw [e1]; exact hI1, ((Kept.refl M w).alloc _).trans hk1⟩
    | true =>
      have e1 : V = visitL step l σ1 := Hv.out
      have He := Lib.hid e1
      clear e1 Hv
      go_enter Tryd.func28, Tryd.ntmps28
      go_wp2_with fail
      refine (HF0.out _).mono ?_
      rintro e w1 ⟨rfl, hI1, hk1⟩
      have hbox : w1.cell? ⟨w.heap.size, 3, none⟩ = some (.slice a l.length cp) := hk1.cell (fun h => by have := hM' _ h; simp at this) (by simp)
      have hz1 : w.heap.size + 1 ≤ w1.heap.size := by have := hk1.size; simp at this; exact this
      have K1 : Kept M w w1 := ((Kept.refl M w).alloc _).trans hk1
      go_wp2_with fail
      go_loopw [14] (fun ii wr => ∃ (i : Nat) (σi : S), i ≤ l.length ∧ ii = .int .i64 i ∧ I σi wr ∧ Kept M w1 wr ∧ visitL step l σ1 = visitL step (l.drop i) σi) (fun ii _ => l.length - (intOf ii).toNat)
      case atStart => exact ⟨0, σ1, Nat.zero_le _, rfl, hI1, Kept.refl _ _, by rw [List.drop_zero]⟩
      case round =>
        obtain ⟨i, σi, hil, rfl, hIi, hki, heq⟩ := hrel
        have Heq := Lib.hid heq
        clear heq
        have Ki : Kept M w wr := K1.trans hki
        have hzi : w.heap.size + 1 ≤ wr.heap.size := by have := hki.size; omega
        by_cases hlt' : i < l.length
        · have hab := (ha (by omega)).1
          subst hab
          have hbB := (ha (by omega)).2
          obtain ⟨c0, c1, c2, c3⟩ := four (fun i h j hj => Ki.cell (fun h' => by have := hM _ h'; simp at this; omega) (hc i h j hj)) i hlt'
          have hu : ∀ o, Ty.Under B (wr.alloc o) l[i] #[C i 0, C i 1, C i 2, C i 3] := fun o => (hi i hlt').later ((Ki.below hB hM).trans ((below1 wr o).mono (by omega))) (Nat.le_refl _)
          obtain ⟨k', s', n', a', len', cap', e0, e1, e2, e3⟩ := Ty.cells4 (hi i hlt').isin
          rw [e0] at c0
          rw [e1] at c1
          rw [e2] at c2
          rw [e3] at c3
          simp only [e0, e1, e2, e3] at hu
          clear e0 e1 e2 e3
          have q1 : ∀ o, (wr.alloc o).cell? p1 = some (.func (.func fn) #[] cap) := fun o => cells_later (below1 wr o) _ _ (Ki.cell m1 hp1)
          have q2 : ∀ o, (wr.alloc o).cell? p2 = some (.func (.func 28) #[] #[.pointer (some p1), .pointer (some p2)]) := fun o => cells_later (below1 wr o) _ _ (Ki.cell m2 hp2)
          have hIw : ∀ o, I σi (wr.alloc o) := fun o => hI _ _ _ hIi (below1 wr o)
          have hvl : visitL step (l.drop i) σi = if (visit step l[i] σi).1 then visitL step (l.drop (i + 1)) (visit step l[i] σi).2 else (false, (visit step l[i] σi).2) := by
            rw [List.drop_eq_getElem_cons hlt', visitL]
          have Hvl := Lib.hid hvl
          clear hvl
          have hr := fun o => ih l[i] (List.getElem_mem hlt') σi (wr.alloc o) _ (hIw o) (hu o) (by simp; omega) (q1 o) (q2 o)
          generalize visit step l[i] σi = V' at hr Hvl
          have Hr := Lib.hid hr
          clear hr
          obtain ⟨v1, σ2⟩ := V'
          cases v1 with
          | false =>
            go_wp2_with fail
            refine (Hr.out _).mono ?_
            rintro e w2 ⟨rfl, hI2, hk2⟩
            go_wp2_with fail
            go_ret
            have e1 : V = (false, σ2) := by rw [He.out, Heq.out, Hvl.out]; rfl
            exact ⟨ret_bool (by rw [e1]), by rw [e1]; exact hI2, (Ki.alloc _).trans hk2⟩
          | true =>
            go_wp2_with fail
            refine (Hr.out _).mono ?_
            rintro e w2 ⟨rfl, hI2, hk2⟩
            go_wp2_with fail
            go_roundw
            case rel => exact ⟨i + 1, σ2, by omega, by go_num, hI2, (hki.alloc _).trans hk2, by rw [Heq.out, Hvl.out]; rfl⟩
            case measure => simp [intOf]; omega
        · go_wp2_with fail
          go_ret
          have e1 : V = (true, σi) := by rw [He.out, Heq.out, List.drop_eq_nil_of_le (by omega)]; rfl
          exact ⟨ret_bool (by rw [e1]), by rw [e1]; exact hIi, Ki⟩

set_option maxHeartbeats 1000000 in
theorem each_any {S : Type} (step : Ty → S → Bool × S) (I : S → World → Prop) (M : Nat → Prop) (B : Nat) (fn : FuncId) (cap : Array Value) (hM : ∀ k, M k → B ≤ k)
    (hI : ∀ σ w w', I σ w → Below w.heap.size w w' → I σ w') (hlt : ∀ σ w, I σ w → ∀ k, M k → k < w.heap.size)
    (hfn : ∀ (args : Array Value) (w : World), (callFunc fn args).run Tryd.prog w = .ok (.enter fn args) w)
    (hF : ∀ (t : Ty) (σ : S) (w : World) (cs : Array Value), I σ w → Ty.Under B w t cs → B ≤ w.heap.size → Calls Tryd.prog fn (#[.agg cs] ++ cap) w fun e w' => e = .returned (.bool (step t σ).1) ∧ I (step t σ).2 w' ∧ Kept M w w')
    (T : Ty) (σ : S) (w : World) (cs : Array Value) (hσ : I σ w) (hT : Ty.Under B w T cs) (hB : B ≤ w.heap.size) :
    Calls Tryd.prog 17 #[.agg cs, .func (.func fn) #[] cap] w fun e w' => e = .returned (.bool (visit step T σ).1) ∧ I (visit step T σ).2 w' ∧ Kept M w w' := by
  have hM' := hlt σ w hσ
  have hr := each1_any step I M B fn cap hM hI hlt hfn hF ⟨w.heap.size + 1, 0, none⟩ ⟨w.heap.size + 1 + 1, 0, none⟩ (fun h => by have := hM' _ h; simp at this; omega) (fun h => by have := hM' _ h; simp at this; omega) T σ
  generalize visit step T σ = V at hr ⊢
  have Hr := Lib.hid hr
  clear hr
  have HF := Lib.hid hF
  have HI := Lib.hid hI
  clear hF hI
  obtain ⟨k0, s0, n0, a0, len0, cap0, rfl⟩ : ∃ k s n a len cap, cs = nodeCells k s n a len cap := by cases hT with | mk k s n l a b off cp => exact ⟨k, s, n, a, l.length, cp, rfl⟩
  unfold nodeCells at *
  have HT := Lib.hid hT
  clear hT
  go_enter Tryd.func17, Tryd.ntmps17
  go_wp2_with fail
  refine (Hr.out _ _ ?h1 ?h2 ?h3 ?h4 ?h5).mono ?_
  case h1 => exact HI.out _ _ _ hσ (below3 _ _ _ _)
  case h2 => exact HT.out.later ((below3 w _ _ _).mono hB) (Nat.le_refl _)
  case h3 => simp; omega
  case h4 => exact old_cell (new_cell _ _ _ _ _ (by simp)) _
  case h5 => exact new_cell _ _ _ _ _ (by simp)
  rintro e w1 ⟨rfl, hI1, hk1⟩
  go_wp2_with fail
  go_ret
  exact ⟨rfl, hI1, (Kept.of_below (below3 _ _ _ _)).trans hk1⟩
end Go.Proofs.YtnggblocfennaaaDoor
