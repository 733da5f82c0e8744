/- types.text.typ: a type's text, written to a Builder. -/
import Derived.Test.YtnggblocfennaaaDoorWords
import Derived.Test.YtnggblocfennaaaDoorKept
import Derived.Test.YtnggblocfennaaaDoorTlist
namespace Go.Proofs.YtnggblocfennaaaDoor
open Go.RowKit

theorem MapOf.skip {tab : List (Nat × Int × Value)} {listed : Array Bool} {l : List MapEntry} (h : MapOf tab listed l) {i : Nat} (hi : ∀ x ∈ tab, x.1 ≠ i) : MapOf tab (listed.setIfInBounds i true) l := by
  have hat : ∀ x ∈ tab, (listed.setIfInBounds i true).getD x.1 false = listed.getD x.1 false := by
    intro x hx
    simp [Array.getD_eq_getD_getElem?, Array.getElem?_setIfInBounds, (hi x hx).symm]
  exact ⟨fun e he => by obtain ⟨x, hx, hl, r⟩ := h.1 e he; exact ⟨x, hx, by rw [hat x hx]; exact hl, r⟩, fun x hx hl => h.2 x hx (by rw [← hat x hx]; exact hl)⟩

/-- the words of a node: an operation's number, the kind, the word -/
def wordTab (s : ByteArray) : List (Nat × Int × Value) :=
  [(1, 1, .string ⟨#[73, 110, 116]⟩), (2, 2, .string ⟨#[66, 111, 111, 108]⟩), (3, 3, .string ⟨#[84, 101, 120, 116]⟩), (4, 4, .string ⟨#[85, 110, 105, 116]⟩), (5, 5, .string ⟨#[65, 114, 114, 97, 121]⟩), (6, 11, .string ⟨#[87, 101, 97, 107]⟩),
   (9, 6, .string s), (13, 7, .string (⟨#[36]⟩ ++ s)), (17, 9, .string (⟨#[97, 110, 121, 32]⟩ ++ s)), (22, 12, .string (⟨#[63]⟩ ++ ⟨(Lib.decDigits 0).toArray⟩))]
theorem wordTab_keys (s : ByteArray) : ((wordTab s).map (·.2.1)).Nodup := by simp [wordTab]
theorem wordTab_ops (s : ByteArray) : ((wordTab s).map (·.1)).Nodup := by simp [wordTab]

def wordSpec (s : ByteArray) (bx M : Nat) : List (Nat × Nat × Value) :=
  [(0, 7, .map (some M)), (7, 8, .pointer (some ⟨bx, 1, none⟩)), (8, 9, .string s), (10, 10, .pointer (some ⟨bx, 1, none⟩)), (11, 11, .string s), (12, 12, .string (⟨#[36]⟩ ++ s)), (14, 13, .pointer (some ⟨bx, 1, none⟩)), (15, 14, .string s),
   (16, 15, .string (⟨#[97, 110, 121, 32]⟩ ++ s)), (18, 16, .pointer (some ⟨bx, 2, none⟩)), (19, 17, .int .i64 0), (20, 18, .string ⟨(Lib.decDigits 0).toArray⟩), (21, 19, .string (⟨#[63]⟩ ++ ⟨(Lib.decDigits 0).toArray⟩)), (23, 20, .map (some M)), (24, 4, .map (some M))]

/-- what the world is while the words are laid -/
def WordsIn (s : ByteArray) (W1 : World) (listed : Array Bool) (w : World) : Prop :=
  (listed.getD 0 false = false ∧ w = W1 ∧ ∀ x ∈ wordTab s, listed.getD x.1 false = false) ∨ (listed.getD 0 false = true ∧ ∃ es clk, w = W1.alloc (.map es clk) ∧ MapOf (wordTab s) listed es.toList)

theorem WordsIn.skip {s : ByteArray} {W1 : World} {listed : Array Bool} {w : World} (h : WordsIn s W1 listed w) {i : Nat} (hi : ∀ x ∈ wordTab s, x.1 ≠ i) (h0 : i ≠ 0) : WordsIn s W1 (listed.setIfInBounds i true) w := by
  have hat : ∀ j, i ≠ j → (listed.setIfInBounds i true).getD j false = listed.getD j false := by
    intro j hj
    simp [Array.getD_eq_getD_getElem?, Array.getElem?_setIfInBounds, hj]
  rcases h with ⟨h1, h2, h3⟩ | ⟨h1, es, clk, h2, h3⟩
  · exact .inl ⟨by rw [hat 0 h0]; exact h1, h2, fun x hx => by rw [hat x.1 (hi x hx).symm]; exact h3 x hx⟩
  · exact .inr ⟨by rw [hat 0 h0]; exact h1, es, clk, h2, h3.skip hi⟩

theorem WordsIn.cell {s : ByteArray} {W1 : World} {listed : Array Bool} {w : World} (h : WordsIn s W1 listed w) {a : Addr} {v : Value} (hc : W1.cell? a = some v) : w.cell? a = some v := by
  rcases h with ⟨_, rfl, _⟩ | ⟨_, es, clk, rfl, _⟩
  · exact hc
  · exact old_cell hc _

theorem WordsIn.insert {s : ByteArray} {W1 : World} {listed : Array Bool} {w' : World} (hW : WordsIn s W1 listed w') {i : Nat} {k' : Int} {v : Value} (hx : (i, k', v) ∈ wordTab s) (h0 : listed.getD 0 false = true) (hl : listed.getD i false = false) (hlt : i < listed.size) :
    ∃ w'', (Instr.mapUpdate 54 (.map (some W1.heap.size)) (.int .i64 k') v).run Tryd.prog w' = .ok () w'' ∧ WordsIn s W1 (listed.setIfInBounds i true) w'' := by
  rcases hW with ⟨h1, _⟩ | ⟨_, es, clk, rfl, hm⟩
  · rw [h0] at h1; cases h1
  · obtain ⟨g1, g2⟩ := hm.put (wordTab_keys s) (wordTab_ops s) hx hlt hl clk
    have hbk : (W1.alloc (.map es clk)).heap[W1.heap.size]? = some (.map es clk) := heap_alloc_new W1 _
    refine ⟨_, run_insert _ es clk _ k' v hbk g1, .inr ⟨?_, es.push { key := .int .i64 k', val := v, born := clk }, clk + 1, ?_, g2⟩⟩
    · by_cases hi0 : i = 0
      · subst hi0; rw [h0] at hl; cases hl
      · have : (listed.setIfInBounds i true).getD 0 false = listed.getD 0 false := by simp [Array.getD_eq_getD_getElem?, Array.getElem?_setIfInBounds, hi0]
        rw [this]; exact h0
    · have : ((W1.heap.push (.map es clk)).setIfInBounds W1.heap.size (.map (es.push { key := .int .i64 k', val := v, born := clk }) (clk + 1))) = W1.heap.push (.map (es.push { key := .int .i64 k', val := v, born := clk }) (clk + 1)) := by
        apply Array.ext_getElem?
        intro j
        simp only [Array.getElem?_setIfInBounds, Array.getElem?_push, Array.size_push]
        by_cases hj : W1.heap.size = j
        · subst hj; simp
        · simp [hj, Ne.symm hj]
      show ({ W1 with heap := _ } : World) = { W1 with heap := _ }
      rw [← this]; rfl

section
variable {Q : Exit → Act → World → Prop} {ops : Array Oper}
theorem wpOp_value {i : Nat} {o : Oper} {a : Act} {w w' : World} {K : Act → World → Prop} {v : Value} (ho : ops[i]? = some o) (hg : o.guard = none) (hr : (execOp a.eval o).run Tryd.prog w = .ok (.value v) w') (h : K (a.put o.dst v) w') : wpOp Tryd.prog ops Q i K a w := by
  unfold wpOp
  rw [ho]
  simp only [Region.wanted, hg, if_true]
  left
  unfold Oper.wp
  rw [hr]
  exact h
theorem wpOp_skip {i : Nat} {o : Oper} {a : Act} {w w' : World} {K : Act → World → Prop} (ho : ops[i]? = some o) (hg : o.guard = none) (hdst : o.dst = none) (hr : (execOp a.eval o).run Tryd.prog w = .ok .skip w') (h : K a w') : wpOp Tryd.prog ops Q i K a w := by
  unfold wpOp
  rw [ho]
  simp only [Region.wanted, hg, if_true]
  left
  unfold Oper.wp
  rw [hr]
  simp only [Oper.upon, hdst, Act.put]
  exact h
theorem wpOp_enter {i : Nat} {o : Oper} {a : Act} {w : World} {K : Act → World → Prop} {f : FuncId} {args : Array Value} {R : Ending → World → Prop} (ho : ops[i]? = some o) (hg : o.guard = none) (hr : (execOp a.eval o).run Tryd.prog w = .ok (.enter f args) w)
    (hc : Calls Tryd.prog f args w R) (h : ∀ e w'', R e w'' → ∃ v, e = .returned v ∧ K (a.put o.dst v) w'') : wpOp Tryd.prog ops Q i K a w := by
  unfold wpOp
  rw [ho]
  simp only [Region.wanted, hg, if_true]
  left
  unfold Oper.wp
  rw [hr]
  refine Calls.mono hc fun e w'' hR => ?_
  obtain ⟨v, rfl, hK⟩ := h e w'' hR
  exact hK
end

theorem itoa_fn (args : Array Value) (w : World) : (callFunc 29 args).run Tryd.prog w = .ok (.enter 29 args) w := by kernel_rfl

set_option maxRecDepth 100000 in
set_option maxHeartbeats 1500000 in
theorem typ_any (T : Ty) : T.all false = true → T.conc = true → typSays T := by
  induction T using Ty.ind with
  | h k s n l ih =>
    intro hall hconc w cs B b bs hT hB hbl hsz
    have hall2 := hall
    have hconc2 := hconc
    rw [Ty.all, Bool.and_eq_true] at hall2
    rw [Ty.conc] at hconc2
    simp only [Bool.and_eq_true, bne_iff_ne, ne_eq] at hconc2
    have ihl : ∀ t ∈ l, typSays t := fun t ht => ih t ht (Ty.allL_mem hall2.2 t ht) (Ty.concL_mem hconc2.2 t ht)
    have hnode : nodeB false k s.toList n l = true := hall2.1
    obtain ⟨hn0, hs24, har⟩ := nodeB_facts hnode (by omega)
    subst hn0
    rw [text_eq] at hsz ⊢
    generalize htx : nodeText k s.toList (Ty.texts l) = TX at hsz ⊢
    have Htx := Lib.hid htx
    clear htx
    clear hall hconc hall2 ih
    cases hT with
    | mk _ _ _ _ a bb off cp C ha hlen hs hk hn hc hi =>
    have hTys : TysUnder B w a l := ⟨Nat.le_trans hlen.1 hlen.2, bb, off, C, ha, hc, hi⟩
    have hs2 : s.size ≤ 24 := by rw [toList_length] at hs24; exact hs24
    unfold maxLen at hlen
    unfold nodeCells
    go_enter Tryd.func20, Tryd.ntmps20
    go_wp2_with fail
    refine wp_region_any (by kernel_rfl) ?_
    have hdrew : ({ (w.alloc (.cells #[.pointer (some ⟨b, 0, none⟩)] 44)).alloc (.cells #[.int .i64 k, .string s, .int .i64 0, .slice a l.length cp] 31) with
        drawn := ((w.alloc (.cells #[.pointer (some ⟨b, 0, none⟩)] 44)).alloc (.cells #[.int .i64 k, .string s, .int .i64 0, .slice a l.length cp] 31)).drawn + 1 } : World) =
      ((w.alloc (.cells #[.pointer (some ⟨b, 0, none⟩)] 44)).alloc (.cells #[.int .i64 k, .string s, .int .i64 0, .slice a l.length cp] 31)).drew := rfl
    rw [hdrew]
    clear hdrew
    generalize hW1 : ((w.alloc (.cells #[.pointer (some ⟨b, 0, none⟩)] 44)).alloc (.cells #[.int .i64 k, .string s, .int .i64 0, .slice a l.length cp] 31)).drew = W1
    have hM : W1.heap.size = w.heap.size + 2 := by rw [← hW1]; simp
    have c1 : W1.cell? ⟨w.heap.size + 1, 1, none⟩ = some (.string s) := by rw [← hW1]; exact new_cell _ _ _ _ _ (by simp)
    have c2 : W1.cell? ⟨w.heap.size + 1, 2, none⟩ = some (.int .i64 0) := by rw [← hW1]; exact new_cell _ _ _ _ _ (by simp)
    refine wpAny_table (wordSpec s (w.heap.size + 1) (w.heap.size + 2)) (WordsIn s W1) _ _ (by kernel_rfl) (by simp [wordSpec]) (by simp [wordSpec]) (by simp [wordSpec]) ?h0 ?step ?fin
    case h0 => exact .inl ⟨by simp [Array.getD_eq_getD_getElem?], rfl, by simp [wordTab, Array.getD_eq_getD_getElem?]⟩
    case step =>
      have hcat1 : ¬ 9223372036854775807 < 1 + s.size := by omega
      have hcat2 : ¬ 9223372036854775807 < 4 + s.size := by omega
      have hcat3 : 1 + (Lib.decDigits 0).length ≤ 9223372036854775807 := by
        have e : (Lib.decDigits 0).length = 1 := by decide +kernel
        omega
      intro listed a' w' i o hsz hW ho hl hpre hdone hother K hK hK2
      have q1 := hW.cell c1
      have q2 := hW.cell c2
      have p3 : a'.tmps.getD 3 undef = .pointer (some ⟨w.heap.size + 1, 0, none⟩) := hother 3 (by simp [wordSpec])
      have hi25 : i = 0 ∨ i = 1 ∨ i = 2 ∨ i = 3 ∨ i = 4 ∨ i = 5 ∨ i = 6 ∨ i = 7 ∨ i = 8 ∨ i = 9 ∨ i = 10 ∨ i = 11 ∨ i = 12 ∨ i = 13 ∨ i = 14 ∨ i = 15 ∨ i = 16 ∨ i = 17 ∨ i = 18 ∨ i = 19 ∨ i = 20 ∨ i = 21 ∨ i = 22 ∨ i = 23 ∨ i = 24 := by
        have := (Array.getElem?_eq_some_iff.1 ho).1
        simp at this
        omega
      have hsz25 : listed.size = 25 := by rw [hsz]; rfl
      have ins : ∀ (k' : Int) (v : Value), (i, k', v) ∈ wordTab s → listed.getD 0 false = true → ∃ w'', (Instr.mapUpdate 54 (.map (some (w.heap.size + 2))) (.int .i64 k') v).run Tryd.prog w' = .ok () w'' ∧ WordsIn s W1 (listed.setIfInBounds i true) w'' := by
        intro k' v hx h0
        rw [← hM]
        exact hW.insert hx h0 hl (by rw [hsz25]; omega)
      rcases hi25 with rfl | rfl | rfl | rfl | rfl | rfl | rfl | rfl | rfl | rfl | rfl | rfl | rfl | rfl | rfl | rfl | rfl | rfl | rfl | rfl | rfl | rfl | rfl | rfl | rfl
      · have ho2 := ho
        simp only [List.getElem?_toArray, List.getElem?_cons_succ, List.getElem?_cons_zero, Option.some.injEq] at ho2
        subst ho2
        rcases hW with ⟨h1, rfl, h3⟩ | ⟨h1, _⟩
        · refine wpOp_value ho rfl (v := .map (some w'.heap.size)) (w' := w'.alloc (.map #[] 0)) (by simp [execOp, Instr.makeMap, go_sem]) ?_
          rw [hM]
          refine hK 7 _ _ (by simp [wordSpec]) (.inr ⟨?_, #[], 0, rfl, ?_, ?_⟩)
          · simp [Array.getD_eq_getD_getElem?, Array.getElem?_setIfInBounds, hsz25]
          · intro e he; cases he
          · intro x hx hlx
            have hne : (0 : Nat) ≠ x.1 := by
              intro e0
              have : ∀ y ∈ wordTab s, y.1 ≠ 0 := by simp [wordTab]
              exact this x hx e0.symm
            have : (listed.setIfInBounds 0 true).getD x.1 false = listed.getD x.1 false := by simp [Array.getD_eq_getD_getElem?, Array.getElem?_setIfInBounds, hne]
            rw [this, h3 x hx] at hlx
            cases hlx
        · rw [h1] at hl; cases hl
      · have ho2 := ho
        simp only [List.getElem?_toArray, List.getElem?_cons_succ, List.getElem?_cons_zero, Option.some.injEq] at ho2
        subst ho2
        have m0 := hdone (0, 7, .map (some (w.heap.size + 2))) (by simp [wordSpec]) (hpre ⟨0, .data⟩ (by simp) rfl)
        simp only at m0
        obtain ⟨w'', g1, g2⟩ := ins (1) (.string ⟨#[73, 110, 116]⟩) (by simp [wordTab]) (hpre ⟨0, .data⟩ (by simp) rfl)
        refine wpOp_skip ho rfl rfl (w' := w'') ?_ (hK2 (by simp [wordSpec]) w'' g2)
        simp [execOp, Act.eval, g1, Result.andThen, m0]
      · have ho2 := ho
        simp only [List.getElem?_toArray, List.getElem?_cons_succ, List.getElem?_cons_zero, Option.some.injEq] at ho2
        subst ho2
        have m0 := hdone (0, 7, .map (some (w.heap.size + 2))) (by simp [wordSpec]) (hpre ⟨0, .data⟩ (by simp) rfl)
        simp only at m0
        obtain ⟨w'', g1, g2⟩ := ins (2) (.string ⟨#[66, 111, 111, 108]⟩) (by simp [wordTab]) (hpre ⟨0, .data⟩ (by simp) rfl)
        refine wpOp_skip ho rfl rfl (w' := w'') ?_ (hK2 (by simp [wordSpec]) w'' g2)
        simp [execOp, Act.eval, g1, Result.andThen, m0]
      · have ho2 := ho
        simp only [List.getElem?_toArray, List.getElem?_cons_succ, List.getElem?_cons_zero, Option.some.injEq] at ho2
        subst ho2
        have m0 := hdone (0, 7, .map (some (w.heap.size + 2))) (by simp [wordSpec]) (hpre ⟨0, .data⟩ (by simp) rfl)
        simp only at m0
        obtain ⟨w'', g1, g2⟩ := ins (3) (.string ⟨#[84, 101, 120, 116]⟩) (by simp [wordTab]) (hpre ⟨0, .data⟩ (by simp) rfl)
        refine wpOp_skip ho rfl rfl (w' := w'') ?_ (hK2 (by simp [wordSpec]) w'' g2)
        simp [execOp, Act.eval, g1, Result.andThen, m0]
      · have ho2 := ho
        simp only [List.getElem?_toArray, List.getElem?_cons_succ, List.getElem?_cons_zero, Option.some.injEq] at ho2
        subst ho2
        have m0 := hdone (0, 7, .map (some (w.heap.size + 2))) (by simp [wordSpec]) (hpre ⟨0, .data⟩ (by simp) rfl)
        simp only at m0
        obtain ⟨w'', g1, g2⟩ := ins (4) (.string ⟨#[85, 110, 105, 116]⟩) (by simp [wordTab]) (hpre ⟨0, .data⟩ (by simp) rfl)
        refine wpOp_skip ho rfl rfl (w' := w'') ?_ (hK2 (by simp [wordSpec]) w'' g2)
        simp [execOp, Act.eval, g1, Result.andThen, m0]
      · have ho2 := ho
        simp only [List.getElem?_toArray, List.getElem?_cons_succ, List.getElem?_cons_zero, Option.some.injEq] at ho2
        subst ho2
        have m0 := hdone (0, 7, .map (some (w.heap.size + 2))) (by simp [wordSpec]) (hpre ⟨0, .data⟩ (by simp) rfl)
        simp only at m0
        obtain ⟨w'', g1, g2⟩ := ins (5) (.string ⟨#[65, 114, 114, 97, 121]⟩) (by simp [wordTab]) (hpre ⟨0, .data⟩ (by simp) rfl)
        refine wpOp_skip ho rfl rfl (w' := w'') ?_ (hK2 (by simp [wordSpec]) w'' g2)
        simp [execOp, Act.eval, g1, Result.andThen, m0]
      · have ho2 := ho
        simp only [List.getElem?_toArray, List.getElem?_cons_succ, List.getElem?_cons_zero, Option.some.injEq] at ho2
        subst ho2
        have m0 := hdone (0, 7, .map (some (w.heap.size + 2))) (by simp [wordSpec]) (hpre ⟨0, .data⟩ (by simp) rfl)
        simp only at m0
        obtain ⟨w'', g1, g2⟩ := ins (11) (.string ⟨#[87, 101, 97, 107]⟩) (by simp [wordTab]) (hpre ⟨0, .data⟩ (by simp) rfl)
        refine wpOp_skip ho rfl rfl (w' := w'') ?_ (hK2 (by simp [wordSpec]) w'' g2)
        simp [execOp, Act.eval, g1, Result.andThen, m0]
      · have ho2 := ho
        simp only [List.getElem?_toArray, List.getElem?_cons_succ, List.getElem?_cons_zero, Option.some.injEq] at ho2
        subst ho2
        refine wpOp_value ho rfl (v := .pointer (some ⟨w.heap.size + 1, 1, none⟩)) (w' := w') ?_ (hK 8 (.pointer (some ⟨w.heap.size + 1, 1, none⟩)) w' (by simp [wordSpec]) (hW.skip (by simp [wordTab]) (by decide)))
        simp [execOp, Act.eval, go_sem, p3]
      · have ho2 := ho
        simp only [List.getElem?_toArray, List.getElem?_cons_succ, List.getElem?_cons_zero, Option.some.injEq] at ho2
        subst ho2
        have d1 := hdone (7, 8, .pointer (some ⟨w.heap.size + 1, 1, none⟩)) (by simp [wordSpec]) (hpre ⟨7, .data⟩ (by simp) rfl)
        simp only at d1
        refine wpOp_value ho rfl (v := .string s) (w' := w') ?_ (hK 9 (.string s) w' (by simp [wordSpec]) (hW.skip (by simp [wordTab]) (by decide)))
        simp [execOp, Act.eval, go_sem, d1, q1]
      · have ho2 := ho
        simp only [List.getElem?_toArray, List.getElem?_cons_succ, List.getElem?_cons_zero, Option.some.injEq] at ho2
        subst ho2
        have m0 := hdone (0, 7, .map (some (w.heap.size + 2))) (by simp [wordSpec]) (hpre ⟨0, .data⟩ (by simp) rfl)
        simp only at m0
        have d1 := hdone (8, 9, .string s) (by simp [wordSpec]) (hpre ⟨8, .data⟩ (by simp) rfl)
        simp only at d1
        obtain ⟨w'', g1, g2⟩ := ins (6) (.string s) (by simp [wordTab]) (hpre ⟨0, .data⟩ (by simp) rfl)
        refine wpOp_skip ho rfl rfl (w' := w'') ?_ (hK2 (by simp [wordSpec]) w'' g2)
        simp [execOp, Act.eval, g1, Result.andThen, m0, d1]
      · have ho2 := ho
        simp only [List.getElem?_toArray, List.getElem?_cons_succ, List.getElem?_cons_zero, Option.some.injEq] at ho2
        subst ho2
        refine wpOp_value ho rfl (v := .pointer (some ⟨w.heap.size + 1, 1, none⟩)) (w' := w') ?_ (hK 10 (.pointer (some ⟨w.heap.size + 1, 1, none⟩)) w' (by simp [wordSpec]) (hW.skip (by simp [wordTab]) (by decide)))
        simp [execOp, Act.eval, go_sem, p3]
      · have ho2 := ho
        simp only [List.getElem?_toArray, List.getElem?_cons_succ, List.getElem?_cons_zero, Option.some.injEq] at ho2
        subst ho2
        have d1 := hdone (10, 10, .pointer (some ⟨w.heap.size + 1, 1, none⟩)) (by simp [wordSpec]) (hpre ⟨10, .data⟩ (by simp) rfl)
        simp only at d1
        refine wpOp_value ho rfl (v := .string s) (w' := w') ?_ (hK 11 (.string s) w' (by simp [wordSpec]) (hW.skip (by simp [wordTab]) (by decide)))
        simp [execOp, Act.eval, go_sem, d1, q1]
      · have ho2 := ho
        simp only [List.getElem?_toArray, List.getElem?_cons_succ, List.getElem?_cons_zero, Option.some.injEq] at ho2
        subst ho2
        have d1 := hdone (11, 11, .string s) (by simp [wordSpec]) (hpre ⟨11, .data⟩ (by simp) rfl)
        simp only at d1
        refine wpOp_value ho rfl (v := .string (⟨#[36]⟩ ++ s)) (w' := w') ?_ (hK 12 (.string (⟨#[36]⟩ ++ s)) w' (by simp [wordSpec]) (hW.skip (by simp [wordTab]) (by decide)))
        simp [execOp, Act.eval, go_sem, d1, hcat1]
      · have ho2 := ho
        simp only [List.getElem?_toArray, List.getElem?_cons_succ, List.getElem?_cons_zero, Option.some.injEq] at ho2
        subst ho2
        have m0 := hdone (0, 7, .map (some (w.heap.size + 2))) (by simp [wordSpec]) (hpre ⟨0, .data⟩ (by simp) rfl)
        simp only at m0
        have d1 := hdone (12, 12, .string (⟨#[36]⟩ ++ s)) (by simp [wordSpec]) (hpre ⟨12, .data⟩ (by simp) rfl)
        simp only at d1
        obtain ⟨w'', g1, g2⟩ := ins (7) (.string (⟨#[36]⟩ ++ s)) (by simp [wordTab]) (hpre ⟨0, .data⟩ (by simp) rfl)
        refine wpOp_skip ho rfl rfl (w' := w'') ?_ (hK2 (by simp [wordSpec]) w'' g2)
        simp [execOp, Act.eval, g1, Result.andThen, m0, d1]
      · have ho2 := ho
        simp only [List.getElem?_toArray, List.getElem?_cons_succ, List.getElem?_cons_zero, Option.some.injEq] at ho2
        subst ho2
        refine wpOp_value ho rfl (v := .pointer (some ⟨w.heap.size + 1, 1, none⟩)) (w' := w') ?_ (hK 13 (.pointer (some ⟨w.heap.size + 1, 1, none⟩)) w' (by simp [wordSpec]) (hW.skip (by simp [wordTab]) (by decide)))
        simp [execOp, Act.eval, go_sem, p3]
      · have ho2 := ho
        simp only [List.getElem?_toArray, List.getElem?_cons_succ, List.getElem?_cons_zero, Option.some.injEq] at ho2
        subst ho2
        have d1 := hdone (14, 13, .pointer (some ⟨w.heap.size + 1, 1, none⟩)) (by simp [wordSpec]) (hpre ⟨14, .data⟩ (by simp) rfl)
        simp only at d1
        refine wpOp_value ho rfl (v := .string s) (w' := w') ?_ (hK 14 (.string s) w' (by simp [wordSpec]) (hW.skip (by simp [wordTab]) (by decide)))
        simp [execOp, Act.eval, go_sem, d1, q1]
      · have ho2 := ho
        simp only [List.getElem?_toArray, List.getElem?_cons_succ, List.getElem?_cons_zero, Option.some.injEq] at ho2
        subst ho2
        have d1 := hdone (15, 14, .string s) (by simp [wordSpec]) (hpre ⟨15, .data⟩ (by simp) rfl)
        simp only at d1
        refine wpOp_value ho rfl (v := .string (⟨#[97, 110, 121, 32]⟩ ++ s)) (w' := w') ?_ (hK 15 (.string (⟨#[97, 110, 121, 32]⟩ ++ s)) w' (by simp [wordSpec]) (hW.skip (by simp [wordTab]) (by decide)))
        simp [execOp, Act.eval, go_sem, d1, hcat2]
      · have ho2 := ho
        simp only [List.getElem?_toArray, List.getElem?_cons_succ, List.getElem?_cons_zero, Option.some.injEq] at ho2
        subst ho2
        have m0 := hdone (0, 7, .map (some (w.heap.size + 2))) (by simp [wordSpec]) (hpre ⟨0, .data⟩ (by simp) rfl)
        simp only at m0
        have d1 := hdone (16, 15, .string (⟨#[97, 110, 121, 32]⟩ ++ s)) (by simp [wordSpec]) (hpre ⟨16, .data⟩ (by simp) rfl)
        simp only at d1
        obtain ⟨w'', g1, g2⟩ := ins (9) (.string (⟨#[97, 110, 121, 32]⟩ ++ s)) (by simp [wordTab]) (hpre ⟨0, .data⟩ (by simp) rfl)
        refine wpOp_skip ho rfl rfl (w' := w'') ?_ (hK2 (by simp [wordSpec]) w'' g2)
        simp [execOp, Act.eval, g1, Result.andThen, m0, d1]
      · have ho2 := ho
        simp only [List.getElem?_toArray, List.getElem?_cons_succ, List.getElem?_cons_zero, Option.some.injEq] at ho2
        subst ho2
        refine wpOp_value ho rfl (v := .pointer (some ⟨w.heap.size + 1, 2, none⟩)) (w' := w') ?_ (hK 16 (.pointer (some ⟨w.heap.size + 1, 2, none⟩)) w' (by simp [wordSpec]) (hW.skip (by simp [wordTab]) (by decide)))
        simp [execOp, Act.eval, go_sem, p3]
      · have ho2 := ho
        simp only [List.getElem?_toArray, List.getElem?_cons_succ, List.getElem?_cons_zero, Option.some.injEq] at ho2
        subst ho2
        have d1 := hdone (18, 16, .pointer (some ⟨w.heap.size + 1, 2, none⟩)) (by simp [wordSpec]) (hpre ⟨18, .data⟩ (by simp) rfl)
        simp only at d1
        refine wpOp_value ho rfl (v := .int .i64 0) (w' := w') ?_ (hK 17 (.int .i64 0) w' (by simp [wordSpec]) (hW.skip (by simp [wordTab]) (by decide)))
        simp [execOp, Act.eval, go_sem, d1, q2]
      · have ho2 := ho
        simp only [List.getElem?_toArray, List.getElem?_cons_succ, List.getElem?_cons_zero, Option.some.injEq] at ho2
        subst ho2
        have d1 := hdone (19, 17, .int .i64 0) (by simp [wordSpec]) (hpre ⟨19, .data⟩ (by simp) rfl)
        simp only at d1
        refine wpOp_enter ho rfl (f := 29) (args := #[.int .i64 0]) ?_ (Tryd.strconv_Itoa_small 0 (by decide) w') ?_
        · simp [execOp, resolve, Act.eval, go_sem, d1, Deferred.ofValue, invoke, itoa_fn]
        · rintro e w'' ⟨rfl, rfl⟩
          exact ⟨_, rfl, hK 18 _ _ (by simp [wordSpec]) (hW.skip (by simp [wordTab]) (by decide))⟩
      · have ho2 := ho
        simp only [List.getElem?_toArray, List.getElem?_cons_succ, List.getElem?_cons_zero, Option.some.injEq] at ho2
        subst ho2
        have d1 := hdone (20, 18, .string ⟨(Lib.decDigits 0).toArray⟩) (by simp [wordSpec]) (hpre ⟨20, .data⟩ (by simp) rfl)
        simp only at d1
        refine wpOp_value ho rfl (v := .string (⟨#[63]⟩ ++ ⟨(Lib.decDigits 0).toArray⟩)) (w' := w') ?_ (hK 19 (.string (⟨#[63]⟩ ++ ⟨(Lib.decDigits 0).toArray⟩)) w' (by simp [wordSpec]) (hW.skip (by simp [wordTab]) (by decide)))
        simp [execOp, Act.eval, go_sem, d1, hcat3]
      · have ho2 := ho
        simp only [List.getElem?_toArray, List.getElem?_cons_succ, List.getElem?_cons_zero, Option.some.injEq] at ho2
        subst ho2
        have m0 := hdone (0, 7, .map (some (w.heap.size + 2))) (by simp [wordSpec]) (hpre ⟨0, .data⟩ (by simp) rfl)
        simp only at m0
        have d1 := hdone (21, 19, .string (⟨#[63]⟩ ++ ⟨(Lib.decDigits 0).toArray⟩)) (by simp [wordSpec]) (hpre ⟨21, .data⟩ (by simp) rfl)
        simp only at d1
        obtain ⟨w'', g1, g2⟩ := ins (12) (.string (⟨#[63]⟩ ++ ⟨(Lib.decDigits 0).toArray⟩)) (by simp [wordTab]) (hpre ⟨0, .data⟩ (by simp) rfl)
        refine wpOp_skip ho rfl rfl (w' := w'') ?_ (hK2 (by simp [wordSpec]) w'' g2)
        simp [execOp, Act.eval, g1, Result.andThen, m0, d1]
      · have ho2 := ho
        simp only [List.getElem?_toArray, List.getElem?_cons_succ, List.getElem?_cons_zero, Option.some.injEq] at ho2
        subst ho2
        have m0 := hdone (0, 7, .map (some (w.heap.size + 2))) (by simp [wordSpec]) (hpre ⟨0, .data⟩ (by simp) rfl)
        simp only at m0
        refine wpOp_value ho rfl (v := .map (some (w.heap.size + 2))) (w' := w') ?_ (hK 20 (.map (some (w.heap.size + 2))) w' (by simp [wordSpec]) (hW.skip (by simp [wordTab]) (by decide)))
        simp [execOp, Act.eval, go_sem, m0]
      · have ho2 := ho
        simp only [List.getElem?_toArray, List.getElem?_cons_succ, List.getElem?_cons_zero, Option.some.injEq] at ho2
        subst ho2
        have d1 := hdone (23, 20, .map (some (w.heap.size + 2))) (by simp [wordSpec]) (hpre ⟨23, .data⟩ (by simp) rfl)
        simp only at d1
        refine wpOp_value ho rfl (v := .map (some (w.heap.size + 2))) (w' := w') ?_ (hK 4 (.map (some (w.heap.size + 2))) w' (by simp [wordSpec]) (hW.skip (by simp [wordTab]) (by decide)))
        simp [execOp, Act.eval, go_sem, d1]
    case fin =>
      intro listed w' hall hW
      have hl25 : ∀ i, i < 25 → listed.getD i false = true := fun i hi => hall i (by simpa using hi)
      simp only [laidBy, wordSpec, List.foldl_cons, List.foldl_nil, hl25 0 (by decide), hl25 7 (by decide), hl25 8 (by decide), hl25 10 (by decide), hl25 11 (by decide), hl25 12 (by decide), hl25 14 (by decide), hl25 15 (by decide), hl25 16 (by decide), hl25 18 (by decide), hl25 19 (by decide), hl25 20 (by decide), hl25 21 (by decide), hl25 23 (by decide), hl25 24 (by decide), if_true]
      simp only [List.setIfInBounds_toArray, List.set_cons_succ, List.set_cons_zero]
      obtain ⟨es, clk, hw', hm⟩ : ∃ es clk, w' = W1.alloc (.map es clk) ∧ MapOf (wordTab s) listed es.toList := by
        rcases hW with ⟨h1, _⟩ | ⟨_, h⟩
        · rw [hl25 0 (by decide)] at h1; cases h1
        · exact h
      have hO0 : w'.heap[w.heap.size]? = some (.cells #[.pointer (some ⟨b, 0, none⟩)] 44) := by
        rw [hw']
        rw [(below1 W1 _).block _ (by omega), ← hW1, heap_drew, (below1 (w.alloc _) _).block _ (by simp)]
        exact heap_alloc_new w _
      have hO1 : w'.heap[w.heap.size + 1]? = some (.cells #[.int .i64 k, .string s, .int .i64 0, .slice a l.length cp] 31) := by
        rw [hw']
        rw [(below1 W1 _).block _ (by omega), ← hW1, heap_drew]
        have := heap_alloc_new (w.alloc (.cells #[.pointer (some ⟨b, 0, none⟩)] 44)) (.cells #[.int .i64 k, .string s, .int .i64 0, .slice a l.length cp] 31)
        rw [World.size_alloc] at this
        exact this
      have hO2 : w'.heap[w.heap.size + 2]? = some (.map es clk) := by rw [hw', ← hM]; exact heap_alloc_new W1 _
      have hz' : w.heap.size + 3 ≤ w'.heap.size := by rw [hw']; simp; omega
      have hWW : Wrote B b bs w w' := by
        rw [hw', ← hW1]
        exact ((((Wrote.alloc hbl hB _).then (Wrote.alloc (Wrote.alloc hbl hB _).bld (by simp; omega) _)).drew).then (Wrote.alloc (((Wrote.alloc hbl hB _).then (Wrote.alloc (Wrote.alloc hbl hB _).bld (by simp; omega) _)).drew).bld (by simp; omega) _))
      have hbw := hbl.lt
      have x0 : w'.cell? ⟨w.heap.size, 0, none⟩ = some (.pointer (some ⟨b, 0, none⟩)) := cell_of_row _ _ 0 _ _ _ hO0
      have y0 : w'.cell? ⟨w.heap.size + 1, 0, none⟩ = some (.int .i64 k) := cell_of_row _ _ 0 _ _ _ hO1
      have y1 : w'.cell? ⟨w.heap.size + 1, 1, none⟩ = some (.string s) := cell_of_row _ _ 1 _ _ _ hO1
      have y3 : w'.cell? ⟨w.heap.size + 1, 3, none⟩ = some (.slice a l.length cp) := cell_of_row _ _ 3 _ _ _ hO1
      have hmk : ∀ x ∈ wordTab s, ∃ j, Instr.findNow (.int .i64) (.int .i64 x.2.1) es.toList 0 = some (some (j, x.2.2)) := fun x hx => hm.look (wordTab_keys s) hx (hl25 x.1 (by
        have : ∀ y ∈ wordTab s, y.1 < 25 := by simp [wordTab]
        exact this x hx))
      have HW := Lib.hid hWW
      have HO0 := Lib.hid hO0
      have HO1 := Lib.hid hO1
      have HT := Lib.hid hTys
      clear hW hl25 hall c1 c2 hM hW1 hw' hm hWW hO0 hO1 hTys
      by_cases h10 : k = 10
      · subst h10
        have hl1 : 1 ≤ l.length := by omega
        have hab := (ha (by omega)).1
        have hbB := (ha (by omega)).2
        subst hab
        obtain ⟨m, hm⟩ : ∃ m, l.length = m + 1 := ⟨l.length - 1, by omega⟩
        have e : nodeText 10 s.toList (Ty.texts l) = [40] ++ commas ((Ty.texts l).take m) ++ [41, 32, 45, 62, 32] ++ (Ty.texts l).getD m [] := by
          have : m = (Ty.texts l).length - 1 := by rw [texts_length]; omega
          rw [this]; rfl
        have e2 : (Ty.texts l).take m = Ty.texts (l.take m) := by rw [Ty.texts_eq, Ty.texts_eq, List.map_take]
        have e3 : (Ty.texts l).getD m [] = l[m].text := by
          rw [Ty.texts_eq, List.getD_eq_getElem?_getD, List.getElem?_map, List.getElem?_eq_getElem (by omega)]; rfl
        rw [e2, e3] at e
        have ht0 : TX = [40] ++ commas (Ty.texts (l.take m)) ++ [41, 32, 45, 62, 32] ++ l[m].text := Htx.out.symm.trans e
        have hszl : bs.length + 1 + (commas (Ty.texts (l.take m))).length + 5 + l[m].text.length ≤ 10000000 := by
          rw [ht0] at hsz
          simp only [List.length_append, List.length_cons, List.length_nil] at hsz
          omega
        have Ht0 := Lib.hid ht0
        have elen : (l.take m).length = m := by simp; omega
        have hT2 : ∀ wx, Below B w wx → TysUnder B wx (some ⟨bb, off, none⟩) (l.take m) := fun wx h => by
          refine TysUnder.later h ⟨(by show _ ≤ 2 ^ 63 - 1; omega), bb, off, C, fun _ => ⟨rfl, hbB⟩, fun i hi' j hj => hc i (by omega) j hj, fun i hi' => ?_⟩
          rw [List.getElem_take]
          exact hi i (by omega)
        have hr := fun (wx : World) (bs' : List UInt8) (h : Below B w wx) (h2 : B ≤ wx.heap.size) => tlist_any (l.take m) (some ⟨bb, off, none⟩) cp (fun t ht => ihl t (List.mem_of_mem_take ht)) wx B b bs' (hT2 wx h) h2
        rw [elen] at hr
        have hu := (hi m (by omega))
        have hcm := four hc m (by omega)
        obtain ⟨k', s', n', a', len', cap', e4, e5, e6, e7⟩ := Ty.cells4 hu.isin
        rw [e4, e5, e6, e7] at hcm hu
        have hq := fun (wx : World) (bs' : List UInt8) (h : Below B w wx) => ihl l[m] (List.getElem_mem _) wx _ B b bs' (hu.later h (Nat.le_refl _))
        have HO : ∀ (bs' : List UInt8) (wx : World), Wrote B b bs' w' wx → wx.cell? ⟨w.heap.size, 0, none⟩ = some (.pointer (some ⟨b, 0, none⟩)) ∧ wx.cell? ⟨w.heap.size + 1, 3, none⟩ = some (.slice (some ⟨bb, off, none⟩) (m + 1) cp) := fun bs' wx h =>
          ⟨h.cell HO0.out (by omega) (by decide) rfl, by rw [← hm]; exact h.cell HO1.out (by omega) (by decide) rfl⟩
        have HC : ∀ (bs' : List UInt8) (wx : World), Wrote B b bs' w' wx → wx.cell? ⟨bb, off + m * 4, none⟩ = some (.int .i64 k') ∧ wx.cell? ⟨bb, off + m * 4 + 1, none⟩ = some (.string s') ∧ wx.cell? ⟨bb, off + m * 4 + 2, none⟩ = some (.int .i64 n') ∧ wx.cell? ⟨bb, off + m * 4 + 3, none⟩ = some (.slice a' len' cap') := fun bs' wx h => by
          have hb := HW.out.below.trans h.below
          exact ⟨by rw [hb.cell (show bb < B from hbB)]; exact hcm.1, by rw [hb.cell (show bb < B from hbB)]; exact hcm.2.1, by rw [hb.cell (show bb < B from hbB)]; exact hcm.2.2.1, by rw [hb.cell (show bb < B from hbB)]; exact hcm.2.2.2⟩
        have HHC := Lib.hid HC
        have HOO := Lib.hid HO
        generalize commas (Ty.texts (l.take m)) = T0 at hr Ht0 hszl
        generalize l[m].text = T1 at hq Ht0 hszl
        have Hr := Lib.hid hr
        have Hq := Lib.hid hq
        have hcp : m + 1 ≤ cp ∧ cp ≤ 2 ^ 63 - 1 := by omega
        have hBw' : B ≤ w'.heap.size := by omega
        rw [hm] at y3
        clear hr hq hu hcm e e2 e3 e4 e5 e6 e7 elen hT2 hsz hi hc ihl ha HC HO ht0 Htx hmk har hnode hlen hl1
        clear hm
        go_wp2_with fail
        refine (write_any B b bs (⟨#[40]⟩ : ByteArray) _ HW.out.bld ?g1 hBw').mono ?_
        case g1 => show _ + 1 ≤ _; omega
        rintro e w2 ⟨rfl, hW2⟩
        rw [show (⟨#[40]⟩ : ByteArray).toList = [40] from by rw [ByteArray.toList_eq]] at hW2
        obtain ⟨z0, z3⟩ := HOO.out _ _ hW2
        have hz2 : w'.heap.size ≤ w2.heap.size := hW2.below.size
        have HW2 := Lib.hid hW2
        clear hW2
        go_wp2_with fail
        have hcm1 : (0 : Int) ≤ (m : Int) := by omega
        have hcm2 : (m : Int) ≤ (cp : Int) := by omega
        have hcm3 : m ≤ cp := by omega
        have d0 : w2.drew.cell? ⟨w.heap.size, 0, none⟩ = some (.pointer (some ⟨b, 0, none⟩)) := z0
        have d3 : w2.drew.cell? ⟨w.heap.size + 1, 3, none⟩ = some (.slice (some ⟨bb, off, none⟩) (m + 1) cp) := z3
        go_region_held3 (fun wx => wx.cell? ⟨w.heap.size, 0, none⟩ = some (.pointer (some ⟨b, 0, none⟩)) ∧ wx.cell? ⟨w.heap.size + 1, 3, none⟩ = some (.slice (some ⟨bb, off, none⟩) (m + 1) cp))
          (first | exact ⟨d0, d3⟩ | exact HOO.out _ _ (HW2.out.drew.then hW3))
          (first | (go_at_call 30; refine (Hr.out _ (bs ++ [40]) ?a1 ?a2 ?a3 ?a4).mono ?_; (case a1 => exact (HW.out.below.trans HW2.out.below).drew); (case a2 => show B ≤ w2.heap.size; omega); (case a3 => exact HW2.out.drew.bld); (case a4 => simp only [List.length_append, List.length_cons, List.length_nil]; omega); rintro e w3 ⟨rfl, hW3⟩))
        have hW3' := HW2.out.drew.then hW3
        obtain ⟨u0, u3⟩ := HOO.out _ _ hW3'
        have hz3 : w'.heap.size ≤ w3.heap.size := hW3'.below.size
        have HW3 := Lib.hid hW3'
        clear hW3 hW3' d0 d3 z0 z3
        go_wp2_with fail
        refine (write_any B b (bs ++ [40] ++ T0) (⟨#[41, 32, 45, 62, 32]⟩ : ByteArray) _ HW3.out.bld ?g2 (by omega)).mono ?_
        case g2 =>
          simp only [List.length_append, List.length_cons, List.length_nil]
          show _ + 5 ≤ _
          omega
        rintro e w4 ⟨rfl, hW4⟩
        rw [show (⟨#[41, 32, 45, 62, 32]⟩ : ByteArray).toList = [41, 32, 45, 62, 32] from by rw [ByteArray.toList_eq]] at hW4
        have hW4' := HW3.out.then hW4
        obtain ⟨v0, v3⟩ := HOO.out _ _ hW4'
        obtain ⟨g0, g1, g2, g3⟩ := HHC.out _ _ hW4'
        have hz4 : w'.heap.size ≤ w4.heap.size := hW4'.below.size
        have HW4 := Lib.hid hW4'
        clear hW4 hW4' u0 u3
        have hcm4 : (m : Int) < (m : Int) + 1 := by omega
        have hcm5 : m < m + 1 := by omega
        go_wp2_with fail
        have d0 : w4.drew.cell? ⟨w.heap.size, 0, none⟩ = some (.pointer (some ⟨b, 0, none⟩)) := v0
        have d3 : w4.drew.cell? ⟨w.heap.size + 1, 3, none⟩ = some (.slice (some ⟨bb, off, none⟩) (m + 1) cp) := v3
        have f0 : w4.drew.cell? ⟨bb, off + m * 4, none⟩ = some (.int .i64 k') := g0
        have f1 : w4.drew.cell? ⟨bb, off + m * 4 + 1, none⟩ = some (.string s') := g1
        have f2 : w4.drew.cell? ⟨bb, off + m * 4 + 2, none⟩ = some (.int .i64 n') := g2
        have f3 : w4.drew.cell? ⟨bb, off + m * 4 + 3, none⟩ = some (.slice a' len' cap') := g3
        go_region_held3 (fun wx => wx.cell? ⟨w.heap.size, 0, none⟩ = some (.pointer (some ⟨b, 0, none⟩)) ∧ wx.cell? ⟨w.heap.size + 1, 3, none⟩ = some (.slice (some ⟨bb, off, none⟩) (m + 1) cp) ∧
            wx.cell? ⟨bb, off + m * 4, none⟩ = some (.int .i64 k') ∧ wx.cell? ⟨bb, off + m * 4 + 1, none⟩ = some (.string s') ∧ wx.cell? ⟨bb, off + m * 4 + 2, none⟩ = some (.int .i64 n') ∧ wx.cell? ⟨bb, off + m * 4 + 3, none⟩ = some (.slice a' len' cap'))
          (first | exact ⟨d0, d3, f0, f1, f2, f3⟩ | exact ⟨(HOO.out _ _ (HW4.out.drew.then hW5)).1, (HOO.out _ _ (HW4.out.drew.then hW5)).2, HHC.out _ _ (HW4.out.drew.then hW5)⟩)
          (first | (go_at_call 20; refine (Hq.out _ (bs ++ [40] ++ T0 ++ [41, 32, 45, 62, 32]) ?a1 ?a2 ?a3 ?a4).mono ?_; (case a1 => exact (HW.out.below.trans HW4.out.below).drew); (case a2 => show B ≤ w4.heap.size; omega); (case a3 => exact HW4.out.drew.bld); (case a4 => simp only [List.length_append, List.length_cons, List.length_nil]; omega); rintro e w5 ⟨rfl, hW5⟩))
        have HW5 := Lib.hid (HW4.out.drew.then hW5)
        clear hW5
        go_wp2_with fail
        go_end0
        have hfin := HW.out.then HW5.out
        exact ⟨rfl, by rw [Ht0.out]; simpa [List.append_assoc] using hfin⟩
      -- a word, and the arguments in angle brackets
      have hword : ∃ wd : ByteArray, wd.size ≤ 28 ∧ (∃ j, Instr.findNow (.int .i64) (.int .i64 k) es.toList 0 = some (some (j, .string wd))) ∧ nodeText k s.toList (Ty.texts l) = wd.toList ++ (if l.length = 0 then [] else [60] ++ commas (Ty.texts l) ++ [62]) := by
        have hln : (Ty.texts l).length = l.length := texts_length l
        rcases har with ⟨h1 | h1 | h1 | h1, h0⟩ | ⟨h1 | h1, h0⟩ | ⟨h1, _⟩ | ⟨h1 | h1, h0⟩ | ⟨h1, _⟩ | ⟨h1, _⟩
        · subst h1; exact ⟨str [73, 110, 116], by decide, hmk (1, 1, .string (str [73, 110, 116])) (by simp [wordTab, str]), by rw [if_pos h0, str_toList]; rfl⟩
        · subst h1; exact ⟨str [66, 111, 111, 108], by decide, hmk (2, 2, .string (str [66, 111, 111, 108])) (by simp [wordTab, str]), by rw [if_pos h0, str_toList]; rfl⟩
        · subst h1; exact ⟨str [84, 101, 120, 116], by decide, hmk (3, 3, .string (str [84, 101, 120, 116])) (by simp [wordTab, str]), by rw [if_pos h0, str_toList]; rfl⟩
        · subst h1; exact ⟨str [85, 110, 105, 116], by decide, hmk (4, 4, .string (str [85, 110, 105, 116])) (by simp [wordTab, str]), by rw [if_pos h0, str_toList]; rfl⟩
        · subst h1; exact ⟨str [65, 114, 114, 97, 121], by decide, hmk (5, 5, .string (str [65, 114, 114, 97, 121])) (by simp [wordTab, str]), by rw [if_neg (by omega), str_toList]; simp [nodeText]⟩
        · subst h1; exact ⟨str [87, 101, 97, 107], by decide, hmk (6, 11, .string (str [87, 101, 97, 107])) (by simp [wordTab, str]), by rw [if_neg (by omega), str_toList]; simp [nodeText]⟩
        · subst h1
          refine ⟨s, by omega, hmk (9, 6, _) (by simp [wordTab]), ?_⟩
          by_cases h0 : l.length = 0
          · rw [if_pos h0]; simp [nodeText, hln, h0]
          · rw [if_neg h0]; simp [nodeText, hln, h0]
        · exact absurd h1 hconc2.1.1.1
        · subst h1
          refine ⟨⟨#[97, 110, 121, 32]⟩ ++ s, ?_, hmk (17, 9, _) (by simp [wordTab]), ?_⟩
          · rw [ByteArray.size_append]; show 4 + s.size ≤ 28; omega
          · rw [if_pos h0, toList_append]
            show _ = (str [97, 110, 121, 32]).toList ++ s.toList ++ []
            rw [str_toList, List.append_nil]; rfl
        · exact absurd h1 hconc2.1.1.2
        · exact absurd h1 h10
      obtain ⟨wd, hwd, ⟨jw, hlook⟩, htext⟩ := hword
      have Htext := Lib.hid (Htx.out.symm.trans htext)
      have hrl := fun (w3 : World) (h : w3.heap[w.heap.size + 2]? = some (.map es clk)) => run_look w3 es clk (w.heap.size + 2) k (.string wd) jw h hlook
      have hk8 : (k == 8) = false := beq_eq_false_iff_ne.2 (by omega)
      have hk10 : (k == 10) = false := beq_eq_false_iff_ne.2 h10
      have hlk := hrl w' hO2
      clear hlook htext hmk har hrl Htx
      have HO : ∀ (bs' : List UInt8) (wx : World), Wrote B b bs' w' wx → wx.cell? ⟨w.heap.size, 0, none⟩ = some (.pointer (some ⟨b, 0, none⟩)) ∧ wx.cell? ⟨w.heap.size + 1, 3, none⟩ = some (.slice a l.length cp) := fun bs' wx h =>
        ⟨h.cell HO0.out (by omega) (by decide) rfl, h.cell HO1.out (by omega) (by decide) rfl⟩
      have HOO := Lib.hid HO
      clear HO
      have hBw' : B ≤ w'.heap.size := by omega
      by_cases hl0 : l.length = 0
      · have ht0 : TX = wd.toList := by rw [Htext.out, if_pos hl0, List.append_nil]
        have Ht0 := Lib.hid ht0
        clear ht0 Htext
        go_wp2_with fail
        refine (write_any B b bs wd _ HW.out.bld ?g1 hBw').mono ?_
        case g1 => omega
        rintro e w2 ⟨rfl, hW2⟩
        obtain ⟨_, z3⟩ := HOO.out _ _ hW2
        have HW2 := Lib.hid (HW.out.then hW2)
        clear hW2
        go_wp2_with fail
        go_end0
        exact ⟨rfl, by rw [Ht0.out]; exact HW2.out⟩
      · have ht0 : TX = wd.toList ++ ([60] ++ commas (Ty.texts l) ++ [62]) := by rw [Htext.out, if_neg hl0]
        have hszl : bs.length + wd.toList.length + 1 + (commas (Ty.texts l)).length + 1 ≤ 10000000 := by
          rw [ht0] at hsz
          simp only [List.length_append, List.length_cons, List.length_nil] at hsz
          omega
        have Ht0 := Lib.hid ht0
        have hl1 : 0 < l.length := by omega
        have hab := (ha hl1).1
        subst hab
        clear ht0 Htext hsz ha
        go_wp2_with fail
        refine (write_any B b bs wd _ HW.out.bld ?g1 hBw').mono ?_
        case g1 => rw [← toList_length]; omega
        rintro e w2 ⟨rfl, hW2⟩
        obtain ⟨_, z3⟩ := HOO.out _ _ hW2
        have hz2 : w'.heap.size ≤ w2.heap.size := hW2.below.size
        have HW2 := Lib.hid hW2
        clear hW2
        go_wp2_with fail
        refine (write_any B b (bs ++ wd.toList) (⟨#[60]⟩ : ByteArray) _ HW2.out.bld ?g2 (by omega)).mono ?_
        case g2 => show _ + 1 ≤ _; rw [List.length_append]; omega
        rintro e w3 ⟨rfl, hW3⟩
        have hW3' := HW2.out.then hW3
        obtain ⟨u0, u3⟩ := HOO.out _ _ hW3'
        have hz3 : w'.heap.size ≤ w3.heap.size := hW3'.below.size
        have HW3 := Lib.hid hW3'
        clear hW3 hW3'
        go_wp2_with fail
        refine (tlist_any l (some ⟨bb, off, none⟩) cp ihl _ B b (bs ++ wd.toList ++ (⟨#[60]⟩ : ByteArray).toList) ?g3 (by omega) HW3.out.bld ?g4).mono ?_
        case g3 => exact HT.out.later (HW.out.below.trans HW3.out.below)
        case g4 =>
          rw [show (⟨#[60]⟩ : ByteArray).toList = [60] from by rw [ByteArray.toList_eq]]
          simp only [List.length_append, List.length_cons, List.length_nil]
          omega
        rintro e w4 ⟨rfl, hW4⟩
        have hW4' := HW3.out.then hW4
        have hz4 : w'.heap.size ≤ w4.heap.size := hW4'.below.size
        have HW4 := Lib.hid hW4'
        clear hW4 hW4'
        go_wp2_with fail
        refine (write_any B b _ (⟨#[62]⟩ : ByteArray) _ HW4.out.bld ?g5 (by omega)).mono ?_
        case g5 =>
          rw [show (⟨#[60]⟩ : ByteArray).toList = [60] from by rw [ByteArray.toList_eq]]
          simp only [List.length_append, List.length_cons, List.length_nil]
          show _ + 1 ≤ _
          omega
        rintro e w5 ⟨rfl, hW5⟩
        have HW5 := Lib.hid (HW4.out.then hW5)
        clear hW5
        go_wp2_with fail
        go_end0
        have hfin := HW.out.then HW5.out
        rw [show (⟨#[60]⟩ : ByteArray).toList = [60] from by rw [ByteArray.toList_eq], show (⟨#[62]⟩ : ByteArray).toList = [62] from by rw [ByteArray.toList_eq]] at hfin
        exact ⟨rfl, by rw [Ht0.out]; simpa [List.append_assoc] using hfin⟩
end Go.Proofs.YtnggblocfennaaaDoor
