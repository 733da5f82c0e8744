/- The plain laws: the program's tests of a type are the reference's. -/
import Derived.Test.YtnggblocfennaaaDoorRight
import Derived.Test.YtnggblocfennaaaDoorText
namespace Go.Proofs.YtnggblocfennaaaDoor
open Go.RowKit

mutual
def Ty.size : Ty → Int
  | .mk _ _ _ l => 1 + Ty.sizeL l
def Ty.sizeL : List Ty → Int
  | [] => 0
  | t :: ts => t.size + Ty.sizeL ts
end

theorem Ty.size_pos (t : Ty) : 1 ≤ t.size := by
  induction t using Ty.ind with
  | h k s n l ih =>
    have key : ∀ (l : List Ty), (∀ t ∈ l, 1 ≤ t.size) → 0 ≤ Ty.sizeL l := by
      intro l
      induction l with
      | nil => intro _; simp [Ty.sizeL]
      | cons a l ihl => intro h; rw [Ty.sizeL]; have := h a (.head _); have := ihl (fun t ht => h t (.tail _ ht)); omega
    have := key l ih
    rw [Ty.size]; omega
theorem Ty.sizeL_nonneg (l : List Ty) : 0 ≤ Ty.sizeL l := by
  induction l with
  | nil => simp [Ty.sizeL]
  | cons a l ih => rw [Ty.sizeL]; have := a.size_pos; omega

theorem Ty.nodes_eq (most : Int) (h : 0 ≤ most) (t : Ty) : t.nodes most = min t.size (most + 1) := by
  induction t using Ty.ind with
  | h k s n l ih =>
    have key : ∀ (l : List Ty) (m : Int), 1 ≤ m → (∀ t ∈ l, t.nodes most = min t.size (most + 1)) → min (Ty.nodesL most l m) (most + 1) = min (m + Ty.sizeL l) (most + 1) := by
      intro l
      induction l with
      | nil => intro m _ _; simp [Ty.nodesL, Ty.sizeL]
      | cons a l ihl =>
        intro m hm hl
        rw [Ty.nodesL, Ty.sizeL]
        have h1 := a.size_pos
        have h2 := Ty.sizeL_nonneg l
        split
        · have e := hl a (.head _)
          by_cases hle : a.size ≤ most + 1
          · rw [Int.min_eq_left hle] at e
            rw [ihl _ (by omega) (fun t ht => hl t (.tail _ ht)), e, Int.add_assoc]
          · rw [Int.min_eq_right (by omega)] at e
            rw [ihl _ (by omega) (fun t ht => hl t (.tail _ ht)), e, Int.min_eq_right (by omega), Int.min_eq_right (by omega)]
        · rw [Int.min_eq_right (by omega), Int.min_eq_right (by omega)]
    rw [Ty.nodes, Ty.size, key l 1 (by omega) ih]

theorem wrap_small {σ : Int} (h0 : 0 ≤ σ) (h1 : σ ≤ 1000) : wrap64 (σ - 1) = σ - 1 := IntWalk.wrap64_in _ ⟨by omega, by omega⟩

theorem visit_right (vars : Bool) (t : Ty) : ∀ σ : Int, 0 ≤ σ → σ ≤ 1000 →
    (visit (rightStep vars) t σ).1 = (decide (t.size ≤ σ) && t.all vars) ∧ ((visit (rightStep vars) t σ).1 = true → (visit (rightStep vars) t σ).2 = σ - t.size) := by
  induction t using Ty.ind with
  | h k s n l ih =>
    intro σ h0 h1
    have key : ∀ (l : List Ty) (σ : Int), (∀ t ∈ l, ∀ σ : Int, 0 ≤ σ → σ ≤ 1000 → (visit (rightStep vars) t σ).1 = (decide (t.size ≤ σ) && t.all vars) ∧ ((visit (rightStep vars) t σ).1 = true → (visit (rightStep vars) t σ).2 = σ - t.size)) → 0 ≤ σ → σ ≤ 1000 →
        (visitL (rightStep vars) l σ).1 = (decide (Ty.sizeL l ≤ σ) && Ty.allL vars l) ∧ ((visitL (rightStep vars) l σ).1 = true → (visitL (rightStep vars) l σ).2 = σ - Ty.sizeL l) := by
      intro l
      induction l with
      | nil => intro σ _ h0 _; simp [visitL, Ty.sizeL, Ty.allL, h0]
      | cons a l ihl =>
        intro σ hl h0 h1
        obtain ⟨e1, e2⟩ := hl a (.head _) σ h0 h1
        have hs := Ty.sizeL_nonneg l
        have hp := a.size_pos
        rw [visitL, Ty.sizeL, Ty.allL]
        cases hv : (visit (rightStep vars) a σ).1 with
        | false =>
          rw [hv] at e1
          simp only [Bool.false_eq_true, if_false]
          refine ⟨?_, fun h => by cases h⟩
          by_cases ha : a.all vars = true
          · rw [ha, Bool.and_true] at e1
            have := of_decide_eq_false e1.symm
            rw [decide_eq_false (by omega)]; rfl
          · simp only [Bool.not_eq_true] at ha
            rw [ha]; simp
        | true =>
          rw [hv] at e1
          have hσ := e2 hv
          have e3 := e1.symm
          rw [Bool.and_eq_true, decide_eq_true_eq] at e3
          simp only [if_true]
          obtain ⟨g1, g2⟩ := ihl (σ - a.size) (fun t ht => hl t (.tail _ ht)) (by omega) (by omega)
          rw [hσ, g1, e3.2]
          refine ⟨?_, fun h => ?_⟩
          · congr 1
            · rw [Bool.eq_iff_iff, decide_eq_true_eq, decide_eq_true_eq]; omega
          · rw [g2 (by rw [g1]; exact h)]; omega
    have hs := Ty.sizeL_nonneg l
    rw [visit, Ty.size, Ty.all]
    have hst : rightStep vars (.mk k s n l) σ = (decide (0 ≤ σ - 1) && (Ty.mk k s n l).okNode vars, σ - 1) := by
      unfold rightStep; rw [wrap_small h0 h1]
    rw [hst]
    cases hn : (decide (0 ≤ σ - 1) && (Ty.mk k s n l).okNode vars) with
    | false =>
      simp only [Bool.false_eq_true, if_false]
      refine ⟨?_, fun h => by cases h⟩
      rw [Bool.and_eq_false_iff, decide_eq_false_iff_not] at hn
      rcases hn with hn | hn
      · rw [decide_eq_false (by omega)]; rfl
      · rw [hn]; simp
    | true =>
      rw [Bool.and_eq_true, decide_eq_true_eq] at hn
      simp only [if_true]
      obtain ⟨g1, g2⟩ := key l (σ - 1) ih (by omega) (by omega)
      rw [g1, hn.2]
      refine ⟨?_, fun h => ?_⟩
      · congr 1
        · rw [Bool.eq_iff_iff, decide_eq_true_eq, decide_eq_true_eq]; omega
      · rw [g2 (by rw [g1]; exact h)]; omega

theorem right_eq (vars : Bool) (t : Ty) : (visit (rightStep vars) t 40).1 = (decide (t.nodes 40 ≤ 40) && t.all vars) := by
  rw [(visit_right vars t 40 (by omega) (by omega)).1, Ty.nodes_eq 40 (by omega)]
  congr 1
  rw [Bool.eq_iff_iff, decide_eq_true_eq, decide_eq_true_eq]; omega

theorem visit_conc (t : Ty) : (visit concStep t ()).1 = t.conc := by
  induction t using Ty.ind with
  | h k s n l ih =>
    have key : ∀ (l : List Ty), (∀ t ∈ l, (visit concStep t ()).1 = t.conc) → (visitL concStep l ()).1 = Ty.concL l := by
      intro l
      induction l with
      | nil => intro _; rfl
      | cons a l ihl =>
        intro hl
        rw [visitL, Ty.concL, ← hl a (.head _)]
        cases hv : (visit concStep a ()).1 with
        | false => rfl
        | true => simp only [if_true, Bool.true_and]; exact ihl (fun t ht => hl t (.tail _ ht))
    rw [visit, Ty.conc]
    have hst : concStep (.mk k s n l) () = (k != 7 && k != 8 && k != 12, ()) := rfl
    rw [hst]
    cases hn : (k != 7 && k != 8 && k != 12) with
    | false => rfl
    | true => simp only [if_true, Bool.true_and]; exact key l ih

/-- a good concrete type is spelled -/
theorem spells_of (vars : Bool) (t : Ty) : t.all vars = true → t.conc = true → t.spells = true := by
  induction t using Ty.ind with
  | h k s n l ih =>
    intro ha hc
    rw [Ty.all, Bool.and_eq_true] at ha
    rw [Ty.conc] at hc
    simp only [Bool.and_eq_true, bne_iff_ne, ne_eq] at hc
    obtain ⟨_, _, har⟩ := nodeB_facts (show nodeB vars k s.toList n l = true from ha.1) hc.1.2
    have hl : Ty.spellsL l = true := by
      have : ∀ (l : List Ty), (∀ t ∈ l, t.spells = true) → Ty.spellsL l = true := by
        intro l
        induction l with
        | nil => intro _; rfl
        | cons a l ih => intro h; rw [Ty.spellsL, h a (.head _), ih (fun t ht => h t (.tail _ ht))]; rfl
      exact this l (fun t ht => ih t ht (Ty.allL_mem ha.2 t ht) (Ty.concL_mem hc.2 t ht))
    rw [Ty.spells, hl, Bool.and_true]
    unfold spellNode
    simp only [Bool.or_eq_true, Bool.and_eq_true, beq_iff_eq, decide_eq_true_eq]
    omega

theorem commas_length (L : List (List UInt8)) : (commas L).length ≤ (L.map fun x => x.length + 2).sum := by
  cases L with
  | nil => simp [commas]
  | cons t ts =>
    have : ∀ (ts : List (List UInt8)), (ts.flatMap fun x => [44, 32] ++ x).length = (ts.map fun x => x.length + 2).sum := by
      intro ts
      induction ts with
      | nil => rfl
      | cons a ts ih => rw [List.flatMap_cons, List.length_append, ih, List.map_cons, List.sum_cons, List.length_append]; simp only [List.length_cons, List.length_nil]; omega
    simp only [commas, List.length_append, this ts, List.map_cons, List.sum_cons]
    omega

/-- the text of a good type is short -/
theorem text_short (vars : Bool) (t : Ty) : t.all vars = true → t.conc = true → (t.text.length : Int) + 2 ≤ 40 * t.size := by
  induction t using Ty.ind with
  | h k s n l ih =>
    intro ha hc
    rw [Ty.all, Bool.and_eq_true] at ha
    rw [Ty.conc] at hc
    simp only [Bool.and_eq_true, bne_iff_ne, ne_eq] at hc
    obtain ⟨_, hs24, har⟩ := nodeB_facts (show nodeB vars k s.toList n l = true from ha.1) hc.1.2
    have hsum : ∀ (l : List Ty), (∀ t ∈ l, (t.text.length : Int) + 2 ≤ 40 * t.size) → ((((Ty.texts l).map fun x => x.length + 2).sum : Nat) : Int) ≤ 40 * Ty.sizeL l := by
      intro l
      induction l with
      | nil => intro _; simp [Ty.texts, Ty.sizeL]
      | cons a l ihl =>
        intro h
        have h1 := h a (.head _)
        have h2 := ihl (fun t ht => h t (.tail _ ht))
        rw [Ty.texts, Ty.sizeL]
        simp only [List.map_cons, List.sum_cons]
        omega
    have h1 := hsum l (fun t ht => ih t ht (Ty.allL_mem ha.2 t ht) (Ty.concL_mem hc.2 t ht))
    have h2 := commas_length (Ty.texts l)
    have h3 : (nodeText k s.toList (Ty.texts l)).length ≤ 38 + (commas (Ty.texts l)).length := by
      unfold nodeText
      repeat' split
      all_goals (try simp only [List.length_append, List.length_cons, List.length_nil])
      all_goals first
        | omega
        | (have g1 := commas_take_le (Ty.texts l) ((Ty.texts l).length - 1)
           by_cases hl : (Ty.texts l).length = 0
           · have : Ty.texts l = [] := List.eq_nil_of_length_eq_zero hl
             rw [this]; simp [commas]
           · have e : Ty.texts l = (Ty.texts l).take ((Ty.texts l).length - 1) ++ [(Ty.texts l).getD ((Ty.texts l).length - 1) []] := by
               conv => lhs; rw [← List.take_append_drop ((Ty.texts l).length - 1) (Ty.texts l)]
               congr 1
               rw [List.drop_eq_getElem_cons (by omega), List.drop_eq_nil_of_le (by omega), List.getD_eq_getElem?_getD, List.getElem?_eq_getElem (by omega)]
               rfl
             have g2 : ((commas ((Ty.texts l).take ((Ty.texts l).length - 1))).length + ((Ty.texts l).getD ((Ty.texts l).length - 1) []).length) ≤ (commas (Ty.texts l)).length := by
               conv => rhs; rw [e]
               by_cases h0 : ((Ty.texts l).take ((Ty.texts l).length - 1)).length = 0
               · rw [List.eq_nil_of_length_eq_zero h0]; simp [commas]
               · rw [commas_snoc _ _ (by omega)]; simp only [List.length_append]; omega
             omega)
    rw [text_eq, Ty.size]
    omega
end Go.Proofs.YtnggblocfennaaaDoor
