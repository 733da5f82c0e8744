/- The reference's Valid and Concrete: contracts. -/
import Derived.Test.YtnggblocfennaaaDoorTyWalk
import Derived.Test.YtnggblocfennaaaDoorNode
namespace Go.Proofs.YtnggblocfennaaaDoor
open Go.RowKit

mutual
def Ty.all (vars : Bool) : Ty → Bool
  | .mk k s n l => (Ty.mk k s n l).okNode vars && Ty.allL vars l
def Ty.allL (vars : Bool) : List Ty → Bool
  | [] => true
  | t :: ts => t.all vars && Ty.allL vars ts
end
mutual
def Ty.conc : Ty → Bool
  | .mk k _ _ l => k != 7 && k != 8 && k != 12 && Ty.concL l
def Ty.concL : List Ty → Bool
  | [] => true
  | t :: ts => t.conc && Ty.concL ts
end

theorem Ty.allL_mem {vars : Bool} {l : List Ty} (h : Ty.allL vars l = true) : ∀ t ∈ l, t.all vars = true := by
  induction l with
  | nil => intro t ht; cases ht
  | cons a l ih =>
    intro t ht
    rw [Ty.allL, Bool.and_eq_true] at h
    cases ht with
    | head => exact h.1
    | tail _ ht => exact ih h.2 t ht
theorem Ty.concL_mem {l : List Ty} (h : Ty.concL l = true) : ∀ t ∈ l, t.conc = true := by
  induction l with
  | nil => intro t ht; cases ht
  | cons a l ih =>
    intro t ht
    rw [Ty.concL, Bool.and_eq_true] at h
    cases ht with
    | head => exact h.1
    | tail _ ht => exact ih h.2 t ht

theorem typeName_size {l : List UInt8} (h : typeName l = true) : l.length ≤ 24 := by
  unfold typeName at h
  split at h
  · simp
  · simp only [Bool.and_eq_true, decide_eq_true_eq] at h; omega

/-- what a good node of a spelled kind says of its name and its arguments -/
theorem nodeB_facts {vars : Bool} {k : Int} {s : List UInt8} {n : Int} {l : List Ty} (h : nodeB vars k s n l = true) (h12 : k ≠ 12) :
    n = 0 ∧ s.length ≤ 24 ∧ (((k = 1 ∨ k = 2 ∨ k = 3 ∨ k = 4) ∧ l.length = 0) ∨ ((k = 5 ∨ k = 11) ∧ l.length = 1) ∨ (k = 6 ∧ l.length ≤ 3) ∨ ((k = 7 ∨ k = 9) ∧ l.length = 0) ∨ (k = 8 ∧ l.length = 1) ∨ (k = 10 ∧ 1 ≤ l.length ∧ l.length ≤ 7)) := by
  by_cases hn : n = 0
  case neg => rw [nodeB_n vars s l h12 hn] at h; cases h
  subst hn
  refine ⟨rfl, ?_⟩
  unfold nodeB at h
  rw [if_neg h12, if_neg (by omega)] at h
  have hemp : ∀ {s : List UInt8}, s.isEmpty = true → s.length ≤ 24 := by intro s h; cases s with | nil => simp | cons _ _ => cases h
  by_cases h1 : k = 1 ∨ k = 2 ∨ k = 3 ∨ k = 4
  · rw [if_pos h1] at h
    simp only [Bool.and_eq_true, beq_iff_eq] at h
    exact ⟨hemp h.2, .inl ⟨h1, h.1⟩⟩
  rw [if_neg h1] at h
  by_cases h2 : k = 5 ∨ k = 11
  · rw [if_pos h2] at h
    simp only [Bool.and_eq_true, beq_iff_eq] at h
    exact ⟨hemp h.2, .inr (.inl ⟨h2, h.1⟩)⟩
  rw [if_neg h2] at h
  by_cases h3 : k = 6
  · rw [if_pos h3] at h
    simp only [Bool.and_eq_true, decide_eq_true_eq] at h
    exact ⟨typeName_size h.2, .inr (.inr (.inl ⟨h3, h.1.2⟩))⟩
  rw [if_neg h3] at h
  by_cases h4 : k = 7 ∨ k = 9
  · rw [if_pos h4] at h
    simp only [Bool.and_eq_true, beq_iff_eq] at h
    exact ⟨typeName_size h.2, .inr (.inr (.inr (.inl ⟨h4, h.1⟩)))⟩
  rw [if_neg h4] at h
  by_cases h5 : k = 8
  · rw [if_pos h5] at h
    simp only [Bool.and_eq_true, beq_iff_eq] at h
    exact ⟨typeName_size h.1.1.2, .inr (.inr (.inr (.inr (.inl ⟨h5, h.1.1.1⟩))))⟩
  rw [if_neg h5] at h
  by_cases h6 : k = 10
  · rw [if_pos h6] at h
    simp only [Bool.and_eq_true, decide_eq_true_eq] at h
    exact ⟨hemp h.2, .inr (.inr (.inr (.inr (.inr ⟨h6, h.1.1, h.1.2⟩))))⟩
  rw [if_neg h6] at h
  cases h

theorem nodeCells_of {w : World} {T : Ty} {cs : Array Value} (h : Ty.In w T cs) : ∃ k s n a len cap, cs = nodeCells k s n a len cap := by
  cases h with | mk k s n l a b off cp => exact ⟨k, s, n, a, l.length, cp, rfl⟩

set_option maxHeartbeats 1000000 in
theorem all_any (vars : Bool) (T : Ty) : ∀ (w : World) (cs : Array Value), Ty.In w T cs →
    Calls Tryd.prog 24 #[.agg cs, .bool vars] w fun e w' => e = .returned (.bool (T.all vars)) ∧ Below w.heap.size w w' := by
  induction T using Ty.ind with
  | h k s n l ih =>
    intro w cs hT
    have hn0 := fun o => node_all vars _ (w.alloc o) cs (hT.under (below1 w o))
    have hall : Ty.all vars (.mk k s n l) = ((Ty.mk k s n l).okNode vars && Ty.allL vars l) := by rw [Ty.all]
    cases hT with
    | mk _ _ _ _ a b off cp C ha hlen hs hk hn hc hi =>
    unfold maxLen at hlen
    unfold nodeCells at *
    generalize Ty.all vars (.mk k s n l) = R at hall ⊢
    generalize (Ty.mk k s n l).okNode vars = r1 at hall hn0
    have Hall := Lib.hid hall
    have Hn0 := Lib.hid hn0
    clear hall hn0
    cases r1 with
    | false =>
      go_enter Tryd.func24, Tryd.ntmps24
      go_wp2_with fail
      refine (Hn0.out _).mono ?_
      rintro e w1 ⟨rfl, hb1⟩
      go_wp2_with fail
      go_ret
      exact ⟨ret_bool (by rw [Hall.out]; rfl), (below1 w _).trans (hb1.mono (by simp))⟩
    | true =>
      go_enter Tryd.func24, Tryd.ntmps24
      go_wp2_with fail
      refine (Hn0.out _).mono ?_
      rintro e w1 ⟨rfl, hb1⟩
      have B1 : Below w.heap.size w w1 := (below1 w _).trans (hb1.mono (by simp))
      have hz1 : w.heap.size + 1 ≤ w1.heap.size := by have := hb1.size; simp at this; exact this
      have hbox : w1.cell? ⟨w.heap.size, 3, none⟩ = some (.slice a l.length cp) := by rw [hb1.cell (by simp)]; simp
      go_wp2_with fail
      go_loopw [5] (fun ii wr => ∃ (i : Nat), i ≤ l.length ∧ ii = .int .i64 i ∧ Below w1.heap.size w1 wr ∧ Ty.allL vars l = Ty.allL vars (l.drop i)) (fun ii _ => l.length - (intOf ii).toNat)
      case atStart => exact ⟨0, Nat.zero_le _, rfl, Below.refl _ _, by rw [List.drop_zero]⟩
      case round =>
        obtain ⟨i, hil, rfl, hbi, heq⟩ := hrel
        have Heq := Lib.hid heq
        clear heq
        have Bi : Below w.heap.size w wr := B1.trans (hbi.mono (by omega))
        have hboxi := cells_later hbi _ _ hbox
        by_cases hlt : i < l.length
        · have hab := ha (by omega)
          subst hab
          obtain ⟨c0, c1, c2, c3⟩ := four (fun i h j hj => cells_later Bi _ _ (hc i h j hj)) i hlt
          have hr := ih l[i] (List.getElem_mem hlt) wr _ ((hi i hlt).under Bi)
          have hvl : Ty.allL vars (l.drop i) = (l[i].all vars && Ty.allL vars (l.drop (i + 1))) := by rw [List.drop_eq_getElem_cons hlt, Ty.allL]
          generalize l[i].all vars = r2 at hr hvl
          have Hr := Lib.hid hr
          have Hvl := Lib.hid hvl
          clear hr hvl
          cases r2 with
          | false =>
            go_wp2_with fail
            refine Hr.out.mono ?_
            rintro e w2 ⟨rfl, hb2⟩
            go_wp2_with fail
            go_ret
            exact ⟨ret_bool (by rw [Hall.out, Heq.out, Hvl.out]; rfl), Bi.trans (hb2.mono Bi.size)⟩
          | true =>
            go_wp2_with fail
            refine Hr.out.mono ?_
            rintro e w2 ⟨rfl, hb2⟩
            go_wp2_with fail
            go_roundw
            case rel => exact ⟨i + 1, by omega, by go_num, hbi.trans (hb2.mono hbi.size), by rw [Heq.out, Hvl.out]; rfl⟩
            case measure => simp [intOf]; omega
        · go_wp2_with fail
          go_ret
          exact ⟨ret_bool (by rw [Hall.out, Heq.out, List.drop_eq_nil_of_le (by omega)]; rfl), Bi⟩

set_option maxHeartbeats 1000000 in
theorem refConcrete_any (T : Ty) : ∀ (w : World) (cs : Array Value), Ty.In w T cs →
    Calls Tryd.prog 14 #[.agg cs] w fun e w' => e = .returned (.bool T.conc) ∧ Below w.heap.size w w' := by
  induction T using Ty.ind with
  | h k s n l ih =>
    intro w cs hT
    have hall : Ty.conc (.mk k s n l) = (k != 7 && k != 8 && k != 12 && Ty.concL l) := by rw [Ty.conc]
    cases hT with
    | mk _ _ _ _ a b off cp C ha hlen hs hk hn hc hi =>
    unfold maxLen at hlen
    unfold nodeCells at *
    generalize Ty.conc (.mk k s n l) = R at hall ⊢
    have Hall := Lib.hid hall
    clear hall
    by_cases h7 : k = 7
    · subst h7
      go_enter Tryd.func14, Tryd.ntmps14
      go_wp2_with fail
      go_ret
      exact ⟨ret_bool (by rw [Hall.out]; rfl), below1 _ _⟩
    by_cases h8 : k = 8
    · subst h8
      go_enter Tryd.func14, Tryd.ntmps14
      go_wp2_with fail
      go_ret
      exact ⟨ret_bool (by rw [Hall.out]; rfl), below1 _ _⟩
    by_cases h12 : k = 12
    · subst h12
      go_enter Tryd.func14, Tryd.ntmps14
      go_wp2_with fail
      go_ret
      exact ⟨ret_bool (by rw [Hall.out]; rfl), below1 _ _⟩
    have e7 : (k == 7) = false := by simpa using h7
    have e8 : (k == 8) = false := by simpa using h8
    have e12 : (k == 12) = false := by simpa using h12
    have hall' : R = Ty.concL l := by rw [Hall.out]; simp [h7, h8, h12]
    have Hall := Lib.hid hall'
    clear hall'
    go_enter Tryd.func14, Tryd.ntmps14
    go_wp2_with fail
    go_loopw [3] (fun ii wr => ∃ (i : Nat), i ≤ l.length ∧ ii = .int .i64 i ∧ Below (w.heap.size + 1) (w.alloc (.cells #[.int .i64 k, .string s, .int .i64 n, .slice a l.length cp] 31)) wr ∧ Ty.concL l = Ty.concL (l.drop i)) (fun ii _ => l.length - (intOf ii).toNat)
    case atStart => exact ⟨0, Nat.zero_le _, rfl, Below.refl _ _, by rw [List.drop_zero]⟩
    case round =>
      obtain ⟨i, hil, rfl, hbi, heq⟩ := hrel
      have Heq := Lib.hid heq
      clear heq
      have Bi : Below w.heap.size w wr := (below1 w _).trans (hbi.mono (by omega))
      have hzi : w.heap.size + 1 ≤ wr.heap.size := by have := hbi.size; simp at this; exact this
      have hboxi : wr.cell? ⟨w.heap.size, 3, none⟩ = some (.slice a l.length cp) := by rw [hbi.cell (by simp)]; simp
      by_cases hlt : i < l.length
      · have hab := ha (by omega)
        subst hab
        obtain ⟨c0, c1, c2, c3⟩ := four (fun i h j hj => cells_later Bi _ _ (hc i h j hj)) i hlt
        have hr := ih l[i] (List.getElem_mem hlt) wr _ ((hi i hlt).under Bi)
        have hvl : Ty.concL (l.drop i) = (l[i].conc && Ty.concL (l.drop (i + 1))) := by rw [List.drop_eq_getElem_cons hlt, Ty.concL]
        generalize l[i].conc = r2 at hr hvl
        have Hr := Lib.hid hr
        have Hvl := Lib.hid hvl
        clear hr hvl
        cases r2 with
        | false =>
          go_wp2_with fail
          refine Hr.out.mono ?_
          rintro e w2 ⟨rfl, hb2⟩
          go_wp2_with fail
          go_ret
          exact ⟨ret_bool (by rw [Hall.out, Heq.out, Hvl.out]; rfl), Bi.trans (hb2.mono Bi.size)⟩
        | true =>
          go_wp2_with fail
          refine Hr.out.mono ?_
          rintro e w2 ⟨rfl, hb2⟩
          go_wp2_with fail
          go_roundw
          case rel => exact ⟨i + 1, by omega, by go_num, hbi.trans (hb2.mono hzi), by rw [Heq.out, Hvl.out]; rfl⟩
          case measure => simp [intOf]; omega
      · go_wp2_with fail
        go_ret
        exact ⟨ret_bool (by rw [Hall.out, Heq.out, List.drop_eq_nil_of_le (by omega)]; rfl), Bi⟩

set_option maxHeartbeats 1000000 in
theorem refValid_any (T : Ty) (w : World) (cs : Array Value) (hin : Ty.In w T cs) :
    Calls Tryd.prog 13 #[.agg cs] w fun e w' => e = .returned (.bool (decide (T.nodes 40 ≤ 40) && T.all false)) ∧ Below w.heap.size w w' := by
  have h1 := fun o => nodes_any T (w.alloc o) 40 cs (hin.under (below1 w o)) (by omega) (by omega)
  obtain ⟨k0, s0, n0, a0, len0, cap0, hcs⟩ := nodeCells_of hin
  subst hcs
  unfold nodeCells at *
  generalize T.nodes 40 = N at h1 ⊢
  have H1 := Lib.hid h1
  clear h1
  have Hin := Lib.hid hin
  clear hin
  have h2 := fun (w2 : World) (h : Below w.heap.size w w2) => all_any false T w2 _ (Hin.out.under h)
  generalize T.all false = R at h2 ⊢
  have H2 := Lib.hid h2
  clear h2
  by_cases hN : N ≤ 40
  · go_enter Tryd.func13, Tryd.ntmps13
    go_wp2_with fail
    refine (H1.out _).mono ?_
    rintro e w1 ⟨rfl, hb1⟩
    have B1 : Below w.heap.size w w1 := (below1 w _).trans (hb1.mono (by simp))
    have b0 : ∀ j, j < 4 → w1.cell? ⟨w.heap.size, j, none⟩ = (#[.int .i64 k0, .string s0, .int .i64 n0, .slice a0 len0 cap0] : Array Value)[j]? := fun j _ => by rw [hb1.cell (by simp)]; exact new_cell _ _ _ _ _ rfl
    have q0 : w1.cell? ⟨w.heap.size, 0, none⟩ = some (.int .i64 k0) := b0 0 (by omega)
    have q1 : w1.cell? ⟨w.heap.size, 1, none⟩ = some (.string s0) := b0 1 (by omega)
    have q2 : w1.cell? ⟨w.heap.size, 2, none⟩ = some (.int .i64 n0) := b0 2 (by omega)
    have q3 : w1.cell? ⟨w.heap.size, 3, none⟩ = some (.slice a0 len0 cap0) := b0 3 (by omega)
    go_wp2_with fail
    refine (H2.out _ B1).mono ?_
    rintro e w2 ⟨rfl, hb2⟩
    go_wp2_with fail
    go_ret
    exact ⟨ret_bool (by rw [decide_eq_true hN]; simp), B1.trans (hb2.mono B1.size)⟩
  · have hN' : 40 < N := by omega
    go_enter Tryd.func13, Tryd.ntmps13
    go_wp2_with fail
    refine (H1.out _).mono ?_
    rintro e w1 ⟨rfl, hb1⟩
    go_wp2_with fail
    go_ret
    exact ⟨ret_bool (by rw [decide_eq_false (by omega)]; simp), (below1 w _).trans (hb1.mono (by simp))⟩
end Go.Proofs.YtnggblocfennaaaDoor
