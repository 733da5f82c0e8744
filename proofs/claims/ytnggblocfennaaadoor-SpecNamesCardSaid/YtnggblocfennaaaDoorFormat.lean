/- types.Format: a good concrete type's text. -/
import Derived.Test.YtnggblocfennaaaDoorTyp
import Derived.Test.YtnggblocfennaaaDoorLaw
namespace Go.Proofs.YtnggblocfennaaaDoor
open Go.RowKit

theorem okNode_open (t : Ty) (h : t.okNode false = true) : t.okNode true = true := by
  cases t with
  | mk k s n l =>
    show nodeB true k s.toList n l = true
    have h' : nodeB false k s.toList n l = true := h
    by_cases h12 : k = 12
    · subst h12; rw [nodeB_12] at h'; simp at h'
    · unfold nodeB at h' ⊢
      rw [if_neg h12] at h' ⊢
      exact h'
theorem all_open (t : Ty) : t.all false = true → t.all true = true := by
  induction t using Ty.ind with
  | h k s n l ih =>
    intro h
    rw [Ty.all, Bool.and_eq_true] at h ⊢
    refine ⟨okNode_open _ h.1, ?_⟩
    have : ∀ (l : List Ty), (∀ t ∈ l, t.all false = true → t.all true = true) → Ty.allL false l = true → Ty.allL true l = true := by
      intro l
      induction l with
      | nil => intro _ _; rfl
      | cons a l ihl =>
        intro h hl
        rw [Ty.allL, Bool.and_eq_true] at hl ⊢
        exact ⟨h a (.head _) hl.1, ihl (fun t ht => h t (.tail _ ht)) hl.2⟩
    exact this l ih h.2

theorem fresh_builder (w : World) : Bld w.heap.size w.heap.size [] (w.alloc (.cells #[.pointer none, .slice none 0 0] 42)) :=
  Lib.IsBuilderF.of (Lib.fresh_isBuilder 42 5 w)

set_option maxHeartbeats 1000000 in
theorem format_any (T : Ty) (w : World) (cs : Array Value) (hin : Ty.In w T cs) (hall : T.all false = true) (hconc : T.conc = true) (hsize : T.nodes 40 ≤ 40) :
    Calls Tryd.prog 11 #[.agg cs] w fun e w' => e = .returned (.tuple #[.string (str T.text), .int .i64 0]) ∧ Below w.heap.size w w' := by
  have h1 := fun o => open_any T (w.alloc o) cs (hin.under (below1 w o))
  rw [right_eq, all_open T hall, decide_eq_true hsize] at h1
  have H1 := Lib.hid h1
  clear h1
  have hsz : (T.text.length : Int) ≤ 2000 := by
    have h2 := text_short false T hall hconc
    rw [Ty.nodes_eq 40 (by omega)] at hsize
    omega
  have htyp := typ_any T hall hconc
  obtain ⟨k0, s0, n0, a0, len0, cap0, hcs⟩ := nodeCells_of hin
  subst hcs
  unfold nodeCells at *
  have Hin := Lib.hid hin
  clear hin
  unfold typSays at htyp
  generalize T.text = TX at htyp hsz ⊢
  have Htyp := Lib.hid htyp
  clear htyp
  go_enter Tryd.func11, Tryd.ntmps11
  go_wp2_with fail
  refine (H1.out _).mono ?_
  rintro e w1 ⟨rfl, hb1⟩
  have b0 : ∀ j, j < 4 → w1.cell? ⟨w.heap.size, j, none⟩ = (#[.int .i64 k0, .string s0, .int .i64 n0, .slice a0 len0 cap0] : Array Value)[j]? := fun j _ => by rw [hb1.cell (by simp)]; exact new_cell _ _ _ _ _ rfl
  have q0 : ∀ o, (w1.alloc o).cell? ⟨w.heap.size, 0, none⟩ = some (.int .i64 k0) := fun o => old_cell (b0 0 (by omega)) o
  have q1 : ∀ o, (w1.alloc o).cell? ⟨w.heap.size, 1, none⟩ = some (.string s0) := fun o => old_cell (b0 1 (by omega)) o
  have q2 : ∀ o, (w1.alloc o).cell? ⟨w.heap.size, 2, none⟩ = some (.int .i64 n0) := fun o => old_cell (b0 2 (by omega)) o
  have q3 : ∀ o, (w1.alloc o).cell? ⟨w.heap.size, 3, none⟩ = some (.slice a0 len0 cap0) := fun o => old_cell (b0 3 (by omega)) o
  have B1 : Below w.heap.size w w1 := (below1 w _).trans (hb1.mono (by simp))
  clear b0 hb1
  go_wp2_with fail
  refine (Htyp.out _ _ w1.heap.size w1.heap.size [] ?g1 ?g2 ?g3 ?g4).mono ?_
  case g1 => exact ((Hin.out.under B1).under_size).later (below1 w1 _) (Nat.le_refl _)
  case g2 => simp
  case g3 => exact fresh_builder w1
  case g4 => simp; omega
  rintro e w2 ⟨rfl, hW2⟩
  rw [List.nil_append] at hW2
  have hz2 : w1.heap.size + 1 ≤ w2.heap.size := by have := hW2.below.size; simp at this; exact this
  have HW2 := Lib.hid hW2
  clear hW2
  go_wp2_with fail
  refine (Tryd.Builder_String_any_k w1.heap.size w1.heap.size TX _ HW2.out.bld (by omega)).mono ?_
  rintro e w3 ⟨rfl, hb3, hbel, _⟩
  clear hb3
  go_wp2_with fail
  go_ret2
  exact ⟨rfl, B1.trans (((below1 w1 _).trans HW2.out.below).trans hbel |>.mono B1.size)⟩
end Go.Proofs.YtnggblocfennaaaDoor
