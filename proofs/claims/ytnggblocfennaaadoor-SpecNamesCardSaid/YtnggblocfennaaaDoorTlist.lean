/- types.text.list: several types' texts, written to a Builder. -/
import Derived.Test.YtnggblocfennaaaDoorText
import Derived.Test.YtnggblocfennaaaDoorKept
import Derived.Test.YtnggblocfennaaaDoorShelf
import Derived.Laws.EntriesVeiled
namespace Go.Proofs.YtnggblocfennaaaDoor
open Go.RowKit

/-- a Builder in block b that holds these bytes; it and its buffer lie from B on -/
def Bld (B b : Nat) (bs : List UInt8) (w : World) : Prop := Lib.IsBuilderF 42 5 B b (Lib.byteCells bs) w
/-- what a write to the Builder leaves -/
structure Wrote (B b : Nat) (bs : List UInt8) (w w' : World) : Prop where
  bld : Bld B b bs w'
  below : Below B w w'
  others : Lib.OthersKept 5 (some b) w w'

theorem Wrote.then {B b : Nat} {bs bs' : List UInt8} {w w1 w2 : World} (h : Wrote B b bs w w1) (k : Wrote B b bs' w1 w2) : Wrote B b bs' w w2 := ⟨k.bld, h.below.trans k.below, h.others.trans k.others⟩
theorem Wrote.alloc {B b : Nat} {bs : List UInt8} {w : World} (h : Bld B b bs w) (hB : B ≤ w.heap.size) (o : Obj) : Wrote B b bs w (w.alloc o) := ⟨h.alloc o, (Below.refl _ _).alloc hB o, (Lib.OthersKept.refl _ _ _).alloc o⟩
theorem Wrote.refl {B b : Nat} {bs : List UInt8} {w : World} (h : Bld B b bs w) : Wrote B b bs w w := ⟨h, Below.refl _ _, Lib.OthersKept.refl _ _ _⟩
theorem Wrote.drew {B b : Nat} {bs : List UInt8} {w w' : World} (h : Wrote B b bs w w') : Wrote B b bs w w'.drew := ⟨h.bld.elim (fun x => .inl x.drew) (fun x => .inr x.drew), h.below.drew, h.others.drew⟩

/-- a box of one's own stays -/
theorem Wrote.cell {B b : Nat} {bs : List UInt8} {w w' : World} (h : Wrote B b bs w w') {g t j : Nat} {c : Array Value} {v : Value} (hg : w.heap[g]? = some (.cells c t)) (hb : g ≠ b) (ht : t ≠ 5) (hv : c[j]? = some v) : w'.cell? ⟨g, j, none⟩ = some v := by
  have := h.others g _ hg (by simpa using hb) (by intro c' fz e; injection e with _ e2 _; exact ht e2)
  rw [cell_of_row _ _ j c t _ this]; exact hv
theorem Wrote.box {B b : Nat} {bs : List UInt8} {w w' : World} (h : Wrote B b bs w w') {g t : Nat} {c : Array Value} (hg : w.heap[g]? = some (.cells c t)) (hb : g ≠ b) (ht : t ≠ 5) : w'.heap[g]? = some (.cells c t) :=
  h.others g _ hg (by simpa using hb) (by intro c' fz e; injection e with _ e2 _; exact ht e2)

theorem write_any (B b : Nat) (bs : List UInt8) (s : ByteArray) (w : World) (h : Bld B b bs w) (hlen : bs.length + s.size ≤ 100000000) (hBw : B ≤ w.heap.size) :
    Calls Tryd.prog 23 #[.pointer (some ⟨b, 0, none⟩), .string s] w fun e w' => e = .returned (.tuple #[.int .i64 s.size, .nilIface]) ∧ Wrote B b (bs ++ s.toList) w w' :=
  (Tryd.Builder_WriteString_k B b (Lib.byteCells bs) s w h (by rw [Lib.byteCells_length]; omega) hBw).mono fun e w' ⟨h1, h2, h3, h4⟩ => ⟨h1, .inr (by rw [Lib.strCells_eq, ← Lib.byteCells_append] at h2; rw [ByteArray.toList_eq]; exact h2), h3, h4⟩

def typSays (t : Ty) : Prop := ∀ (w : World) (cs : Array Value) (B b : Nat) (bs : List UInt8), Ty.Under B w t cs → B ≤ w.heap.size → Bld B b bs w → bs.length + t.text.length ≤ 10000000 →
  Calls Tryd.prog 20 #[.agg #[.pointer (some ⟨b, 0, none⟩)], .agg cs] w fun e w' => e = .returned (.tuple #[]) ∧ Wrote B b (bs ++ t.text) w w'

/-- a list of types below B -/
def TysUnder (B : Nat) (w : World) (a : Option Addr) (l : List Ty) : Prop :=
  l.length ≤ maxLen ∧ ∃ (b off : Nat) (C : Nat → Nat → Value), (0 < l.length → a = some ⟨b, off, none⟩ ∧ b < B) ∧ (∀ i, i < l.length → ∀ j, j < 4 → w.cell? ⟨b, off + (i * 4 + j), none⟩ = some (C i j)) ∧
    ∀ i, (h : i < l.length) → Ty.Under B w l[i] #[C i 0, C i 1, C i 2, C i 3]
theorem TysUnder.later {B : Nat} {w w' : World} {a : Option Addr} {l : List Ty} (hb : Below B w w') (h : TysUnder B w a l) : TysUnder B w' a l := by
  obtain ⟨h0, b, off, C, ha, hc, hi⟩ := h
  refine ⟨h0, b, off, C, ha, fun i h j hj => ?_, fun i h => (hi i h).later hb (Nat.le_refl _)⟩
  rw [hb.cell (show b < B from (ha (by omega)).2)]; exact hc i h j hj

theorem Bld.lt {B b : Nat} {bs : List UInt8} {w : World} (h : Bld B b bs w) : b < w.heap.size := h.elim (fun x => x.lt) (fun x => x.lt)

set_option maxHeartbeats 1000000 in
theorem tlist_any (l : List Ty) (a : Option Addr) (cp : Nat) (ih : ∀ t ∈ l, typSays t) (w : World) (B b : Nat) (bs : List UInt8) (hl : TysUnder B w a l) (hB : B ≤ w.heap.size) (hbl : Bld B b bs w) (hsz : bs.length + (commas (Ty.texts l)).length ≤ 10000000) :
    Calls Tryd.prog 30 #[.agg #[.pointer (some ⟨b, 0, none⟩)], .slice a l.length cp] w fun e w' => e = .returned (.tuple #[]) ∧ Wrote B b (bs ++ commas (Ty.texts l)) w w' := by
  rw [Ty.texts_eq] at hsz ⊢
  obtain ⟨hlen, bb, off, C, ha, hc, hi⟩ := hl
  unfold maxLen at hlen
  have hbw := hbl.lt
  go_enter Tryd.func30, Tryd.ntmps30
  go_wp2_with fail
  have hW0 := Wrote.alloc hbl hB (.cells #[.pointer (some ⟨b, 0, none⟩)] 44)
  generalize hw0 : w.alloc (.cells #[.pointer (some ⟨b, 0, none⟩)] 44) = w0 at hW0 ⊢
  have hbox0 : w0.heap[w.heap.size]? = some (.cells #[.pointer (some ⟨b, 0, none⟩)] 44) := by rw [← hw0]; exact heap_alloc_new w _
  have hz0 : w.heap.size + 1 ≤ w0.heap.size := by rw [← hw0]; simp
  clear hw0
  go_loopw [11] (fun ii wr => ∃ (i : Nat), i ≤ l.length ∧ ii = .int .i64 i ∧ Wrote B b (bs ++ commas ((l.take i).map Ty.text)) w0 wr) (fun ii _ => l.length - (intOf ii).toNat)
  case atStart => exact ⟨0, Nat.zero_le _, rfl, by simpa [commas] using Wrote.refl hW0.bld⟩
  case round =>
    obtain ⟨i, hil, rfl, hWi⟩ := hrel
    have hbel := hW0.below.trans hWi.below
    have hzr : w0.heap.size ≤ wr.heap.size := hWi.below.size
    have hboxi : wr.cell? ⟨w.heap.size, 0, none⟩ = some (.pointer (some ⟨b, 0, none⟩)) := hWi.cell hbox0 (by omega) (by decide) rfl
    by_cases hlt : i < l.length
    · have hab := (ha (by omega)).1
      have hbB := (ha (by omega)).2
      subst hab
      obtain ⟨c0, c1, c2, c3⟩ := four (fun i h j hj => by rw [hbel.cell (show bb < B from hbB)]; exact hc i h j hj) i hlt
      have hu := (hi i hlt).later hbel (Nat.le_refl _)
      obtain ⟨k', s', n', a', len', cap', e0, e1, e2, e3⟩ := Ty.cells4 (hi i hlt).isin
      rw [e0] at c0
      rw [e1] at c1
      rw [e2] at c2
      rw [e3] at c3
      simp only [e0, e1, e2, e3] at hu
      clear e0 e1 e2 e3
      have hz1 : bs.length + (commas ((l.take (i + 1)).map Ty.text)).length ≤ 10000000 := by
        have := commas_take_le (l.map Ty.text) (i + 1)
        rw [List.map_take]; omega
      have hstep : commas ((l.take (i + 1)).map Ty.text) = if i = 0 then l[i].text else commas ((l.take i).map Ty.text) ++ [44, 32] ++ l[i].text := by
        rw [List.take_succ_eq_append_getElem hlt, List.map_append]
        by_cases h0 : i = 0
        · subst h0; simp [commas]
        · rw [if_neg h0]; exact commas_snoc _ _ (by simp; omega)
      have hr := ih l[i] (List.getElem_mem hlt)
      unfold typSays at hr
      rw [hstep] at hz1
      generalize l[i].text = tx at hr hstep hz1
      have Hr := Lib.hid hr
      have Hs := Lib.hid hstep
      have Hz := Lib.hid hz1
      have Hu := Lib.hid hu
      have HW := Lib.hid hWi
      clear hr hstep hz1 hu hWi
      by_cases h0 : i = 0
      · subst h0
        simp only [Nat.zero_mul, Nat.add_zero] at c0 c1 c2 c3
        have hz := Hz.out
        simp only [if_true] at hz
        go_wp2_with fail
        refine (Hr.out _ _ B b bs ?h1 ?h2 ?h3 ?h4).mono ?_
        case h1 => exact Hu.out.later ((Below.refl _ _).alloc (by omega) _) (Nat.le_refl _)
        case h2 => simp; omega
        case h3 =>
          have hq := HW.out.bld
          rw [show bs ++ commas ((l.take 0).map Ty.text) = bs from by simp [commas]] at hq
          exact hq.alloc _
        case h4 => omega
        rintro e w2 ⟨rfl, hW2⟩
        go_wp2_with fail
        go_roundw
        case rel =>
          refine ⟨1, by omega, by go_num, ?_⟩
          rw [Hs.out]
          exact (HW.out.then (Wrote.alloc HW.out.bld (by omega) _)).then hW2
        case measure => simp [intOf]; omega
      · have h1 : 0 < i := by omega
        have hz := Hz.out
        rw [if_neg h0] at hz
        simp only [List.length_append, List.length_cons, List.length_nil] at hz
        have hboxa : ∀ o, (wr.alloc o).cell? ⟨w.heap.size, 0, none⟩ = some (.pointer (some ⟨b, 0, none⟩)) := fun o => old_cell hboxi o
        go_wp2_with fail
        refine (write_any B b (bs ++ commas ((l.take i).map Ty.text)) _ _ ?h1 ?h2 ?h3).mono ?_
        case h1 => exact HW.out.bld.alloc _
        case h2 => show _ + 2 ≤ _; simp only [List.length_append]; omega
        case h3 => simp; omega
        rintro e w2 ⟨rfl, hW2⟩
        have hW2' := (Wrote.alloc HW.out.bld (show B ≤ wr.heap.size by omega) (.cells #[.int .i64 k', .string s', .int .i64 n', .slice a' len' cap'] 31)).then hW2
        have hbx : (wr.alloc (.cells #[.int .i64 k', .string s', .int .i64 n', .slice a' len' cap'] 31)).heap[wr.heap.size]? = some (.cells #[.int .i64 k', .string s', .int .i64 n', .slice a' len' cap'] 31) := heap_alloc_new wr _
        have g0 := hW2.cell (j := 0) hbx (by omega) (by decide) rfl
        have g1 := hW2.cell (j := 1) hbx (by omega) (by decide) rfl
        have g2 := hW2.cell (j := 2) hbx (by omega) (by decide) rfl
        have g3 := hW2.cell (j := 3) hbx (by omega) (by decide) rfl
        have hz2 : wr.heap.size ≤ w2.heap.size := hW2'.below.size
        have HW2 := Lib.hid hW2'
        clear hW2 hW2' hbx
        go_wp2_with fail
        refine (Hr.out _ _ B b (bs ++ commas ((l.take i).map Ty.text) ++ (⟨#[44, 32]⟩ : ByteArray).toList) ?h1 ?h2 ?h3 ?h4).mono ?_
        case h1 => exact Hu.out.later HW2.out.below (Nat.le_refl _)
        case h2 => omega
        case h3 => exact HW2.out.bld
        case h4 => rw [ByteArray.toList_eq]; simp only [List.length_append]; show _ + 2 + _ ≤ _; omega
        rintro e w3 ⟨rfl, hW3⟩
        go_wp2_with fail
        go_roundw
        case rel =>
          refine ⟨i + 1, by omega, by go_num, ?_⟩
          rw [Hs.out, if_neg h0]
          have := (HW.out.then HW2.out).then hW3
          rw [ByteArray.toList_eq] at this
          simpa [List.append_assoc] using this
        case measure => simp [intOf]; omega
    · have e1 : l.take i = l := List.take_of_length_le (by omega)
      rw [e1] at hWi
      have HW := Lib.hid (hW0.then hWi)
      clear hWi
      go_wp2_with fail
      go_end0
      exact ⟨rfl, HW.out⟩
end Go.Proofs.YtnggblocfennaaaDoor
