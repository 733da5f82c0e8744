/- Worlds that part in some blocks alone: for callees that write a variable that they captured. -/
import Derived.Test.YtfpbhmikogdpgaaGreatDoorTy
namespace Go.Proofs.YtfpbhmikogdpgaaGreatDoor
open Go.RowKit

/-- all blocks of w that are not in M are in w' as they were; the streams are as they were; no block has gone -/
structure Kept (M : Nat → Prop) (w w' : World) : Prop where
  os : w'.os = w.os
  tape : w'.tape = w.tape
  output : w'.output = w.output
  size : w.heap.size ≤ w'.heap.size
  block : ∀ k, k < w.heap.size → ¬ M k → w'.heap[k]? = w.heap[k]?

theorem Kept.refl (M : Nat → Prop) (w : World) : Kept M w w := ⟨rfl, rfl, rfl, Nat.le_refl _, fun _ _ _ => rfl⟩
theorem Kept.trans {M : Nat → Prop} {a b c : World} (h : Kept M a b) (k : Kept M b c) : Kept M a c :=
  ⟨k.os.trans h.os, k.tape.trans h.tape, k.output.trans h.output, Nat.le_trans h.size k.size, fun i hi hm => (k.block i (by have := h.size; omega) hm).trans (h.block i hi hm)⟩
theorem Kept.of_below {M : Nat → Prop} {w w' : World} (h : Below w.heap.size w w') : Kept M w w' := ⟨h.os, h.tape, h.output, h.size, fun k hk _ => h.block k hk⟩
theorem Kept.mono {M M' : Nat → Prop} {w w' : World} (h : Kept M w w') (hm : ∀ k, k < w.heap.size → M k → M' k) : Kept M' w w' :=
  ⟨h.os, h.tape, h.output, h.size, fun k hk hn => h.block k hk (fun hk' => hn (hm k hk hk'))⟩
/-- where all that may have turned lies from B on -/
theorem Kept.below {M : Nat → Prop} {B : Nat} {w w' : World} (h : Kept M w w') (hB : B ≤ w.heap.size) (hm : ∀ k, M k → B ≤ k) : Below B w w' :=
  ⟨h.os, h.tape, h.output, h.size, fun k hk => h.block k (by omega) (fun hk' => by have := hm k hk'; omega)⟩
theorem Kept.alloc {M : Nat → Prop} {a w : World} (h : Kept M a w) (o : Obj) : Kept M a (w.alloc o) := h.trans (.of_below (below1 w o))
theorem Kept.cell {M : Nat → Prop} {w w' : World} (h : Kept M w w') {p : Addr} {v : Value} (hm : ¬ M p.block) (hc : w.cell? p = some v) : w'.cell? p = some v := by
  rw [World.cell?_of_block (w := w) (h.block p.block (lt_of_cell hc) hm)]; exact hc
theorem Kept.frozen {M : Nat → Prop} {w w' : World} (h : Kept M w w') {p : Addr} (hm : ¬ M p.block) (hp : p.block < w.heap.size) : w'.frozen? p = w.frozen? p :=
  World.frozen?_of_block (w := w) (h.block p.block hp hm)
/-- a store into a block of M -/
theorem Kept.setCell {M : Nat → Prop} {a w : World} (h : Kept M a w) {p : Addr} (hp : M p.block ∨ a.heap.size ≤ p.block) (u : Value) : Kept M a (w.setCell p u) :=
  ⟨h.os, h.tape, h.output, by have := h.size; simp [World.setCell]; exact this, fun k hk hm => by
    rw [Below.heap_setCell _ _ _ _ (by intro e; subst e; rcases hp with hp | hp <;> first | exact hm hp | omega)]; exact h.block k hk hm⟩

theorem cell_set {w : World} {a : Addr} {u : Value} (h : w.cell? a = some u) (v : Value) : (w.setCell a v).cell? a = some v :=
  World.cell?_setCell_same' w a v (by rw [h]; rfl)
theorem cell_set_other {w : World} {a b : Addr} {u : Value} (h : w.cell? b = some u) (hne : b.block ≠ a.block) (v : Value) : (w.setCell a v).cell? b = some u := by
  rw [World.cell?_of_block (w := w) (Below.heap_setCell _ _ _ _ hne)]; exact h
theorem frozen_set {w : World} {a b : Addr} (h : w.frozen? b = false) (v : Value) : (w.setCell a v).frozen? b = false := by
  rw [World.frozen?_setCell]; exact h
theorem size_set (w : World) (a : Addr) (v : Value) : (w.setCell a v).heap.size = w.heap.size := by simp [World.setCell]
theorem frozen_later {w w' : World} (h : Below w.heap.size w w') {a : Addr} {v : Value} (hc : w.cell? a = some v) (hf : w.frozen? a = false) : w'.frozen? a = false := by
  rw [h.frozen (lt_of_cell hc)]; exact hf

/-- what lies in blocks below B lies in each world that is as it was below B -/
inductive Ty.Under (B : Nat) (w : World) : Ty → Array Value → Prop where
  | mk (k : Int) (s : ByteArray) (n : Int) (l : List Ty) (a : Option Addr) (b off cap : Nat) (C : Nat → Nat → Value)
      (ha : 0 < l.length → a = some ⟨b, off, none⟩ ∧ b < B) (hlen : l.length ≤ cap ∧ cap ≤ maxLen) (hs : s.size ≤ maxLen)
      (hk : -9223372036854775808 ≤ k ∧ k ≤ 9223372036854775807) (hn : -9223372036854775808 ≤ n ∧ n ≤ 9223372036854775807)
      (hc : ∀ i, i < l.length → ∀ j, j < 4 → w.cell? ⟨b, off + (i * 4 + j), none⟩ = some (C i j))
      (hi : ∀ i, (h : i < l.length) → Ty.Under B w l[i] #[C i 0, C i 1, C i 2, C i 3]) :
      Ty.Under B w (.mk k s n l) (nodeCells k s n a l.length cap)

theorem Ty.Under.isin {B : Nat} {w : World} {t : Ty} {cs : Array Value} (h : Ty.Under B w t cs) : Ty.In w t cs := by
  induction h with
  | mk k s n l a b off cap C ha hlen hs hk hn hc hi ih => exact .mk k s n l a b off cap C (fun h => (ha h).1) hlen hs hk hn hc ih
theorem Ty.In.under_size {w : World} {t : Ty} {cs : Array Value} (h : Ty.In w t cs) : Ty.Under w.heap.size w t cs := by
  induction h with
  | mk k s n l a b off cap C ha hlen hs hk hn hc hi ih =>
    exact .mk k s n l a b off cap C (fun h => ⟨ha h, by have := lt_of_cell (hc 0 h 0 (by omega)); exact this⟩) hlen hs hk hn hc ih
theorem Ty.Under.later {B B' : Nat} {w w' : World} (hb : Below B w w') (hB : B ≤ B') {t : Ty} {cs : Array Value} (h : Ty.Under B w t cs) : Ty.Under B' w' t cs := by
  induction h with
  | mk k s n l a b off cap C ha hlen hs hk hn hc hi ih =>
    exact .mk k s n l a b off cap C (fun h => ⟨(ha h).1, by have := (ha h).2; omega⟩) hlen hs hk hn (fun i h j hj => by
      rw [hb.cell (show b < B from (ha (by omega)).2)]; exact hc i h j hj) ih
end Go.Proofs.YtfpbhmikogdpgaaGreatDoor
