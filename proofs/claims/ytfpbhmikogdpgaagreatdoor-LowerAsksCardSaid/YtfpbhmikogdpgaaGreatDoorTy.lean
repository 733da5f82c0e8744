/- The types of the program's values as trees, and what it means that a tree lies in memory. No program in sight but for the model's worlds. -/
import Derived.WalkKit
import Derived.WalkSpells
import Derived.WalkLawsBesides
namespace Go.Proofs.YtfpbhmikogdpgaaGreatDoor
open Go.RowKit

/-- a term of types: Kind, Name, N, Args -/
inductive Ty where
  | mk (kind : Int) (name : ByteArray) (n : Int) (args : List Ty)

theorem Ty.ind {P : Ty → Prop} (h : ∀ k s n as, (∀ t ∈ as, P t) → P (.mk k s n as)) (t : Ty) : P t :=
  Ty.rec (motive_1 := P) (motive_2 := fun as => ∀ t ∈ as, P t) (fun k s n as ih => h k s n as ih) (by intro t ht; cases ht)
    (fun _ _ h1 h2 t ht => by cases ht with | head => exact h1 | tail _ h => exact h2 t h) t

/-- the four cells of a node, whose arguments lie at a -/
def nodeCells (k : Int) (s : ByteArray) (n : Int) (a : Option Addr) (len cap : Nat) : Array Value := #[.int .i64 k, .string s, .int .i64 n, .slice a len cap]

/-- the tree lies in the world: its node's cells are cs -/
inductive Ty.In (w : World) : Ty → Array Value → Prop where
  | mk (k : Int) (s : ByteArray) (n : Int) (as : List Ty) (a : Option Addr) (b off cap : Nat) (C : Nat → Nat → Value)
      (ha : 0 < as.length → a = some ⟨b, off, none⟩) (hlen : as.length ≤ cap ∧ cap ≤ maxLen) (hs : s.size ≤ maxLen)
      (hk : -9223372036854775808 ≤ k ∧ k ≤ 9223372036854775807) (hn : -9223372036854775808 ≤ n ∧ n ≤ 9223372036854775807)
      (hc : ∀ i, i < as.length → ∀ j, j < 4 → w.cell? ⟨b, off + (i * 4 + j), none⟩ = some (C i j))
      (hi : ∀ i, (h : i < as.length) → Ty.In w as[i] #[C i 0, C i 1, C i 2, C i 3]) :
      Ty.In w (.mk k s n as) (nodeCells k s n a as.length cap)

/-- what lies in a world lies in each later one in which all cells are as they were -/
theorem Ty.In.later {w w' : World} (hw : ∀ a v, w.cell? a = some v → w'.cell? a = some v) {t : Ty} {cs : Array Value} (h : Ty.In w t cs) : Ty.In w' t cs := by
  induction h with
  | mk k s n l a b off cap C ha hlen hs hk hn hc hi ih => exact .mk k s n l a b off cap C ha hlen hs hk hn (fun i h j hj => hw _ _ (hc i h j hj)) ih

theorem lt_of_cell {w : World} {a : Addr} {v : Value} (h : w.cell? a = some v) : a.block < w.heap.size := by
  unfold World.cell? at h
  split at h
  · rename_i heq
    exact (Array.getElem?_eq_some_iff.1 heq).1
  · cases h

theorem cells_later {w w' : World} (h : Below w.heap.size w w') (a : Addr) (v : Value) (hc : w.cell? a = some v) : w'.cell? a = some v := by
  rw [h.cell (lt_of_cell hc)]; exact hc

theorem Ty.In.under {w w' : World} (hb : Below w.heap.size w w') {t : Ty} {cs : Array Value} (h : Ty.In w t cs) : Ty.In w' t cs := h.later (cells_later hb)

theorem Ty.cells4 {w : World} {t : Ty} {c0 c1 c2 c3 : Value} (h : Ty.In w t #[c0, c1, c2, c3]) :
    ∃ k s n a len cap, c0 = .int .i64 k ∧ c1 = .string s ∧ c2 = .int .i64 n ∧ c3 = .slice a len cap := by
  generalize hcs : #[c0, c1, c2, c3] = cs at h
  cases h with
  | mk k s n l a b off cap C ha hlen hs hk hn hc hi =>
    unfold nodeCells at hcs
    simp only [Array.mk.injEq, List.cons.injEq, and_true] at hcs
    exact ⟨k, s, n, a, l.length, cap, hcs.1, hcs.2.1, hcs.2.2.1, hcs.2.2.2⟩

theorem below1 (w : World) (o : Obj) : Below w.heap.size w (w.alloc o) := (Below.refl _ _).alloc (Nat.le_refl _) _
theorem below3 (w : World) (o o' o'' : Obj) : Below w.heap.size w (((w.alloc o).alloc o').alloc o'') := (((Below.refl _ _).alloc (Nat.le_refl _) _).alloc (by simp) _).alloc (by simp; omega) _
theorem below2 (w : World) (o o' : Obj) : Below w.heap.size w ((w.alloc o).alloc o') := (below1 w o).alloc (by simp) _

theorem new_cell (w : World) (c : Array Value) (t g j : Nat) (hg : g = w.heap.size) : (w.alloc (.cells c t)).cell? ⟨g, j, none⟩ = c[j]? := by
  subst hg
  exact cell_of_row _ _ j c t (0, 0) (heap_alloc_new w _)
theorem new_frozen (w : World) (c : Array Value) (t g j : Nat) (hg : g = w.heap.size) : (w.alloc (.cells c t)).frozen? ⟨g, j, none⟩ = false := by
  subst hg
  exact frozen_of_row _ _ j c t (heap_alloc_new w _)
theorem old_cell {w : World} {a : Addr} {v : Value} (h : w.cell? a = some v) (o : Obj) : (w.alloc o).cell? a = some v := cells_later (below1 w o) _ _ h

/-- the four cells of an argument, in the walk's own spelling -/
theorem four {w : World} {b off : Nat} {C : Nat → Nat → Value} {len : Nat} (hc : ∀ i, i < len → ∀ j, j < 4 → w.cell? ⟨b, off + (i * 4 + j), none⟩ = some (C i j)) (i : Nat) (h : i < len) :
    w.cell? ⟨b, off + i * 4, none⟩ = some (C i 0) ∧ w.cell? ⟨b, off + i * 4 + 1, none⟩ = some (C i 1) ∧ w.cell? ⟨b, off + i * 4 + 2, none⟩ = some (C i 2) ∧ w.cell? ⟨b, off + i * 4 + 3, none⟩ = some (C i 3) := by
  refine ⟨?_, ?_, ?_, ?_⟩
  · simpa using hc i h 0 (by omega)
  · simpa [Nat.add_assoc] using hc i h 1 (by omega)
  · simpa [Nat.add_assoc] using hc i h 2 (by omega)
  · simpa [Nat.add_assoc] using hc i h 3 (by omega)

mutual
/-- how many nodes, but no more than most + 1 -/
def Ty.nodes (most : Int) : Ty → Int
  | .mk _ _ _ as => min (Ty.nodesL most as 1) (most + 1)
def Ty.nodesL (most : Int) : List Ty → Int → Int
  | [], n => n
  | t :: ts, n => if n ≤ most then Ty.nodesL most ts (n + t.nodes most) else n
end

theorem Ty.nodes_bd (most : Int) (h : 0 ≤ most) : ∀ (t : Ty), 1 ≤ t.nodes most ∧ t.nodes most ≤ most + 1 := by
  intro t
  induction t using Ty.ind with
  | h k s n as ih =>
    have key : ∀ (l : List Ty) (m : Int), (∀ t ∈ l, 1 ≤ t.nodes most ∧ t.nodes most ≤ most + 1) → 1 ≤ m → 1 ≤ Ty.nodesL most l m := by
      intro l
      induction l with
      | nil => intro m _ hm; simpa [Ty.nodesL] using hm
      | cons a l ihl =>
        intro m hl hm
        unfold Ty.nodesL
        split
        · exact ihl _ (fun t ht => hl t (.tail _ ht)) (by have := hl a (.head _); omega)
        · exact hm
    have := key as 1 ih (by omega)
    unfold Ty.nodes
    omega

end Go.Proofs.YtfpbhmikogdpgaaGreatDoor
