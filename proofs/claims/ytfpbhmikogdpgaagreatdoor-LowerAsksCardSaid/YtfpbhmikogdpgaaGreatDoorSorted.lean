/- Plain law: a list without repeats that is sorted by insertion is the compacted sorted list of the same members. No program in sight. -/
import Derived.Shelf.Slices.CompactS
namespace Go.Proofs.YtfpbhmikogdpgaaGreatDoor

/-- strictly rising -/
def Rises (l : List (List UInt8)) : Prop := l.Pairwise (· < ·)

theorem str_lt_irrefl (a : List UInt8) : ¬ a < a := List.lt_irrefl a
theorem str_lt_trans {a b c : List UInt8} (h : a < b) (k : b < c) : a < c := List.lt_trans h k
theorem str_lt_total {a b : List UInt8} (h : ¬ a < b) (k : a ≠ b) : b < a := by
  rcases Std.lt_trichotomy a b with h1 | h1 | h1
  · exact (h h1).elim
  · exact (k h1).elim
  · exact h1

theorem rises_unique : ∀ (a b : List (List UInt8)), Rises a → Rises b → (∀ x, x ∈ a ↔ x ∈ b) → a = b := by
  intro a
  induction a with
  | nil =>
    intro b _ _ h
    cases b with
    | nil => rfl
    | cons y ys => exact absurd ((h y).2 (.head _)) (by simp)
  | cons x xs ih =>
    intro b ha hb h
    cases b with
    | nil => exact absurd ((h x).1 (.head _)) (by simp)
    | cons y ys =>
      obtain ⟨ha1, ha2⟩ := List.pairwise_cons.1 ha
      obtain ⟨hb1, hb2⟩ := List.pairwise_cons.1 hb
      have hxy : x = y := by
        have h1 := (h x).1 (.head _)
        have h2 := (h y).2 (.head _)
        rcases List.mem_cons.1 h1 with e | e
        · exact e
        · rcases List.mem_cons.1 h2 with e2 | e2
          · exact e2.symm
          · exact absurd (str_lt_trans (ha1 y e2) (hb1 x e)) (str_lt_irrefl x)
      subst hxy
      have : xs = ys := ih ys ha2 hb2 fun z => by
        constructor
        · intro hz
          rcases List.mem_cons.1 ((h z).1 (.tail _ hz)) with e | e
          · subst e; exact absurd (ha1 z hz) (str_lt_irrefl z)
          · exact e
        · intro hz
          rcases List.mem_cons.1 ((h z).2 (.tail _ hz)) with e | e
          · subst e; exact absurd (hb1 z hz) (str_lt_irrefl z)
          · exact e
      rw [this]

/-- the insertion's inner round: A rises, then x, then B; x is below all of B -/
structure Mid (L A B C : List (List UInt8)) (x : List UInt8) : Prop where
  eq : L = A ++ x :: (B ++ C)
  rises : Rises (A ++ B)
  below : ∀ y ∈ B, x < y
  new : x ∉ A

theorem Mid.step {L A B C : List (List UInt8)} {x y : List UInt8} (h : Mid L (A ++ [y]) B C x) (hlt : x < y) : Mid (A ++ x :: (y :: B ++ C)) A (y :: B) C x where
  eq := rfl
  rises := by have := h.rises; rw [List.append_assoc] at this; exact this
  below := by
    intro z hz
    rcases List.mem_cons.1 hz with e | e
    · rw [e]; exact hlt
    · exact h.below z e
  new := fun hx => h.new (List.mem_append_left _ hx)

theorem Mid.done {L A B C : List (List UInt8)} {x : List UInt8} (h : Mid L A B C x) (hlt : ∀ y, A.getLast? = some y → ¬ x < y) : Rises (A ++ x :: B) := by
  have hr := h.rises
  unfold Rises at hr ⊢
  rw [List.pairwise_append] at hr ⊢
  refine ⟨hr.1, List.pairwise_cons.2 ⟨h.below, hr.2.1⟩, ?_⟩
  intro a ha b hb
  rcases List.mem_cons.1 hb with e | e
  · subst e
    rcases List.eq_nil_or_concat A with e | ⟨A', y, e⟩
    · subst e; simp at ha
    · subst e
      have hy : b ≠ y := fun e => h.new (by rw [e]; simp)
      have hyb : y < b := str_lt_total (hlt y (by simp)) hy
      rcases List.mem_append.1 (by simpa using ha : a ∈ A' ++ [y]) with h1 | h1
      · have h2 := hr.1
        rw [List.concat_eq_append, List.pairwise_append] at h2
        exact str_lt_trans (h2.2.2 a h1 y (by simp)) hyb
      · rw [List.mem_singleton.1 h1]; exact hyb
  · exact hr.2.2 a ha b e

/-- compacting a sorted list: it rises, and has the same members -/
theorem compact_upto (zs : List (List UInt8)) (hs : zs.Pairwise (· ≤ ·)) : ∀ m, m ≤ zs.length →
    Rises (Lib.compactUpTo zs.toArray m) ∧ (∀ x, x ∈ Lib.compactUpTo zs.toArray m ↔ ∃ j, ∃ h : j < zs.length, j < m ∧ zs[j] = x) ∧
      ∀ x ∈ Lib.compactUpTo zs.toArray m, ∀ k, (h : k < zs.length) → m ≤ k + 1 → x ≤ zs[k] := by
  intro m
  induction m with
  | zero =>
    intro _
    refine ⟨List.Pairwise.nil, fun x => ?_, fun x hx => ?_⟩
    · simp [Lib.compactUpTo]
    · simp [Lib.compactUpTo] at hx
  | succ m ih =>
    intro hm
    obtain ⟨i1, i2, i3⟩ := ih (by omega)
    have hget : (zs.toArray)[m]! = zs[m] := by simp [show m < zs.length by omega]
    have hle : ∀ i j, (h : i < zs.length) → (k : j < zs.length) → i ≤ j → zs[i] ≤ zs[j] := by
      intro i j h k hij
      rcases Nat.lt_or_eq_of_le hij with e | e
      · exact List.pairwise_iff_getElem.1 hs i j h k e
      · subst e; exact List.le_refl _
    rw [Lib.compactUpTo_succ]
    by_cases hk : Lib.keeps zs.toArray m = true
    · rw [if_pos hk, hget]
      have hlt : ∀ x ∈ Lib.compactUpTo zs.toArray m, x < zs[m] := by
        intro x hx
        rcases Nat.eq_zero_or_pos m with e | e
        · subst e; simp [Lib.compactUpTo] at hx
        · have hne : zs[m] ≠ zs[m - 1] := by
            have h0 := hk
            unfold Lib.keeps at h0
            rw [decide_eq_true_eq] at h0
            rcases h0 with h0 | h0
            · omega
            · have hget1 : (zs.toArray)[m - 1]! = zs[m - 1] := by simp [show m - 1 < zs.length by omega]
              rw [hget, hget1] at h0
              exact h0
          have h1 := i3 x hx (m - 1) (by omega) (by omega)
          have h2 := hle (m - 1) m (by omega) (by omega) (by omega)
          rcases Std.lt_trichotomy x zs[m] with h3 | h3 | h3
          · exact h3
          · subst h3
            exact absurd (List.le_antisymm h1 h2) hne
          · exact absurd (List.le_trans h1 h2) (List.not_le.2 h3)
      refine ⟨?_, ?_, ?_⟩
      · unfold Rises
        rw [List.pairwise_append]
        exact ⟨i1, List.pairwise_singleton _ _, fun x hx y hy => by rw [List.mem_singleton.1 hy]; exact hlt x hx⟩
      · intro x
        rw [List.mem_append, i2, List.mem_singleton]
        constructor
        · rintro (⟨j, h, hj, e⟩ | e)
          · exact ⟨j, h, by omega, e⟩
          · exact ⟨m, by omega, by omega, e.symm⟩
        · rintro ⟨j, h, hj, e⟩
          rcases Nat.lt_or_eq_of_le (Nat.le_of_lt_succ hj) with e2 | e2
          · exact .inl ⟨j, h, e2, e⟩
          · subst e2; exact .inr e.symm
      · intro x hx k h hmk
        rcases List.mem_append.1 hx with h1 | h1
        · exact i3 x h1 k h (by omega)
        · rw [List.mem_singleton.1 h1]; exact hle m k (by omega) h (by omega)
    · rw [if_neg hk, List.append_nil]
      have heq : 0 < m ∧ zs[m] = zs[m - 1]'(by omega) := by
        have h0 : ¬ (m = 0 ∨ (zs.toArray)[m]! ≠ (zs.toArray)[m - 1]!) := by
          intro h; exact hk (by unfold Lib.keeps; exact decide_eq_true h)
        have hm0 : m ≠ 0 := fun e => h0 (.inl e)
        have hget1 : (zs.toArray)[m - 1]! = zs[m - 1]'(by omega) := by simp [show m - 1 < zs.length by omega]
        refine ⟨by omega, ?_⟩
        rw [hget, hget1] at h0
        exact Classical.byContradiction fun h => h0 (.inr h)
      refine ⟨i1, ?_, ?_⟩
      · intro x
        rw [i2]
        constructor
        · rintro ⟨j, h, hj, e⟩; exact ⟨j, h, by omega, e⟩
        · rintro ⟨j, h, hj, e⟩
          rcases Nat.lt_or_eq_of_le (Nat.le_of_lt_succ hj) with e2 | e2
          · exact ⟨j, h, e2, e⟩
          · subst e2; exact ⟨j - 1, by omega, by omega, by rw [← heq.2]; exact e⟩
      · intro x hx k h hmk
        exact i3 x hx k h (by omega)

theorem compact_sorted (zs : List (List UInt8)) (hs : zs.Pairwise (· ≤ ·)) : Rises (Lib.compact zs) ∧ ∀ x, x ∈ Lib.compact zs ↔ x ∈ zs := by
  obtain ⟨h1, h2, _⟩ := compact_upto zs hs zs.length (Nat.le_refl _)
  refine ⟨h1, fun x => ?_⟩
  show x ∈ Lib.compactUpTo zs.toArray zs.length ↔ _
  rw [h2, List.mem_iff_getElem]
  constructor
  · rintro ⟨j, h, _, e⟩; exact ⟨j, h, e⟩
  · rintro ⟨j, h, e⟩; exact ⟨j, h, h, e⟩

/-- THE LAW: what rises and has a list's members is that list, sorted and compacted -/
theorem compact_unique (a zs : List (List UInt8)) (ha : Rises a) (hm : ∀ x, x ∈ a ↔ x ∈ zs) : Lib.compact (zs.mergeSort fun x y => decide (x ≤ y)) = a := by
  have hp : (zs.mergeSort fun x y => decide (x ≤ y)).Pairwise (· ≤ ·) := by
    have := List.pairwise_mergeSort (le := fun x y : List UInt8 => decide (x ≤ y)) (fun a b c h1 h2 => by simp only [decide_eq_true_eq] at *; exact List.le_trans h1 h2) (fun a b => by
      simp only [Bool.or_eq_true, decide_eq_true_eq]; exact List.le_total a b) zs
    exact this.imp fun h => by simpa using h
  obtain ⟨h1, h2⟩ := compact_sorted _ hp
  refine rises_unique _ _ h1 ha fun x => ?_
  rw [h2, List.mem_mergeSort, hm]
end Go.Proofs.YtfpbhmikogdpgaaGreatDoor
