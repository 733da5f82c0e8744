/- types.text.typ's map of words: a literal whose inserts come in any order. -/
import Derived.Test.YtnggblocfennaaaDoorRows
import Derived.Test.YtnggblocfennaaaDoorRegion
import Derived.Test.YtnggblocfennaaaDoorText
import Derived.WideMake
namespace Go.Proofs.YtnggblocfennaaaDoor
open Go.RowKit

/-- the entries of a map with int keys, out of a table: an operation's number, the key, the value -/
def MapOf (tab : List (Nat × Int × Value)) (listed : Array Bool) (l : List MapEntry) : Prop :=
  (∀ e ∈ l, ∃ x ∈ tab, listed.getD x.1 false = true ∧ e.key = .int .i64 x.2.1 ∧ e.val = x.2.2) ∧
  (∀ x ∈ tab, listed.getD x.1 false = true → ∃ e ∈ l, e.key = .int .i64 x.2.1)

theorem findNow_none (k : Int) : ∀ (l : List MapEntry) (i : Nat), (∀ e ∈ l, ∃ j, e.key = .int .i64 j ∧ j ≠ k) → Instr.findNow (.int .i64) (.int .i64 k) l i = some none
  | [], _, _ => rfl
  | e :: l, i, h => by
    obtain ⟨j, hj, hne⟩ := h e (.head _)
    have : Instr.sameNow (.int .i64) (.int .i64 k) e.key = some false := by
      rw [hj]; simp [Instr.sameNow]; exact fun h => hne h.symm
    simp only [Instr.findNow, this]
    exact findNow_none k l (i + 1) (fun e he => h e (.tail _ he))

theorem findNow_some (k : Int) (v : Value) : ∀ (l : List MapEntry) (i : Nat), (∀ e ∈ l, ∃ j, e.key = .int .i64 j ∧ (j = k → e.val = v)) → (∃ e ∈ l, e.key = .int .i64 k) →
    ∃ j, Instr.findNow (.int .i64) (.int .i64 k) l i = some (some (j, v))
  | [], _, _, h => by obtain ⟨e, he, _⟩ := h; cases he
  | e :: l, i, h, hx => by
    obtain ⟨j, hj, hv⟩ := h e (.head _)
    by_cases hjk : j = k
    · have : Instr.sameNow (.int .i64) (.int .i64 k) e.key = some true := by rw [hj, hjk]; simp [Instr.sameNow]
      exact ⟨i, by simp only [Instr.findNow, this]; rw [hv hjk]⟩
    · have : Instr.sameNow (.int .i64) (.int .i64 k) e.key = some false := by
        rw [hj]; simp [Instr.sameNow]; exact fun h => hjk h.symm
      simp only [Instr.findNow, this]
      obtain ⟨e', he', hk'⟩ := hx
      refine findNow_some k v l (i + 1) (fun e he => h e (.tail _ he)) ⟨e', ?_, hk'⟩
      cases he' with
      | head => rw [hj] at hk'; exact absurd (by injection hk') hjk
      | tail _ h => exact h

theorem MapOf.look {tab : List (Nat × Int × Value)} {listed : Array Bool} {l : List MapEntry} (h : MapOf tab listed l) (hd : (tab.map (·.2.1)).Nodup) {x : Nat × Int × Value} (hx : x ∈ tab) (hl : listed.getD x.1 false = true) :
    ∃ j, Instr.findNow (.int .i64) (.int .i64 x.2.1) l 0 = some (some (j, x.2.2)) := by
  refine findNow_some _ _ l 0 (fun e he => ?_) (h.2 x hx hl)
  obtain ⟨y, hy, _, hk, hv⟩ := h.1 e he
  refine ⟨y.2.1, hk, fun hkk => ?_⟩
  have : y = x := by
    have : ∀ (t : List (Nat × Int × Value)), (t.map (·.2.1)).Nodup → y ∈ t → x ∈ t → y = x := by
      intro t
      induction t with
      | nil => intro _ h _; cases h
      | cons z t ih =>
        intro hn h1 h2
        simp only [List.map_cons, List.nodup_cons] at hn
        cases h1 with
        | head =>
          cases h2 with
          | head => rfl
          | tail _ h2 => exact absurd (List.mem_map.2 ⟨x, h2, hkk.symm⟩) hn.1
        | tail _ h1 =>
          cases h2 with
          | head => exact absurd (List.mem_map.2 ⟨y, h1, hkk⟩) hn.1
          | tail _ h2 => exact ih hn.2 h1 h2
    exact this tab hd hy hx
  rw [hv, this]

theorem MapOf.put {tab : List (Nat × Int × Value)} {listed : Array Bool} {es : Array MapEntry} (h : MapOf tab listed es.toList) (hd : (tab.map (·.2.1)).Nodup) (hd1 : (tab.map (·.1)).Nodup) {i : Nat} {k : Int} {v : Value} (hx : (i, k, v) ∈ tab)
    (hs : i < listed.size) (hl : listed.getD i false = false) (clk : Nat) :
    Instr.findNow (.int .i64) (.int .i64 k) es.toList 0 = some none ∧ MapOf tab (listed.setIfInBounds i true) (es.push { key := .int .i64 k, val := v, born := clk }).toList := by
  have hat : ∀ j, (listed.setIfInBounds i true).getD j false = if i = j then true else listed.getD j false := by
    intro j
    by_cases hij : i = j
    · subst hij; simp [Array.getD_eq_getD_getElem?, Array.getElem?_setIfInBounds, hs]
    · simp [Array.getD_eq_getD_getElem?, Array.getElem?_setIfInBounds, hij]
  have huniq : ∀ y ∈ tab, y.2.1 = k → y.1 = i := by
    intro y hy hyk
    have : ∀ (t : List (Nat × Int × Value)), (t.map (·.2.1)).Nodup → y ∈ t → (i, k, v) ∈ t → y.1 = i := by
      intro t
      induction t with
      | nil => intro _ h _; cases h
      | cons z t ih =>
        intro hn h1 h2
        simp only [List.map_cons, List.nodup_cons] at hn
        cases h1 with
        | head =>
          cases h2 with
          | head => rfl
          | tail _ h2 => exact absurd (List.mem_map.2 ⟨_, h2, hyk.symm⟩) hn.1
        | tail _ h1 =>
          cases h2 with
          | head => exact absurd (List.mem_map.2 ⟨y, h1, hyk⟩) hn.1
          | tail _ h2 => exact ih hn.2 h1 h2
    exact this tab hd hy hx
  refine ⟨findNow_none k _ 0 (fun e he => ?_), ?_, ?_⟩
  · obtain ⟨y, hy, hly, hk, _⟩ := h.1 e he
    refine ⟨y.2.1, hk, fun hyk => ?_⟩
    rw [huniq y hy hyk, hl] at hly
    cases hly
  · intro e he
    rw [Array.toList_push, List.mem_append, List.mem_singleton] at he
    rcases he with he | rfl
    · obtain ⟨y, hy, hly, hk, hv⟩ := h.1 e he
      exact ⟨y, hy, by rw [hat]; split <;> first | rfl | exact hly, hk, hv⟩
    · exact ⟨_, hx, by rw [hat]; simp, rfl, rfl⟩
  · intro y hy hly
    rw [hat] at hly
    by_cases hiy : i = y.1
    · refine ⟨_, by rw [Array.toList_push]; exact List.mem_append_right _ (List.mem_singleton_self _), ?_⟩
      have : y = (i, k, v) := by
        have : ∀ (t : List (Nat × Int × Value)), (t.map (·.1)).Nodup → y ∈ t → (i, k, v) ∈ t → y = (i, k, v) := by
          intro t
          induction t with
          | nil => intro _ h _; cases h
          | cons z t ih =>
            intro hn h1 h2
            simp only [List.map_cons, List.nodup_cons] at hn
            cases h1 with
            | head =>
              cases h2 with
              | head => rfl
              | tail _ h2 => exact absurd (List.mem_map.2 ⟨_, h2, hiy⟩) hn.1
            | tail _ h1 =>
              cases h2 with
              | head => exact absurd (List.mem_map.2 ⟨y, h1, hiy.symm⟩) hn.1
              | tail _ h2 => exact ih hn.2 h1 h2
        exact this tab hd1 hy hx
      rw [this]
    · rw [if_neg hiy] at hly
      obtain ⟨e, he, hk⟩ := h.2 y hy hly
      exact ⟨e, by rw [Array.toList_push]; exact List.mem_append_left _ he, hk⟩

theorem run_insert (w : World) (es : Array MapEntry) (clk M : Nat) (k : Int) (v : Value) (hM : w.heap[M]? = some (.map es clk)) (hno : Instr.findNow (.int .i64) (.int .i64 k) es.toList 0 = some none) :
    (Instr.mapUpdate 54 (.map (some M)) (.int .i64 k) v).run Tryd.prog w = .ok () { w with heap := w.heap.setIfInBounds M (.map (es.push { key := .int .i64 k, val := v, born := clk }) (clk + 1)) } := by
  have hm : Tryd.prog.underlying 54 = some (.map 3 9) := Tryd.underlying54
  have hc : (Instr.checkKey false 10000 3 (.int .i64 k)).run Tryd.prog w = .ok () w := MapKept.run_checkKey (k := .int .i64 k) Tryd.underlying3 (by simp [MapKept.IsKey]) false 9999
  simp [Instr.mapUpdate, run_underlying hm, MapKept.run_getObj_map hM, hc, MapKept.run_findKey Tryd.underlying3 hno, MapKept.run_setObj_map _ hM, Result.andThen]

theorem run_look (w : World) (es : Array MapEntry) (clk M : Nat) (k : Int) (v : Value) (j : Nat) (hM : w.heap[M]? = some (.map es clk)) (hf : Instr.findNow (.int .i64) (.int .i64 k) es.toList 0 = some (some (j, v))) :
    (Instr.lookup 54 (.map (some M)) (.int .i64 k) false).run Tryd.prog w = .ok v w := by
  have hm : Tryd.prog.underlying 54 = some (.map 3 9) := Tryd.underlying54
  have hc : (Instr.checkKey es.isEmpty 10000 3 (.int .i64 k)).run Tryd.prog w = .ok () w := MapKept.run_checkKey (k := .int .i64 k) Tryd.underlying3 (by simp [MapKept.IsKey]) _ 9999
  simp [Instr.lookup, run_underlying hm, MapKept.run_getObj_map hM, hc, MapKept.run_findKey Tryd.underlying3 hf, Result.andThen]
end Go.Proofs.YtnggblocfennaaaDoor
