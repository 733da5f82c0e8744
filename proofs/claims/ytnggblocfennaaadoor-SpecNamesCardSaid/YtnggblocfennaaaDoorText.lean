/- The text of a type, and the reference's functions that spell it. -/
import Derived.Test.YtnggblocfennaaaDoorRefTy
import Derived.Deep.RegionHeld3
import Derived.KernelRfl
namespace Go.Proofs.YtnggblocfennaaaDoor
open Go.RowKit

/-- texts with commas between them -/
def commas : List (List UInt8) → List UInt8
  | [] => []
  | t :: ts => t ++ ts.flatMap fun x => [44, 32] ++ x

def nodeText (k : Int) (s : List UInt8) (ls : List (List UInt8)) : List UInt8 :=
  if k = 1 then [73, 110, 116] else if k = 2 then [66, 111, 111, 108] else if k = 3 then [84, 101, 120, 116] else if k = 4 then [85, 110, 105, 116]
  else if k = 5 then [65, 114, 114, 97, 121, 60] ++ commas ls ++ [62]
  else if k = 11 then [87, 101, 97, 107, 60] ++ commas ls ++ [62]
  else if k = 6 then (if ls.length = 0 then s else s ++ [60] ++ commas ls ++ [62])
  else if k = 9 then [97, 110, 121, 32] ++ s
  else [40] ++ commas (ls.take (ls.length - 1)) ++ [41, 32, 45, 62, 32] ++ ls.getD (ls.length - 1) []

mutual
def Ty.text : Ty → List UInt8
  | .mk k s _ l => nodeText k s.toList (Ty.texts l)
def Ty.texts : List Ty → List (List UInt8)
  | [] => []
  | t :: ts => t.text :: Ty.texts ts
end
theorem Ty.texts_eq (l : List Ty) : Ty.texts l = l.map Ty.text := by
  induction l with
  | nil => rfl
  | cons t l ih => rw [Ty.texts, ih]; rfl

/-- the kinds that are spelled here, and as many arguments as they need -/
def spellNode (k : Int) (len : Nat) : Bool := k == 1 || k == 2 || k == 3 || k == 4 || k == 5 || k == 11 || k == 6 || k == 9 || (k == 10 && decide (1 ≤ len))
mutual
def Ty.spells : Ty → Bool
  | .mk k _ _ l => spellNode k l.length && Ty.spellsL l
def Ty.spellsL : List Ty → Bool
  | [] => true
  | t :: ts => t.spells && Ty.spellsL ts
end
theorem Ty.spellsL_mem {l : List Ty} (h : Ty.spellsL l = true) : ∀ t ∈ l, t.spells = true := by
  induction l with
  | nil => intro t ht; cases ht
  | cons a l ih =>
    intro t ht
    rw [Ty.spellsL, Bool.and_eq_true] at h
    cases ht with
    | head => exact h.1
    | tail _ ht => exact ih h.2 t ht

/-- a string that holds these bytes -/
def str (l : List UInt8) : ByteArray := ⟨l.toArray⟩
theorem str_toList (l : List UInt8) : (str l).toList = l := by rw [ByteArray.toList_eq]; rfl
theorem str_size (l : List UInt8) : (str l).size = l.length := rfl
theorem str_append (a b : List UInt8) : str a ++ str b = str (a ++ b) := by
  apply ByteArray.ext
  show (str a ++ str b).data = _
  rw [ByteArray.data_append]
  simp [str]
theorem toList_append (a b : ByteArray) : (a ++ b).toList = a.toList ++ b.toList := by
  rw [ByteArray.toList_eq, ByteArray.toList_eq, ByteArray.toList_eq, ByteArray.data_append, Array.toList_append]
theorem ret_str {a b : ByteArray} (h : a = b) : Ending.returned (.string a) = .returned (.string b) := by rw [h]
theorem str_of (s : ByteArray) : s = str s.toList := by
  rw [ByteArray.toList_eq]; rfl

/-- a list of types in memory: its slice begins at a -/
def Tys (w : World) (a : Option Addr) (l : List Ty) : Prop :=
  l.length ≤ maxLen ∧ ∃ (b off : Nat) (C : Nat → Nat → Value), (0 < l.length → a = some ⟨b, off, none⟩) ∧ (∀ i, i < l.length → ∀ j, j < 4 → w.cell? ⟨b, off + (i * 4 + j), none⟩ = some (C i j)) ∧
    ∀ i, (h : i < l.length) → Ty.In w l[i] #[C i 0, C i 1, C i 2, C i 3]
theorem Tys.later {w w' : World} {a : Option Addr} {l : List Ty} (hb : Below w.heap.size w w') (h : Tys w a l) : Tys w' a l := by
  obtain ⟨h0, b, off, C, ha, hc, hi⟩ := h
  exact ⟨h0, b, off, C, ha, fun i h j hj => cells_later hb _ _ (hc i h j hj), fun i h => (hi i h).under hb⟩

def spelledSays (t : Ty) : Prop := ∀ (w : World) (cs : Array Value), Ty.In w t cs → t.text.length ≤ 100000 →
  Calls Tryd.prog 25 #[.agg cs] w fun e w' => e = .returned (.string (str t.text)) ∧ Below w.heap.size w w'

theorem commas_snoc (L : List (List UInt8)) (x : List UInt8) (h : 0 < L.length) : commas (L ++ [x]) = commas L ++ [44, 32] ++ x := by
  cases L with
  | nil => simp at h
  | cons t ts => simp [commas]

theorem flatMap_take_le (L : List (List UInt8)) (i : Nat) : ((L.take i).flatMap fun x => [44, 32] ++ x).length ≤ (L.flatMap fun x => [44, 32] ++ x).length := by
  conv => rhs; rw [← List.take_append_drop i L]
  rw [List.flatMap_append, List.length_append]; omega
theorem commas_take_le (L : List (List UInt8)) (i : Nat) : (commas (L.take i)).length ≤ (commas L).length := by
  cases L with
  | nil => simp
  | cons t ts =>
    cases i with
    | zero => simp [commas]
    | succ i =>
      have := flatMap_take_le ts i
      simp only [List.take_succ_cons, commas, List.length_append] at this ⊢
      omega
theorem commas_mem_le (L : List (List UInt8)) (i : Nat) (h : i < L.length) : L[i].length ≤ (commas L).length := by
  have h1 := commas_take_le L (i + 1)
  rw [List.take_succ_eq_append_getElem h] at h1
  by_cases h0 : i = 0
  · subst h0; simpa [commas] using h1
  · rw [commas_snoc _ _ (by simp; omega)] at h1
    simp only [List.length_append] at h1
    omega

set_option maxHeartbeats 1000000 in
theorem list_any (l : List Ty) (a : Option Addr) (cp : Nat) (ih : ∀ t ∈ l, spelledSays t) (w : World) (hl : Tys w a l) (hsz : (commas (Ty.texts l)).length ≤ 100000) :
    Calls Tryd.prog 34 #[.slice a l.length cp] w fun e w' => e = .returned (.string (str (commas (Ty.texts l)))) ∧ Below w.heap.size w w' := by
  rw [Ty.texts_eq] at hsz ⊢
  obtain ⟨hlen, b, off, C, ha, hc, hi⟩ := hl
  unfold maxLen at hlen
  go_enter Tryd.func34, Tryd.ntmps34
  go_wp2_with fail
  go_loopw [3, 4] (fun ss ii wr => ∃ (i : Nat), i ≤ l.length ∧ ii = .int .i64 i ∧ ss = .string (str (commas ((l.take i).map Ty.text))) ∧ Below w.heap.size w wr) (fun _ ii _ => l.length - (intOf ii).toNat)
  case atStart => exact ⟨0, Nat.zero_le _, rfl, rfl, Below.refl _ _⟩
  case round =>
    obtain ⟨i, hil, rfl, rfl, Bi⟩ := hrel
    by_cases hlt : i < l.length
    · have hab := ha (by omega)
      subst hab
      obtain ⟨c0, c1, c2, c3⟩ := four (fun i h j hj => cells_later Bi _ _ (hc i h j hj)) i hlt
      have hz1 : (str l[i].text).size ≤ 100000 := by
        have := commas_mem_le (l.map Ty.text) i (by simpa using hlt)
        rw [str_size]; simp at this; omega
      have hz0 : (str (commas ((l.take i).map Ty.text))).size ≤ 100000 := by
        have := commas_take_le (l.map Ty.text) i
        rw [str_size]; rw [← List.map_take] at this; omega
      have hr := ih l[i] (List.getElem_mem hlt) wr _ ((hi i hlt).under Bi) (by rw [str_size] at hz1; exact hz1)
      have hstep : commas ((l.take (i + 1)).map Ty.text) = if i = 0 then l[i].text else commas ((l.take i).map Ty.text) ++ [44, 32] ++ l[i].text := by
        rw [List.take_succ_eq_append_getElem hlt, List.map_append]
        by_cases h0 : i = 0
        · subst h0; simp [commas]
        · rw [if_neg h0]; exact commas_snoc _ _ (by simp; omega)
      have h0' : i = 0 → commas ((l.take i).map Ty.text) = [] := by intro h; subst h; rfl
      generalize l[i].text = tx at hr hstep hz1
      generalize commas ((l.take i).map Ty.text) = T0 at hstep h0' hz0 ⊢
      have Hr := Lib.hid hr
      have Hs := Lib.hid hstep
      have H0 := Lib.hid h0'
      clear hr hstep h0'
      by_cases h0 : i = 0
      · subst h0
        simp only [Nat.zero_mul, Nat.add_zero] at c0 c1 c2 c3
        go_wp2_with fail
        refine Hr.out.mono ?_
        rintro e w2 ⟨rfl, hb2⟩
        go_wp2_with fail
        go_roundw
        case rel => exact ⟨1, by omega, by go_num, by rw [Hs.out, H0.out trivial, str_append]; simp, Bi.trans (hb2.mono Bi.size)⟩
        case measure => simp [intOf]; omega
      · have h1 : 0 < i := by omega
        go_wp2_with fail
        refine Hr.out.mono ?_
        rintro e w2 ⟨rfl, hb2⟩
        go_wp2_with fail
        go_roundw
        case rel => exact ⟨i + 1, by omega, by go_num, by rw [Hs.out, if_neg h0, ← str_append, ← str_append]; rfl, Bi.trans (hb2.mono Bi.size)⟩
        case measure => simp [intOf]; omega
    · have e1 : l.take i = l := List.take_of_length_le (by omega)
      rw [e1]
      go_wp2_with fail
      go_ret
      exact ⟨rfl, Bi⟩

theorem text_eq (k : Int) (s : ByteArray) (n : Int) (l : List Ty) : (Ty.mk k s n l).text = nodeText k s.toList (Ty.texts l) := by rw [Ty.text]
theorem texts_length (l : List Ty) : (Ty.texts l).length = l.length := by rw [Ty.texts_eq, List.length_map]

set_option maxRecDepth 100000 in
set_option maxHeartbeats 2000000 in
theorem spelled_any (T : Ty) : T.spells = true → spelledSays T := by
  induction T using Ty.ind with
  | h k s n l ih =>
    intro hsp w cs hT hsz
    have hsp2 := hsp
    rw [Ty.spells, Bool.and_eq_true] at hsp2
    have ihl : ∀ t ∈ l, spelledSays t := fun t ht => ih t ht (Ty.spellsL_mem hsp2.2 t ht)
    have hnode := hsp2.1
    clear hsp2 hsp ih
    rw [text_eq] at hsz ⊢
    cases hT with
    | mk _ _ _ _ a b off cp C ha hlen hs hk hn hc hi =>
    have hTys : Tys w a l := ⟨Nat.le_trans hlen.1 hlen.2, b, off, C, ha, hc, hi⟩
    unfold maxLen at hlen
    unfold nodeCells
    by_cases h1 : k = 1
    · subst h1
      clear hsz
      go_enter Tryd.func25, Tryd.ntmps25
      go_wp2_with fail
      go_ret
      exact ⟨rfl, below1 _ _⟩
    by_cases h2 : k = 2
    · subst h2
      clear hsz
      go_enter Tryd.func25, Tryd.ntmps25
      go_wp2_with fail
      go_ret
      exact ⟨rfl, below1 _ _⟩
    by_cases h3 : k = 3
    · subst h3
      clear hsz
      go_enter Tryd.func25, Tryd.ntmps25
      go_wp2_with fail
      go_ret
      exact ⟨rfl, below1 _ _⟩
    by_cases h4 : k = 4
    · subst h4
      clear hsz
      go_enter Tryd.func25, Tryd.ntmps25
      go_wp2_with fail
      go_ret
      exact ⟨rfl, below1 _ _⟩
    by_cases h5 : k = 5
    · subst h5
      have hz : (commas (Ty.texts l)).length + 7 ≤ 100000 := by
        have e : nodeText 5 s.toList (Ty.texts l) = [65, 114, 114, 97, 121, 60] ++ commas (Ty.texts l) ++ [62] := rfl
        rw [e] at hsz; simp at hsz; omega
      have hr := fun o => list_any l a cp ihl (w.alloc o) (hTys.later (below1 w o)) (by omega)
      have e : nodeText 5 s.toList (Ty.texts l) = [65, 114, 114, 97, 121, 60] ++ commas (Ty.texts l) ++ [62] := rfl
      rw [e]
      have hz2 : (str (commas (Ty.texts l))).size ≤ 100000 := by rw [str_size]; omega
      generalize commas (Ty.texts l) = T0 at hr hz2 ⊢
      have Hr := Lib.hid hr
      clear hr hsz hz e
      go_enter Tryd.func25, Tryd.ntmps25
      go_wp2_with fail
      refine (Hr.out _).mono ?_
      rintro e w2 ⟨rfl, hb2⟩
      go_wp2_with fail
      go_ret
      exact ⟨ret_str (by show str [65, 114, 114, 97, 121, 60] ++ str T0 ++ str [62] = _; rw [str_append, str_append]; simp), (below1 w _).trans (hb2.mono (by simp))⟩
    by_cases h11 : k = 11
    · subst h11
      have hz : (commas (Ty.texts l)).length + 6 ≤ 100000 := by
        have e : nodeText 11 s.toList (Ty.texts l) = [87, 101, 97, 107, 60] ++ commas (Ty.texts l) ++ [62] := rfl
        rw [e] at hsz; simp at hsz; omega
      have hr := fun o => list_any l a cp ihl (w.alloc o) (hTys.later (below1 w o)) (by omega)
      have e : nodeText 11 s.toList (Ty.texts l) = [87, 101, 97, 107, 60] ++ commas (Ty.texts l) ++ [62] := rfl
      rw [e]
      have hz2 : (str (commas (Ty.texts l))).size ≤ 100000 := by rw [str_size]; omega
      generalize commas (Ty.texts l) = T0 at hr hz2 ⊢
      have Hr := Lib.hid hr
      clear hr hsz hz e
      go_enter Tryd.func25, Tryd.ntmps25
      go_wp2_with fail
      refine (Hr.out _).mono ?_
      rintro e w2 ⟨rfl, hb2⟩
      go_wp2_with fail
      go_ret
      exact ⟨ret_str (by show str [87, 101, 97, 107, 60] ++ str T0 ++ str [62] = _; rw [str_append, str_append]; simp), (below1 w _).trans (hb2.mono (by simp))⟩
    by_cases h9 : k = 9
    · subst h9
      have hz2 : s.size ≤ 100000 := by
        have e : nodeText 9 s.toList (Ty.texts l) = [97, 110, 121, 32] ++ s.toList := rfl
        rw [e] at hsz; simp [toList_length] at hsz; omega
      clear hsz
      go_enter Tryd.func25, Tryd.ntmps25
      go_wp2_with fail
      go_ret
      exact ⟨ret_str (by show str [97, 110, 121, 32] ++ s = str ([97, 110, 121, 32] ++ s.toList); rw [← str_append, ← str_of s]), below1 _ _⟩
    by_cases h6 : k = 6
    · subst h6
      by_cases hl0 : l.length = 0
      · have e : nodeText 6 s.toList (Ty.texts l) = s.toList := by
          have : (Ty.texts l).length = 0 := by rw [texts_length]; exact hl0
          show (if (Ty.texts l).length = 0 then _ else _) = _
          rw [if_pos this]
        rw [e]
        clear hsz e
        go_enter Tryd.func25, Tryd.ntmps25
        go_wp2_with fail
        go_ret
        exact ⟨ret_str (str_of s), below1 _ _⟩
      · have e : nodeText 6 s.toList (Ty.texts l) = s.toList ++ [60] ++ commas (Ty.texts l) ++ [62] := by
          have : ¬ (Ty.texts l).length = 0 := by rw [texts_length]; exact hl0
          show (if (Ty.texts l).length = 0 then _ else _) = _
          rw [if_neg this]
        rw [e] at hsz ⊢
        simp [toList_length] at hsz
        have hr := fun (w2 : World) (h : Below w.heap.size w w2) => list_any l a cp ihl w2 (hTys.later h) (by omega)
        have hz2 : (str (commas (Ty.texts l))).size ≤ 100000 := by rw [str_size]; omega
        have hz3 : s.size ≤ 100000 := by omega
        have hl1 : 0 < l.length := by omega
        have hab := ha hl1
        subst hab
        generalize commas (Ty.texts l) = T0 at hr hz2 ⊢
        have Hr := Lib.hid hr
        clear hr hsz e
        have he : ((l.length : Int) == 0) = false := beq_eq_false_iff_ne.2 (by omega)
        go_enter Tryd.func25, Tryd.ntmps25
        go_wp2_with fail
        have hc1 : ¬ 9223372036854775807 < s.size + 1 := by omega
        have hc2 : ¬ 9223372036854775807 < s.size + 1 + (str T0).size := by omega
        have hc3 : ¬ 9223372036854775807 < s.size + 1 + (str T0).size + 1 := by omega
        have hS0 : ∀ o, Below w.heap.size w (w.alloc o).drew := fun o => (below1 w o).drew
        go_region_held3 (fun w' => w'.cell? ⟨w.heap.size, 1, none⟩ = some (.string s) ∧ w'.cell? ⟨w.heap.size, 3, none⟩ = some (.slice (some ⟨b, off, none⟩) l.length cp) ∧ Below w.heap.size w w')
          (((try dsimp only); refine ⟨?_, ?_, ?_⟩ <;> first | (exact hS0 _) | exact cells_later hb2 _ _ (by first | assumption | simp) | exact Below.trans (hS0 _) (hb2.mono (Below.size (hS0 _))) | exact Below.trans (by assumption) (hb2.mono (Below.size (by assumption))) | simp))
          (first | (go_at_call 34; refine (Hr.out _ ?_).mono ?_; (first | assumption | exact hS0 _); rintro e w2 ⟨rfl, hb2⟩))
        go_wp2_with fail
        go_ret
        exact ⟨ret_str (by show s ++ str [60] ++ str T0 ++ str [62] = _; rw [← str_append, ← str_append, ← str_append, ← str_of s]), (hS0 _).trans (hb2.mono (hS0 _).size)⟩
    have h10 : k = 10 ∧ 1 ≤ l.length := by
      unfold spellNode at hnode
      simp only [Bool.or_eq_true, Bool.and_eq_true, beq_iff_eq, decide_eq_true_eq] at hnode
      omega
    obtain ⟨rfl, hl1⟩ := h10
    have hab := ha (by omega)
    subst hab
    clear h1 h2 h3 h4 h5 h6 h9 h11 hnode
    obtain ⟨m, hm⟩ : ∃ m, l.length = m + 1 := ⟨l.length - 1, by omega⟩
    have e : nodeText 10 s.toList (Ty.texts l) = [40] ++ commas ((Ty.texts l).take m) ++ [41, 32, 45, 62, 32] ++ (Ty.texts l).getD m [] := by
      have : m = (Ty.texts l).length - 1 := by rw [texts_length]; omega
      rw [this]; rfl
    have e2 : (Ty.texts l).take m = Ty.texts (l.take m) := by rw [Ty.texts_eq, Ty.texts_eq, List.map_take]
    have e3 : (Ty.texts l).getD m [] = l[m].text := by
      rw [Ty.texts_eq, List.getD_eq_getElem?_getD, List.getElem?_map, List.getElem?_eq_getElem (by omega)]; rfl
    rw [e, e2, e3] at hsz ⊢
    simp only [List.length_append, List.length_cons, List.length_nil] at hsz
    have elen : (l.take m).length = m := by simp; omega
    have hT2 : ∀ w2, Below w.heap.size w w2 → Tys w2 (some ⟨b, off, none⟩) (l.take m) := fun w2 h => by
      refine Tys.later h ⟨(by show _ ≤ 2 ^ 63 - 1; omega), b, off, C, fun _ => rfl, fun i hi' j hj => hc i (by omega) j hj, fun i hi' => ?_⟩
      rw [List.getElem_take]
      exact hi i (by omega)
    have hr := fun (w2 : World) (h : Below w.heap.size w w2) => list_any (l.take m) (some ⟨b, off, none⟩) cp (fun t ht => ihl t (List.mem_of_mem_take ht)) w2 (hT2 w2 h) (by omega)
    rw [elen] at hr
    have hq := fun (w2 : World) (h : Below w.heap.size w w2) => ihl l[m] (List.getElem_mem _) w2 _ ((hi m (by omega)).under h) (by omega)
    obtain ⟨c0, c1, c2, c3⟩ := four hc m (by omega)
    have hz2 : (str (commas (Ty.texts (l.take m)))).size ≤ 100000 := by rw [str_size]; omega
    have hz3 : (str l[m].text).size ≤ 100000 := by rw [str_size]; omega
    generalize commas (Ty.texts (l.take m)) = T0 at hr hz2 ⊢
    generalize l[m].text = T1 at hq hz3 ⊢
    generalize C m 0 = C0 at c0 hq
    generalize C m 1 = C1 at c1 hq
    generalize C m 2 = C2 at c2 hq
    generalize C m 3 = C3 at c3 hq
    have Hr := Lib.hid hr
    have Hq := Lib.hid hq
    clear hr hq e e2 e3 elen hT2 hsz hi hc ihl ha hTys
    have hcp : m + 1 ≤ cp ∧ cp ≤ 2 ^ 63 - 1 := by omega
    clear hlen hl1
    rw [hm]
    clear hm
    go_enter Tryd.func25, Tryd.ntmps25
    go_wp2_with fail
    have hS0 : ∀ o, Below w.heap.size w (w.alloc o).drew := fun o => (below1 w o).drew
    have z0 := fun o => cells_later (hS0 o) _ _ c0
    have z1 := fun o => cells_later (hS0 o) _ _ c1
    have z2 := fun o => cells_later (hS0 o) _ _ c2
    have z3 := fun o => cells_later (hS0 o) _ _ c3
    have hc1 : ¬ 9223372036854775807 < 1 + (str T0).size := by omega
    have hc2 : ¬ 9223372036854775807 < 1 + (str T0).size + 5 := by omega
    have hc3 : ¬ 9223372036854775807 < 1 + (str T0).size + 5 + (str T1).size := by omega
    have hi1 : (0 : Int) ≤ (m : Int) := by omega
    have hi2 : (m : Int) < (m : Int) + 1 := by omega
    have hi3 : (m : Int) ≤ (cp : Int) := by omega
    have hi4 : m ≤ cp := by omega
    have hi5 : m < m + 1 := by omega
    have zb : ∀ o, (w.alloc o).drew.cell? ⟨w.heap.size, 3, none⟩ = (w.alloc o).cell? ⟨w.heap.size, 3, none⟩ := fun o => by simp
    go_region_held3 (fun w' => w'.cell? ⟨w.heap.size, 3, none⟩ = some (.slice (some ⟨b, off, none⟩) (m + 1) cp) ∧
        w'.cell? ⟨b, off + m * 4, none⟩ = some C0 ∧ w'.cell? ⟨b, off + m * 4 + 1, none⟩ = some C1 ∧
        w'.cell? ⟨b, off + m * 4 + 2, none⟩ = some C2 ∧ w'.cell? ⟨b, off + m * 4 + 3, none⟩ = some C3 ∧ Below w.heap.size w w')
      (((try dsimp only); refine ⟨?_, ?_, ?_, ?_, ?_, ?_⟩ <;> first | exact hS0 _ | exact z0 _ | exact z1 _ | exact z2 _ | exact z3 _ | exact new_cell _ _ _ _ _ rfl | exact cells_later hb2 _ _ (z0 _) | exact cells_later hb2 _ _ (z1 _) | exact cells_later hb2 _ _ (z2 _) | exact cells_later hb2 _ _ (z3 _) | exact cells_later hb2 _ _ (new_cell _ _ _ _ _ rfl) | exact cells_later hb3 _ _ (cells_later hb2 _ _ (z0 _)) | exact cells_later hb3 _ _ (cells_later hb2 _ _ (z1 _)) | exact cells_later hb3 _ _ (cells_later hb2 _ _ (z2 _)) | exact cells_later hb3 _ _ (cells_later hb2 _ _ (z3 _)) | exact cells_later hb3 _ _ (cells_later hb2 _ _ (new_cell _ _ _ _ _ rfl)) | exact Below.trans (Below.trans (hS0 _) (hb2.mono (Below.size (hS0 _)))) (hb3.mono (Below.size (Below.trans (hS0 _) (hb2.mono (Below.size (hS0 _)))))) | exact Below.trans (hS0 _) (hb2.mono (Below.size (hS0 _))) ))
      (first | (go_at_call 34; refine (Hr.out _ ?_).mono ?_; (first | assumption | exact hS0 _); rintro e w2 ⟨rfl, hb2⟩) | (go_at_call 25; refine (Hq.out _ ?_).mono ?_; (first | assumption | exact Below.trans (hS0 _) (hb2.mono (Below.size (hS0 _)))); rintro e w3 ⟨rfl, hb3⟩))
    go_wp2_with fail
    go_ret
    exact ⟨ret_str (by show str [40] ++ str T0 ++ str [41, 32, 45, 62, 32] ++ str T1 = _; rw [str_append, str_append, str_append]; simp), Below.trans (Below.trans (hS0 _) (hb2.mono (Below.size (hS0 _)))) (hb3.mono (Below.size (Below.trans (hS0 _) (hb2.mono (Below.size (hS0 _))))))⟩
end Go.Proofs.YtnggblocfennaaaDoor
