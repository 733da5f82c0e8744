/- A region that draws its order, by an invariant over what has been done: for regions whose operations commute in what they leave, not in the worlds that they pass through. No program in sight. -/
import Derived.Test.YtnggblocfennaaaDoorTy
import Derived.RegionTactic
namespace Go.Proofs.YtnggblocfennaaaDoor
open Go.RowKit

/-- what the operations that have been done have left in the slots: each entry is an operation's number, its slot, its value -/
def laidBy (spec : List (Nat × Nat × Value)) (listed : Array Bool) (t : Array Value) : Array Value :=
  spec.foldl (fun t x => if listed.getD x.1 false then t.setIfInBounds x.2.1 x.2.2 else t) t

theorem laidBy_size : ∀ (spec : List (Nat × Nat × Value)) (listed : Array Bool) (t : Array Value), (laidBy spec listed t).size = t.size
  | [], _, _ => rfl
  | x :: r, listed, t => by
    show (laidBy r listed (if listed.getD x.1 false then t.setIfInBounds x.2.1 x.2.2 else t)).size = _
    rw [laidBy_size r]; split <;> simp

/-- a slot of no operation -/
theorem laidBy_other : ∀ (spec : List (Nat × Nat × Value)) (listed : Array Bool) (t : Array Value) (d : Nat), (∀ x ∈ spec, x.2.1 ≠ d) → (laidBy spec listed t).getD d undef = t.getD d undef
  | [], _, _, _, _ => rfl
  | x :: r, listed, t, d, h => by
    show (laidBy r listed (if listed.getD x.1 false then t.setIfInBounds x.2.1 x.2.2 else t)).getD d undef = _
    rw [laidBy_other r listed _ d (fun y hy => h y (.tail _ hy))]
    split
    · have := h x (.head _)
      simp [Array.getD_eq_getD_getElem?, Array.getElem?_setIfInBounds, this]
    · rfl

/-- the slot of an operation that has been done -/
theorem laidBy_done : ∀ (spec : List (Nat × Nat × Value)) (listed : Array Bool) (t : Array Value), (spec.map (·.2.1)).Nodup → (∀ x ∈ spec, x.2.1 < t.size) →
    ∀ x ∈ spec, listed.getD x.1 false = true → (laidBy spec listed t).getD x.2.1 undef = x.2.2
  | [], _, _, _, _, _, h, _ => by cases h
  | y :: r, listed, t, hn, hb, x, hx, hl => by
    show (laidBy r listed (if listed.getD y.1 false then t.setIfInBounds y.2.1 y.2.2 else t)).getD x.2.1 undef = _
    simp only [List.map_cons, List.nodup_cons] at hn
    cases hx with
    | head =>
      rw [if_pos hl, laidBy_other r listed _ _ (fun z hz he => hn.1 (List.mem_map.2 ⟨z, hz, he⟩))]
      have := hb y (.head _)
      simp [Array.getD_eq_getD_getElem?, Array.getElem?_setIfInBounds, this]
    | tail _ hx =>
      exact laidBy_done r listed _ hn.2 (fun z hz => by split <;> simpa using hb z (.tail _ hz)) x hx hl

theorem set_comm (t : Array Value) (d e : Nat) (u v : Value) (h : d ≠ e) : (t.setIfInBounds d u).setIfInBounds e v = (t.setIfInBounds e v).setIfInBounds d u := by
  apply Array.ext_getElem?
  intro i
  simp only [Array.getElem?_setIfInBounds, Array.size_setIfInBounds]
  by_cases h1 : e = i <;> by_cases h2 : d = i <;> simp [h1, h2]
  omega

/-- one operation more -/
theorem laidBy_set : ∀ (spec : List (Nat × Nat × Value)) (listed : Array Bool) (t : Array Value) (i d : Nat) (v : Value), (spec.map (·.2.1)).Nodup → (spec.map (·.1)).Nodup → (i, d, v) ∈ spec → i < listed.size → listed.getD i false = false →
    laidBy spec (listed.setIfInBounds i true) t = (laidBy spec listed t).setIfInBounds d v
  | [], _, _, _, _, _, _, _, h, _, _ => by cases h
  | y :: r, listed, t, i, d, v, hn, hi, hx, hs, hl => by
    simp only [List.map_cons, List.nodup_cons] at hn hi
    have hother : ∀ (r : List (Nat × Nat × Value)) (t : Array Value), i ∉ r.map (·.1) → laidBy r (listed.setIfInBounds i true) t = laidBy r listed t := by
      intro r
      induction r with
      | nil => intro t _; rfl
      | cons z r ih =>
        intro t hz
        simp only [List.map_cons, List.mem_cons, not_or] at hz
        show laidBy r _ (if (listed.setIfInBounds i true).getD z.1 false then _ else _) = laidBy r _ (if listed.getD z.1 false then _ else _)
        have : (listed.setIfInBounds i true).getD z.1 false = listed.getD z.1 false := by
          simp [Array.getD_eq_getD_getElem?, Array.getElem?_setIfInBounds, hz.1]
        rw [this, ih _ hz.2]
    have hpush : ∀ (r : List (Nat × Nat × Value)) (t : Array Value), d ∉ r.map (·.2.1) → laidBy r listed (t.setIfInBounds d v) = (laidBy r listed t).setIfInBounds d v := by
      intro r
      induction r with
      | nil => intro t _; rfl
      | cons z r ih =>
        intro t hz
        simp only [List.map_cons, List.mem_cons, not_or] at hz
        show laidBy r _ (if listed.getD z.1 false then (t.setIfInBounds d v).setIfInBounds z.2.1 z.2.2 else _) = (laidBy r _ (if listed.getD z.1 false then t.setIfInBounds z.2.1 z.2.2 else _)).setIfInBounds d v
        split
        · rw [set_comm _ _ _ _ _ hz.1, ih _ hz.2]
        · rw [ih _ hz.2]
    cases hx with
    | head =>
      show laidBy r _ (if (listed.setIfInBounds i true).getD i false then t.setIfInBounds d v else t) = (laidBy r listed (if listed.getD i false then _ else t)).setIfInBounds d v
      have : (listed.setIfInBounds i true).getD i false = true := by simp [Array.getD_eq_getD_getElem?, Array.getElem?_setIfInBounds, hs]
      rw [this, hl]
      simp only [if_true, Bool.false_eq_true, if_false]
      rw [hother r _ hi.1, hpush r t hn.1]
    | tail _ hx =>
      show laidBy r _ (if (listed.setIfInBounds i true).getD y.1 false then _ else t) = (laidBy r listed (if listed.getD y.1 false then _ else t)).setIfInBounds d v
      have hne : i ≠ y.1 := by
        rintro rfl
        exact hi.1 (List.mem_map.2 ⟨_, hx, rfl⟩)
      have : (listed.setIfInBounds i true).getD y.1 false = listed.getD y.1 false := by simp [Array.getD_eq_getD_getElem?, Array.getElem?_setIfInBounds, hne]
      rw [this]
      exact laidBy_set r listed _ i d v hn.2 hi.2 hx hs hl

section
variable {P : Program} {ops : Array Oper} {Q : Exit → Act → World → Prop}

theorem wpAny_inv (I : Array Bool → Act → World → Prop)
    (step : ∀ listed a w i o, listed.size = ops.size → I listed a w → ops[i]? = some o → listed.getD i true = false → (∀ e ∈ o.after, Region.binds .any e = true → listed.getD e.on false = true) →
      ∀ K : Act → World → Prop, (∀ a' w', I (listed.setIfInBounds i true) a' w' → K a' w') → wpOp P ops Q i K a w)
    (fin : ∀ listed a w, listed.size = ops.size → I listed a w → Region.ready .any ops listed = [] → Q .normal a w) :
    ∀ (fuel : Nat) (listed : Array Bool) (a : Act) (w : World), listed.size = ops.size → ops.size ≤ fuel + listed.toList.count true → I listed a w → wpAny P .any ops Q fuel listed a w := by
  intro fuel
  induction fuel with
  | zero =>
    intro listed a w hs hf hI
    have hall : ∀ i, i < listed.size → listed.getD i true = true := by
      intro i hi
      have hll : listed.toList.length = listed.size := Array.length_toList
      have h1 : listed.toList.count true = listed.toList.length := Nat.le_antisymm List.count_le_length (by omega)
      have h2 : ∀ b ∈ listed.toList, true = b := List.count_eq_length.1 h1
      have : listed.getD i true = listed.toList[i]'(by simpa using hi) := by simp [Array.getD_eq_getD_getElem?, hi]
      rw [this]
      exact (h2 _ (List.getElem_mem _)).symm
    have hr : Region.ready .any ops listed = [] := by
      unfold Region.ready
      apply List.filter_eq_nil_iff.2
      intro i hi
      have hi' : i < listed.size := by rw [hs]; simpa using hi
      rw [hall i hi']
      simp
    exact ⟨hr, fin listed a w hs hI hr⟩
  | succ fuel ih =>
    intro listed a w hs hf hI
    refine ⟨fun h => fin listed a w hs hI h, fun i hi => ?_⟩
    unfold Region.ready at hi
    rw [List.mem_filter] at hi
    obtain ⟨hlt, hi⟩ := hi
    rw [Bool.and_eq_true] at hi
    have hlt' : i < ops.size := by simpa using hlt
    have hn : listed.getD i true = false := by simpa using hi.1
    have ho : ops[i]? = some ops[i] := Array.getElem?_eq_getElem hlt'
    have hpre := hi.2
    rw [ho] at hpre
    simp only [Option.map_some, Option.getD_some, Array.all_eq_true'] at hpre
    refine step listed a w i ops[i] hs hI ho hn (fun e he hb => ?_) _ (fun a' w' hI' => ih _ a' w' (by simpa using hs) ?_ hI')
    · have := hpre e he
      rw [hb] at this
      simpa using this
    · have hi2 : i < listed.toList.length := by rw [Array.length_toList]; omega
      have e1 : (listed.setIfInBounds i true).toList = listed.toList.set i true := by simp
      have hf' : listed.toList[i] = false := by
        have : listed.getD i true = listed.toList[i] := by simp [Array.getD_eq_getD_getElem?, show i < listed.size by omega]
        rw [← this]; exact hn
      have hll : listed.toList.length = listed.size := Array.length_toList
      rw [e1, List.count_set hi2, hf']
      simp only [show (false == true) = false from rfl, show (true == true) = true from rfl, if_true, Bool.false_eq_true, if_false]
      omega

/-- each operation comes behind operations of smaller numbers alone -/
def upward (ops : Array Oper) : Bool := (List.range ops.size).all fun i => ((ops[i]?).map fun o => o.after.all fun e => decide (e.on < i)).getD true

theorem all_listed (hu : upward ops = true) {listed : Array Bool} (hs : listed.size = ops.size) (hr : Region.ready .any ops listed = []) : ∀ i, i < ops.size → listed.getD i false = true := by
  intro i
  induction i using Nat.strongRecOn with
  | ind i ih =>
    intro hi
    have h1 := List.filter_eq_nil_iff.1 hr i (List.mem_range.2 hi)
    have ho : ops[i]? = some ops[i] := Array.getElem?_eq_getElem hi
    have hu1 := List.all_eq_true.1 hu i (List.mem_range.2 hi)
    rw [ho] at hu1 h1
    simp only [Option.map_some, Option.getD_some, Array.all_eq_true', decide_eq_true_eq] at hu1
    cases hl : listed.getD i false with
    | true => rfl
    | false =>
      exfalso
      apply h1
      have : listed.getD i true = false := by
        have hi2 : i < listed.size := by omega
        simp only [Array.getD_eq_getD_getElem?, Array.getElem?_eq_getElem hi2, Option.getD_some] at hl ⊢
        exact hl
      rw [this]
      simp only [Bool.not_false, Bool.true_and, Option.map_some, Option.getD_some, Array.all_eq_true']
      intro e he
      rw [ih e.on (hu1 e he) (by have := hu1 e he; omega)]
      simp

/-- a region by a table of what its operations yield, and an invariant on worlds over what has been done -/
theorem wpAny_table (spec : List (Nat × Nat × Value)) (W : Array Bool → World → Prop) (a : Act) (w : World) (hu : upward ops = true)
    (hd : (spec.map (·.2.1)).Nodup) (hi : (spec.map (·.1)).Nodup) (hb : ∀ x ∈ spec, x.2.1 < a.tmps.size) (h0 : W (Array.replicate ops.size false) w)
    (step : ∀ (listed : Array Bool) (a' : Act) (w' : World) (i : Nat) (o : Oper), listed.size = ops.size → W listed w' → ops[i]? = some o → listed.getD i false = false → (∀ e ∈ o.after, Region.binds .any e = true → listed.getD e.on false = true) →
      (∀ x ∈ spec, listed.getD x.1 false = true → a'.tmps.getD x.2.1 undef = x.2.2) → (∀ d, (∀ x ∈ spec, x.2.1 ≠ d) → a'.tmps.getD d undef = a.tmps.getD d undef) →
      ∀ K : Act → World → Prop, (∀ d v w'', (i, d, v) ∈ spec → W (listed.setIfInBounds i true) w'' → K (a'.put (some d) v) w'') →
        ((∀ x ∈ spec, x.1 ≠ i) → ∀ w'', W (listed.setIfInBounds i true) w'' → K a' w'') → wpOp P ops Q i K a' w')
    (fin : ∀ (listed : Array Bool) (w' : World), (∀ i, i < ops.size → listed.getD i false = true) → W listed w' → Q .normal { a with tmps := laidBy spec listed a.tmps } w') :
    wpAny P .any ops Q ops.size (Array.replicate ops.size false) a w := by
  have hnil : ∀ (sp : List (Nat × Nat × Value)) (n : Nat) (t : Array Value), laidBy sp (Array.replicate n false) t = t := by
    intro sp
    induction sp with
    | nil => intro n t; rfl
    | cons x r ih =>
      intro n t
      show laidBy r _ (if (Array.replicate n false).getD x.1 false then _ else t) = t
      have : (Array.replicate n false).getD x.1 false = false := by
        simp only [Array.getD_eq_getD_getElem?, Array.getElem?_replicate]
        split <;> rfl
      rw [this]
      exact ih n t
  refine wpAny_inv (fun listed a' w' => a' = { a with tmps := laidBy spec listed a.tmps } ∧ W listed w') ?_ ?_ _ _ _ _ (by simp) (by simp) ⟨by rw [hnil], h0⟩
  · rintro listed a' w' i o hs ⟨rfl, hW⟩ ho hl hpre K hK
    have hlt : i < ops.size := (Array.getElem?_eq_some_iff.1 ho).1
    have hl' : listed.getD i false = false := by
      have hi2 : i < listed.size := by omega
      simp only [Array.getD_eq_getD_getElem?, Array.getElem?_eq_getElem hi2, Option.getD_some] at hl ⊢
      exact hl
    refine step listed _ w' i o hs hW ho hl' hpre (fun x hx hlx => laidBy_done spec listed a.tmps hd hb x hx hlx) (fun d hdx => laidBy_other spec listed a.tmps d hdx) K ?_ ?_
    · intro d v w'' hx hW'
      refine hK _ _ ⟨?_, hW'⟩
      simp only [Act.put]
      rw [laidBy_set spec listed a.tmps i d v hd hi hx (by omega) hl']
    · intro hno w'' hW'
      refine hK _ _ ⟨?_, hW'⟩
      have hother : ∀ (r : List (Nat × Nat × Value)) (t : Array Value), (∀ x ∈ r, x.1 ≠ i) → laidBy r (listed.setIfInBounds i true) t = laidBy r listed t := by
        intro r
        induction r with
        | nil => intro t _; rfl
        | cons z r ih =>
          intro t hz
          show laidBy r _ (if (listed.setIfInBounds i true).getD z.1 false then _ else _) = laidBy r _ (if listed.getD z.1 false then _ else _)
          have : (listed.setIfInBounds i true).getD z.1 false = listed.getD z.1 false := by
            simp [Array.getD_eq_getD_getElem?, Array.getElem?_setIfInBounds, (hz z (.head _)).symm]
          rw [this, ih _ (fun x hx => hz x (.tail _ hx))]
      rw [hother spec a.tmps hno]
  · rintro listed a' w' hs ⟨rfl, hW⟩ hr
    exact fin listed w' (all_listed hu hs hr) hW
end
end Go.Proofs.YtnggblocfennaaaDoor
