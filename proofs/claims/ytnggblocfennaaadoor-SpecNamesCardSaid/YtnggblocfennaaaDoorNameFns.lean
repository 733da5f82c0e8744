/- The two functions Name, and what they lean on: contracts. -/
import Derived.Test.YtnggblocfennaaaDoorFormat
import Derived.OwnWalk
namespace Go.Proofs.YtnggblocfennaaaDoor
open Go.RowKit

def goodTy (t : Ty) : Bool := (decide (t.nodes 40 ≤ 40) && t.all false) && t.conc
theorem goodTy_parts {t : Ty} (h : goodTy t = true) : t.nodes 40 ≤ 40 ∧ t.all false = true ∧ t.conc = true := by
  unfold goodTy at h
  rw [Bool.and_eq_true, Bool.and_eq_true, decide_eq_true_eq] at h
  exact ⟨h.1.1, h.1.2, h.2⟩
theorem goodTy_short {t : Ty} (h : goodTy t = true) : t.text.length ≤ 1600 := by
  obtain ⟨h1, h2, h3⟩ := goodTy_parts h
  have h4 := text_short false t h2 h3
  rw [Ty.nodes_eq 40 (by omega)] at h1
  omega

/-- a list of types is a slice of it -/
theorem join_commas (L : List (List UInt8)) : Lib.join L [44, 32] = commas L := by
  cases L with
  | nil => rfl
  | cons t ts => rw [Lib.join_cons]; simp [commas, Lib.joinTail, List.flatMap]

theorem commas_bound (l : List Ty) (h : ∀ t ∈ l, t.text.length ≤ 1600) : (commas (Ty.texts l)).length ≤ 1602 * l.length := by
  have h1 := commas_length (Ty.texts l)
  have : ∀ (l : List Ty), (∀ t ∈ l, t.text.length ≤ 1600) → ((Ty.texts l).map fun x => x.length + 2).sum ≤ 1602 * l.length := by
    intro l
    induction l with
    | nil => intro _; simp [Ty.texts]
    | cons a l ih =>
      intro h
      have h1 := h a (.head _)
      have h2 := ih (fun t ht => h t (.tail _ ht))
      rw [Ty.texts]
      simp only [List.map_cons, List.sum_cons, List.length_cons]
      omega
  have := this l h
  omega

theorem grown_of_below {w w' : World} (h : Below w.heap.size w w') : w.grownBy w' none := ⟨h.os, h.tape, h.output, h.size, fun k hk _ => h.block k hk⟩
theorem owns_below {w w' : World} {base e size n : Nat} {v : Value} {xs : List Value} (h : w.ownsRow base e size v n xs) (hb : Below w.heap.size w w') : w'.ownsRow base e size v n xs :=
  h.kept (grown_of_below hb) (by cases hv : v.ownBlock <;> simp)

theorem Tryd.infoString : (Tryd.prog.info? 9).map (fun i => (i.zero, i.size, i.bytes)) = some (some (.string ⟨#[]⟩), 1, 16) := by kernel_rfl

def tcells (l : List Ty) : List Value := l.map fun t => .string (str t.text)

/-- a row of one's own whose cells are strings is joined with commas -/
theorem joined (l : List Ty) (v : Value) (B : Nat) (w : World) (h0 : 0 < l.length) (hl : l.length ≤ 400) (hs : ∀ t ∈ l, t.text.length ≤ 1600) (hown : w.ownsRow B 9 1 v l.length (tcells l)) :
    Calls Tryd.prog 12 #[v, .string (str [44, 32])] w fun e w' => e = .returned (.string (str (commas (Ty.texts l)))) ∧ Below w.heap.size w w' := by
  rcases hown.2 with ⟨_, hn⟩ | ⟨g, cap, cur, rfl, hb, hgg, h1, h2, h3, htake⟩
  · omega
  · have hcells : ∀ (j : Nat) x, (l.map fun t => str t.text)[j]? = some x → w.cell? ⟨g, 0 + j, none⟩ = some (.string x) := by
      intro j x hx
      have hx' : (tcells l)[j]? = some (.string x) := by
        rw [List.getElem?_map] at hx
        rw [tcells, List.getElem?_map]
        cases hj : l[j]? with
        | none => rw [hj] at hx; cases hx
        | some t => rw [hj] at hx; simp at hx; rw [← hx]; rfl
      have := hown.cells (g := g) rfl j _ hx'
      have hadd : (⟨g, 0, none⟩ : Addr).add j = ⟨g, 0 + j, none⟩ := by unfold Addr.add; split <;> simp_all
      rw [hadd] at this
      exact this
    have hmap : (l.map fun t => str t.text).map (fun x : ByteArray => x.data.toList) = Ty.texts l := by
      rw [Ty.texts_eq, List.map_map]
      apply List.map_congr_left
      intro t _
      rfl
    have hj := Tryd.strings_Join g 0 cap (l.map fun t => str t.text) (str [44, 32]) w hcells (Array.getElem?_eq_some_iff.1 hgg).1 (by rw [List.length_map]; omega) (by rw [List.length_map]; first | exact h1 | exact h2 | exact h3 | omega)
      (by rw [hmap, show (str [44, 32]).data.toList = [44, 32] from rfl, join_commas]; have := commas_bound l hs; omega)
    rw [hmap, show (str [44, 32]).data.toList = [44, 32] from rfl, join_commas, List.length_map] at hj
    exact hj

set_option maxHeartbeats 1000000 in
theorem name_any (code : ByteArray) (l : List Ty) (a : Option Addr) (cp : Nat) (w : World) (hl : Tys w a l) (h0 : 0 < l.length) (hlen : l.length ≤ 400) (hc : code.size ≤ 200) (hg : ∀ t ∈ l, goodTy t = true) :
    Calls Tryd.prog 15 #[.string code, .slice a l.length cp] w fun e w' => e = .returned (.string (str (code.toList ++ [60] ++ commas (Ty.texts l) ++ [62]))) ∧ Below w.heap.size w w' := by
  have hs : ∀ t ∈ l, t.text.length ≤ 1600 := fun t ht => goodTy_short (hg t ht)
  have ih : ∀ t ∈ l, spelledSays t := fun t ht => spelled_any t (spells_of false t (goodTy_parts (hg t ht)).2.1 (goodTy_parts (hg t ht)).2.2)
  have hcb := commas_bound l hs
  obtain ⟨i0, hi, hz0, hz1, hz2⟩ := info_parts Tryd.infoString
  have hl' := hl
  obtain ⟨_, b, off, C, ha, hcs, hin⟩ := hl
  have hab := ha h0
  subst hab
  have Hi := Lib.hid hi
  have Hz0 := Lib.hid hz0
  have Hz1 := Lib.hid hz1
  have Hz2 := Lib.hid hz2
  clear hi hz0 hz1 hz2
  go_enter Tryd.func15, Tryd.ntmps15
  go_wp2_with fail
  go_loopw [5, 6] (fun v ii wr => ∃ (i : Nat), i ≤ l.length ∧ ii = .int .i64 i ∧ wr.ownsRow w.heap.size 9 1 v i (tcells (l.take i)) ∧ Below w.heap.size w wr) (fun _ ii _ => l.length - (intOf ii).toNat)
  case atStart => exact ⟨0, Nat.zero_le _, rfl, World.ownsRow_nil _ _ _ _, Below.refl _ _⟩
  case round =>
    obtain ⟨i, hil, rfl, hown, Bi⟩ := hrel
    have Hown := Lib.hid hown
    clear hown
    by_cases hlt : i < l.length
    · obtain ⟨c0, c1, c2, c3⟩ := four (fun i h j hj => cells_later Bi _ _ (hcs i h j hj)) i hlt
      have hr := ih l[i] (List.getElem_mem hlt) wr _ ((hin i hlt).under Bi) (by have := hs l[i] (List.getElem_mem hlt); omega)
      have hstep : tcells (l.take (i + 1)) = tcells (l.take i) ++ [.string (str l[i].text)] := by
        rw [List.take_succ_eq_append_getElem hlt, tcells, List.map_append]; rfl
      generalize l[i].text = tx at hr hstep
      have Hr := Lib.hid hr
      have Hs := Lib.hid hstep
      clear hr hstep
      go_wp2_with fail
      refine Hr.out.mono ?_
      rintro e w2 ⟨rfl, hb2⟩
      have hown2 := owns_below Hown.out hb2
      have hz : wr.heap.size ≤ w2.heap.size := hb2.size
      have hz' : w.heap.size ≤ wr.heap.size := Bi.size
      go_wp2_with (at_builtin; refine wpList_append_own _ rfl _ _ 32 rfl w.heap.size 9 i0 (.string ⟨#[]⟩) 1 16 Tryd.underlying32 Hi.out Hz0.out Hz1.out Hz2.out rfl (by decide) _ _ _ rfl (hown2.alloc _) ⟨w2.heap.size, 0, none⟩ 1 1 [.string (str tx)] rfl rfl ?c1 ?c2 ?c3 ?c4 ?c5 ?_)
      case c1 =>
        intro j u hj
        match j, hj with
        | 0, hj => simp at hj; subst hj; simp [Addr.add]
      case c2 => intro u hu; simp at hu; subst hu; rfl
      case c3 => unfold maxLen; omega
      case c4 => omega
      case c5 => simp; omega
      · intro v' w3 hown3 hgrow _
        have hb3 : Below w.heap.size w w3 := ((Bi.trans (hb2.mono hz')).alloc (by omega) _).grown hgrow (by simp; omega) (fun k hk => (hown2.lt k hk).1)
        rw [← Hs.out] at hown3
        have Hown3 := Lib.hid hown3
        clear hown3 hgrow hown2
        go_wp2_with fail
        go_roundw
        case rel => exact ⟨i + 1, by omega, by go_num, Hown3.out, hb3⟩
        case measure => simp [intOf]; omega
    · have e1 : l.take i = l := List.take_of_length_le (by omega)
      have e2 : i = l.length := by omega
      have hown2 := Hown.out
      rw [e1, e2] at hown2
      have hj := joined l _ _ wr h0 hlen hs hown2
      have hz1 : (str (commas (Ty.texts l))).size ≤ 700000 := by rw [str_size]; omega
      generalize hT0 : commas (Ty.texts l) = T0 at hj hz1
      have HT0 := Lib.hid hT0
      clear hT0
      have Hj := Lib.hid hj
      have hge : l.length ≤ i := by omega
      clear hj e1 e2 hown2 hcb
      go_wp2_with fail
      refine Hj.out.mono ?_
      rintro e w2 ⟨rfl, hb2⟩
      go_wp2_with fail
      go_ret
      exact ⟨ret_str (by show code ++ str [60] ++ str T0 ++ str [62] = _; rw [← str_append, ← str_append, ← str_append, ← str_of code, HT0.out]), Bi.trans (hb2.mono Bi.size)⟩

/-- what Name answers: the name, and 0; or an error's number -/
def nameVal (code : List UInt8) (l : List Ty) : Value :=
  if l.length = 0 then .tuple #[.string (str []), .int .i64 4]
  else if l.all goodTy then .tuple #[.string (str (code ++ [60] ++ commas (Ty.texts l) ++ [62])), .int .i64 0] else .tuple #[.string (str []), .int .i64 30]
theorem nameVal_none (code : List UInt8) (l : List Ty) (h : l.length = 0) : nameVal code l = .tuple #[.string (str []), .int .i64 4] := by unfold nameVal; rw [if_pos h]
theorem nameVal_bad (code : List UInt8) (l : List Ty) (h : l.length ≠ 0) (hb : l.all goodTy = false) : nameVal code l = .tuple #[.string (str []), .int .i64 30] := by unfold nameVal; rw [if_neg h, hb]; rfl
theorem nameVal_good (code : List UInt8) (l : List Ty) (h : l.length ≠ 0) (hb : l.all goodTy = true) : nameVal code l = .tuple #[.string (str (code ++ [60] ++ commas (Ty.texts l) ++ [62])), .int .i64 0] := by unfold nameVal; rw [if_neg h, hb]; rfl
theorem all_take (l : List Ty) (i : Nat) (h : i < l.length) : (l.take (i + 1)).all goodTy = ((l.take i).all goodTy && goodTy l[i]) := by
  rw [List.take_succ_eq_append_getElem h, List.all_append]; simp
theorem all_bad (l : List Ty) (i : Nat) (h : i < l.length) (hb : goodTy l[i] = false) : l.all goodTy = false := by
  rw [List.all_eq_false]; exact ⟨l[i], List.getElem_mem h, by rw [hb]; simp⟩

theorem name_norm (a b : List UInt8) : a ++ [60] ++ b ++ [62] = a ++ 60 :: (b ++ [62]) := by simp

set_option maxHeartbeats 1000000 in
theorem refName_any (code : ByteArray) (l : List Ty) (a : Option Addr) (cp : Nat) (w : World) (hl : Tys w a l) (hlen : l.length ≤ 400) (hc : code.size ≤ 200) :
    Calls Tryd.prog 7 #[.string code, .slice a l.length cp] w fun e w' => e = .returned (nameVal code.toList l) ∧ Below w.heap.size w w' := by
  have hl' := hl
  obtain ⟨_, b, off, C, ha, hcs, hin⟩ := hl
  have hv0 := nameVal_none code.toList l
  have hv1 := nameVal_bad code.toList l
  have hv2 := nameVal_good code.toList l
  generalize nameVal code.toList l = V at hv0 hv1 hv2 ⊢
  have HV0 := Lib.hid hv0
  have HV1 := Lib.hid hv1
  have HV2 := Lib.hid hv2
  have HL := Lib.hid hl'
  clear hv0 hv1 hv2 hl'
  go_enter Tryd.func7, Tryd.ntmps7
  go_wp2_with fail
  go_loopw [6] (fun ii wr => ∃ (i : Nat), i ≤ l.length ∧ ii = .int .i64 i ∧ (l.take i).all goodTy = true ∧ Below w.heap.size w wr) (fun ii _ => l.length - (intOf ii).toNat)
  case atStart => exact ⟨0, Nat.zero_le _, rfl, rfl, Below.refl _ _⟩
  case round =>
    obtain ⟨i, hil, rfl, hgood, Bi⟩ := hrel
    have Hg := Lib.hid hgood
    clear hgood
    by_cases hlt : i < l.length
    · have hab := ha (by omega)
      subst hab
      obtain ⟨c0, c1, c2, c3⟩ := four (fun i h j hj => cells_later Bi _ _ (hcs i h j hj)) i hlt
      have hT := (hin i hlt).under Bi
      have hr := refValid_any l[i] wr _ hT
      have hr2 := fun (w2 : World) (h : Below wr.heap.size wr w2) => refConcrete_any l[i] w2 _ (hT.under h)
      have hg1 : goodTy l[i] = ((decide (l[i].nodes 40 ≤ 40) && l[i].all false) && l[i].conc) := rfl
      have hne : l.length ≠ 0 := by omega
      have htake := all_take l i hlt
      have hbad := all_bad l i hlt
      generalize (decide (l[i].nodes 40 ≤ 40) && l[i].all false) = r1 at hr hg1
      generalize l[i].conc = r2 at hr2 hg1
      have Hr := Lib.hid hr
      have Hr2 := Lib.hid hr2
      have Hg1 := Lib.hid hg1
      have Ht := Lib.hid htake
      have Hb := Lib.hid hbad
      clear hr hr2 hg1 htake hbad hT
      cases r1 with
      | false =>
        go_wp2_with fail
        refine Hr.out.mono ?_
        rintro e w2 ⟨rfl, hb2⟩
        go_wp2_with fail
        go_ret2
        exact ⟨by rw [HV1.out hne (Hb.out (by rw [Hg1.out]; rfl))]; rfl, Bi.trans (hb2.mono Bi.size)⟩
      | true =>
        go_wp2_with fail
        refine Hr.out.mono ?_
        rintro e w2 ⟨rfl, hb2⟩
        have d0 := cells_later hb2 _ _ c0
        have d1 := cells_later hb2 _ _ c1
        have d2 := cells_later hb2 _ _ c2
        have d3 := cells_later hb2 _ _ c3
        cases r2 with
        | false =>
          go_wp2_with fail
          refine (Hr2.out _ hb2).mono ?_
          rintro e w3 ⟨rfl, hb3⟩
          go_wp2_with fail
          go_ret2
          exact ⟨by rw [HV1.out hne (Hb.out (by rw [Hg1.out]; rfl))]; rfl, Bi.trans ((hb2.trans (hb3.mono hb2.size)).mono Bi.size)⟩
        | true =>
          go_wp2_with fail
          refine (Hr2.out _ hb2).mono ?_
          rintro e w3 ⟨rfl, hb3⟩
          go_wp2_with fail
          go_roundw
          case rel => exact ⟨i + 1, by omega, by go_num, by rw [Ht.out, Hg.out, Hg1.out]; rfl, Bi.trans ((hb2.trans (hb3.mono hb2.size)).mono Bi.size)⟩
          case measure => simp [intOf]; omega
    · by_cases h0 : l.length = 0
      · have h0' : ((l.length : Int) == 0) = true := by rw [h0]; rfl
        have e0 := HV0.out h0
        go_wp2_with fail
        go_ret2
        exact ⟨by rw [HV0.out h0]; rfl, Bi⟩
      · have h0' : ((l.length : Int) == 0) = false := beq_eq_false_iff_ne.2 (by omega)
        have hgl : l.all goodTy = true := by
          have := Hg.out
          rw [List.take_of_length_le (by omega)] at this
          exact this
        have hn := name_any code l a cp wr (HL.out.later Bi) (by omega) hlen hc (fun t ht => List.all_eq_true.1 hgl t ht)
        have Hn := Lib.hid hn
        have HVV := Lib.hid (HV2.out h0 hgl)
        clear hn hgl
        go_wp2_with fail
        refine Hn.out.mono ?_
        rintro e w2 ⟨rfl, hb2⟩
        go_wp2_with fail
        go_ret2
        exact ⟨by rw [HVV.out, name_norm]; rfl, Bi.trans (hb2.mono Bi.size)⟩

set_option maxHeartbeats 2000000 in
theorem specName_any (code : ByteArray) (l : List Ty) (a : Option Addr) (cp : Nat) (w : World) (hl : Tys w a l) (hlen : l.length ≤ 400) (hc : code.size ≤ 200) :
    Calls Tryd.prog 6 #[.string code, .slice a l.length cp] w fun e w' => e = .returned (nameVal code.toList l) ∧ Below w.heap.size w w' := by
  obtain ⟨_, b, off, C, ha, hcs, hin⟩ := hl
  have hv0 := nameVal_none code.toList l
  have hv1 := nameVal_bad code.toList l
  have hv2 := nameVal_good code.toList l
  generalize nameVal code.toList l = V at hv0 hv1 hv2 ⊢
  have HV0 := Lib.hid hv0
  have HV1 := Lib.hid hv1
  have HV2 := Lib.hid hv2
  clear hv0 hv1 hv2
  obtain ⟨i0, hi, hz0, hz1, hz2⟩ := info_parts Tryd.infoString
  have Hi := Lib.hid hi
  have Hz0 := Lib.hid hz0
  have Hz1 := Lib.hid hz1
  have Hz2 := Lib.hid hz2
  clear hi hz0 hz1 hz2
  by_cases h0 : l.length = 0
  · have h0' : ((l.length : Int) == 0) = true := by rw [h0]; rfl
    go_enter Tryd.func6, Tryd.ntmps6
    go_wp2_with fail
    go_ret2
    exact ⟨by rw [HV0.out h0]; rfl, Below.refl _ _⟩
  have h0' : ((l.length : Int) == 0) = false := beq_eq_false_iff_ne.2 (by omega)
  have hl0 : 0 < l.length := by omega
  have hab := ha hl0
  subst hab
  go_enter Tryd.func6, Tryd.ntmps6
  go_wp2_with fail
  go_loopw [6, 16] (fun v ii wr => ∃ (i : Nat), i ≤ l.length ∧ ii = .int .i64 i ∧ (l.take i).all goodTy = true ∧ wr.ownsRow w.heap.size 9 1 v i (tcells (l.take i)) ∧ Below w.heap.size w wr) (fun _ ii _ => l.length - (intOf ii).toNat)
  case atStart => exact ⟨0, Nat.zero_le _, rfl, rfl, World.ownsRow_nil _ _ _ _, Below.refl _ _⟩
  case round =>
    obtain ⟨i, hil, rfl, hgood, hown, Bi⟩ := hrel
    have Hg := Lib.hid hgood
    have Hown := Lib.hid hown
    clear hgood hown
    by_cases hlt : i < l.length
    · obtain ⟨c0, c1, c2, c3⟩ := four (fun i h j hj => cells_later Bi _ _ (hcs i h j hj)) i hlt
      have hT := (hin i hlt).under Bi
      obtain ⟨k', s', n', a', len', cap', e0, e1, e2, e3⟩ := Ty.cells4 (hin i hlt)
      rw [e0] at c0
      rw [e1] at c1
      rw [e2] at c2
      rw [e3] at c3
      simp only [e0, e1, e2, e3] at hT
      clear e0 e1 e2 e3
      have hr := fun o => valid_any l[i] (wr.alloc o) _ (hT.under (below1 wr o))
      have hr2 := fun (w2 : World) (h : Below wr.heap.size wr w2) => concrete_any l[i] w2 _ (hT.under h)
      rw [right_eq] at hr
      simp only [visit_conc] at hr2
      have hg1 : goodTy l[i] = ((decide (l[i].nodes 40 ≤ 40) && l[i].all false) && l[i].conc) := rfl
      have hne : l.length ≠ 0 := by omega
      have htake := all_take l i hlt
      have hbad := all_bad l i hlt
      have hfmt := fun (w2 : World) (h : Below wr.heap.size wr w2) (hg : goodTy l[i] = true) => format_any l[i] w2 _ (hT.under h) (goodTy_parts hg).2.1 (goodTy_parts hg).2.2 (goodTy_parts hg).1
      have hstep : tcells (l.take (i + 1)) = tcells (l.take i) ++ [.string (str l[i].text)] := by
        rw [List.take_succ_eq_append_getElem hlt, tcells, List.map_append]; rfl
      generalize (decide (l[i].nodes 40 ≤ 40) && l[i].all false) = r1 at hr hg1
      generalize l[i].conc = r2 at hr2 hg1
      generalize l[i].text = tx at hfmt hstep
      have Hr := Lib.hid hr
      have Hr2 := Lib.hid hr2
      have Hg1 := Lib.hid hg1
      have Ht := Lib.hid htake
      have Hb := Lib.hid hbad
      have Hf := Lib.hid hfmt
      have Hs := Lib.hid hstep
      clear hr hr2 hg1 htake hbad hT hfmt hstep
      have hz' : w.heap.size ≤ wr.heap.size := Bi.size
      cases r1 with
      | false =>
        go_wp2_with fail
        refine (Hr.out _).mono ?_
        rintro e w2 ⟨rfl, hb2⟩
        go_wp2_with fail
        go_ret2
        exact ⟨by rw [HV1.out hne (Hb.out (by rw [Hg1.out]; rfl))]; rfl, Bi.trans (((below1 wr _).trans (hb2.mono (by simp))).mono Bi.size)⟩
      | true =>
        go_wp2_with fail
        refine (Hr.out _).mono ?_
        rintro e w2 ⟨rfl, hb2⟩
        have hbx := new_cell wr #[.int .i64 k', .string s', .int .i64 n', .slice a' len' cap'] 31 wr.heap.size
        have d0 := cells_later hb2 _ _ (hbx 0 rfl)
        have d1 := cells_later hb2 _ _ (hbx 1 rfl)
        have d2 := cells_later hb2 _ _ (hbx 2 rfl)
        have d3 := cells_later hb2 _ _ (hbx 3 rfl)
        have B2 : Below wr.heap.size wr w2 := (below1 wr _).trans (hb2.mono (by simp))
        clear hb2 hbx
        cases r2 with
        | false =>
          go_wp2_with fail
          refine (Hr2.out _ B2).mono ?_
          rintro e w3 ⟨rfl, hb3⟩
          go_wp2_with fail
          go_ret2
          exact ⟨by rw [HV1.out hne (Hb.out (by rw [Hg1.out]; rfl))]; rfl, Bi.trans ((B2.trans (hb3.mono B2.size)).mono Bi.size)⟩
        | true =>
          go_wp2_with fail
          refine (Hr2.out _ B2).mono ?_
          rintro e w3 ⟨rfl, hb3⟩
          have f0 := cells_later hb3 _ _ d0
          have f1 := cells_later hb3 _ _ d1
          have f2 := cells_later hb3 _ _ d2
          have f3 := cells_later hb3 _ _ d3
          have B3 : Below wr.heap.size wr w3 := B2.trans (hb3.mono B2.size)
          clear hb3 d0 d1 d2 d3
          go_wp2_with fail
          refine (Hf.out _ B3 Hg1.out).mono ?_
          rintro e w4 ⟨rfl, hb4⟩
          have B4 : Below wr.heap.size wr w4 := B3.trans (hb4.mono B3.size)
          have hown2 := owns_below Hown.out B4
          have hz4 : wr.heap.size ≤ w4.heap.size := B4.size
          clear hb4 f0 f1 f2 f3
          go_wp2_with (at_builtin; refine wpList_append_own _ rfl _ _ 32 rfl w.heap.size 9 i0 (.string ⟨#[]⟩) 1 16 Tryd.underlying32 Hi.out Hz0.out Hz1.out Hz2.out rfl (by decide) _ _ _ rfl (hown2.alloc _) ⟨w4.heap.size, 0, none⟩ 1 1 [.string (str tx)] rfl rfl ?c1 ?c2 ?c3 ?c4 ?c5 ?_)
          case c1 =>
            intro j u hj
            match j, hj with
            | 0, hj => simp at hj; subst hj; simp [Addr.add]
          case c2 => intro u hu; simp at hu; subst hu; rfl
          case c3 => unfold maxLen; omega
          case c4 => omega
          case c5 => simp; omega
          · intro v' w5 hown3 hgrow _
            have hb5 : Below w.heap.size w w5 := ((Bi.trans (B4.mono hz')).alloc (by omega) _).grown hgrow (by simp; omega) (fun k hk => (hown2.lt k hk).1)
            rw [← Hs.out] at hown3
            have Hown3 := Lib.hid hown3
            clear hown3 hgrow hown2
            go_wp2_with fail
            go_roundw
            case rel => exact ⟨i + 1, by omega, by go_num, by rw [Ht.out, Hg.out, Hg1.out]; rfl, Hown3.out, hb5⟩
            case measure => simp [intOf]; omega
    · have e1 : l.take i = l := List.take_of_length_le (by omega)
      have e2 : i = l.length := by omega
      have hown2 := Hown.out
      have hgl := Hg.out
      rw [e1, e2] at hown2
      rw [e1] at hgl
      have hs : ∀ t ∈ l, t.text.length ≤ 1600 := fun t ht => goodTy_short (List.all_eq_true.1 hgl t ht)
      have hcb := commas_bound l hs
      have hj := joined l _ _ wr hl0 hlen hs hown2
      have hz1 : (str (commas (Ty.texts l))).size ≤ 700000 := by rw [str_size]; omega
      have HVV := Lib.hid (HV2.out h0 hgl)
      generalize hT0 : commas (Ty.texts l) = T0 at hj hz1
      have HT0 := Lib.hid hT0
      have Hj := Lib.hid hj
      have hge : l.length ≤ i := by omega
      clear hj e1 e2 hown2 hcb hgl hs hT0
      go_wp2_with fail
      refine Hj.out.mono ?_
      rintro e w2 ⟨rfl, hb2⟩
      go_wp2_with fail
      go_ret2
      exact ⟨by
        rw [HVV.out, HT0.out]
        have : code ++ str [60] ++ str T0 ++ str [62] = str (code.toList ++ [60] ++ T0 ++ [62]) := by rw [← str_append, ← str_append, ← str_append, ← str_of code]
        rw [← this]; rfl, Bi.trans (hb2.mono Bi.size)⟩
end Go.Proofs.YtnggblocfennaaaDoor
