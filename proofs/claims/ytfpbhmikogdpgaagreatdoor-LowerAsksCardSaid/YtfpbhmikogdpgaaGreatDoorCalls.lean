/- Which symbols a code calls: the program's list, sorted and compacted. -/
import Derived.Test.YtfpbhmikogdpgaaGreatDoorFind
import Derived.Test.YtfpbhmikogdpgaaGreatDoorShelf
import Derived.Test.YtfpbhmikogdpgaaGreatDoorSorted
import Derived.OwnWalk
import Derived.Deep.CutRange
namespace Go.Proofs.YtfpbhmikogdpgaaGreatDoor
open Go.RowKit

def str (l : List UInt8) : ByteArray := ⟨l.toArray⟩
theorem str_of (s : ByteArray) : s = str s.toList := by
  rw [ByteArray.toList_eq]; rfl
theorem str_toList (l : List UInt8) : (str l).toList = l := by
  rw [ByteArray.toList_eq]; rfl

def isCall (o : Int) : Bool := o == 14 || o == 11
def insCalls (b : List Ins) : List (List UInt8) := (b.filter fun x => isCall x.op).map fun x => x.s.toList
def blkCalls (l : List (List Ins)) : List (List UInt8) := l.flatMap insCalls
def scells (L : List (List UInt8)) : List Value := L.map fun x => .string (str x)
def callsOf (n : List UInt8) (l : List Cod) : List (List UInt8) := Lib.compact ((blkCalls (codeOf n l).blocks).mergeSort fun x y => decide (x ≤ y))

theorem insCalls_yes (b : List Ins) (i : Nat) (h : i < b.length) (hc : isCall b[i].op = true) : insCalls (b.take (i + 1)) = insCalls (b.take i) ++ [b[i].s.toList] := by
  unfold insCalls
  rw [List.take_succ_eq_append_getElem h, List.filter_append, List.map_append]
  simp [List.filter_cons, hc]
theorem insCalls_no (b : List Ins) (i : Nat) (h : i < b.length) (hc : isCall b[i].op = false) : insCalls (b.take (i + 1)) = insCalls (b.take i) := by
  unfold insCalls
  rw [List.take_succ_eq_append_getElem h, List.filter_append, List.map_append]
  simp [List.filter_cons, hc]
theorem insCalls_le (b : List Ins) : (insCalls b).length ≤ b.length := by
  unfold insCalls; rw [List.length_map]; exact List.length_filter_le _ _
theorem blkCalls_succ (l : List (List Ins)) (j : Nat) (h : j < l.length) : blkCalls (l.take (j + 1)) = blkCalls (l.take j) ++ insCalls l[j] := by
  unfold blkCalls
  rw [List.take_succ_eq_append_getElem h, List.flatMap_append]; simp
theorem blkCalls_le (l : List (List Ins)) : (blkCalls l).length ≤ (l.map List.length).sum := by
  unfold blkCalls
  rw [List.length_flatMap]
  exact sum_map_le _ _ _ fun x _ => insCalls_le x
theorem blkCalls_take_le (l : List (List Ins)) (j : Nat) : (blkCalls (l.take j)).length ≤ (blkCalls l).length := by
  unfold blkCalls
  conv => rhs; rw [← List.take_append_drop j l, List.flatMap_append, List.length_append]
  omega
theorem insCalls_take_le (b : List Ins) (j : Nat) : (insCalls (b.take j)).length ≤ (insCalls b).length := by
  unfold insCalls
  conv => rhs; rw [← List.take_append_drop j b, List.filter_append, List.map_append, List.length_append]
  omega

theorem tot_codeOf (n : List UInt8) (l : List Cod) : (codeOf n l).tot ≤ totL l := by
  unfold codeOf
  cases h : l.find? (nameIs n) with
  | none => simp [zeroCod, Cod.tot]
  | some c =>
    have hm := List.mem_of_find?_eq_some h
    have key : ∀ (l : List Cod), c ∈ l → c.tot ≤ (l.map Cod.tot).sum := by
      intro l
      induction l with
      | nil => intro h; cases h
      | cons b l ih =>
        intro h
        rw [List.map_cons, List.sum_cons]
        rcases List.mem_cons.1 h with rfl | h
        · omega
        · have := ih h; omega
    exact key l hm

theorem grown_of_below {w w' : World} (h : Below w.heap.size w w') : w.grownBy w' none := ⟨h.os, h.tape, h.output, h.size, fun k hk _ => h.block k hk⟩
theorem owns_below {w w' : World} {base e size n : Nat} {v : Value} {xs : List Value} (h : w.ownsRow base e size v n xs) (hb : Below w.heap.size w w') : w'.ownsRow base e size v n xs :=
  h.kept (grown_of_below hb) (by cases hv : v.ownBlock <;> simp)
theorem below_putRow {α : Type} [Inhabited α] (enc : α → Value) {B : Nat} {w w1 : World} (h : Below B w w1) (g off : Nat) (d : Array α) (hg : B ≤ g) : Below B w (Sort.putRow enc w1 g off d) := by
  refine ⟨h.os, h.tape, h.output, ?_, ?_⟩
  · have := h.size; simpa [Sort.putRow, Sort.mapBlock] using this
  · intro k hk
    rw [← h.block k hk]
    show (w1.heap.modify g _)[k]? = _
    rw [Array.getElem?_modify]
    rw [if_neg (by omega)]
theorem below_ahead {B : Nat} {w w1 : World} (h : Below B w w1) (n : Nat) : Below B w (Sort.ahead w1 n) := ⟨h.os, h.tape, h.output, h.size, h.block⟩
theorem below_grow {B : Nat} {w w1 : World} (h : Below B w w1) (hB : B ≤ w.heap.size) (os : Array Obj) : Below B w (Sort.grow w1 os) := by
  refine ⟨h.os, h.tape, h.output, ?_, ?_⟩
  · have := h.size; simp [Sort.grow]; omega
  · intro k hk
    rw [← h.block k hk]
    have := h.size
    show (w1.heap ++ os)[k]? = _
    rw [Array.getElem?_append_left (by omega)]

theorem Tryz.infoString : (Tryz.prog.info? 9).map (fun i => (i.zero, i.size, i.bytes)) = some (some (.string ⟨#[]⟩), 1, 16) := by kernel_rfl

/-- a slice that reads as a list of strings -/
def StrsAt (w : World) (v : Value) (L : List (List UInt8)) : Prop :=
  ∃ a cap, v = .slice a L.length cap ∧ L.length ≤ 5000 ∧ (0 < L.length → ∃ b off, a = some ⟨b, off, none⟩ ∧ ∀ j, (h : j < L.length) → w.cell? ⟨b, off + j, none⟩ = some (.string (str L[j])))
theorem StrsAt.under {w w' : World} (hb : Below w.heap.size w w') {v : Value} {L : List (List UInt8)} (h : StrsAt w v L) : StrsAt w' v L := by
  obtain ⟨a, cap, e, h5, h⟩ := h
  refine ⟨a, cap, e, h5, fun h0 => ?_⟩
  obtain ⟨b, off, e, h⟩ := h h0
  exact ⟨b, off, e, fun j hj => cells_later hb _ _ (h j hj)⟩

theorem compact_length (L : List (List UInt8)) : (Lib.compact L).length ≤ L.length := by
  have key : ∀ m, m ≤ L.length → (Lib.compactUpTo L.toArray m).length ≤ m := by
    intro m
    induction m with
    | zero => intro _; simp [Lib.compactUpTo]
    | succ m ih =>
      intro hm
      rw [Lib.compactUpTo_succ, List.length_append]
      have := ih (by omega)
      split <;> simp <;> omega
  exact key L.length (Nat.le_refl _)

/-- slices.Sort, then slices.Compact, at a row of one's own -/
theorem sorted_any (L : List (List UInt8)) (v : Value) (B : Nat) (w : World) (hL : L.length ≤ 5000) (hown : w.ownsRow B 9 1 v L.length (scells L)) :
    Calls Tryz.prog 15 #[v] w fun e w' => e = .returned (.tuple #[]) ∧ Below B w w' ∧
      Calls Tryz.prog 16 #[v] w' fun e w'' => ∃ v2, e = .returned v2 ∧ StrsAt w'' v2 (Lib.compact (L.mergeSort fun x y => decide (x ≤ y))) ∧ Below B w' w'' := by
  have hcomp : Lib.compact (([] : List (List UInt8)).mergeSort fun x y => decide (x ≤ y)) = [] := by simp [Lib.compact, Lib.compactUpTo]
  have hempty : ∀ (a : Option Addr) (cap : Nat), L.length = 0 → v = .slice a 0 cap → Calls Tryz.prog 15 #[v] w fun e w' => e = .returned (.tuple #[]) ∧ Below B w w' ∧
      Calls Tryz.prog 16 #[v] w' fun e w'' => ∃ v2, e = .returned v2 ∧ StrsAt w'' v2 (Lib.compact (L.mergeSort fun x y => decide (x ≤ y))) ∧ Below B w' w'' := by
    intro a cap h0 hv
    subst hv
    have hL0 := List.eq_nil_of_length_eq_zero h0
    subst hL0
    refine (Tryz.slices_Sort_string_none a cap w).mono ?_
    rintro e w' ⟨rfl, rfl⟩
    refine ⟨rfl, Below.refl _ _, ?_⟩
    refine (Tryz.slices_Compact_string_empty a cap w').mono ?_
    rintro e w'' ⟨rfl, rfl⟩
    rw [hcomp]
    exact ⟨_, rfl, ⟨a, cap, rfl, by simp, fun h => by simp at h⟩, Below.refl _ _⟩
  rcases hown.2 with ⟨hv, hn⟩ | ⟨g, cap, cur, hv, hbg, hgg, h1, h2, h3, htake⟩
  · exact hempty none 0 hn (by rw [hv])
  · by_cases h0 : L.length = 0
    · exact hempty (some ⟨g, 0, none⟩) cap h0 (by rw [hv, h0])
    · clear hempty
      subst hv
      have hgs : g < w.heap.size := (Array.getElem?_eq_some_iff.1 hgg).1
      have hBs : B ≤ w.heap.size := by omega
      have hH : Sort.Holds encStr w g 0 L.toArray := by
        intro j hj
        have hj' : j < L.length := by simpa using hj
        refine ⟨?_, ?_⟩
        · rw [cell_of_row w g (0 + j) cur _ (0, 0) hgg, Nat.zero_add]
          have h4 : (cur.toList.take (L.length * 1))[j]? = (scells L)[j]? := by rw [htake]
          rw [List.getElem?_take, if_pos (by omega)] at h4
          have h5 : cur[j]? = cur.toList[j]? := by simp
          rw [h5, h4]
          unfold scells
          rw [List.getElem?_map, List.getElem?_eq_getElem hj']
          simp [hj', str, encStr]
        · exact frozen_of_row w g (0 + j) cur _ hgg
      have hls : (L.mergeSort fun x y => decide (x ≤ y)).length = L.length := List.length_mergeSort _
      refine (Tryz.slices_Sort_string g 0 cap L w hH hgs (by omega)).mono ?_
      rintro e w' ⟨rfl, n, os, rfl⟩
      have hb1 : Below B w (Sort.grow (Sort.putRow encStr (Sort.ahead w n) g 0 (L.mergeSort fun x y => decide (x ≤ y)).toArray) os) :=
        below_grow (below_putRow _ (below_ahead (Below.refl _ _) n) _ _ _ hbg) hBs os
      refine ⟨rfl, hb1, ?_⟩
      generalize hS : (L.mergeSort fun x y => decide (x ≤ y)) = S at *
      have hH2 : Sort.Holds encStr (Sort.grow (Sort.putRow encStr (Sort.ahead w n) g 0 S.toArray) os) g 0 S.toArray :=
        Sort.holds_grow _ _ _ _ _ _ (by simpa [Sort.putRow, Sort.mapBlock, Sort.ahead] using hgs) (Sort.holds_putRow _ _ _ _ L.toArray _ (Sort.holds_ahead _ _ _ _ _ _ hH) (by simp [hls]))
      have hc := Tryz.slices_Compact_string g 0 cap S _ hH2 (by omega) (by omega)
      rw [hls] at hc
      refine hc.mono ?_
      rintro e w'' ⟨rfl, q, rfl⟩
      have hcl := compact_length S
      refine ⟨_, rfl, ⟨_, _, rfl, by omega, fun _ => ⟨g, 0, rfl, fun j hj => ?_⟩⟩, below_putRow _ (below_ahead (Below.refl _ _) q) _ _ _ hbg⟩
      rw [Sort.cell?_putRow _ _ _ _ S.toArray _ (Sort.holds_ahead _ _ _ _ _ _ hH2) (by simp; omega) j (by simp; omega)]
      have : (Lib.compact S ++ List.replicate (L.length - (Lib.compact S).length) []).toArray[j]! = (Lib.compact S)[j] := by
        simp [hj, List.getElem?_append_left]
      rw [this]
      rfl

def CallsSays (n : List UInt8) (l : List Cod) (w : World) (e : Ending) (w' : World) : Prop :=
  ∃ v, e = .returned v ∧ StrsAt w' v (callsOf n l) ∧ Below w.heap.size w w'

set_option maxRecDepth 100000 in
set_option maxHeartbeats 4000000 in
theorem calls_any (l : List Cod) (v0 v1 v2 : Value) (a : Option Addr) (cap : Nat) (n : ByteArray) (w : World) (hl : Cods w l a cap) (hbd : totL l ≤ 5000)
    (hv0 : ∃ a n c, v0 = .slice a n c) (hv1 : ∃ a n c, v1 = .slice a n c) (hv2 : ∃ a n c, v2 = .slice a n c) :
    Calls Tryz.prog 8 #[.agg #[v0, v1, v2, .slice a l.length cap], .string n] w (CallsSays n.toList l w) := by
  have hcap := hl.1
  have htot := tot_codeOf n.toList l
  have hr := code_any l v0 v1 v2 a cap n (w.alloc (.cells #[v0, v1, v2, .slice a l.length cap] 27)) (hl.under (below1 w _))
  obtain ⟨i0, hi, hz0, hz1, hz2⟩ := info_parts Tryz.infoString
  have Hi := Lib.hid hi
  have Hz0 := Lib.hid hz0
  have Hz1 := Lib.hid hz1
  have Hz2 := Lib.hid hz2
  clear hi hz0 hz1 hz2
  generalize hco : callsOf n.toList l = CO
  have Hco : Hid (Lib.compact ((blkCalls (codeOf n.toList l).blocks).mergeSort fun x y => decide (x ≤ y)) = CO) := Lib.hid hco
  have hfin : CallsSays n.toList l w = fun e w' => ∃ v, e = .returned v ∧ StrsAt w' v CO ∧ Below w.heap.size w w' := by unfold CallsSays; rw [hco]
  rw [hfin]
  clear hco hfin
  unfold CodeSays at hr
  generalize codeOf n.toList l = q at *
  generalize hasCode n.toList l = z at *
  have Hr := Lib.hid hr
  clear hr hl
  have hq5 : q.tot ≤ 5000 := by omega
  unfold Cod.tot at hq5
  have hlen := blkCalls_le q.blocks
  obtain ⟨y0, y1, y2, rfl⟩ := hv0
  obtain ⟨y3, y4, y5, rfl⟩ := hv1
  obtain ⟨y6, y7, y8, rfl⟩ := hv2
  go_enter Tryz.func8, Tryz.ntmps8
  go_wp2_with fail
  refine Hr.out.mono ?_
  rintro e w1 ⟨cs, i0', hin, rfl, hb1⟩
  obtain ⟨ga, gc, ra, rc, sa, sc, ba, bc, r0, r1, r2, r3, r4, r5, t0, t1, t2, t3, t4, t5, rfl, hbs⟩ := hin
  have hbl := hbs.1
  have hB1 : Below w.heap.size w w1 := (below1 w _).trans (hb1.mono (by simp))
  have Hbs := Lib.hid hbs
  clear hbs Hr
  go_wp2_with fail
  go_loopw [8, 23] (fun v jj wr => ∃ j : Nat, j ≤ q.blocks.length ∧ jj = .int .i64 j ∧ wr.ownsRow w1.heap.size 9 1 v (blkCalls (q.blocks.take j)).length (scells (blkCalls (q.blocks.take j))) ∧ Below w1.heap.size w1 wr) (fun _ jj _ => q.blocks.length - (intOf jj).toNat)
  case atStart => exact ⟨0, Nat.zero_le _, rfl, World.ownsRow_nil _ _ _ _, below1 w1 _⟩
  case round =>
    obtain ⟨j, hj, rfl, hown, hb2⟩ := hrel
    obtain ⟨w2, rfl⟩ : ∃ w2 : World, w2 = wr := ⟨_, rfl⟩
    by_cases hjl : j < q.blocks.length
    · obtain ⟨b2, off2, ia, ic, rfl, d0', hin⟩ := Blks.cell Hbs.out j hjl
      have d0 := cells_later hb2 _ _ d0'
      have hil := hin.1
      have hs := blkCalls_succ q.blocks j hjl
      have hsl := blkCalls_take_le q.blocks (j + 1)
      rw [hs, List.length_append] at hsl
      have Hs := Lib.hid hs
      have Hin := Lib.hid hin
      clear hs hin
      generalize blkCalls (q.blocks.take j) = L1 at *
      generalize q.blocks[j] = q2 at *
      have Hown := Lib.hid hown
      clear hown
      go_wp2_with fail
      go_loopw [8, 29] (fun v ii w3 => ∃ i : Nat, i ≤ q2.length ∧ ii = .int .i64 i ∧ w3.ownsRow w1.heap.size 9 1 v (L1 ++ insCalls (q2.take i)).length (scells (L1 ++ insCalls (q2.take i))) ∧ Below w1.heap.size w1 w3) (fun _ ii _ => q2.length - (intOf ii).toNat)
      case atStart => exact ⟨0, Nat.zero_le _, rfl, by simpa [insCalls] using Hown.out, hb2⟩
      case round =>
        obtain ⟨i, hi, rfl, hown, hb3⟩ := hrel
        have Hown3 := Lib.hid hown
        clear hown
        by_cases hil2 : i < q2.length
        · obtain ⟨b3, off3, aa, ac, ta, tc, pa, pc, k0, k1, k2, k3, k4, k5, rfl, ⟨e0, e1, e2, e3, e4, e5, e6, e7, e8, e9, e10, e11, e12, e13⟩, _, _, _, _, hop, _⟩ := Inss.cells (Sl.keep InsP.keeping (.of_below hb3) Hin.out) i hil2
          have hyes := insCalls_yes q2 i hil2
          have hno := insCalls_no q2 i hil2
          have hil3 := insCalls_take_le q2 (i + 1)
          generalize hx : q2[i] = x at *
          clear hx
          obtain ⟨o, dst, args, s, nn, tt, ts, path, tgt, err, ee⟩ := x
          simp only [] at *
          have Hyes := Lib.hid hyes
          have Hno := Lib.hid hno
          have hz1 := hb3.size
          clear hyes hno
          go_upto_region 9 with fail
          clear e0 e1 e2 e3 e4 e5 e6 e7 e8 e9 e10 e11 e12 e13 d0 d0' hop
          by_cases hc : isCall o = true
          · have hst := Hyes.out hc
            have hco : o = 14 ∨ o = 11 := by unfold isCall at hc; simpa using hc
            generalize insCalls (q2.take i) = L2 at *
            rw [hst, List.length_append] at hil3
            have Hst := Lib.hid hst
            have hn5 : (L1 ++ L2).length + 1 ≤ 5000 := by simp at hil3 ⊢; omega
            have hown4 := Hown3.out.alloc (.cells #[.int .i64 o, .int .i64 dst, .slice aa args.length ac, .string s, .int .i64 nn, .int .i64 k0, .string k1, .int .i64 k2, .slice k3 k4 k5, .slice ta ts.length tc, .slice pa path.length pc, .int .i64 tgt, .int .i64 err, .int .i64 ee] 49)
            have hb4 := hb3.alloc hz1 (.cells #[.int .i64 o, .int .i64 dst, .slice aa args.length ac, .string s, .int .i64 nn, .int .i64 k0, .string k1, .int .i64 k2, .slice k3 k4 k5, .slice ta ts.length tc, .slice pa path.length pc, .int .i64 tgt, .int .i64 err, .int .i64 ee] 49)
            have Hown4 := Lib.hid hown4
            have Hb4 := Lib.hid hb4
            clear Hyes Hno hst hc hown4 hb4
            rcases hco with rfl | rfl
            all_goals
              go_wp2_with (at_builtin; refine wpList_append_own _ rfl _ _ 30 rfl w1.heap.size 9 i0 (.string ⟨#[]⟩) 1 16 Tryz.underlying30 Hi.out Hz0.out Hz1.out Hz2.out rfl (by decide) _ _ _ rfl (Hown4.out.alloc _) ⟨wr.heap.size + 1, 0, none⟩ 1 1 [.string s] rfl rfl ?c1 ?c2 ?c3 ?c4 ?c5 ?_)
              case c1 =>
                intro j u hj
                match j, hj with
                | 0, hj => simp at hj; subst hj; simp [Addr.add]
              case c2 => intro u hu; simp at hu; subst hu; rfl
              case c3 => unfold maxLen; omega
              case c4 => omega
              case c5 => simp; omega
              · intro v' w5 hown5 hgrow _
                have hb5 : Below w1.heap.size w1 w5 := (Hb4.out.alloc (by simp; omega) _).grown hgrow (by simp; omega) (fun k hk => (Hown4.out.lt k hk).1)
                have Hown5 := Lib.hid hown5
                clear hown5 hgrow
                go_wp2_with fail
                go_roundw
                case rel => exact ⟨i + 1, by omega, by go_num, by rw [Hst.out, ← List.append_assoc]; have := Hown5.out; simpa [scells, ← str_of, Nat.add_assoc] using this, hb5⟩
                case measure => simp [intOf]; omega
          · have hc2 : isCall o = false := by simpa using hc
            have hst := Hno.out hc2
            have hno14 : (o == 14) = false := by unfold isCall at hc2; simp at hc2; exact beq_eq_false_iff_ne.2 hc2.1
            have hno11 : (o == 11) = false := by unfold isCall at hc2; simp at hc2; exact beq_eq_false_iff_ne.2 hc2.2
            have Hst := Lib.hid hst
            clear hst hc hc2 Hyes Hno
            go_wp2_with fail
            go_roundw
            case rel => exact ⟨i + 1, by omega, by go_num, by rw [Hst.out]; exact Hown3.out.alloc _, hb3.alloc hz1 _⟩
            case measure => simp [intOf]; omega
        · have he : q2.take i = q2 := by rw [List.take_of_length_le (by omega)]
          have hown4 := Hown3.out
          rw [he, ← Hs.out] at hown4
          have Hown4 := Lib.hid hown4
          have hil4 : q2.length ≤ i := by omega
          clear he hown4
          go_wp2_with fail
          go_roundw
          case rel => exact ⟨j + 1, by omega, by go_num, Hown4.out, hb3⟩
          case measure => simp [intOf]; omega
    · have he : q.blocks.take j = q.blocks := by rw [List.take_of_length_le (by omega)]
      rw [he] at hown
      have hjl4 : q.blocks.length ≤ j := by omega
      generalize blkCalls q.blocks = L at *
      have hso := fun v (h : w2.ownsRow w1.heap.size 9 1 v L.length (scells L)) => sorted_any L v w1.heap.size w2 (by omega) h
      have Hso := Lib.hid (hso _ hown)
      clear he hso hown
      go_wp2_with fail
      refine Hso.out.mono ?_
      rintro e w5 ⟨rfl, hb5, hc5⟩
      have Hc5 := Lib.hid hc5
      clear hc5
      go_wp2_with fail
      refine Hc5.out.mono ?_
      rintro e w6 ⟨v2, rfl, hst, hb6⟩
      rw [Hco.out] at hst
      have Hst := Lib.hid hst
      clear hst
      go_wp2_with fail
      go_ret
      exact ⟨_, rfl, Hst.out, hB1.trans (((hb2.trans hb5).trans hb6).mono hB1.size)⟩
end Go.Proofs.YtfpbhmikogdpgaaGreatDoor
