/- Which symbols a code calls: the reference's list, each once, sorted by insertion. -/
import Derived.Test.YtfpbhmikogdpgaaGreatDoorEqs
import Derived.BigRegion
namespace Go.Proofs.YtfpbhmikogdpgaaGreatDoor
open Go.RowKit

theorem strs_of_owns {B : Nat} {w : World} {v : Value} {L : List (List UInt8)} (h5 : L.length ≤ 5000) (h : w.ownsRow B 9 1 v L.length (scells L)) : StrsAt w v L := by
  rcases h.2 with ⟨hv, hn⟩ | ⟨g, cap, cur, hv, hbg, hgg, h1, h2, h3, htake⟩
  · exact ⟨none, 0, by rw [hv, hn], h5, fun h => by omega⟩
  · refine ⟨some ⟨g, 0, none⟩, cap, hv, h5, fun _ => ⟨g, 0, rfl, fun j hj => ?_⟩⟩
    rw [cell_of_row w g (0 + j) cur _ (0, 0) hgg, Nat.zero_add]
    have h4 : (cur.toList.take (L.length * 1))[j]? = (scells L)[j]? := by rw [htake]
    rw [List.getElem?_take, if_pos (by omega)] at h4
    have h5 : cur[j]? = cur.toList[j]? := by simp
    rw [h5, h4]
    unfold scells
    rw [List.getElem?_map, List.getElem?_eq_getElem hj]
    rfl

/-- the strings lie in block g, and may be written -/
def HoldsS (w : World) (g : Nat) (L : List (List UInt8)) : Prop := ∀ j, (h : j < L.length) → w.cell? ⟨g, j, none⟩ = some (.string (str L[j])) ∧ w.frozen? ⟨g, j, none⟩ = false

theorem holds_of_owns {B : Nat} {w : World} {v : Value} {L : List (List UInt8)} (h0 : 0 < L.length) (h : w.ownsRow B 9 1 v L.length (scells L)) :
    ∃ g cap, v = .slice (some ⟨g, 0, none⟩) L.length cap ∧ L.length ≤ cap ∧ B ≤ g ∧ HoldsS w g L := by
  rcases h.2 with ⟨hv, hn⟩ | ⟨g, cap, cur, hv, hbg, hgg, h1, h2, h3, htake⟩
  · omega
  · refine ⟨g, cap, hv, h1, hbg, fun j hj => ⟨?_, frozen_of_row w g j cur _ hgg⟩⟩
    rw [cell_of_row w g j cur _ (0, 0) hgg]
    have h4 : (cur.toList.take (L.length * 1))[j]? = (scells L)[j]? := by rw [htake]
    rw [List.getElem?_take, if_pos (by omega)] at h4
    have h5 : cur[j]? = cur.toList[j]? := by simp
    rw [h5, h4]
    unfold scells
    rw [List.getElem?_map, List.getElem?_eq_getElem hj]
    rfl

def RefCallsSays (n : List UInt8) (l : List Cod) (w : World) (e : Ending) (w' : World) : Prop :=
  ∃ v, e = .returned v ∧ StrsAt w' v (callsOf n l) ∧ Below w.heap.size w w'

/-- a list of symbols, each once -/
structure Once (L M : List (List UInt8)) : Prop where
  nodup : L.Nodup
  mem : ∀ y, y ∈ L ↔ y ∈ M
  le : L.length ≤ M.length

theorem Once.nil : Once [] [] := ⟨List.nodup_nil, fun _ => Iff.rfl, Nat.le_refl _⟩
theorem Once.swap {A T M : List (List UInt8)} {x y : List UInt8} (h : Once ((A ++ [y]) ++ x :: T) M) : Once (A ++ x :: y :: T) M := by
  have hp : (A ++ x :: y :: T).Perm ((A ++ [y]) ++ x :: T) := by
    rw [List.append_assoc]
    exact List.Perm.append_left A (List.Perm.swap y x T)
  exact ⟨hp.nodup_iff.2 h.nodup, fun z => by rw [hp.mem_iff]; exact h.mem z, by rw [hp.length_eq]; exact h.le⟩
theorem Once.add {L M : List (List UInt8)} (h : Once L M) {s : List UInt8} (hs : s ∉ L) : Once (L ++ [s]) (M ++ [s]) :=
  ⟨by rw [List.nodup_append]; exact ⟨h.nodup, by simp, fun a ha b hb => by rw [List.mem_singleton.1 hb]; rintro rfl; exact hs ha⟩, fun y => by simp [h.mem y], by have := h.le; simp; omega⟩
theorem Once.keep {L M : List (List UInt8)} (h : Once L M) {s : List UInt8} (hs : s ∈ L) : Once L (M ++ [s]) :=
  ⟨h.nodup, fun y => by
    rw [List.mem_append, ← h.mem y, List.mem_singleton]
    constructor
    · exact Or.inl
    · rintro (k | rfl)
      · exact k
      · exact hs, by have := h.le; simp; omega⟩

theorem bytesLess_iff (a b : List UInt8) : Op.bytesLess a b = true ↔ a < b := by rw [bytesLess_eq, decide_eq_true_eq]
/-- two cells exchanged -/
theorem holdsS_swap {w : World} {g m : Nat} {A T : List (List UInt8)} {x y : List UInt8} (h : HoldsS w g ((A ++ [y]) ++ x :: T)) (hm : m = A.length) :
    HoldsS ((w.setCell ⟨g, m + 1, none⟩ (.string (str y))).setCell ⟨g, m, none⟩ (.string (str x))).drew g (A ++ x :: y :: T) := by
  subst hm
  intro j hj
  have hj' : j < ((A ++ [y]) ++ x :: T).length := by simp at hj ⊢; omega
  obtain ⟨hc, hf⟩ := h j hj'
  obtain ⟨hx, _⟩ := h (A.length + 1) (by simp)
  obtain ⟨hy, _⟩ := h A.length (by simp)
  refine ⟨?_, by show (World.setCell (World.setCell w _ _) _ _).frozen? _ = false; rw [World.frozen?_setCell, World.frozen?_setCell]; exact hf⟩
  show (World.setCell (World.setCell w _ _) _ _).cell? _ = _
  by_cases e1 : j = A.length
  · subst e1
    rw [World.cell?_setCell_same _ _ _ (by rw [World.cell?_setCell_other _ _ _ _ (by simp)]; exact hy)]
    first | done | simp
  · rw [World.cell?_setCell_other _ _ _ _ (by simp <;> omega)]
    by_cases e2 : j = A.length + 1
    · subst e2
      rw [World.cell?_setCell_same _ _ _ hx]
      simp
    · rw [World.cell?_setCell_other _ _ _ _ (by simp <;> omega), hc]
      congr 3
      rcases Nat.lt_or_ge j A.length with e3 | e3
      · simp [e3, show j < A.length + 1 by omega]
      · obtain ⟨k, rfl⟩ : ∃ k, j = A.length + 1 + 1 + k := ⟨j - A.length - 2, by omega⟩
        have e : ∀ (u v : List UInt8) (h : A.length + 1 + 1 + k < (A ++ u :: v :: T).length), (A ++ u :: v :: T)[A.length + 1 + 1 + k] = T[k]'(by simp at h; omega) := by
          intro u v h
          rw [List.getElem_append_right (by omega)]
          simp only [show A.length + 1 + 1 + k - A.length = k + 2 by omega, List.getElem_cons_succ]
        have e2 : (A ++ [y]) ++ x :: T = A ++ y :: x :: T := by simp
        simp only [e2]
        rw [e, e]

theorem take_mid (A B C : List (List UInt8)) (x : List UInt8) : (A ++ x :: (B ++ C)).take (A.length + B.length + 1) = A ++ x :: B := by
  have : A ++ x :: (B ++ C) = (A ++ x :: B) ++ C := by simp
  rw [this, List.take_left' (by simp; omega)]
theorem holdsS_drewN {w : World} {g : Nat} {L : List (List UInt8)} (h : HoldsS w g L) (n : Nat) : HoldsS (w.drewN n) g L := h
theorem holdsS_at {w : World} {g : Nat} {A T : List (List UInt8)} {x : List UInt8} (h : HoldsS w g (A ++ x :: T)) (m : Nat) (hm : m = A.length) : w.cell? ⟨g, m, none⟩ = some (.string (str x)) ∧ w.frozen? ⟨g, m, none⟩ = false := by
  subst hm
  have := h A.length (by simp)
  simpa using this

set_option maxRecDepth 100000 in
set_option maxHeartbeats 4000000 in
theorem refCalls_any (l : List Cod) (v0 v1 v2 : Value) (a : Option Addr) (cap : Nat) (n : ByteArray) (w : World) (hl : Cods w l a cap) (hbd : totL l ≤ 5000)
    (hv0 : ∃ a n c, v0 = .slice a n c) (hv1 : ∃ a n c, v1 = .slice a n c) (hv2 : ∃ a n c, v2 = .slice a n c) :
    Calls Tryz.prog 9 #[.agg #[v0, v1, v2, .slice a l.length cap], .string n] w (RefCallsSays n.toList l w) := by
  have hcap := hl.1
  have htot := tot_codeOf n.toList l
  have hr := place_any l v0 v1 v2 a cap n (w.alloc (.cells #[v0, v1, v2, .slice a l.length cap] 27)) (hl.under (below1 w _))
  obtain ⟨i0, hi, hz0, hz1, hz2⟩ := info_parts Tryz.infoString
  have Hi := Lib.hid hi
  have Hz0 := Lib.hid hz0
  have Hz1 := Lib.hid hz1
  have Hz2 := Lib.hid hz2
  clear hi hz0 hz1 hz2
  generalize hco : callsOf n.toList l = CO
  have Hco : Hid (Lib.compact ((blkCalls (codeOf n.toList l).blocks).mergeSort fun x y => decide (x ≤ y)) = CO) := Lib.hid hco
  have hfin : RefCallsSays n.toList l w = fun e w' => ∃ v, e = .returned v ∧ StrsAt w' v CO ∧ Below w.heap.size w w' := by unfold RefCallsSays; rw [hco]
  rw [hfin]
  clear hco hfin
  unfold PlaceSays at hr
  have Hr := Lib.hid hr
  have Hl := Lib.hid hl
  clear hr hl
  obtain ⟨y0, y1, y2, rfl⟩ := hv0
  obtain ⟨y3, y4, y5, rfl⟩ := hv1
  obtain ⟨y6, y7, y8, rfl⟩ := hv2
  go_enter Tryz.func9, Tryz.ntmps9
  go_wp2_with fail
  refine Hr.out.mono ?_
  rintro e w1 ⟨⟨k, hk, rfl, hcode, hhas⟩ | ⟨rfl, hcode, hhas⟩, hb1⟩
  case inr =>
    have hq := Hco.out
    rw [hcode] at hq
    have hq2 : CO = [] := by rw [← hq]; simp [zeroCod, blkCalls, Lib.compact, Lib.compactUpTo]
    have Hq := Lib.hid hq2
    clear hhas hcode hq hq2 htot
    go_wp2_with fail
    go_ret
    exact ⟨_, rfl, ⟨none, 0, by rw [Hq.out]; rfl, by rw [Hq.out]; simp, fun h => by rw [Hq.out] at h; simp at h⟩, (below1 w _).trans (hb1.mono (by simp))⟩
  case inl =>
    have hq := Hco.out
    rw [hcode] at hq htot
    clear hhas hcode Hr Hco
    have hB1 : Below w.heap.size w w1 := (below1 w _).trans (hb1.mono (by simp))
    have hbox : w1.cell? ⟨w.heap.size, 3, none⟩ = some (.slice a l.length cap) := cells_later hb1 _ _ (new_cell _ _ _ _ _ rfl)
    obtain ⟨b, off, ga, gc, ra, rc, sa, sc, ba, bc, r0, r1, r2, r3, r4, r5, t0, t1, t2, t3, t4, t5, rfl, ⟨_, _, _, _, _, _, _, _, _, _, _, _, _, c13⟩, _, _, _, hbs, _⟩ := Cods.cells (Hl.out.under hB1) k hk
    have hbl := hbs.1
    generalize l[k] = q at *
    have hq5 : q.tot ≤ 5000 := by omega
    unfold Cod.tot at hq5
    have hlen := blkCalls_le q.blocks
    have Hco := Lib.hid hq
    have Hbs := Lib.hid hbs
    clear hbs Hl hq htot
    go_wp2_with fail
    go_loopw [6, 7] (fun v jj wr => ∃ (j : Nat) (L : List (List UInt8)), j ≤ q.blocks.length ∧ jj = .int .i64 j ∧ Once L (blkCalls (q.blocks.take j)) ∧ wr.ownsRow w1.heap.size 9 1 v L.length (scells L) ∧ Below w1.heap.size w1 wr) (fun _ jj _ => q.blocks.length - (intOf jj).toNat)
    case atStart => exact ⟨0, [], Nat.zero_le _, rfl, Once.nil, World.ownsRow_nil _ _ _ _, Below.refl _ _⟩
    case round =>
      obtain ⟨j, L, hj, rfl, honce, hown, hb2⟩ := hrel
      obtain ⟨w2, rfl⟩ : ∃ w2 : World, w2 = wr := ⟨_, rfl⟩
      have x3 := cells_later hb2 _ _ hbox
      have x13 := cells_later hb2 _ _ c13
      have Hown := Lib.hid hown
      clear hown
      by_cases hjl : j < q.blocks.length
      · obtain ⟨b2, off2, ia, ic, rfl, d0', hin⟩ := Blks.cell Hbs.out j hjl
        have d0 := cells_later hb2 _ _ d0'
        have hil := hin.1
        have hs := blkCalls_succ q.blocks j hjl
        have hsl := blkCalls_take_le q.blocks (j + 1)
        rw [hs, List.length_append] at hsl
        have Hs := Lib.hid hs
        have Hin := Lib.hid hin
        clear hs hin
        generalize blkCalls (q.blocks.take j) = M at *
        generalize q.blocks[j] = q2 at *
        have Honce := Lib.hid honce
        clear honce
        go_wp2_with fail
        go_loopw [6, 8] (fun v ii w3 => ∃ (i : Nat) (L : List (List UInt8)), i ≤ q2.length ∧ ii = .int .i64 i ∧ Once L (M ++ insCalls (q2.take i)) ∧ w3.ownsRow w1.heap.size 9 1 v L.length (scells L) ∧ Below w1.heap.size w1 w3) (fun _ ii _ => q2.length - (intOf ii).toNat)
        case atStart => exact ⟨0, L, Nat.zero_le _, rfl, by simpa [insCalls] using Honce.out, Hown.out, hb2⟩
        case round =>
          clear Hown Honce L
          obtain ⟨i, L, hi, rfl, honce, hown, hb3⟩ := hrel
          have z3 := cells_later hb3 _ _ hbox
          have z13 := cells_later hb3 _ _ c13
          have z0 := cells_later hb3 _ _ d0'
          have hle := honce.le
          have Hown := Lib.hid hown
          have Honce := Lib.hid honce
          clear hown honce
          by_cases hil2 : i < q2.length
          · obtain ⟨b3, off3, aa, ac, ta, tc, pa, pc, k0, k1, k2, k3, k4, k5, rfl, ⟨e0, e1, e2, e3, e4, e5, e6, e7, e8, e9, e10, e11, e12, e13⟩, _, _, _, _, hop, _⟩ := Inss.cells (Sl.keep InsP.keeping (.of_below hb3) Hin.out) i hil2
            have hyes := insCalls_yes q2 i hil2
            have hno := insCalls_no q2 i hil2
            have hil3 := insCalls_take_le q2 (i + 1)
            have hil4 := insCalls_take_le q2 i
            generalize hx : q2[i] = x at *
            clear hx
            obtain ⟨o, dst, args, s, nn, tt, ts, path, tgt, err, ee⟩ := x
            simp only [] at *
            have Hyes := Lib.hid hyes
            have Hno := Lib.hid hno
            have hz1 := hb3.size
            clear hyes hno
            go_upto_region 12 with fail
            clear e0 e1 e2 e3 e4 e5 e6 e7 e8 e9 e10 e11 e12 e13 d0 d0' z0 z3 z13 x3 x13 hop
            by_cases hc : isCall o = true
            · have hst := Hyes.out hc
              have hco : o = 14 ∨ o = 11 := by unfold isCall at hc; simpa using hc
              generalize insCalls (q2.take i) = L2 at *
              rw [hst, List.length_append] at hil3
              have Hst := Lib.hid hst
              have hn5 : L.length + 1 ≤ 5000 := by simp at hil3 hle; omega
              have hown4 := Hown.out.alloc (.cells #[.int .i64 o, .int .i64 dst, .slice aa args.length ac, .string s, .int .i64 nn, .int .i64 k0, .string k1, .int .i64 k2, .slice k3 k4 k5, .slice ta ts.length tc, .slice pa path.length pc, .int .i64 tgt, .int .i64 err, .int .i64 ee] 49)
              have hb4 := hb3.alloc hz1 (.cells #[.int .i64 o, .int .i64 dst, .slice aa args.length ac, .string s, .int .i64 nn, .int .i64 k0, .string k1, .int .i64 k2, .slice k3 k4 k5, .slice ta ts.length tc, .slice pa path.length pc, .int .i64 tgt, .int .i64 err, .int .i64 ee] 49)
              have hhas := has_any L _ s _ (strs_of_owns (by omega) hown4)
              unfold HasSays at hhas
              have Hown4 := Lib.hid hown4
              have Hb4 := Lib.hid hb4
              have Hhas := Lib.hid hhas
              clear Hyes Hno hst hc hown4 hb4 hhas
              rcases hco with rfl | rfl
              all_goals
                go_wp2_with fail
                refine Hhas.out.mono ?_
                rintro e w' ⟨i5, rfl, hcase, rfl⟩
                rcases hcase with ⟨h0, hmem⟩ | ⟨rfl, hmem⟩
                · have Hmem := Lib.hid hmem
                  clear hmem
                  go_wp2_with fail
                  go_roundw
                  case rel => exact ⟨i + 1, L, by omega, by go_num, by rw [Hst.out, ← List.append_assoc]; exact Honce.out.keep Hmem.out, Hown4.out, Hb4.out⟩
                  case measure => simp [intOf]; omega
                · have Hmem := Lib.hid hmem
                  clear hmem
                  go_wp2_with (at_builtin; refine wpList_append_own _ rfl _ _ 30 rfl w1.heap.size 9 i0 (.string ⟨#[]⟩) 1 16 Tryz.underlying30 Hi.out Hz0.out Hz1.out Hz2.out rfl (by decide) _ _ _ rfl (Hown4.out.alloc _) ⟨wr.heap.size + 1, 0, none⟩ 1 1 [.string s] rfl rfl ?c1 ?c2 ?c3 ?c4 ?c5 ?_)
                  case c1 =>
                    intro j u hj
                    match j, hj with
                    | 0, hj => simp at hj; subst hj; simp [Addr.add]
                  case c2 => intro u hu; simp at hu; subst hu; rfl
                  case c3 => unfold maxLen; omega
                  case c4 => omega
                  case c5 => simp; omega
                  · intro v' w5 hown5 hgrow _
                    have hb5 : Below w1.heap.size w1 w5 := (Hb4.out.alloc (by simp; omega) _).grown hgrow (by simp; omega) (fun k hk => (Hown4.out.lt k hk).1)
                    have Hown5 := Lib.hid hown5
                    clear hown5 hgrow
                    go_wp2_with fail
                    go_roundw
                    case rel => exact ⟨i + 1, L ++ [s.toList], by omega, by go_num, by rw [Hst.out, ← List.append_assoc]; exact Honce.out.add Hmem.out, by have := Hown5.out; simpa [scells, ← str_of, Nat.add_assoc] using this, hb5⟩
                    case measure => simp [intOf]; omega
            · have hc2 : isCall o = false := by simpa using hc
              have hst := Hno.out hc2
              have hno14 : (o == 14) = false := by unfold isCall at hc2; simp at hc2; exact beq_eq_false_iff_ne.2 hc2.1
              have hno11 : (o == 11) = false := by unfold isCall at hc2; simp at hc2; exact beq_eq_false_iff_ne.2 hc2.2
              have Hst := Lib.hid hst
              clear hst hc hc2 Hyes Hno
              go_wp2_with fail
              go_roundw
              case rel => exact ⟨i + 1, L, by omega, by go_num, by rw [Hst.out]; exact Honce.out, Hown.out.alloc _, hb3.alloc hz1 _⟩
              case measure => simp [intOf]; omega
          · have he : q2.take i = q2 := by rw [List.take_of_length_le (by omega)]
            have honce4 := Honce.out
            rw [he, ← Hs.out] at honce4
            have Honce4 := Lib.hid honce4
            have hil4 : q2.length ≤ i := by omega
            clear he honce4
            go_wp2_with fail
            go_roundw
            case rel => exact ⟨j + 1, L, by omega, by go_num, Honce4.out, Hown.out, hb3⟩
            case measure => simp [intOf]; omega
      · have he : q.blocks.take j = q.blocks := by rw [List.take_of_length_le (by omega)]
        rw [he] at honce
        have hjl4 : q.blocks.length ≤ j := by omega
        have hle := honce.le
        generalize blkCalls q.blocks = M at *
        have Honce := Lib.hid honce
        clear he honce
        obtain ⟨va, vcap, rfl, _, _⟩ := strs_of_owns (by omega) Hown.out
        by_cases h0 : L.length = 0
        · have hL0 := List.eq_nil_of_length_eq_zero h0
          subst hL0
          have hcu := compact_unique [] M List.Pairwise.nil Honce.out.mem
          rw [Hco.out] at hcu
          have Hcu := Lib.hid hcu
          clear hcu h0
          go_wp2_with fail
          go_loop [10] (fun ii => ii = .int .i64 0) (fun _ => 0)
          case atStart => rfl
          case round =>
            subst hrel
            go_wp2_with fail
            go_ret
            exact ⟨.slice va 0 vcap, rfl, ⟨va, vcap, by rw [Hcu.out]; rfl, by rw [Hcu.out]; simp, fun h => by rw [Hcu.out] at h; simp at h⟩, hB1.trans (hb2.mono hB1.size)⟩
        · obtain ⟨g, vcap', hv, hlc, hbg, hholds⟩ := holds_of_owns (by omega) Hown.out
          have hva : va = some ⟨g, 0, none⟩ := by cases hv; rfl
          subst hva
          have hlc2 : L.length ≤ vcap := by cases hv; exact hlc
          have Hholds := Lib.hid hholds
          clear hv hholds hlc vcap' Hown
          go_wp2_with fail
          go_loopw [10] (fun ii wr => ∃ (i : Nat) (L2 : List (List UInt8)), i ≤ L.length ∧ ii = .int .i64 i ∧ L2.length = L.length ∧ Once L2 M ∧ Rises (L2.take i) ∧ HoldsS wr g L2 ∧ Below w1.heap.size w1 wr) (fun ii _ => L.length - (intOf ii).toNat)
          case atStart => exact ⟨0, L, Nat.zero_le _, rfl, rfl, Honce.out, List.Pairwise.nil, Hholds.out, hb2⟩
          case round =>
            clear Hholds Honce hb2 x3 x13
            obtain ⟨i, L2, hi, rfl, hl2, honce, hri, hholds, hb2⟩ := hrel
            have Honce := Lib.hid honce
            have Hri := Lib.hid hri
            have Hholds := Lib.hid hholds
            clear honce hri hholds
            by_cases hil : i < L.length
            · have hrt : Mid L2 (L2.take i) [] (L2.drop (i + 1)) (L2[i]'(by omega)) := by
                have hil2 : i < L2.length := by omega
                refine ⟨?_, by simpa using Hri.out, by simp, ?_⟩
                · conv => lhs; rw [← List.take_append_drop i L2, List.drop_eq_getElem_cons hil2]
                  simp
                · have hnd := Honce.out.nodup
                  intro hmem
                  rw [← List.take_append_drop i L2, List.drop_eq_getElem_cons hil2, List.nodup_append] at hnd
                  exact hnd.2.2 _ hmem _ (.head _) rfl
              have Hrt := Lib.hid hrt
              clear hrt
              go_wp2_with fail
              go_loopw [11] (fun jj wr => ∃ (A B C : List (List UInt8)) (x : List UInt8), jj = .int .i64 A.length ∧ A.length + B.length = i ∧ (A ++ x :: (B ++ C)).length = L.length ∧ Once (A ++ x :: (B ++ C)) M ∧ Mid (A ++ x :: (B ++ C)) A B C x ∧ HoldsS wr g (A ++ x :: (B ++ C)) ∧ Below w1.heap.size w1 wr) (fun jj _ => (intOf jj).toNat)
              case atStart =>
                have he := Hrt.out.eq
                refine ⟨L2.take i, [], L2.drop (i + 1), L2[i]'(by omega), by rw [List.length_take, Nat.min_eq_left (by omega)], by rw [List.length_take, Nat.min_eq_left (by omega)]; rfl, ?_, ?_, ?_, ?_, hb2⟩
                · rw [← he]; exact hl2
                · rw [← he]; exact Honce.out
                · rw [← he]; exact Hrt.out
                · rw [← he]; exact Hholds.out
              case round =>
                clear Hrt Hri Honce Hholds hb2 hl2
                obtain ⟨A, B, C, x, rfl, hij, hl3, honce, hmid, hholds, hb2⟩ := hrel
                have Honce := Lib.hid honce
                have Hmid := Lib.hid hmid
                have Hholds := Lib.hid hholds
                clear honce hmid hholds
                rcases List.eq_nil_or_concat A with e | ⟨A', y, e⟩
                · subst e
                  have hdone := Hmid.out.done (fun y h => by simp at h)
                  have Hdone := Lib.hid hdone
                  clear hdone
                  have hg0 : decide ((0 : Int) > 0) = false := by decide
                  go_wp2_with fail
                  go_quiet (fail)
                  go_wp2_with fail
                  go_roundw
                  case rel => exact ⟨i + 1, [] ++ x :: (B ++ C), by omega, by go_num, hl3, Honce.out, by rw [← hij, take_mid]; exact Hdone.out, holdsS_drewN Hholds.out _, below_drewN hb2 _⟩
                  case measure => simp [intOf]; omega
                · rw [List.concat_eq_append] at e
                  subst e
                  obtain ⟨m, hm⟩ : ∃ m, m = A'.length := ⟨_, rfl⟩
                  have hA : (A' ++ [y]).length = m + 1 := by rw [List.length_append, hm]; rfl
                  obtain ⟨cx, fx⟩ := holdsS_at Hholds.out (m + 1) hA.symm
                  have hy2 : (A' ++ [y]) ++ x :: (B ++ C) = A' ++ y :: (x :: (B ++ C)) := by simp
                  have hh2 := Hholds.out
                  rw [hy2] at hh2
                  obtain ⟨cy, fy⟩ := holdsS_at hh2 m hm
                  rw [List.length_append, List.length_cons, hA] at hl3
                  rw [hA, show (((m + 1 : Nat)) : Int) = (m : Int) + 1 by omega]
                  clear hh2
                  have b0 : (0 : Int) ≤ (m : Int) + 1 := by omega
                  have b1 : (m : Int) + 1 < (L.length : Int) := by omega
                  have b2 : (0 : Int) ≤ (m : Int) := by omega
                  have b3 : (m : Int) < (L.length : Int) := by omega
                  have b4 : IntKind.i64.wrap ((m : Int) + 1 - 1) = (m : Int) := by rw [IntWalk.i64_in _ ⟨by omega, by omega⟩]; omega
                  have b5 : ((m : Int) + 1).toNat = m + 1 := by omega
                  have hg0 : (m : Int) + 1 > 0 := by omega
                  have b6 : m + 1 < L.length := by omega
                  have b7 : m + 1 ≤ vcap := by omega
                  have Hm := Lib.hid hm
                  have HA := Lib.hid hA
                  have Hij := Lib.hid hij
                  have Hl3 := Lib.hid hl3
                  have Hy2 := Lib.hid hy2
                  clear hm hA hij hl3 hy2
                  by_cases hxy : x < y
                  · have hbl : Op.bytesLess (str x).toList (str y).toList = true := by rw [str_toList, str_toList]; exact (bytesLess_iff x y).2 hxy
                    have Hxy := Lib.hid hxy
                    clear hxy
                    go_wp2_with fail
                    go_quiet (fail)
                    go_wp2_with fail
                    generalize hwq : wr.drewN nq = wq
                    have hb9 : Below w1.heap.size w1 wq := by rw [← hwq]; exact below_drewN hb2 _
                    have cx9 : wq.cell? ⟨g, m + 1, none⟩ = some (.string (str x)) := by rw [← hwq]; exact cx
                    have cy9 : wq.cell? ⟨g, m, none⟩ = some (.string (str y)) := by rw [← hwq]; exact cy
                    have fx9 : wq.frozen? ⟨g, m + 1, none⟩ = false := by rw [← hwq]; exact fx
                    have fy9 : wq.frozen? ⟨g, m, none⟩ = false := by rw [← hwq]; exact fy
                    have Hh9 : Hid (HoldsS wq g ((A' ++ [y]) ++ x :: (B ++ C))) := Lib.hid (by rw [← hwq]; exact Hholds.out)
                    clear hwq cx cy fx fy hbl Hholds hb2
                    go_region
                    go_wp2_with fail
                    go_roundw
                    case rel =>
                      have he : A' ++ x :: ((y :: B) ++ C) = A' ++ x :: y :: (B ++ C) := by simp
                      refine ⟨A', y :: B, C, x, by rw [Hm.out], by have := Hij.out; simp at this ⊢; omega, by have h1 := Hl3.out; have h2 := Hm.out; simp only [List.length_append, List.length_cons] at h1 ⊢; omega, ?_, Hmid.out.step Hxy.out, ?_, ((hb9.setCell hbg _).setCell hbg _).drew⟩
                      · rw [he]; exact Honce.out.swap
                      · rw [he]; exact holdsS_swap Hh9.out Hm.out
                    case measure => simp [intOf] <;> omega
                  · have hbl : Op.bytesLess (str x).toList (str y).toList = false := by
                      rw [str_toList, str_toList, ← Bool.not_eq_true]; exact fun h => hxy ((bytesLess_iff x y).1 h)
                    have hdone := Hmid.out.done (fun y' h => by
                      rw [List.getLast?_append] at h; simp at h; rw [← h]; exact hxy)
                    have Hdone := Lib.hid hdone
                    clear hdone hxy
                    go_wp2_with fail
                    go_quiet (fail)
                    go_wp2_with fail
                    go_roundw
                    case rel => exact ⟨i + 1, (A' ++ [y]) ++ x :: (B ++ C), by omega, by go_num, by have h1 := Hl3.out; have h2 := Hm.out; simp only [List.length_append, List.length_cons, List.length_nil] at h1 ⊢; omega, Honce.out, by rw [← Hij.out, take_mid]; exact Hdone.out, holdsS_drewN Hholds.out _, below_drewN hb2 _⟩
                    case measure => simp [intOf]; omega
            · have hle4 : L.length ≤ i := by omega
              have hri2 := Hri.out
              rw [List.take_of_length_le (by omega)] at hri2
              have hcu := compact_unique L2 M hri2 Honce.out.mem
              rw [Hco.out] at hcu
              have Hcu := Lib.hid hcu
              clear hcu hri2
              go_wp2_with fail
              go_ret
              exact ⟨.slice (some ⟨g, 0, none⟩) L.length vcap, rfl, ⟨some ⟨g, 0, none⟩, vcap, by rw [Hcu.out, hl2], by rw [Hcu.out]; omega, fun h => ⟨g, 0, rfl, fun j hj => by
                have := (Hholds.out j (by rw [Hcu.out] at hj; exact hj)).1
                rw [Nat.zero_add, this]
                congr 3
                simp only [Hcu.out]⟩⟩, hB1.trans (hb2.mono hB1.size)⟩
end Go.Proofs.YtfpbhmikogdpgaaGreatDoor
