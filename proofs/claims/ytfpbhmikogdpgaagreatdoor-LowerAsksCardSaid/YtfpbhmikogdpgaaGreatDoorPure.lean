/- Whether a code only computes: one Bool on both sides. -/
import Derived.Test.YtfpbhmikogdpgaaGreatDoorFind
import Derived.Deep.CutRange
namespace Go.Proofs.YtfpbhmikogdpgaaGreatDoor
open Go.RowKit

def plainOp (o : Int) : Bool := o == 1 || o == 2 || o == 3 || o == 5 || o == 17 || o == 18 || o == 20
def insPure (x : Ins) : Bool := if x.op = 13 then x.s.toList != [112, 114, 105, 110, 116] else plainOp x.op
def blkPure (b : List Ins) : Bool := b.all insPure
def pureOf (n : List UInt8) (l : List Cod) : Bool := hasCode n l && (codeOf n l).blocks.all blkPure

theorem all_succ {α : Type} (f : α → Bool) (l : List α) (i : Nat) (h : i < l.length) : (l.take (i + 1)).all f = ((l.take i).all f && f l[i]) := by
  rw [List.take_succ_eq_append_getElem h, List.all_append]; simp
theorem plain_no {o : Int} (h1 : o ≠ 1) (h2 : o ≠ 2) (h3 : o ≠ 3) (h5 : o ≠ 5) (h17 : o ≠ 17) (h18 : o ≠ 18) (h20 : o ≠ 20) : plainOp o = false := by
  unfold plainOp; simp [h1, h2, h3, h5, h17, h18, h20]

set_option maxRecDepth 100000 in
set_option maxHeartbeats 4000000 in
theorem pure_any (l : List Cod) (v0 v1 v2 : Value) (a : Option Addr) (cap : Nat) (n : ByteArray) (w : World) (hl : Cods w l a cap)
    (hv0 : ∃ a n c, v0 = .slice a n c) (hv1 : ∃ a n c, v1 = .slice a n c) (hv2 : ∃ a n c, v2 = .slice a n c) :
    Calls Tryz.prog 10 #[.agg #[v0, v1, v2, .slice a l.length cap], .string n] w fun e w' => e = .returned (.bool (pureOf n.toList l)) ∧ Below w.heap.size w w' := by
  have hcap := hl.1
  have hr := code_any l v0 v1 v2 a cap n (w.alloc (.cells #[v0, v1, v2, .slice a l.length cap] 27)) (hl.under (below1 w _))
  unfold pureOf
  unfold CodeSays at hr
  generalize codeOf n.toList l = q at *
  generalize hasCode n.toList l = z at *
  have Hr := Lib.hid hr
  clear hr hl
  obtain ⟨y0, y1, y2, rfl⟩ := hv0
  obtain ⟨y3, y4, y5, rfl⟩ := hv1
  obtain ⟨y6, y7, y8, rfl⟩ := hv2
  go_enter Tryz.func10, Tryz.ntmps10
  go_wp2_with fail
  refine Hr.out.mono ?_
  rintro e w1 ⟨cs, i0, hin, rfl, hb1⟩
  obtain ⟨ga, gc, ra, rc, sa, sc, ba, bc, r0, r1, r2, r3, r4, r5, t0, t1, t2, t3, t4, t5, rfl, hbs⟩ := hin
  have hbl := hbs.1
  have hbs1 := fun o => hbs.keep BlkP.keeping (.of_below (below1 w1 o))
  have hB1 : Below w.heap.size w w1 := (below1 w _).trans (hb1.mono (by simp))
  have Hbs := Lib.hid hbs1
  clear hbs hbs1
  go_wp2_with fail
  go_loopw [7, 22] (fun zz jj wr => ∃ j : Nat, j ≤ q.blocks.length ∧ jj = .int .i64 j ∧ zz = .bool (z && (q.blocks.take j).all blkPure) ∧ Below w1.heap.size w1 wr ∧ Sl 1 BlkP wr q.blocks ba bc) (fun _ jj _ => q.blocks.length - (intOf jj).toNat)
  case atStart => exact ⟨0, Nat.zero_le _, rfl, by simp, below1 w1 _, Hbs.out _⟩
  case round =>
    obtain ⟨j, hj, rfl, rfl, hb2, hbs⟩ := hrel
    obtain ⟨w2, rfl⟩ : ∃ w2 : World, w2 = wr := ⟨_, rfl⟩
    by_cases hjl : j < q.blocks.length
    · obtain ⟨b2, off2, ia, ic, rfl, d0, hin⟩ := Blks.cell hbs j hjl
      have hil := hin.1
      have hs := all_succ blkPure q.blocks j hjl
      have Hs := Lib.hid hs
      have Hin := Lib.hid hin
      have Hbs2 := Lib.hid hbs
      clear hs hin hbs
      generalize hzb : (z && (q.blocks.take j).all blkPure) = zb
      have Hzb := Lib.hid hzb
      clear hzb
      generalize q.blocks[j] = q2 at *
      go_wp2_with fail
      go_loopw [7, 28] (fun zz ii w3 => ∃ i : Nat, i ≤ q2.length ∧ ii = .int .i64 i ∧ zz = .bool (zb && (q2.take i).all insPure) ∧ Below w2.heap.size w2 w3) (fun _ ii _ => q2.length - (intOf ii).toNat)
      case atStart => exact ⟨0, Nat.zero_le _, rfl, by simp, Below.refl _ _⟩
      case round =>
        obtain ⟨i, hi, rfl, rfl, hb3⟩ := hrel
        by_cases hil2 : i < q2.length
        · obtain ⟨b3, off3, aa, ac, ta, tc, pa, pc, k0, k1, k2, k3, k4, k5, rfl, ⟨e0, e1, e2, e3, e4, e5, e6, e7, e8, e9, e10, e11, e12, e13⟩, _, _, _, _, hop, _⟩ := Inss.cells (Sl.keep InsP.keeping (.of_below hb3) Hin.out) i hil2
          have hs := all_succ insPure q2 i hil2
          have hfin : (zb && (q2.take (i + 1)).all insPure) = ((zb && (q2.take i).all insPure) && insPure q2[i]) := by rw [hs, Bool.and_assoc]
          clear hs
          generalize (zb && (q2.take i).all insPure) = zi at *
          rw [show insPure q2[i] = (if q2[i].op = 13 then q2[i].s.toList != [112, 114, 105, 110, 116] else plainOp q2[i].op) from rfl] at hfin
          generalize hx : q2[i] = x at *
          clear hx
          obtain ⟨o, dst, args, s, nn, tt, ts, path, tgt, err, ee⟩ := x
          simp only [] at *
          have Hf0 := Lib.hid hfin
          clear hfin
          go_upto_region 10 with fail
          clear e0 e1 e2 e3 e4 e5 e6 e7 e8 e9 e10 e11 e12 e13 d0 hop
          have hfin := Hf0.out
          clear Hf0
          by_cases h13 : o = 13
          · subst h13
            rw [if_pos rfl] at hfin
            have Hfin := Lib.hid hfin
            clear hfin
            cases zi with
            | false =>
              go_wp2_with fail
              go_roundw
              case rel => exact ⟨i + 1, by omega, by go_num, by rw [Hfin.out]; rfl, hb3.trans ((below1 wr _).mono hb3.size)⟩
              case measure => simp [intOf]; omega
            | true =>
              by_cases hpr : s.toList = [112, 114, 105, 110, 116]
              · have hpr1 : (s.toList == [112, 114, 105, 110, 116]) = true := beq_iff_eq.2 hpr
                have hpr2 : (s.toList != [112, 114, 105, 110, 116]) = false := by rw [bne, hpr1]; rfl
                rw [hpr2] at Hfin
                clear hpr
                go_wp2_with fail
                go_roundw
                case rel => exact ⟨i + 1, by omega, by go_num, by rw [Hfin.out]; rfl, hb3.trans ((below1 wr _).mono hb3.size)⟩
                case measure => simp [intOf]; omega
              · have hpr1 : (s.toList == [112, 114, 105, 110, 116]) = false := beq_eq_false_iff_ne.2 hpr
                have hpr2 : (s.toList != [112, 114, 105, 110, 116]) = true := by rw [bne, hpr1]; rfl
                rw [hpr2] at Hfin
                clear hpr
                go_wp2_with fail
                go_roundw
                case rel => exact ⟨i + 1, by omega, by go_num, by rw [Hfin.out]; rfl, hb3.trans ((below1 wr _).mono hb3.size)⟩
                case measure => simp [intOf]; omega
          · rw [if_neg h13] at hfin
            by_cases hp : o = 1 ∨ o = 2 ∨ o = 3 ∨ o = 5 ∨ o = 17 ∨ o = 18 ∨ o = 20
            · have hpo : plainOp o = true := by unfold plainOp; rcases hp with rfl | rfl | rfl | rfl | rfl | rfl | rfl <;> rfl
              rw [hpo, Bool.and_true] at hfin
              have Hfin := Lib.hid hfin
              clear hfin hpo h13
              rcases hp with rfl | rfl | rfl | rfl | rfl | rfl | rfl
              all_goals
                go_wp2_with fail
                go_roundw
                case rel => exact ⟨i + 1, by omega, by go_num, by rw [Hfin.out], hb3.trans ((below1 wr _).mono hb3.size)⟩
                case measure => simp [intOf]; omega
            · simp only [not_or] at hp
              obtain ⟨h1, h2, h3, h5, h17, h18, h20⟩ := hp
              rw [plain_no h1 h2 h3 h5 h17 h18 h20, Bool.and_false] at hfin
              have Hfin := Lib.hid hfin
              clear hfin
              have g1 : (o == 1) = false := beq_eq_false_iff_ne.2 h1
              have g2 : (o == 2) = false := beq_eq_false_iff_ne.2 h2
              have g3 : (o == 3) = false := beq_eq_false_iff_ne.2 h3
              have g5 : (o == 5) = false := beq_eq_false_iff_ne.2 h5
              have g17 : (o == 17) = false := beq_eq_false_iff_ne.2 h17
              have g18 : (o == 18) = false := beq_eq_false_iff_ne.2 h18
              have g20 : (o == 20) = false := beq_eq_false_iff_ne.2 h20
              have g13 : (o == 13) = false := beq_eq_false_iff_ne.2 h13
              clear h1 h2 h3 h5 h17 h18 h20 h13
              go_wp2_with fail
              go_roundw
              case rel => exact ⟨i + 1, by omega, by go_num, by rw [Hfin.out], hb3.trans ((below1 wr _).mono hb3.size)⟩
              case measure => simp [intOf]; omega
        · have hil3 : q2.length ≤ i := by omega
          have he : (q2.take i).all insPure = blkPure q2 := by rw [List.take_of_length_le hil3]; rfl
          rw [he]
          clear he
          go_wp2_with fail
          go_roundw
          case rel => exact ⟨j + 1, by omega, by go_num, by rw [Hs.out, ← Hzb.out, Bool.and_assoc], hb2.trans (hb3.mono hb2.size), Hbs2.out.keep BlkP.keeping (.of_below hb3)⟩
          case measure => simp [intOf]; omega
    · have hjl3 : q.blocks.length ≤ j := by omega
      have he : (q.blocks.take j) = q.blocks := by rw [List.take_of_length_le hjl3]
      rw [he]
      clear he hbs
      go_wp2_with fail
      go_ret
      exact ⟨rfl, hB1.trans (hb2.mono hB1.size)⟩
theorem all_drop {α : Type} (f : α → Bool) (l : List α) (i : Nat) (h : i < l.length) : (l.drop i).all f = (f l[i] && (l.drop (i + 1)).all f) := by
  rw [List.drop_eq_getElem_cons h, List.all_cons]

set_option maxRecDepth 100000 in
set_option maxHeartbeats 4000000 in
theorem refPure_any (l : List Cod) (v0 v1 v2 : Value) (a : Option Addr) (cap : Nat) (n : ByteArray) (w : World) (hl : Cods w l a cap)
    (hv0 : ∃ a n c, v0 = .slice a n c) (hv1 : ∃ a n c, v1 = .slice a n c) (hv2 : ∃ a n c, v2 = .slice a n c) :
    Calls Tryz.prog 11 #[.agg #[v0, v1, v2, .slice a l.length cap], .string n] w fun e w' => e = .returned (.bool (pureOf n.toList l)) ∧ Below w.heap.size w w' := by
  have hcap := hl.1
  have hr := place_any l v0 v1 v2 a cap n (w.alloc (.cells #[v0, v1, v2, .slice a l.length cap] 27)) (hl.under (below1 w _))
  unfold PlaceSays at hr
  generalize hpz : pureOf n.toList l = pz
  have Hpz := Lib.hid hpz
  clear hpz
  have Hr := Lib.hid hr
  have Hl := Lib.hid hl
  clear hr hl
  obtain ⟨y0, y1, y2, rfl⟩ := hv0
  obtain ⟨y3, y4, y5, rfl⟩ := hv1
  obtain ⟨y6, y7, y8, rfl⟩ := hv2
  go_enter Tryz.func11, Tryz.ntmps11
  go_wp2_with fail
  refine Hr.out.mono ?_
  rintro e w1 ⟨⟨k, hk, rfl, hcode, hhas⟩ | ⟨rfl, hcode, hhas⟩, hb1⟩
  case inr =>
    have hq : pz = false := by rw [← Hpz.out]; unfold pureOf; rw [hhas]; rfl
    have Hq := Lib.hid hq
    clear hhas hcode hq
    go_wp2_with fail
    go_ret
    exact ⟨ret_bool (by rw [Hq.out]), (below1 w _).trans (hb1.mono (by simp))⟩
  case inl =>
    have hq : pz = l[k].blocks.all blkPure := by rw [← Hpz.out]; unfold pureOf; rw [hhas, hcode]; rfl
    have Hq := Lib.hid hq
    clear hhas hcode hq Hr Hpz
    have hB1 : Below w.heap.size w w1 := (below1 w _).trans (hb1.mono (by simp))
    have hbox : w1.cell? ⟨w.heap.size, 3, none⟩ = some (.slice a l.length cap) := cells_later hb1 _ _ (new_cell _ _ _ _ _ rfl)
    obtain ⟨b, off, ga, gc, ra, rc, sa, sc, ba, bc, r0, r1, r2, r3, r4, r5, t0, t1, t2, t3, t4, t5, rfl, ⟨_, _, _, _, _, _, _, _, _, _, _, _, _, c13⟩, _, _, _, hbs, _⟩ := Cods.cells (Hl.out.under hB1) k hk
    have hbl := hbs.1
    generalize l[k] = q at *
    have Hbs := Lib.hid hbs
    clear hbs Hl
    go_wp2_with fail
    go_loopw [6] (fun jj wr => ∃ j : Nat, j ≤ q.blocks.length ∧ jj = .int .i64 j ∧ q.blocks.all blkPure = (q.blocks.drop j).all blkPure ∧ Below w1.heap.size w1 wr) (fun jj _ => q.blocks.length - (intOf jj).toNat)
    case atStart => exact ⟨0, Nat.zero_le _, rfl, by simp, Below.refl _ _⟩
    case round =>
      obtain ⟨j, hj, rfl, hall, hb2⟩ := hrel
      obtain ⟨w2, rfl⟩ : ∃ w2 : World, w2 = wr := ⟨_, rfl⟩
      have x3 := cells_later hb2 _ _ hbox
      have x13 := cells_later hb2 _ _ c13
      have Hall := Lib.hid hall
      clear hall
      by_cases hjl : j < q.blocks.length
      · obtain ⟨b2, off2, ia, ic, rfl, d0, hin⟩ := Blks.cell (Hbs.out.keep BlkP.keeping (.of_below hb2)) j hjl
        have hil := hin.1
        have hs := all_drop blkPure q.blocks j hjl
        have Hs := Lib.hid hs
        have Hin := Lib.hid hin
        clear hs hin
        generalize q.blocks[j] = q2 at *
        go_wp2_with fail
        go_loopw [7] (fun ii w3 => ∃ i : Nat, i ≤ q2.length ∧ ii = .int .i64 i ∧ blkPure q2 = (q2.drop i).all insPure ∧ Below w2.heap.size w2 w3) (fun ii _ => q2.length - (intOf ii).toNat)
        case atStart => exact ⟨0, Nat.zero_le _, rfl, rfl, Below.refl _ _⟩
        case round =>
          obtain ⟨i, hi, rfl, hal2, hb3⟩ := hrel
          have z3 := cells_later hb3 _ _ x3
          have z13 := cells_later hb3 _ _ x13
          have y0 := cells_later hb3 _ _ d0
          have Hal2 := Lib.hid hal2
          clear hal2
          by_cases hil2 : i < q2.length
          · obtain ⟨b3, off3, aa, ac, ta, tc, pa, pc, k0, k1, k2, k3, k4, k5, rfl, ⟨e0, e1, e2, e3, e4, e5, e6, e7, e8, e9, e10, e11, e12, e13⟩, _, _, _, _, hop, _⟩ := Inss.cells (Sl.keep InsP.keeping (.of_below hb3) Hin.out) i hil2
            have hfin := all_drop insPure q2 i hil2
            rw [show insPure q2[i] = (if q2[i].op = 13 then q2[i].s.toList != [112, 114, 105, 110, 116] else plainOp q2[i].op) from rfl] at hfin
            generalize hx : q2[i] = x at *
            clear hx
            obtain ⟨o, dst, args, s, nn, tt, ts, path, tgt, err, ee⟩ := x
            simp only [] at *
            have Hf0 := Lib.hid hfin
            clear hfin
            go_upto_region 13 with fail
            clear e0 e1 e2 e3 e4 e5 e6 e7 e8 e9 e10 e11 e12 e13 y0 z3 z13 hop
            have hfin := Hf0.out
            clear Hf0
            have hBB := hB1.trans ((hb2.trans ((hb3.trans ((below1 wr (.cells #[.int .i64 o, .int .i64 dst, .slice aa args.length ac, .string s, .int .i64 nn, .int .i64 k0, .string k1, .int .i64 k2, .slice k3 k4 k5, .slice ta ts.length tc, .slice pa path.length pc, .int .i64 tgt, .int .i64 err, .int .i64 ee] 49)).mono hb3.size)).mono hb2.size)).mono hB1.size)
            by_cases h13 : o = 13
            · subst h13
              rw [if_pos rfl] at hfin
              by_cases hpr : s.toList = [112, 114, 105, 110, 116]
              · have hpr1 : (s.toList == [112, 114, 105, 110, 116]) = true := beq_iff_eq.2 hpr
                have hpr2 : (s.toList != [112, 114, 105, 110, 116]) = false := by rw [bne, hpr1]; rfl
                rw [hpr2] at hfin
                have Hfin := Lib.hid hfin
                clear hpr hfin
                go_wp2_with fail
                go_ret
                exact ⟨ret_bool (by rw [Hq.out, Hall.out, Hs.out, Hal2.out, Hfin.out]; rfl), hBB⟩
              · have hpr1 : (s.toList == [112, 114, 105, 110, 116]) = false := beq_eq_false_iff_ne.2 hpr
                have hpr2 : (s.toList != [112, 114, 105, 110, 116]) = true := by rw [bne, hpr1]; rfl
                rw [hpr2] at hfin
                have Hfin := Lib.hid hfin
                clear hpr hfin
                go_wp2_with fail
                go_roundw
                case rel => exact ⟨i + 1, by omega, by go_num, by rw [Hal2.out, Hfin.out]; rfl, hb3.trans ((below1 wr _).mono hb3.size)⟩
                case measure => simp [intOf]; omega
            · rw [if_neg h13] at hfin
              by_cases hp : o = 1 ∨ o = 2 ∨ o = 3 ∨ o = 5 ∨ o = 17 ∨ o = 18 ∨ o = 20
              · have hpo : plainOp o = true := by unfold plainOp; rcases hp with rfl | rfl | rfl | rfl | rfl | rfl | rfl <;> rfl
                rw [hpo, Bool.true_and] at hfin
                have Hfin := Lib.hid hfin
                clear hfin hpo h13
                rcases hp with rfl | rfl | rfl | rfl | rfl | rfl | rfl
                all_goals
                  go_wp2_with fail
                  go_roundw
                  case rel => exact ⟨i + 1, by omega, by go_num, by rw [Hal2.out, Hfin.out], hb3.trans ((below1 wr _).mono hb3.size)⟩
                  case measure => simp [intOf]; omega
              · simp only [not_or] at hp
                obtain ⟨h1, h2, h3, h5, h17, h18, h20⟩ := hp
                rw [plain_no h1 h2 h3 h5 h17 h18 h20, Bool.false_and] at hfin
                have Hfin := Lib.hid hfin
                clear hfin
                have g1 : (o == 1) = false := beq_eq_false_iff_ne.2 h1
                have g2 : (o == 2) = false := beq_eq_false_iff_ne.2 h2
                have g3 : (o == 3) = false := beq_eq_false_iff_ne.2 h3
                have g5 : (o == 5) = false := beq_eq_false_iff_ne.2 h5
                have g17 : (o == 17) = false := beq_eq_false_iff_ne.2 h17
                have g18 : (o == 18) = false := beq_eq_false_iff_ne.2 h18
                have g20 : (o == 20) = false := beq_eq_false_iff_ne.2 h20
                have g13 : (o == 13) = false := beq_eq_false_iff_ne.2 h13
                clear h1 h2 h3 h5 h17 h18 h20 h13
                go_wp2_with fail
                go_ret
                exact ⟨ret_bool (by rw [Hq.out, Hall.out, Hs.out, Hal2.out, Hfin.out]; rfl), hBB⟩
          · have hil3 : q2.length ≤ i := by omega
            have he : blkPure q2 = true := by rw [Hal2.out, List.drop_eq_nil_of_le hil3]; rfl
            have He := Lib.hid he
            clear he
            go_wp2_with fail
            go_roundw
            case rel => exact ⟨j + 1, by omega, by go_num, by rw [Hall.out, Hs.out, He.out, Bool.true_and], hb2.trans (hb3.mono hb2.size)⟩
            case measure => simp [intOf]; omega
      · have hjl3 : q.blocks.length ≤ j := by omega
        have he : q.blocks.all blkPure = true := by rw [Hall.out, List.drop_eq_nil_of_le hjl3]; rfl
        have He := Lib.hid he
        clear he
        go_wp2_with fail
        go_ret
        exact ⟨ret_bool (by rw [Hq.out, He.out]), hB1.trans (hb2.mono hB1.size)⟩
end Go.Proofs.YtfpbhmikogdpgaaGreatDoor
