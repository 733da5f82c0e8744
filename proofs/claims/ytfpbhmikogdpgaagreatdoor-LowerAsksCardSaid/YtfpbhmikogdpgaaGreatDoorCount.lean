/- How many instructions with an Op the codes have: one number on both sides. -/
import Derived.Test.YtfpbhmikogdpgaaGreatDoorRows
import Derived.Test.YtfpbhmikogdpgaaGreatDoorMem
import Derived.Test.YtfpbhmikogdpgaaGreatDoorRets
import Derived.Lib.Hide
namespace Go.Proofs.YtfpbhmikogdpgaaGreatDoor
open Go.RowKit

def insCount (op : Int) (b : List Ins) : Nat := b.countP fun x => x.op == op
def blkCount (op : Int) (l : List (List Ins)) : Nat := (l.map (insCount op)).sum
def codCount (op : Int) (l : List Cod) : Nat := (l.map fun c => blkCount op c.blocks).sum

theorem insCount_le (op : Int) (b : List Ins) : insCount op b ≤ b.length := List.countP_le_length
theorem blkCount_le (op : Int) (l : List (List Ins)) : blkCount op l ≤ (l.map List.length).sum := sum_map_le _ _ _ fun x _ => insCount_le op x
theorem codCount_le (op : Int) (l : List Cod) : codCount op l ≤ totL l := sum_map_le _ _ _ fun c _ => by
  have := blkCount_le op c.blocks; unfold Cod.tot; omega
theorem insCount_succ (op : Int) (b : List Ins) (i : Nat) (h : i < b.length) : insCount op (b.take (i + 1)) = insCount op (b.take i) + if b[i].op = op then 1 else 0 := by
  unfold insCount
  rw [List.take_succ_eq_append_getElem h, List.countP_append]
  simp [List.countP_cons]
theorem insCount_take_le (op : Int) (b : List Ins) (i : Nat) : insCount op (b.take i) ≤ insCount op b := by
  unfold insCount
  conv => rhs; rw [← List.take_append_drop i b, List.countP_append]
  omega

set_option maxRecDepth 100000 in
set_option maxHeartbeats 2000000 in
theorem count_any (l : List Cod) (v0 v1 v2 : Value) (a : Option Addr) (cap : Nat) (op : Int) (w : World) (hl : Cods w l a cap) (hbd : totL l ≤ 5000) :
    Calls Tryz.prog 5 #[.agg #[v0, v1, v2, .slice a l.length cap], .int .i64 op] w fun e w' => e = .returned (.int .i64 (codCount op l)) ∧ Below w.heap.size w w' := by
  have hcap := hl.1
  have hcc := codCount_le op l
  go_enter Tryz.func5, Tryz.ntmps5
  go_wp2_with fail
  go_loopw [5, 15] (fun nn kk wr => ∃ k : Nat, k ≤ l.length ∧ kk = .int .i64 k ∧ nn = .int .i64 (codCount op (l.take k)) ∧
      Below (w.heap.size + 1) (w.alloc (.cells #[v0, v1, v2, .slice a l.length cap] 27)) wr) (fun _ kk _ => l.length - (intOf kk).toNat)
  case atStart => exact ⟨0, Nat.zero_le _, rfl, rfl, Below.refl _ _⟩
  case round =>
    obtain ⟨k, hk, rfl, rfl, hbel⟩ := hrel
    obtain ⟨w1, rfl⟩ : ∃ w1 : World, w1 = wr := ⟨_, rfl⟩
    have hB : Below w.heap.size w w1 := (below1 w _).trans (hbel.mono (by simp))
    by_cases hlt : k < l.length
    · obtain ⟨b, off, ga, gc, ra, rc, sa, sc, ba, bc, r0, r1, r2, r3, r4, r5, t0, t1, t2, t3, t4, t5, rfl, ⟨c0, c1, c2, c3, c4, c5, c6, c7, c8, c9, c10, c11, c12, c13⟩, _, _, _, hbs, _⟩ := Cods.cells (hl.under hB) k hlt
      have hbl := hbs.1
      have hcs : codCount op (l.take (k + 1)) = codCount op (l.take k) + blkCount op l[k].blocks := sum_take_succ _ l k hlt
      have hcl : codCount op (l.take (k + 1)) ≤ codCount op l := sum_take_le _ l (k + 1)
      generalize hz : codCount op (l.take k) = z at hcs ⊢
      generalize hy : codCount op (l.take (k + 1)) = y at hcs hcl
      have Hy := Lib.hid hy
      clear hz hy
      generalize l[k] = q at *
      have Hcs := Lib.hid hcs
      have Hbs := Lib.hid hbs
      clear hbs hcs
      go_wp2_with fail
      go_loopw [5, 22] (fun nn bb w2 => ∃ j : Nat, j ≤ q.blocks.length ∧ bb = .int .i64 j ∧ nn = .int .i64 (z + blkCount op (q.blocks.take j) : Nat) ∧ Below w1.heap.size w1 w2) (fun _ bb _ => q.blocks.length - (intOf bb).toNat)
      case atStart => exact ⟨0, Nat.zero_le _, rfl, by simp [blkCount], below1 w1 _⟩
      case round =>
        obtain ⟨j, hj, rfl, rfl, hb2⟩ := hrel
        obtain ⟨w2, rfl⟩ : ∃ w2 : World, w2 = wr := ⟨_, rfl⟩
        by_cases hjl : j < q.blocks.length
        · obtain ⟨b2, off2, ia, ic, rfl, d0, hin⟩ := Blks.cell (Sl.keep BlkP.keeping (.of_below hb2) Hbs.out) j hjl
          have hil := hin.1
          have hcs2 : blkCount op (q.blocks.take (j + 1)) = blkCount op (q.blocks.take j) + insCount op q.blocks[j] := sum_take_succ _ _ j hjl
          have hcl2 : blkCount op (q.blocks.take (j + 1)) ≤ blkCount op q.blocks := sum_take_le _ _ (j + 1)
          have Hcs' := Hcs.out
          generalize blkCount op (q.blocks.take j) = z2 at *
          generalize hy2 : blkCount op (q.blocks.take (j + 1)) = y2 at *
          have Hy2 := Lib.hid hy2
          clear hy2
          generalize q.blocks[j] = q2 at *
          have Hcs2 := Lib.hid hcs2
          have Hin := Lib.hid hin
          have hbz : z + y2 ≤ 5000 := by omega
          clear hin hcs2 Hcs'
          go_wp2_with fail
          go_loopw [5, 28] (fun nn ii w3 => ∃ i : Nat, i ≤ q2.length ∧ ii = .int .i64 i ∧ nn = .int .i64 (z + z2 + insCount op (q2.take i) : Nat) ∧ Below w2.heap.size w2 w3) (fun _ ii _ => q2.length - (intOf ii).toNat)
          case atStart => exact ⟨0, Nat.zero_le _, rfl, by simp [insCount], Below.refl _ _⟩
          case round =>
            obtain ⟨i, hi, rfl, rfl, hb3⟩ := hrel
            by_cases hil2 : i < q2.length
            · obtain ⟨b3, off3, aa, ac, ta, tc, pa, pc, k0, k1, k2, k3, k4, k5, rfl, ⟨e0, e1, e2, e3, e4, e5, e6, e7, e8, e9, e10, e11, e12, e13⟩, _, _, _, _, hop, _⟩ := Inss.cells (Sl.keep InsP.keeping (.of_below hb3) Hin.out) i hil2
              have hs := insCount_succ op q2 i hil2
              have hsl := insCount_take_le op q2 (i + 1)
              have Hcs2' := Hcs2.out
              generalize insCount op (q2.take i) = z3 at *
              generalize q2[i] = x at *
              by_cases hxo : x.op = op
              · rw [if_pos hxo] at hs
                have hop2 : (x.op == op) = true := beq_iff_eq.2 hxo
                rw [hs] at hsl
                have Hs := Lib.hid hs
                clear hs
                have hbz2 : z + z2 + z3 + 1 ≤ 5000 := by omega
                clear Hcs2' hxo
                go_wp2_with fail
                go_roundw
                case rel => exact ⟨i + 1, by omega, by go_num, by rw [Hs.out]; go_num, hb3.trans ((below1 wr _).mono hb3.size)⟩
                case measure => simp [intOf]; omega
              · rw [if_neg hxo] at hs
                have hop2 : (x.op == op) = false := beq_eq_false_iff_ne.2 hxo
                rw [hs] at hsl
                have Hs := Lib.hid hs
                clear hs
                clear Hcs2' hxo
                go_wp2_with fail
                go_roundw
                case rel => exact ⟨i + 1, by omega, by go_num, by rw [Hs.out]; go_num, hb3.trans ((below1 wr _).mono hb3.size)⟩
                case measure => simp [intOf]; omega
            · have hil3 : q2.length ≤ i := by omega
              have he : insCount op (q2.take i) = insCount op q2 := by rw [List.take_of_length_le hil3]
              rw [he]
              clear he
              go_wp2_with fail
              go_roundw
              case rel => exact ⟨j + 1, by omega, by go_num, by rw [Hy2.out, Hcs2.out]; go_num, hb2.trans (hb3.mono hb2.size)⟩
              case measure => simp [intOf]; omega
        · have hjl3 : q.blocks.length ≤ j := by omega
          have he : blkCount op (q.blocks.take j) = blkCount op q.blocks := by rw [List.take_of_length_le hjl3]
          rw [he]
          clear he
          go_wp2_with fail
          go_roundw
          case rel => exact ⟨k + 1, by omega, by go_num, by rw [Hy.out, Hcs.out], hbel.trans (hb2.mono (by have := hbel.size; simp at this; omega))⟩
          case measure => simp [intOf]; omega
    · have hk3 : l.length ≤ k := by omega
      have he : codCount op (l.take k) = codCount op l := by rw [List.take_of_length_le hk3]
      rw [he]
      clear he
      go_wp2_with fail
      go_ret
      exact ⟨rfl, hB⟩

set_option maxRecDepth 100000 in
set_option maxHeartbeats 2000000 in
theorem refCount_any (l : List Cod) (v0 v1 v2 : Value) (a : Option Addr) (cap : Nat) (op : Int) (w : World) (hl : Cods w l a cap) (hbd : totL l ≤ 5000) :
    Calls Tryz.prog 6 #[.agg #[v0, v1, v2, .slice a l.length cap], .int .i64 op] w fun e w' => e = .returned (.int .i64 (codCount op l)) ∧ Below w.heap.size w w' := by
  have hcap := hl.1
  have hcc := codCount_le op l
  go_enter Tryz.func6, Tryz.ntmps6
  go_wp2_with fail
  go_loop [5, 6] (fun nn kk => ∃ k : Nat, k ≤ l.length ∧ kk = .int .i64 k ∧ nn = .int .i64 (codCount op (l.take k))) (fun _ kk => l.length - (intOf kk).toNat)
  case atStart => exact ⟨0, Nat.zero_le _, rfl, rfl⟩
  case round =>
    obtain ⟨k, hk, rfl, rfl⟩ := hrel
    by_cases hlt : k < l.length
    · obtain ⟨b, off, ga, gc, ra, rc, sa, sc, ba, bc, r0, r1, r2, r3, r4, r5, t0, t1, t2, t3, t4, t5, rfl, ⟨_, _, _, _, _, _, _, _, _, _, _, _, _, c13⟩, _, _, _, hbs, _⟩ := Cods.cells (hl.under (below1 w (.cells #[v0, v1, v2, .slice a l.length cap] 27))) k hlt
      have hbl := hbs.1
      have hcs : codCount op (l.take (k + 1)) = codCount op (l.take k) + blkCount op l[k].blocks := sum_take_succ _ l k hlt
      have hcl : codCount op (l.take (k + 1)) ≤ codCount op l := sum_take_le _ l (k + 1)
      generalize hz : codCount op (l.take k) = z at hcs ⊢
      generalize hy : codCount op (l.take (k + 1)) = y at hcs hcl
      have Hy := Lib.hid hy
      clear hz hy
      generalize l[k] = q at *
      have Hcs := Lib.hid hcs
      have Hbs := Lib.hid hbs
      clear hbs hcs
      go_wp2_with fail
      go_loop [5, 7] (fun nn bb => ∃ j : Nat, j ≤ q.blocks.length ∧ bb = .int .i64 j ∧ nn = .int .i64 (z + blkCount op (q.blocks.take j) : Nat)) (fun _ bb => q.blocks.length - (intOf bb).toNat)
      case atStart => exact ⟨0, Nat.zero_le _, rfl, by simp [blkCount]⟩
      case round =>
        obtain ⟨j, hj, rfl, rfl⟩ := hrel
        by_cases hjl : j < q.blocks.length
        · obtain ⟨b2, off2, ia, ic, rfl, d0, hin⟩ := Blks.cell Hbs.out j hjl
          have hil := hin.1
          have hcs2 : blkCount op (q.blocks.take (j + 1)) = blkCount op (q.blocks.take j) + insCount op q.blocks[j] := sum_take_succ _ _ j hjl
          have hcl2 : blkCount op (q.blocks.take (j + 1)) ≤ blkCount op q.blocks := sum_take_le _ _ (j + 1)
          have Hcs' := Hcs.out
          generalize blkCount op (q.blocks.take j) = z2 at *
          generalize hy2 : blkCount op (q.blocks.take (j + 1)) = y2 at *
          have Hy2 := Lib.hid hy2
          clear hy2
          generalize q.blocks[j] = q2 at *
          have Hcs2 := Lib.hid hcs2
          have Hin := Lib.hid hin
          have hbz : z + y2 ≤ 5000 := by omega
          clear hin hcs2 Hcs'
          go_wp2_with fail
          go_loop [5, 8] (fun nn ii => ∃ i : Nat, i ≤ q2.length ∧ ii = .int .i64 i ∧ nn = .int .i64 (z + z2 + insCount op (q2.take i) : Nat)) (fun _ ii => q2.length - (intOf ii).toNat)
          case atStart => exact ⟨0, Nat.zero_le _, rfl, by simp [insCount]⟩
          case round =>
            obtain ⟨i, hi, rfl, rfl⟩ := hrel
            by_cases hil2 : i < q2.length
            · obtain ⟨b3, off3, aa, ac, ta, tc, pa, pc, k0, k1, k2, k3, k4, k5, rfl, ⟨e0, _, _, _, _, _, _, _, _, _, _, _, _, _⟩, _, _, _, _, hop, _⟩ := Inss.cells Hin.out i hil2
              have hs := insCount_succ op q2 i hil2
              have hsl := insCount_take_le op q2 (i + 1)
              have Hcs2' := Hcs2.out
              generalize insCount op (q2.take i) = z3 at *
              generalize q2[i] = x at *
              by_cases hxo : x.op = op
              · rw [if_pos hxo] at hs
                have hop2 : (x.op == op) = true := beq_iff_eq.2 hxo
                rw [hs] at hsl
                have Hs := Lib.hid hs
                clear hs
                have hbz2 : z + z2 + z3 + 1 ≤ 5000 := by omega
                clear Hcs2' hxo
                go_wp2_with fail
                go_round
                case rel => exact ⟨i + 1, by omega, by go_num, by rw [Hs.out]; go_num⟩
                case measure => simp [intOf]; omega
              · rw [if_neg hxo] at hs
                have hop2 : (x.op == op) = false := beq_eq_false_iff_ne.2 hxo
                rw [hs] at hsl
                have Hs := Lib.hid hs
                clear hs
                clear Hcs2' hxo
                go_wp2_with fail
                go_round
                case rel => exact ⟨i + 1, by omega, by go_num, by rw [Hs.out]; go_num⟩
                case measure => simp [intOf]; omega
            · have hil3 : q2.length ≤ i := by omega
              have he : insCount op (q2.take i) = insCount op q2 := by rw [List.take_of_length_le hil3]
              rw [he]
              clear he
              go_wp2_with fail
              go_round
              case rel => exact ⟨j + 1, by omega, by go_num, by rw [Hy2.out, Hcs2.out]; go_num⟩
              case measure => simp [intOf]; omega
        · have hjl3 : q.blocks.length ≤ j := by omega
          have he : blkCount op (q.blocks.take j) = blkCount op q.blocks := by rw [List.take_of_length_le hjl3]
          rw [he]
          clear he
          go_wp2_with fail
          go_round
          case rel => exact ⟨k + 1, by omega, by go_num, by rw [Hy.out, Hcs.out]⟩
          case measure => simp [intOf]; omega
    · have hk3 : l.length ≤ k := by omega
      have he : codCount op (l.take k) = codCount op l := by rw [List.take_of_length_le hk3]
      rw [he]
      clear he
      go_wp2_with fail
      go_ret
      exact ⟨rfl, below1 w _⟩
end Go.Proofs.YtfpbhmikogdpgaaGreatDoor
