/- The reference's Size: where it is at most 5000 the program has at most 5000 blocks and instructions. -/
import Derived.Test.YtfpbhmikogdpgaaGreatDoorMem
import Derived.Test.YtfpbhmikogdpgaaGreatDoorNodes
import Derived.Deep.RegionHeld3
import Derived.IntWalk
import Derived.Deep.CutRange
import Derived.Deep.CutBlock
import Derived.Deep.DeepCutAuto
namespace Go.Proofs.YtfpbhmikogdpgaaGreatDoor
open Go.RowKit

/-- a type's four cells, by value -/
theorem TyP.four {w : World} {t : Ty} {c : Nat → Value} (h : TyP w t c) : ∃ (k0 : Int) (k1 : ByteArray) (k2 : Int) (k3 : Option Addr) (k4 k5 : Nat),
    c 0 = .int .i64 k0 ∧ c 1 = .string k1 ∧ c 2 = .int .i64 k2 ∧ c 3 = .slice k3 k4 k5 ∧ Ty.In w t #[.int .i64 k0, .string k1, .int .i64 k2, .slice k3 k4 k5] := by
  obtain ⟨k0, k1, k2, k3, k4, k5, e0, e1, e2, e3⟩ := Ty.cells4 h
  unfold TyP at h
  rw [e0, e1, e2, e3] at h
  exact ⟨k0, k1, k2, k3, k4, k5, e0, e1, e2, e3, h⟩

theorem Slts.cells {w : World} {l : List Slt} {a : Option Addr} {cap : Nat} (h : Sl 5 SltP w l a cap) (i : Nat) (hi : i < l.length) :
    ∃ (b off : Nat) (k0 : Int) (k1 : ByteArray) (k2 : Int) (k3 : Option Addr) (k4 k5 : Nat), a = some ⟨b, off, none⟩ ∧
      (w.cell? ⟨b, off + i * 5, none⟩ = some (.int .i64 k0) ∧ w.cell? ⟨b, off + i * 5 + 1, none⟩ = some (.string k1) ∧ w.cell? ⟨b, off + i * 5 + 2, none⟩ = some (.int .i64 k2) ∧ w.cell? ⟨b, off + i * 5 + 3, none⟩ = some (.slice k3 k4 k5)) ∧
      Ty.In w l[i].t #[.int .i64 k0, .string k1, .int .i64 k2, .slice k3 k4 k5] := by
  obtain ⟨b, off, c, ha, hc, hp⟩ := h.at i hi
  obtain ⟨k0, k1, k2, k3, k4, k5, e0, e1, e2, e3, hk⟩ := TyP.four hp.1
  refine ⟨b, off, k0, k1, k2, k3, k4, k5, ha, ⟨?_, ?_, ?_, ?_⟩, hk⟩
  · rw [← e0]; exact hc 0 (by omega)
  · rw [← e1]; exact hc 1 (by omega)
  · rw [← e2]; exact hc 2 (by omega)
  · rw [← e3]; exact hc 3 (by omega)

theorem Tss.cells {w : World} {l : List Ty} {a : Option Addr} {cap : Nat} (h : Sl 4 TyP w l a cap) (i : Nat) (hi : i < l.length) :
    ∃ (b off : Nat) (k0 : Int) (k1 : ByteArray) (k2 : Int) (k3 : Option Addr) (k4 k5 : Nat), a = some ⟨b, off, none⟩ ∧
      (w.cell? ⟨b, off + i * 4, none⟩ = some (.int .i64 k0) ∧ w.cell? ⟨b, off + i * 4 + 1, none⟩ = some (.string k1) ∧ w.cell? ⟨b, off + i * 4 + 2, none⟩ = some (.int .i64 k2) ∧ w.cell? ⟨b, off + i * 4 + 3, none⟩ = some (.slice k3 k4 k5)) ∧
      Ty.In w l[i] #[.int .i64 k0, .string k1, .int .i64 k2, .slice k3 k4 k5] := by
  obtain ⟨b, off, c, ha, hc, hp⟩ := h.at i hi
  obtain ⟨k0, k1, k2, k3, k4, k5, e0, e1, e2, e3, hk⟩ := TyP.four hp
  refine ⟨b, off, k0, k1, k2, k3, k4, k5, ha, ⟨?_, ?_, ?_, ?_⟩, hk⟩
  · rw [← e0]; exact hc 0 (by omega)
  · rw [← e1]; exact hc 1 (by omega)
  · rw [← e2]; exact hc 2 (by omega)
  · rw [← e3]; exact hc 3 (by omega)

theorem Opds.cells {w : World} {l : List Opd} {a : Option Addr} {cap : Nat} (h : Sl 3 OpdP w l a cap) (i : Nat) (hi : i < l.length) :
    ∃ (b off : Nat) (pa : Option Addr) (pc : Nat), a = some ⟨b, off, none⟩ ∧ w.cell? ⟨b, off + i * 3 + 2, none⟩ = some (.slice pa l[i].path.length pc) ∧ l[i].path.length ≤ 17592186043904 := by
  obtain ⟨b, off, c, ha, hc, hp⟩ := h.at i hi
  obtain ⟨pa, pc, e, hs⟩ := hp.2.2
  have hb := hs.1
  exact ⟨b, off, pa, pc, ha, by rw [← e]; exact hc 2 (by omega), by omega⟩

def SizeSays (l : List Cod) (w : World) (e : Ending) (w' : World) : Prop :=
  ∃ N : Int, e = .returned (.int .i64 N) ∧ (5000 < N ∨ (N ≤ 5000 ∧ l.length + totL l ≤ 5000)) ∧ Below w.heap.size w w'

set_option maxRecDepth 100000 in
set_option maxHeartbeats 4000000 in
theorem size_any (l : List Cod) (v0 v1 v2 : Value) (a : Option Addr) (cap : Nat) (w : World) (hl : Cods w l a cap) :
    Calls Tryz.prog 4 #[.agg #[v0, v1, v2, .slice a l.length cap], .int .i64 5000] w (SizeSays l w) := by
  have hcap := hl.1
  go_enter Tryz.func4, Tryz.ntmps4
  go_wp2_with fail
  go_loopw [5, 6] (fun nn kk wr => ∃ (k : Nat) (n : Int), k ≤ l.length ∧ kk = .int .i64 k ∧ nn = .int .i64 n ∧ 0 ≤ n ∧ n ≤ 200000000000000 ∧ (n ≤ 5000 → ((l.length + totL (l.take k) : Nat) : Int) ≤ n) ∧
      Below (w.heap.size + 1) (w.alloc (.cells #[v0, v1, v2, .slice a l.length cap] 27)) wr) (fun _ kk _ => l.length - (intOf kk).toNat)
  case atStart => exact ⟨0, l.length, Nat.zero_le _, rfl, rfl, by omega, by omega, by simp [totL], Below.refl _ _⟩
  case round =>
    obtain ⟨k, n, hk, rfl, rfl, hn0, hn1, hnt, hbel⟩ := hrel
    obtain ⟨w1, rfl⟩ : ∃ w1 : World, w1 = wr := ⟨_, rfl⟩
    have hB : Below w.heap.size w w1 := (below1 w _).trans (hbel.mono (by omega))
    have hbox : w1.cell? ⟨w.heap.size, 3, none⟩ = some (.slice a l.length cap) := by rw [hbel.cell (by simp)]; exact new_cell _ _ _ _ _ rfl
    by_cases hlt : k < l.length
    · by_cases hle : n ≤ 5000
      · obtain ⟨b, off, ga, gc, ra, rc, sa, sc, ba, bc, r0, r1, r2, r3, r4, r5, t0, t1, t2, t3, t4, t5, rfl, ⟨c0, c1, c2, c3, c4, c5, c6, c7, c8, c9, c10, c11, c12, c13⟩, hgs, hrs, hss, hbs, _⟩ := Cods.cells (hl.under hB) k hlt
        have hgl := hgs.1
        have hrl := hrs.1
        have hsl := hss.1
        have hbl := hbs.1
        have hbs1 := fun o => hbs.keep BlkP.keeping (.of_below (below1 w1 o))
        have hss1 := fun o => hss.keep SltP.keeping (.of_below (below1 w1 o))
        have htk : totL (l.take (k + 1)) = totL (l.take k) + l[k].tot := sum_take_succ _ l k hlt
        have htn := hnt hle
        generalize totL (l.take k) = T at *
        generalize hT2 : totL (l.take (k + 1)) = T2 at *
        have HT2 := Lib.hid hT2
        clear hT2 hnt
        unfold Cod.tot at htk
        generalize l[k] = q at *
        have Hbs := Lib.hid hbs1
        have Hss := Lib.hid hss1
        have Htk := Lib.hid htk
        clear hbs hss hgs hrs hbs1 hss1 htk
        go_upto_block 2 with fail
        go_cut [5] (fun s5 wx => ∃ n2 : Int, s5 = .int .i64 n2 ∧ n + q.slots.length + q.blocks.length + q.generics.length + q.reqs.length ≤ n2 ∧ n2 ≤ 200000000000000 ∧ Below (w1.heap.size + 1) (w1.alloc (.cells #[.string q.name, .slice ga q.generics.length gc, .slice ra q.reqs.length rc, .int .i64 q.params, .slice sa q.slots.length sc, .int .i64 r0, .string r1, .int .i64 r2, .slice r3 r4 r5, .int .i64 t0, .string t1, .int .i64 t2, .slice t3 t4 t5, .slice ba q.blocks.length bc] 40)) wx)
        case first =>
          go_wp2_with fail
          go_loopw [5, 8] (fun nn ss wr => ∃ (s : Nat) (n2 : Int), s ≤ q.slots.length ∧ ss = .int .i64 s ∧ nn = .int .i64 n2 ∧ n + q.slots.length + q.blocks.length + q.generics.length + q.reqs.length ≤ n2 ∧ n2 ≤ 200000000000000 ∧ Below (w1.heap.size + 1) (w1.alloc (.cells #[.string q.name, .slice ga q.generics.length gc, .slice ra q.reqs.length rc, .int .i64 q.params, .slice sa q.slots.length sc, .int .i64 r0, .string r1, .int .i64 r2, .slice r3 r4 r5, .int .i64 t0, .string t1, .int .i64 t2, .slice t3 t4 t5, .slice ba q.blocks.length bc] 40)) wr) (fun _ ss _ => q.slots.length - (intOf ss).toNat)
          case atStart => exact ⟨0, _, Nat.zero_le _, rfl, rfl, Int.le_refl _, by omega, Below.refl _ _⟩
          case round =>
            obtain ⟨s, n2, hs, rfl, rfl, hn2, hn3, hb2⟩ := hrel
            have g4 : wr.cell? ⟨w1.heap.size, 4, none⟩ = some (.slice sa q.slots.length sc) := by rw [hb2.cell (by simp)]; exact new_cell _ _ _ _ _ rfl
            by_cases hsl2 : s < q.slots.length
            · by_cases hle2 : n2 ≤ 5000
              · obtain ⟨b4, off4, k0, k1, k2, k3, k4, k5, rfl, ⟨x0, x1, x2, x3⟩, hty⟩ := Slts.cells ((Hss.out (.cells #[.string q.name, .slice ga q.generics.length gc, .slice ra q.reqs.length rc, .int .i64 q.params, .slice sa q.slots.length sc, .int .i64 r0, .string r1, .int .i64 r2, .slice r3 r4 r5, .int .i64 t0, .string t1, .int .i64 t2, .slice t3 t4 t5, .slice ba q.blocks.length bc] 40)).keep SltP.keeping (.of_below (by simpa using hb2))) s hsl2
                have hbd := Ty.nodes_bd 5000 (by omega) q.slots[s].t
                have hr := nodes_any q.slots[s].t wr 5000 _ hty (by omega) (by omega)
                generalize q.slots[s].t.nodes 5000 = y at hr hbd
                have Hr := Lib.hid hr
                clear hr hty
                go_wp2_with fail
                refine Hr.out.mono ?_
                rintro e wy ⟨rfl, hby⟩
                go_wp2_with fail
                go_roundw
                case rel => exact ⟨s + 1, n2 + y, by omega, by go_num, rfl, by omega, by omega, hb2.trans (hby.mono (by have := hb2.size; simp at this; omega))⟩
                case measure => simp [intOf]; omega
              · have hle3 : 5000 < n2 := by omega
                go_wp2_with fail
                go_meet
                case rel => exact ⟨n2, rfl, hn2, hn3, hb2⟩
            · have hsl3 : q.slots.length ≤ s := by omega
              by_cases hle2 : n2 ≤ 5000
              · go_wp2_with fail
                go_meet
                case rel => exact ⟨n2, rfl, hn2, hn3, hb2⟩
              · have hle3 : 5000 < n2 := by omega
                go_wp2_with fail
                go_meet
                case rel => exact ⟨n2, rfl, hn2, hn3, hb2⟩
        case rest =>
          obtain ⟨n2, rfl, hn2, hn3, hb2⟩ := hcut
          obtain ⟨w2, rfl⟩ : ∃ w2 : World, w2 = wc := ⟨_, rfl⟩
          have g13 : w2.cell? ⟨w1.heap.size, 13, none⟩ = some (.slice ba q.blocks.length bc) := by rw [hb2.cell (by simp)]; exact new_cell _ _ _ _ _ rfl
          have hbs2 := (Hbs.out (.cells #[.string q.name, .slice ga q.generics.length gc, .slice ra q.reqs.length rc, .int .i64 q.params, .slice sa q.slots.length sc, .int .i64 r0, .string r1, .int .i64 r2, .slice r3 r4 r5, .int .i64 t0, .string t1, .int .i64 t2, .slice t3 t4 t5, .slice ba q.blocks.length bc] 40)).keep BlkP.keeping (.of_below (by simpa using hb2))
          have Hbs2 := Lib.hid hbs2
          clear hbs2 Hbs Hss
          go_wp2_with fail
          go_loopw [5, 9] (fun nn jj wr => ∃ (j : Nat) (n3 : Int), j ≤ q.blocks.length ∧ jj = .int .i64 j ∧ nn = .int .i64 n3 ∧ n2 ≤ n3 ∧ n3 ≤ 200000000000000 ∧ (n3 ≤ 5000 → n2 + (((q.blocks.take j).map List.length).sum : Nat) ≤ n3) ∧ Below w2.heap.size w2 wr) (fun _ jj _ => q.blocks.length - (intOf jj).toNat)
          case atStart => exact ⟨0, n2, Nat.zero_le _, rfl, rfl, Int.le_refl _, hn3, by simp, Below.refl _ _⟩
          case round =>
            obtain ⟨j, n3, hj, rfl, rfl, hm2, hm3, hmt, hb3⟩ := hrel
            obtain ⟨w3, rfl⟩ : ∃ w3 : World, w3 = wr := ⟨_, rfl⟩
            have z13 := cells_later hb3 _ _ g13
            have hb23 := hb2.trans (hb3.mono (by have := hb2.size; simp at this; omega))
            by_cases hjl : j < q.blocks.length
            · by_cases hle3 : n3 ≤ 5000
              · obtain ⟨b5, off5, ia, ic, rfl, d0, hin⟩ := Blks.cell (Hbs2.out.keep BlkP.keeping (.of_below hb3)) j hjl
                have hil := hin.1
                have hst : ((q.blocks.take (j + 1)).map List.length).sum = ((q.blocks.take j).map List.length).sum + q.blocks[j].length := sum_take_succ _ _ j hjl
                have hmt2 := hmt hle3
                generalize ((q.blocks.take j).map List.length).sum = S at *
                generalize hS2 : ((q.blocks.take (j + 1)).map List.length).sum = S2 at *
                have HS2 := Lib.hid hS2
                have Hin := Lib.hid hin
                clear hS2 hin hmt
                generalize q.blocks[j] = q2 at *
                have Hst := Lib.hid hst
                clear hst
                go_wp2_with fail
                go_loopw [5, 10] (fun nn ii wr => ∃ (i : Nat) (n4 : Int), i ≤ q2.length ∧ ii = .int .i64 i ∧ nn = .int .i64 n4 ∧ n3 + i ≤ n4 ∧ n4 ≤ 200000000000000 ∧ Below w3.heap.size w3 wr) (fun _ ii _ => q2.length - (intOf ii).toNat)
                case atStart => exact ⟨0, n3, Nat.zero_le _, rfl, rfl, by omega, hm3, Below.refl _ _⟩
                case round =>
                  obtain ⟨i, n4, hi, rfl, rfl, hp2, hp3, hb4⟩ := hrel
                  obtain ⟨w4, rfl⟩ : ∃ w4 : World, w4 = wr := ⟨_, rfl⟩
                  have y13 := cells_later hb4 _ _ z13
                  have y0 := cells_later hb4 _ _ d0
                  by_cases hil2 : i < q2.length
                  · by_cases hle4 : n4 ≤ 5000
                    · obtain ⟨b6, off6, aa, ac, ta, tc, pa, pc, k0, k1, k2, k3, k4, k5, rfl, ⟨e0, e1, e2, e3, e4, e5, e6, e7, e8, e9, e10, e11, e12, e13⟩, hargs, hty, hts, hpath, _⟩ := Inss.cells (Sl.keep InsP.keeping (.of_below hb4) Hin.out) i hil2
                      have hal := hargs.1
                      have htl := hts.1
                      have hpl := hpath.1
                      generalize q2[i] = x at *
                      have hbd := Ty.nodes_bd 5000 (by omega) x.t
                      have hr := fun W (hW : Below w4.heap.size w4 W) => nodes_any x.t W 5000 _ (hty.under hW) (by omega) (by omega)
                      generalize x.t.nodes 5000 = y at hr hbd
                      have Hr := Lib.hid hr
                      have Hargs := Lib.hid hargs
                      have Hts := Lib.hid hts
                      clear hr hty hargs hts hpath
                      go_upto_region 18 with fail
                      clear e0 e1 e2 e3 e4 e5 e6 e7 e8 e9 e10 e11 e12 e13
                      go_cut [5] (fun s5 wx => s5 = .int .i64 (n4 + 1 + x.args.length + x.path.length + x.ts.length + y) ∧ Below (w4.heap.size + 1) (w4.alloc (.cells #[.int .i64 x.op, .int .i64 x.dst, .slice aa x.args.length ac, .string x.s, .int .i64 x.n, .int .i64 k0, .string k1, .int .i64 k2, .slice k3 k4 k5, .slice ta x.ts.length tc, .slice pa x.path.length pc, .int .i64 x.to, .int .i64 x.err, .int .i64 x.e] 49)) wx)
                      case first =>
                        have hBS := below1 w4 (.cells #[.int .i64 x.op, .int .i64 x.dst, .slice aa x.args.length ac, .string x.s, .int .i64 x.n, .int .i64 k0, .string k1, .int .i64 k2, .slice k3 k4 k5, .slice ta x.ts.length tc, .slice pa x.path.length pc, .int .i64 x.to, .int .i64 x.err, .int .i64 x.e] 49)
                        have q2' := new_cell w4 #[.int .i64 x.op, .int .i64 x.dst, .slice aa x.args.length ac, .string x.s, .int .i64 x.n, .int .i64 k0, .string k1, .int .i64 k2, .slice k3 k4 k5, .slice ta x.ts.length tc, .slice pa x.path.length pc, .int .i64 x.to, .int .i64 x.err, .int .i64 x.e] 49 w4.heap.size
                        have s2 := q2' 2 rfl
                        have s5 := q2' 5 rfl
                        have s6 := q2' 6 rfl
                        have s7 := q2' 7 rfl
                        have s8 := q2' 8 rfl
                        have s9 := q2' 9 rfl
                        have s10 := q2' 10 rfl
                        clear q2'
                        have a1 : IntKind.i64.wrap (n4 + 1) = n4 + 1 := IntWalk.i64_in _ ⟨by omega, by omega⟩
                        have a2 : IntKind.i64.wrap (n4 + 1 + x.args.length) = n4 + 1 + x.args.length := IntWalk.i64_in _ ⟨by omega, by omega⟩
                        have a3 : IntKind.i64.wrap (n4 + 1 + x.args.length + x.path.length) = n4 + 1 + x.args.length + x.path.length := IntWalk.i64_in _ ⟨by omega, by omega⟩
                        have a4 : IntKind.i64.wrap (n4 + 1 + x.args.length + x.path.length + x.ts.length) = n4 + 1 + x.args.length + x.path.length + x.ts.length := IntWalk.i64_in _ ⟨by omega, by omega⟩
                        have a5 : IntKind.i64.wrap (n4 + 1 + x.args.length + x.path.length + x.ts.length + y) = n4 + 1 + x.args.length + x.path.length + x.ts.length + y := IntWalk.i64_in _ ⟨by omega, by omega⟩
                        have A := Lib.hid (And.intro a1 (And.intro a2 (And.intro a3 (And.intro a4 a5))))
                        clear a1 a2 a3 a4 a5
                        obtain ⟨W0, hW0⟩ : ∃ W0, W0 = w4.alloc (.cells #[.int .i64 x.op, .int .i64 x.dst, .slice aa x.args.length ac, .string x.s, .int .i64 x.n, .int .i64 k0, .string k1, .int .i64 k2, .slice k3 k4 k5, .slice ta x.ts.length tc, .slice pa x.path.length pc, .int .i64 x.to, .int .i64 x.err, .int .i64 x.e] 49) := ⟨_, rfl⟩
                        have hR : Below (w4.heap.size + 1) (w4.alloc (.cells #[.int .i64 x.op, .int .i64 x.dst, .slice aa x.args.length ac, .string x.s, .int .i64 x.n, .int .i64 k0, .string k1, .int .i64 k2, .slice k3 k4 k5, .slice ta x.ts.length tc, .slice pa x.path.length pc, .int .i64 x.to, .int .i64 x.err, .int .i64 x.e] 49)) W0 := by rw [hW0]; exact Below.refl _ _
                        rw [← hW0] at s2 s5 s6 s7 s8 s9 s10 hBS ⊢
                        clear hW0
                        have hd0 : Below W0.heap.size W0 W0.drew := (Below.refl _ _).drew
                        go_region_held3 (fun wx => wx.cell? ⟨w4.heap.size, 2, none⟩ = some (.slice aa x.args.length ac) ∧ wx.cell? ⟨w4.heap.size, 5, none⟩ = some (.int .i64 k0) ∧ wx.cell? ⟨w4.heap.size, 6, none⟩ = some (.string k1) ∧ wx.cell? ⟨w4.heap.size, 7, none⟩ = some (.int .i64 k2) ∧ wx.cell? ⟨w4.heap.size, 8, none⟩ = some (.slice k3 k4 k5) ∧ wx.cell? ⟨w4.heap.size, 9, none⟩ = some (.slice ta x.ts.length tc) ∧ wx.cell? ⟨w4.heap.size, 10, none⟩ = some (.slice pa x.path.length pc) ∧ Below W0.heap.size W0 wx)
                          (((try dsimp only); refine ⟨?_, ?_, ?_, ?_, ?_, ?_, ?_, ?_⟩ <;> first | assumption | exact hd0 | exact cells_later hd0 _ _ (by assumption) | exact cells_later hby _ _ (cells_later hd0 _ _ (by assumption)) | exact cells_later hby _ _ (by assumption) | exact hd0.trans (hby.mono hd0.size)))
                          (first | (go_at_call 13; refine (Hr.out _ ?_).mono ?_; (first | exact hBS.trans (hd0.mono hBS.size) | exact hBS.trans (Below.mono (by assumption) hBS.size)); rintro e wy ⟨rfl, hby⟩))
                        go_wp2_with fail
                        go_meet
                        obtain ⟨a1, a2, a3, a4, a5⟩ := A.out
                        case rel => exact ⟨by first | rw [a1, a2, a3, a4, a5] | go_num | (trace_state; rfl), hR.trans (Below.mono (hd0.trans (hby.mono hd0.size)) (by have := hR.size; simp at this; omega))⟩
                      case rest =>
                        obtain ⟨rfl, hb5⟩ := hcut
                        obtain ⟨w5, rfl⟩ : ∃ w5 : World, w5 = wc := ⟨_, rfl⟩
                        have g2 : w5.cell? ⟨w4.heap.size, 2, none⟩ = some (.slice aa x.args.length ac) := by rw [hb5.cell (by simp)]; exact new_cell _ _ _ _ _ rfl
                        have g9 : w5.cell? ⟨w4.heap.size, 9, none⟩ = some (.slice ta x.ts.length tc) := by rw [hb5.cell (by simp)]; exact new_cell _ _ _ _ _ rfl
                        have hb45 : Below w4.heap.size w4 w5 := (below1 w4 (.cells #[.int .i64 x.op, .int .i64 x.dst, .slice aa x.args.length ac, .string x.s, .int .i64 x.n, .int .i64 k0, .string k1, .int .i64 k2, .slice k3 k4 k5, .slice ta x.ts.length tc, .slice pa x.path.length pc, .int .i64 x.to, .int .i64 x.err, .int .i64 x.e] 49)).trans (hb5.mono (by omega))
                        obtain ⟨n5, hn5⟩ : ∃ n5 : Int, n5 = n4 + 1 + x.args.length + x.path.length + x.ts.length + y := ⟨_, rfl⟩
                        rw [← hn5]
                        have hn5a : n4 + 1 ≤ n5 := by omega
                        have hn5b : n5 ≤ 100000000000000 := by omega
                        have Hn5 := Lib.hid hn5
                        clear hn5 Hr
                        go_upto_block 8 with fail
                        go_cut [5] (fun s5 wx => ∃ n6 : Int, s5 = .int .i64 n6 ∧ n5 ≤ n6 ∧ n6 ≤ 150000000000000 ∧ w5 = wx)
                        case first =>
                          go_wp2_with fail
                          go_loop [5, 12] (fun nn ss => ∃ (s : Nat) (n6 : Int), s ≤ x.args.length ∧ ss = .int .i64 s ∧ nn = .int .i64 n6 ∧ n5 ≤ n6 ∧ n6 ≤ 150000000000000) (fun _ ss => x.args.length - (intOf ss).toNat)
                          case atStart => exact ⟨0, n5, Nat.zero_le _, rfl, rfl, Int.le_refl _, by omega⟩
                          case round =>
                            obtain ⟨s, n6, hs, rfl, rfl, hn6, hn7⟩ := hrel
                            by_cases hsl2 : s < x.args.length
                            · by_cases hle6 : n6 ≤ 5000
                              · obtain ⟨b7, off7, pa7, pc7, rfl, x2, hpl7⟩ := Opds.cells (Hargs.out.keep OpdP.keeping (.of_below hb45)) s hsl2
                                go_wp2_with fail
                                go_round
                                case rel => exact ⟨s + 1, _, by omega, by go_num, rfl, by omega, by omega⟩
                                case measure => simp [intOf]; omega
                              · have hle7 : 5000 < n6 := by omega
                                go_wp2_with fail
                                go_meet
                                case rel => exact ⟨n6, rfl, hn6, hn7, rfl⟩
                            · have hsl3 : x.args.length ≤ s := by omega
                              by_cases hle6 : n6 ≤ 5000
                              · go_wp2_with fail
                                go_meet
                                case rel => exact ⟨n6, rfl, hn6, hn7, rfl⟩
                              · have hle7 : 5000 < n6 := by omega
                                go_wp2_with fail
                                go_meet
                                case rel => exact ⟨n6, rfl, hn6, hn7, rfl⟩
                        case rest =>
                          obtain ⟨n6, rfl, hn6, hn7, rfl⟩ := hcut
                          go_wp2_with fail
                          go_loopw [5, 13] (fun nn ss wr => ∃ (s : Nat) (n8 : Int), s ≤ x.ts.length ∧ ss = .int .i64 s ∧ nn = .int .i64 n8 ∧ n6 ≤ n8 ∧ n8 ≤ 200000000000000 ∧ Below w5.heap.size w5 wr) (fun _ ss _ => x.ts.length - (intOf ss).toNat)
                          case atStart => exact ⟨0, n6, Nat.zero_le _, rfl, rfl, Int.le_refl _, by omega, Below.refl _ _⟩
                          case round =>
                            obtain ⟨s, n8, hs, rfl, rfl, hn8, hn9, hb6⟩ := hrel
                            have u9' := cells_later hb6 _ _ g9
                            by_cases hsl2 : s < x.ts.length
                            · by_cases hle6 : n8 ≤ 5000
                              · obtain ⟨b8, off8, k0', k1', k2', k3', k4', k5', rfl, ⟨x0, x1, x2, x3⟩, hty⟩ := Tss.cells (Hts.out.keep TyP.keeping (.of_below (hb45.trans (hb6.mono hb45.size)))) s hsl2
                                have hbd2 := Ty.nodes_bd 5000 (by omega) x.ts[s]
                                have hr := nodes_any x.ts[s] wr 5000 _ hty (by omega) (by omega)
                                generalize x.ts[s].nodes 5000 = y2 at hr hbd2
                                have Hr := Lib.hid hr
                                clear hr hty
                                go_wp2_with fail
                                refine Hr.out.mono ?_
                                rintro e wy ⟨rfl, hby⟩
                                go_wp2_with fail
                                go_roundw
                                case rel => exact ⟨s + 1, n8 + y2, by omega, by go_num, rfl, by omega, by omega, hb6.trans (hby.mono hb6.size)⟩
                                case measure => simp [intOf]; omega
                              · have hle7 : 5000 < n8 := by omega
                                go_wp2_with fail
                                go_roundw
                                case rel => exact ⟨i + 1, n8, by omega, by go_num, rfl, by omega, by omega, hb4.trans ((hb45.trans (hb6.mono hb45.size)).mono hb4.size)⟩
                                case measure => simp [intOf]; omega
                            · have hsl3 : x.ts.length ≤ s := by omega
                              by_cases hle6 : n8 ≤ 5000
                              all_goals
                                go_wp2_with fail
                                go_roundw
                                case rel => exact ⟨i + 1, n8, by omega, by go_num, rfl, by omega, by omega, hb4.trans ((hb45.trans (hb6.mono hb45.size)).mono hb4.size)⟩
                                case measure => simp [intOf]; omega
                    · have hle5 : 5000 < n4 := by omega
                      go_wp2_with fail
                      go_roundw
                      case rel => exact ⟨j + 1, n4, by omega, by go_num, rfl, by omega, hp3, fun h => by omega, hb3.trans (hb4.mono hb3.size)⟩
                      case measure => simp [intOf]; omega
                  · have hil3 : q2.length ≤ i := by omega
                    by_cases hle4 : n4 ≤ 5000
                    all_goals
                      go_wp2_with fail
                      go_roundw
                      case rel => exact ⟨j + 1, n4, by omega, by go_num, rfl, by omega, hp3, fun h => by rw [HS2.out, Hst.out]; omega, hb3.trans (hb4.mono hb3.size)⟩
                      case measure => simp [intOf]; omega
              · have hle4 : 5000 < n3 := by omega
                go_wp2_with fail
                go_roundw
                case rel => exact ⟨k + 1, n3, by omega, by go_num, rfl, by omega, hm3, fun h => by omega, hbel.trans (((below1 w1 (.cells #[.string q.name, .slice ga q.generics.length gc, .slice ra q.reqs.length rc, .int .i64 q.params, .slice sa q.slots.length sc, .int .i64 r0, .string r1, .int .i64 r2, .slice r3 r4 r5, .int .i64 t0, .string t1, .int .i64 t2, .slice t3 t4 t5, .slice ba q.blocks.length bc] 40)).trans (hb23.mono (by omega))).mono (by have := hbel.size; simp at this; omega))⟩
                case measure => simp [intOf]; omega
            · have hjl3 : q.blocks.length ≤ j := by omega
              have he : q.blocks.take j = q.blocks := by rw [List.take_of_length_le hjl3]
              rw [he] at hmt
              generalize (q.blocks.map List.length).sum = S at *
              by_cases hle3 : n3 ≤ 5000
              all_goals
                go_wp2_with fail
                go_roundw
                case rel => exact ⟨k + 1, n3, by omega, by go_num, rfl, by omega, hm3, fun h => by (have := hmt h; have := Htk.out; rw [HT2.out]; omega), hbel.trans (((below1 w1 (.cells #[.string q.name, .slice ga q.generics.length gc, .slice ra q.reqs.length rc, .int .i64 q.params, .slice sa q.slots.length sc, .int .i64 r0, .string r1, .int .i64 r2, .slice r3 r4 r5, .int .i64 t0, .string t1, .int .i64 t2, .slice t3 t4 t5, .slice ba q.blocks.length bc] 40)).trans (hb23.mono (by omega))).mono (by have := hbel.size; simp at this; omega))⟩
                case measure => simp [intOf]; omega
      · have hle2 : 5000 < n := by omega
        go_wp2_with fail
        all_goals go_ret
        all_goals exact ⟨_, rfl, .inl (by omega), hB⟩
    · have hk3 : l.length ≤ k := by omega
      have he : l.take k = l := by rw [List.take_of_length_le hk3]
      rw [he] at hnt
      generalize hT : totL l = T at *
      by_cases hle : n ≤ 5000
      · have hnt2 := hnt hle
        clear hnt
        go_wp2_with fail
        all_goals go_ret
        all_goals exact ⟨_, rfl, .inr ⟨by omega, by rw [hT]; omega⟩, hB⟩
      · have hle2 : 5000 < n := by omega
        clear hnt
        go_wp2_with fail
        all_goals go_ret
        all_goals exact ⟨_, rfl, .inl (by omega), hB⟩
end Go.Proofs.YtfpbhmikogdpgaaGreatDoor
