/- The first code of a name: middle.Code and the reference's Place. -/
import Derived.Test.YtfpbhmikogdpgaaGreatDoorRows
import Derived.Test.YtfpbhmikogdpgaaGreatDoorMem
import Derived.Test.YtfpbhmikogdpgaaGreatDoorRets
import Derived.Lib.Hide
namespace Go.Proofs.YtfpbhmikogdpgaaGreatDoor
open Go.RowKit

/-- the fourteen cells of a code, by value -/
def CodIn (w : World) (x : Cod) (cs : Array Value) : Prop :=
  ∃ (ga : Option Addr) (gc : Nat) (ra : Option Addr) (rc : Nat) (sa : Option Addr) (sc : Nat) (ba : Option Addr) (bc : Nat) (r0 : Int) (r1 : ByteArray) (r2 : Int) (r3 : Option Addr) (r4 r5 : Nat) (t0 : Int) (t1 : ByteArray) (t2 : Int) (t3 : Option Addr) (t4 t5 : Nat),
    cs = #[.string x.name, .slice ga x.generics.length gc, .slice ra x.reqs.length rc, .int .i64 x.params, .slice sa x.slots.length sc, .int .i64 r0, .string r1, .int .i64 r2, .slice r3 r4 r5, .int .i64 t0, .string t1, .int .i64 t2, .slice t3 t4 t5, .slice ba x.blocks.length bc] ∧
    Sl 1 BlkP w x.blocks ba bc
theorem CodIn.under {w w' : World} (hb : Below w.heap.size w w') {x : Cod} {cs : Array Value} (h : CodIn w x cs) : CodIn w' x cs := by
  obtain ⟨ga, gc, ra, rc, sa, sc, ba, bc, r0, r1, r2, r3, r4, r5, t0, t1, t2, t3, t4, t5, e, h⟩ := h
  exact ⟨ga, gc, ra, rc, sa, sc, ba, bc, r0, r1, r2, r3, r4, r5, t0, t1, t2, t3, t4, t5, e, h.keep BlkP.keeping (.of_below hb)⟩

def nameIs (n : List UInt8) (c : Cod) : Bool := c.name.toList == n
def zeroTy : Ty := .mk 0 ⟨#[]⟩ 0 []
def zeroCod : Cod := ⟨⟨#[]⟩, [], [], 0, [], zeroTy, zeroTy, []⟩
def codeOf (n : List UInt8) (l : List Cod) : Cod := (l.find? (nameIs n)).getD zeroCod
def hasCode (n : List UInt8) (l : List Cod) : Bool := (l.find? (nameIs n)).isSome

def zeroCells : Array Value := #[.string ⟨#[]⟩, .slice none 0 0, .slice none 0 0, .int .i64 0, .slice none 0 0, .int .i64 0, .string ⟨#[]⟩, .int .i64 0, .slice none 0 0, .int .i64 0, .string ⟨#[]⟩, .int .i64 0, .slice none 0 0, .slice none 0 0]
theorem zero_in (w : World) : CodIn w zeroCod zeroCells :=
  ⟨none, 0, none, 0, none, 0, none, 0, 0, ⟨#[]⟩, 0, none, 0, 0, 0, ⟨#[]⟩, 0, none, 0, 0, rfl, ⟨by simp [zeroCod], 0, 0, fun _ _ => undef, by simp [zeroCod], by simp [zeroCod], by simp [zeroCod]⟩⟩

/-- fourteen cells of one block set one by one -/
theorem set14 (w1 : World) (B : Nat) (x0 x1 x2 x3 x4 x5 x6 x7 x8 x9 x10 x11 x12 x13 : Value) (hc : ∀ j, j < 14 → (w1.cell? ⟨B, j, none⟩).isSome = true) :
    ∃ W, W = (((((((((((((w1.setCell ⟨B, 0, none⟩ x0).setCell ⟨B, 1, none⟩ x1).setCell ⟨B, 2, none⟩ x2).setCell ⟨B, 3, none⟩ x3).setCell ⟨B, 4, none⟩ x4).setCell ⟨B, 5, none⟩ x5).setCell ⟨B, 6, none⟩ x6).setCell ⟨B, 7, none⟩ x7).setCell ⟨B, 8, none⟩ x8).setCell ⟨B, 9, none⟩ x9).setCell ⟨B, 10, none⟩ x10).setCell ⟨B, 11, none⟩ x11).setCell ⟨B, 12, none⟩ x12).setCell ⟨B, 13, none⟩ x13 ∧ (W.cell? ⟨B, 0, none⟩ = some x0 ∧ W.cell? ⟨B, 1, none⟩ = some x1 ∧ W.cell? ⟨B, 2, none⟩ = some x2 ∧ W.cell? ⟨B, 3, none⟩ = some x3 ∧ W.cell? ⟨B, 4, none⟩ = some x4 ∧ W.cell? ⟨B, 5, none⟩ = some x5 ∧ W.cell? ⟨B, 6, none⟩ = some x6 ∧ W.cell? ⟨B, 7, none⟩ = some x7 ∧ W.cell? ⟨B, 8, none⟩ = some x8 ∧ W.cell? ⟨B, 9, none⟩ = some x9 ∧ W.cell? ⟨B, 10, none⟩ = some x10 ∧ W.cell? ⟨B, 11, none⟩ = some x11 ∧ W.cell? ⟨B, 12, none⟩ = some x12 ∧ W.cell? ⟨B, 13, none⟩ = some x13) ∧ (∀ a, a.block ≠ B → W.cell? a = w1.cell? a) ∧ W.heap.size = w1.heap.size ∧ ∀ A w, A ≤ B → Below A w w1 → Below A w W := by
  refine ⟨w1.setCells B 0 [x0, x1, x2, x3, x4, x5, x6, x7, x8, x9, x10, x11, x12, x13], rfl, ?_, ?_, ?_, ?_⟩
  · have key := World.cell?_setCells_in B [x0, x1, x2, x3, x4, x5, x6, x7, x8, x9, x10, x11, x12, x13] 0 w1 (fun j hj => by rw [Nat.zero_add]; exact hc j hj)
    exact ⟨key 0 (by simp), key 1 (by simp), key 2 (by simp), key 3 (by simp), key 4 (by simp), key 5 (by simp), key 6 (by simp), key 7 (by simp), key 8 (by simp), key 9 (by simp), key 10 (by simp), key 11 (by simp), key 12 (by simp), key 13 (by simp)⟩
  · intro a ha
    exact World.cell?_setCells_out B _ 0 w1 a (fun h => absurd h ha)
  · simp [World.setCells, World.setCell]
  · intro A w hA hb
    exact (((((((((((((hb.setCell hA _).setCell hA _).setCell hA _).setCell hA _).setCell hA _).setCell hA _).setCell hA _).setCell hA _).setCell hA _).setCell hA _).setCell hA _).setCell hA _).setCell hA _).setCell hA _

def CodeSays (n : List UInt8) (l : List Cod) (w : World) (e : Ending) (w' : World) : Prop :=
  ∃ cs i, CodIn w' (codeOf n l) cs ∧ e = .returned (.tuple #[.agg cs, .int .i64 i, .bool (hasCode n l)]) ∧ Below w.heap.size w w'

set_option maxRecDepth 100000 in
set_option maxHeartbeats 2000000 in
theorem code_any (l : List Cod) (v0 v1 v2 : Value) (a : Option Addr) (cap : Nat) (n : ByteArray) (w : World) (hl : Cods w l a cap) :
    Calls Tryz.prog 14 #[.agg #[v0, v1, v2, .slice a l.length cap], .string n] w (CodeSays n.toList l w) := by
  have hcap := hl.1
  go_enter Tryz.func14, Tryz.ntmps14
  go_wp2_with fail
  go_loopw [12] (fun kk wr => ∃ k : Nat, k ≤ l.length ∧ kk = .int .i64 k ∧ l.find? (nameIs n.toList) = (l.drop k).find? (nameIs n.toList) ∧
      Below (w.heap.size + 1 + 1) ((w.alloc (.cells #[v0, v1, v2, .slice a l.length cap] 27)).alloc (.cells zeroCells 40)) wr) (fun kk _ => l.length - (intOf kk).toNat)
  case atStart => exact ⟨0, Nat.zero_le _, rfl, by rw [List.drop_zero], Below.refl _ _⟩
  case round =>
    obtain ⟨k, hk, rfl, hf, hbel⟩ := hrel
    obtain ⟨w1, rfl⟩ : ∃ w1 : World, w1 = wr := ⟨_, rfl⟩
    have hB : Below w.heap.size w w1 := (below2 w _ _).trans (hbel.mono (by omega))
    by_cases hlt : k < l.length
    · obtain ⟨b, off, ga, gc, ra, rc, sa, sc, ba, bc, r0, r1, r2, r3, r4, r5, t0, t1, t2, t3, t4, t5, rfl, ⟨c0, c1, c2, c3, c4, c5, c6, c7, c8, c9, c10, c11, c12, c13⟩, _, _, _, hbs, _⟩ := Cods.cellsAt (.of_below hB) hl k hlt
      rw [List.drop_eq_getElem_cons hlt, List.find?_cons] at hf
      by_cases hn : nameIs n.toList l[k] = true
      · rw [hn] at hf
        have z0 : w1.cell? ⟨w.heap.size + 1, 0, none⟩ = some (.string ⟨#[]⟩) := by rw [hbel.cell (by simp)]; exact new_cell _ _ _ _ _ (by simp)
        have z1 : w1.cell? ⟨w.heap.size + 1, 1, none⟩ = some (.slice none 0 0) := by rw [hbel.cell (by simp)]; exact new_cell _ _ _ _ _ (by simp)
        have z2 : w1.cell? ⟨w.heap.size + 1, 2, none⟩ = some (.slice none 0 0) := by rw [hbel.cell (by simp)]; exact new_cell _ _ _ _ _ (by simp)
        have z3 : w1.cell? ⟨w.heap.size + 1, 3, none⟩ = some (.int .i64 0) := by rw [hbel.cell (by simp)]; exact new_cell _ _ _ _ _ (by simp)
        have z4 : w1.cell? ⟨w.heap.size + 1, 4, none⟩ = some (.slice none 0 0) := by rw [hbel.cell (by simp)]; exact new_cell _ _ _ _ _ (by simp)
        have z5 : w1.cell? ⟨w.heap.size + 1, 5, none⟩ = some (.int .i64 0) := by rw [hbel.cell (by simp)]; exact new_cell _ _ _ _ _ (by simp)
        have z6 : w1.cell? ⟨w.heap.size + 1, 6, none⟩ = some (.string ⟨#[]⟩) := by rw [hbel.cell (by simp)]; exact new_cell _ _ _ _ _ (by simp)
        have z7 : w1.cell? ⟨w.heap.size + 1, 7, none⟩ = some (.int .i64 0) := by rw [hbel.cell (by simp)]; exact new_cell _ _ _ _ _ (by simp)
        have z8 : w1.cell? ⟨w.heap.size + 1, 8, none⟩ = some (.slice none 0 0) := by rw [hbel.cell (by simp)]; exact new_cell _ _ _ _ _ (by simp)
        have z9 : w1.cell? ⟨w.heap.size + 1, 9, none⟩ = some (.int .i64 0) := by rw [hbel.cell (by simp)]; exact new_cell _ _ _ _ _ (by simp)
        have z10 : w1.cell? ⟨w.heap.size + 1, 10, none⟩ = some (.string ⟨#[]⟩) := by rw [hbel.cell (by simp)]; exact new_cell _ _ _ _ _ (by simp)
        have z11 : w1.cell? ⟨w.heap.size + 1, 11, none⟩ = some (.int .i64 0) := by rw [hbel.cell (by simp)]; exact new_cell _ _ _ _ _ (by simp)
        have z12 : w1.cell? ⟨w.heap.size + 1, 12, none⟩ = some (.slice none 0 0) := by rw [hbel.cell (by simp)]; exact new_cell _ _ _ _ _ (by simp)
        have z13 : w1.cell? ⟨w.heap.size + 1, 13, none⟩ = some (.slice none 0 0) := by rw [hbel.cell (by simp)]; exact new_cell _ _ _ _ _ (by simp)
        have f0 : w1.frozen? ⟨w.heap.size + 1, 0, none⟩ = false := by rw [hbel.frozen (by simp)]; exact new_frozen _ _ _ _ _ (by simp)
        have f1 : w1.frozen? ⟨w.heap.size + 1, 1, none⟩ = false := by rw [hbel.frozen (by simp)]; exact new_frozen _ _ _ _ _ (by simp)
        have f2 : w1.frozen? ⟨w.heap.size + 1, 2, none⟩ = false := by rw [hbel.frozen (by simp)]; exact new_frozen _ _ _ _ _ (by simp)
        have f3 : w1.frozen? ⟨w.heap.size + 1, 3, none⟩ = false := by rw [hbel.frozen (by simp)]; exact new_frozen _ _ _ _ _ (by simp)
        have f4 : w1.frozen? ⟨w.heap.size + 1, 4, none⟩ = false := by rw [hbel.frozen (by simp)]; exact new_frozen _ _ _ _ _ (by simp)
        have f5 : w1.frozen? ⟨w.heap.size + 1, 5, none⟩ = false := by rw [hbel.frozen (by simp)]; exact new_frozen _ _ _ _ _ (by simp)
        have f6 : w1.frozen? ⟨w.heap.size + 1, 6, none⟩ = false := by rw [hbel.frozen (by simp)]; exact new_frozen _ _ _ _ _ (by simp)
        have f7 : w1.frozen? ⟨w.heap.size + 1, 7, none⟩ = false := by rw [hbel.frozen (by simp)]; exact new_frozen _ _ _ _ _ (by simp)
        have f8 : w1.frozen? ⟨w.heap.size + 1, 8, none⟩ = false := by rw [hbel.frozen (by simp)]; exact new_frozen _ _ _ _ _ (by simp)
        have f9 : w1.frozen? ⟨w.heap.size + 1, 9, none⟩ = false := by rw [hbel.frozen (by simp)]; exact new_frozen _ _ _ _ _ (by simp)
        have f10 : w1.frozen? ⟨w.heap.size + 1, 10, none⟩ = false := by rw [hbel.frozen (by simp)]; exact new_frozen _ _ _ _ _ (by simp)
        have f11 : w1.frozen? ⟨w.heap.size + 1, 11, none⟩ = false := by rw [hbel.frozen (by simp)]; exact new_frozen _ _ _ _ _ (by simp)
        have f12 : w1.frozen? ⟨w.heap.size + 1, 12, none⟩ = false := by rw [hbel.frozen (by simp)]; exact new_frozen _ _ _ _ _ (by simp)
        have f13 : w1.frozen? ⟨w.heap.size + 1, 13, none⟩ = false := by rw [hbel.frozen (by simp)]; exact new_frozen _ _ _ _ _ (by simp)
        have hz : w.heap.size + 1 < w1.heap.size := by have := hbel.size; simp at this; omega
        have hne : w.heap.size + 1 ≠ w1.heap.size := by omega
        have hn2 : (l[k].name.toList == n.toList) = true := hn
        have hf2 : codeOf n.toList l = l[k] ∧ hasCode n.toList l = true := by unfold codeOf hasCode; rw [hf]; exact ⟨rfl, rfl⟩
        have hbs2 := hbs
        rw [show (l.find? (nameIs n.toList)) = some l[k] from hf] at *
        clear hf
        have Hf2 := Lib.hid hf2
        have Hbs := Lib.hid hbs2
        clear hf2 hbs2 hbs hn
        generalize l[k] = q at *
        go_wp2_with fail
        obtain ⟨W, hW, ⟨g0, g1, g2, g3, g4, g5, g6, g7, g8, g9, g10, g11, g12, g13⟩, hfar, hsz, hbw⟩ := set14 w1 (w.heap.size + 1) (.string q.name) (.slice ga q.generics.length gc) (.slice ra q.reqs.length rc) (.int .i64 q.params) (.slice sa q.slots.length sc) (.int .i64 r0) (.string r1) (.int .i64 r2) (.slice r3 r4 r5) (.int .i64 t0) (.string t1) (.int .i64 t2) (.slice t3 t4 t5) (.slice ba q.blocks.length bc) (fun j hj => by
          rw [hbel.cell (by simp)]; rw [new_cell _ _ _ _ _ (by simp)]; simp [zeroCells]; omega)
        rw [← hW]
        have hz2 : w.heap.size + 1 < W.heap.size := by omega
        have hne2 : w.heap.size + 1 ≠ W.heap.size := by omega
        have hBW : Below w.heap.size w W := hbw _ _ (by omega) hB
        clear hW hfar
        refine bodyPost_ret (v := .tuple #[.agg #[.string q.name, .slice ga q.generics.length gc, .slice ra q.reqs.length rc, .int .i64 q.params, .slice sa q.slots.length sc, .int .i64 r0, .string r1, .int .i64 r2, .slice r3 r4 r5, .int .i64 t0, .string t1, .int .i64 t2, .slice t3 t4 t5, .slice ba q.blocks.length bc], .int .i64 k, .bool true]) (by simp [results, Tryz.results14, go_sem, *]) rfl ?_
        exact ⟨_, k, ⟨ga, gc, ra, rc, sa, sc, ba, bc, r0, r1, r2, r3, r4, r5, t0, t1, t2, t3, t4, t5, by rw [Hf2.out.1], by rw [Hf2.out.1]; exact Hbs.out.keep BlkP.keeping (.of_below (hBW.trans ((below1 W _).mono hBW.size)))⟩, by rw [Hf2.out.2], hBW.trans ((below1 W _).mono hBW.size)⟩
      · have hn3 : nameIs n.toList l[k] = false := by simpa using hn
        have hn2 : (l[k].name.toList == n.toList) = false := hn3
        rw [hn3] at hf
        have Hf := Lib.hid hf
        clear hf hn hn3 hbs
        generalize hq : l[k] = q at *
        clear hq
        go_wp2_with fail
        go_roundw
        case rel => exact ⟨k + 1, by omega, by go_num, Hf.out, hbel.trans ((below1 w1 _).mono (by have := hbel.size; simp at this; omega))⟩
        case measure => simp [intOf]; omega
    · have hk3 : l.length ≤ k := by omega
      rw [List.drop_eq_nil_of_le hk3] at hf
      have hf2 : codeOf n.toList l = zeroCod ∧ hasCode n.toList l = false := by unfold codeOf hasCode; rw [hf]; exact ⟨rfl, rfl⟩
      have Hf2 := Lib.hid hf2
      clear hf hf2
      have z0 : w1.cell? ⟨w.heap.size + 1, 0, none⟩ = some (.string ⟨#[]⟩) := by rw [hbel.cell (by simp)]; exact new_cell _ _ _ _ _ (by simp)
      have z1 : w1.cell? ⟨w.heap.size + 1, 1, none⟩ = some (.slice none 0 0) := by rw [hbel.cell (by simp)]; exact new_cell _ _ _ _ _ (by simp)
      have z2 : w1.cell? ⟨w.heap.size + 1, 2, none⟩ = some (.slice none 0 0) := by rw [hbel.cell (by simp)]; exact new_cell _ _ _ _ _ (by simp)
      have z3 : w1.cell? ⟨w.heap.size + 1, 3, none⟩ = some (.int .i64 0) := by rw [hbel.cell (by simp)]; exact new_cell _ _ _ _ _ (by simp)
      have z4 : w1.cell? ⟨w.heap.size + 1, 4, none⟩ = some (.slice none 0 0) := by rw [hbel.cell (by simp)]; exact new_cell _ _ _ _ _ (by simp)
      have z5 : w1.cell? ⟨w.heap.size + 1, 5, none⟩ = some (.int .i64 0) := by rw [hbel.cell (by simp)]; exact new_cell _ _ _ _ _ (by simp)
      have z6 : w1.cell? ⟨w.heap.size + 1, 6, none⟩ = some (.string ⟨#[]⟩) := by rw [hbel.cell (by simp)]; exact new_cell _ _ _ _ _ (by simp)
      have z7 : w1.cell? ⟨w.heap.size + 1, 7, none⟩ = some (.int .i64 0) := by rw [hbel.cell (by simp)]; exact new_cell _ _ _ _ _ (by simp)
      have z8 : w1.cell? ⟨w.heap.size + 1, 8, none⟩ = some (.slice none 0 0) := by rw [hbel.cell (by simp)]; exact new_cell _ _ _ _ _ (by simp)
      have z9 : w1.cell? ⟨w.heap.size + 1, 9, none⟩ = some (.int .i64 0) := by rw [hbel.cell (by simp)]; exact new_cell _ _ _ _ _ (by simp)
      have z10 : w1.cell? ⟨w.heap.size + 1, 10, none⟩ = some (.string ⟨#[]⟩) := by rw [hbel.cell (by simp)]; exact new_cell _ _ _ _ _ (by simp)
      have z11 : w1.cell? ⟨w.heap.size + 1, 11, none⟩ = some (.int .i64 0) := by rw [hbel.cell (by simp)]; exact new_cell _ _ _ _ _ (by simp)
      have z12 : w1.cell? ⟨w.heap.size + 1, 12, none⟩ = some (.slice none 0 0) := by rw [hbel.cell (by simp)]; exact new_cell _ _ _ _ _ (by simp)
      have z13 : w1.cell? ⟨w.heap.size + 1, 13, none⟩ = some (.slice none 0 0) := by rw [hbel.cell (by simp)]; exact new_cell _ _ _ _ _ (by simp)
      have f0 : w1.frozen? ⟨w.heap.size + 1, 0, none⟩ = false := by rw [hbel.frozen (by simp)]; exact new_frozen _ _ _ _ _ (by simp)
      have f1 : w1.frozen? ⟨w.heap.size + 1, 1, none⟩ = false := by rw [hbel.frozen (by simp)]; exact new_frozen _ _ _ _ _ (by simp)
      have f2 : w1.frozen? ⟨w.heap.size + 1, 2, none⟩ = false := by rw [hbel.frozen (by simp)]; exact new_frozen _ _ _ _ _ (by simp)
      have f3 : w1.frozen? ⟨w.heap.size + 1, 3, none⟩ = false := by rw [hbel.frozen (by simp)]; exact new_frozen _ _ _ _ _ (by simp)
      have f4 : w1.frozen? ⟨w.heap.size + 1, 4, none⟩ = false := by rw [hbel.frozen (by simp)]; exact new_frozen _ _ _ _ _ (by simp)
      have f5 : w1.frozen? ⟨w.heap.size + 1, 5, none⟩ = false := by rw [hbel.frozen (by simp)]; exact new_frozen _ _ _ _ _ (by simp)
      have f6 : w1.frozen? ⟨w.heap.size + 1, 6, none⟩ = false := by rw [hbel.frozen (by simp)]; exact new_frozen _ _ _ _ _ (by simp)
      have f7 : w1.frozen? ⟨w.heap.size + 1, 7, none⟩ = false := by rw [hbel.frozen (by simp)]; exact new_frozen _ _ _ _ _ (by simp)
      have f8 : w1.frozen? ⟨w.heap.size + 1, 8, none⟩ = false := by rw [hbel.frozen (by simp)]; exact new_frozen _ _ _ _ _ (by simp)
      have f9 : w1.frozen? ⟨w.heap.size + 1, 9, none⟩ = false := by rw [hbel.frozen (by simp)]; exact new_frozen _ _ _ _ _ (by simp)
      have f10 : w1.frozen? ⟨w.heap.size + 1, 10, none⟩ = false := by rw [hbel.frozen (by simp)]; exact new_frozen _ _ _ _ _ (by simp)
      have f11 : w1.frozen? ⟨w.heap.size + 1, 11, none⟩ = false := by rw [hbel.frozen (by simp)]; exact new_frozen _ _ _ _ _ (by simp)
      have f12 : w1.frozen? ⟨w.heap.size + 1, 12, none⟩ = false := by rw [hbel.frozen (by simp)]; exact new_frozen _ _ _ _ _ (by simp)
      have f13 : w1.frozen? ⟨w.heap.size + 1, 13, none⟩ = false := by rw [hbel.frozen (by simp)]; exact new_frozen _ _ _ _ _ (by simp)
      go_wp2_with fail
      obtain ⟨W, hW, ⟨g0, g1, g2, g3, g4, g5, g6, g7, g8, g9, g10, g11, g12, g13⟩, hfar, hsz, hbw⟩ := set14 w1 (w.heap.size + 1) (.string ⟨#[]⟩) (.slice none 0 0) (.slice none 0 0) (.int .i64 0) (.slice none 0 0) (.int .i64 0) (.string ⟨#[]⟩) (.int .i64 0) (.slice none 0 0) (.int .i64 0) (.string ⟨#[]⟩) (.int .i64 0) (.slice none 0 0) (.slice none 0 0) (fun j hj => by
          rw [hbel.cell (by simp)]; rw [new_cell _ _ _ _ _ (by simp)]; simp [zeroCells]; omega)
      rw [← hW]
      have hBW : Below w.heap.size w W := hbw _ _ (by omega) hB
      clear hW hfar
      refine bodyPost_ret (v := .tuple #[.agg zeroCells, .int .i64 0, .bool false]) (by simp [results, Tryz.results14, go_sem, zeroCells, *]) rfl ?_
      exact ⟨_, 0, by rw [Hf2.out.1]; exact zero_in _, by rw [Hf2.out.2], hBW⟩
def PlaceSays (n : List UInt8) (l : List Cod) (w : World) (e : Ending) (w' : World) : Prop :=
  ((∃ (k : Nat) (h : k < l.length), e = .returned (.int .i64 k) ∧ codeOf n l = l[k] ∧ hasCode n l = true) ∨ (e = .returned (.int .i64 (-1)) ∧ codeOf n l = zeroCod ∧ hasCode n l = false)) ∧ Below w.heap.size w w'

set_option maxRecDepth 100000 in
set_option maxHeartbeats 2000000 in
theorem place_any (l : List Cod) (v0 v1 v2 : Value) (a : Option Addr) (cap : Nat) (n : ByteArray) (w : World) (hl : Cods w l a cap) :
    Calls Tryz.prog 17 #[.agg #[v0, v1, v2, .slice a l.length cap], .string n] w (PlaceSays n.toList l w) := by
  have hcap := hl.1
  have hl1 := hl.under (below1 w (.cells #[v0, v1, v2, .slice a l.length cap] 27))
  go_enter Tryz.func17, Tryz.ntmps17
  go_wp2_with fail
  go_loop [5] (fun kk => ∃ k : Nat, k ≤ l.length ∧ kk = .int .i64 k ∧ l.find? (nameIs n.toList) = (l.drop k).find? (nameIs n.toList)) (fun kk => l.length - (intOf kk).toNat)
  case atStart => exact ⟨0, Nat.zero_le _, rfl, by rw [List.drop_zero]⟩
  case round =>
    obtain ⟨k, hk, rfl, hf⟩ := hrel
    by_cases hlt : k < l.length
    · obtain ⟨b, off, ga, gc, ra, rc, sa, sc, ba, bc, r0, r1, r2, r3, r4, r5, t0, t1, t2, t3, t4, t5, rfl, ⟨c0, _, _, _, _, _, _, _, _, _, _, _, _, _⟩, _⟩ := Cods.cells hl1 k hlt
      rw [List.drop_eq_getElem_cons hlt, List.find?_cons] at hf
      by_cases hn : nameIs n.toList l[k] = true
      · rw [hn] at hf
        have hn2 : (l[k].name.toList == n.toList) = true := hn
        have hf2 : codeOf n.toList l = l[k] ∧ hasCode n.toList l = true := by unfold codeOf hasCode; rw [hf]; exact ⟨rfl, rfl⟩
        have Hf2 := Lib.hid hf2
        clear hf hf2 hn
        go_wp2_with fail
        go_ret
        exact ⟨.inl ⟨k, hlt, rfl, Hf2.out⟩, below1 w _⟩
      · have hn3 : nameIs n.toList l[k] = false := by simpa using hn
        have hn2 : (l[k].name.toList == n.toList) = false := hn3
        rw [hn3] at hf
        have Hf := Lib.hid hf
        clear hf hn hn3
        go_wp2_with fail
        go_round
        case rel => exact ⟨k + 1, by omega, by go_num, Hf.out⟩
        case measure => simp [intOf]; omega
    · have hk3 : l.length ≤ k := by omega
      rw [List.drop_eq_nil_of_le hk3] at hf
      have hf2 : codeOf n.toList l = zeroCod ∧ hasCode n.toList l = false := by unfold codeOf hasCode; rw [hf]; exact ⟨rfl, rfl⟩
      have Hf2 := Lib.hid hf2
      clear hf hf2
      go_wp2_with fail
      go_ret
      exact ⟨.inr ⟨rfl, Hf2.out⟩, below1 w _⟩

end Go.Proofs.YtfpbhmikogdpgaaGreatDoor
