/- lower.built at the module of one empty function. -/
import Derived.Test.YtfpbhmikogdpgaaGreatDoorAwH
import Derived.Deep.MidRow
namespace Go.Proofs.YtfpbhmikogdpgaaGreatDoor
open Go.RowKit

def codeR (gs csz g cap : Nat) : Array Value := #[.string { data := #[102, 47, 48] }, .slice none 0 0, .slice none 0 0, .int .i64 0, .slice (some ⟨gs, 0, none⟩) 1 csz, .int .i64 4, .string { data := #[] }, .int .i64 0, .slice none 0 0, .int .i64 0, .string { data := #[] }, .int .i64 0, .slice none 0 0, .slice (some ⟨g, 0, none⟩) 1 cap]

def BuiltSays (w : World) (e : Ending) (w' : World) : Prop := ∃ gs csz g cap, e = .returned (.tuple #[.agg (codeR gs csz g cap), .int .i64 0]) ∧ Below w.heap.size w w'

/-- the builder's cells at the start -/
def bCells (fb mb : Nat) : Array Value := #[.slice none 0 0, .slice none 0 0, .slice none 0 0, .slice (some ⟨fb, 0, none⟩) 1 1, .slice none 0 0, .slice none 0 0, .string { data := #[102, 47, 48] }, .slice none 0 0, .slice none 0 0, .int .i64 0, .slice none 0 0, .int .i64 4, .string { data := #[] }, .int .i64 0, .slice none 0 0, .int .i64 0, .string { data := #[] }, .int .i64 0, .slice none 0 0, .slice none 0 0, .int .i64 0, .slice none 0 0, .map (some mb), .slice none 0 0, .slice none 0 0, .map none, .map none]
def bA (fb mb : Nat) (j : Nat) : Value := (bCells fb mb)[j]?.getD undef

theorem getElem?_some_getD (A : Array Value) (j : Nat) (h : j < A.size) : A[j]? = some (A[j]?.getD undef) := by simp [h]
theorem below_setCells (b : Nat) : ∀ (vs : List Value) (o : Nat) (w : World) (B : Nat), B ≤ b → Below B w (w.setCells b o vs)
  | [], _, w, B, _ => Below.refl _ _
  | v :: vs, o, w, B, h => (below_set B w ⟨b, o, none⟩ v h).trans (below_setCells b vs (o + 1) _ B h)

/-- the last steps' facts: what the builder's block holds at the end -/
theorem code_range {fb mb g gs cs cap f capf : Nat} {bb : Nat} {w : World} (h : BAt bb (upd (upd (upd (upd (upd (bA fb mb) 19 (.slice (some ⟨g, 0, none⟩) 1 cap)) 20 (.int .i64 0)) 10 (.slice (some ⟨gs, 0, none⟩) 1 cs)) 21 (.slice (some ⟨f, 0, none⟩) 1 capf)) 20 (.int .i64 (-1))) w) :
    World.rangeAt w bb 6 (codeR gs cs g cap).toList := by
  intro j v hj
  have hj2 : (codeR gs cs g cap)[j]? = some v := by simpa using hj
  have hjl : j < 14 := by obtain ⟨h, _⟩ := Array.getElem?_eq_some_iff.1 hj2; simpa [codeR] using h
  rw [h.c (6 + j) (by omega) (by omega), ← hj2]
  match j, hjl with
  | 0, _ => rfl
  | 1, _ => rfl
  | 2, _ => rfl
  | 3, _ => rfl
  | 4, _ => rfl
  | 5, _ => rfl
  | 6, _ => rfl
  | 7, _ => rfl
  | 8, _ => rfl
  | 9, _ => rfl
  | 10, _ => rfl
  | 11, _ => rfl
  | 12, _ => rfl
  | 13, _ => rfl

set_option maxRecDepth 100000 in
set_option maxHeartbeats 8000000 in
theorem built_unit (fb : Nat) (w : World) : Calls Tryz.prog 45 #[.agg (modC fb), .agg funcC] w (BuiltSays w) := by
  have hmm := @run_makeMap Tryz.prog
  unfold modC funcC
  go_enter Tryz.func45, Tryz.ntmps45
  go_upto_region 3 with fail
  obtain ⟨W, hW⟩ : ∃ W, W = ((((w.alloc (.cells #[.slice none 0 0, .slice none 0 0, .slice none 0 0, .slice (some ⟨fb, 0, none⟩) 1 1] 66)).alloc (.cells #[.string { data := #[102, 47, 48] }, .slice none 0 0, .slice none 0 0, .slice none 0 0, .int .i64 4, .string { data := #[] }, .int .i64 0, .slice none 0 0, .int .i64 0, .string { data := #[] }, .int .i64 0, .slice none 0 0, .int .i64 20, .string { data := #[] }, .int .i64 0, .int .i64 0, .string { data := #[] }, .int .i64 0, .slice none 0 0, .slice none 0 0, .slice none 0 0, .int .i64 0] 63)).alloc (.cells #[.string { data := #[] }, .slice none 0 0, .slice none 0 0, .int .i64 0, .slice none 0 0, .int .i64 0, .string { data := #[] }, .int .i64 0, .slice none 0 0, .int .i64 0, .string { data := #[] }, .int .i64 0, .slice none 0 0, .slice none 0 0] 40)).alloc (.map #[] 0)).alloc (.cells #[.slice none 0 0, .slice none 0 0, .slice none 0 0, .slice (some ⟨fb, 0, none⟩) 1 1, .slice none 0 0, .slice none 0 0, .string { data := #[102, 47, 48] }, .slice none 0 0, .slice none 0 0, .int .i64 0, .slice none 0 0, .int .i64 4, .string { data := #[] }, .int .i64 0, .slice none 0 0, .int .i64 0, .string { data := #[] }, .int .i64 0, .slice none 0 0, .slice none 0 0, .int .i64 0, .slice none 0 0, .map (some (w.heap.size + 1 + 1 + 1)), .slice none 0 0, .slice none 0 0, .map none, .map none] 139) := ⟨_, rfl⟩
  rw [← hW]
  obtain ⟨bb, hbb⟩ : ∃ bb, bb = w.heap.size + 1 + 1 + 1 + 1 := ⟨_, rfl⟩
  have hB : Below w.heap.size w W := by
    rw [hW]; exact ((((below1 w _).alloc (by simp) _).alloc (by simp; omega) _).alloc (by simp; omega) _).alloc (by simp; omega) _
  have hsz : W.heap.size = w.heap.size + 5 := by rw [hW]; simp
  have hk : BAt bb (bA fb (w.heap.size + 1 + 1 + 1)) W := by
    rw [hW]
    refine ⟨fun j h1 h2 => ?_, fun j => new_frozen _ _ _ _ _ (by rw [hbb]; simp)⟩
    rw [new_cell _ _ _ _ _ (by rw [hbb]; simp)]
    unfold bA bCells
    exact getElem?_some_getD _ j (show j < 27 by omega)
  have h25 : ∃ v, W.cell? ⟨bb, 25, none⟩ = some v := ⟨_, by rw [hW, new_cell _ _ _ _ _ (by rw [hbb]; simp)]; rfl⟩
  have h26 : ∃ v, W.cell? ⟨bb, 26, none⟩ = some v := ⟨_, by rw [hW, new_cell _ _ _ _ _ (by rw [hbb]; simp)]; rfl⟩
  have hm : W.heap[w.heap.size + 1 + 1 + 1]? = some (.map #[] 0) := by
    rw [hW, (MapKept.heap_alloc _ _).2 _ (by simp)]
    have := heap_alloc_new (((w.alloc (.cells #[.slice none 0 0, .slice none 0 0, .slice none 0 0, .slice (some ⟨fb, 0, none⟩) 1 1] 66)).alloc (.cells #[.string { data := #[102, 47, 48] }, .slice none 0 0, .slice none 0 0, .slice none 0 0, .int .i64 4, .string { data := #[] }, .int .i64 0, .slice none 0 0, .int .i64 0, .string { data := #[] }, .int .i64 0, .slice none 0 0, .int .i64 20, .string { data := #[] }, .int .i64 0, .int .i64 0, .string { data := #[] }, .int .i64 0, .slice none 0 0, .slice none 0 0, .slice none 0 0, .int .i64 0] 63)).alloc (.cells #[.string { data := #[] }, .slice none 0 0, .slice none 0 0, .int .i64 0, .slice none 0 0, .int .i64 0, .string { data := #[] }, .int .i64 0, .slice none 0 0, .int .i64 0, .string { data := #[] }, .int .i64 0, .slice none 0 0, .slice none 0 0] 40)) (.map #[] 0)
    simpa using this
  have hp : W.cell? ⟨w.heap.size + 1, 3, none⟩ = some (.slice none 0 0) := by
    rw [hW]; exact old_cell (old_cell (old_cell (new_cell _ _ _ _ _ (by simp)) _) _) _
  have hnode : World.rangeAt W (w.heap.size + 1) 12 [.int .i64 20, .string { data := #[] }, .int .i64 0, .int .i64 0, .string { data := #[] }, .int .i64 0, .slice none 0 0, .slice none 0 0, .slice none 0 0, .int .i64 0] := node_range fun j hj => by
    rw [hW]; exact old_cell (old_cell (old_cell (func_new (w.alloc _) _ (by simp) j hj) _) _) _
  have hres : World.there W (w.heap.size + 1 + 1) 0 14 := fun j hj => by
    have h1 : W.cell? ⟨w.heap.size + 1 + 1, 0 + j, none⟩ = some ((#[.string { data := #[] }, .slice none 0 0, .slice none 0 0, .int .i64 0, .slice none 0 0, .int .i64 0, .string { data := #[] }, .int .i64 0, .slice none 0 0, .int .i64 0, .string { data := #[] }, .int .i64 0, .slice none 0 0, .slice none 0 0] : Array Value)[j]?.getD undef) := by
      rw [hW, Nat.zero_add]; exact old_cell (old_cell ((new_cell _ _ _ _ _ (by simp)).trans (getElem?_some_getD #[.string { data := #[] }, .slice none 0 0, .slice none 0 0, .int .i64 0, .slice none 0 0, .int .i64 0, .string { data := #[] }, .int .i64 0, .slice none 0 0, .int .i64 0, .string { data := #[] }, .int .i64 0, .slice none 0 0, .slice none 0 0] j hj)) _) _
    refine ⟨by rw [h1]; rfl, ?_⟩
    rw [hW, (below1 _ _).frozen (by simp), (below1 _ _).frozen (by simp)]; exact new_frozen _ _ _ _ _ (by simp)
  clear hW
  rw [← hbb]
  have hbl : w.heap.size + 1 + 1 + 1 < bb := by omega
  have hbW : bb < W.heap.size := by omega
  have hwb : w.heap.size < bb := by omega
  clear hsz hbb
  have hem := emitters_unit bb W h25 h26 (hk.f 25) (hk.f 26)
  have Hem := Lib.hid hem
  have Hk := Lib.hid hk
  have Hm := Lib.hid hm
  have Hnode := Lib.hid hnode
  have Hres := Lib.hid hres
  clear hem hk hm hnode hres h25 h26 hmm
  go_wp2_with fail
  refine Hem.out.mono ?_
  rintro e w1 ⟨rfl, hK1, hC1, hF1⟩
  have hk1 : BAt bb (bA fb (w.heap.size + 1 + 1 + 1)) w1 := ⟨fun j h1 h2 => by rw [hC1 j h2]; exact Hk.out.c j h1 h2, fun j => by rw [hF1]; exact Hk.out.f j⟩
  have hB1 : Below bb W w1 := hK1.below (by omega) (fun k hk => by omega)
  have hp1 : w1.cell? ⟨w.heap.size + 1, 3, none⟩ = some (.slice none 0 0) := by rw [hB1.cell (by dsimp only; omega)]; exact hp
  have Hk1 := Lib.hid hk1
  clear hK1 hC1 hF1 hk1 hp
  go_wp2_with fail
  go_loop [44] (fun ii => ii = .int .i64 0) (fun _ => 0)
  case atStart => rfl
  case round =>
    subst hrel
    have hbk := bblock_any bb _ w1 Hk1.out rfl
    unfold BlockSays at hbk
    have Hbk := Lib.hid hbk
    clear hbk
    go_wp2_with fail
    refine Hbk.out.mono ?_
    rintro e w2 ⟨rfl, g, cap, hk2, hg2, hcap2, hcg2, hzg2, hB2⟩
    have c20 := hk2.c 20 (by omega) (by omega)
    have f20 := hk2.f 20
    have hk3 := hk2.set 20 (by omega) (by omega) (.int .i64 0)
    have hbg : bb < g := by have := Hk1.out.lt; omega
    have hlt2 := hk2.lt
    have hgl2 : g < w2.heap.size := by have := lt_of_cell hcg2; simpa using this
    have hcg3 : (w2.setCell ⟨bb, 20, none⟩ (.int .i64 0)).cell? ⟨g, 0, none⟩ = some (.slice none 0 0) := cell_set_other hcg2 (by show g ≠ bb; omega) _
    have hzg3 : (w2.setCell ⟨bb, 20, none⟩ (.int .i64 0)).frozen? ⟨g, 0, none⟩ = false := frozen_set hzg2 _
    have hB3 : Below bb W (w2.setCell ⟨bb, 20, none⟩ (.int .i64 0)) := (hB1.trans hB2).trans (below_set bb w2 ⟨bb, 20, none⟩ _ (Nat.le_refl _))
    have hz3 : (w2.setCell ⟨bb, 20, none⟩ (.int .i64 0)).heap.size = w2.heap.size := size_set _ _ _
    have Hk3 := Lib.hid hk3
    have Hcg3 := Lib.hid hcg3
    have Hzg3 := Lib.hid hzg3
    have HB3 := Lib.hid hB3
    have Hz3 := Lib.hid hz3
    clear hk2 hk3 hcg3 hzg3 hB3 hz3 hcg2 hzg2 hp1
    go_upto_region 15 with fail
    generalize (w2.setCell ⟨bb, 20, none⟩ (.int .i64 0)) = w3 at Hk3 Hcg3 Hzg3 HB3 Hz3 ⊢
    have hB3 := HB3.out
    have hbl3 : bb < w3.heap.size := Hk3.out.lt
    have hnode3 : World.rangeAt w3 (w.heap.size + 1) 12 [.int .i64 20, .string { data := #[] }, .int .i64 0, .int .i64 0, .string { data := #[] }, .int .i64 0, .slice none 0 0, .slice none 0 0, .slice none 0 0, .int .i64 0] := fun j v hj => by rw [hB3.cell (by dsimp only; omega)]; exact Hnode.out j v hj
    have hm3 : w3.heap[w.heap.size + 1 + 1 + 1]? = some (.map #[] 0) := by rw [hB3.block _ (by omega)]; exact Hm.out
    have hsc := scope_nil bb (w.heap.size + 1 + 1 + 1) _ w3 Hk3.out rfl rfl rfl hm3 (by omega)
    unfold nodeC at hsc
    have Hsc := Lib.hid hsc
    have Hnode3 := Lib.hid hnode3
    clear hsc hnode3 hm3 c20
    go_wp2_with (with_reducible refine wpList_load_mid rfl 60 _ rfl (w.heap.size + 1) 12 rfl [.int .i64 20, .string { data := #[] }, .int .i64 0, .int .i64 0, .string { data := #[] }, .int .i64 0, .slice none 0 0, .slice none 0 0, .slice none 0 0, .int .i64 0] _ Hnode3.out Tryz.underlying60 rfl (by kernel_rfl) ?_)
    refine Hsc.out.mono ?_
    rintro e w4 ⟨rfl, hk4, hK4⟩
    have hcg4 := hK4.cell (p := ⟨g, 0, none⟩) (by show ¬ g = bb; omega) Hcg3.out
    have hzg4 : w4.frozen? ⟨g, 0, none⟩ = false := by rw [hK4.frozen (by show ¬ g = bb; omega) (by show g < w3.heap.size; rw [Hz3.out]; exact hgl2)]; exact Hzg3.out
    have hB4 : Below bb W w4 := hB3.trans (hK4.below (by omega) (fun k hk => by omega))
    have c20 : w4.cell? ⟨bb, 20, none⟩ = some (.int .i64 0) := hk4.c 20 (by omega) (by omega)
    have hun := unit_any bb g cap _ w4 hk4 rfl rfl rfl rfl hbg hcg4 hzg4
    unfold UnitSays at hun
    have Hun := Lib.hid hun
    clear hun hk4 hK4 hcg4 hzg4 hB3 Hk3 Hcg3 Hzg3
    go_wp2_with fail
    refine Hun.out.mono ?_
    rintro e w5 ⟨rfl, f, gs, cs, capf, v5, xs5, hE5, ho5, hq5, hB5⟩
    have hle := leave_any bb g f _ w5 v5 xs5 hE5 rfl ho5 hq5
    unfold LeaveSays at hle
    have Hle := Lib.hid hle
    clear hle hE5 ho5 hq5 c20
    go_wp2_with fail
    refine Hle.out.mono ?_
    rintro e w6 ⟨rfl, v6, xs6, hk6, hcg6, ho6, hB6⟩
    have hB06 : Below bb W w6 := (hB4.trans hB5).trans hB6
    have hrange : World.rangeAt w6 bb 6 [.string { data := #[102, 47, 48] }, .slice none 0 0, .slice none 0 0, .int .i64 0, .slice (some ⟨gs, 0, none⟩) 1 cs, .int .i64 4, .string { data := #[] }, .int .i64 0, .slice none 0 0, .int .i64 0, .string { data := #[] }, .int .i64 0, .slice none 0 0, .slice (some ⟨g, 0, none⟩) 1 cap] := code_range hk6
    have hres6 : World.there w6 (w.heap.size + 1 + 1) 0 14 := fun j hj => by
      have := Hres.out j hj
      rw [hB06.cell (by dsimp only; omega), hB06.frozen (by dsimp only; omega)]; exact this
    have c19 : w6.cell? ⟨bb, 19, none⟩ = some (.slice (some ⟨g, 0, none⟩) 1 cap) := hk6.c 19 (by omega) (by omega)
    have c10 : w6.cell? ⟨bb, 10, none⟩ = some (.slice (some ⟨gs, 0, none⟩) 1 cs) := hk6.c 10 (by omega) (by omega)
    have c9 : w6.cell? ⟨bb, 9, none⟩ = some (.int .i64 0) := hk6.c 9 (by omega) (by omega)
    have Hrange := Lib.hid hrange
    have Hres6 := Lib.hid hres6
    obtain ⟨p6, q6, rfl⟩ := own_slice ho6
    clear hrange hres6 hk6 ho6 hB4 hB5 hB6
    go_wp2_with fail
    go_loopw [10, 115] (fun nn ii wr => wr = w6 ∧ ((nn = .int .i64 0 ∧ ii = .int .i64 0) ∨ (nn = .int .i64 2 ∧ ii = .int .i64 1))) (fun _ ii _ => 1 - (intOf ii).toNat)
    case atStart => exact ⟨rfl, .inl ⟨rfl, rfl⟩⟩
    case round =>
      obtain ⟨rfl, hrel⟩ := hrel
      rcases hrel with ⟨rfl, rfl⟩ | ⟨rfl, rfl⟩
      · go_wp2_with fail
        go_roundw
        case rel => exact ⟨by first | rfl | trivial, .inr ⟨by first | rfl | trivial, by first | rfl | trivial⟩⟩
        case measure => simp [intOf]
      · go_upto_region 26 with fail
        go_wp2_with (first
          | (with_reducible refine wpList_load_mid rfl 40 _ rfl bb 6 rfl [.string { data := #[102, 47, 48] }, .slice none 0 0, .slice none 0 0, .int .i64 0, .slice (some ⟨gs, 0, none⟩) 1 cs, .int .i64 4, .string { data := #[] }, .int .i64 0, .slice none 0 0, .int .i64 0, .string { data := #[] }, .int .i64 0, .slice none 0 0, .slice (some ⟨g, 0, none⟩) 1 cap] _ Hrange.out Tryz.underlying40 rfl (by kernel_rfl) ?_)
          | (with_reducible refine wpList_store_mid rfl 40 _ _ rfl (w.heap.size + 1 + 1) 0 #[.string { data := #[102, 47, 48] }, .slice none 0 0, .slice none 0 0, .int .i64 0, .slice (some ⟨gs, 0, none⟩) 1 cs, .int .i64 4, .string { data := #[] }, .int .i64 0, .slice none 0 0, .int .i64 0, .string { data := #[] }, .int .i64 0, .slice none 0 0, .slice (some ⟨g, 0, none⟩) 1 cap] rfl rfl ?e4 (by kernel_rfl) ?e5 ?_))
        case e4 => exact Hres6.out
        case e5 => simp [Value.oneCell']
        have hr7 := World.rangeAt_setCells_same wr (w.heap.size + 1 + 1) 0 #[.string { data := #[102, 47, 48] }, .slice none 0 0, .slice none 0 0, .int .i64 0, .slice (some ⟨gs, 0, none⟩) 1 cs, .int .i64 4, .string { data := #[] }, .int .i64 0, .slice none 0 0, .int .i64 0, .string { data := #[] }, .int .i64 0, .slice none 0 0, .slice (some ⟨g, 0, none⟩) 1 cap].toList Hres6.out
        have hB7 : Below w.heap.size w (wr.setCells (w.heap.size + 1 + 1) 0 #[.string { data := #[102, 47, 48] }, .slice none 0 0, .slice none 0 0, .int .i64 0, .slice (some ⟨gs, 0, none⟩) 1 cs, .int .i64 4, .string { data := #[] }, .int .i64 0, .slice none 0 0, .int .i64 0, .string { data := #[] }, .int .i64 0, .slice none 0 0, .slice (some ⟨g, 0, none⟩) 1 cap].toList) := (hB.trans (hB06.mono (by omega))).trans (below_setCells _ _ _ _ _ (by omega))
        generalize (wr.setCells (w.heap.size + 1 + 1) 0 #[.string { data := #[102, 47, 48] }, .slice none 0 0, .slice none 0 0, .int .i64 0, .slice (some ⟨gs, 0, none⟩) 1 cs, .int .i64 4, .string { data := #[] }, .int .i64 0, .slice none 0 0, .int .i64 0, .string { data := #[] }, .int .i64 0, .slice none 0 0, .slice (some ⟨g, 0, none⟩) 1 cap].toList) = W7 at hr7 hB7 ⊢
        have x0 := hr7 0 _ rfl
        have x1 := hr7 1 _ rfl
        have x2 := hr7 2 _ rfl
        have x3 := hr7 3 _ rfl
        have x4 := hr7 4 _ rfl
        have x5 := hr7 5 _ rfl
        have x6 := hr7 6 _ rfl
        have x7 := hr7 7 _ rfl
        have x8 := hr7 8 _ rfl
        have x9 := hr7 9 _ rfl
        have x10 := hr7 10 _ rfl
        have x11 := hr7 11 _ rfl
        have x12 := hr7 12 _ rfl
        have x13 := hr7 13 _ rfl
        simp only [Nat.zero_add] at x0 x1 x2 x3 x4 x5 x6 x7 x8 x9 x10 x11 x12 x13
        clear hr7
        refine bodyPost_ret (v := .tuple #[.agg (codeR gs cs g cap), .int .i64 0]) (by simp [results, Tryz.results45, go_sem, codeR, *]) rfl ⟨gs, cs, g, cap, rfl, hB7⟩
end Go.Proofs.YtfpbhmikogdpgaaGreatDoor
