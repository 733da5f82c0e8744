/- The empty function f/0, and the module of it: the walks of lower's first functions. -/
import Derived.Test.YtfpbhmikogdpgaaGreatDoorEqs
import Derived.Deep.RegionHeld3
namespace Go.Proofs.YtfpbhmikogdpgaaGreatDoor
open Go.RowKit

def nodeC : Array Value := #[.int .i64 20, .string ⟨#[]⟩, .int .i64 0, .int .i64 0, .string ⟨#[]⟩, .int .i64 0, .slice none 0 0, .slice none 0 0, .slice none 0 0, .int .i64 0]
def f0 : ByteArray := { data := #[102, 47, 48] }
def funcC : Array Value := #[.string { data := #[102, 47, 48] }, .slice none 0 0, .slice none 0 0, .slice none 0 0, .int .i64 4, .string ⟨#[]⟩, .int .i64 0, .slice none 0 0, .int .i64 0, .string ⟨#[]⟩, .int .i64 0, .slice none 0 0,
  .int .i64 20, .string ⟨#[]⟩, .int .i64 0, .int .i64 0, .string ⟨#[]⟩, .int .i64 0, .slice none 0 0, .slice none 0 0, .slice none 0 0, .int .i64 0]
def modC (fb : Nat) : Array Value := #[.slice none 0 0, .slice none 0 0, .slice none 0 0, .slice (some ⟨fb, 0, none⟩) 1 1]

theorem arr_get (A : Array Value) (j : Nat) (h : j < A.size) : A.toList[j]? = some (A[j]?.getD undef) := by simp [h]
/-- the function's cells lie in block g -/
def FuncAt (w : World) (g : Nat) : Prop := ∀ j, j < 22 → w.cell? ⟨g, j, none⟩ = some (funcC[j]?.getD undef)
theorem FuncAt.under {w w' : World} (hb : Below w.heap.size w w') {g : Nat} (h : FuncAt w g) : FuncAt w' g := fun j hj => cells_later hb _ _ (h j hj)
theorem FuncAt.all {w : World} {g : Nat} (h : FuncAt w g) :
  w.cell? ⟨g, 0, none⟩ = some (.string { data := #[102, 47, 48] }) ∧ w.cell? ⟨g, 1, none⟩ = some (.slice none 0 0) ∧ w.cell? ⟨g, 2, none⟩ = some (.slice none 0 0) ∧ w.cell? ⟨g, 3, none⟩ = some (.slice none 0 0) ∧ w.cell? ⟨g, 4, none⟩ = some (.int .i64 4) ∧ w.cell? ⟨g, 5, none⟩ = some (.string ⟨#[]⟩) ∧ w.cell? ⟨g, 6, none⟩ = some (.int .i64 0) ∧ w.cell? ⟨g, 7, none⟩ = some (.slice none 0 0) ∧ w.cell? ⟨g, 8, none⟩ = some (.int .i64 0) ∧ w.cell? ⟨g, 9, none⟩ = some (.string ⟨#[]⟩) ∧ w.cell? ⟨g, 10, none⟩ = some (.int .i64 0) ∧ w.cell? ⟨g, 11, none⟩ = some (.slice none 0 0) ∧ w.cell? ⟨g, 12, none⟩ = some (.int .i64 20) ∧ w.cell? ⟨g, 13, none⟩ = some (.string ⟨#[]⟩) ∧ w.cell? ⟨g, 14, none⟩ = some (.int .i64 0) ∧ w.cell? ⟨g, 15, none⟩ = some (.int .i64 0) ∧ w.cell? ⟨g, 16, none⟩ = some (.string ⟨#[]⟩) ∧ w.cell? ⟨g, 17, none⟩ = some (.int .i64 0) ∧ w.cell? ⟨g, 18, none⟩ = some (.slice none 0 0) ∧ w.cell? ⟨g, 19, none⟩ = some (.slice none 0 0) ∧ w.cell? ⟨g, 20, none⟩ = some (.slice none 0 0) ∧ w.cell? ⟨g, 21, none⟩ = some (.int .i64 0) := ⟨h 0 (by omega), h 1 (by omega), h 2 (by omega), h 3 (by omega), h 4 (by omega), h 5 (by omega), h 6 (by omega), h 7 (by omega), h 8 (by omega), h 9 (by omega), h 10 (by omega), h 11 (by omega), h 12 (by omega), h 13 (by omega), h 14 (by omega), h 15 (by omega), h 16 (by omega), h 17 (by omega), h 18 (by omega), h 19 (by omega), h 20 (by omega), h 21 (by omega)⟩

theorem Tryz.infoFunc : (Tryz.prog.info? 63).map (fun i => (i.zero, i.size, i.bytes)) = some (some (.agg #[.string ⟨#[]⟩, .slice none 0 0, .slice none 0 0, .slice none 0 0, .int .i64 0, .string ⟨#[]⟩, .int .i64 0, .slice none 0 0, .int .i64 0, .string ⟨#[]⟩, .int .i64 0, .slice none 0 0,
  .int .i64 0, .string ⟨#[]⟩, .int .i64 0, .int .i64 0, .string ⟨#[]⟩, .int .i64 0, .slice none 0 0, .slice none 0 0, .slice none 0 0, .int .i64 0]), 22, 344) := by kernel_rfl

set_option maxRecDepth 100000 in
set_option maxHeartbeats 1000000 in
theorem closed_any (w : World) : Calls Tryz.prog 37 #[.agg nodeC] w fun e w' => e = .returned (.bool true) ∧ Below w.heap.size w w' := by
  unfold nodeC
  go_enter Tryz.func37, Tryz.ntmps37
  go_wp2_with fail
  go_loop [38] (fun ii => ii = .int .i64 0) (fun _ => 0)
  case atStart => rfl
  case round =>
    subst hrel
    go_wp2_with fail
    go_ret
    exact ⟨rfl, below1 w _⟩

def FunctionsSays (w : World) (e : Ending) (w' : World) : Prop := ∃ g cap, e = .returned (.slice (some ⟨g, 0, none⟩) 1 cap) ∧ FuncAt w' g ∧ Below w.heap.size w w'

set_option maxRecDepth 100000 in
set_option maxHeartbeats 1000000 in
theorem functions_any (fb : Nat) (w : World) (hf : FuncAt w fb) : Calls Tryz.prog 24 #[.agg (modC fb)] w (FunctionsSays w) := by
  obtain ⟨i0, hi, hz0, hz1, hz2⟩ := info_parts Tryz.infoFunc
  obtain ⟨p0, p1, p2, p3, p4, p5, p6, p7, p8, p9, p10, p11, p12, p13, p14, p15, p16, p17, p18, p19, p20, p21⟩ := hf.all
  unfold modC
  go_enter Tryz.func24, Tryz.ntmps24
  go_wp2_with fail
  go_loop [3, 9] (fun l ii => l = .slice none 0 0 ∧ ii = .int .i64 0) (fun _ _ => 0)
  case atStart => exact ⟨rfl, rfl⟩
  case round =>
    obtain ⟨rfl, rfl⟩ := hrel
    go_wp2_with (at_builtin; refine wpList_append_own _ rfl _ _ 64 rfl w.heap.size 63 i0 _ 22 344 Tryz.underlying64 hi hz0 hz1 hz2 rfl (by decide) _ _ _ rfl (World.ownsRow_nil _ _ _ _) ⟨fb, 0, none⟩ 1 1 funcC.toList rfl rfl ?c1 ?c2 ?c3 ?c4 ?c5 ?_)
    case c1 =>
      intro j u hj
      have hj2 : funcC[j]? = some u := by simpa using hj
      have hjl : j < 22 := by obtain ⟨h, _⟩ := Array.getElem?_eq_some_iff.1 hj2; simpa [funcC] using h
      have h2 := cells_later (below1 w (.cells #[.slice none 0 0, .slice none 0 0, .slice none 0 0, .slice (some ⟨fb, 0, none⟩) 1 1] 66)) _ _ (hf j hjl)
      rw [hj2] at h2
      simpa [Addr.add] using h2
    case c2 => exact fun u hu => List.all_eq_true.1 (show (funcC.toList.all fun u => u.oneCell') = true by kernel_rfl) u (by simpa using hu)
    all_goals try first | (unfold maxLen; omega) | omega | (simp; done)
    · intro v' w3 hown3 hgrow _
      have hb3 : Below w.heap.size w w3 := (below1 w _).grown hgrow (by simp) (fun k hk => by cases hk)
      rcases hown3.2 with ⟨_, hn⟩ | ⟨g, cap, cur, rfl, hbg, hgg, h1, h2, h3, htake⟩
      · omega
      have hfa : FuncAt w3 g := by
        intro j hj
        rw [cell_of_row w3 g j cur _ (0, 0) hgg]
        have h4 : (cur.toList.take ((0 + 1) * 22))[j]? = funcC.toList[j]? := by rw [htake]; first | done | rfl
        rw [List.getElem?_take, if_pos (by omega)] at h4
        have h5 : cur[j]? = cur.toList[j]? := by simp
        rw [h5, h4]
        exact arr_get funcC j (show j < 22 from hj)
      clear hown3 hgrow htake hgg
      go_wp2_with fail
      go_ret
      exact ⟨g, cap, rfl, hfa, hb3⟩
end Go.Proofs.YtfpbhmikogdpgaaGreatDoor
