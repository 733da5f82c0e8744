/- The walks of the functions that count a type's nodes. -/
import Derived.Test.YtfpbhmikogdpgaaGreatDoorRows
import Derived.Test.YtfpbhmikogdpgaaGreatDoorTy
import Derived.Test.YtfpbhmikogdpgaaGreatDoorRets
import Derived.Lib.Hide
namespace Go.Proofs.YtfpbhmikogdpgaaGreatDoor
open Go.RowKit

set_option maxHeartbeats 400000 in
theorem nodes_any (T : Ty) : ∀ (w : World) (most : Int) (cs : Array Value), T.In w cs → 0 ≤ most → most ≤ 100000 →
    Calls Tryz.prog 13 #[.agg cs, .int .i64 most] w fun e w' => e = .returned (.int .i64 (T.nodes most)) ∧ Below w.heap.size w w' := by
  induction T using Ty.ind with
  | h k s n l ih =>
    intro w most cs hin h0 h1
    cases hin with
    | mk _ _ _ _ a b off cap C ha hlen hs hk hn hc hi =>
    unfold maxLen at hlen
    unfold nodeCells
    go_enter Tryz.func13, Tryz.ntmps13
    go_wp2_with fail
    go_loopw [5, 6] (fun nn ii wr => ∃ (i : Nat) (m : Int), i ≤ l.length ∧ ii = .int .i64 i ∧ nn = .int .i64 m ∧ 1 ≤ m ∧ m ≤ 2 * most + 2 ∧ Ty.nodesL most l 1 = Ty.nodesL most (l.drop i) m ∧
        Below (w.heap.size + 1) (w.alloc (.cells #[.int .i64 k, .string s, .int .i64 n, .slice a l.length cap] 37)) wr)
      (fun _ ii _ => l.length - (intOf ii).toNat)
    case atStart => exact ⟨0, 1, Nat.zero_le _, rfl, rfl, by omega, by omega, by rw [List.drop_zero], Below.refl _ _⟩
    case round =>
      obtain ⟨i, m, hil, rfl, rfl, hm1, hm2, heq, hbel⟩ := hrel
      have hbox : wr.cell? ⟨w.heap.size, 3, none⟩ = some (.slice a l.length cap) := by
        rw [hbel.cell (by simp)]; simp
      have hB : Below w.heap.size w wr := ((Below.refl w.heap.size w).alloc (Nat.le_refl _) _).trans (hbel.mono (by omega))
      have Heq := Lib.hid heq
      clear heq
      by_cases hlt : i < l.length
      · by_cases hle : m ≤ most
        · have hab := ha (by omega)
          subst hab
          have hin' := (hi i hlt).under hB
          obtain ⟨c0, c1, c2, c3⟩ := four (fun i h j hj => cells_later hB _ _ (hc i h j hj)) i hlt
          go_wp2_with fail
          have hbd := Ty.nodes_bd most h0 l[i]
          refine (ih l[i] (List.getElem_mem hlt) _ most _ hin' h0 h1).mono ?_
          rintro e w1 ⟨rfl, hb1⟩
          go_wp2_with fail
          go_roundw
          case rel =>
            refine ⟨i + 1, m + Ty.nodes most l[i], by omega, by go_num, rfl, by omega, by omega, ?_, hbel.trans (hb1.mono (by have := hbel.size; simp at this; omega))⟩
            rw [Heq.out, List.drop_eq_getElem_cons hlt, Ty.nodesL, if_pos hle]
          case measure => simp [intOf]; omega
        · have hle' : most < m := by omega
          have hn : Ty.nodesL most l 1 = m := by
            rw [Heq.out, List.drop_eq_getElem_cons hlt, Ty.nodesL, if_neg hle]
          have Hn := Lib.hid hn
          clear hn
          go_wp2_with fail
          all_goals go_ret
          all_goals exact ⟨ret_int (by rw [Ty.nodes, Hn.out]; omega), hB⟩
      · have hle' : l.length ≤ i := by omega
        have hn : Ty.nodesL most l 1 = m := by
          rw [Heq.out, List.drop_eq_nil_of_le hle', Ty.nodesL]
        have Hn := Lib.hid hn
        clear hn
        go_wp2_with fail
        all_goals go_ret
        all_goals exact ⟨ret_int (by rw [Ty.nodes, Hn.out]; omega), hB⟩
end Go.Proofs.YtfpbhmikogdpgaaGreatDoor
