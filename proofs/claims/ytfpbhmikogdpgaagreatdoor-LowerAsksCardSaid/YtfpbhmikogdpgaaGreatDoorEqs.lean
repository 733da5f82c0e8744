/- The reference's EqStrings and Has at lists of strings. -/
import Derived.Test.YtfpbhmikogdpgaaGreatDoorCalls
import Derived.Deep.QuietTactic
import Derived.BigQuiet
namespace Go.Proofs.YtfpbhmikogdpgaaGreatDoor
open Go.RowKit

theorem below_drewN {B : Nat} {a w : World} (h : Below B a w) (n : Nat) : Below B a (w.drewN n) := ⟨h.os, h.tape, h.output, h.size, h.block⟩

def HasSays (L : List (List UInt8)) (s : List UInt8) (w : World) (e : Ending) (w' : World) : Prop :=
  ∃ i : Int, e = .returned (.int .i64 i) ∧ ((0 ≤ i ∧ s ∈ L) ∨ (i = -1 ∧ s ∉ L)) ∧ w = w'

set_option maxHeartbeats 1000000 in
theorem has_any (L : List (List UInt8)) (v : Value) (s : ByteArray) (w : World) (h : StrsAt w v L) :
    Calls Tryz.prog 18 #[v, .string s] w (HasSays L s.toList w) := by
  obtain ⟨a, cap, rfl, h5, hc⟩ := h
  have Hc := Lib.hid hc
  clear hc
  go_enter Tryz.func18, Tryz.ntmps18
  go_wp2_with fail
  go_loop [5] (fun kk => ∃ k : Nat, k ≤ L.length ∧ kk = .int .i64 k ∧ s.toList ∉ L.take k) (fun kk => L.length - (intOf kk).toNat)
  case atStart => exact ⟨0, Nat.zero_le _, rfl, by simp⟩
  case round =>
    obtain ⟨k, hk, rfl, hnot⟩ := hrel
    have Hnot := Lib.hid hnot
    clear hnot
    by_cases hlt : k < L.length
    · obtain ⟨b, off, rfl, hcell⟩ := Hc.out (by omega)
      have hck := hcell k hlt
      clear hcell
      by_cases he : L[k] = s.toList
      · have he2 : ((str L[k]).toList == s.toList) = true := by rw [str_toList, he]; exact beq_self_eq_true _
        have hm : s.toList ∈ L := by rw [← he]; exact List.getElem_mem hlt
        have Hm := Lib.hid hm
        clear hm he
        go_wp2_with fail
        go_ret
        exact ⟨k, rfl, .inl ⟨by omega, Hm.out⟩, rfl⟩
      · have he2 : ((str L[k]).toList == s.toList) = false := by rw [str_toList]; exact beq_eq_false_iff_ne.2 he
        have hm : s.toList ∉ L.take (k + 1) := by
          rw [List.take_succ_eq_append_getElem hlt, List.mem_append, List.mem_singleton]
          rintro (h | h)
          · exact Hnot.out h
          · exact he h.symm
        have Hm := Lib.hid hm
        clear hm he
        go_wp2_with fail
        go_round
        case rel => exact ⟨k + 1, by omega, by go_num, Hm.out⟩
        case measure => simp [intOf]; omega
    · have hk3 : L.length ≤ k := by omega
      have hm : s.toList ∉ L := by have := Hnot.out; rwa [List.take_of_length_le hk3] at this
      have Hm := Lib.hid hm
      clear hm
      go_wp2_with fail
      go_ret
      exact ⟨-1, rfl, .inr ⟨rfl, Hm.out⟩, rfl⟩

set_option maxHeartbeats 1000000 in
theorem eqs_any (L : List (List UInt8)) (v u : Value) (w : World) (h : StrsAt w v L) (g : StrsAt w u L) :
    Calls Tryz.prog 7 #[v, u] w fun e w' => e = .returned (.bool true) ∧ Below w.heap.size w w' := by
  obtain ⟨a, cap, rfl, h5, hc⟩ := h
  obtain ⟨a2, cap2, rfl, _, hc2⟩ := g
  have Hc := Lib.hid hc
  have Hc2 := Lib.hid hc2
  clear hc hc2
  go_enter Tryz.func7, Tryz.ntmps7
  go_wp2_with fail
  go_loopw [5] (fun kk wr => ∃ k : Nat, k ≤ L.length ∧ kk = .int .i64 k ∧ Below w.heap.size w wr) (fun kk _ => L.length - (intOf kk).toNat)
  case atStart => exact ⟨0, Nat.zero_le _, rfl, Below.refl _ _⟩
  case round =>
    obtain ⟨k, hk, rfl, hb⟩ := hrel
    by_cases hlt : k < L.length
    · obtain ⟨b, off, rfl, hcell⟩ := Hc.out (by omega)
      obtain ⟨b2, off2, rfl, hcell2⟩ := Hc2.out (by omega)
      have hck := cells_later hb _ _ (hcell k hlt)
      have hck2 := cells_later hb _ _ (hcell2 k hlt)
      have he2 : ((str L[k]).toList == (str L[k]).toList) = true := beq_self_eq_true _
      have hne : ((str L[k]).toList != (str L[k]).toList) = false := by rw [bne, he2]; rfl
      have hi0 : (0 : Int) ≤ (k : Int) := by omega
      have hi1 : (k : Int) < (L.length : Int) := by omega
      clear hcell hcell2
      go_wp2_with fail
      go_quiet (fail)
      go_wp2_with fail
      go_roundw
      case rel => exact ⟨k + 1, by omega, by go_num, below_drewN hb _⟩
      case measure => simp [intOf]; omega
    · have hk3 : L.length ≤ k := by omega
      go_wp2_with fail
      go_ret
      exact ⟨rfl, hb⟩
end Go.Proofs.YtfpbhmikogdpgaaGreatDoor
