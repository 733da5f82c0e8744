/- The law itself: large, awake, SpecNames: contracts. -/
import Derived.Test.YtnggblocfennaaaDoorNameFns
namespace Go.Proofs.YtnggblocfennaaaDoor
open Go.RowKit

set_option maxHeartbeats 1000000 in
theorem large_any (l : List Ty) (a : Option Addr) (cp : Nat) (w : World) (hl : Tys w a l) :
    Calls Tryd.prog 4 #[.slice a l.length cp] w fun e w' => (e = .returned (.bool true) ∨ (e = .returned (.bool false) ∧ l.length ≤ 300)) ∧ Below w.heap.size w w' := by
  obtain ⟨hmax, b, off, C, ha, hcs, hin⟩ := hl
  unfold maxLen at hmax
  go_enter Tryd.func4, Tryd.ntmps4
  go_wp2_with fail
  go_loopw [3, 4] (fun nn ii wr => ∃ (i : Nat) (m : Int), i ≤ l.length ∧ ii = .int .i64 i ∧ nn = .int .i64 m ∧ (i : Int) ≤ m ∧ m ≤ 700 ∧ Below w.heap.size w wr) (fun _ ii _ => l.length - (intOf ii).toNat)
  case atStart => exact ⟨0, 0, Nat.zero_le _, rfl, rfl, by omega, by omega, Below.refl _ _⟩
  case round =>
    obtain ⟨i, m, hil, rfl, rfl, hm1, hm2, Bi⟩ := hrel
    by_cases hlt : i < l.length
    · by_cases hle : m ≤ 300
      · have hab := ha (by omega)
        subst hab
        have hin' := (hin i hlt).under Bi
        obtain ⟨c0, c1, c2, c3⟩ := four (fun i h j hj => cells_later Bi _ _ (hcs i h j hj)) i hlt
        have hbd := Ty.nodes_bd 301 (by omega) l[i]
        have hr := nodes_any l[i] wr 301 _ hin' (by omega) (by omega)
        generalize l[i].nodes 301 = q at hr hbd
        have Hr := Lib.hid hr
        clear hr hin'
        go_wp2_with fail
        refine Hr.out.mono ?_
        rintro e w1 ⟨rfl, hb1⟩
        go_wp2_with fail
        go_roundw
        case rel => exact ⟨i + 1, m + q, by omega, by go_num, rfl, by omega, by omega, Bi.trans (hb1.mono Bi.size)⟩
        case measure => simp [intOf]; omega
      · have hle' : 300 < m := by omega
        go_wp2_with fail
        all_goals go_ret
        all_goals exact ⟨.inl (by simp <;> omega), Bi⟩
    · have hle' : l.length ≤ i := by omega
      by_cases hle : m ≤ 300
      · go_wp2_with fail
        all_goals go_ret
        all_goals exact ⟨.inr ⟨by simp <;> omega, by omega⟩, Bi⟩
      · go_wp2_with fail
        all_goals go_ret
        all_goals exact ⟨.inl (by simp <;> omega), Bi⟩

theorem awakeTy_good : nameVal [105, 100, 47, 48] [.mk 1 (str []) 0 []] = .tuple #[.string (str [105, 100, 47, 48, 60, 73, 110, 116, 62]), .int .i64 0] := by kernel_rfl
theorem awake_str : ∃ S : ByteArray, str [105, 100, 47, 48, 60, 73, 110, 116, 62] = S ∧ S.toList = [105, 100, 47, 48, 60, 73, 110, 116, 62] := ⟨_, rfl, by rw [ByteArray.toList_eq]; rfl⟩

set_option maxHeartbeats 1000000 in
theorem awake_any (w : World) :
    Calls Tryd.prog 5 #[] w fun e w' => e = .returned (.bool true) ∧ Below w.heap.size w w' := by
  have hbx := new_cell w #[.int .i64 1, .string { data := #[] }, .int .i64 0, .slice none 0 0] 31 w.heap.size
  have hT : Tys (w.alloc (.cells #[.int .i64 1, .string { data := #[] }, .int .i64 0, .slice none 0 0] 31)) (some ⟨w.heap.size, 0, none⟩) [.mk 1 (str []) 0 []] := by
    refine ⟨by unfold maxLen; simp, w.heap.size, 0, fun _ j => (#[.int .i64 1, .string { data := #[] }, .int .i64 0, .slice none 0 0] : Array Value)[j]?.getD (.int .i64 0), fun _ => rfl, ?_, ?_⟩
    · intro i hi j hj
      have hi' : i = 0 := by simp at hi; omega
      subst hi'
      match j, hj with
      | 0, _ => exact hbx 0 rfl
      | 1, _ => exact hbx 1 rfl
      | 2, _ => exact hbx 2 rfl
      | 3, _ => exact hbx 3 rfl
    · intro i hi
      have hi' : i = 0 := by simp at hi; omega
      subst hi'
      exact .mk 1 (str []) 0 [] none 0 0 0 (fun _ _ => .int .i64 0) (by simp) (by unfold maxLen; simp) (by unfold maxLen; rw [str_size]; simp) (by omega) (by omega) (by intro i h; simp at h) (by intro i h; simp at h)
  have hr := specName_any { data := #[105, 100, 47, 48] } [.mk 1 (str []) 0 []] _ 1 _ hT (by simp) (by decide)
  obtain ⟨S, hS, hSl⟩ := awake_str
  rw [show (ByteArray.toList { data := #[105, 100, 47, 48] }) = [105, 100, 47, 48] by rw [ByteArray.toList_eq], awakeTy_good, hS] at hr
  clear hS
  have Hr := Lib.hid hr
  clear hr hT hbx
  go_enter Tryd.func5, Tryd.ntmps5
  go_wp2_with fail
  refine Hr.out.mono ?_
  rintro e w1 ⟨rfl, hb1⟩
  go_wp2_with fail
  go_ret
  exact ⟨rfl, (below1 w _).trans (hb1.mono (by simp))⟩

theorem nameVal_shape (code : List UInt8) (l : List Ty) : ∃ s n, nameVal code l = .tuple #[.string s, .int .i64 n] := by
  unfold nameVal
  split
  · exact ⟨_, _, rfl⟩
  · split <;> exact ⟨_, _, rfl⟩

set_option maxHeartbeats 1000000 in
theorem spec_any (code : ByteArray) (l : List Ty) (a : Option Addr) (cp : Nat) (w : World) (hl : Tys w a l) (hc0 : code.size ≤ 9223372036854775807) :
    Calls Tryd.prog 3 #[.string code, .slice a l.length cp] w fun e w' => e = .returned (.bool true) ∧ Below w.heap.size w w' := by
  obtain ⟨s, n, hsn⟩ := nameVal_shape code.toList l
  have ha := fun w => awake_any w
  have hlg := large_any l a cp w hl
  have h6 := fun w2 h => fun h0 h1 => specName_any code l a cp w2 (Tys.later (w := w) h hl) h0 h1
  have h7 := fun w2 h => fun h0 h1 => refName_any code l a cp w2 (Tys.later (w := w) h hl) h0 h1
  rw [hsn] at h6 h7
  have Ha := Lib.hid ha
  have Hlg := Lib.hid hlg
  have H6 := Lib.hid h6
  have H7 := Lib.hid h7
  clear ha hlg h6 h7 hsn hl
  have es : (s.toList == s.toList) = true := beq_self_eq_true _
  have en : (n == n) = true := beq_self_eq_true _
  by_cases hc : code.size ≤ 200
  · go_enter Tryd.func3, Tryd.ntmps3
    go_wp2_with fail
    refine Hlg.out.mono ?_
    rintro e w1 ⟨rfl | ⟨rfl, hlen⟩, hb1⟩
    · go_wp2_with fail
      refine (Ha.out w1).mono ?_
      rintro e w2 ⟨rfl, hb2⟩
      go_wp2_with fail
      go_ret
      exact ⟨rfl, hb1.trans (hb2.mono hb1.size)⟩
    · go_wp2_with fail
      refine (H6.out w1 hb1 (by omega) hc).mono ?_
      rintro e w2 ⟨rfl, hb2⟩
      have B2 := hb1.trans (hb2.mono hb1.size)
      go_wp2_with fail
      refine (H7.out w2 B2 (by omega) hc).mono ?_
      rintro e w3 ⟨rfl, hb3⟩
      have B3 := B2.trans (hb3.mono B2.size)
      go_wp2_with fail
      refine (Ha.out w3).mono ?_
      rintro e w4 ⟨rfl, hb4⟩
      go_wp2_with fail
      go_ret
      exact ⟨rfl, B3.trans (hb4.mono B3.size)⟩
  · have hc' : 200 < code.size := by omega
    go_enter Tryd.func3, Tryd.ntmps3
    go_wp2_with fail
    refine (Ha.out w).mono ?_
    rintro e w2 ⟨rfl, hb2⟩
    go_wp2_with fail
    go_ret
    exact ⟨rfl, hb2⟩
end Go.Proofs.YtnggblocfennaaaDoor
