/- Type names: the walks of the two functions that ask for them. -/
import Derived.Test.YtnggblocfennaaaDoorChars
namespace Go.Proofs.YtnggblocfennaaaDoor
open Go.RowKit

theorem toList_length (s : ByteArray) : s.toList.length = s.size := by rw [ByteArray.toList_eq]; simp
theorem toList_get (s : ByteArray) (k : Nat) (h : k < s.size) : s.toList[k]? = some s[k] := by
  rw [ByteArray.toList_eq]; simp [h]; rfl
theorem toList_drop (s : ByteArray) (k : Nat) (h : k < s.size) : s.toList.drop k = s[k] :: s.toList.drop (k + 1) := by
  rw [List.drop_eq_getElem_cons (by rw [toList_length]; exact h)]
  congr 1
  have := toList_get s k h
  rw [List.getElem?_eq_getElem (by rw [toList_length]; exact h)] at this
  exact Option.some.inj this
theorem toList_nil (s : ByteArray) (h : s.size = 0) : s.toList = [] := List.eq_nil_of_length_eq_zero (by rw [toList_length]; exact h)
theorem toList_ne (s : ByteArray) (h : s.size ≠ 0) : s.toList.isEmpty = false := by
  have := toList_length s
  cases e : s.toList with
  | nil => rw [e] at this; simp at this; omega
  | cons _ _ => rfl

theorem typeName_long {s : ByteArray} (h : 24 < s.size) : typeName s.toList = false := by
  have := toList_length s
  unfold typeName
  split
  · rfl
  · rw [decide_eq_false (by omega)]; rfl
theorem typeName_short {s : ByteArray} (h0 : 0 < s.size) (h : s.size ≤ 24) : typeName s.toList = (capital s[0] && s.toList.all nameByte) := by
  have := toList_length s
  have hd := toList_drop s 0 h0
  rw [List.drop_zero] at hd
  unfold typeName
  split
  · rename_i heq; rw [heq] at this; simp at this; omega
  · rename_i c l heq
    rw [decide_eq_true (by omega)]
    rw [hd] at heq
    rw [(List.cons.inj heq).1]; simp
theorem all_step (s : ByteArray) (k : Nat) (h : k < s.size) : (s.toList.drop k).all nameByte = (nameByte s[k] && (s.toList.drop (k + 1)).all nameByte) := by
  rw [toList_drop s k h]; rfl

theorem name_no {c : UInt8} (h : ¬ (97 ≤ c.toNat ∧ c.toNat ≤ 122 ∨ 65 ≤ c.toNat ∧ c.toNat ≤ 90 ∨ c.toNat = 95 ∨ 48 ≤ c.toNat ∧ c.toNat ≤ 57)) : nameByte c = false := by
  unfold nameByte letter digit
  rw [decide_eq_false (by omega), decide_eq_false (by omega)]; rfl
theorem name_yes {c : UInt8} (h : 97 ≤ c.toNat ∧ c.toNat ≤ 122 ∨ 65 ≤ c.toNat ∧ c.toNat ≤ 90 ∨ c.toNat = 95 ∨ 48 ≤ c.toNat ∧ c.toNat ≤ 57) : nameByte c = true := by
  unfold nameByte
  by_cases h1 : 48 ≤ c.toNat ∧ c.toNat ≤ 57
  · unfold digit; rw [decide_eq_true h1]; simp
  · unfold letter; rw [decide_eq_true (by omega)]; rfl

/-- the nine ranges of a byte, each with what the tests of a name say there -/
theorem byte_cases (c : UInt8) : ∃ (lo hi : Nat) (b : Bool), lo ≤ c.toNat ∧ c.toNat ≤ hi ∧ ((c.toNat : Int) == 95) = b ∧
    ((lo = 0 ∧ hi = 47 ∧ b = false ∧ Hid (nameByte c = false)) ∨ (lo = 48 ∧ hi = 57 ∧ b = false ∧ Hid (nameByte c = true)) ∨ (lo = 58 ∧ hi = 64 ∧ b = false ∧ Hid (nameByte c = false)) ∨
     (lo = 65 ∧ hi = 90 ∧ b = false ∧ Hid (nameByte c = true)) ∨ (lo = 91 ∧ hi = 94 ∧ b = false ∧ Hid (nameByte c = false)) ∨ (lo = 95 ∧ hi = 95 ∧ b = true ∧ Hid (nameByte c = true)) ∨
     (lo = 96 ∧ hi = 96 ∧ b = false ∧ Hid (nameByte c = false)) ∨ (lo = 97 ∧ hi = 122 ∧ b = false ∧ Hid (nameByte c = true)) ∨ (lo = 123 ∧ hi = 255 ∧ b = false ∧ Hid (nameByte c = false))) := by
  have h255 : c.toNat ≤ 255 := by have := c.toNat_lt; omega
  have key : ((c.toNat : Int) == 95) = decide (c.toNat = 95) := by
    rw [Bool.eq_iff_iff]; simp; omega
  rw [key]
  by_cases h1 : c.toNat ≤ 47
  · exact ⟨0, 47, false, by omega, h1, decide_eq_false (by omega), .inl ⟨rfl, rfl, rfl, name_no (by omega)⟩⟩
  by_cases h2 : c.toNat ≤ 57
  · exact ⟨48, 57, false, by omega, h2, decide_eq_false (by omega), .inr (.inl ⟨rfl, rfl, rfl, name_yes (by omega)⟩)⟩
  by_cases h3 : c.toNat ≤ 64
  · exact ⟨58, 64, false, by omega, h3, decide_eq_false (by omega), .inr (.inr (.inl ⟨rfl, rfl, rfl, name_no (by omega)⟩))⟩
  by_cases h4 : c.toNat ≤ 90
  · exact ⟨65, 90, false, by omega, h4, decide_eq_false (by omega), .inr (.inr (.inr (.inl ⟨rfl, rfl, rfl, name_yes (by omega)⟩)))⟩
  by_cases h5 : c.toNat ≤ 94
  · exact ⟨91, 94, false, by omega, h5, decide_eq_false (by omega), .inr (.inr (.inr (.inr (.inl ⟨rfl, rfl, rfl, name_no (by omega)⟩))))⟩
  by_cases h6 : c.toNat ≤ 95
  · exact ⟨95, 95, true, by omega, h6, decide_eq_true (by omega), .inr (.inr (.inr (.inr (.inr (.inl ⟨rfl, rfl, rfl, name_yes (by omega)⟩)))))⟩
  by_cases h7 : c.toNat ≤ 96
  · exact ⟨96, 96, false, by omega, h7, decide_eq_false (by omega), .inr (.inr (.inr (.inr (.inr (.inr (.inl ⟨rfl, rfl, rfl, name_no (by omega)⟩))))))⟩
  by_cases h8 : c.toNat ≤ 122
  · exact ⟨97, 122, false, by omega, h8, decide_eq_false (by omega), .inr (.inr (.inr (.inr (.inr (.inr (.inr (.inl ⟨rfl, rfl, rfl, name_yes (by omega)⟩)))))))⟩
  · exact ⟨123, 255, false, by omega, h255, decide_eq_false (by omega), .inr (.inr (.inr (.inr (.inr (.inr (.inr (.inr ⟨rfl, rfl, rfl, name_no (by omega)⟩)))))))⟩

set_option maxHeartbeats 400000 in
theorem typeName_any (s : ByteArray) (w : World) (hs : s.size ≤ maxLen) :
    Calls Tryd.prog 41 #[.string s] w fun e w' => e = .returned (.bool (typeName s.toList)) ∧ w = w' := by
  unfold maxLen at hs
  by_cases h0 : s.size = 0
  · have h1 := toList_nil s h0
    go_enter Tryd.func41, Tryd.ntmps41
    go_wp2_with fail
    go_ret
    exact ⟨ret_bool (by rw [h1]; rfl), rfl⟩
  · have he := toList_ne s h0
    have he' : ¬ s.toList = [] := by intro h; rw [h] at he; cases he
    by_cases h1 : 24 < s.size
    · have h2 := Lib.hid (typeName_long h1)
      go_enter Tryd.func41, Tryd.ntmps41
      go_wp2_with fail
      go_ret
      exact ⟨ret_bool h2.out.symm, rfl⟩
    · have h2 := Lib.hid (typeName_short (s := s) (by omega) (by omega))
      have h3 : 0 < s.size := by omega
      have h4 : s.size ≤ 24 := by omega
      go_enter Tryd.func41, Tryd.ntmps41
      cases hc : capital s[0] with
      | false =>
        have Hc := Lib.hid hc
        clear hc
        go_wp2_with (refine (capital_any _ _).mono ?_; rw [Hc.out]; rintro e w1 ⟨rfl, rfl⟩)
        go_ret
        exact ⟨ret_bool (by rw [h2.out, Hc.out]; rfl), rfl⟩
      | true =>
        have Hc := Lib.hid hc
        clear hc
        go_wp2_with (refine (capital_any _ _).mono ?_; rw [Hc.out]; rintro e w1 ⟨rfl, rfl⟩)
        go_loop [3] (fun i => ∃ k : Nat, k ≤ s.size ∧ i = .int .i64 k ∧ s.toList.all nameByte = (s.toList.drop k).all nameByte) (fun i => s.size - (intOf i).toNat)
        case atStart => exact ⟨0, Nat.zero_le _, rfl, by rw [List.drop_zero]⟩
        case round =>
          obtain ⟨k, hk, rfl, heq⟩ := hrel
          have Heq := Lib.hid heq
          clear heq
          by_cases hlt : k < s.size
          · have Hs := Lib.hid (all_step s k hlt)
            cases hl : letter s[k] with
            | true =>
              have Hl := Lib.hid hl
              clear hl
              go_wp2_with (refine (letter_any _ _).mono ?_; rw [Hl.out]; rintro e w1 ⟨rfl, rfl⟩)
              go_round
              case rel => exact ⟨k + 1, by omega, by go_num, by rw [Heq.out, Hs.out]; simp [nameByte, Hl.out]⟩
              case measure => simp [intOf]; omega
            | false =>
              have Hl := Lib.hid hl
              clear hl
              cases hd : digit s[k] with
              | true =>
                have Hd := Lib.hid hd
                clear hd
                go_wp2_with (first | ((with_reducible refine (letter_any _ _).mono ?_); rw [Hl.out]; rintro e w1 ⟨rfl, rfl⟩) | ((with_reducible refine (digit_any _ _).mono ?_); rw [Hd.out]; rintro e w1 ⟨rfl, rfl⟩))
                go_round
                case rel => exact ⟨k + 1, by omega, by go_num, by rw [Heq.out, Hs.out]; simp [nameByte, Hd.out]⟩
                case measure => simp [intOf]; omega
              | false =>
                have Hd := Lib.hid hd
                clear hd
                go_wp2_with (first | ((with_reducible refine (letter_any _ _).mono ?_); rw [Hl.out]; rintro e w1 ⟨rfl, rfl⟩) | ((with_reducible refine (digit_any _ _).mono ?_); rw [Hd.out]; rintro e w1 ⟨rfl, rfl⟩))
                go_ret
                exact ⟨ret_bool (by rw [h2.out, Heq.out, Hs.out]; simp [nameByte, Hl.out, Hd.out]), rfl⟩
          · go_wp2_with fail
            go_ret
            exact ⟨ret_bool (by rw [h2.out, Hc.out, Heq.out, List.drop_eq_nil_of_le (by rw [toList_length]; omega)]; rfl), rfl⟩

set_option maxHeartbeats 4000000 in
theorem isName_any (s : ByteArray) (w : World) (hs : s.size ≤ maxLen) :
    Calls Tryd.prog 37 #[.string s] w fun e w' => e = .returned (.bool (typeName s.toList)) ∧ w = w' := by
  unfold maxLen at hs
  by_cases h0 : s.size < 1
  · have h1 := toList_nil s (by omega)
    go_enter Tryd.func37, Tryd.ntmps37
    go_wp2_with fail
    go_ret
    exact ⟨ret_bool rfl, rfl⟩
  · by_cases h1 : 24 < s.size
    · have h2 := Lib.hid (typeName_long h1)
      go_enter Tryd.func37, Tryd.ntmps37
      go_wp2_with fail
      go_ret
      exact ⟨ret_bool h2.out.symm, rfl⟩
    · have h2 := Lib.hid (typeName_short (s := s) (by omega) (by omega))
      have h3 : 0 < s.size := by omega
      have h4 : s.size ≤ 24 := by omega
      have hcap : capital s[0] = decide (65 ≤ s[0].toNat ∧ s[0].toNat ≤ 90) := rfl
      have Hcap := Lib.hid hcap
      clear hcap
      go_enter Tryd.func37, Tryd.ntmps37
      by_cases hc1 : s[0].toNat < 65
      · go_wp2_with fail
        go_ret
        exact ⟨ret_bool (by rw [h2.out, Hcap.out, decide_eq_false (by omega)]; rfl), rfl⟩
      by_cases hc2 : 90 < s[0].toNat
      · go_wp2_with fail
        go_ret
        exact ⟨ret_bool (by rw [h2.out, Hcap.out, decide_eq_false (by omega)]; rfl), rfl⟩
      go_wp2_with fail
      go_loop [25] (fun i => ∃ k : Nat, k ≤ s.size ∧ i = .int .i64 k ∧ s.toList.all nameByte = (s.toList.drop k).all nameByte) (fun i => s.size - (intOf i).toNat)
      case atStart => exact ⟨0, Nat.zero_le _, rfl, by rw [List.drop_zero]⟩
      case round =>
        obtain ⟨k, hk, rfl, heq⟩ := hrel
        have Heq := Lib.hid heq
        clear heq
        by_cases hlt : k < s.size
        · have Hs := Lib.hid (all_step s k hlt)
          rcases byte_cases s[k] with ⟨lo, hi, b1, h5, h6, h7, h8⟩
          rcases h8 with h8 | h8 | h8 | h8 | h8 | h8 | h8 | h8 | h8
          all_goals
            obtain ⟨rfl, rfl, rfl, hf⟩ := h8
            go_wp2_with fail
          all_goals first
            | (exfalso; simp only [Bool.not_eq_false', decide_eq_true_eq] at *; omega)
            | (go_ret; exact ⟨ret_bool (by rw [h2.out, Heq.out, Hs.out, hf.out]; simp), rfl⟩)
            | (go_round
               case rel => exact ⟨k + 1, by omega, by go_num, by rw [Heq.out, Hs.out, hf.out]; simp⟩
               case measure => simp [intOf]; omega)
        · go_wp2_with fail
          go_ret
          exact ⟨ret_bool (by rw [h2.out, Hcap.out, Heq.out, List.drop_eq_nil_of_le (by rw [toList_length]; omega), decide_eq_true (by omega)]; rfl), rfl⟩
end Go.Proofs.YtnggblocfennaaaDoor
