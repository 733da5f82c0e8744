/- Lists of strings in memory; slices.Index and slices.Contains on them. -/
import Derived.Test.YtnggblocfennaaaDoorChars
namespace Go.Proofs.YtnggblocfennaaaDoor
open Go.RowKit

/-- the slice's value (address, length) holds the strings of the list -/
def Strs (w : World) (a : Option Addr) (len : Nat) (L : List ByteArray) : Prop :=
  len = L.length ∧ ∃ b off, (0 < L.length → a = some ⟨b, off, none⟩) ∧ ∀ i, (h : i < L.length) → w.cell? ⟨b, off + i, none⟩ = some (.string L[i])

/-- the place of the first string that is s, or -1; i: the place of the list's head -/
def sIdx : List ByteArray → List UInt8 → Int → Int
  | [], _, _ => -1
  | x :: l, s, i => if s == x.toList then i else sIdx l s (i + 1)

theorem sIdx_bd : ∀ (l : List ByteArray) (s : List UInt8) (i : Int), 0 ≤ i → (sIdx l s i = -1 ∧ l.any (fun x => s == x.toList) = false) ∨ (i ≤ sIdx l s i ∧ sIdx l s i < i + l.length ∧ l.any (fun x => s == x.toList) = true)
  | [], _, i, _ => .inl ⟨rfl, rfl⟩
  | x :: l, s, i, h => by
    unfold sIdx
    by_cases e : (s == x.toList) = true
    · rw [if_pos e]; right; simp [List.any_cons, e]; omega
    · rw [if_neg e]
      rcases sIdx_bd l s (i + 1) (by omega) with ⟨h1, h2⟩ | ⟨h1, h2, h3⟩
      · left; refine ⟨h1, ?_⟩; rw [List.any_cons, h2]; simp at e ⊢; exact e
      · right; refine ⟨by omega, by simp; omega, ?_⟩; rw [List.any_cons, h3]; simp

set_option maxHeartbeats 400000 in
theorem index_any (a : Option Addr) (len cap : Nat) (L : List ByteArray) (s : ByteArray) (w : World) (hL : Strs w a len L) (hlen : L.length ≤ maxLen) :
    Calls Tryd.prog 42 #[.slice a len cap, .string s] w fun e w' => e = .returned (.int .i64 (sIdx L s.toList 0)) ∧ w = w' := by
  obtain ⟨rfl, b, off, ha, hc⟩ := hL
  unfold maxLen at hlen
  go_enter Tryd.func42, Tryd.ntmps42
  go_wp2_with fail
  go_loop [8] (fun i => ∃ k : Nat, k ≤ L.length ∧ i = .int .i64 k ∧ sIdx L s.toList 0 = sIdx (L.drop k) s.toList k) (fun i => L.length - (intOf i).toNat)
  case atStart => exact ⟨0, Nat.zero_le _, rfl, by rw [List.drop_zero]; rfl⟩
  case round =>
    obtain ⟨k, hk, rfl, heq⟩ := hrel
    have Heq := Lib.hid heq
    clear heq
    by_cases hlt : k < L.length
    · have hab := ha (by omega)
      subst hab
      have hck := hc k hlt
      have Hs : Hid (sIdx (L.drop k) s.toList k = if s.toList == L[k].toList then (k : Int) else sIdx (L.drop (k + 1)) s.toList ((k : Int) + 1)) := by
        show _ = _
        rw [List.drop_eq_getElem_cons hlt, sIdx]
      cases he : (s.toList == L[k].toList) with
      | true =>
        go_wp2_with fail
        go_ret
        exact ⟨ret_int (by rw [Heq.out, Hs.out, he]; rfl), rfl⟩
      | false =>
        go_wp2_with fail
        go_round
        case rel => exact ⟨k + 1, by omega, by go_num, by rw [Heq.out, Hs.out, he]; rfl⟩
        case measure => simp [intOf]; omega
    · go_wp2_with fail
      go_ret
      exact ⟨ret_int (by rw [Heq.out, List.drop_eq_nil_of_le (by omega)]; rfl), rfl⟩

set_option maxHeartbeats 400000 in
theorem contains_any (a : Option Addr) (len cap : Nat) (L : List ByteArray) (s : ByteArray) (w : World) (hL : Strs w a len L) (hlen : L.length ≤ maxLen) :
    Calls Tryd.prog 36 #[.slice a len cap, .string s] w fun e w' => e = .returned (.bool (L.any fun x => s.toList == x.toList)) ∧ w = w' := by
  rcases sIdx_bd L s.toList 0 (by omega) with ⟨h1, h2⟩ | ⟨h1, h2, h3⟩
  · have H2 := Lib.hid h2
    have H1 := Lib.hid h1
    clear h1 h2
    go_enter Tryd.func36, Tryd.ntmps36
    go_wp2_with (refine (index_any _ _ _ L _ _ hL hlen).mono ?_; rw [H1.out]; rintro e w1 ⟨rfl, rfl⟩)
    go_ret
    exact ⟨ret_bool H2.out.symm, rfl⟩
  · have H3 := Lib.hid h3
    clear h3
    go_enter Tryd.func36, Tryd.ntmps36
    go_wp2_with (refine (index_any _ _ _ L _ _ hL hlen).mono ?_; rintro e w1 ⟨rfl, rfl⟩)
    go_ret
    exact ⟨ret_bool H3.out.symm, rfl⟩
end Go.Proofs.YtnggblocfennaaaDoor
