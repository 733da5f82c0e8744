/- lower's builder: an instruction is appended to the one block, and the one slot is filled or emptied. -/
import Derived.Test.YtfpbhmikogdpgaaGreatDoorAwF
import Derived.Deep.RegionHeld3
namespace Go.Proofs.YtfpbhmikogdpgaaGreatDoor
open Go.RowKit

/-- the builder with one block of code at g and one flag at f -/
structure EmAt (bb g f : Nat) (A : Nat → Value) (w : World) (v x : Value) : Prop where
  b : BAt bb A w
  g0 : bb < g
  f0 : bb < f
  gf : g ≠ f
  cg : w.cell? ⟨g, 0, none⟩ = some v
  zg : w.frozen? ⟨g, 0, none⟩ = false
  cf : w.cell? ⟨f, 0, none⟩ = some x
  zf : w.frozen? ⟨f, 0, none⟩ = false
  a19 : ∃ cap, A 19 = .slice (some ⟨g, 0, none⟩) 1 cap
  a20 : A 20 = .int .i64 0
  a21 : ∃ cap, A 21 = .slice (some ⟨f, 0, none⟩) 1 cap

theorem own_keep {w w' : World} {B k n : Nat} {e : TypeId} {v : Value} {xs : List Value} (h : w.ownsRow B e k v n xs) (hk : ∀ g, v.ownBlock = some g → w'.heap[g]? = w.heap[g]?) : w'.ownsRow B e k v n xs := by
  refine ⟨h.1, ?_⟩
  rcases h.2 with h2 | ⟨g, cap, cur, hv, hb, hg, r⟩
  · exact .inl h2
  · exact .inr ⟨g, cap, cur, hv, hb, by rw [hk g (by rw [hv]; rfl)]; exact hg, r⟩
theorem own_lt {w : World} {B k n : Nat} {e : TypeId} {v : Value} {xs : List Value} (h : w.ownsRow B e k v n xs) : ∀ g, v.ownBlock = some g → B ≤ g ∧ g < w.heap.size := by
  intro g hg
  rcases h.2 with ⟨h2, _⟩ | ⟨g', cap, cur, hv, hb, hg', r⟩
  · rw [h2] at hg; cases hg
  · rw [hv] at hg
    simp [Value.ownBlock] at hg
    subst hg
    exact ⟨hb, (Array.getElem?_eq_some_iff.1 hg').1⟩
theorem own_slice {w : World} {B k n : Nat} {e : TypeId} {v : Value} {xs : List Value} (h : w.ownsRow B e k v n xs) : ∃ p cap, v = .slice p n cap := by
  rcases h.2 with ⟨h2, h3⟩ | ⟨g', cap, cur, hv, hb, hg', r⟩
  · exact ⟨none, 0, by rw [h2, h3]⟩
  · exact ⟨_, _, hv⟩
theorem Tryz.infoIns : (Tryz.prog.info? 49).map (fun i => (i.zero, i.size, i.bytes)) = some (some (.agg #[.int .i64 0, .int .i64 0, .slice none 0 0, .string ⟨#[]⟩, .int .i64 0, .int .i64 0, .string ⟨#[]⟩, .int .i64 0, .slice none 0 0, .slice none 0 0, .slice none 0 0, .int .i64 0, .int .i64 0, .int .i64 0]), 14, 192) := by kernel_rfl

theorem emit_meet {bb g f ab q n cap0 : Nat} {p : Option Addr} {w w1 : World} {cs cs2 : Array Value} {T T2 : TypeId} (hbb : bb < w.heap.size) (hg : g < w.heap.size) (hf : f < w.heap.size) (hbg : bb < g) (hbf : bb < f) (hab : ab < w.heap.size) (haq : ∀ k, (Value.slice p n cap0).ownBlock = some k → k ≠ ab)
    (hq : ∀ k, (Value.slice p n cap0).ownBlock = some k → bb < k ∧ k ≠ g ∧ k ≠ f) (hql : ∀ k, (Value.slice p n cap0).ownBlock = some k → bb + 1 ≤ k ∧ k < w.heap.size)
    (hgrow : (((w.alloc (.cells cs T)).alloc (.cells cs2 T2)).drew).grownBy w1 (Value.slice p n cap0).ownBlock) (hat : (Value.slice p n cap0).ownBlock = some q ∨ q = w.heap.size + 1 + 1) :
    (bb < q ∧ q ≠ g ∧ q ≠ f ∧ q ≠ w.heap.size) ∧
      ∃ W, W = w.alloc (.cells cs T) ∧ Below (bb + 1) W w1 ∧ (∀ a u, (a.block = bb ∨ a.block = g ∨ a.block = f ∨ a.block = ab ∨ a.block = w.heap.size) → W.cell? a = some u → w1.cell? a = some u) ∧ (∀ a, (a.block = bb ∨ a.block = g ∨ a.block = f ∨ a.block = ab ∨ a.block = w.heap.size) → w1.frozen? a = W.frozen? a) := by
  have hsz : bb + 1 ≤ ((w.alloc (.cells cs T)).alloc (.cells cs2 T2)).drew.heap.size := by
    show _ ≤ ((w.alloc _).alloc _).heap.size
    simp; omega
  have hs1 : (w.alloc (.cells cs T)).heap.size = w.heap.size + 1 := by simp
  have hs2 : ((w.alloc (.cells cs T)).alloc (.cells cs2 T2)).drew.heap.size = w.heap.size + 2 := by
    show ((w.alloc _).alloc _).heap.size = _
    simp
  have hfar : ∀ a : Addr, (a.block = bb ∨ a.block = g ∨ a.block = f ∨ a.block = ab ∨ a.block = w.heap.size) → a.block < w.heap.size + 1 ∧ some a.block ≠ (Value.slice p n cap0).ownBlock := by
    intro a ha
    refine ⟨by omega, fun e => ?_⟩
    have h1 := hq _ e.symm
    have h2 := hql _ e.symm
    have h3 := haq _ e.symm
    omega
  refine ⟨?_, _, rfl, ?_, ?_, ?_⟩
  · rcases hat with e | rfl
    · have h1 := hq _ e
      have h2 := hql _ e
      omega
    · omega
  · exact ((((below1 (w.alloc (.cells cs T)) (.cells cs2 T2)).mono (by simp; omega)).drew).grown hgrow hsz (fun k hk => (hql k hk).1))
  · intro a u ha hu
    obtain ⟨h1, h2⟩ := hfar a ha
    rw [hgrow.cell_far a (by omega) h2]
    exact old_cell hu _
  · intro a ha
    obtain ⟨h1, h2⟩ := hfar a ha
    rw [hgrow.frozen_far a (by omega) h2]
    have h3 := (below1 (w.alloc (.cells cs T)) (.cells cs2 T2)).frozen (p := a) (by rw [hs1]; exact h1)
    exact h3

theorem EmAt.later {bb g f : Nat} {A : Nat → Value} {w w' : World} {v x : Value} (h : EmAt bb g f A w v x) (hb : Below w.heap.size w w') : EmAt bb g f A w' v x :=
  ⟨h.b.later hb h.b.lt, h.g0, h.f0, h.gf, cells_later hb _ _ h.cg, frozen_later hb h.cg h.zg, cells_later hb _ _ h.cf, frozen_later hb h.cf h.zf, h.a19, h.a20, h.a21⟩
theorem EmAt.setF {bb g f : Nat} {A : Nat → Value} {w : World} {v x : Value} (h : EmAt bb g f A w v x) (z : Value) : EmAt bb g f A (w.setCell ⟨f, 0, none⟩ z) v z := by
  have hf0 := h.f0
  have hgf := h.gf
  refine ⟨⟨fun j h1 h2 => ?_, fun j => frozen_set (h.b.f j) _⟩, h.g0, h.f0, h.gf, ?_, frozen_set h.zg _, cell_set h.cf _, frozen_set h.zf _, h.a19, h.a20, h.a21⟩
  · rw [World.cell?_setCell_far _ _ _ _ (by show f ≠ bb; omega)]; exact h.b.c j h1 h2
  · rw [World.cell?_setCell_far _ _ _ _ (by exact Ne.symm hgf)]; exact h.cg

def Emit1Says (bb g f : Nat) (A : Nat → Value) (n : Nat) (w : World) (e : Ending) (w' : World) : Prop :=
  e = .returned (.tuple #[]) ∧ ∃ v' xs', EmAt bb g f A w' v' (.bool true) ∧ w'.ownsRow (bb + 1) 49 14 v' (n + 1) xs' ∧ (∀ q, v'.ownBlock = some q → bb < q ∧ q ≠ g ∧ q ≠ f) ∧ Below bb w w'

set_option maxRecDepth 100000 in
set_option maxHeartbeats 4000000 in
theorem emit_1 (bb g f ab : Nat) (A : Nat → Value) (w : World) (v : Value) (y : Bool) (n : Nat) (xs : List Value) (h : EmAt bb g f A w v (.bool y)) (hown : w.ownsRow (bb + 1) 49 14 v n xs) (hn : n ≤ 2) (hq : ∀ q, v.ownBlock = some q → bb < q ∧ q ≠ g ∧ q ≠ f)
    (hab : ab < w.heap.size) (hag : ab ≠ g) (haq : ∀ k, v.ownBlock = some k → k ≠ ab) :
    Calls Tryz.prog 103 #[.pointer (some ⟨bb, 0, none⟩), .agg #[.int .i64 1, .int .i64 0, .slice none 0 0, .string ⟨#[]⟩, .int .i64 0, .int .i64 4, .string ⟨#[]⟩, .int .i64 0, .slice none 0 0, .slice none 0 0, .slice none 0 0, .int .i64 0, .int .i64 0, .int .i64 0]] w (Emit1Says bb g f A n w) := by
  obtain ⟨p, cap0, rfl⟩ := own_slice hown
  obtain ⟨cap19, a19⟩ := h.a19
  obtain ⟨cap21, a21⟩ := h.a21
  have a20 := h.a20
  have c19 := h.b.c 19 (by omega) (by omega)
  have c20 := h.b.c 20 (by omega) (by omega)
  have c21 := h.b.c 21 (by omega) (by omega)
  rw [a19] at c19
  rw [a20] at c20
  rw [a21] at c21
  have cg := h.cg
  have zg := h.zg
  have hlt := h.b.lt
  have hgl : g < w.heap.size := by have := lt_of_cell cg; simpa using this
  have hfl : f < w.heap.size := by have := lt_of_cell h.cf; simpa using this
  have g0 := h.g0
  have f0 := h.f0
  have gf := h.gf
  obtain ⟨i0, hi, hz0, hz1, hz2⟩ := info_parts Tryz.infoIns
  have Hi := Lib.hid hi
  have Hz0 := Lib.hid hz0
  have Hz1 := Lib.hid hz1
  have Hz2 := Lib.hid hz2
  have n1 : bb ≠ w.heap.size := by omega
  have n2 : g ≠ w.heap.size := by omega
  have n3 : bb ≠ g := by omega
  have n4 : bb ≠ w.heap.size + 1 := by omega
  have n5 : g ≠ w.heap.size + 1 := by omega
  have hnew : ∀ j u, (#[.int .i64 1, .int .i64 0, .slice none 0 0, .string ⟨#[]⟩, .int .i64 0, .int .i64 4, .string ⟨#[]⟩, .int .i64 0, .slice none 0 0, .slice none 0 0, .slice none 0 0, .int .i64 0, .int .i64 0, .int .i64 0] : Array Value).toList[j]? = some u → ((w.alloc (.cells #[.int .i64 1, .int .i64 0, .slice none 0 0, .string ⟨#[]⟩, .int .i64 0, .int .i64 4, .string ⟨#[]⟩, .int .i64 0, .slice none 0 0, .slice none 0 0, .slice none 0 0, .int .i64 0, .int .i64 0, .int .i64 0] 49)).alloc (.cells #[.int .i64 1, .int .i64 0, .slice none 0 0, .string ⟨#[]⟩, .int .i64 0, .int .i64 4, .string ⟨#[]⟩, .int .i64 0, .slice none 0 0, .slice none 0 0, .slice none 0 0, .int .i64 0, .int .i64 0, .int .i64 0] 49)).drew.cell? ((⟨w.heap.size + 1, 0, none⟩ : Addr).add j) = some u := by
    intro j u hj
    have hadd : (⟨w.heap.size + 1, 0, none⟩ : Addr).add j = ⟨w.heap.size + 1, j, none⟩ := by unfold Addr.add; split <;> simp_all
    rw [hadd]
    show ((w.alloc _).alloc _).cell? _ = _
    rw [new_cell _ _ _ _ _ (by simp)]
    simpa using hj
  have hsz : bb + 1 ≤ ((w.alloc (.cells #[.int .i64 1, .int .i64 0, .slice none 0 0, .string ⟨#[]⟩, .int .i64 0, .int .i64 4, .string ⟨#[]⟩, .int .i64 0, .slice none 0 0, .slice none 0 0, .slice none 0 0, .int .i64 0, .int .i64 0, .int .i64 0] 49)).alloc (.cells #[.int .i64 1, .int .i64 0, .slice none 0 0, .string ⟨#[]⟩, .int .i64 0, .int .i64 4, .string ⟨#[]⟩, .int .i64 0, .slice none 0 0, .slice none 0 0, .slice none 0 0, .int .i64 0, .int .i64 0, .int .i64 0] 49)).drew.heap.size := by
    show _ ≤ ((w.alloc _).alloc _).heap.size
    simp; omega
  have hone : ∀ u ∈ (#[.int .i64 1, .int .i64 0, .slice none 0 0, .string ⟨#[]⟩, .int .i64 0, .int .i64 4, .string ⟨#[]⟩, .int .i64 0, .slice none 0 0, .slice none 0 0, .slice none 0 0, .int .i64 0, .int .i64 0, .int .i64 0] : Array Value).toList, u.oneCell' = true := by
    intro u hu; simp at hu; rcases hu with rfl | rfl | rfl | rfl | rfl | rfl | rfl | rfl | rfl | rfl | rfl | rfl | rfl | rfl <;> rfl
  have hown2 : ((w.alloc (.cells #[.int .i64 1, .int .i64 0, .slice none 0 0, .string ⟨#[]⟩, .int .i64 0, .int .i64 4, .string ⟨#[]⟩, .int .i64 0, .slice none 0 0, .slice none 0 0, .slice none 0 0, .int .i64 0, .int .i64 0, .int .i64 0] 49)).alloc (.cells #[.int .i64 1, .int .i64 0, .slice none 0 0, .string ⟨#[]⟩, .int .i64 0, .int .i64 4, .string ⟨#[]⟩, .int .i64 0, .slice none 0 0, .slice none 0 0, .slice none 0 0, .int .i64 0, .int .i64 0, .int .i64 0] 49)).drew.ownsRow (bb + 1) 49 14 (.slice p n cap0) n xs := ((hown.alloc _).alloc _).drew
  have hmx : n + 1 ≤ maxLen := by unfold maxLen; omega
  have Hown := Lib.hid hown2
  have Hq := Lib.hid hq
  have Haq := Lib.hid haq
  have Hql := Lib.hid (own_lt hown)
  have Hh := Lib.hid h
  have HA := Lib.hid (And.intro a19 (And.intro a20 a21))
  clear hi hz0 hz1 hz2 hown hown2 hq haq h a19 a20 a21
  go_enter Tryz.func103, Tryz.ntmps103
  go_upto_region 1 with fail
  go_cut [4] (fun s4 wx => ∃ q cap2 xs2, s4 = .slice (some ⟨q, 0, none⟩) (n + 1) cap2 ∧ wx.ownsRow (bb + 1) 49 14 s4 (n + 1) xs2 ∧ (bb < q ∧ q ≠ g ∧ q ≠ f ∧ q ≠ w.heap.size) ∧
      ∃ W, W = w.alloc (.cells #[.int .i64 1, .int .i64 0, .slice none 0 0, .string ⟨#[]⟩, .int .i64 0, .int .i64 4, .string ⟨#[]⟩, .int .i64 0, .slice none 0 0, .slice none 0 0, .slice none 0 0, .int .i64 0, .int .i64 0, .int .i64 0] 49) ∧ Below (bb + 1) W wx ∧ (∀ a u, (a.block = bb ∨ a.block = g ∨ a.block = f ∨ a.block = ab ∨ a.block = w.heap.size) → W.cell? a = some u → wx.cell? a = some u) ∧ (∀ a, (a.block = bb ∨ a.block = g ∨ a.block = f ∨ a.block = ab ∨ a.block = w.heap.size) → wx.frozen? a = W.frozen? a))
  case first =>
    go_region_law (first | (refine step_append_lies _ (by rfl) _ _ _ (by rfl) (bb + 1) 49 i0 _ 14 192 Tryz.underlying46 Hi.out Hz0.out Hz1.out Hz2.out rfl (by omega) (.slice p n cap0) n xs (by rfl) Hown.out ⟨w.heap.size + 1, 0, none⟩ 1 1 (#[.int .i64 1, .int .i64 0, .slice none 0 0, .string ⟨#[]⟩, .int .i64 0, .int .i64 4, .string ⟨#[]⟩, .int .i64 0, .slice none 0 0, .slice none 0 0, .slice none 0 0, .int .i64 0, .int .i64 0, .int .i64 0] : Array Value).toList (by rfl) (by rfl) hnew hone (by omega) hmx (by omega) hsz (w.heap.size + 1 + 1) (by simp) ?_; intro q cap2 w1 hown1 hgrow hat hlt1))
    all_goals (go_wp2_with fail; go_meet)
    all_goals exact ⟨q, cap2, _, rfl, hown1, emit_meet hlt hgl hfl g0 f0 hab Haq.out Hq.out Hql.out hgrow hat⟩
  case rest =>
    obtain ⟨q, cap2, xs2, rfl, ho, hqq, W, hW, hB, hkeep, hfr⟩ := hcut
    have hb0 : BAt bb A W := by rw [hW]; exact Hh.out.b.later (below1 w _) hlt
    have hbx : ∀ j, j < 14 → W.cell? ⟨w.heap.size, j, none⟩ = some ((#[.int .i64 1, .int .i64 0, .slice none 0 0, .string ⟨#[]⟩, .int .i64 0, .int .i64 4, .string ⟨#[]⟩, .int .i64 0, .slice none 0 0, .slice none 0 0, .slice none 0 0, .int .i64 0, .int .i64 0, .int .i64 0] : Array Value)[j]?.getD undef) := by
      intro j hj; rw [hW, new_cell _ _ _ _ _ rfl]; simp [hj]
    have hbw : Below (bb + 1) w W := by rw [hW]; exact (below1 w _).mono (by omega)
    have hcg : W.cell? ⟨g, 0, none⟩ = some (.slice p n cap0) := by rw [hW]; exact old_cell cg _
    have hzg : W.frozen? ⟨g, 0, none⟩ = false := by rw [hW, (below1 w _).frozen (by exact hgl)]; exact zg
    have hcf : W.cell? ⟨f, 0, none⟩ = some (.bool y) := by rw [hW]; exact old_cell Hh.out.cf _
    have hzf : W.frozen? ⟨f, 0, none⟩ = false := by rw [hW, (below1 w _).frozen (by exact hfl)]; exact Hh.out.zf
    have hsW : W.heap.size = w.heap.size + 1 := by rw [hW]; simp
    have hE : EmAt bb g f A wc (.slice p n cap0) (.bool y) := by
      refine ⟨⟨fun j h1 h2 => hkeep _ _ (.inl rfl) (hb0.c j h1 h2), fun j => by rw [hfr _ (.inl rfl)]; exact hb0.f j⟩, g0, f0, gf, hkeep _ _ (.inr (.inl rfl)) hcg, by rw [hfr _ (.inr (.inl rfl))]; exact hzg, hkeep _ _ (.inr (.inr (.inl rfl))) hcf, by rw [hfr _ (.inr (.inr (.inl rfl)))]; exact hzf, ⟨_, HA.out.1⟩, HA.out.2.1, ⟨_, HA.out.2.2⟩⟩
    have hbc : ∀ j, j < 14 → wc.cell? ⟨w.heap.size, j, none⟩ = some ((#[.int .i64 1, .int .i64 0, .slice none 0 0, .string ⟨#[]⟩, .int .i64 0, .int .i64 4, .string ⟨#[]⟩, .int .i64 0, .slice none 0 0, .slice none 0 0, .slice none 0 0, .int .i64 0, .int .i64 0, .int .i64 0] : Array Value)[j]?.getD undef) := fun j hj => hkeep _ _ (.inr (.inr (.inr (.inr rfl)))) (hbx j hj)
    have hBw : Below (bb + 1) w wc := hbw.trans hB
    have hzc : w.heap.size < wc.heap.size := by have := hB.size; omega
    have habc : ∀ j u, w.cell? ⟨ab, j, none⟩ = some u → wc.cell? ⟨ab, j, none⟩ = some u := fun j u hu => hkeep _ _ (.inr (.inr (.inr (.inl rfl)))) (by rw [hW]; exact old_cell hu _)
    clear hkeep hfr hb0 hbx hbw hcg hzg hcf hzf hsW hB hW c19 c20 c21 cg zg Hh
    have c19 := hE.b.c 19 (by omega) (by omega)
    have c20 := hE.b.c 20 (by omega) (by omega)
    rw [HA.out.1] at c19
    rw [HA.out.2.1] at c20
    have cg := hE.cg
    have zg := hE.zg
    have Ho := Lib.hid ho
    have HE := Lib.hid hE
    have Hbc := Lib.hid hbc
    have Hqq := Lib.hid hqq
    have gq : g ≠ q := Ne.symm hqq.2.1
    clear ho hE hbc hqq hnew hsz hone hmx Hown
    have k19 : ∀ v, (wc.setCell ⟨g, 0, none⟩ v).drew.cell? ⟨bb, 19, none⟩ = some (.slice (some ⟨g, 0, none⟩) 1 cap19) := fun v => by
      show (wc.setCell _ v).cell? _ = _
      rw [World.cell?_setCell_far _ _ _ _ (by exact Ne.symm n3)]; exact c19
    have k20 : ∀ v, (wc.setCell ⟨g, 0, none⟩ v).drew.cell? ⟨bb, 20, none⟩ = some (.int .i64 0) := fun v => by
      show (wc.setCell _ v).cell? _ = _
      rw [World.cell?_setCell_far _ _ _ _ (by exact Ne.symm n3)]; exact c20
    go_wp2_with fail
    go_region_held3 (fun wx => wx.cell? ⟨bb, 19, none⟩ = some (.slice (some ⟨g, 0, none⟩) 1 cap19) ∧ wx.cell? ⟨bb, 20, none⟩ = some (.int .i64 0)) (first | go_keep | exact ⟨k19 _, k20 _⟩) (fail)
    obtain ⟨W3, hW3⟩ : ∃ W, W = (wc.setCell ⟨g, 0, none⟩ (.slice (some ⟨q, 0, none⟩) (n + 1) cap2)).drew := ⟨_, rfl⟩
    have hE3 : EmAt bb g f A W3 (.slice (some ⟨q, 0, none⟩) (n + 1) cap2) (.bool y) := by
      rw [hW3]
      refine ⟨⟨fun j h1 h2 => ?_, fun j => ?_⟩, g0, f0, gf, ?_, ?_, ?_, ?_, ⟨_, HA.out.1⟩, HA.out.2.1, ⟨_, HA.out.2.2⟩⟩
      · show (wc.setCell _ _).cell? _ = _
        rw [World.cell?_setCell_far _ _ _ _ (by exact Ne.symm n3)]; exact HE.out.b.c j h1 h2
      · show (wc.setCell _ _).frozen? _ = _
        rw [World.frozen?_setCell]; exact HE.out.b.f j
      · exact cell_set HE.out.cg _
      · show (wc.setCell _ _).frozen? _ = _
        rw [World.frozen?_setCell]; exact HE.out.zg
      · show (wc.setCell _ _).cell? _ = _
        rw [World.cell?_setCell_far _ _ _ _ (by exact gf)]; exact HE.out.cf
      · show (wc.setCell _ _).frozen? _ = _
        rw [World.frozen?_setCell]; exact HE.out.zf
    have ho3 : W3.ownsRow (bb + 1) 49 14 (.slice (some ⟨q, 0, none⟩) (n + 1) cap2) (n + 1) xs2 := own_keep Ho.out fun k hk => by
      simp [Value.ownBlock] at hk
      subst hk
      rw [hW3]
      exact Below.heap_setCell wc ⟨g, 0, none⟩ _ _ (Ne.symm gq)
    have hb3 : ∀ j, j < 14 → W3.cell? ⟨w.heap.size, j, none⟩ = some ((#[.int .i64 1, .int .i64 0, .slice none 0 0, .string ⟨#[]⟩, .int .i64 0, .int .i64 4, .string ⟨#[]⟩, .int .i64 0, .slice none 0 0, .slice none 0 0, .slice none 0 0, .int .i64 0, .int .i64 0, .int .i64 0] : Array Value)[j]?.getD undef) := fun j hj => by
      rw [hW3]
      show (wc.setCell _ _).cell? _ = _
      rw [World.cell?_setCell_far _ _ _ _ (by exact n2)]; exact Hbc.out j hj
    have hab3 : ∀ j u, w.cell? ⟨ab, j, none⟩ = some u → W3.cell? ⟨ab, j, none⟩ = some u := fun j u hu => by
      rw [hW3]
      show (wc.setCell _ _).cell? _ = _
      rw [World.cell?_setCell_far _ _ _ _ (by exact Ne.symm hag)]; exact habc j u hu
    have hB3 : Below bb w W3 := by rw [hW3]; exact ((hBw.mono (by omega)).trans (below_set bb wc ⟨g, 0, none⟩ _ (by exact Nat.le_of_lt g0))).drew
    have hz3 : w.heap.size < W3.heap.size := by rw [hW3]; show _ < (wc.setCell _ _).heap.size; rw [size_set]; exact hzc
    rw [← hW3]
    have Hab := Lib.hid hab3
    clear hab3 habc hW3 k19 k20 c19 c20 cg zg Hbc Ho HE hBw hzc
    have hr3 : World.rangeAt W3 w.heap.size 0 (#[.int .i64 1, .int .i64 0, .slice none 0 0, .string ⟨#[]⟩, .int .i64 0, .int .i64 4, .string ⟨#[]⟩, .int .i64 0, .slice none 0 0, .slice none 0 0, .slice none 0 0, .int .i64 0, .int .i64 0, .int .i64 0] : Array Value).toList := fun j v hj => by
      have hj2 : (#[.int .i64 1, .int .i64 0, .slice none 0 0, .string ⟨#[]⟩, .int .i64 0, .int .i64 4, .string ⟨#[]⟩, .int .i64 0, .slice none 0 0, .slice none 0 0, .slice none 0 0, .int .i64 0, .int .i64 0, .int .i64 0] : Array Value)[j]? = some v := by simpa using hj
      have hjl : j < 14 := by obtain ⟨h, _⟩ := Array.getElem?_eq_some_iff.1 hj2; simpa using h
      have := hb3 j hjl
      rw [hj2] at this
      rw [Nat.zero_add]; exact this
    have hco := fun w => consumes_1 w
    have hfi := fun w => fills_1 w
    unfold i1C at hco hfi
    unfold FillSays at *
    have Hco := Lib.hid hco
    have Hfi := Lib.hid hfi
    have Hr3 := Lib.hid hr3
    have HE3 := Lib.hid hE3
    have Ho3 := Lib.hid ho3
    have Hb3 := Lib.hid hb3
    clear hco hfi hr3 hE3 ho3 hb3
    go_wp2_with (with_reducible refine wpList_load_mid rfl 49 _ rfl w.heap.size 0 rfl (#[.int .i64 1, .int .i64 0, .slice none 0 0, .string ⟨#[]⟩, .int .i64 0, .int .i64 4, .string ⟨#[]⟩, .int .i64 0, .slice none 0 0, .slice none 0 0, .slice none 0 0, .int .i64 0, .int .i64 0, .int .i64 0] : Array Value).toList _ Hr3.out Tryz.underlying49 rfl (by kernel_rfl) ?_)
    refine (Hco.out _).mono ?_
    rintro e W4 ⟨rfl, hb4⟩
    have hE4 := HE3.out.later hb4
    have ho4 : W4.ownsRow (bb + 1) 49 14 (.slice (some ⟨q, 0, none⟩) (n + 1) cap2) (n + 1) xs2 := own_keep Ho3.out fun z hz => hb4.block z (own_lt Ho3.out z hz).2
    have hr4 : World.rangeAt W4 w.heap.size 0 (#[.int .i64 1, .int .i64 0, .slice none 0 0, .string ⟨#[]⟩, .int .i64 0, .int .i64 4, .string ⟨#[]⟩, .int .i64 0, .slice none 0 0, .slice none 0 0, .slice none 0 0, .int .i64 0, .int .i64 0, .int .i64 0] : Array Value).toList := fun j v hj => cells_later hb4 _ _ (Hr3.out j v hj)
    have hB4 := hB3.trans (hb4.mono (Nat.le_of_lt HE3.out.b.lt))
    have HE4 := Lib.hid hE4
    have Ho4 := Lib.hid ho4
    have Hr4 := Lib.hid hr4
    clear hE4 ho4 hr4
    have x0 : W4.cell? ⟨w.heap.size, 0, none⟩ = some (.int .i64 1) := Hr4.out 0 _ rfl
    have x4 : W4.cell? ⟨w.heap.size, 4, none⟩ = some (.int .i64 0) := Hr4.out 4 _ rfl
    go_wp2_with fail
    go_loop [37] (fun ii => ii = .int .i64 0) (fun _ => 0)
    case atStart => rfl
    case round =>
      subst hrel
      go_wp2_with (with_reducible refine wpList_load_mid rfl 49 _ rfl w.heap.size 0 rfl (#[.int .i64 1, .int .i64 0, .slice none 0 0, .string ⟨#[]⟩, .int .i64 0, .int .i64 4, .string ⟨#[]⟩, .int .i64 0, .slice none 0 0, .slice none 0 0, .slice none 0 0, .int .i64 0, .int .i64 0, .int .i64 0] : Array Value).toList _ Hr4.out Tryz.underlying49 rfl (by kernel_rfl) ?_)
      refine (Hfi.out _).mono ?_
      rintro e W5 ⟨v5, rfl, ⟨z, capz, rfl, hz1, hz2, hz3, hz4, hz5⟩, hb5⟩
      clear x0 x4
      have hE5 := HE4.out.later hb5
      have ho5 : W5.ownsRow (bb + 1) 49 14 (.slice (some ⟨q, 0, none⟩) (n + 1) cap2) (n + 1) xs2 := own_keep Ho4.out fun z hz => hb5.block z (own_lt Ho4.out z hz).2
      have hr5 : World.rangeAt W5 w.heap.size 0 (#[.int .i64 1, .int .i64 0, .slice none 0 0, .string ⟨#[]⟩, .int .i64 0, .int .i64 4, .string ⟨#[]⟩, .int .i64 0, .slice none 0 0, .slice none 0 0, .slice none 0 0, .int .i64 0, .int .i64 0, .int .i64 0] : Array Value).toList := fun j v hj => cells_later hb5 _ _ (Hr4.out j v hj)
      have hB5 := hB4.trans (hb5.mono (Nat.le_of_lt HE4.out.b.lt))
      have HE5 := Lib.hid hE5
      have Ho5 := Lib.hid ho5
      have Hr5 := Lib.hid hr5
      clear hE5 ho5 hr5
      have c21 := HE5.out.b.c 21 (by omega) (by omega)
      rw [HA.out.2.2] at c21
      have cf := HE5.out.cf
      have zf := HE5.out.zf
      go_wp2_with fail
      go_loopw [64] (fun ii wr => (ii = .int .i64 0 ∧ wr = W5) ∨ (ii = .int .i64 1 ∧ wr = W5.setCell ⟨f, 0, none⟩ (.bool true))) (fun ii _ => 1 - (intOf ii).toNat)
      case atStart => exact .inl ⟨rfl, rfl⟩
      case round =>
        rcases hrel with ⟨rfl, rfl⟩ | ⟨rfl, rfl⟩
        · go_wp2_with fail
          go_roundw
          case rel => exact .inr ⟨by first | rfl | trivial, by first | rfl | trivial⟩
          case measure => simp [intOf]
        · clear c21 cf zf hz4
          have hE6 := HE5.out.setF (.bool true)
          have ho6 : (W5.setCell ⟨f, 0, none⟩ (.bool true)).ownsRow (bb + 1) 49 14 (.slice (some ⟨q, 0, none⟩) (n + 1) cap2) (n + 1) xs2 := own_keep Ho5.out fun k hk => by
            simp [Value.ownBlock] at hk
            subst hk
            exact Below.heap_setCell W5 ⟨f, 0, none⟩ _ _ Hqq.out.2.2.1
          have hr6 : World.rangeAt (W5.setCell ⟨f, 0, none⟩ (.bool true)) w.heap.size 0 (#[.int .i64 1, .int .i64 0, .slice none 0 0, .string ⟨#[]⟩, .int .i64 0, .int .i64 4, .string ⟨#[]⟩, .int .i64 0, .slice none 0 0, .slice none 0 0, .slice none 0 0, .int .i64 0, .int .i64 0, .int .i64 0] : Array Value).toList := fun j v hj => by
            rw [World.cell?_setCell_far _ _ _ _ (by show f ≠ w.heap.size; omega)]; exact Hr5.out j v hj
          have hB6 := hB5.trans (below_set bb W5 ⟨f, 0, none⟩ (.bool true) (by exact Nat.le_of_lt f0))
          generalize (W5.setCell ⟨f, 0, none⟩ (.bool true)) = W6 at hE6 ho6 hr6 hB6 ⊢
          have HE6 := Lib.hid hE6
          have Ho6 := Lib.hid ho6
          have Hr6 := Lib.hid hr6
          clear hE6 ho6 hr6
          go_wp2_with fail
          go_end0
          exact ⟨rfl, _, xs2, HE6.out, Ho6.out, fun k hk => by simp [Value.ownBlock] at hk; subst hk; exact ⟨Hqq.out.1, Hqq.out.2.1, Hqq.out.2.2.1⟩, hB6⟩

def Emit2Says (bb g f : Nat) (A : Nat → Value) (n : Nat) (w : World) (e : Ending) (w' : World) : Prop :=
  e = .returned (.tuple #[]) ∧ ∃ v' xs', EmAt bb g f A w' v' (.bool false) ∧ w'.ownsRow (bb + 1) 49 14 v' (n + 1) xs' ∧ (∀ q, v'.ownBlock = some q → bb < q ∧ q ≠ g ∧ q ≠ f) ∧ Below bb w w'

set_option maxRecDepth 100000 in
set_option maxHeartbeats 4000000 in
theorem emit_2 (bb g f ab : Nat) (A : Nat → Value) (w : World) (v : Value) (y : Bool) (n : Nat) (xs : List Value) (h : EmAt bb g f A w v (.bool y)) (hown : w.ownsRow (bb + 1) 49 14 v n xs) (hn : n ≤ 2) (hq : ∀ q, v.ownBlock = some q → bb < q ∧ q ≠ g ∧ q ≠ f)
    (hab : ab < w.heap.size) (hag : ab ≠ g) (haq : ∀ k, v.ownBlock = some k → k ≠ ab) (h0 : w.cell? ⟨ab, 0, none⟩ = some (.int .i64 2)) (h1 : w.cell? ⟨ab, 1, none⟩ = some (.int .i64 0)) (h2 : w.cell? ⟨ab, 2, none⟩ = some (.slice none 0 0)) :
    Calls Tryz.prog 103 #[.pointer (some ⟨bb, 0, none⟩), .agg #[.int .i64 20, .int .i64 0, .slice (some ⟨ab, 0, none⟩) 1 1, .string ⟨#[]⟩, .int .i64 0, .int .i64 0, .string ⟨#[]⟩, .int .i64 0, .slice none 0 0, .slice none 0 0, .slice none 0 0, .int .i64 0, .int .i64 0, .int .i64 0]] w (Emit2Says bb g f A n w) := by
  obtain ⟨p, cap0, rfl⟩ := own_slice hown
  obtain ⟨cap19, a19⟩ := h.a19
  obtain ⟨cap21, a21⟩ := h.a21
  have a20 := h.a20
  have c19 := h.b.c 19 (by omega) (by omega)
  have c20 := h.b.c 20 (by omega) (by omega)
  have c21 := h.b.c 21 (by omega) (by omega)
  rw [a19] at c19
  rw [a20] at c20
  rw [a21] at c21
  have cg := h.cg
  have zg := h.zg
  have hlt := h.b.lt
  have hgl : g < w.heap.size := by have := lt_of_cell cg; simpa using this
  have hfl : f < w.heap.size := by have := lt_of_cell h.cf; simpa using this
  have g0 := h.g0
  have f0 := h.f0
  have gf := h.gf
  obtain ⟨i0, hi, hz0, hz1, hz2⟩ := info_parts Tryz.infoIns
  have Hi := Lib.hid hi
  have Hz0 := Lib.hid hz0
  have Hz1 := Lib.hid hz1
  have Hz2 := Lib.hid hz2
  have n1 : bb ≠ w.heap.size := by omega
  have n2 : g ≠ w.heap.size := by omega
  have n3 : bb ≠ g := by omega
  have n4 : bb ≠ w.heap.size + 1 := by omega
  have n5 : g ≠ w.heap.size + 1 := by omega
  have hnew : ∀ j u, (#[.int .i64 20, .int .i64 0, .slice (some ⟨ab, 0, none⟩) 1 1, .string ⟨#[]⟩, .int .i64 0, .int .i64 0, .string ⟨#[]⟩, .int .i64 0, .slice none 0 0, .slice none 0 0, .slice none 0 0, .int .i64 0, .int .i64 0, .int .i64 0] : Array Value).toList[j]? = some u → ((w.alloc (.cells #[.int .i64 20, .int .i64 0, .slice (some ⟨ab, 0, none⟩) 1 1, .string ⟨#[]⟩, .int .i64 0, .int .i64 0, .string ⟨#[]⟩, .int .i64 0, .slice none 0 0, .slice none 0 0, .slice none 0 0, .int .i64 0, .int .i64 0, .int .i64 0] 49)).alloc (.cells #[.int .i64 20, .int .i64 0, .slice (some ⟨ab, 0, none⟩) 1 1, .string ⟨#[]⟩, .int .i64 0, .int .i64 0, .string ⟨#[]⟩, .int .i64 0, .slice none 0 0, .slice none 0 0, .slice none 0 0, .int .i64 0, .int .i64 0, .int .i64 0] 49)).drew.cell? ((⟨w.heap.size + 1, 0, none⟩ : Addr).add j) = some u := by
    intro j u hj
    have hadd : (⟨w.heap.size + 1, 0, none⟩ : Addr).add j = ⟨w.heap.size + 1, j, none⟩ := by unfold Addr.add; split <;> simp_all
    rw [hadd]
    show ((w.alloc _).alloc _).cell? _ = _
    rw [new_cell _ _ _ _ _ (by simp)]
    simpa using hj
  have hsz : bb + 1 ≤ ((w.alloc (.cells #[.int .i64 20, .int .i64 0, .slice (some ⟨ab, 0, none⟩) 1 1, .string ⟨#[]⟩, .int .i64 0, .int .i64 0, .string ⟨#[]⟩, .int .i64 0, .slice none 0 0, .slice none 0 0, .slice none 0 0, .int .i64 0, .int .i64 0, .int .i64 0] 49)).alloc (.cells #[.int .i64 20, .int .i64 0, .slice (some ⟨ab, 0, none⟩) 1 1, .string ⟨#[]⟩, .int .i64 0, .int .i64 0, .string ⟨#[]⟩, .int .i64 0, .slice none 0 0, .slice none 0 0, .slice none 0 0, .int .i64 0, .int .i64 0, .int .i64 0] 49)).drew.heap.size := by
    show _ ≤ ((w.alloc _).alloc _).heap.size
    simp; omega
  have hone : ∀ u ∈ (#[.int .i64 20, .int .i64 0, .slice (some ⟨ab, 0, none⟩) 1 1, .string ⟨#[]⟩, .int .i64 0, .int .i64 0, .string ⟨#[]⟩, .int .i64 0, .slice none 0 0, .slice none 0 0, .slice none 0 0, .int .i64 0, .int .i64 0, .int .i64 0] : Array Value).toList, u.oneCell' = true := by
    intro u hu; simp at hu; rcases hu with rfl | rfl | rfl | rfl | rfl | rfl | rfl | rfl | rfl | rfl | rfl | rfl | rfl | rfl <;> rfl
  have hown2 : ((w.alloc (.cells #[.int .i64 20, .int .i64 0, .slice (some ⟨ab, 0, none⟩) 1 1, .string ⟨#[]⟩, .int .i64 0, .int .i64 0, .string ⟨#[]⟩, .int .i64 0, .slice none 0 0, .slice none 0 0, .slice none 0 0, .int .i64 0, .int .i64 0, .int .i64 0] 49)).alloc (.cells #[.int .i64 20, .int .i64 0, .slice (some ⟨ab, 0, none⟩) 1 1, .string ⟨#[]⟩, .int .i64 0, .int .i64 0, .string ⟨#[]⟩, .int .i64 0, .slice none 0 0, .slice none 0 0, .slice none 0 0, .int .i64 0, .int .i64 0, .int .i64 0] 49)).drew.ownsRow (bb + 1) 49 14 (.slice p n cap0) n xs := ((hown.alloc _).alloc _).drew
  have hmx : n + 1 ≤ maxLen := by unfold maxLen; omega
  have Hown := Lib.hid hown2
  have Hq := Lib.hid hq
  have Haq := Lib.hid haq
  have Hql := Lib.hid (own_lt hown)
  have Hh := Lib.hid h
  have HA := Lib.hid (And.intro a19 (And.intro a20 a21))
  clear hi hz0 hz1 hz2 hown hown2 hq haq h a19 a20 a21
  go_enter Tryz.func103, Tryz.ntmps103
  go_upto_region 1 with fail
  go_cut [4] (fun s4 wx => ∃ q cap2 xs2, s4 = .slice (some ⟨q, 0, none⟩) (n + 1) cap2 ∧ wx.ownsRow (bb + 1) 49 14 s4 (n + 1) xs2 ∧ (bb < q ∧ q ≠ g ∧ q ≠ f ∧ q ≠ w.heap.size) ∧
      ∃ W, W = w.alloc (.cells #[.int .i64 20, .int .i64 0, .slice (some ⟨ab, 0, none⟩) 1 1, .string ⟨#[]⟩, .int .i64 0, .int .i64 0, .string ⟨#[]⟩, .int .i64 0, .slice none 0 0, .slice none 0 0, .slice none 0 0, .int .i64 0, .int .i64 0, .int .i64 0] 49) ∧ Below (bb + 1) W wx ∧ (∀ a u, (a.block = bb ∨ a.block = g ∨ a.block = f ∨ a.block = ab ∨ a.block = w.heap.size) → W.cell? a = some u → wx.cell? a = some u) ∧ (∀ a, (a.block = bb ∨ a.block = g ∨ a.block = f ∨ a.block = ab ∨ a.block = w.heap.size) → wx.frozen? a = W.frozen? a))
  case first =>
    go_region_law (first | (refine step_append_lies _ (by rfl) _ _ _ (by rfl) (bb + 1) 49 i0 _ 14 192 Tryz.underlying46 Hi.out Hz0.out Hz1.out Hz2.out rfl (by omega) (.slice p n cap0) n xs (by rfl) Hown.out ⟨w.heap.size + 1, 0, none⟩ 1 1 (#[.int .i64 20, .int .i64 0, .slice (some ⟨ab, 0, none⟩) 1 1, .string ⟨#[]⟩, .int .i64 0, .int .i64 0, .string ⟨#[]⟩, .int .i64 0, .slice none 0 0, .slice none 0 0, .slice none 0 0, .int .i64 0, .int .i64 0, .int .i64 0] : Array Value).toList (by rfl) (by rfl) hnew hone (by omega) hmx (by omega) hsz (w.heap.size + 1 + 1) (by simp) ?_; intro q cap2 w1 hown1 hgrow hat hlt1))
    all_goals (go_wp2_with fail; go_meet)
    all_goals exact ⟨q, cap2, _, rfl, hown1, emit_meet hlt hgl hfl g0 f0 hab Haq.out Hq.out Hql.out hgrow hat⟩
  case rest =>
    obtain ⟨q, cap2, xs2, rfl, ho, hqq, W, hW, hB, hkeep, hfr⟩ := hcut
    have hb0 : BAt bb A W := by rw [hW]; exact Hh.out.b.later (below1 w _) hlt
    have hbx : ∀ j, j < 14 → W.cell? ⟨w.heap.size, j, none⟩ = some ((#[.int .i64 20, .int .i64 0, .slice (some ⟨ab, 0, none⟩) 1 1, .string ⟨#[]⟩, .int .i64 0, .int .i64 0, .string ⟨#[]⟩, .int .i64 0, .slice none 0 0, .slice none 0 0, .slice none 0 0, .int .i64 0, .int .i64 0, .int .i64 0] : Array Value)[j]?.getD undef) := by
      intro j hj; rw [hW, new_cell _ _ _ _ _ rfl]; simp [hj]
    have hbw : Below (bb + 1) w W := by rw [hW]; exact (below1 w _).mono (by omega)
    have hcg : W.cell? ⟨g, 0, none⟩ = some (.slice p n cap0) := by rw [hW]; exact old_cell cg _
    have hzg : W.frozen? ⟨g, 0, none⟩ = false := by rw [hW, (below1 w _).frozen (by exact hgl)]; exact zg
    have hcf : W.cell? ⟨f, 0, none⟩ = some (.bool y) := by rw [hW]; exact old_cell Hh.out.cf _
    have hzf : W.frozen? ⟨f, 0, none⟩ = false := by rw [hW, (below1 w _).frozen (by exact hfl)]; exact Hh.out.zf
    have hsW : W.heap.size = w.heap.size + 1 := by rw [hW]; simp
    have hE : EmAt bb g f A wc (.slice p n cap0) (.bool y) := by
      refine ⟨⟨fun j h1 h2 => hkeep _ _ (.inl rfl) (hb0.c j h1 h2), fun j => by rw [hfr _ (.inl rfl)]; exact hb0.f j⟩, g0, f0, gf, hkeep _ _ (.inr (.inl rfl)) hcg, by rw [hfr _ (.inr (.inl rfl))]; exact hzg, hkeep _ _ (.inr (.inr (.inl rfl))) hcf, by rw [hfr _ (.inr (.inr (.inl rfl)))]; exact hzf, ⟨_, HA.out.1⟩, HA.out.2.1, ⟨_, HA.out.2.2⟩⟩
    have hbc : ∀ j, j < 14 → wc.cell? ⟨w.heap.size, j, none⟩ = some ((#[.int .i64 20, .int .i64 0, .slice (some ⟨ab, 0, none⟩) 1 1, .string ⟨#[]⟩, .int .i64 0, .int .i64 0, .string ⟨#[]⟩, .int .i64 0, .slice none 0 0, .slice none 0 0, .slice none 0 0, .int .i64 0, .int .i64 0, .int .i64 0] : Array Value)[j]?.getD undef) := fun j hj => hkeep _ _ (.inr (.inr (.inr (.inr rfl)))) (hbx j hj)
    have hBw : Below (bb + 1) w wc := hbw.trans hB
    have hzc : w.heap.size < wc.heap.size := by have := hB.size; omega
    have habc : ∀ j u, w.cell? ⟨ab, j, none⟩ = some u → wc.cell? ⟨ab, j, none⟩ = some u := fun j u hu => hkeep _ _ (.inr (.inr (.inr (.inl rfl)))) (by rw [hW]; exact old_cell hu _)
    clear hkeep hfr hb0 hbx hbw hcg hzg hcf hzf hsW hB hW c19 c20 c21 cg zg Hh
    have c19 := hE.b.c 19 (by omega) (by omega)
    have c20 := hE.b.c 20 (by omega) (by omega)
    rw [HA.out.1] at c19
    rw [HA.out.2.1] at c20
    have cg := hE.cg
    have zg := hE.zg
    have Ho := Lib.hid ho
    have HE := Lib.hid hE
    have Hbc := Lib.hid hbc
    have Hqq := Lib.hid hqq
    have gq : g ≠ q := Ne.symm hqq.2.1
    clear ho hE hbc hqq hnew hsz hone hmx Hown
    have k19 : ∀ v, (wc.setCell ⟨g, 0, none⟩ v).drew.cell? ⟨bb, 19, none⟩ = some (.slice (some ⟨g, 0, none⟩) 1 cap19) := fun v => by
      show (wc.setCell _ v).cell? _ = _
      rw [World.cell?_setCell_far _ _ _ _ (by exact Ne.symm n3)]; exact c19
    have k20 : ∀ v, (wc.setCell ⟨g, 0, none⟩ v).drew.cell? ⟨bb, 20, none⟩ = some (.int .i64 0) := fun v => by
      show (wc.setCell _ v).cell? _ = _
      rw [World.cell?_setCell_far _ _ _ _ (by exact Ne.symm n3)]; exact c20
    go_wp2_with fail
    go_region_held3 (fun wx => wx.cell? ⟨bb, 19, none⟩ = some (.slice (some ⟨g, 0, none⟩) 1 cap19) ∧ wx.cell? ⟨bb, 20, none⟩ = some (.int .i64 0)) (first | go_keep | exact ⟨k19 _, k20 _⟩) (fail)
    obtain ⟨W3, hW3⟩ : ∃ W, W = (wc.setCell ⟨g, 0, none⟩ (.slice (some ⟨q, 0, none⟩) (n + 1) cap2)).drew := ⟨_, rfl⟩
    have hE3 : EmAt bb g f A W3 (.slice (some ⟨q, 0, none⟩) (n + 1) cap2) (.bool y) := by
      rw [hW3]
      refine ⟨⟨fun j h1 h2 => ?_, fun j => ?_⟩, g0, f0, gf, ?_, ?_, ?_, ?_, ⟨_, HA.out.1⟩, HA.out.2.1, ⟨_, HA.out.2.2⟩⟩
      · show (wc.setCell _ _).cell? _ = _
        rw [World.cell?_setCell_far _ _ _ _ (by exact Ne.symm n3)]; exact HE.out.b.c j h1 h2
      · show (wc.setCell _ _).frozen? _ = _
        rw [World.frozen?_setCell]; exact HE.out.b.f j
      · exact cell_set HE.out.cg _
      · show (wc.setCell _ _).frozen? _ = _
        rw [World.frozen?_setCell]; exact HE.out.zg
      · show (wc.setCell _ _).cell? _ = _
        rw [World.cell?_setCell_far _ _ _ _ (by exact gf)]; exact HE.out.cf
      · show (wc.setCell _ _).frozen? _ = _
        rw [World.frozen?_setCell]; exact HE.out.zf
    have ho3 : W3.ownsRow (bb + 1) 49 14 (.slice (some ⟨q, 0, none⟩) (n + 1) cap2) (n + 1) xs2 := own_keep Ho.out fun k hk => by
      simp [Value.ownBlock] at hk
      subst hk
      rw [hW3]
      exact Below.heap_setCell wc ⟨g, 0, none⟩ _ _ (Ne.symm gq)
    have hb3 : ∀ j, j < 14 → W3.cell? ⟨w.heap.size, j, none⟩ = some ((#[.int .i64 20, .int .i64 0, .slice (some ⟨ab, 0, none⟩) 1 1, .string ⟨#[]⟩, .int .i64 0, .int .i64 0, .string ⟨#[]⟩, .int .i64 0, .slice none 0 0, .slice none 0 0, .slice none 0 0, .int .i64 0, .int .i64 0, .int .i64 0] : Array Value)[j]?.getD undef) := fun j hj => by
      rw [hW3]
      show (wc.setCell _ _).cell? _ = _
      rw [World.cell?_setCell_far _ _ _ _ (by exact n2)]; exact Hbc.out j hj
    have hab3 : ∀ j u, w.cell? ⟨ab, j, none⟩ = some u → W3.cell? ⟨ab, j, none⟩ = some u := fun j u hu => by
      rw [hW3]
      show (wc.setCell _ _).cell? _ = _
      rw [World.cell?_setCell_far _ _ _ _ (by exact Ne.symm hag)]; exact habc j u hu
    have hB3 : Below bb w W3 := by rw [hW3]; exact ((hBw.mono (by omega)).trans (below_set bb wc ⟨g, 0, none⟩ _ (by exact Nat.le_of_lt g0))).drew
    have hz3 : w.heap.size < W3.heap.size := by rw [hW3]; show _ < (wc.setCell _ _).heap.size; rw [size_set]; exact hzc
    rw [← hW3]
    have Hab := Lib.hid hab3
    clear hab3 habc hW3 k19 k20 c19 c20 cg zg Hbc Ho HE hBw hzc
    have hr3 : World.rangeAt W3 w.heap.size 0 (#[.int .i64 20, .int .i64 0, .slice (some ⟨ab, 0, none⟩) 1 1, .string ⟨#[]⟩, .int .i64 0, .int .i64 0, .string ⟨#[]⟩, .int .i64 0, .slice none 0 0, .slice none 0 0, .slice none 0 0, .int .i64 0, .int .i64 0, .int .i64 0] : Array Value).toList := fun j v hj => by
      have hj2 : (#[.int .i64 20, .int .i64 0, .slice (some ⟨ab, 0, none⟩) 1 1, .string ⟨#[]⟩, .int .i64 0, .int .i64 0, .string ⟨#[]⟩, .int .i64 0, .slice none 0 0, .slice none 0 0, .slice none 0 0, .int .i64 0, .int .i64 0, .int .i64 0] : Array Value)[j]? = some v := by simpa using hj
      have hjl : j < 14 := by obtain ⟨h, _⟩ := Array.getElem?_eq_some_iff.1 hj2; simpa using h
      have := hb3 j hjl
      rw [hj2] at this
      rw [Nat.zero_add]; exact this
    have hco := fun w a b c => consumes_2 ab w a b c
    have hfi := fun w => fills_2 ab w
    unfold i2C at hco hfi
    unfold FillSays at *
    have Hco := Lib.hid hco
    have Hfi := Lib.hid hfi
    have Hr3 := Lib.hid hr3
    have HE3 := Lib.hid hE3
    have Ho3 := Lib.hid ho3
    have Hb3 := Lib.hid hb3
    clear hco hfi hr3 hE3 ho3 hb3
    go_wp2_with (with_reducible refine wpList_load_mid rfl 49 _ rfl w.heap.size 0 rfl (#[.int .i64 20, .int .i64 0, .slice (some ⟨ab, 0, none⟩) 1 1, .string ⟨#[]⟩, .int .i64 0, .int .i64 0, .string ⟨#[]⟩, .int .i64 0, .slice none 0 0, .slice none 0 0, .slice none 0 0, .int .i64 0, .int .i64 0, .int .i64 0] : Array Value).toList _ Hr3.out Tryz.underlying49 rfl (by kernel_rfl) ?_)
    refine (Hco.out _ (Hab.out 0 _ h0) (Hab.out 1 _ h1) (Hab.out 2 _ h2)).mono ?_
    rintro e W4 ⟨v4, rfl, ⟨z, capz, rfl, hz1, hz2, hz3, hz4, hz5⟩, hb4⟩
    have hE4 := HE3.out.later hb4
    have ho4 : W4.ownsRow (bb + 1) 49 14 (.slice (some ⟨q, 0, none⟩) (n + 1) cap2) (n + 1) xs2 := own_keep Ho3.out fun z hz => hb4.block z (own_lt Ho3.out z hz).2
    have hr4 : World.rangeAt W4 w.heap.size 0 (#[.int .i64 20, .int .i64 0, .slice (some ⟨ab, 0, none⟩) 1 1, .string ⟨#[]⟩, .int .i64 0, .int .i64 0, .string ⟨#[]⟩, .int .i64 0, .slice none 0 0, .slice none 0 0, .slice none 0 0, .int .i64 0, .int .i64 0, .int .i64 0] : Array Value).toList := fun j v hj => cells_later hb4 _ _ (Hr3.out j v hj)
    have hB4 := hB3.trans (hb4.mono (Nat.le_of_lt HE3.out.b.lt))
    have HE4 := Lib.hid hE4
    have Ho4 := Lib.hid ho4
    have Hr4 := Lib.hid hr4
    clear hE4 ho4 hr4
    have c21 := HE4.out.b.c 21 (by omega) (by omega)
    rw [HA.out.2.2] at c21
    have cf := HE4.out.cf
    have zf := HE4.out.zf
    go_wp2_with fail
    go_loopw [37] (fun ii wr => (ii = .int .i64 0 ∧ wr = W4) ∨ (ii = .int .i64 1 ∧ wr = W4.setCell ⟨f, 0, none⟩ (.bool false))) (fun ii _ => 1 - (intOf ii).toNat)
    case atStart => exact .inl ⟨rfl, rfl⟩
    case round =>
      rcases hrel with ⟨rfl, rfl⟩ | ⟨rfl, rfl⟩
      · go_wp2_with fail
        go_roundw
        case rel => exact .inr ⟨by first | rfl | trivial, by first | rfl | trivial⟩
        case measure => simp [intOf]
      · clear c21 cf zf hz4
        have hE5 := HE4.out.setF (.bool false)
        have ho5 : (W4.setCell ⟨f, 0, none⟩ (.bool false)).ownsRow (bb + 1) 49 14 (.slice (some ⟨q, 0, none⟩) (n + 1) cap2) (n + 1) xs2 := own_keep Ho4.out fun k hk => by
          simp [Value.ownBlock] at hk
          subst hk
          exact Below.heap_setCell W4 ⟨f, 0, none⟩ _ _ Hqq.out.2.2.1
        have hr5 : World.rangeAt (W4.setCell ⟨f, 0, none⟩ (.bool false)) w.heap.size 0 (#[.int .i64 20, .int .i64 0, .slice (some ⟨ab, 0, none⟩) 1 1, .string ⟨#[]⟩, .int .i64 0, .int .i64 0, .string ⟨#[]⟩, .int .i64 0, .slice none 0 0, .slice none 0 0, .slice none 0 0, .int .i64 0, .int .i64 0, .int .i64 0] : Array Value).toList := fun j v hj => by
          rw [World.cell?_setCell_far _ _ _ _ (by show f ≠ w.heap.size; omega)]; exact Hr4.out j v hj
        have hB5 := hB4.trans (below_set bb W4 ⟨f, 0, none⟩ (.bool false) (by exact Nat.le_of_lt f0))
        generalize (W4.setCell ⟨f, 0, none⟩ (.bool false)) = W5 at hE5 ho5 hr5 hB5 ⊢
        have HE5 := Lib.hid hE5
        have Ho5 := Lib.hid ho5
        have Hr5 := Lib.hid hr5
        clear hE5 ho5 hr5
        have x0 : W5.cell? ⟨w.heap.size, 0, none⟩ = some (.int .i64 20) := Hr5.out 0 _ rfl
        have x4 : W5.cell? ⟨w.heap.size, 4, none⟩ = some (.int .i64 0) := Hr5.out 4 _ rfl
        go_wp2_with (with_reducible refine wpList_load_mid rfl 49 _ rfl w.heap.size 0 rfl (#[.int .i64 20, .int .i64 0, .slice (some ⟨ab, 0, none⟩) 1 1, .string ⟨#[]⟩, .int .i64 0, .int .i64 0, .string ⟨#[]⟩, .int .i64 0, .slice none 0 0, .slice none 0 0, .slice none 0 0, .int .i64 0, .int .i64 0, .int .i64 0] : Array Value).toList _ Hr5.out Tryz.underlying49 rfl (by kernel_rfl) ?_)
        refine (Hfi.out _).mono ?_
        rintro e W6 ⟨rfl, hb6⟩
        clear x0 x4
        have hE6 := HE5.out.later hb6
        have ho6 : W6.ownsRow (bb + 1) 49 14 (.slice (some ⟨q, 0, none⟩) (n + 1) cap2) (n + 1) xs2 := own_keep Ho5.out fun z hz => hb6.block z (own_lt Ho5.out z hz).2
        have hr6 : World.rangeAt W6 w.heap.size 0 (#[.int .i64 20, .int .i64 0, .slice (some ⟨ab, 0, none⟩) 1 1, .string ⟨#[]⟩, .int .i64 0, .int .i64 0, .string ⟨#[]⟩, .int .i64 0, .slice none 0 0, .slice none 0 0, .slice none 0 0, .int .i64 0, .int .i64 0, .int .i64 0] : Array Value).toList := fun j v hj => cells_later hb6 _ _ (Hr5.out j v hj)
        have hB6 := hB5.trans (hb6.mono (Nat.le_of_lt HE5.out.b.lt))
        have HE6 := Lib.hid hE6
        have Ho6 := Lib.hid ho6
        have Hr6 := Lib.hid hr6
        clear hE6 ho6 hr6
        go_wp2_with fail
        go_loop [64] (fun ii => ii = .int .i64 0) (fun _ => 0)
        case atStart => rfl
        case round =>
          subst hrel
          go_wp2_with fail
          go_end0
          exact ⟨rfl, _, xs2, HE6.out, Ho6.out, fun k hk => by simp [Value.ownBlock] at hk; subst hk; exact ⟨Hqq.out.1, Hqq.out.2.1, Hqq.out.2.2.1⟩, hB6⟩
end Go.Proofs.YtfpbhmikogdpgaaGreatDoor
