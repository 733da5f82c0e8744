/- What reads as a list of codes is a list of codes that lies in memory: from the drawn datum to the trees. -/
import Derived.Test.YtfpbhmikogdpgaaGreatDoorRows
import Derived.Test.YtfpbhmikogdpgaaGreatDoorMem
import Derived.SizedLaws
import Derived.ChangeArms
import Derived.WalkKit
import Derived.Deep.Fields
namespace Go.Proofs.YtfpbhmikogdpgaaGreatDoor
open Go.RowKit Go.Deep

theorem list_pairs {α : Type} {P : Nat → α → Prop} : ∀ (n : Nat), (∀ i, i < n → ∃ t, P i t) → ∃ l : List α, l.length = n ∧ ∀ i, (h : i < l.length) → P i l[i] := by
  intro n
  induction n with
  | zero => intro _; exact ⟨[], rfl, fun i h => by simp at h⟩
  | succ n ih =>
    intro h
    obtain ⟨l, hl, hp⟩ := ih fun i hi => h i (by omega)
    obtain ⟨t, ht⟩ := h n (by omega)
    refine ⟨l ++ [t], by simp [hl], fun i hi => ?_⟩
    by_cases hlt : i < l.length
    · rw [List.getElem_append_left hlt]; exact hp i hlt
    · have : i = l.length := by simp at hi; omega
      subst this
      rw [List.getElem_append_right (Nat.le_refl _)]
      simpa [hl] using ht

theorem spot_none {w : World} {a : Addr} {v : Value} (h : w.cell? a = some v) : a.spot = none := by
  unfold World.cell? at h
  split at h
  · split at h
    · cases h
    · rename_i hs
      cases hsp : a.spot with
      | none => rfl
      | some x => rw [hsp] at hs; simp at hs
  · cases h

theorem add_flat (b off n : Nat) : (⟨b, off, none⟩ : Addr).add n = ⟨b, off + n, none⟩ := by
  unfold Addr.add
  split <;> simp_all

theorem int_bounds {n : Int} (h : (Lit.int .i64 n).wf = true) : I64 n := by
  simp only [Lit.wf, Bool.and_eq_true, decide_eq_true_eq] at h
  exact ⟨h.1, h.2⟩

theorem weightsAll_mem {H : Type} {P : Program} {e : TypeId} {m : Nat} : ∀ {l : List (DataW H)} {d : DataW H}, d ∈ l → m ∈ d.weights P e → m ∈ DataW.weightsAll P e l
  | a :: l, d, hd, hm => by
    simp only [DataW.weightsAll, List.mem_append]
    rcases List.mem_cons.1 hd with rfl | hd
    · exact .inl hm
    · exact .inr (weightsAll_mem hd hm)

def at0 (cs : List Value) (j : Nat) : Value := cs.getD j (.int .i64 0)
theorem at0_get {cs : List Value} {j : Nat} (h : j < cs.length) : cs[j]? = some (at0 cs j) := by simp [at0, h]

/-- what reads at type t is k cells that are a P -/
def RD {H : Type} (enc : TypeId × Value → H) (W : World) {α : Type} (t : TypeId) (k : Nat) (P : World → α → (Nat → Value) → Prop) : Prop :=
  ∀ (fuel : Nat) (cs : List Value) (x : DataW H × List MemPlace), DataW.trod enc Tryz.prog W 0 (fun _ => true) true fuel t cs = some x → (∀ n ∈ x.1.weights Tryz.prog t, n ≤ reachBytes) → cs.length = k ∧ ∃ y, P W y (at0 cs)

def IntP (_ : World) (n : Int) (c : Nat → Value) : Prop := c 0 = .int .i64 n ∧ I64 n

section
variable {H : Type} {enc : TypeId × Value → H} {W : World}

theorem rd_int : RD enc W 3 1 IntP := fun fuel cs x h _ => by
  obtain ⟨n, rfl, _, hn⟩ := DataW.trod_int (show Tryz.prog.underlying 3 = some (.int .i64) by kernel_rfl) h
  exact ⟨rfl, n, rfl, int_bounds hn⟩
theorem rd_string : RD enc W 9 1 StrP := fun fuel cs x h _ => by
  obtain ⟨s, rfl, _, hs⟩ := DataW.trod_string Tryz.underlying9 h
  exact ⟨rfl, s, rfl, hs⟩

theorem rd_slice {α : Type} {P : World → α → (Nat → Value) → Prop} {k : Nat} {T E : TypeId} (hT : Tryz.prog.underlying T = some (.slice E)) (hk : Tryz.prog.cellsOf E = k) (k0 : 0 < k) (hb : 8 ≤ Tryz.prog.bytesOf E) (hE : RD enc W E k P) :
    RD enc W T 1 (fun w l c => SlC k P w l (c 0)) := by
  intro fuel cs x h hw
  rcases DataW.trod_slice hT h with ⟨rfl, _⟩ | ⟨a, len, cap, elems, rest, n, rfl, rfl, hx, _, hlc, hcap, hel, hat, hsp, _⟩
  · exact ⟨rfl, [], none, 0, rfl, ⟨Nat.le_refl _, by omega⟩, 0, 0, fun _ _ => .int .i64 0, by simp, by simp, by simp⟩
  · obtain ⟨hrl, _⟩ := hsp rfl
    rw [hx] at hw
    have hcw : (elems.length + rest.length) * Tryz.prog.bytesOf E ≤ reachBytes := hw _ (by simp [DataW.weights, hT])
    have hcap2 : cap ≤ 17592186043904 := by
      have h8 : cap * 8 ≤ reachBytes := Nat.le_trans (Nat.mul_le_mul (by omega : cap ≤ elems.length + rest.length) hb) hcw
      unfold reachBytes at h8; omega
    have key : ∀ i, i < len → ∃ p : α × List Value, P W p.1 (at0 p.2) ∧ ∀ j, j < k → W.cell? (a.add (i * k + j)) = some (at0 p.2 j) := by
      intro i hi
      have h1 := hat i hi
      rw [hk] at h1
      have h2 : elems[i]? = some (elems[i]'(by omega)) := List.getElem?_eq_getElem _
      rw [h2, Option.bind_eq_some_iff] at h1
      obtain ⟨cs', hcs', ht⟩ := h1
      obtain ⟨_, hlen, hget⟩ := World.cells?_some hcs'
      obtain ⟨hl', y, hy⟩ := hE _ _ _ ht fun m hm => hw m (by
        simp only [DataW.weights, hT, List.mem_cons, List.mem_append]
        exact .inr (.inl (weightsAll_mem (List.mem_map_of_mem (List.getElem_mem _)) hm)))
      refine ⟨(y, cs'), hy, fun j hj => ?_⟩
      have h3 := hget j hj
      rw [Go.Deep.add_add, at0_get (by omega)] at h3
      exact h3
    obtain ⟨l, hl, hp⟩ := list_pairs len key
    subst hl
    refine ⟨rfl, l.map (·.1), some a, cap, by simp [at0], ⟨by simpa using hlc, hcap2⟩, a.block, a.off, fun i j => at0 ((l[i]?.map (·.2)).getD []) j, ?_, ?_, ?_⟩
    · intro h0
      have h0' : 0 < l.length := by simpa using h0
      have h1 := (hp 0 h0').2 0 k0
      have h2 : a.add (0 * k + 0) = a := by obtain ⟨b, o, sp⟩ := a; unfold Addr.add; split <;> simp_all
      rw [h2] at h1
      have := spot_none h1
      obtain ⟨b, o, sp⟩ := a
      simp at this
      subst this
      rfl
    · intro i hi j hj
      have hi' : i < l.length := by simpa using hi
      have h1 := (hp 0 (by omega)).2 0 k0
      have h2 : a.add (0 * k + 0) = a := by obtain ⟨b, o, sp⟩ := a; unfold Addr.add; split <;> simp_all
      rw [h2] at h1
      have hsp := spot_none h1
      have h3 := (hp i hi').2 j hj
      obtain ⟨b, o, sp⟩ := a
      simp at hsp
      subst hsp
      rw [add_flat] at h3
      rw [h3]
      simp [hi']
    · intro i hi
      have hi' : i < l.length := by simpa using hi
      have h3 := (hp i hi').1
      simpa [hi'] using h3

theorem rd_field {α : Type} {P : World → α → (Nat → Value) → Prop} {k : Nat} {T : TypeId} {fs : Array Field} (hT : Tryz.prog.underlying T = some (.struct fs)) {fuel : Nat} {cs : List Value} {x : DataW H × List MemPlace}
    (h : DataW.trod enc Tryz.prog W 0 (fun _ => true) true fuel T cs = some x) (hw : ∀ n ∈ x.1.weights Tryz.prog T, n ≤ reachBytes) (i : Nat) (f : Field) (hf : fs[i]? = some f) (hk : Tryz.prog.cellsOf f.type = k) (hR : RD enc W f.type k P) :
    ∃ y, P W y (at0 ((cs.drop f.offset).take k)) := by
  obtain ⟨xs, n, _, hx, _, hxs, hg⟩ := DataW.trod_struct hT h
  have h1 := hg i f hf
  rw [hk] at h1
  have hi : i < fs.size := (Array.getElem?_eq_some_iff.1 hf).1
  have h2 : xs[i]? = some (xs[i]'(by omega)) := List.getElem?_eq_getElem _
  rw [h2] at h1
  refine (hR _ _ _ h1 fun m hm => hw m ?_).2
  rw [hx]
  simp only [DataW.weights, hT]
  exact DataW.weights_mem_each (j := i) (t := f.type) (d := (xs[i]'(by omega)).1) (by rw [List.getElem?_map]; simp [hf]) (by rw [List.getElem?_map, h2]; rfl) m hm
theorem rd_len {T : TypeId} {fs : Array Field} (hT : Tryz.prog.underlying T = some (.struct fs)) {k : Nat} (hk : Tryz.prog.cellsOf T = k) {fuel : Nat} {cs : List Value} {x : DataW H × List MemPlace}
    (h : DataW.trod enc Tryz.prog W 0 (fun _ => true) true fuel T cs = some x) : cs.length = k := by
  obtain ⟨xs, n, _, hx, hl, _, _⟩ := DataW.trod_struct hT h
  exact hl.trans hk

theorem cellsT : Tryz.prog.cellsOf 37 = 4 := by kernel_rfl
theorem cells3 : Tryz.prog.cellsOf 3 = 1 := by kernel_rfl
theorem cells9 : Tryz.prog.cellsOf 9 = 1 := by kernel_rfl
theorem cellsTs : Tryz.prog.cellsOf 35 = 1 := by kernel_rfl
theorem under3 : Tryz.prog.underlying 3 = some (.int .i64) := by kernel_rfl

set_option maxRecDepth 100000 in
/-- what can be read as a slice of api.Type is a list of types that lies in the world -/
theorem tys_of_trod : ∀ (fuel : Nat) (cs : List Value) (x : DataW H × List MemPlace),
    DataW.trod enc Tryz.prog W 0 (fun _ => true) true fuel 35 cs = some x → ∃ (a : Option Addr) (cap : Nat) (l : List Ty), cs = [.slice a l.length cap] ∧ l.length ≤ cap ∧ cap ≤ maxLen ∧ ∃ (b off : Nat) (C : Nat → Nat → Value), (0 < l.length → a = some ⟨b, off, none⟩) ∧
      (∀ i, i < l.length → ∀ j, j < 4 → W.cell? ⟨b, off + (i * 4 + j), none⟩ = some (C i j)) ∧ ∀ i, (h : i < l.length) → Ty.In W l[i] #[C i 0, C i 1, C i 2, C i 3] := by
  intro fuel
  induction fuel using Nat.strongRecOn with
  | _ fuel ih =>
  intro cs x h
  rcases DataW.trod_slice Tryz.underlying35 h with ⟨rfl, _⟩ | ⟨a, len, cap, elems, rest, n, rfl, rfl, _, _, hlc, hcap, hel, hat, _, _⟩
  · exact ⟨none, 0, [], rfl, Nat.le_refl _, Nat.zero_le _, 0, 0, fun _ _ => .int .i64 0, by simp, by simp, by simp⟩
  · have key : ∀ i, i < len → ∃ t, (∀ j, j < 4 → W.cell? (a.add (i * 4 + j)) = some ((W.cell? (a.add (i * 4 + j))).getD (.int .i64 0))) ∧
        Ty.In W t #[(W.cell? (a.add (i * 4 + 0))).getD (.int .i64 0), (W.cell? (a.add (i * 4 + 1))).getD (.int .i64 0), (W.cell? (a.add (i * 4 + 2))).getD (.int .i64 0), (W.cell? (a.add (i * 4 + 3))).getD (.int .i64 0)] := by
      intro i hi
      have h1 := hat i hi
      rw [cellsT] at h1
      have h2 : elems[i]? = some (elems[i]'(by omega)) := List.getElem?_eq_getElem _
      rw [h2, Option.bind_eq_some_iff] at h1
      obtain ⟨cs', hcs', ht⟩ := h1
      obtain ⟨_, hlen, hget⟩ := World.cells?_some hcs'
      obtain ⟨xs, m, rfl, _, _, hxs, hf⟩ := DataW.trod_struct Tryz.underlying37 ht
      have hxs4 : xs.length = 4 := hxs
      match cs', hlen with
      | [c0, c1, c2, c3], _ =>
      have f0 : DataW.trod enc Tryz.prog W 0 (fun _ => true) true m 3 (List.take (Tryz.prog.cellsOf 3) [c0, c1, c2, c3]) = xs[0]? := hf 0 _ rfl
      have f1 : DataW.trod enc Tryz.prog W 0 (fun _ => true) true m 9 (List.take (Tryz.prog.cellsOf 9) [c1, c2, c3]) = xs[1]? := hf 1 _ rfl
      have f2 : DataW.trod enc Tryz.prog W 0 (fun _ => true) true m 3 (List.take (Tryz.prog.cellsOf 3) [c2, c3]) = xs[2]? := hf 2 _ rfl
      have f3 : DataW.trod enc Tryz.prog W 0 (fun _ => true) true m 35 (List.take (Tryz.prog.cellsOf 35) [c3]) = xs[3]? := hf 3 _ rfl
      rw [cells3] at f0 f2
      rw [cells9] at f1
      rw [cellsTs] at f3
      rw [List.getElem?_eq_getElem (by omega)] at f0 f1 f2 f3
      obtain ⟨k, e0, _, k0⟩ := DataW.trod_int under3 f0
      obtain ⟨s, e1, _, s0⟩ := DataW.trod_string Tryz.underlying9 f1
      obtain ⟨q, e2, _, q0⟩ := DataW.trod_int under3 f2
      obtain ⟨a', cap', l', e3, hc1, hc2, hT⟩ := ih m (by omega) _ _ f3
      simp at e0 e1 e2 e3
      subst e0 e1 e2 e3
      have hadd : ∀ j, (a.add (i * 4)).add j = a.add (i * 4 + j) := fun j => by rw [Go.Deep.add_add]
      have g0 := hget 0 (by omega)
      have g1 := hget 1 (by omega)
      have g2 := hget 2 (by omega)
      have g3 := hget 3 (by omega)
      rw [hadd] at g0 g1 g2 g3
      simp only [List.getElem?_cons_zero, List.getElem?_cons_succ] at g0 g1 g2 g3
      refine ⟨.mk k s q l', ?_, ?_⟩
      · intro j hj
        match j, hj with
        | 0, _ => rw [g0]; rfl
        | 1, _ => rw [g1]; rfl
        | 2, _ => rw [g2]; rfl
        | 3, _ => rw [g3]; rfl
      · rw [g0, g1, g2, g3]
        obtain ⟨b', off', C', ha', hcs2, hin'⟩ := hT
        exact .mk k s q l' a' b' off' cap' C' ha' ⟨hc1, hc2⟩ s0 (int_bounds k0) (int_bounds q0) hcs2 hin'
    obtain ⟨l, hl, hp⟩ := list_pairs len key
    subst hl
    refine ⟨some a, cap, l, rfl, hlc, hcap, a.block, a.off, fun i j => (W.cell? (a.add (i * 4 + j))).getD (.int .i64 0), ?_, ?_, fun i hi => (hp i hi).2⟩
    · intro h0
      have h1 := (hp 0 h0).1 0 (by omega)
      have h2 : a.add (0 * 4 + 0) = a := rfl
      rw [h2] at h1
      have := spot_none h1
      obtain ⟨b, o, sp⟩ := a
      simp at this
      subst this
      rfl
    · intro i hi j hj
      have h0 : 0 < l.length := by omega
      have h1 := (hp 0 h0).1 0 (by omega)
      have h2 : a.add (0 * 4 + 0) = a := rfl
      rw [h2] at h1
      have hsp := spot_none h1
      have h3 := (hp i hi).1 j hj
      obtain ⟨b, o, sp⟩ := a
      simp at hsp
      subst hsp
      show W.cell? ⟨b, o + (i * 4 + j), none⟩ = some ((W.cell? ((⟨b, o, none⟩ : Addr).add (i * 4 + j))).getD (.int .i64 0))
      rw [add_flat] at h3 ⊢
      exact h3

set_option maxRecDepth 100000 in
theorem rd_ty : RD enc W 37 4 TyP := by
  intro fuel cs x h hw
  have hl := rd_len Tryz.underlying37 cellsT h
  obtain ⟨xs, m, rfl, _, _, hxs, hf⟩ := DataW.trod_struct Tryz.underlying37 h
  have hxs4 : xs.length = 4 := hxs
  match cs, hl with
  | [c0, c1, c2, c3], _ =>
  have f0 : DataW.trod enc Tryz.prog W 0 (fun _ => true) true m 3 (List.take (Tryz.prog.cellsOf 3) [c0, c1, c2, c3]) = xs[0]? := hf 0 _ rfl
  have f1 : DataW.trod enc Tryz.prog W 0 (fun _ => true) true m 9 (List.take (Tryz.prog.cellsOf 9) [c1, c2, c3]) = xs[1]? := hf 1 _ rfl
  have f2 : DataW.trod enc Tryz.prog W 0 (fun _ => true) true m 3 (List.take (Tryz.prog.cellsOf 3) [c2, c3]) = xs[2]? := hf 2 _ rfl
  have f3 : DataW.trod enc Tryz.prog W 0 (fun _ => true) true m 35 (List.take (Tryz.prog.cellsOf 35) [c3]) = xs[3]? := hf 3 _ rfl
  rw [cells3] at f0 f2
  rw [cells9] at f1
  rw [cellsTs] at f3
  rw [List.getElem?_eq_getElem (by omega)] at f0 f1 f2 f3
  obtain ⟨k, e0, _, k0⟩ := DataW.trod_int under3 f0
  obtain ⟨s, e1, _, s0⟩ := DataW.trod_string Tryz.underlying9 f1
  obtain ⟨q, e2, _, q0⟩ := DataW.trod_int under3 f2
  obtain ⟨a', cap', l', e3, hc1, hc2, b', off', C', ha', hcs2, hin'⟩ := tys_of_trod m _ _ f3
  simp at e0 e1 e2 e3
  subst e0 e1 e2 e3
  exact ⟨rfl, .mk k s q l', .mk k s q l' a' b' off' cap' C' ha' ⟨hc1, hc2⟩ s0 (int_bounds k0) (int_bounds q0) hcs2 hin'⟩

theorem rd_strs : RD enc W 30 1 (fun w l c => SlC 1 StrP w l (c 0)) := rd_slice Tryz.underlying30 cells9 (by omega) (of_decide_eq_true (by kernel_rfl)) rd_string
theorem rd_tys : RD enc W 35 1 (fun w l c => SlC 4 TyP w l (c 0)) := rd_slice Tryz.underlying35 cellsT (by omega) (of_decide_eq_true (by kernel_rfl)) rd_ty

theorem cellsOpd : Tryz.prog.cellsOf 51 = 3 := by kernel_rfl
theorem cells30 : Tryz.prog.cellsOf 30 = 1 := by kernel_rfl
theorem rd_opd : RD enc W 51 3 OpdP := by
  intro fuel cs x h hw
  have hl := rd_len Tryz.underlying51 cellsOpd h
  obtain ⟨y0, h0⟩ := rd_field Tryz.underlying51 h hw 0 _ rfl cells3 rd_int
  obtain ⟨y1, h1⟩ := rd_field Tryz.underlying51 h hw 1 _ rfl cells3 rd_int
  obtain ⟨y2, h2⟩ := rd_field Tryz.underlying51 h hw 2 _ rfl cells30 rd_strs
  match cs, hl with
  | [c0, c1, c2], _ => exact ⟨rfl, ⟨y0, y1, y2⟩, h0, h1, h2⟩
theorem rd_opds : RD enc W 47 1 (fun w l c => SlC 3 OpdP w l (c 0)) := rd_slice Tryz.underlying47 cellsOpd (by omega) (of_decide_eq_true (by kernel_rfl)) rd_opd

theorem cellsIns : Tryz.prog.cellsOf 49 = 14 := by kernel_rfl
theorem cellsOpds : Tryz.prog.cellsOf 47 = 1 := by kernel_rfl
theorem rd_ins : RD enc W 49 14 InsP := by
  intro fuel cs x h hw
  have hl := rd_len Tryz.underlying49 cellsIns h
  obtain ⟨y0, h0⟩ := rd_field Tryz.underlying49 h hw 0 _ rfl cells3 rd_int
  obtain ⟨y1, h1⟩ := rd_field Tryz.underlying49 h hw 1 _ rfl cells3 rd_int
  obtain ⟨y2, h2⟩ := rd_field Tryz.underlying49 h hw 2 _ rfl cellsOpds rd_opds
  obtain ⟨y3, h3⟩ := rd_field Tryz.underlying49 h hw 3 _ rfl cells9 rd_string
  obtain ⟨y4, h4⟩ := rd_field Tryz.underlying49 h hw 4 _ rfl cells3 rd_int
  obtain ⟨y5, h5⟩ := rd_field Tryz.underlying49 h hw 5 _ rfl cellsT rd_ty
  obtain ⟨y6, h6⟩ := rd_field Tryz.underlying49 h hw 6 _ rfl cellsTs rd_tys
  obtain ⟨y7, h7⟩ := rd_field Tryz.underlying49 h hw 7 _ rfl cells30 rd_strs
  obtain ⟨y8, h8⟩ := rd_field Tryz.underlying49 h hw 8 _ rfl cells3 rd_int
  obtain ⟨y9, h9⟩ := rd_field Tryz.underlying49 h hw 9 _ rfl cells3 rd_int
  obtain ⟨y10, h10⟩ := rd_field Tryz.underlying49 h hw 10 _ rfl cells3 rd_int
  match cs, hl with
  | [c0, c1, c2, c3, c4, c5, c6, c7, c8, c9, c10, c11, c12, c13], _ =>
    exact ⟨rfl, ⟨y0, y1, y2, y3, y4, y5, y6, y7, y8, y9, y10⟩, { op := h0, dst := h1, args := h2, s := h3, n := h4, t := h5, ts := h6, path := h7, to := h8, err := h9, e := h10 }⟩
theorem rd_blk : RD enc W 46 1 BlkP := rd_slice Tryz.underlying46 cellsIns (by omega) (of_decide_eq_true (by kernel_rfl)) rd_ins
theorem cellsBlk : Tryz.prog.cellsOf 46 = 1 := by kernel_rfl
theorem rd_blks : RD enc W 38 1 (fun w l c => SlC 1 BlkP w l (c 0)) := rd_slice Tryz.underlying38 cellsBlk (by omega) (of_decide_eq_true (by kernel_rfl)) rd_blk

theorem cellsSlt : Tryz.prog.cellsOf 45 = 5 := by kernel_rfl
theorem rd_slt : RD enc W 45 5 SltP := by
  intro fuel cs x h hw
  have hl := rd_len Tryz.underlying45 cellsSlt h
  obtain ⟨y0, h0⟩ := rd_field Tryz.underlying45 h hw 0 _ rfl cellsT rd_ty
  obtain ⟨y1, h1⟩ := rd_field Tryz.underlying45 h hw 1 _ rfl cells3 rd_int
  match cs, hl with
  | [c0, c1, c2, c3, c4], _ => exact ⟨rfl, ⟨y0, y1⟩, h0, h1⟩
theorem rd_slts : RD enc W 34 1 (fun w l c => SlC 5 SltP w l (c 0)) := rd_slice Tryz.underlying34 cellsSlt (by omega) (of_decide_eq_true (by kernel_rfl)) rd_slt

theorem cellsRq : Tryz.prog.cellsOf 189 = 10 := by kernel_rfl
theorem underRq : Tryz.prog.underlying 33 = some (.slice 189) := by kernel_rfl
theorem rd_rq : RD enc W 189 10 RqP := by
  intro fuel cs x h hw
  have hl := rd_len Tryz.underlying189 cellsRq h
  obtain ⟨y0, h0⟩ := rd_field Tryz.underlying189 h hw 0 _ rfl cells3 rd_int
  obtain ⟨y1, h1⟩ := rd_field Tryz.underlying189 h hw 1 _ rfl cellsT rd_ty
  obtain ⟨y2, h2⟩ := rd_field Tryz.underlying189 h hw 2 _ rfl cells9 rd_string
  obtain ⟨y3, h3⟩ := rd_field Tryz.underlying189 h hw 3 _ rfl cellsT rd_ty
  match cs, hl with
  | [c0, c1, c2, c3, c4, c5, c6, c7, c8, c9], _ => exact ⟨rfl, ⟨y0, y1, y2, y3⟩, { kind := h0, t := h1, protocol := h2, other := h3 }⟩
theorem rd_rqs : RD enc W 33 1 (fun w l c => SlC 10 RqP w l (c 0)) := rd_slice underRq cellsRq (by omega) (of_decide_eq_true (by kernel_rfl)) rd_rq

theorem cellsCod : Tryz.prog.cellsOf 40 = 14 := by kernel_rfl
theorem cellsRqs : Tryz.prog.cellsOf 33 = 1 := by kernel_rfl
theorem cellsSlts : Tryz.prog.cellsOf 34 = 1 := by kernel_rfl
theorem cellsBlks : Tryz.prog.cellsOf 38 = 1 := by kernel_rfl
theorem rd_cod : RD enc W 40 14 CodP := by
  intro fuel cs x h hw
  have hl := rd_len Tryz.underlying40 cellsCod h
  obtain ⟨y0, h0⟩ := rd_field Tryz.underlying40 h hw 0 _ rfl cells9 rd_string
  obtain ⟨y1, h1⟩ := rd_field Tryz.underlying40 h hw 1 _ rfl cells30 rd_strs
  obtain ⟨y2, h2⟩ := rd_field Tryz.underlying40 h hw 2 _ rfl cellsRqs rd_rqs
  obtain ⟨y3, h3⟩ := rd_field Tryz.underlying40 h hw 3 _ rfl cells3 rd_int
  obtain ⟨y4, h4⟩ := rd_field Tryz.underlying40 h hw 4 _ rfl cellsSlts rd_slts
  obtain ⟨y5, h5⟩ := rd_field Tryz.underlying40 h hw 5 _ rfl cellsT rd_ty
  obtain ⟨y6, h6⟩ := rd_field Tryz.underlying40 h hw 6 _ rfl cellsT rd_ty
  obtain ⟨y7, h7⟩ := rd_field Tryz.underlying40 h hw 7 _ rfl cellsBlks rd_blks
  match cs, hl with
  | [c0, c1, c2, c3, c4, c5, c6, c7, c8, c9, c10, c11, c12, c13], _ =>
    exact ⟨rfl, ⟨y0, y1, y2, y3, y4, y5, y6, y7⟩, { name := h0, generics := h1, reqs := h2, params := h3, slots := h4, result := h5, throws := h6, blocks := h7 }⟩
theorem rd_cods : RD enc W 25 1 (fun w l c => SlC 14 CodP w l (c 0)) := rd_slice Tryz.underlying25 cellsCod (by omega) (of_decide_eq_true (by kernel_rfl)) rd_cod
end
end Go.Proofs.YtfpbhmikogdpgaaGreatDoor
