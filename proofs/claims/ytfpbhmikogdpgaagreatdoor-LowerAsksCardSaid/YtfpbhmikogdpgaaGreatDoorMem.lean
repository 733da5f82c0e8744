/- Programs of the middle language as plain data, and what it means that they lie in memory. No program in sight but for the model's worlds. -/
import Derived.Test.YtfpbhmikogdpgaaGreatDoorTy
namespace Go.Proofs.YtfpbhmikogdpgaaGreatDoor
open Go.RowKit

def I64 (n : Int) : Prop := -9223372036854775808 ≤ n ∧ n ≤ 9223372036854775807

/-- all cells that the one world has the other one has too -/
def Keeps (w w' : World) : Prop := ∀ a v, w.cell? a = some v → w'.cell? a = some v

/-- the elements of l, of k cells each, lie at a -/
def Sl {α : Type} (k : Nat) (P : World → α → (Nat → Value) → Prop) (w : World) (l : List α) (a : Option Addr) (cap : Nat) : Prop :=
  (l.length ≤ cap ∧ cap ≤ 17592186043904) ∧ ∃ (b off : Nat) (C : Nat → Nat → Value), (0 < l.length → a = some ⟨b, off, none⟩) ∧
    (∀ i, i < l.length → ∀ j, j < k → w.cell? ⟨b, off + (i * k + j), none⟩ = some (C i j)) ∧ ∀ i, (h : i < l.length) → P w l[i] (C i)

/-- a cell that is such a slice -/
def SlC {α : Type} (k : Nat) (P : World → α → (Nat → Value) → Prop) (w : World) (l : List α) (c : Value) : Prop :=
  ∃ a cap, c = .slice a l.length cap ∧ Sl k P w l a cap

def Keeping {α : Type} (P : World → α → (Nat → Value) → Prop) : Prop := ∀ w w', Keeps w w' → ∀ x c, P w x c → P w' x c

theorem Sl.keep {α : Type} {k : Nat} {P : World → α → (Nat → Value) → Prop} (hP : Keeping P) {w w' : World} (hw : Keeps w w') {l : List α} {a : Option Addr} {cap : Nat} (h : Sl k P w l a cap) : Sl k P w' l a cap := by
  obtain ⟨hb, b, off, C, ha, hc, hi⟩ := h
  exact ⟨hb, b, off, C, ha, fun i h j hj => hw _ _ (hc i h j hj), fun i h => hP w w' hw _ _ (hi i h)⟩

theorem SlC.keep {α : Type} {k : Nat} {P : World → α → (Nat → Value) → Prop} (hP : Keeping P) {w w' : World} (hw : Keeps w w') {l : List α} {c : Value} (h : SlC k P w l c) : SlC k P w' l c := by
  obtain ⟨a, cap, e, h⟩ := h
  exact ⟨a, cap, e, h.keep hP hw⟩

theorem Keeps.of_below {w w' : World} (h : Below w.heap.size w w') : Keeps w w' := fun a v hc => cells_later h a v hc
theorem Keeps.refl (w : World) : Keeps w w := fun _ _ h => h
theorem Keeps.trans {a b c : World} (h : Keeps a b) (k : Keeps b c) : Keeps a c := fun x v hx => k _ _ (h _ _ hx)

def StrP (_ : World) (s : ByteArray) (c : Nat → Value) : Prop := c 0 = .string s ∧ s.size ≤ maxLen
theorem StrP.keeping : Keeping StrP := fun _ _ _ _ _ h => h

def TyP (w : World) (t : Ty) (c : Nat → Value) : Prop := Ty.In w t #[c 0, c 1, c 2, c 3]
theorem TyP.keeping : Keeping TyP := fun _ _ hw _ _ h => Ty.In.later hw h

structure Opd where
  kind : Int
  slot : Int
  path : List ByteArray

def OpdP (w : World) (o : Opd) (c : Nat → Value) : Prop := (c 0 = .int .i64 o.kind ∧ I64 o.kind) ∧ (c 1 = .int .i64 o.slot ∧ I64 o.slot) ∧ SlC 1 StrP w o.path (c 2)
theorem OpdP.keeping : Keeping OpdP := fun _ _ hw _ _ h => ⟨h.1, h.2.1, h.2.2.keep StrP.keeping hw⟩

structure Ins where
  op : Int
  dst : Int
  args : List Opd
  s : ByteArray
  n : Int
  t : Ty
  ts : List Ty
  path : List ByteArray
  to : Int
  err : Int
  e : Int

structure InsP (w : World) (x : Ins) (c : Nat → Value) : Prop where
  op : c 0 = .int .i64 x.op ∧ I64 x.op
  dst : c 1 = .int .i64 x.dst ∧ I64 x.dst
  args : SlC 3 OpdP w x.args (c 2)
  s : c 3 = .string x.s ∧ x.s.size ≤ maxLen
  n : c 4 = .int .i64 x.n ∧ I64 x.n
  t : TyP w x.t (fun j => c (5 + j))
  ts : SlC 4 TyP w x.ts (c 9)
  path : SlC 1 StrP w x.path (c 10)
  to : c 11 = .int .i64 x.to ∧ I64 x.to
  err : c 12 = .int .i64 x.err ∧ I64 x.err
  e : c 13 = .int .i64 x.e ∧ I64 x.e
theorem InsP.keeping : Keeping InsP := fun _ _ hw _ _ h => ⟨h.op, h.dst, h.args.keep OpdP.keeping hw, h.s, h.n, TyP.keeping _ _ hw _ _ h.t, h.ts.keep TyP.keeping hw, h.path.keep StrP.keeping hw, h.to, h.err, h.e⟩

def BlkP (w : World) (l : List Ins) (c : Nat → Value) : Prop := SlC 14 InsP w l (c 0)
theorem BlkP.keeping : Keeping BlkP := fun _ _ hw _ _ h => h.keep InsP.keeping hw

structure Slt where
  t : Ty
  mode : Int
def SltP (w : World) (x : Slt) (c : Nat → Value) : Prop := TyP w x.t c ∧ c 4 = .int .i64 x.mode ∧ I64 x.mode
theorem SltP.keeping : Keeping SltP := fun _ _ hw _ _ h => ⟨TyP.keeping _ _ hw _ _ h.1, h.2⟩

structure Rq where
  kind : Int
  t : Ty
  protocol : ByteArray
  other : Ty
structure RqP (w : World) (x : Rq) (c : Nat → Value) : Prop where
  kind : c 0 = .int .i64 x.kind ∧ I64 x.kind
  t : TyP w x.t (fun j => c (1 + j))
  protocol : c 5 = .string x.protocol ∧ x.protocol.size ≤ maxLen
  other : TyP w x.other (fun j => c (6 + j))
theorem RqP.keeping : Keeping RqP := fun _ _ hw _ _ h => ⟨h.kind, TyP.keeping _ _ hw _ _ h.t, h.protocol, TyP.keeping _ _ hw _ _ h.other⟩

structure Cod where
  name : ByteArray
  generics : List ByteArray
  reqs : List Rq
  params : Int
  slots : List Slt
  result : Ty
  throws : Ty
  blocks : List (List Ins)

structure CodP (w : World) (x : Cod) (c : Nat → Value) : Prop where
  name : c 0 = .string x.name ∧ x.name.size ≤ maxLen
  generics : SlC 1 StrP w x.generics (c 1)
  reqs : SlC 10 RqP w x.reqs (c 2)
  params : c 3 = .int .i64 x.params ∧ I64 x.params
  slots : SlC 5 SltP w x.slots (c 4)
  result : TyP w x.result (fun j => c (5 + j))
  throws : TyP w x.throws (fun j => c (9 + j))
  blocks : SlC 1 BlkP w x.blocks (c 13)
theorem CodP.keeping : Keeping CodP := fun _ _ hw _ _ h => ⟨h.name, h.generics.keep StrP.keeping hw, h.reqs.keep RqP.keeping hw, h.params, h.slots.keep SltP.keeping hw, TyP.keeping _ _ hw _ _ h.result, TyP.keeping _ _ hw _ _ h.throws, h.blocks.keep BlkP.keeping hw⟩

/-- the codes of a program lie in memory -/
abbrev Cods (w : World) (l : List Cod) (a : Option Addr) (cap : Nat) : Prop := Sl 14 CodP w l a cap
theorem Cods.under {w w' : World} (hb : Below w.heap.size w w') {l : List Cod} {a : Option Addr} {cap : Nat} (h : Cods w l a cap) : Cods w' l a cap := h.keep CodP.keeping (.of_below hb)

/-- one element's cells, in the walk's own spelling -/
theorem Sl.at {α : Type} {k : Nat} {P : World → α → (Nat → Value) → Prop} {w : World} {l : List α} {a : Option Addr} {cap : Nat} (h : Sl k P w l a cap) (i : Nat) (hi : i < l.length) :
    ∃ b off c, a = some ⟨b, off, none⟩ ∧ (∀ j, j < k → w.cell? ⟨b, off + i * k + j, none⟩ = some (c j)) ∧ P w l[i] c := by
  obtain ⟨_, b, off, C, ha, hc, hp⟩ := h
  exact ⟨b, off, C i, ha (by omega), fun j hj => by have := hc i hi j hj; rwa [← Nat.add_assoc] at this, hp i hi⟩

/-- the fourteen cells of a code -/
theorem Cods.cells {w : World} {l : List Cod} {a : Option Addr} {cap : Nat} (h : Sl 14 CodP w l a cap) (i : Nat) (hi : i < l.length) :
    ∃ (b off : Nat) (ga : Option Addr) (gc : Nat) (ra : Option Addr) (rc : Nat) (sa : Option Addr) (sc : Nat) (ba : Option Addr) (bc : Nat) (r0 : Int) (r1 : ByteArray) (r2 : Int) (r3 : Option Addr) (r4 r5 : Nat) (t0 : Int) (t1 : ByteArray) (t2 : Int) (t3 : Option Addr) (t4 t5 : Nat), a = some ⟨b, off, none⟩ ∧
      (w.cell? ⟨b, off + i * 14, none⟩ = some (.string l[i].name) ∧
      w.cell? ⟨b, off + i * 14 + 1, none⟩ = some (.slice ga l[i].generics.length gc) ∧
      w.cell? ⟨b, off + i * 14 + 2, none⟩ = some (.slice ra l[i].reqs.length rc) ∧
      w.cell? ⟨b, off + i * 14 + 3, none⟩ = some (.int .i64 l[i].params) ∧
      w.cell? ⟨b, off + i * 14 + 4, none⟩ = some (.slice sa l[i].slots.length sc) ∧
      w.cell? ⟨b, off + i * 14 + 5, none⟩ = some (.int .i64 r0) ∧
      w.cell? ⟨b, off + i * 14 + 6, none⟩ = some (.string r1) ∧
      w.cell? ⟨b, off + i * 14 + 7, none⟩ = some (.int .i64 r2) ∧
      w.cell? ⟨b, off + i * 14 + 8, none⟩ = some (.slice r3 r4 r5) ∧
      w.cell? ⟨b, off + i * 14 + 9, none⟩ = some (.int .i64 t0) ∧
      w.cell? ⟨b, off + i * 14 + 10, none⟩ = some (.string t1) ∧
      w.cell? ⟨b, off + i * 14 + 11, none⟩ = some (.int .i64 t2) ∧
      w.cell? ⟨b, off + i * 14 + 12, none⟩ = some (.slice t3 t4 t5) ∧
      w.cell? ⟨b, off + i * 14 + 13, none⟩ = some (.slice ba l[i].blocks.length bc)) ∧
      Sl 1 StrP w l[i].generics ga gc ∧ Sl 10 RqP w l[i].reqs ra rc ∧ Sl 5 SltP w l[i].slots sa sc ∧ Sl 1 BlkP w l[i].blocks ba bc ∧ Ty.In w l[i].result #[.int .i64 r0, .string r1, .int .i64 r2, .slice r3 r4 r5] ∧ Ty.In w l[i].throws #[.int .i64 t0, .string t1, .int .i64 t2, .slice t3 t4 t5] ∧ l[i].name.size ≤ maxLen := by
  obtain ⟨b, off, c, ha, hc, hp⟩ := h.at i hi
  obtain ⟨ga, gc, e1, h1⟩ := hp.generics
  obtain ⟨ra, rc, e2, h2⟩ := hp.reqs
  obtain ⟨sa, sc, e4, h4⟩ := hp.slots
  obtain ⟨ba, bc, e13, h13⟩ := hp.blocks
  have hr := hp.result
  have ht := hp.throws
  obtain ⟨r0, r1, r2, r3, r4, r5, ra', rb', rc', rd'⟩ := Ty.cells4 hr
  obtain ⟨t0, t1, t2, t3, t4, t5, ta', tb', tc', td'⟩ := Ty.cells4 ht
  unfold TyP at hr ht
  rw [ra', rb', rc', rd'] at hr
  rw [ta', tb', tc', td'] at ht
  refine ⟨b, off, ga, gc, ra, rc, sa, sc, ba, bc, r0, r1, r2, r3, r4, r5, t0, t1, t2, t3, t4, t5, ha, ⟨?_, ?_, ?_, ?_, ?_, ?_, ?_, ?_, ?_, ?_, ?_, ?_, ?_, ?_⟩, h1, h2, h4, h13, hr, ht, hp.name.2⟩
  · rw [← hp.name.1]; exact hc 0 (by omega)
  · rw [← e1]; exact hc 1 (by omega)
  · rw [← e2]; exact hc 2 (by omega)
  · rw [← hp.params.1]; exact hc 3 (by omega)
  · rw [← e4]; exact hc 4 (by omega)
  · rw [← ra']; exact hc 5 (by omega)
  · rw [← rb']; exact hc 6 (by omega)
  · rw [← rc']; exact hc 7 (by omega)
  · rw [← rd']; exact hc 8 (by omega)
  · rw [← ta']; exact hc 9 (by omega)
  · rw [← tb']; exact hc 10 (by omega)
  · rw [← tc']; exact hc 11 (by omega)
  · rw [← td']; exact hc 12 (by omega)
  · rw [← e13]; exact hc 13 (by omega)

/-- the same, the cells in a later world, what hangs on them in the elder one -/
theorem Cods.cellsAt {w w1 : World} (hw : Keeps w w1) {l : List Cod} {a : Option Addr} {cap : Nat} (h : Sl 14 CodP w l a cap) (i : Nat) (hi : i < l.length) :
    ∃ (b off : Nat) (ga : Option Addr) (gc : Nat) (ra : Option Addr) (rc : Nat) (sa : Option Addr) (sc : Nat) (ba : Option Addr) (bc : Nat) (r0 : Int) (r1 : ByteArray) (r2 : Int) (r3 : Option Addr) (r4 r5 : Nat) (t0 : Int) (t1 : ByteArray) (t2 : Int) (t3 : Option Addr) (t4 t5 : Nat), a = some ⟨b, off, none⟩ ∧
      (w1.cell? ⟨b, off + i * 14, none⟩ = some (.string l[i].name) ∧
      w1.cell? ⟨b, off + i * 14 + 1, none⟩ = some (.slice ga l[i].generics.length gc) ∧
      w1.cell? ⟨b, off + i * 14 + 2, none⟩ = some (.slice ra l[i].reqs.length rc) ∧
      w1.cell? ⟨b, off + i * 14 + 3, none⟩ = some (.int .i64 l[i].params) ∧
      w1.cell? ⟨b, off + i * 14 + 4, none⟩ = some (.slice sa l[i].slots.length sc) ∧
      w1.cell? ⟨b, off + i * 14 + 5, none⟩ = some (.int .i64 r0) ∧
      w1.cell? ⟨b, off + i * 14 + 6, none⟩ = some (.string r1) ∧
      w1.cell? ⟨b, off + i * 14 + 7, none⟩ = some (.int .i64 r2) ∧
      w1.cell? ⟨b, off + i * 14 + 8, none⟩ = some (.slice r3 r4 r5) ∧
      w1.cell? ⟨b, off + i * 14 + 9, none⟩ = some (.int .i64 t0) ∧
      w1.cell? ⟨b, off + i * 14 + 10, none⟩ = some (.string t1) ∧
      w1.cell? ⟨b, off + i * 14 + 11, none⟩ = some (.int .i64 t2) ∧
      w1.cell? ⟨b, off + i * 14 + 12, none⟩ = some (.slice t3 t4 t5) ∧
      w1.cell? ⟨b, off + i * 14 + 13, none⟩ = some (.slice ba l[i].blocks.length bc)) ∧
      Sl 1 StrP w l[i].generics ga gc ∧ Sl 10 RqP w l[i].reqs ra rc ∧ Sl 5 SltP w l[i].slots sa sc ∧ Sl 1 BlkP w l[i].blocks ba bc ∧ Ty.In w l[i].result #[.int .i64 r0, .string r1, .int .i64 r2, .slice r3 r4 r5] ∧ Ty.In w l[i].throws #[.int .i64 t0, .string t1, .int .i64 t2, .slice t3 t4 t5] ∧ l[i].name.size ≤ maxLen := by
  obtain ⟨b, off, ga, gc, ra, rc, sa, sc, ba, bc, r0, r1, r2, r3, r4, r5, t0, t1, t2, t3, t4, t5, e, ⟨c0, c1, c2, c3, c4, c5, c6, c7, c8, c9, c10, c11, c12, c13⟩, rest⟩ := Cods.cells h i hi
  exact ⟨b, off, ga, gc, ra, rc, sa, sc, ba, bc, r0, r1, r2, r3, r4, r5, t0, t1, t2, t3, t4, t5, e, ⟨hw _ _ c0, hw _ _ c1, hw _ _ c2, hw _ _ c3, hw _ _ c4, hw _ _ c5, hw _ _ c6, hw _ _ c7, hw _ _ c8, hw _ _ c9, hw _ _ c10, hw _ _ c11, hw _ _ c12, hw _ _ c13⟩, rest⟩

/-- the fourteen cells of an instruction -/
theorem Inss.cells {w : World} {l : List Ins} {a : Option Addr} {cap : Nat} (h : Sl 14 InsP w l a cap) (i : Nat) (hi : i < l.length) :
    ∃ (b off : Nat) (aa : Option Addr) (ac : Nat) (ta : Option Addr) (tc : Nat) (pa : Option Addr) (pc : Nat) (k0 : Int) (k1 : ByteArray) (k2 : Int) (k3 : Option Addr) (k4 k5 : Nat), a = some ⟨b, off, none⟩ ∧
      (w.cell? ⟨b, off + i * 14, none⟩ = some (.int .i64 l[i].op) ∧
      w.cell? ⟨b, off + i * 14 + 1, none⟩ = some (.int .i64 l[i].dst) ∧
      w.cell? ⟨b, off + i * 14 + 2, none⟩ = some (.slice aa l[i].args.length ac) ∧
      w.cell? ⟨b, off + i * 14 + 3, none⟩ = some (.string l[i].s) ∧
      w.cell? ⟨b, off + i * 14 + 4, none⟩ = some (.int .i64 l[i].n) ∧
      w.cell? ⟨b, off + i * 14 + 5, none⟩ = some (.int .i64 k0) ∧
      w.cell? ⟨b, off + i * 14 + 6, none⟩ = some (.string k1) ∧
      w.cell? ⟨b, off + i * 14 + 7, none⟩ = some (.int .i64 k2) ∧
      w.cell? ⟨b, off + i * 14 + 8, none⟩ = some (.slice k3 k4 k5) ∧
      w.cell? ⟨b, off + i * 14 + 9, none⟩ = some (.slice ta l[i].ts.length tc) ∧
      w.cell? ⟨b, off + i * 14 + 10, none⟩ = some (.slice pa l[i].path.length pc) ∧
      w.cell? ⟨b, off + i * 14 + 11, none⟩ = some (.int .i64 l[i].to) ∧
      w.cell? ⟨b, off + i * 14 + 12, none⟩ = some (.int .i64 l[i].err) ∧
      w.cell? ⟨b, off + i * 14 + 13, none⟩ = some (.int .i64 l[i].e)) ∧
      Sl 3 OpdP w l[i].args aa ac ∧ Ty.In w l[i].t #[.int .i64 k0, .string k1, .int .i64 k2, .slice k3 k4 k5] ∧ Sl 4 TyP w l[i].ts ta tc ∧ Sl 1 StrP w l[i].path pa pc ∧ (I64 l[i].op ∧ l[i].s.size ≤ maxLen) := by
  obtain ⟨b, off, c, ha, hc, hp⟩ := h.at i hi
  obtain ⟨aa, ac, e2, h2⟩ := hp.args
  obtain ⟨ta, tc, e9, h9⟩ := hp.ts
  obtain ⟨pa, pc, e10, h10⟩ := hp.path
  have hk := hp.t
  obtain ⟨k0, k1, k2, k3, k4, k5, ka', kb', kc', kd'⟩ := Ty.cells4 hk
  unfold TyP at hk
  rw [ka', kb', kc', kd'] at hk
  refine ⟨b, off, aa, ac, ta, tc, pa, pc, k0, k1, k2, k3, k4, k5, ha, ⟨?_, ?_, ?_, ?_, ?_, ?_, ?_, ?_, ?_, ?_, ?_, ?_, ?_, ?_⟩, h2, hk, h9, h10, hp.op.2, hp.s.2⟩
  · rw [← hp.op.1]; exact hc 0 (by omega)
  · rw [← hp.dst.1]; exact hc 1 (by omega)
  · rw [← e2]; exact hc 2 (by omega)
  · rw [← hp.s.1]; exact hc 3 (by omega)
  · rw [← hp.n.1]; exact hc 4 (by omega)
  · rw [← ka']; exact hc 5 (by omega)
  · rw [← kb']; exact hc 6 (by omega)
  · rw [← kc']; exact hc 7 (by omega)
  · rw [← kd']; exact hc 8 (by omega)
  · rw [← e9]; exact hc 9 (by omega)
  · rw [← e10]; exact hc 10 (by omega)
  · rw [← hp.to.1]; exact hc 11 (by omega)
  · rw [← hp.err.1]; exact hc 12 (by omega)
  · rw [← hp.e.1]; exact hc 13 (by omega)

/-- the one cell of a block -/
theorem Blks.cell {w : World} {l : List (List Ins)} {a : Option Addr} {cap : Nat} (h : Sl 1 BlkP w l a cap) (i : Nat) (hi : i < l.length) :
    ∃ b off ia ic, a = some ⟨b, off, none⟩ ∧ w.cell? ⟨b, off + i, none⟩ = some (.slice ia l[i].length ic) ∧ Sl 14 InsP w l[i] ia ic := by
  obtain ⟨b, off, c, ha, hc, hp⟩ := h.at i hi
  obtain ⟨ia, ic, e, hp⟩ := hp
  exact ⟨b, off, ia, ic, ha, by rw [← e]; simpa using hc 0 (by omega), hp⟩

/-- how many blocks and instructions a code has -/
def Cod.tot (c : Cod) : Nat := c.blocks.length + (c.blocks.map List.length).sum
def totL (l : List Cod) : Nat := (l.map Cod.tot).sum
theorem sum_take_succ {α : Type} (f : α → Nat) (l : List α) (i : Nat) (h : i < l.length) : ((l.take (i + 1)).map f).sum = ((l.take i).map f).sum + f l[i] := by
  rw [List.take_succ_eq_append_getElem h, List.map_append, List.sum_append]; simp
theorem sum_take_le {α : Type} (f : α → Nat) (l : List α) (i : Nat) : ((l.take i).map f).sum ≤ (l.map f).sum := by
  conv => rhs; rw [← List.take_append_drop i l]
  rw [List.map_append, List.sum_append]; omega
theorem sum_map_le {α : Type} (f g : α → Nat) (l : List α) (h : ∀ x ∈ l, f x ≤ g x) : (l.map f).sum ≤ (l.map g).sum := by
  induction l with
  | nil => simp
  | cons a l ih => simp only [List.map_cons, List.sum_cons]; have := h a (.head _); have := ih fun x hx => h x (.tail _ hx); omega

end Go.Proofs.YtfpbhmikogdpgaaGreatDoor
