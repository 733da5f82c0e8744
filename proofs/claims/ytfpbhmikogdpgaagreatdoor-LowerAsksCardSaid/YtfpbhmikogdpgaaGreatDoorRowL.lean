/- For every program that can be read as data, every Op and every name the law LowerAsks returns true, and the arguments read behind the call as before. Its conditions: the three listed package variables hold what the program's text lays in them; the card ties this to the text. -/
import Derived.Test.YtfpbhmikogdpgaaGreatDoorAwK
import Derived.Test.YtfpbhmikogdpgaaGreatDoorData
import Derived.Test.YtfpbhmikogdpgaaGreatDoorFacts
import Derived.Test.YtfpbhmikogdpgaaGreatDoorGoes
import Derived.Test.YtfpbhmikogdpgaaGreatDoorCards
import Derived.Test.YtfpbhmikogdpgaaGreatDoorTie
import Derived.WalkKit
import Derived.ProofKit
import Derived.OpenShut
import Derived.Deep.DeepHandedRow
import Derived.Deep.Fields
import Derived.Lib.LaidTab
import Derived.Carry
namespace Go.Proofs.YtfpbhmikogdpgaaGreatDoor.lowerAsks
open Go.ChangeShapes Go.WideShapes Go.ChangeAt Go.RowKit Go.Deep

theorem own : ownKnob Tryz.prog.godebug = none := by kernel_rfl
theorem laidOut : laidOutB Tryz.prog = true := by kernel_rfl
theorem cellsP : Tryz.prog.cellsOf 27 = 4 := by kernel_rfl
theorem cells25 : Tryz.prog.cellsOf 25 = 1 := by kernel_rfl
theorem cells22 : Tryz.prog.cellsOf 22 = 1 := by kernel_rfl
theorem cells23 : Tryz.prog.cellsOf 23 = 1 := by kernel_rfl
theorem cells24 : Tryz.prog.cellsOf 24 = 1 := by kernel_rfl
theorem under22 : ∃ e, Tryz.prog.underlying 22 = some (.slice e) := ⟨102, by kernel_rfl⟩
theorem under23 : ∃ e, Tryz.prog.underlying 23 = some (.slice e) := ⟨107, by kernel_rfl⟩
theorem under24 : ∃ e, Tryz.prog.underlying 24 = some (.slice e) := ⟨110, by kernel_rfl⟩

theorem slice_of {H : Type} {enc : TypeId × Value → H} {W : World} {T : TypeId} (hT : ∃ e, Tryz.prog.underlying T = some (.slice e)) {fuel : Nat} {cs : List Value} {x : DataW H × List MemPlace}
    (h : DataW.trod enc Tryz.prog W 0 (fun _ => true) true fuel T cs = some x) : ∃ a n c, cs = [.slice a n c] := by
  obtain ⟨e, hT⟩ := hT
  rcases DataW.trod_slice hT h with ⟨rfl, _⟩ | ⟨a, len, cap, elems, rest, n, rfl, rfl, hx, _⟩
  · exact ⟨_, _, _, rfl⟩
  · exact ⟨_, _, _, rfl⟩

set_option maxRecDepth 100000 in
theorem prog_of_trod {H : Type} {enc : TypeId × Value → H} {W : World} {fuel : Nat} {cs : List Value} {x : DataW H × List MemPlace}
    (h : DataW.trod enc Tryz.prog W 0 (fun _ => true) true fuel 27 cs = some x) (hw : ∀ n ∈ x.1.weights Tryz.prog 27, n ≤ reachBytes) :
    ∃ v0 v1 v2 a cap l, cs = [v0, v1, v2, .slice a l.length cap] ∧ Cods W l a cap ∧ (∃ a n c, v0 = .slice a n c) ∧ (∃ a n c, v1 = .slice a n c) ∧ (∃ a n c, v2 = .slice a n c) := by
  have hl := rd_len Tryz.underlying27 cellsP h
  obtain ⟨l, hr⟩ := rd_field Tryz.underlying27 h hw 3 _ rfl cells25 rd_cods
  obtain ⟨xs, n, _, _, _, hxs, hf⟩ := DataW.trod_struct Tryz.underlying27 h
  have hxs4 : xs.length = 4 := hxs
  match cs, hl with
  | [c0, c1, c2, c3], _ =>
  have f0 : DataW.trod enc Tryz.prog W 0 (fun _ => true) true n 22 (List.take (Tryz.prog.cellsOf 22) [c0, c1, c2, c3]) = xs[0]? := hf 0 _ rfl
  have f1 : DataW.trod enc Tryz.prog W 0 (fun _ => true) true n 23 (List.take (Tryz.prog.cellsOf 23) [c1, c2, c3]) = xs[1]? := hf 1 _ rfl
  have f2 : DataW.trod enc Tryz.prog W 0 (fun _ => true) true n 24 (List.take (Tryz.prog.cellsOf 24) [c2, c3]) = xs[2]? := hf 2 _ rfl
  rw [cells22] at f0
  rw [cells23] at f1
  rw [cells24] at f2
  rw [List.getElem?_eq_getElem (by omega)] at f0 f1 f2
  obtain ⟨a0, n0, k0, e0⟩ := slice_of under22 f0
  obtain ⟨a1, n1, k1, e1⟩ := slice_of under23 f1
  obtain ⟨a2, n2, k2, e2⟩ := slice_of under24 f2
  simp at e0 e1 e2
  obtain ⟨a, cap, e3, hS⟩ := hr
  have e3' : c3 = .slice a l.length cap := e3
  subst e0 e1 e2 e3'
  exact ⟨_, _, _, a, cap, l, rfl, hS, ⟨_, _, _, rfl⟩, ⟨_, _, _, rfl⟩, ⟨_, _, _, rfl⟩⟩

set_option maxRecDepth 100000 in
/-- WHAT THE WALK GIVES, FOR EVERY ARGUMENT -/
theorem contract (H : Type) (enc : TypeId × Value → H) (W : World) (base : Nat) (args : Array Value) (ds gs : List (DataW H)) (before : List MemPlace)
    (hval : ∀ (j : Nat) t v, Tryz.f3.params[j]? = some t → args[j]? = some v → Value.okWide Tryz.prog W .any base t v)
    (hW : DataW.Whole enc Tryz.prog Tryz.f3.params.toList Rows.lowerAsksSpec.vars false W args.toList ds gs before)
    (hsz0 : (DataW.weightsEach Tryz.prog (Tryz.f3.params.toList ++ (OpenSpec.ofChange Rows.lowerAsksSpec).bare.plain.varTypes Tryz.prog) (ds ++ gs)).all (· ≤ reachBytes) = true) :
    Calls Tryz.prog 3 args W fun e W' => ∃ v, e = .returned v ∧ Rows.lowerAsksSpec.post enc Tryz.prog Tryz.f3 false true false false W args v W' := by
  have hW' := hW
  obtain ⟨p, q, hA0, hV, rfl, hfz, hnd⟩ := hW
  have hA : DataW.TrodAll enc Tryz.prog W 0 (fun _ => true) true Tryz.f3.params.toList args.toList ds p := hA0
  rw [Tryz.params3] at hA hval hsz0
  obtain ⟨v0, vs0, d0, ds0, p0, q0, hargs, rfl, rfl, h0, r0⟩ := trodAll_cons hA
  obtain ⟨v1, vs1, d1, ds1, p1, q1, hargs1, rfl, rfl, h1, r1⟩ := trodAll_cons r0
  obtain ⟨v2, vs2, d2, ds2, p2, q2, hargs2, rfl, rfl, h2, r2⟩ := trodAll_cons r1
  obtain ⟨rfl, rfl, rfl⟩ := trodAll_nil r2
  obtain rfl : args = #[v0, v1, v2] := by cases args; simp_all
  obtain ⟨rfl, rfl⟩ := trodVars_none hV
  have hsz : ∀ n ∈ d0.weights Tryz.prog 27, n ≤ reachBytes := fun n hn => by
    have := List.all_eq_true.1 hsz0 n (DataW.weights_mem_each (j := 0) (t := 27) (d := d0) rfl rfl n hn)
    simpa using this
  have h0k := h0
  obtain ⟨op, rfl, rfl, rfl, hop⟩ := open_int under3 (hval 1 3 v1 rfl rfl) h1
  obtain ⟨s, rfl, rfl, rfl, hs⟩ := Go.ChangeMaps.open_string Tryz.underlying9 (hval 2 9 v2 rfl rfl) h2
  obtain ⟨c0, rfl, hc0⟩ := okWide_struct Tryz.underlying27 (hval 0 27 v0 rfl rfl)
  obtain ⟨fuel, hf⟩ := h0
  obtain ⟨u0, u1, u2, a, cap, l, hcs, hT, hu0, hu1, hu2⟩ := prog_of_trod hf hsz
  obtain rfl : c0 = #[u0, u1, u2, .slice a l.length cap] := by
    have : c0.toList = [u0, u1, u2, .slice a l.length cap] := by simpa [Value.cells] using hcs
    cases c0; simp_all
  clear hA0
  simp only [List.append_nil, List.nil_append] at hW'
  refine (lowerAsks_any l u0 u1 u2 a cap op s W hT hu0 hu1 hu2 hs).mono fun e W' ⟨he, hb⟩ => ?_
  subst he
  have hlt : ∀ x ∈ p0, x.block < W.heap.size := fun x hx => by simpa using hW'.lt x hx
  have hread := Below.trod laidOut (by kernel_rfl) (of_decide_eq_true (by kernel_rfl)) h0k hb hlt
  refine ⟨_, rfl, _, _, _, [], p0, [], hW', ?_, ?_, rfl, hb.frame _, fun h => by cases h⟩
  · exact trodAll_cons_mk (shut_bool Tryz.underlying4 _) trodAll_mk0
  · have h3 := trodAll_mk3 hread (shut_int under3 hop) (Go.ChangeMaps.shut_string Tryz.underlying9 hs)
    simp only [List.append_nil] at h3
    exact h3

/-- A WORLD FOR THE WITNESS: the settled one, the three tables holding what their initialisers lay. -/
noncomputable def laidHeap (os : Os) : Array Obj :=
  ((((World.holding Tryz.prog os ⟨#[], #[], []⟩).heap.modify 1 fun
      | .cells _ t frozen => .cells #[.int .u64 1, .int .u64 10, .int .u64 100, .int .u64 1000, .int .u64 10000, .int .u64 100000, .int .u64 1000000, .int .u64 10000000, .int .u64 100000000, .int .u64 1000000000, .int .u64 10000000000, .int .u64 100000000000, .int .u64 1000000000000, .int .u64 10000000000000, .int .u64 100000000000000, .int .u64 1000000000000000, .int .u64 10000000000000000, .int .u64 100000000000000000, .int .u64 1000000000000000000, .int .u64 10000000000000000000] t frozen
      | o => o).modify 2 fun
      | .cells _ t frozen => .cells #[.int .u8 0, .int .u8 1, .int .u8 28, .int .u8 2, .int .u8 29, .int .u8 14, .int .u8 24, .int .u8 3, .int .u8 30, .int .u8 22, .int .u8 20, .int .u8 15, .int .u8 25, .int .u8 17, .int .u8 4, .int .u8 8, .int .u8 31, .int .u8 27, .int .u8 13, .int .u8 23, .int .u8 21, .int .u8 19, .int .u8 16, .int .u8 7, .int .u8 26, .int .u8 12, .int .u8 18, .int .u8 6, .int .u8 11, .int .u8 5, .int .u8 10, .int .u8 9] t frozen
      | o => o).modify 3 fun
      | .cells _ t frozen => .cells #[.int .u8 0, .int .u8 1, .int .u8 56, .int .u8 2, .int .u8 57, .int .u8 49, .int .u8 28, .int .u8 3, .int .u8 61, .int .u8 58, .int .u8 42, .int .u8 50, .int .u8 38, .int .u8 29, .int .u8 17, .int .u8 4, .int .u8 62, .int .u8 47, .int .u8 59, .int .u8 36, .int .u8 45, .int .u8 43, .int .u8 51, .int .u8 22, .int .u8 53, .int .u8 39, .int .u8 33, .int .u8 30, .int .u8 24, .int .u8 18, .int .u8 12, .int .u8 5, .int .u8 63, .int .u8 55, .int .u8 48, .int .u8 27, .int .u8 60, .int .u8 41, .int .u8 37, .int .u8 16, .int .u8 46, .int .u8 35, .int .u8 44, .int .u8 21, .int .u8 52, .int .u8 32, .int .u8 23, .int .u8 11, .int .u8 54, .int .u8 26, .int .u8 40, .int .u8 15, .int .u8 34, .int .u8 20, .int .u8 31, .int .u8 10, .int .u8 25, .int .u8 14, .int .u8 19, .int .u8 9, .int .u8 13, .int .u8 8, .int .u8 7, .int .u8 6] t frozen
      | o => o)
noncomputable def laidWorld (os : Os) : World := { World.holding Tryz.prog os ⟨#[], #[], []⟩ with heap := laidHeap os }
theorem laid_met (os : Os) : laidMet Tryz.prog Rows.lowerAsksRow.laid ((laidWorld os).forCall (fun _ _ => 0) ⟨#[], #[.agg #[.slice none 0 0, .slice none 0 0, .slice none 0 0, .slice none 0 0], .int .i64 0, .string ⟨#[]⟩], []⟩).memory :=
  laidMet_of_run' 8 (by kernel_rfl) (by kernel_rfl)
theorem reads (os : Os) {H : Type} (enc : TypeId × Value → H) : ∃ places, DataW.whole enc Tryz.prog ((laidWorld os).forCall (fun _ _ => 0) ⟨#[], #[.agg #[.slice none 0 0, .slice none 0 0, .slice none 0 0, .slice none 0 0], .int .i64 0, .string ⟨#[]⟩], []⟩).memory Tryz.f3.params.toList Rows.lowerAsksSpec.vars false #[Value.agg #[.slice none 0 0, .slice none 0 0, .slice none 0 0, .slice none 0 0], .int .i64 0, .string ⟨#[]⟩].toList 8 = some ([.agg [.nil, .nil, .nil, .nil], .lit (.int .i64 0), .lit (.string [])], [], places) :=
  ⟨[], by kernel_rfl⟩

set_option maxRecDepth 100000 in
theorem lifted (os : Os) (started : os.Started) (H : Type) (enc : TypeId × Value → H) (F : Stop.Interp) :
    ReturnsInHanded {} Tryz.checked os 3 .any ((OpenSpec.ofChange Rows.lowerAsksSpec).preRow enc Tryz.prog Tryz.f3 Rows.lowerAsksRow.domain false Rows.lowerAsksRow.laid) (((OpenSpec.ofChange Rows.lowerAsksSpec).at F).post enc Tryz.prog Tryz.f3 false true false false) := by
  obtain ⟨places, hx⟩ := reads os enc
  refine returnsInHanded_of_row (C := Tryz.checked) (s := OpenSpec.ofChange Rows.lowerAsksSpec) own started (by kernel_rfl) Tryz.func3
    (witness_row_at (enc := enc) (C := Tryz.checked) false (laidWorld os) #[.agg #[.slice none 0 0, .slice none 0 0, .slice none 0 0, .slice none 0 0], .int .i64 0, .string ⟨#[]⟩] rfl (by kernel_rfl) (by kernel_rfl) (by kernel_rfl)
      (OpenSpec.preRow_of_cond 8 hx (by kernel_rfl) (fun k hk => by cases hk) (by kernel_rfl) (laid_met os))) ?_
  intro W base args ds gs before hval hW _ _ hsz _ _ _
  exact contract H enc W base args ds gs before hval hW hsz

set_option maxRecDepth 100000 in
theorem said : Rows.LowerAsksSaid :=
  OpenClaim.holds_of_cond 3 Tryz.f3 rfl rfl rfl rfl rfl rfl rfl ⟨rfl, rfl, rfl, rfl, rfl⟩ rfl rfl rfl rfl rfl (by kernel_rfl) Tryz.func3 closed
    (of_decide_eq_true (by kernel_rfl)) (by unfold Func.isWrapper; first | (rw [if_pos (by decide +kernel)]; kernel_rfl) | (rw [if_neg (by decide +kernel)]; exact ⟨rfl, rfl⟩))
    (fun os started H enc _ F => by rw [OpenClaim.pre_eq_preRow]; exact lifted os started H enc F)

theorem plain (f : FuncId) (fn : Func) (hf : Tryz.pinned.checked.prog.funcNamed "covalent/covalentlaw13.LowerAsks" = some f) (hfn : Tryz.pinned.checked.prog.funcs[f]? = some fn) :
    true = Tryz.pinned.checked.prog.looks [] ∧ ∀ (j : Nat) t, fn.params[j]? = some t → Tryz.pinned.checked.prog.wantsStandIn t = false := by
  obtain rfl : f = 3 := Option.some.inj ((show Tryz.prog.funcNamed "covalent/covalentlaw13.LowerAsks" = some 3 by kernel_rfl).symm.trans hf) |>.symm
  obtain rfl : fn = Tryz.f3 := (Option.some.inj (Tryz.func3.symm.trans hfn)).symm
  refine ⟨by kernel_rfl, fun j t ht => ?_⟩
  rw [Tryz.params3] at ht
  have ht2 : t = 27 ∨ t = 3 ∨ t = 9 := by simpa using Array.mem_of_getElem? ht
  rcases ht2 with rfl | rfl | rfl
  · exact (show Tryz.prog.wantsStandIn 27 = false by kernel_rfl)
  · exact (show Tryz.prog.wantsStandIn 3 = false by kernel_rfl)
  · exact (show Tryz.prog.wantsStandIn 9 = false by kernel_rfl)

theorem wfT : Rows.lowerAsksRow.wfByText (OpenSpec.ofChange Rows.lowerAsksSpec) = true := by kernel_rfl
theorem mainT : Tryz.pinned.checked.prog.mainIs = some (Rows.lowerAsksCard.stood.harness.1, Rows.lowerAsksCard.stood.harness.2.toList) := by kernel_rfl

theorem card : Rows.LowerAsksCardSaid :=
  Claim7.holds_tied_plain_at .later [] _ _ _ _ said (fun _ h => by cases h) wfT (fun _ h => by cases h) lowerAsks_row_tie rfl ⟨rfl, rfl⟩ mainT rfl plain goesT
#print axioms card
end Go.Proofs.YtfpbhmikogdpgaaGreatDoor.lowerAsks
