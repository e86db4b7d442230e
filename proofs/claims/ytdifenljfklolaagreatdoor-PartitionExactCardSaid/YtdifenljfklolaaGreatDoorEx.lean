/- PartitionExact: the row and its card: for every case that the caller may hand in, the law answers true, and the case reads as it did; out of the function's contract (c3) and the reading of the caller's memory (SxK). -/
import Derived.Test.YtdifenljfklolaaGreatDoorCards
import Derived.Test.YtdifenljfklolaaGreatDoorTie
import Derived.Test.YtdifenljfklolaaGreatDoorSg3
import Derived.Test.YtdifenljfklolaaGreatDoorSxK
import Derived.Carry
import Derived.ProofKit
import Derived.OpenShut
import Derived.Deep.DeepHandedRow
namespace Go.Proofs.YtdifenljfklolaaGreatDoor.exact
open Go Go.ChangeShapes Go.WideShapes Go.ChangeAt Go.RowKit Go.Proofs.YtdifenljfklolaaGreatDoor Sx
theorem own : ownKnob Tryz.prog.godebug = none := by kernel_rfl
theorem laidOut : laidOutB Tryz.prog = true := by kernel_rfl
abbrev zcase : Value := .agg #[.slice none 0 0, .slice none 0 0, .int .i64 0, .int .i64 0, .int .i64 0, .int .i64 0, .slice none 0 0, .string ⟨#[]⟩, .slice none 0 0, .slice none 0 0]
theorem cells_agg {v : Value} {l : List Value} (h : v.cells.toList = l) (hl : l.length = 10) : v = .agg l.toArray := by
  cases v with
  | agg xs =>
    subst h
    simp [Value.cells]
  | _ => subst h; simp [Value.cells] at hl
/-- The case that is handed in, opened. -/
theorem opened {H : Type} {enc : TypeId × Value → H} {W : World} {v : Value} {d : DataW H} {p : List MemPlace} (h : DataW.Trod enc Tryz.prog W 0 (fun _ => true) true 30 v d p) :
    ∃ A0 n0 c0 A1 n1 c1 z2 z3 z4 z5 A6 n6 c6 g6 s7 A8 n8 c8 k8 A9 n9 c9, v = .agg #[.slice A0 n0 c0, .slice A1 n1 c1, iw z2, iw z3, iw z4, iw z5, .slice A6 n6 c6, .string s7, .slice A8 n8 c8, .slice A9 n9 c9] ∧
      WfS (HW W) el105 A0 n0 ∧ WfS (HW W) el45 A1 n1 ∧ LstIs (HW W) elV A6 n6 g6 ∧ s7.size < 9223372036854775808 ∧ KidsIs (HW W) A8 n8 k8 ∧ WfS (HW W) el24 A9 n9 := by
  obtain ⟨fuel, h⟩ := h
  obtain ⟨xs, n, rfl, _, hlen, hxl, hf⟩ := DataW.trod_struct Tryz.underlying30 h
  rw [show Tryz.prog.cellsOf 30 = 10 by kernel_rfl] at hlen
  obtain ⟨a0, a1, a2, a3, a4, a5, a6, a7, a8, a9, hc⟩ := len10 hlen
  have hv := cells_agg hc rfl
  rw [hc] at hf
  obtain ⟨y0, g0⟩ := piece hxl hf 0 22 0 1 rfl rfl rfl (by kernel_rfl)
  obtain ⟨y1, g1⟩ := piece hxl hf 1 23 1 1 rfl rfl rfl (by kernel_rfl)
  obtain ⟨y2, g2⟩ := piece hxl hf 2 27 2 7 rfl rfl rfl (by kernel_rfl)
  obtain ⟨y3, g3⟩ := piece hxl hf 3 28 9 1 rfl rfl rfl (by kernel_rfl)
  have s0 := wf_flat 4 22 [.slc el105] _ _ _ (by kernel_rfl) g0
  have s1 := wf_flat 4 23 [.slc el45] _ _ _ (by kernel_rfl) g1
  have s3 := wf_flat 5 28 [.slc el24] _ _ _ (by kernel_rfl) g3
  obtain ⟨_, _, e0, v0, _⟩ := wfl_cons s0
  obtain ⟨_, _, e1, v1, _⟩ := wfl_cons s1
  obtain ⟨_, _, e3, v3, _⟩ := wfl_cons s3
  injection e0 with e0 _; injection e1 with e1 _; injection e3 with e3 _
  subst e0; subst e1; subst e3
  obtain ⟨A0, n0, c0, rfl, f0⟩ := wfv_slc v0
  obtain ⟨A1, n1, c1, rfl, f1⟩ := wfv_slc v1
  obtain ⟨A9, n9, c9, rfl, f9⟩ := wfv_slc v3
  obtain ⟨t, ht⟩ := trod_pred _ _ _ g2
  obtain ⟨op, id, lo, hi, set, text, kids, rfl⟩ := PTs.node_ t
  obtain ⟨A, n', c, K, m, kc, he, h1, h2, h3⟩ := ht.open_
  injection he with e2 he; injection he with e3 he; injection he with e4 he; injection he with e5 he; injection he with e6 he; injection he with e7 he; injection he with e8 _
  subst e2; subst e3; subst e4; subst e5; subst e6; subst e7; subst e8
  exact ⟨A0, n0, c0, A1, n1, c1, op, id, lo, hi, A, n', c, set, text, K, m, kc, kids, A9, n9, c9, hv, f0, f1, h1, h2, h3, f9⟩
/-- The call, in a world of whatever memory. -/
theorem walk {H : Type} {enc : TypeId × Value → H} {W : World} {v : Value} {d : DataW H} {p : List MemPlace} (h : DataW.Trod enc Tryz.prog W 0 (fun _ => true) true 30 v d p) : Calls Tryz.prog 3 #[v] W fun e w' => e = .returned (.bool true) ∧ Below W.heap.size W w' := by
  obtain ⟨A0, n0, c0, A1, n1, c1, z2, z3, z4, z5, A6, n6, c6, g6, s7, A8, n8, c8, k8, A9, n9, c9, rfl, f0, f1, f6, f7, f8, f9⟩ := opened h
  have hm : Mem W (HW W) (HW W) ([] ++ []) W := ⟨Below.refl _ _, fun k o e => e, SLe.refl _, fun e he => (by cases he), List.Pairwise.nil⟩
  refine (c3 (HW W) A0 n0 c0 A1 n1 c1 z2 z3 z4 z5 A6 n6 c6 g6 s7 A8 n8 c8 k8 A9 n9 c9 f0 f1 f6 f7 f8 f9 W (HW W) [] W hm).mono fun e w' he => ?_
  obtain ⟨v, H', kb, rfl, _, hm', rfl⟩ := he
  exact ⟨rfl, hm'.below⟩
set_option maxRecDepth 100000 in
theorem contract (H : Type) (enc : TypeId × Value → H) (W : World) (base : Nat) (args : Array Value) (ds gs : List (DataW H)) (before : List MemPlace)
    (hval : ∀ (j : Nat) t v, Tryz.f3.params[j]? = some t → args[j]? = some v → Value.okWide Tryz.prog W .any base t v)
    (hW : DataW.Whole enc Tryz.prog Tryz.f3.params.toList Rows.partitionExactSpec.vars false W args.toList ds gs before) :
    Calls Tryz.prog 3 args W fun e W' => ∃ v, e = .returned v ∧ Rows.partitionExactSpec.post enc Tryz.prog Tryz.f3 false true false false W args v W' := by
  have hW' := hW
  obtain ⟨p, q, hA0, hV, rfl, hfz, hnd⟩ := hW
  have hA : DataW.TrodAll enc Tryz.prog W 0 (fun _ => true) true Tryz.f3.params.toList args.toList ds p := hA0
  rw [Tryz.params3] at hA hval
  obtain ⟨v0, vs0, d0, ds0, p0, q0, hargs, rfl, rfl, h0, r0⟩ := trodAll_cons hA
  obtain ⟨rfl, rfl, rfl⟩ := trodAll_nil r0
  obtain rfl : args = #[v0] := by cases args; simp_all
  obtain ⟨rfl, rfl⟩ := trodVars_none hV
  clear hA0
  simp only [List.append_nil] at hW'
  have hlt : ∀ x ∈ p0 ++ [], x.block < W.heap.size := fun x hx => by simpa using hW'.lt x (by simpa using hx)
  refine (walk h0).mono fun e W' ⟨he, hb⟩ => ?_
  subst he
  exact ⟨_, rfl, [d0], [], _, [], p0 ++ [], [], hW', trodAll_cons_mk (shut_bool Tryz.underlying4 _) trodAll_mk0, trodAll_cons_mk (Below.trod laidOut (by kernel_rfl) (of_decide_eq_true (by kernel_rfl)) h0 hb (fun x hx => hlt x (List.mem_append_left _ hx))) trodAll_mk0, rfl, hb.frame _, fun h => by cases h⟩
theorem gTab : Tryz.prog.globalNamed "fenland/blake.sigma" = some 2 := by kernel_rfl
/-- A world for the witness: the settled one, the table holding what its initialiser lays. -/
noncomputable def laidWorld (os : Os) : World :=
  { World.holding Tryz.prog os ⟨#[], #[], []⟩ with heap := (World.holding Tryz.prog os ⟨#[], #[], []⟩).heap.modify 2 fun
      | .cells _ t frozen => .cells #[.int .u8 0, .int .u8 1, .int .u8 2, .int .u8 3, .int .u8 4, .int .u8 5, .int .u8 6, .int .u8 7, .int .u8 8, .int .u8 9, .int .u8 10, .int .u8 11, .int .u8 12, .int .u8 13, .int .u8 14, .int .u8 15, .int .u8 14, .int .u8 10, .int .u8 4, .int .u8 8, .int .u8 9, .int .u8 15, .int .u8 13, .int .u8 6, .int .u8 1, .int .u8 12, .int .u8 0, .int .u8 2, .int .u8 11, .int .u8 7, .int .u8 5, .int .u8 3, .int .u8 11, .int .u8 8, .int .u8 12, .int .u8 0, .int .u8 5, .int .u8 2, .int .u8 15, .int .u8 13, .int .u8 10, .int .u8 14, .int .u8 3, .int .u8 6, .int .u8 7, .int .u8 1, .int .u8 9, .int .u8 4, .int .u8 7, .int .u8 9, .int .u8 3, .int .u8 1, .int .u8 13, .int .u8 12, .int .u8 11, .int .u8 14, .int .u8 2, .int .u8 6, .int .u8 5, .int .u8 10, .int .u8 4, .int .u8 0, .int .u8 15, .int .u8 8, .int .u8 9, .int .u8 0, .int .u8 5, .int .u8 7, .int .u8 2, .int .u8 4, .int .u8 10, .int .u8 15, .int .u8 14, .int .u8 1, .int .u8 11, .int .u8 12, .int .u8 6, .int .u8 8, .int .u8 3, .int .u8 13, .int .u8 2, .int .u8 12, .int .u8 6, .int .u8 10, .int .u8 0, .int .u8 11, .int .u8 8, .int .u8 3, .int .u8 4, .int .u8 13, .int .u8 7, .int .u8 5, .int .u8 15, .int .u8 14, .int .u8 1, .int .u8 9, .int .u8 12, .int .u8 5, .int .u8 1, .int .u8 15, .int .u8 14, .int .u8 13, .int .u8 4, .int .u8 10, .int .u8 0, .int .u8 7, .int .u8 6, .int .u8 3, .int .u8 9, .int .u8 2, .int .u8 8, .int .u8 11, .int .u8 13, .int .u8 11, .int .u8 7, .int .u8 14, .int .u8 12, .int .u8 1, .int .u8 3, .int .u8 9, .int .u8 5, .int .u8 0, .int .u8 15, .int .u8 4, .int .u8 8, .int .u8 6, .int .u8 2, .int .u8 10, .int .u8 6, .int .u8 15, .int .u8 14, .int .u8 9, .int .u8 11, .int .u8 3, .int .u8 0, .int .u8 8, .int .u8 12, .int .u8 2, .int .u8 13, .int .u8 7, .int .u8 1, .int .u8 4, .int .u8 10, .int .u8 5, .int .u8 10, .int .u8 2, .int .u8 8, .int .u8 4, .int .u8 7, .int .u8 6, .int .u8 1, .int .u8 5, .int .u8 15, .int .u8 11, .int .u8 9, .int .u8 14, .int .u8 3, .int .u8 12, .int .u8 13, .int .u8 0] t frozen
      | o => o }
set_option maxRecDepth 100000 in
theorem laid_met (os : Os) : laidMet Tryz.prog Rows.partitionExactRow.laid ((laidWorld os).forCall (fun _ _ => 0) ⟨#[], #[zcase], []⟩).memory :=
  laidMet_of_run' 8 (by kernel_rfl) (by kernel_rfl)
theorem reads (os : Os) {H : Type} (enc : TypeId × Value → H) : ∃ places, DataW.whole enc Tryz.prog ((laidWorld os).forCall (fun _ _ => 0) ⟨#[], #[zcase], []⟩).memory Tryz.f3.params.toList Rows.partitionExactSpec.vars false #[zcase].toList 8 = some ([.agg [.nil, .nil, .agg [.lit (.int .i64 0), .lit (.int .i64 0), .lit (.int .i64 0), .lit (.int .i64 0), .nil, .lit (.string []), .nil], .nil]], [], places) :=
  ⟨[], by kernel_rfl⟩
set_option maxRecDepth 100000 in
theorem lifted (os : Os) (started : os.Started) (H : Type) (enc : TypeId × Value → H) (F : Stop.Interp) :
    ReturnsInHanded {} Tryz.checked os 3 .any ((OpenSpec.ofChange Rows.partitionExactSpec).preRow enc Tryz.prog Tryz.f3 Rows.partitionExactRow.domain false Rows.partitionExactRow.laid) (((OpenSpec.ofChange Rows.partitionExactSpec).at F).post enc Tryz.prog Tryz.f3 false true false false) := by
  obtain ⟨places, hx⟩ := reads os enc
  refine returnsInHanded_of_row (C := Tryz.checked) (s := OpenSpec.ofChange Rows.partitionExactSpec) own started (by kernel_rfl) Tryz.func3
    (witness_row_at (enc := enc) (C := Tryz.checked) false (laidWorld os) #[zcase] rfl (by kernel_rfl) (by kernel_rfl) (by kernel_rfl)
      (OpenSpec.preRow_of_cond 8 hx (by kernel_rfl) (fun k hk => by cases hk) (by kernel_rfl) (laid_met os))) ?_
  intro W base args ds gs before hval hW _ _ _ hL _ _
  exact contract H enc W base args ds gs before hval hW
theorem said : Rows.PartitionExactSaid :=
  OpenClaim.holds_of_cond 3 Tryz.f3 rfl rfl rfl rfl rfl rfl rfl ⟨rfl, rfl, rfl, rfl, rfl⟩ rfl rfl rfl rfl rfl (by kernel_rfl) Tryz.func3 (by kernel_rfl)
    (of_decide_eq_true (by kernel_rfl)) (by unfold Func.isWrapper; first | (rw [if_pos (by decide +kernel)]; kernel_rfl) | (rw [if_neg (by decide +kernel)]; exact ⟨rfl, rfl⟩))
    (fun os started H enc _ F => by rw [OpenClaim.pre_eq_preRow]; exact lifted os started H enc F)
theorem plain (f : FuncId) (fn : Func) (hf : Tryz.pinned.checked.prog.funcNamed "fenland/fenlandlaw13.PartitionExact" = some f) (hfn : Tryz.pinned.checked.prog.funcs[f]? = some fn) :
    false = Tryz.pinned.checked.prog.looks [] ∧ ∀ (j : Nat) t, fn.params[j]? = some t → Tryz.pinned.checked.prog.wantsStandIn t = false := by
  obtain rfl : f = 3 := Option.some.inj ((show Tryz.prog.funcNamed "fenland/fenlandlaw13.PartitionExact" = some 3 by kernel_rfl).symm.trans hf) |>.symm
  obtain rfl : fn = Tryz.f3 := (Option.some.inj (Tryz.func3.symm.trans hfn)).symm
  refine ⟨by kernel_rfl, fun j t ht => ?_⟩
  rw [Tryz.params3] at ht
  obtain rfl : t = 30 := by simpa using Array.mem_of_getElem? ht
  exact (show Tryz.prog.wantsStandIn 30 = false by kernel_rfl)
/-- The card. -/
theorem card : Rows.PartitionExactCardSaid :=
  Claim7.holds_tied_plain_at .later [] _ _ _ _ said (fun _ h => by cases h) (by kernel_rfl) (fun _ h => by cases h) partitionExact_row_tie rfl ⟨rfl, rfl⟩ (by kernel_rfl) rfl plain (by kernel_rfl)
end Go.Proofs.YtdifenljfklolaaGreatDoor.exact
