/- PartitionMonths: the row and its card, out of the function's contract (PM) and the arithmetic of months (SxM). -/
import Derived.Test.YtldanodmjilfaaaDoorCards
import Derived.Test.YtldanodmjilfaaaDoorTie
import Derived.Test.YtldanodmjilfaaaDoorPm
import Derived.ProofKit
import Derived.OpenShut
import Derived.Deep.DeepHandedRow
namespace Go.Proofs.YtldanodmjilfaaaDoor.pmonths
open Go Go.ChangeShapes Go.WideShapes Go.ChangeAt Go.RowKit Go.Proofs.YtldanodmjilfaaaDoor Sx
theorem own : ownKnob Tryd.prog.godebug = none := by kernel_rfl
theorem i32_range {n : Int} (h : (Lit.int .i32 n).wf = true) : -2147483648 ≤ n ∧ n < 2147483648 := by
  have h1 : decide (-2147483648 ≤ n) = true ∧ decide (n ≤ 2147483647) = true := by
    have h2 : (decide (-2147483648 ≤ n) && decide (n ≤ 2147483647)) = true := h
    simpa using h2
  have h3 := of_decide_eq_true h1.1
  have h4 := of_decide_eq_true h1.2
  omega
/-- The call, in a world of whatever memory. -/
theorem walk (a : Int) (h : -2147483648 ≤ a ∧ a < 2147483648) (W : World) : Calls Tryd.prog 3 #[.int .i32 a] W fun e w' => e = .returned (.bool true) ∧ Below W.heap.size W w' := by
  have hm : Mem W (fun _ => none) (fun _ => none) ([] ++ []) W := ⟨Below.refl _ _, fun k o e => (by cases e), SLe.refl _, fun e he => (by cases he), List.Pairwise.nil⟩
  refine (m3_7 (fun _ => none) a h W (fun _ => none) [] W hm).mono fun e w' he => ?_
  obtain ⟨v, H', kb, rfl, _, hm', rfl⟩ := he
  exact ⟨rfl, hm'.below⟩
set_option maxRecDepth 100000 in
theorem contract (H : Type) (enc : TypeId × Value → H) (W : World) (base : Nat) (args : Array Value) (ds gs : List (DataW H)) (before : List MemPlace)
    (hval : ∀ (j : Nat) t v, Tryd.f3.params[j]? = some t → args[j]? = some v → Value.okWide Tryd.prog W .any base t v)
    (hW : DataW.Whole enc Tryd.prog Tryd.f3.params.toList Rows.partitionMonthsSpec.vars false W args.toList ds gs before) :
    Calls Tryd.prog 3 args W fun e W' => ∃ v, e = .returned v ∧ Rows.partitionMonthsSpec.post enc Tryd.prog Tryd.f3 false true false false W args v W' := by
  have hW' := hW
  obtain ⟨p, q, hA0, hV, rfl, hfz, hnd⟩ := hW
  have hA : DataW.TrodAll enc Tryd.prog W 0 (fun _ => true) true Tryd.f3.params.toList args.toList ds p := hA0
  rw [Tryd.params3] at hA hval
  obtain ⟨v0, vs0, d0, ds0, p0, q0, hargs, rfl, rfl, h0, r0⟩ := trodAll_cons hA
  obtain ⟨rfl, rfl, rfl⟩ := trodAll_nil r0
  obtain rfl : args = #[v0] := by cases args; simp_all
  obtain ⟨rfl, rfl⟩ := trodVars_none hV
  obtain ⟨a, rfl, rfl, rfl, wa⟩ := open_int Tryd.underlying21 (hval 0 21 v0 rfl rfl) h0
  clear hA0
  simp only [List.append_nil] at hW'
  refine (walk a (i32_range wa) W).mono fun e W' ⟨he, hb⟩ => ?_
  subst he
  exact ⟨_, rfl, _, _, [], [], [], [], hW', trodAll_cons_mk (shut_bool Tryd.underlying4 _) trodAll_mk0, trodAll_cons_mk (shut_int Tryd.underlying21 wa) trodAll_mk0, rfl, hb.frame _, fun h => by cases h⟩
theorem gTab : Tryd.prog.globalNamed "fenland/blake.sigma" = some 2 := by kernel_rfl
/-- A world for the witness: the settled one, the table holding what its initialiser lays. -/
noncomputable def laidWorld (os : Os) : World :=
  { World.holding Tryd.prog os ⟨#[], #[], []⟩ with heap := (World.holding Tryd.prog os ⟨#[], #[], []⟩).heap.modify 2 fun
      | .cells _ t frozen => .cells #[.int .u8 0, .int .u8 1, .int .u8 2, .int .u8 3, .int .u8 4, .int .u8 5, .int .u8 6, .int .u8 7, .int .u8 8, .int .u8 9, .int .u8 10, .int .u8 11, .int .u8 12, .int .u8 13, .int .u8 14, .int .u8 15, .int .u8 14, .int .u8 10, .int .u8 4, .int .u8 8, .int .u8 9, .int .u8 15, .int .u8 13, .int .u8 6, .int .u8 1, .int .u8 12, .int .u8 0, .int .u8 2, .int .u8 11, .int .u8 7, .int .u8 5, .int .u8 3, .int .u8 11, .int .u8 8, .int .u8 12, .int .u8 0, .int .u8 5, .int .u8 2, .int .u8 15, .int .u8 13, .int .u8 10, .int .u8 14, .int .u8 3, .int .u8 6, .int .u8 7, .int .u8 1, .int .u8 9, .int .u8 4, .int .u8 7, .int .u8 9, .int .u8 3, .int .u8 1, .int .u8 13, .int .u8 12, .int .u8 11, .int .u8 14, .int .u8 2, .int .u8 6, .int .u8 5, .int .u8 10, .int .u8 4, .int .u8 0, .int .u8 15, .int .u8 8, .int .u8 9, .int .u8 0, .int .u8 5, .int .u8 7, .int .u8 2, .int .u8 4, .int .u8 10, .int .u8 15, .int .u8 14, .int .u8 1, .int .u8 11, .int .u8 12, .int .u8 6, .int .u8 8, .int .u8 3, .int .u8 13, .int .u8 2, .int .u8 12, .int .u8 6, .int .u8 10, .int .u8 0, .int .u8 11, .int .u8 8, .int .u8 3, .int .u8 4, .int .u8 13, .int .u8 7, .int .u8 5, .int .u8 15, .int .u8 14, .int .u8 1, .int .u8 9, .int .u8 12, .int .u8 5, .int .u8 1, .int .u8 15, .int .u8 14, .int .u8 13, .int .u8 4, .int .u8 10, .int .u8 0, .int .u8 7, .int .u8 6, .int .u8 3, .int .u8 9, .int .u8 2, .int .u8 8, .int .u8 11, .int .u8 13, .int .u8 11, .int .u8 7, .int .u8 14, .int .u8 12, .int .u8 1, .int .u8 3, .int .u8 9, .int .u8 5, .int .u8 0, .int .u8 15, .int .u8 4, .int .u8 8, .int .u8 6, .int .u8 2, .int .u8 10, .int .u8 6, .int .u8 15, .int .u8 14, .int .u8 9, .int .u8 11, .int .u8 3, .int .u8 0, .int .u8 8, .int .u8 12, .int .u8 2, .int .u8 13, .int .u8 7, .int .u8 1, .int .u8 4, .int .u8 10, .int .u8 5, .int .u8 10, .int .u8 2, .int .u8 8, .int .u8 4, .int .u8 7, .int .u8 6, .int .u8 1, .int .u8 5, .int .u8 15, .int .u8 11, .int .u8 9, .int .u8 14, .int .u8 3, .int .u8 12, .int .u8 13, .int .u8 0] t frozen
      | o => o }
set_option maxRecDepth 100000 in
theorem laid_met (os : Os) : laidMet Tryd.prog Rows.partitionMonthsRow.laid ((laidWorld os).forCall (fun _ _ => 0) ⟨#[], #[.int .i32 0], []⟩).memory :=
  laidMet_of_run' 8 (by kernel_rfl) (by kernel_rfl)
theorem reads (os : Os) {H : Type} (enc : TypeId × Value → H) : ∃ places, DataW.whole enc Tryd.prog ((laidWorld os).forCall (fun _ _ => 0) ⟨#[], #[.int .i32 0], []⟩).memory Tryd.f3.params.toList Rows.partitionMonthsSpec.vars false #[Value.int .i32 0].toList 8 = some ([.lit (.int .i32 0)], [], places) :=
  ⟨[], by kernel_rfl⟩
set_option maxRecDepth 100000 in
theorem lifted (os : Os) (started : os.Started) (H : Type) (enc : TypeId × Value → H) (F : Stop.Interp) :
    ReturnsInHanded {} Tryd.checked os 3 .any ((OpenSpec.ofChange Rows.partitionMonthsSpec).preRow enc Tryd.prog Tryd.f3 Rows.partitionMonthsRow.domain false Rows.partitionMonthsRow.laid) (((OpenSpec.ofChange Rows.partitionMonthsSpec).at F).post enc Tryd.prog Tryd.f3 false true false false) := by
  obtain ⟨places, hx⟩ := reads os enc
  refine returnsInHanded_of_row (C := Tryd.checked) (s := OpenSpec.ofChange Rows.partitionMonthsSpec) own started (by kernel_rfl) Tryd.func3
    (witness_row_at (enc := enc) (C := Tryd.checked) false (laidWorld os) #[.int .i32 0] rfl (by kernel_rfl) (by kernel_rfl) (by kernel_rfl)
      (OpenSpec.preRow_of_cond 8 hx (by kernel_rfl) (fun k hk => by cases hk) (by kernel_rfl) (laid_met os))) ?_
  intro W base args ds gs before hval hW _ _ _ hL _ _
  exact contract H enc W base args ds gs before hval hW
theorem said : Rows.PartitionMonthsSaid :=
  OpenClaim.holds_of_cond 3 Tryd.f3 rfl rfl rfl rfl rfl rfl rfl ⟨rfl, rfl, rfl, rfl, rfl⟩ rfl rfl rfl rfl rfl (by kernel_rfl) Tryd.func3 (by kernel_rfl)
    (of_decide_eq_true (by kernel_rfl)) (by unfold Func.isWrapper; first | (rw [if_pos (by decide +kernel)]; kernel_rfl) | (rw [if_neg (by decide +kernel)]; exact ⟨rfl, rfl⟩))
    (fun os started H enc _ F => by rw [OpenClaim.pre_eq_preRow]; exact lifted os started H enc F)
theorem plain (f : FuncId) (fn : Func) (hf : Tryd.pinned.checked.prog.funcNamed "fenland/fenlandlaw13.PartitionMonths" = some f) (hfn : Tryd.pinned.checked.prog.funcs[f]? = some fn) :
    false = Tryd.pinned.checked.prog.looks [] ∧ ∀ (j : Nat) t, fn.params[j]? = some t → Tryd.pinned.checked.prog.wantsStandIn t = false := by
  obtain rfl : f = 3 := Option.some.inj ((show Tryd.prog.funcNamed "fenland/fenlandlaw13.PartitionMonths" = some 3 by kernel_rfl).symm.trans hf) |>.symm
  obtain rfl : fn = Tryd.f3 := (Option.some.inj (Tryd.func3.symm.trans hfn)).symm
  refine ⟨by kernel_rfl, fun j t ht => ?_⟩
  rw [Tryd.params3] at ht
  obtain rfl : t = 21 := by simpa using Array.mem_of_getElem? ht
  exact (show Tryd.prog.wantsStandIn 21 = false by kernel_rfl)
/-- The card. -/
theorem card : Rows.PartitionMonthsCardSaid :=
  Claim7.holds_tied_plain_at .later [] _ _ _ _ said (fun _ h => by cases h) (by kernel_rfl) (fun _ h => by cases h) partitionMonths_row_tie rfl ⟨rfl, rfl⟩ (by kernel_rfl) rfl plain (by kernel_rfl)
end Go.Proofs.YtldanodmjilfaaaDoor.pmonths
