/- Contracts of functions at the arguments that the fixed examples meet: printed by a program of this claim's author. -/
import Derived.Test.YtldanodmjilfaaaDoorMon
import Derived.Test.YtldanodmjilfaaaDoorSn7
set_option linter.unusedVariables false
set_option maxHeartbeats 4000000
namespace Go.Proofs.YtldanodmjilfaaaDoor
open Go Go.RowKit Sx
def pmF (z0 : Int) (p q : Nat) : Nat → List (Nat × Value)
  | 0 => [(2, bF), (3, bT), (4, pt p 0), (5, iw (dayOf z0)), (16, .agg #[iw 5, iw 1, iw 0]), (17, iw (dayOf z0)), (20, .agg #[iw 5, iw 1, iw 0]), (22, iw (IntKind.i64.wrap ((dayOf z0) + 1))), (25, .agg #[iw 5, iw 1, iw 0]), (27, iw (IntKind.i64.wrap ((dayOf z0) + 31))), (30, .agg #[iw 5, iw 1, iw 0]), (32, iw (IntKind.i64.wrap ((dayOf z0) + 146097)))]
  | 1 => [(2, bF), (3, bT), (4, pt p 0), (5, iw (dayOf z0)), (16, .agg #[iw 5, iw 1, iw 0]), (17, iw (dayOf z0)), (18, .agg #[sl q 0 1 1]), (20, .agg #[iw 5, iw 1, iw 0]), (22, iw (IntKind.i64.wrap ((dayOf z0) + 1))), (25, .agg #[iw 5, iw 1, iw 0]), (27, iw (IntKind.i64.wrap ((dayOf z0) + 31))), (30, .agg #[iw 5, iw 1, iw 0]), (32, iw (IntKind.i64.wrap ((dayOf z0) + 146097)))]
  | 2 => [(2, bF), (3, bT), (4, pt p 0), (5, iw (dayOf z0)), (16, .agg #[iw 5, iw 1, iw 0]), (17, iw (dayOf z0)), (19, .agg #[bF, iw (monthZ (dayOf z0)), s0]), (20, .agg #[iw 5, iw 1, iw 0]), (22, iw (IntKind.i64.wrap ((dayOf z0) + 1))), (25, .agg #[iw 5, iw 1, iw 0]), (27, iw (IntKind.i64.wrap ((dayOf z0) + 31))), (30, .agg #[iw 5, iw 1, iw 0]), (32, iw (IntKind.i64.wrap ((dayOf z0) + 146097)))]
  | 3 => [(2, bF), (3, bT), (4, pt p 0), (5, iw (dayOf z0)), (16, .agg #[iw 5, iw 1, iw 0]), (17, iw (dayOf z0)), (19, .agg #[bF, iw (monthZ (dayOf z0)), s0]), (20, .agg #[iw 5, iw 1, iw 0]), (22, iw (IntKind.i64.wrap ((dayOf z0) + 1))), (23, .agg #[sl q 0 1 1]), (25, .agg #[iw 5, iw 1, iw 0]), (27, iw (IntKind.i64.wrap ((dayOf z0) + 31))), (30, .agg #[iw 5, iw 1, iw 0]), (32, iw (IntKind.i64.wrap ((dayOf z0) + 146097)))]
  | 4 => [(2, bF), (3, bT), (4, pt p 0), (5, iw (dayOf z0)), (16, .agg #[iw 5, iw 1, iw 0]), (17, iw (dayOf z0)), (19, .agg #[bF, iw (monthZ (dayOf z0)), s0]), (20, .agg #[iw 5, iw 1, iw 0]), (22, iw (IntKind.i64.wrap ((dayOf z0) + 1))), (24, .agg #[bF, iw (monthZ (IntKind.i64.wrap ((dayOf z0) + 1))), s0]), (25, .agg #[iw 5, iw 1, iw 0]), (27, iw (IntKind.i64.wrap ((dayOf z0) + 31))), (30, .agg #[iw 5, iw 1, iw 0]), (32, iw (IntKind.i64.wrap ((dayOf z0) + 146097)))]
  | 5 => [(2, bF), (3, bT), (4, pt p 0), (5, iw (dayOf z0)), (16, .agg #[iw 5, iw 1, iw 0]), (17, iw (dayOf z0)), (19, .agg #[bF, iw (monthZ (dayOf z0)), s0]), (20, .agg #[iw 5, iw 1, iw 0]), (22, iw (IntKind.i64.wrap ((dayOf z0) + 1))), (24, .agg #[bF, iw (monthZ (IntKind.i64.wrap ((dayOf z0) + 1))), s0]), (25, .agg #[iw 5, iw 1, iw 0]), (27, iw (IntKind.i64.wrap ((dayOf z0) + 31))), (28, .agg #[sl q 0 1 1]), (30, .agg #[iw 5, iw 1, iw 0]), (32, iw (IntKind.i64.wrap ((dayOf z0) + 146097)))]
  | 6 => [(2, bF), (3, bT), (4, pt p 0), (5, iw (dayOf z0)), (16, .agg #[iw 5, iw 1, iw 0]), (17, iw (dayOf z0)), (19, .agg #[bF, iw (monthZ (dayOf z0)), s0]), (20, .agg #[iw 5, iw 1, iw 0]), (22, iw (IntKind.i64.wrap ((dayOf z0) + 1))), (24, .agg #[bF, iw (monthZ (IntKind.i64.wrap ((dayOf z0) + 1))), s0]), (25, .agg #[iw 5, iw 1, iw 0]), (27, iw (IntKind.i64.wrap ((dayOf z0) + 31))), (29, .agg #[bF, iw (monthZ (IntKind.i64.wrap ((dayOf z0) + 31))), s0]), (30, .agg #[iw 5, iw 1, iw 0]), (32, iw (IntKind.i64.wrap ((dayOf z0) + 146097)))]
  | 7 => [(2, bF), (3, bT), (4, pt p 0), (5, iw (dayOf z0)), (16, .agg #[iw 5, iw 1, iw 0]), (17, iw (dayOf z0)), (19, .agg #[bF, iw (monthZ (dayOf z0)), s0]), (20, .agg #[iw 5, iw 1, iw 0]), (22, iw (IntKind.i64.wrap ((dayOf z0) + 1))), (24, .agg #[bF, iw (monthZ (IntKind.i64.wrap ((dayOf z0) + 1))), s0]), (25, .agg #[iw 5, iw 1, iw 0]), (27, iw (IntKind.i64.wrap ((dayOf z0) + 31))), (29, .agg #[bF, iw (monthZ (IntKind.i64.wrap ((dayOf z0) + 31))), s0]), (30, .agg #[iw 5, iw 1, iw 0]), (32, iw (IntKind.i64.wrap ((dayOf z0) + 146097))), (33, .agg #[sl q 0 1 1])]
  | 8 => [(2, bF), (3, bT), (4, pt p 0), (5, iw (dayOf z0)), (16, .agg #[iw 5, iw 1, iw 0]), (17, iw (dayOf z0)), (19, .agg #[bF, iw (monthZ (dayOf z0)), s0]), (20, .agg #[iw 5, iw 1, iw 0]), (22, iw (IntKind.i64.wrap ((dayOf z0) + 1))), (24, .agg #[bF, iw (monthZ (IntKind.i64.wrap ((dayOf z0) + 1))), s0]), (25, .agg #[iw 5, iw 1, iw 0]), (27, iw (IntKind.i64.wrap ((dayOf z0) + 31))), (29, .agg #[bF, iw (monthZ (IntKind.i64.wrap ((dayOf z0) + 31))), s0]), (30, .agg #[iw 5, iw 1, iw 0]), (32, iw (IntKind.i64.wrap ((dayOf z0) + 146097))), (34, .agg #[bF, iw (monthZ (IntKind.i64.wrap ((dayOf z0) + 146097))), s0])]
  | _ => []
def pmP (H : Snap) (z0 : Int) (q : Nat) : Nat → Prop
  | 1 => Pre H q [iw 1, bF, iw (dayOf z0), s0]
  | 3 => Pre H q [iw 1, bF, iw (IntKind.i64.wrap ((dayOf z0) + 1)), s0]
  | 5 => Pre H q [iw 1, bF, iw (IntKind.i64.wrap ((dayOf z0) + 31)), s0]
  | 7 => Pre H q [iw 1, bF, iw (IntKind.i64.wrap ((dayOf z0) + 146097)), s0]
  | _ => True
def pmL (k : Nat) (os : List (Option Nat)) : List Bool := [true, true, Nat.blt 0 k, Nat.blt 1 k, true, true, true, Nat.blt 2 k, Nat.blt 3 k, true, true, true, Nat.blt 4 k, Nat.blt 5 k, true, true, true, Nat.blt 6 k, Nat.blt 7 k] ++ os.map Option.isSome ++ [false, false, false, false]
def noneAt : Nat → List (Option Nat) → List Nat
  | _, [] => []
  | s, some _ :: r => noneAt (s + 1) r
  | s, none :: r => s :: noneAt (s + 1) r
def pmC : Nat → List Nat
  | 0 => [2]
  | 1 => [3]
  | 2 => [7]
  | 3 => [8]
  | 4 => [12]
  | 5 => [13]
  | 6 => [17]
  | 7 => [18]
  | _ => []
theorem noneAt_mem : ∀ {os : List (Option Nat)} {s i : Nat}, i ∈ noneAt s os → ∃ j, i = s + j ∧ os[j]? = some none
  | [], _, _, h => by cases h
  | some q :: r, s, i, h => by
    obtain ⟨j, h1, h2⟩ := noneAt_mem (os := r) (s := s + 1) h
    exact ⟨j + 1, by omega, by simpa using h2⟩
  | none :: r, s, i, h => by
    rcases List.mem_cons.1 h with rfl | h
    · exact ⟨0, rfl, rfl⟩
    · obtain ⟨j, h1, h2⟩ := noneAt_mem (os := r) (s := s + 1) h
      exact ⟨j + 1, by omega, by simpa using h2⟩
theorem eqOf {α : Type} {a b : α} (h : a = b) : a = b := h
theorem stepOf {ops : Array Oper} {l : List Bool} {R : List Nat} {A : Nat → Prop} (hr : Region.ready .any ops l.toArray = R) (hne : R ≠ []) (h : ∀ i ∈ R, A i) : Region.ready .any ops l.toArray ≠ [] ∧ ∀ i ∈ Region.ready .any ops l.toArray, A i := by
  rw [hr]
  exact ⟨hne, h⟩
set_option maxRecDepth 100000 in
theorem m3_7 (H : Snap) (z0 : Int) (hz : -2147483648 ≤ z0 ∧ z0 < 2147483648) : Does Tryd.prog 3 [.int .i32 z0] H [] (fun v H' kp => v = bT) := by
  refine Does.of Tryd.func3 rfl rfl rfl rfl (fun w0 H0 kx => ?_)
  refine Ok.seq ?_
  refine Ok.reg ?_
  refine Ok.seg (j := 1) (fun _ => [(0, .int .i32 z0), (2, bF)]) (fun _ => []) (fun _ => []) (fun _ => []) [.g []] [0, 2] rfl (fun _ => by kernel_rfl) (fun _ => trivial) (fun _ => ?_)
  refine Ok.segEnd rfl ?_
  refine Ok.thenN ?_
  refine Ok.seq ?_
  refine Ok.reg ?_
  refine Ok.eff (j := 1) rfl (Eff.call0 (d := some 11) (by kernel_rfl) (x4_1 H) ?_)
  rintro v3 H4 k6 le5 rfl
  refine Ok.dropL ?_
  refine Ok.seg (j := 2) (fun _ => [(0, .int .i32 z0), (2, bF), (3, bT)]) (fun _ => []) (fun _ => []) (fun _ => []) [.g []] [0, 2, 3] rfl (fun _ => by kernel_rfl) (fun _ => trivial) (fun _ => ?_)
  refine Ok.segEnd rfl ?_
  refine Ok.thenN ?_
  refine Ok.seq ?_
  refine Ok.reg ?_
  refine Ok.seg (j := 3) (fun b8 => [(0, .int .i32 z0), (2, bF), (3, bT), (4, pt b8 0)]) (fun b8 => [.blk b8 [iw 5, iw 1, iw 0] 24]) (fun b8 => [b8, b8, b8]) (fun b8 => []) [.g [], .g [.N], .g [.K 0 0, .K 0 1, .K 0 2]] [0, 2, 3, 4] rfl (fun b8 => by kernel_rfl) (fun b8 => trivial) (fun b8 => ?_)
  refine Ok.segEnd rfl ?_
  refine Ok.thenN ?_
  refine Ok.seq ?_
  refine Ok.reg ?_
  refine Ok.seg (j := 4) (fun _ => [(2, bF), (3, bT), (4, pt b8 0), (5, iw (dayOf z0))]) (fun _ => [.blk b8 [iw 5, iw 1, iw 0] 24]) (fun _ => []) (fun _ => []) [.g [], .g [], .g [], .g []] [2, 3, 4, 5] rfl (fun _ => by kernel_rfl) (fun _ => trivial) (fun _ => ?_)
  refine Ok.segEnd rfl ?_
  refine Ok.thenN ?_
  refine Ok.seq ?_
  refine Ok.pubP 0 rfl [] rfl ?_
  intro H10 le11 pf12
  refine Ok.start (idx := []) [] [] (by kernel_rfl) rfl rfl rfl ?_
  refine Ok.take (fuel' := 16) (l' := [true, true, false, false, true, true, true, false, false, true, true, true, false, false, true, true, true, false, false, false, false, false, false, false, false, false, false]) (qs := [(0, .g [.X (iw 5), .X (iw 1), .X (iw 0)]), (1, .g []), (4, .g [.X (iw 5), .X (iw 1), .X (iw 0)]), (5, .g []), (6, .g []), (9, .g [.X (iw 5), .X (iw 1), .X (iw 0)]), (10, .g []), (11, .g []), (14, .g [.X (iw 5), .X (iw 1), .X (iw 0)]), (15, .g []), (16, .g [])]) [(2, bF), (3, bT), (4, pt b8 0), (5, iw (dayOf z0)), (16, .agg #[iw 5, iw 1, iw 0]), (17, iw (dayOf z0)), (20, .agg #[iw 5, iw 1, iw 0]), (22, iw (IntKind.i64.wrap ((dayOf z0) + 1))), (25, .agg #[iw 5, iw 1, iw 0]), (27, iw (IntKind.i64.wrap ((dayOf z0) + 31))), (30, .agg #[iw 5, iw 1, iw 0]), (32, iw (IntKind.i64.wrap ((dayOf z0) + 146097)))] [] [HasCell H10 ⟨b8, 0, none⟩ (iw 5), HasCell H10 ⟨b8, 1, none⟩ (iw 1), HasCell H10 ⟨b8, 2, none⟩ (iw 0), HasCell H10 ⟨b8, 0, none⟩ (iw 5), HasCell H10 ⟨b8, 1, none⟩ (iw 1), HasCell H10 ⟨b8, 2, none⟩ (iw 0), HasCell H10 ⟨b8, 0, none⟩ (iw 5), HasCell H10 ⟨b8, 1, none⟩ (iw 1), HasCell H10 ⟨b8, 2, none⟩ (iw 0), HasCell H10 ⟨b8, 0, none⟩ (iw 5), HasCell H10 ⟨b8, 1, none⟩ (iw 1), HasCell H10 ⟨b8, 2, none⟩ (iw 0)] [2, 3, 4, 5, 16, 17, 20, 22, 25, 27, 30, 32] (by intro c a w d v h; cases d <;> exact h) (by kernel_rfl) rfl ⟨Pre.cell pf12 0 rfl, Pre.cell pf12 1 rfl, Pre.cell pf12 2 rfl, Pre.cell pf12 0 rfl, Pre.cell pf12 1 rfl, Pre.cell pf12 2 rfl, Pre.cell pf12 0 rfl, Pre.cell pf12 1 rfl, Pre.cell pf12 2 rfl, Pre.cell pf12 0 rfl, Pre.cell pf12 1 rfl, Pre.cell pf12 2 rfl, trivial⟩ ?_
  refine Ok.orders (fun m l H' fr kb => ∃ k os q, m = (8 - k) + nones os ∧ k ≤ 8 ∧ os.length = 4 ∧ l = pmL k os ∧ fr = pmF z0 b8 q k ++ AF 6 os ∧ kb.Perm (AK [bF, iw 0, s0] 26 os) ∧ pmP H' z0 q k) ?_ ?_ 12 _ _ _ _ (SLe.refl _) ⟨0, [none, none, none, none], 0, rfl, by decide, rfl, rfl, rfl, List.Perm.refl _, trivial⟩
  · rintro l H9 fr kb hle9 ⟨k, os, q, hm, hk, hlen, rfl, rfl, hp, _⟩
    have hk8 : k = 8 := by omega
    have hn0 : nones os = 0 := by omega
    subst hk8
    obtain ⟨p1, p2, p3, p4, rfl⟩ : ∃ p1 p2 p3 p4, os = [some p1, some p2, some p3, some p4] := by
      match os, hlen, hn0 with
      | [some p1, some p2, some p3, some p4], _, _ => exact ⟨p1, p2, p3, p4, rfl⟩
    refine Ok.permK hp ?_
    show OkD _ _ _ _ _ _ _ _ _ _ _ [true, true, true, true, true, true, true, true, true, true, true, true, true, true, true, true, true, true, true, true, true, true, true, false, false, false, false] _ [(2, bF), (3, bT), (4, pt b8 0), (5, iw (dayOf z0)), (16, .agg #[iw 5, iw 1, iw 0]), (17, iw (dayOf z0)), (19, .agg #[bF, iw (monthZ (dayOf z0)), s0]), (20, .agg #[iw 5, iw 1, iw 0]), (22, iw (IntKind.i64.wrap ((dayOf z0) + 1))), (24, .agg #[bF, iw (monthZ (IntKind.i64.wrap ((dayOf z0) + 1))), s0]), (25, .agg #[iw 5, iw 1, iw 0]), (27, iw (IntKind.i64.wrap ((dayOf z0) + 31))), (29, .agg #[bF, iw (monthZ (IntKind.i64.wrap ((dayOf z0) + 31))), s0]), (30, .agg #[iw 5, iw 1, iw 0]), (32, iw (IntKind.i64.wrap ((dayOf z0) + 146097))), (34, .agg #[bF, iw (monthZ (IntKind.i64.wrap ((dayOf z0) + 146097))), s0]), (6, pt p1 0), (7, pt p2 0), (8, pt p3 0), (9, pt p4 0)] [.blk p1 [bF, iw 0, s0] 26, .blk p2 [bF, iw 0, s0] 26, .blk p3 [bF, iw 0, s0] 26, .blk p4 [bF, iw 0, s0] 26]
    refine Ok.one (i := 23) (fuel' := 3) (l' := [true, true, true, true, true, true, true, true, true, true, true, true, true, true, true, true, true, true, true, true, true, true, true, true, false, false, false]) (by kernel_rfl) rfl rfl (Eff.op (.g [.K 0 0, .K 0 1, .K 0 2]) (fun _ => [(2, bF), (3, bT), (4, pt b8 0), (5, iw (dayOf z0)), (6, pt p1 0), (7, pt p2 0), (8, pt p3 0), (9, pt p4 0), (24, .agg #[bF, iw (monthZ (IntKind.i64.wrap ((dayOf z0) + 1))), s0]), (29, .agg #[bF, iw (monthZ (IntKind.i64.wrap ((dayOf z0) + 31))), s0]), (34, .agg #[bF, iw (monthZ (IntKind.i64.wrap ((dayOf z0) + 146097))), s0])]) (fun _ => [.blk p1 [bF, iw (monthZ (dayOf z0)), s0] 26, .blk p2 [bF, iw 0, s0] 26, .blk p3 [bF, iw 0, s0] 26, .blk p4 [bF, iw 0, s0] 26]) (fun _ => [p1, p1, p1]) (fun _ => []) [2, 3, 4, 5, 6, 7, 8, 9, 24, 29, 34] (fun _ => by kernel_rfl) (fun _ => trivial) (fun _ => ?_))
    refine Ok.withS (idx := []) hle9 rfl ?_
    refine Ok.one (i := 24) (fuel' := 2) (l' := [true, true, true, true, true, true, true, true, true, true, true, true, true, true, true, true, true, true, true, true, true, true, true, true, true, false, false]) (by kernel_rfl) rfl rfl (Eff.op (.g [.K 1 0, .K 1 1, .K 1 2]) (fun _ => [(2, bF), (3, bT), (4, pt b8 0), (5, iw (dayOf z0)), (6, pt p1 0), (7, pt p2 0), (8, pt p3 0), (9, pt p4 0), (29, .agg #[bF, iw (monthZ (IntKind.i64.wrap ((dayOf z0) + 31))), s0]), (34, .agg #[bF, iw (monthZ (IntKind.i64.wrap ((dayOf z0) + 146097))), s0])]) (fun _ => [.blk p1 [bF, iw (monthZ (dayOf z0)), s0] 26, .blk p2 [bF, iw (monthZ (IntKind.i64.wrap ((dayOf z0) + 1))), s0] 26, .blk p3 [bF, iw 0, s0] 26, .blk p4 [bF, iw 0, s0] 26]) (fun _ => [p2, p2, p2]) (fun _ => []) [2, 3, 4, 5, 6, 7, 8, 9, 29, 34] (fun _ => by kernel_rfl) (fun _ => trivial) (fun _ => ?_))
    refine Ok.withS (idx := []) hle9 rfl ?_
    refine Ok.one (i := 25) (fuel' := 1) (l' := [true, true, true, true, true, true, true, true, true, true, true, true, true, true, true, true, true, true, true, true, true, true, true, true, true, true, false]) (by kernel_rfl) rfl rfl (Eff.op (.g [.K 2 0, .K 2 1, .K 2 2]) (fun _ => [(2, bF), (3, bT), (4, pt b8 0), (5, iw (dayOf z0)), (6, pt p1 0), (7, pt p2 0), (8, pt p3 0), (9, pt p4 0), (34, .agg #[bF, iw (monthZ (IntKind.i64.wrap ((dayOf z0) + 146097))), s0])]) (fun _ => [.blk p1 [bF, iw (monthZ (dayOf z0)), s0] 26, .blk p2 [bF, iw (monthZ (IntKind.i64.wrap ((dayOf z0) + 1))), s0] 26, .blk p3 [bF, iw (monthZ (IntKind.i64.wrap ((dayOf z0) + 31))), s0] 26, .blk p4 [bF, iw 0, s0] 26]) (fun _ => [p3, p3, p3]) (fun _ => []) [2, 3, 4, 5, 6, 7, 8, 9, 34] (fun _ => by kernel_rfl) (fun _ => trivial) (fun _ => ?_))
    refine Ok.withS (idx := []) hle9 rfl ?_
    refine Ok.one (i := 26) (fuel' := 0) (l' := [true, true, true, true, true, true, true, true, true, true, true, true, true, true, true, true, true, true, true, true, true, true, true, true, true, true, true]) (by kernel_rfl) rfl rfl (Eff.op (.g [.K 3 0, .K 3 1, .K 3 2]) (fun _ => [(2, bF), (3, bT), (4, pt b8 0), (5, iw (dayOf z0)), (6, pt p1 0), (7, pt p2 0), (8, pt p3 0), (9, pt p4 0)]) (fun _ => [.blk p1 [bF, iw (monthZ (dayOf z0)), s0] 26, .blk p2 [bF, iw (monthZ (IntKind.i64.wrap ((dayOf z0) + 1))), s0] 26, .blk p3 [bF, iw (monthZ (IntKind.i64.wrap ((dayOf z0) + 31))), s0] 26, .blk p4 [bF, iw (monthZ (IntKind.i64.wrap ((dayOf z0) + 146097))), s0] 26]) (fun _ => [p4, p4, p4]) (fun _ => []) [2, 3, 4, 5, 6, 7, 8, 9] (fun _ => by kernel_rfl) (fun _ => trivial) (fun _ => ?_))
    refine Ok.withS (idx := []) hle9 rfl ?_
    refine Ok.done (by kernel_rfl) ?_
    refine Ok.thenN ?_
    refine Ok.seq ?_
    refine Ok.start (idx := [0, 1, 2, 3]) [] [.blk p1 [bF, iw (monthZ (dayOf z0)), s0] 26, .blk p2 [bF, iw (monthZ (IntKind.i64.wrap ((dayOf z0) + 1))), s0] 26, .blk p3 [bF, iw (monthZ (IntKind.i64.wrap ((dayOf z0) + 31))), s0] 26, .blk p4 [bF, iw (monthZ (IntKind.i64.wrap ((dayOf z0) + 146097))), s0] 26] (by kernel_rfl) rfl rfl rfl ?_
    refine Ok.take (fuel' := 4) (l' := [true, true, true, false, false, false, false]) (qs := [(0, .g [.X (iw 5), .X (iw 1), .X (iw 0)]), (1, .g []), (2, .g [])]) [(2, bF), (3, bT), (5, iw (dayOf z0)), (6, pt p1 0), (7, pt p2 0), (8, pt p3 0), (9, pt p4 0), (35, .agg #[iw 5, iw 1, iw 0]), (37, iw (IntKind.i64.wrap ((dayOf z0) + 28)))] [] [HasCell H9 ⟨b8, 0, none⟩ (iw 5), HasCell H9 ⟨b8, 1, none⟩ (iw 1), HasCell H9 ⟨b8, 2, none⟩ (iw 0)] [2, 3, 5, 6, 7, 8, 9, 35, 37] (by intro c a w d v h; cases d <;> exact h) (by kernel_rfl) rfl ⟨Pre.cell (Pre.mono hle9 pf12) 0 rfl, Pre.cell (Pre.mono hle9 pf12) 1 rfl, Pre.cell (Pre.mono hle9 pf12) 2 rfl, trivial⟩ ?_
    refine Ok.join (ι := Nat) (fun y17 => [(2, bF), (3, bT), (5, iw (dayOf z0)), (6, pt p1 0), (7, pt p2 0), (8, pt p3 0), (9, pt p4 0), (10, pt y17 0), (39, .agg #[bF, iw (monthZ (IntKind.i64.wrap ((dayOf z0) + 28))), s0])]) (fun y17 => [.blk p1 [bF, iw (monthZ (dayOf z0)), s0] 26, .blk p2 [bF, iw (monthZ (IntKind.i64.wrap ((dayOf z0) + 1))), s0] 26, .blk p3 [bF, iw (monthZ (IntKind.i64.wrap ((dayOf z0) + 31))), s0] 26, .blk p4 [bF, iw (monthZ (IntKind.i64.wrap ((dayOf z0) + 146097))), s0] 26, .blk y17 [bF, iw 0, s0] 26]) (fun H' y17 => True) 1 [true, true, true, true, true, true, false] ?_ (fun J18 => ?_)
    · rintro H20 q19 le21 _
      refine Ok.one (i := 6) (fuel' := 0) (l' := [true, true, true, true, true, true, true]) (by kernel_rfl) rfl rfl (Eff.op (.g [.K 4 0, .K 4 1, .K 4 2]) (fun _ => [(2, bF), (3, bT), (5, iw (dayOf z0)), (6, pt p1 0), (7, pt p2 0), (8, pt p3 0), (9, pt p4 0), (10, pt q19 0)]) (fun _ => [.blk p1 [bF, iw (monthZ (dayOf z0)), s0] 26, .blk p2 [bF, iw (monthZ (IntKind.i64.wrap ((dayOf z0) + 1))), s0] 26, .blk p3 [bF, iw (monthZ (IntKind.i64.wrap ((dayOf z0) + 31))), s0] 26, .blk p4 [bF, iw (monthZ (IntKind.i64.wrap ((dayOf z0) + 146097))), s0] 26, .blk q19 [bF, iw (monthZ (IntKind.i64.wrap ((dayOf z0) + 28))), s0] 26]) (fun _ => [q19, q19, q19]) (fun _ => []) [2, 3, 5, 6, 7, 8, 9, 10] (fun _ => by kernel_rfl) (fun _ => trivial) (fun _ => ?_))
      refine Ok.withS (idx := [0, 1, 2, 3]) le21 rfl ?_
      refine Ok.done (by kernel_rfl) ?_
      refine Ok.thenN ?_
      refine Ok.seq ?_
      refine Ok.reg ?_
      refine Ok.seg (j := 6) (fun _ => [(2, bF), (3, bT), (5, iw (dayOf z0)), (6, pt p1 0), (7, pt p2 0), (8, pt p3 0), (9, pt p4 0), (10, pt q19 0), (45, .bool ((monthZ (IntKind.i64.wrap ((dayOf z0) + 1))) == (monthZ (dayOf z0))))]) (fun _ => [.blk p1 [bF, iw (monthZ (dayOf z0)), s0] 26, .blk p2 [bF, iw (monthZ (IntKind.i64.wrap ((dayOf z0) + 1))), s0] 26, .blk p3 [bF, iw (monthZ (IntKind.i64.wrap ((dayOf z0) + 31))), s0] 26, .blk p4 [bF, iw (monthZ (IntKind.i64.wrap ((dayOf z0) + 146097))), s0] 26, .blk q19 [bF, iw (monthZ (IntKind.i64.wrap ((dayOf z0) + 28))), s0] 26]) (fun _ => [p2, p1]) (fun _ => []) [.g [], .g [.K 1 1], .g [], .g [.K 0 1], .g [], .g []] [2, 3, 5, 6, 7, 8, 9, 10, 45] rfl (fun _ => by kernel_rfl) (fun _ => trivial) (fun _ => ?_)
      refine Ok.cases ((monthZ (IntKind.i64.wrap ((dayOf z0) + 1))) == (monthZ (dayOf z0))) (fun x25 => [(2, bF), (3, bT), (5, iw (dayOf z0)), (6, pt p1 0), (7, pt p2 0), (8, pt p3 0), (9, pt p4 0), (10, pt q19 0), (45, .bool x25)]) rfl (fun h24 => ?_) (fun h24 => ?_)
      · refine Ok.seg (j := 21) (fun _ => [(2, bF), (3, bT), (5, iw (dayOf z0)), (6, pt p1 0), (8, pt p3 0), (9, pt p4 0), (10, pt q19 0), (60, .bool (decide ((monthZ (IntKind.i64.wrap ((dayOf z0) + 31))) > (monthZ (dayOf z0)))))]) (fun _ => [.blk p1 [bF, iw (monthZ (dayOf z0)), s0] 26, .blk p2 [bF, iw (monthZ (IntKind.i64.wrap ((dayOf z0) + 1))), s0] 26, .blk p3 [bF, iw (monthZ (IntKind.i64.wrap ((dayOf z0) + 31))), s0] 26, .blk p4 [bF, iw (monthZ (IntKind.i64.wrap ((dayOf z0) + 146097))), s0] 26, .blk q19 [bF, iw (monthZ (IntKind.i64.wrap ((dayOf z0) + 28))), s0] 26]) (fun _ => [p3, p1]) (fun _ => []) [.g [], .g [], .g [], .g [], .g [], .g [], .g [], .g [], .g [], .g [.K 2 1], .g [], .g [.K 0 1], .g [], .g [], .g []] [2, 3, 5, 6, 8, 9, 10, 60] rfl (fun _ => by kernel_rfl) (fun _ => trivial) (fun _ => ?_)
        refine Ok.cases (decide ((monthZ (IntKind.i64.wrap ((dayOf z0) + 31))) > (monthZ (dayOf z0)))) (fun x28 => [(2, bF), (3, bT), (5, iw (dayOf z0)), (6, pt p1 0), (8, pt p3 0), (9, pt p4 0), (10, pt q19 0), (60, .bool x28)]) rfl (fun h27 => ?_) (fun h27 => ?_)
        · refine Ok.seg (j := 29) (fun _ => [(2, bF), (3, bT), (5, iw (dayOf z0)), (6, pt p1 0), (9, pt p4 0), (10, pt q19 0), (68, .bool (decide ((monthZ (IntKind.i64.wrap ((dayOf z0) + 31))) ≤ (IntKind.i64.wrap ((monthZ (dayOf z0)) + 2)))))]) (fun _ => [.blk p1 [bF, iw (monthZ (dayOf z0)), s0] 26, .blk p2 [bF, iw (monthZ (IntKind.i64.wrap ((dayOf z0) + 1))), s0] 26, .blk p3 [bF, iw (monthZ (IntKind.i64.wrap ((dayOf z0) + 31))), s0] 26, .blk p4 [bF, iw (monthZ (IntKind.i64.wrap ((dayOf z0) + 146097))), s0] 26, .blk q19 [bF, iw (monthZ (IntKind.i64.wrap ((dayOf z0) + 28))), s0] 26]) (fun _ => [p3, p1]) (fun _ => []) [.g [], .g [.K 2 1], .g [], .g [.K 0 1], .g [], .g [], .g [], .g []] [2, 3, 5, 6, 9, 10, 68] rfl (fun _ => by kernel_rfl) (fun _ => trivial) (fun _ => ?_)
          refine Ok.mask [true, false, false, true, true] [.blk p1 [bF, iw (monthZ (dayOf z0)), s0] 26, .blk p4 [bF, iw (monthZ (IntKind.i64.wrap ((dayOf z0) + 146097))), s0] 26, .blk q19 [bF, iw (monthZ (IntKind.i64.wrap ((dayOf z0) + 28))), s0] 26] rfl ?_
          refine Ok.cases (decide ((monthZ (IntKind.i64.wrap ((dayOf z0) + 31))) ≤ (IntKind.i64.wrap ((monthZ (dayOf z0)) + 2)))) (fun x31 => [(2, bF), (3, bT), (5, iw (dayOf z0)), (6, pt p1 0), (9, pt p4 0), (10, pt q19 0), (68, .bool x31)]) rfl (fun h30 => ?_) (fun h30 => ?_)
          · refine Ok.seg (j := 37) (fun _ => [(2, bF), (3, bT), (5, iw (dayOf z0)), (6, pt p1 0), (9, pt p4 0), (76, .bool (decide ((monthZ (IntKind.i64.wrap ((dayOf z0) + 28))) ≤ (IntKind.i64.wrap ((monthZ (dayOf z0)) + 1)))))]) (fun _ => [.blk p1 [bF, iw (monthZ (dayOf z0)), s0] 26, .blk p4 [bF, iw (monthZ (IntKind.i64.wrap ((dayOf z0) + 146097))), s0] 26, .blk q19 [bF, iw (monthZ (IntKind.i64.wrap ((dayOf z0) + 28))), s0] 26]) (fun _ => [q19, p1]) (fun _ => []) [.g [], .g [.K 2 1], .g [], .g [.K 0 1], .g [], .g [], .g [], .g []] [2, 3, 5, 6, 9, 76] rfl (fun _ => by kernel_rfl) (fun _ => trivial) (fun _ => ?_)
            refine Ok.cases (decide ((monthZ (IntKind.i64.wrap ((dayOf z0) + 28))) ≤ (IntKind.i64.wrap ((monthZ (dayOf z0)) + 1)))) (fun x34 => [(2, bF), (3, bT), (5, iw (dayOf z0)), (6, pt p1 0), (9, pt p4 0), (76, .bool x34)]) rfl (fun h33 => ?_) (fun h33 => ?_)
            · refine Ok.seg (j := 45) (fun _ => [(2, bF), (3, bT), (5, iw (dayOf z0)), (6, pt p1 0), (84, .bool ((monthZ (IntKind.i64.wrap ((dayOf z0) + 146097))) == (IntKind.i64.wrap ((monthZ (dayOf z0)) + 4800))))]) (fun _ => [.blk p1 [bF, iw (monthZ (dayOf z0)), s0] 26, .blk p4 [bF, iw (monthZ (IntKind.i64.wrap ((dayOf z0) + 146097))), s0] 26, .blk q19 [bF, iw (monthZ (IntKind.i64.wrap ((dayOf z0) + 28))), s0] 26]) (fun _ => [p4, p1]) (fun _ => []) [.g [], .g [.K 1 1], .g [], .g [.K 0 1], .g [], .g [], .g [], .g []] [2, 3, 5, 6, 84] rfl (fun _ => by kernel_rfl) (fun _ => trivial) (fun _ => ?_)
              refine Ok.mask [true, false, false] [.blk p1 [bF, iw (monthZ (dayOf z0)), s0] 26] rfl ?_
              refine Ok.cases ((monthZ (IntKind.i64.wrap ((dayOf z0) + 146097))) == (IntKind.i64.wrap ((monthZ (dayOf z0)) + 4800))) (fun x37 => [(2, bF), (3, bT), (5, iw (dayOf z0)), (6, pt p1 0), (84, .bool x37)]) rfl (fun h36 => ?_) (fun h36 => ?_)
              · refine Ok.seg (j := 53) (fun _ => [(2, bF), (3, bT), (92, .bool ((decide ((dayOf z0) < 0)) == (decide ((monthZ (dayOf z0)) < 0))))]) (fun _ => [.blk p1 [bF, iw (monthZ (dayOf z0)), s0] 26]) (fun _ => [p1]) (fun _ => []) [.g [], .g [], .g [], .g [.K 0 1], .g [], .g [], .g [], .g []] [2, 3, 92] rfl (fun _ => by kernel_rfl) (fun _ => trivial) (fun _ => ?_)
                refine Ok.cases ((decide ((dayOf z0) < 0)) == (decide ((monthZ (dayOf z0)) < 0))) (fun x40 => [(2, bF), (3, bT), (92, .bool x40)]) rfl (fun h39 => ?_) (fun h39 => ?_)
                · refine Ok.seg (j := 56) (fun _ => [(2, bT)]) (fun _ => [.blk p1 [bF, iw (monthZ (dayOf z0)), s0] 26]) (fun _ => []) (fun _ => []) [.g [], .g [], .g []] [2] rfl (fun _ => by kernel_rfl) (fun _ => trivial) (fun _ => ?_)
                  refine Ok.segEnd rfl ?_
                  refine Ok.thenN ?_
                  refine Ok.ret_ ?_
                  refine Ok.dropAll ?_
                  exact Ok.ret1 (v := bT) (SLe.trans le5 (SLe.trans le11 (SLe.trans hle9 le21))) rfl rfl rfl
                · exact absurd h39 (by rw [law_s hz]; simp)
              · exact absurd h36 (by rw [law_hd hz]; simp)
            · exact absurd h33 (by rw [law_he hz]; simp)
          · exact absurd h30 (by rw [law_hc2 hz]; simp)
        · exact absurd h27 (by rw [law_hc1 hz]; simp)
      · refine Ok.seg (j := 14) (fun _ => [(2, bF), (3, bT), (5, iw (dayOf z0)), (6, pt p1 0), (8, pt p3 0), (9, pt p4 0), (10, pt q19 0), (53, .bool ((monthZ (IntKind.i64.wrap ((dayOf z0) + 1))) == (IntKind.i64.wrap ((monthZ (dayOf z0)) + 1))))]) (fun _ => [.blk p1 [bF, iw (monthZ (dayOf z0)), s0] 26, .blk p2 [bF, iw (monthZ (IntKind.i64.wrap ((dayOf z0) + 1))), s0] 26, .blk p3 [bF, iw (monthZ (IntKind.i64.wrap ((dayOf z0) + 31))), s0] 26, .blk p4 [bF, iw (monthZ (IntKind.i64.wrap ((dayOf z0) + 146097))), s0] 26, .blk q19 [bF, iw (monthZ (IntKind.i64.wrap ((dayOf z0) + 28))), s0] 26]) (fun _ => [p2, p1]) (fun _ => []) [.g [], .g [.K 1 1], .g [], .g [.K 0 1], .g [], .g [], .g [], .g []] [2, 3, 5, 6, 8, 9, 10, 53] rfl (fun _ => by kernel_rfl) (fun _ => trivial) (fun _ => ?_)
        refine Ok.cases ((monthZ (IntKind.i64.wrap ((dayOf z0) + 1))) == (IntKind.i64.wrap ((monthZ (dayOf z0)) + 1))) (fun x44 => [(2, bF), (3, bT), (5, iw (dayOf z0)), (6, pt p1 0), (8, pt p3 0), (9, pt p4 0), (10, pt q19 0), (53, .bool x44)]) rfl (fun h43 => ?_) (fun h43 => ?_)
        · refine Ok.seg (j := 21) (fun _ => [(2, bF), (3, bT), (5, iw (dayOf z0)), (6, pt p1 0), (8, pt p3 0), (9, pt p4 0), (10, pt q19 0), (60, .bool (decide ((monthZ (IntKind.i64.wrap ((dayOf z0) + 31))) > (monthZ (dayOf z0)))))]) (fun _ => [.blk p1 [bF, iw (monthZ (dayOf z0)), s0] 26, .blk p2 [bF, iw (monthZ (IntKind.i64.wrap ((dayOf z0) + 1))), s0] 26, .blk p3 [bF, iw (monthZ (IntKind.i64.wrap ((dayOf z0) + 31))), s0] 26, .blk p4 [bF, iw (monthZ (IntKind.i64.wrap ((dayOf z0) + 146097))), s0] 26, .blk q19 [bF, iw (monthZ (IntKind.i64.wrap ((dayOf z0) + 28))), s0] 26]) (fun _ => [p3, p1]) (fun _ => []) [.g [], .g [.K 2 1], .g [], .g [.K 0 1], .g [], .g [], .g []] [2, 3, 5, 6, 8, 9, 10, 60] rfl (fun _ => by kernel_rfl) (fun _ => trivial) (fun _ => ?_)
          refine Ok.cases (decide ((monthZ (IntKind.i64.wrap ((dayOf z0) + 31))) > (monthZ (dayOf z0)))) (fun x47 => [(2, bF), (3, bT), (5, iw (dayOf z0)), (6, pt p1 0), (8, pt p3 0), (9, pt p4 0), (10, pt q19 0), (60, .bool x47)]) rfl (fun h46 => ?_) (fun h46 => ?_)
          · refine Ok.seg (j := 29) (fun _ => [(2, bF), (3, bT), (5, iw (dayOf z0)), (6, pt p1 0), (9, pt p4 0), (10, pt q19 0), (68, .bool (decide ((monthZ (IntKind.i64.wrap ((dayOf z0) + 31))) ≤ (IntKind.i64.wrap ((monthZ (dayOf z0)) + 2)))))]) (fun _ => [.blk p1 [bF, iw (monthZ (dayOf z0)), s0] 26, .blk p2 [bF, iw (monthZ (IntKind.i64.wrap ((dayOf z0) + 1))), s0] 26, .blk p3 [bF, iw (monthZ (IntKind.i64.wrap ((dayOf z0) + 31))), s0] 26, .blk p4 [bF, iw (monthZ (IntKind.i64.wrap ((dayOf z0) + 146097))), s0] 26, .blk q19 [bF, iw (monthZ (IntKind.i64.wrap ((dayOf z0) + 28))), s0] 26]) (fun _ => [p3, p1]) (fun _ => []) [.g [], .g [.K 2 1], .g [], .g [.K 0 1], .g [], .g [], .g [], .g []] [2, 3, 5, 6, 9, 10, 68] rfl (fun _ => by kernel_rfl) (fun _ => trivial) (fun _ => ?_)
            refine Ok.mask [true, false, false, true, true] [.blk p1 [bF, iw (monthZ (dayOf z0)), s0] 26, .blk p4 [bF, iw (monthZ (IntKind.i64.wrap ((dayOf z0) + 146097))), s0] 26, .blk q19 [bF, iw (monthZ (IntKind.i64.wrap ((dayOf z0) + 28))), s0] 26] rfl ?_
            refine Ok.cases (decide ((monthZ (IntKind.i64.wrap ((dayOf z0) + 31))) ≤ (IntKind.i64.wrap ((monthZ (dayOf z0)) + 2)))) (fun x50 => [(2, bF), (3, bT), (5, iw (dayOf z0)), (6, pt p1 0), (9, pt p4 0), (10, pt q19 0), (68, .bool x50)]) rfl (fun h49 => ?_) (fun h49 => ?_)
            · refine Ok.seg (j := 37) (fun _ => [(2, bF), (3, bT), (5, iw (dayOf z0)), (6, pt p1 0), (9, pt p4 0), (76, .bool (decide ((monthZ (IntKind.i64.wrap ((dayOf z0) + 28))) ≤ (IntKind.i64.wrap ((monthZ (dayOf z0)) + 1)))))]) (fun _ => [.blk p1 [bF, iw (monthZ (dayOf z0)), s0] 26, .blk p4 [bF, iw (monthZ (IntKind.i64.wrap ((dayOf z0) + 146097))), s0] 26, .blk q19 [bF, iw (monthZ (IntKind.i64.wrap ((dayOf z0) + 28))), s0] 26]) (fun _ => [q19, p1]) (fun _ => []) [.g [], .g [.K 2 1], .g [], .g [.K 0 1], .g [], .g [], .g [], .g []] [2, 3, 5, 6, 9, 76] rfl (fun _ => by kernel_rfl) (fun _ => trivial) (fun _ => ?_)
              refine Ok.cases (decide ((monthZ (IntKind.i64.wrap ((dayOf z0) + 28))) ≤ (IntKind.i64.wrap ((monthZ (dayOf z0)) + 1)))) (fun x53 => [(2, bF), (3, bT), (5, iw (dayOf z0)), (6, pt p1 0), (9, pt p4 0), (76, .bool x53)]) rfl (fun h52 => ?_) (fun h52 => ?_)
              · refine Ok.seg (j := 45) (fun _ => [(2, bF), (3, bT), (5, iw (dayOf z0)), (6, pt p1 0), (84, .bool ((monthZ (IntKind.i64.wrap ((dayOf z0) + 146097))) == (IntKind.i64.wrap ((monthZ (dayOf z0)) + 4800))))]) (fun _ => [.blk p1 [bF, iw (monthZ (dayOf z0)), s0] 26, .blk p4 [bF, iw (monthZ (IntKind.i64.wrap ((dayOf z0) + 146097))), s0] 26, .blk q19 [bF, iw (monthZ (IntKind.i64.wrap ((dayOf z0) + 28))), s0] 26]) (fun _ => [p4, p1]) (fun _ => []) [.g [], .g [.K 1 1], .g [], .g [.K 0 1], .g [], .g [], .g [], .g []] [2, 3, 5, 6, 84] rfl (fun _ => by kernel_rfl) (fun _ => trivial) (fun _ => ?_)
                refine Ok.mask [true, false, false] [.blk p1 [bF, iw (monthZ (dayOf z0)), s0] 26] rfl ?_
                refine Ok.cases ((monthZ (IntKind.i64.wrap ((dayOf z0) + 146097))) == (IntKind.i64.wrap ((monthZ (dayOf z0)) + 4800))) (fun x56 => [(2, bF), (3, bT), (5, iw (dayOf z0)), (6, pt p1 0), (84, .bool x56)]) rfl (fun h55 => ?_) (fun h55 => ?_)
                · refine Ok.seg (j := 53) (fun _ => [(2, bF), (3, bT), (92, .bool ((decide ((dayOf z0) < 0)) == (decide ((monthZ (dayOf z0)) < 0))))]) (fun _ => [.blk p1 [bF, iw (monthZ (dayOf z0)), s0] 26]) (fun _ => [p1]) (fun _ => []) [.g [], .g [], .g [], .g [.K 0 1], .g [], .g [], .g [], .g []] [2, 3, 92] rfl (fun _ => by kernel_rfl) (fun _ => trivial) (fun _ => ?_)
                  refine Ok.cases ((decide ((dayOf z0) < 0)) == (decide ((monthZ (dayOf z0)) < 0))) (fun x59 => [(2, bF), (3, bT), (92, .bool x59)]) rfl (fun h58 => ?_) (fun h58 => ?_)
                  · refine Ok.seg (j := 56) (fun _ => [(2, bT)]) (fun _ => [.blk p1 [bF, iw (monthZ (dayOf z0)), s0] 26]) (fun _ => []) (fun _ => []) [.g [], .g [], .g []] [2] rfl (fun _ => by kernel_rfl) (fun _ => trivial) (fun _ => ?_)
                    refine Ok.segEnd rfl ?_
                    refine Ok.thenN ?_
                    refine Ok.ret_ ?_
                    refine Ok.dropAll ?_
                    exact Ok.ret1 (v := bT) (SLe.trans le5 (SLe.trans le11 (SLe.trans hle9 le21))) rfl rfl rfl
                  · exact absurd h58 (by rw [law_s hz]; simp)
                · exact absurd h55 (by rw [law_hd hz]; simp)
              · exact absurd h52 (by rw [law_he hz]; simp)
            · exact absurd h49 (by rw [law_hc2 hz]; simp)
          · exact absurd h46 (by rw [law_hc1 hz]; simp)
        · exact absurd h43 (by rw [law_b hz (by simpa using h24)]; simp)
    · refine Ok.two (fuel' := 3) (i := 3) (li := [true, true, true, true, false, false, false]) (j := 5) (lj := [true, true, true, false, false, true, false]) (by kernel_rfl) rfl rfl rfl ?_ ?_
      · refine (Eff.call0 (d := some 38) (by kernel_rfl) (m6_2 H9 (IntKind.i64.wrap ((dayOf z0) + 28))) ?_)
        rintro v61 H62 k64 le63 ⟨q65, rfl, pf66⟩
        refine Ok.dropL ?_
        refine Ok.withS (idx := [0, 1, 2, 3]) le63 rfl ?_
        refine Ok.two (fuel' := 2) (i := 4) (li := [true, true, true, true, true, false, false]) (j := 5) (lj := [true, true, true, true, false, true, false]) (by kernel_rfl) rfl rfl rfl ?_ ?_
        · refine (Eff.call0 (d := some 39) (by kernel_rfl) (m5_3 H62 q65 (IntKind.i64.wrap ((dayOf z0) + 28)) pf66) ?_)
          rintro v67 H68 k70 le69 rfl
          refine Ok.dropL ?_
          refine Ok.withS (idx := [0, 1, 2, 3]) (SLe.trans le63 le69) rfl ?_
          refine Ok.one (i := 5) (fuel' := 1) (l' := [true, true, true, true, true, true, false]) (by kernel_rfl) rfl rfl (Eff.op (.g [.N]) (fun b71 => [(2, bF), (3, bT), (5, iw (dayOf z0)), (6, pt p1 0), (7, pt p2 0), (8, pt p3 0), (9, pt p4 0), (10, pt b71 0), (39, .agg #[bF, iw (monthZ (IntKind.i64.wrap ((dayOf z0) + 28))), s0])]) (fun b71 => [.blk p1 [bF, iw (monthZ (dayOf z0)), s0] 26, .blk p2 [bF, iw (monthZ (IntKind.i64.wrap ((dayOf z0) + 1))), s0] 26, .blk p3 [bF, iw (monthZ (IntKind.i64.wrap ((dayOf z0) + 31))), s0] 26, .blk p4 [bF, iw (monthZ (IntKind.i64.wrap ((dayOf z0) + 146097))), s0] 26, .blk b71 [bF, iw 0, s0] 26]) (fun b71 => []) (fun b71 => []) [2, 3, 5, 6, 7, 8, 9, 10, 39] (fun b71 => by kernel_rfl) (fun b71 => trivial) (fun b71 => ?_))
          refine Ok.withS (idx := [0, 1, 2, 3]) (SLe.trans le63 le69) rfl ?_
          refine Ok.restr [2, 3, 5, 6, 7, 8, 9, 10, 39] [(2, bF), (3, bT), (5, iw (dayOf z0)), (6, pt p1 0), (7, pt p2 0), (8, pt p3 0), (9, pt p4 0), (10, pt b71 0), (39, .agg #[bF, iw (monthZ (IntKind.i64.wrap ((dayOf z0) + 28))), s0])] rfl ?_
          exact J18 _ (b71) (SLe.trans le63 le69) trivial
        · refine (Eff.op (.g [.N]) (fun b72 => [(2, bF), (3, bT), (5, iw (dayOf z0)), (6, pt p1 0), (7, pt p2 0), (8, pt p3 0), (9, pt p4 0), (10, pt b72 0), (35, .agg #[iw 5, iw 1, iw 0]), (38, .agg #[sl q65 0 1 1])]) (fun b72 => [.blk p1 [bF, iw (monthZ (dayOf z0)), s0] 26, .blk p2 [bF, iw (monthZ (IntKind.i64.wrap ((dayOf z0) + 1))), s0] 26, .blk p3 [bF, iw (monthZ (IntKind.i64.wrap ((dayOf z0) + 31))), s0] 26, .blk p4 [bF, iw (monthZ (IntKind.i64.wrap ((dayOf z0) + 146097))), s0] 26, .blk b72 [bF, iw 0, s0] 26]) (fun b72 => []) (fun b72 => []) [2, 3, 5, 6, 7, 8, 9, 10, 35, 38] (fun b72 => by kernel_rfl) (fun b72 => trivial) (fun b72 => ?_))
          refine Ok.withS (idx := [0, 1, 2, 3]) le63 rfl ?_
          refine Ok.one (i := 4) (fuel' := 1) (l' := [true, true, true, true, true, true, false]) (by kernel_rfl) rfl rfl (Eff.call0 (d := some 39) (by kernel_rfl) (m5_3 H62 q65 (IntKind.i64.wrap ((dayOf z0) + 28)) pf66) ?_)
          rintro v73 H74 k76 le75 rfl
          refine Ok.dropL ?_
          refine Ok.withS (idx := [0, 1, 2, 3]) (SLe.trans le63 le75) rfl ?_
          refine Ok.restr [2, 3, 5, 6, 7, 8, 9, 10, 39] [(2, bF), (3, bT), (5, iw (dayOf z0)), (6, pt p1 0), (7, pt p2 0), (8, pt p3 0), (9, pt p4 0), (10, pt b72 0), (39, .agg #[bF, iw (monthZ (IntKind.i64.wrap ((dayOf z0) + 28))), s0])] rfl ?_
          exact J18 _ (b72) (SLe.trans le63 le75) trivial
      · refine (Eff.op (.g [.N]) (fun b77 => [(2, bF), (3, bT), (5, iw (dayOf z0)), (6, pt p1 0), (7, pt p2 0), (8, pt p3 0), (9, pt p4 0), (10, pt b77 0), (35, .agg #[iw 5, iw 1, iw 0]), (37, iw (IntKind.i64.wrap ((dayOf z0) + 28)))]) (fun b77 => [.blk p1 [bF, iw (monthZ (dayOf z0)), s0] 26, .blk p2 [bF, iw (monthZ (IntKind.i64.wrap ((dayOf z0) + 1))), s0] 26, .blk p3 [bF, iw (monthZ (IntKind.i64.wrap ((dayOf z0) + 31))), s0] 26, .blk p4 [bF, iw (monthZ (IntKind.i64.wrap ((dayOf z0) + 146097))), s0] 26, .blk b77 [bF, iw 0, s0] 26]) (fun b77 => []) (fun b77 => []) [2, 3, 5, 6, 7, 8, 9, 10, 35, 37] (fun b77 => by kernel_rfl) (fun b77 => trivial) (fun b77 => ?_))
        refine Ok.withS (idx := [0, 1, 2, 3]) (SLe.refl _) rfl ?_
        refine Ok.one (i := 3) (fuel' := 2) (l' := [true, true, true, true, false, true, false]) (by kernel_rfl) rfl rfl (Eff.call0 (d := some 38) (by kernel_rfl) (m6_2 H9 (IntKind.i64.wrap ((dayOf z0) + 28))) ?_)
        rintro v78 H79 k81 le80 ⟨q82, rfl, pf83⟩
        refine Ok.dropL ?_
        refine Ok.withS (idx := [0, 1, 2, 3]) le80 rfl ?_
        refine Ok.one (i := 4) (fuel' := 1) (l' := [true, true, true, true, true, true, false]) (by kernel_rfl) rfl rfl (Eff.call0 (d := some 39) (by kernel_rfl) (m5_3 H79 q82 (IntKind.i64.wrap ((dayOf z0) + 28)) pf83) ?_)
        rintro v84 H85 k87 le86 rfl
        refine Ok.dropL ?_
        refine Ok.withS (idx := [0, 1, 2, 3]) (SLe.trans le80 le86) rfl ?_
        refine Ok.restr [2, 3, 5, 6, 7, 8, 9, 10, 39] [(2, bF), (3, bT), (5, iw (dayOf z0)), (6, pt p1 0), (7, pt p2 0), (8, pt p3 0), (9, pt p4 0), (10, pt b77 0), (39, .agg #[bF, iw (monthZ (IntKind.i64.wrap ((dayOf z0) + 28))), s0])] rfl ?_
        exact J18 _ (b77) (SLe.trans le80 le86) trivial
  · rintro m l H9 fr kb ⟨k, os, q, hm, hk, hlen, rfl, rfl, hp, hP⟩ hle9
    obtain ⟨o1, o2, o3, o4, rfl⟩ : ∃ o1 o2 o3 o4, os = [o1, o2, o3, o4] := by
      match os, hlen with
      | [o1, o2, o3, o4], _ => exact ⟨o1, o2, o3, o4, rfl⟩
    refine stepOf (R := pmC k ++ noneAt 19 [o1, o2, o3, o4]) ?_ ?_ fun i hi => ?_
    · match k, hk, hm with
      | 0, _, _ => cases o1 <;> cases o2 <;> cases o3 <;> cases o4 <;> exact eqOf (by kernel_rfl)
      | 1, _, _ => cases o1 <;> cases o2 <;> cases o3 <;> cases o4 <;> exact eqOf (by kernel_rfl)
      | 2, _, _ => cases o1 <;> cases o2 <;> cases o3 <;> cases o4 <;> exact eqOf (by kernel_rfl)
      | 3, _, _ => cases o1 <;> cases o2 <;> cases o3 <;> cases o4 <;> exact eqOf (by kernel_rfl)
      | 4, _, _ => cases o1 <;> cases o2 <;> cases o3 <;> cases o4 <;> exact eqOf (by kernel_rfl)
      | 5, _, _ => cases o1 <;> cases o2 <;> cases o3 <;> cases o4 <;> exact eqOf (by kernel_rfl)
      | 6, _, _ => cases o1 <;> cases o2 <;> cases o3 <;> cases o4 <;> exact eqOf (by kernel_rfl)
      | 7, _, _ => cases o1 <;> cases o2 <;> cases o3 <;> cases o4 <;> exact eqOf (by kernel_rfl)
      | 8, _, hm => cases o1 <;> cases o2 <;> cases o3 <;> cases o4 <;> first | (simp [nones] at hm; done) | exact eqOf (by kernel_rfl)
    · match k, hk, hm with
      | 0, _, _ => simp [pmC]
      | 1, _, _ => simp [pmC]
      | 2, _, _ => simp [pmC]
      | 3, _, _ => simp [pmC]
      | 4, _, _ => simp [pmC]
      | 5, _, _ => simp [pmC]
      | 6, _, _ => simp [pmC]
      | 7, _, _ => simp [pmC]
      | 8, _, hm => cases o1 <;> cases o2 <;> cases o3 <;> cases o4 <;> first | (simp [pmC, noneAt]; done) | (simp [nones] at hm)
    rcases List.mem_append.1 hi with hi | hi
    · match k, hk, hm, hP with
      | 0, hk, hm, hP =>
        obtain rfl := List.mem_singleton.1 (show i ∈ [2] from hi)
        refine ⟨rfl, ?_⟩
        refine Eff.call0 (d := some 18) (by kernel_rfl) (m6_2 H9 (dayOf z0)) ?_
        rintro v H2 k2 le2 ⟨q2, rfl, hq⟩
        refine Ok.dropL ?_
        exact fun a w hs hm3 => ⟨H2, pmF z0 b8 q2 1 ++ AF 6 [o1, o2, o3, o4], kb, SLe.trans hle9 le2, ⟨1, [o1, o2, o3, o4], q2, by omega, by omega, rfl, rfl, rfl, hp, hq⟩, hs.callAF [2, 3, 4, 5, 16, 17, 18, 20, 22, 25, 27, 30, 32] rfl (Nat.le_of_ble_eq_true rfl), hm3⟩
      | 1, hk, hm, hP =>
        obtain rfl := List.mem_singleton.1 (show i ∈ [3] from hi)
        refine ⟨rfl, ?_⟩
        refine Eff.call0 (d := some 19) (by kernel_rfl) (m5_3 H9 q (dayOf z0) hP) ?_
        rintro v H2 k2 le2 rfl
        refine Ok.dropL ?_
        exact fun a w hs hm3 => ⟨H2, pmF z0 b8 q 2 ++ AF 6 [o1, o2, o3, o4], kb, SLe.trans hle9 le2, ⟨2, [o1, o2, o3, o4], q, by omega, by omega, rfl, rfl, rfl, hp, trivial⟩, hs.callAF [2, 3, 4, 5, 16, 17, 19, 20, 22, 25, 27, 30, 32] rfl (Nat.le_of_ble_eq_true rfl), hm3⟩
      | 2, hk, hm, hP =>
        obtain rfl := List.mem_singleton.1 (show i ∈ [7] from hi)
        refine ⟨rfl, ?_⟩
        refine Eff.call0 (d := some 23) (by kernel_rfl) (m6_2 H9 (IntKind.i64.wrap ((dayOf z0) + 1))) ?_
        rintro v H2 k2 le2 ⟨q2, rfl, hq⟩
        refine Ok.dropL ?_
        exact fun a w hs hm3 => ⟨H2, pmF z0 b8 q2 3 ++ AF 6 [o1, o2, o3, o4], kb, SLe.trans hle9 le2, ⟨3, [o1, o2, o3, o4], q2, by omega, by omega, rfl, rfl, rfl, hp, hq⟩, hs.callAF [2, 3, 4, 5, 16, 17, 19, 20, 22, 23, 25, 27, 30, 32] rfl (Nat.le_of_ble_eq_true rfl), hm3⟩
      | 3, hk, hm, hP =>
        obtain rfl := List.mem_singleton.1 (show i ∈ [8] from hi)
        refine ⟨rfl, ?_⟩
        refine Eff.call0 (d := some 24) (by kernel_rfl) (m5_3 H9 q (IntKind.i64.wrap ((dayOf z0) + 1)) hP) ?_
        rintro v H2 k2 le2 rfl
        refine Ok.dropL ?_
        exact fun a w hs hm3 => ⟨H2, pmF z0 b8 q 4 ++ AF 6 [o1, o2, o3, o4], kb, SLe.trans hle9 le2, ⟨4, [o1, o2, o3, o4], q, by omega, by omega, rfl, rfl, rfl, hp, trivial⟩, hs.callAF [2, 3, 4, 5, 16, 17, 19, 20, 22, 24, 25, 27, 30, 32] rfl (Nat.le_of_ble_eq_true rfl), hm3⟩
      | 4, hk, hm, hP =>
        obtain rfl := List.mem_singleton.1 (show i ∈ [12] from hi)
        refine ⟨rfl, ?_⟩
        refine Eff.call0 (d := some 28) (by kernel_rfl) (m6_2 H9 (IntKind.i64.wrap ((dayOf z0) + 31))) ?_
        rintro v H2 k2 le2 ⟨q2, rfl, hq⟩
        refine Ok.dropL ?_
        exact fun a w hs hm3 => ⟨H2, pmF z0 b8 q2 5 ++ AF 6 [o1, o2, o3, o4], kb, SLe.trans hle9 le2, ⟨5, [o1, o2, o3, o4], q2, by omega, by omega, rfl, rfl, rfl, hp, hq⟩, hs.callAF [2, 3, 4, 5, 16, 17, 19, 20, 22, 24, 25, 27, 28, 30, 32] rfl (Nat.le_of_ble_eq_true rfl), hm3⟩
      | 5, hk, hm, hP =>
        obtain rfl := List.mem_singleton.1 (show i ∈ [13] from hi)
        refine ⟨rfl, ?_⟩
        refine Eff.call0 (d := some 29) (by kernel_rfl) (m5_3 H9 q (IntKind.i64.wrap ((dayOf z0) + 31)) hP) ?_
        rintro v H2 k2 le2 rfl
        refine Ok.dropL ?_
        exact fun a w hs hm3 => ⟨H2, pmF z0 b8 q 6 ++ AF 6 [o1, o2, o3, o4], kb, SLe.trans hle9 le2, ⟨6, [o1, o2, o3, o4], q, by omega, by omega, rfl, rfl, rfl, hp, trivial⟩, hs.callAF [2, 3, 4, 5, 16, 17, 19, 20, 22, 24, 25, 27, 29, 30, 32] rfl (Nat.le_of_ble_eq_true rfl), hm3⟩
      | 6, hk, hm, hP =>
        obtain rfl := List.mem_singleton.1 (show i ∈ [17] from hi)
        refine ⟨rfl, ?_⟩
        refine Eff.call0 (d := some 33) (by kernel_rfl) (m6_2 H9 (IntKind.i64.wrap ((dayOf z0) + 146097))) ?_
        rintro v H2 k2 le2 ⟨q2, rfl, hq⟩
        refine Ok.dropL ?_
        exact fun a w hs hm3 => ⟨H2, pmF z0 b8 q2 7 ++ AF 6 [o1, o2, o3, o4], kb, SLe.trans hle9 le2, ⟨7, [o1, o2, o3, o4], q2, by omega, by omega, rfl, rfl, rfl, hp, hq⟩, hs.callAF [2, 3, 4, 5, 16, 17, 19, 20, 22, 24, 25, 27, 29, 30, 32, 33] rfl (Nat.le_of_ble_eq_true rfl), hm3⟩
      | 7, hk, hm, hP =>
        obtain rfl := List.mem_singleton.1 (show i ∈ [18] from hi)
        refine ⟨rfl, ?_⟩
        refine Eff.call0 (d := some 34) (by kernel_rfl) (m5_3 H9 q (IntKind.i64.wrap ((dayOf z0) + 146097)) hP) ?_
        rintro v H2 k2 le2 rfl
        refine Ok.dropL ?_
        exact fun a w hs hm3 => ⟨H2, pmF z0 b8 q 8 ++ AF 6 [o1, o2, o3, o4], kb, SLe.trans hle9 le2, ⟨8, [o1, o2, o3, o4], q, by omega, by omega, rfl, rfl, rfl, hp, trivial⟩, hs.callAF [2, 3, 4, 5, 16, 17, 19, 20, 22, 24, 25, 27, 29, 30, 32, 34] rfl (Nat.le_of_ble_eq_true rfl), hm3⟩
      | 8, hk, hm, hP => exact absurd (show i ∈ ([] : List Nat) from hi) List.not_mem_nil
    · obtain ⟨j, rfl, hj⟩ := noneAt_mem hi
      have hj4 : j < 4 := by
        have := (List.getElem?_eq_some_iff.1 hj).1
        simpa using this
      have hnn := nones_set (b := 0) hj
      match j, hj4 with
      | 0, _ =>
        refine ⟨rfl, ?_⟩
        refine Eff.opF (.g [.N]) (fun b => putF (pmF z0 b8 q k ++ AF 6 [o1, o2, o3, o4]) (some 6) (pt b 0)) (fun b => kb ++ [.blk b [bF, iw 0, s0] 26]) (fun b => by kernel_rfl) (fun b => ?_)
        have hnn := nones_set (b := b) hj
        exact fun a w hs hm3 => ⟨H9, _, _, hle9, ⟨k, [o1, o2, o3, o4].set 0 (some b), q, by omega, hk, rfl, rfl, rfl, (hp.append_right _).trans (AK_set hj), hP⟩, hs.setAF (j := 0) hj (by match k, hk with
          | 0, _ => exact rfl
          | 1, _ => exact rfl
          | 2, _ => exact rfl
          | 3, _ => exact rfl
          | 4, _ => exact rfl
          | 5, _ => exact rfl
          | 6, _ => exact rfl
          | 7, _ => exact rfl
          | 8, _ => exact rfl), hm3⟩
      | 1, _ =>
        refine ⟨rfl, ?_⟩
        refine Eff.opF (.g [.N]) (fun b => putF (pmF z0 b8 q k ++ AF 6 [o1, o2, o3, o4]) (some 7) (pt b 0)) (fun b => kb ++ [.blk b [bF, iw 0, s0] 26]) (fun b => by kernel_rfl) (fun b => ?_)
        have hnn := nones_set (b := b) hj
        exact fun a w hs hm3 => ⟨H9, _, _, hle9, ⟨k, [o1, o2, o3, o4].set 1 (some b), q, by omega, hk, rfl, rfl, rfl, (hp.append_right _).trans (AK_set hj), hP⟩, hs.setAF (j := 1) hj (by match k, hk with
          | 0, _ => exact rfl
          | 1, _ => exact rfl
          | 2, _ => exact rfl
          | 3, _ => exact rfl
          | 4, _ => exact rfl
          | 5, _ => exact rfl
          | 6, _ => exact rfl
          | 7, _ => exact rfl
          | 8, _ => exact rfl), hm3⟩
      | 2, _ =>
        refine ⟨rfl, ?_⟩
        refine Eff.opF (.g [.N]) (fun b => putF (pmF z0 b8 q k ++ AF 6 [o1, o2, o3, o4]) (some 8) (pt b 0)) (fun b => kb ++ [.blk b [bF, iw 0, s0] 26]) (fun b => by kernel_rfl) (fun b => ?_)
        have hnn := nones_set (b := b) hj
        exact fun a w hs hm3 => ⟨H9, _, _, hle9, ⟨k, [o1, o2, o3, o4].set 2 (some b), q, by omega, hk, rfl, rfl, rfl, (hp.append_right _).trans (AK_set hj), hP⟩, hs.setAF (j := 2) hj (by match k, hk with
          | 0, _ => exact rfl
          | 1, _ => exact rfl
          | 2, _ => exact rfl
          | 3, _ => exact rfl
          | 4, _ => exact rfl
          | 5, _ => exact rfl
          | 6, _ => exact rfl
          | 7, _ => exact rfl
          | 8, _ => exact rfl), hm3⟩
      | 3, _ =>
        refine ⟨rfl, ?_⟩
        refine Eff.opF (.g [.N]) (fun b => putF (pmF z0 b8 q k ++ AF 6 [o1, o2, o3, o4]) (some 9) (pt b 0)) (fun b => kb ++ [.blk b [bF, iw 0, s0] 26]) (fun b => by kernel_rfl) (fun b => ?_)
        have hnn := nones_set (b := b) hj
        exact fun a w hs hm3 => ⟨H9, _, _, hle9, ⟨k, [o1, o2, o3, o4].set 3 (some b), q, by omega, hk, rfl, rfl, rfl, (hp.append_right _).trans (AK_set hj), hP⟩, hs.setAF (j := 3) hj (by match k, hk with
          | 0, _ => exact rfl
          | 1, _ => exact rfl
          | 2, _ => exact rfl
          | 3, _ => exact rfl
          | 4, _ => exact rfl
          | 5, _ => exact rfl
          | 6, _ => exact rfl
          | 7, _ => exact rfl
          | 8, _ => exact rfl), hm3⟩
end Go.Proofs.YtldanodmjilfaaaDoor
