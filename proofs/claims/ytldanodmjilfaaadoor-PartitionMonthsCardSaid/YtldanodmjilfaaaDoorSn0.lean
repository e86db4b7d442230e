/- Contracts of functions at the arguments that the fixed examples meet: printed by a program of this claim's author. -/
import Derived.Test.YtldanodmjilfaaaDoorProg
import Derived.Test.YtldanodmjilfaaaDoorSxE
set_option linter.unusedVariables false
set_option maxHeartbeats 4000000
namespace Go.Proofs.YtldanodmjilfaaaDoor
open Go Go.RowKit Sx
set_option maxRecDepth 100000 in
theorem x6_2 (H : Snap) : Does Tryd.prog 6 [iw 17] H [] (fun v H' kp => ∃ r0 : Nat, v = .agg #[sl r0 0 1 1] ∧ Pre H' r0 [iw 1, bF, iw 17, s0]) := by
  refine Does.of Tryd.func6 rfl rfl rfl rfl (fun w0 H0 kx => ?_)
  refine Ok.seq ?_
  refine Ok.reg ?_
  refine Ok.seg (j := 1) (fun b1 => [(0, iw 17), (2, pt b1 0)]) (fun b1 => [.blk b1 [n0] 30]) (fun b1 => []) (fun b1 => []) [.g [.N]] [0, 2] rfl (fun b1 => by kernel_rfl) (fun b1 => trivial) (fun b1 => ?_)
  refine Ok.segEnd rfl ?_
  refine Ok.thenN ?_
  refine Ok.seq ?_
  refine Ok.reg ?_
  refine Ok.seg (j := 6) (fun b2 => [(2, pt b1 0)]) (fun b2 => [.blk b1 [sl b2 0 1 1] 30, .blk b2 [iw 1, bF, iw 17, s0] 39]) (fun b2 => [b1]) (fun b2 => []) [.g [], .g [], .g [], .g [.N], .g [], .g [.K 0 0]] [2] rfl (fun b2 => by kernel_rfl) (fun b2 => trivial) (fun b2 => ?_)
  refine Ok.segEnd rfl ?_
  refine Ok.thenN ?_
  refine Ok.ret_ ?_
  refine Ok.pubP 1 rfl [.blk b1 [sl b2 0 1 1] 30] rfl ?_
  intro H3 le4 pf5
  exact Ok.ret1c le4 [.K 0 0] (.agg #[sl b2 0 1 1]) [b1] rfl (by kernel_rfl) ⟨b2, rfl, pf5⟩
set_option maxRecDepth 100000 in
theorem x30_5 (H : Snap) (p0 : Nat) (hp0 : Pre H p0 [iw 1, bF, iw 17, s0]) : Does Tryd.prog 30 [.agg #[sl p0 0 1 1], iw 1] H [] (fun v H' kp => v = .agg #[bF, iw 17, s0]) := by
  refine Does.of Tryd.func30 rfl rfl rfl rfl (fun w0 H0 kx => ?_)
  refine Ok.seq ?_
  refine Ok.reg ?_
  refine Ok.seg (j := 2) (fun b1 => [(1, iw 1), (2, pt b1 0), (4, pt (b1 + 1) 0)]) (fun b1 => [.blk b1 [sl p0 0 1 1] 30, .blk (b1 + 1) [bF, iw 0, s0] 26]) (fun b1 => []) (fun b1 => []) [.g [.N], .g [.N]] [1, 2, 4] rfl (fun b1 => by kernel_rfl) (fun b1 => trivial) (fun b1 => ?_)
  refine Ok.segEnd rfl ?_
  refine Ok.thenN ?_
  refine Ok.seq ?_
  refine Ok.seq ?_
  refine Ok.reg ?_
  refine Ok.seg (j := 4) (fun _ => [(1, iw 1), (4, pt (b1 + 1) 0), (8, sl p0 0 1 1), (9, iw 1), (10, iw 0)]) (fun _ => [.blk b1 [sl p0 0 1 1] 30, .blk (b1 + 1) [bF, iw 0, s0] 26]) (fun _ => [b1]) (fun _ => []) [.g [], .g [.K 0 0], .g [], .g []] [1, 4, 8, 9, 10] rfl (fun _ => by kernel_rfl) (fun _ => trivial) (fun _ => ?_)
  refine Ok.segEnd rfl ?_
  refine Ok.thenN ?_
  refine Ok.blk ?_
  refine Ok.loopN 1 ?_
  refine Ok.round ?_
  refine Ok.seq ?_
  refine Ok.reg ?_
  refine Ok.seg (j := 1) (fun _ => [(1, iw 1), (4, pt (b1 + 1) 0), (8, sl p0 0 1 1), (9, iw 1), (10, iw 0), (11, bT)]) (fun _ => [.blk b1 [sl p0 0 1 1] 30, .blk (b1 + 1) [bF, iw 0, s0] 26]) (fun _ => []) (fun _ => []) [.g []] [1, 4, 8, 9, 10, 11] rfl (fun _ => by kernel_rfl) (fun _ => trivial) (fun _ => ?_)
  refine Ok.segEnd rfl ?_
  refine Ok.thenN ?_
  refine Ok.seq ?_
  refine Ok.condT rfl ?_
  refine Ok.skip_ ?_
  refine Ok.thenN ?_
  refine Ok.seq ?_
  refine Ok.blk ?_
  refine Ok.seq ?_
  refine Ok.reg ?_
  refine Ok.seg (j := 4) (fun b4 => [(1, iw 1), (4, pt (b1 + 1) 0), (6, pt b4 0), (8, sl p0 0 1 1), (9, iw 1), (10, iw 0), (11, bT), (12, pt p0 0), (13, .agg #[iw 1, bF, iw 17, s0])]) (fun b4 => [.blk b1 [sl p0 0 1 1] 30, .blk (b1 + 1) [bF, iw 0, s0] 26, .blk b4 [iw 1, bF, iw 17, s0] 39]) (fun b4 => [b4, b4, b4, b4]) (fun b4 => [HasCell H ⟨p0, 0, none⟩ (iw 1), HasCell H ⟨p0, 1, none⟩ (bF), HasCell H ⟨p0, 2, none⟩ (iw 17), HasCell H ⟨p0, 3, none⟩ (s0)]) [.g [], .g [.X (iw 1), .X (bF), .X (iw 17), .X (s0)], .g [.N], .g [.K 2 0, .K 2 1, .K 2 2, .K 2 3]] [1, 4, 6, 8, 9, 10, 11, 12, 13] rfl (fun b4 => by kernel_rfl) (fun b4 => ⟨Pre.cell hp0 0 rfl, Pre.cell hp0 1 rfl, Pre.cell hp0 2 rfl, Pre.cell hp0 3 rfl, trivial⟩) (fun b4 => ?_)
  refine Ok.segEnd rfl ?_
  refine Ok.thenN ?_
  refine Ok.seq ?_
  refine Ok.reg ?_
  refine Ok.seg (j := 4) (fun _ => [(1, iw 1), (4, pt (b1 + 1) 0), (6, pt b4 0), (8, sl p0 0 1 1), (9, iw 1), (10, iw 0), (11, bT), (12, pt p0 0), (13, .agg #[iw 1, bF, iw 17, s0]), (14, pt b4 0), (15, iw 1), (16, iw 1), (17, bT)]) (fun _ => [.blk b1 [sl p0 0 1 1] 30, .blk (b1 + 1) [bF, iw 0, s0] 26, .blk b4 [iw 1, bF, iw 17, s0] 39]) (fun _ => [b4]) (fun _ => []) [.g [], .g [.K 2 0], .g [], .g []] [1, 4, 6, 8, 9, 10, 11, 12, 13, 14, 15, 16, 17] rfl (fun _ => by kernel_rfl) (fun _ => trivial) (fun _ => ?_)
  refine Ok.segEnd rfl ?_
  refine Ok.thenN ?_
  refine Ok.condT rfl ?_
  refine Ok.seq ?_
  refine Ok.reg ?_
  refine Ok.seg (j := 3) (fun _ => [(1, iw 1), (4, pt (b1 + 1) 0), (6, pt b4 0), (8, sl p0 0 1 1), (9, iw 1), (10, iw 0), (11, bT), (12, pt p0 0), (13, .agg #[iw 1, bF, iw 17, s0]), (14, pt b4 0), (15, iw 1), (16, iw 1), (17, bT), (18, pt b4 1), (19, .agg #[bF, iw 17, s0])]) (fun _ => [.blk b1 [sl p0 0 1 1] 30, .blk (b1 + 1) [bF, iw 17, s0] 26, .blk b4 [iw 1, bF, iw 17, s0] 39]) (fun _ => [b4, b4, b4, b1 + 1, b1 + 1, b1 + 1]) (fun _ => []) [.g [], .g [.K 2 1, .K 2 2, .K 2 3], .g [.K 1 0, .K 1 1, .K 1 2]] [1, 4, 6, 8, 9, 10, 11, 12, 13, 14, 15, 16, 17, 18, 19] rfl (fun _ => by kernel_rfl) (fun _ => trivial) (fun _ => ?_)
  refine Ok.segEnd rfl ?_
  refine Ok.thenN ?_
  refine Ok.ret_ ?_
  refine Ok.blkR ?_
  refine Ok.thenR ?_
  refine Ok.thenR ?_
  refine Ok.blkR ?_
  refine Ok.thenR ?_
  exact Ok.ret1c (SLe.refl _) [.K 1 0, .K 1 1, .K 1 2] (.agg #[bF, iw 17, s0]) [b1 + 1, b1 + 1, b1 + 1] rfl (by kernel_rfl) rfl
set_option maxRecDepth 100000 in
theorem x54_7 (H : Snap) : Does Tryd.prog 54 [iw 17, iw 10] H [] (fun v H' kp => v = iw 10) := by
  refine Does.of Tryd.func54 rfl rfl rfl rfl (fun w0 H0 kx => ?_)
  refine Ok.seq ?_
  refine Ok.reg ?_
  refine Ok.seg (j := 1) (fun _ => [(0, iw 17), (1, iw 10), (4, iw 0)]) (fun _ => []) (fun _ => []) (fun _ => []) [.g []] [0, 1, 4] rfl (fun _ => by kernel_rfl) (fun _ => trivial) (fun _ => ?_)
  refine Ok.segEnd rfl ?_
  refine Ok.thenN ?_
  refine Ok.seq ?_
  refine Ok.reg ?_
  refine Ok.seg (j := 4) (fun _ => [(0, iw 17), (1, iw 10), (4, iw 0), (5, iw 7)]) (fun _ => []) (fun _ => []) (fun _ => []) [.g [], .g [], .g [], .g []] [0, 1, 4, 5] rfl (fun _ => by kernel_rfl) (fun _ => trivial) (fun _ => ?_)
  refine Ok.segEnd rfl ?_
  refine Ok.thenN ?_
  refine Ok.seq ?_
  refine Ok.seq ?_
  refine Ok.reg ?_
  refine Ok.seg (j := 2) (fun _ => [(0, iw 17), (1, iw 10), (4, iw 0), (5, iw 7), (10, bF)]) (fun _ => []) (fun _ => []) (fun _ => []) [.g [], .g []] [0, 1, 4, 5, 10] rfl (fun _ => by kernel_rfl) (fun _ => trivial) (fun _ => ?_)
  refine Ok.segEnd rfl ?_
  refine Ok.thenN ?_
  refine Ok.condF rfl ?_
  refine Ok.skip_ ?_
  refine Ok.thenN ?_
  refine Ok.seq ?_
  refine Ok.seq ?_
  refine Ok.reg ?_
  refine Ok.seg (j := 4) (fun _ => [(0, iw 17), (4, iw 0), (5, iw 7), (17, bF)]) (fun _ => []) (fun _ => []) (fun _ => []) [.g [], .g [], .g [], .g []] [0, 4, 5, 17] rfl (fun _ => by kernel_rfl) (fun _ => trivial) (fun _ => ?_)
  refine Ok.segEnd rfl ?_
  refine Ok.thenN ?_
  refine Ok.condF rfl ?_
  refine Ok.skip_ ?_
  refine Ok.thenN ?_
  refine Ok.seq ?_
  refine Ok.reg ?_
  refine Ok.seg (j := 4) (fun _ => [(4, iw 10)]) (fun _ => []) (fun _ => []) (fun _ => []) [.g [], .g [], .g [], .g []] [4] rfl (fun _ => by kernel_rfl) (fun _ => trivial) (fun _ => ?_)
  refine Ok.segEnd rfl ?_
  refine Ok.thenN ?_
  refine Ok.ret_ ?_
  exact Ok.ret1 (v := iw 10) (SLe.refl _) rfl rfl rfl
set_option maxRecDepth 100000 in
theorem x29_6 (H : Snap) : Does Tryd.prog 29 [.agg #[iw 3, iw 1, iw 10], .agg #[bF, iw 17, s0]] H [] (fun v H' kp => v = .agg #[bF, iw 10, s0]) := by
  refine Does.of Tryd.func29 rfl rfl rfl rfl (fun w0 H0 kx => ?_)
  refine Ok.seq ?_
  refine Ok.reg ?_
  refine Ok.seg (j := 3) (fun b1 => [(2, pt b1 0), (3, pt (b1 + 1) 0), (4, pt (b1 + 1 + 1) 0)]) (fun b1 => [.blk b1 [iw 3, iw 1, iw 10] 24, .blk (b1 + 1) [bF, iw 17, s0] 26, .blk (b1 + 1 + 1) [bF, iw 0, s0] 26]) (fun b1 => []) (fun b1 => []) [.g [.N], .g [.N], .g [.N]] [2, 3, 4] rfl (fun b1 => by kernel_rfl) (fun b1 => trivial) (fun b1 => ?_)
  refine Ok.segEnd rfl ?_
  refine Ok.thenN ?_
  refine Ok.seq ?_
  refine Ok.seq ?_
  refine Ok.reg ?_
  refine Ok.seg (j := 2) (fun _ => [(2, pt b1 0), (3, pt (b1 + 1) 0), (4, pt (b1 + 1 + 1) 0), (10, bF)]) (fun _ => [.blk b1 [iw 3, iw 1, iw 10] 24, .blk (b1 + 1) [bF, iw 17, s0] 26, .blk (b1 + 1 + 1) [bF, iw 0, s0] 26]) (fun _ => [b1 + 1]) (fun _ => []) [.g [], .g [.K 1 0]] [2, 3, 4, 10] rfl (fun _ => by kernel_rfl) (fun _ => trivial) (fun _ => ?_)
  refine Ok.segEnd rfl ?_
  refine Ok.thenN ?_
  refine Ok.condF rfl ?_
  refine Ok.skip_ ?_
  refine Ok.thenN ?_
  refine Ok.seq ?_
  refine Ok.seq ?_
  refine Ok.reg ?_
  refine Ok.seg (j := 2) (fun _ => [(2, pt b1 0), (3, pt (b1 + 1) 0), (4, pt (b1 + 1 + 1) 0), (13, iw 3)]) (fun _ => [.blk b1 [iw 3, iw 1, iw 10] 24, .blk (b1 + 1) [bF, iw 17, s0] 26, .blk (b1 + 1 + 1) [bF, iw 0, s0] 26]) (fun _ => [b1]) (fun _ => []) [.g [], .g [.K 0 0]] [2, 3, 4, 13] rfl (fun _ => by kernel_rfl) (fun _ => trivial) (fun _ => ?_)
  refine Ok.segEnd rfl ?_
  refine Ok.thenN ?_
  refine Ok.blk ?_
  refine Ok.seq ?_
  refine Ok.reg ?_
  refine Ok.seg (j := 2) (fun _ => [(2, pt b1 0), (3, pt (b1 + 1) 0), (4, pt (b1 + 1 + 1) 0), (13, iw 3), (14, bF)]) (fun _ => [.blk b1 [iw 3, iw 1, iw 10] 24, .blk (b1 + 1) [bF, iw 17, s0] 26, .blk (b1 + 1 + 1) [bF, iw 0, s0] 26]) (fun _ => []) (fun _ => []) [.g [], .g []] [2, 3, 4, 13, 14] rfl (fun _ => by kernel_rfl) (fun _ => trivial) (fun _ => ?_)
  refine Ok.segEnd rfl ?_
  refine Ok.thenN ?_
  refine Ok.condF rfl ?_
  refine Ok.seq ?_
  refine Ok.reg ?_
  refine Ok.seg (j := 2) (fun _ => [(2, pt b1 0), (3, pt (b1 + 1) 0), (4, pt (b1 + 1 + 1) 0), (13, iw 3), (45, bT)]) (fun _ => [.blk b1 [iw 3, iw 1, iw 10] 24, .blk (b1 + 1) [bF, iw 17, s0] 26, .blk (b1 + 1 + 1) [bF, iw 0, s0] 26]) (fun _ => []) (fun _ => []) [.g [], .g []] [2, 3, 4, 13, 45] rfl (fun _ => by kernel_rfl) (fun _ => trivial) (fun _ => ?_)
  refine Ok.segEnd rfl ?_
  refine Ok.thenN ?_
  refine Ok.condT rfl ?_
  refine Ok.seq ?_
  refine Ok.start (idx := [0, 1]) [] [.blk b1 [iw 3, iw 1, iw 10] 24, .blk (b1 + 1) [bF, iw 17, s0] 26] (by kernel_rfl) rfl rfl rfl ?_
  refine Ok.take (fuel' := 3) (l' := [true, true, true, true, false, true, true, true, true, true, true, true, true, true, false, false]) (qs := [(0, .g []), (1, .g [.K 1 1]), (2, .g []), (3, .g [.K 0 2]), (5, .g []), (6, .g [.K 1 2]), (7, .g []), (8, .g [.K 0 2]), (9, .g []), (10, .g [.K 1 2]), (11, .g []), (12, .g []), (13, .g [])]) [(3, pt (b1 + 1) 0), (4, pt (b1 + 1 + 1) 0), (48, iw 17), (50, iw 10), (60, s0)] [b1 + 1, b1, b1 + 1, b1, b1 + 1] [] [3, 4, 48, 50, 60] (by intro c a w d v h; cases d <;> exact h) (by kernel_rfl) rfl trivial ?_
  refine Ok.one (i := 4) (fuel' := 2) (l' := [true, true, true, true, true, true, true, true, true, true, true, true, true, true, false, false]) (by kernel_rfl) rfl rfl (Eff.call0 (d := some 51) (by kernel_rfl) (x54_7 H) ?_)
  rintro v6 H7 k9 le8 rfl
  refine Ok.dropL ?_
  refine Ok.withS (idx := [0, 1]) le8 rfl ?_
  refine Ok.take (fuel' := 1) (l' := [true, true, true, true, true, true, true, true, true, true, true, true, true, true, true, false]) (qs := [(14, .g [])]) [(3, pt (b1 + 1) 0), (4, pt (b1 + 1 + 1) 0), (61, .agg #[bF, iw 10, s0])] [] [] [3, 4, 61] (by intro c a w d v h; cases d <;> exact h) (by kernel_rfl) rfl trivial ?_
  refine Ok.one (i := 15) (fuel' := 0) (l' := [true, true, true, true, true, true, true, true, true, true, true, true, true, true, true, true]) (by kernel_rfl) rfl rfl (Eff.op (.g [.K 2 0, .K 2 1, .K 2 2]) (fun _ => [(3, pt (b1 + 1) 0), (4, pt (b1 + 1 + 1) 0)]) (fun _ => [.blk b1 [iw 3, iw 1, iw 10] 24, .blk (b1 + 1) [bF, iw 17, s0] 26, .blk (b1 + 1 + 1) [bF, iw 10, s0] 26]) (fun _ => [b1 + 1 + 1, b1 + 1 + 1, b1 + 1 + 1]) (fun _ => []) [3, 4] (fun _ => by kernel_rfl) (fun _ => trivial) (fun _ => ?_))
  refine Ok.withS (idx := [0, 1]) le8 rfl ?_
  refine Ok.done (by kernel_rfl) ?_
  refine Ok.thenN ?_
  refine Ok.ret_ ?_
  refine Ok.blkR ?_
  refine Ok.thenR ?_
  exact Ok.ret1c le8 [.K 2 0, .K 2 1, .K 2 2] (.agg #[bF, iw 10, s0]) [b1 + 1 + 1, b1 + 1 + 1, b1 + 1 + 1] rfl (by kernel_rfl) rfl
set_option maxRecDepth 100000 in
theorem x15_4 (H : Snap) (p0 p1 : Nat) (hp0 : Pre H p0 [iw 3, iw 1, iw 10]) (hp1 : Pre H p1 [iw 1, bF, iw 17, s0]) : Does Tryd.prog 15 [sl p0 0 1 1, .agg #[sl p1 0 1 1]] H [] (fun v H' kp => ∃ r0 : Nat, v = sl r0 0 1 1 ∧ Pre H' r0 [bF, iw 10, s0]) := by
  refine Does.of Tryd.func15 rfl rfl rfl rfl (fun w0 H0 kx => ?_)
  refine Ok.seq ?_
  refine Ok.reg ?_
  refine Ok.seg (j := 2) (fun b1 => [(0, sl p0 0 1 1), (3, pt b1 0), (4, n0)]) (fun b1 => [.blk b1 [sl p1 0 1 1] 30]) (fun b1 => []) (fun b1 => []) [.g [.N], .g []] [0, 3, 4] rfl (fun b1 => by kernel_rfl) (fun b1 => trivial) (fun b1 => ?_)
  refine Ok.segEnd rfl ?_
  refine Ok.thenN ?_
  refine Ok.seq ?_
  refine Ok.reg ?_
  refine Ok.seg (j := 4) (fun b2 => [(0, sl p0 0 1 1), (3, pt b1 0), (4, n0), (5, sl b2 0 1 1)]) (fun b2 => [.blk b1 [sl p1 0 1 1] 30, .blk b2 [bF, iw 0, s0] 26]) (fun b2 => []) (fun b2 => []) [.g [], .g [], .g [.N], .g []] [0, 3, 4, 5] rfl (fun b2 => by kernel_rfl) (fun b2 => trivial) (fun b2 => ?_)
  refine Ok.segEnd rfl ?_
  refine Ok.thenN ?_
  refine Ok.seq ?_
  refine Ok.seq ?_
  refine Ok.reg ?_
  refine Ok.seg (j := 3) (fun _ => [(3, pt b1 0), (4, n0), (5, sl b2 0 1 1), (11, sl p0 0 1 1), (12, iw 1), (13, iw 0)]) (fun _ => [.blk b1 [sl p1 0 1 1] 30, .blk b2 [bF, iw 0, s0] 26]) (fun _ => []) (fun _ => []) [.g [], .g [], .g []] [3, 4, 5, 11, 12, 13] rfl (fun _ => by kernel_rfl) (fun _ => trivial) (fun _ => ?_)
  refine Ok.segEnd rfl ?_
  refine Ok.thenN ?_
  refine Ok.blk ?_
  refine Ok.loopN 2 ?_
  refine Ok.round ?_
  refine Ok.seq ?_
  refine Ok.reg ?_
  refine Ok.seg (j := 1) (fun _ => [(3, pt b1 0), (4, n0), (5, sl b2 0 1 1), (11, sl p0 0 1 1), (12, iw 1), (13, iw 0), (14, bT)]) (fun _ => [.blk b1 [sl p1 0 1 1] 30, .blk b2 [bF, iw 0, s0] 26]) (fun _ => []) (fun _ => []) [.g []] [3, 4, 5, 11, 12, 13, 14] rfl (fun _ => by kernel_rfl) (fun _ => trivial) (fun _ => ?_)
  refine Ok.segEnd rfl ?_
  refine Ok.thenN ?_
  refine Ok.seq ?_
  refine Ok.condT rfl ?_
  refine Ok.skip_ ?_
  refine Ok.thenN ?_
  refine Ok.seq ?_
  refine Ok.blk ?_
  refine Ok.seq ?_
  refine Ok.reg ?_
  refine Ok.seg (j := 6) (fun b5 => [(3, pt b1 0), (4, n0), (5, sl b2 0 1 1), (6, iw 0), (7, pt b5 0), (11, sl p0 0 1 1), (12, iw 1), (13, iw 0), (14, bT), (15, iw 0), (16, pt p0 0), (17, .agg #[iw 3, iw 1, iw 10])]) (fun b5 => [.blk b1 [sl p1 0 1 1] 30, .blk b2 [bF, iw 0, s0] 26, .blk b5 [iw 3, iw 1, iw 10] 24]) (fun b5 => [b5, b5, b5]) (fun b5 => [HasCell H ⟨p0, 0, none⟩ (iw 3), HasCell H ⟨p0, 1, none⟩ (iw 1), HasCell H ⟨p0, 2, none⟩ (iw 10)]) [.g [], .g [], .g [.X (iw 3), .X (iw 1), .X (iw 10)], .g [.N], .g [], .g [.K 2 0, .K 2 1, .K 2 2]] [3, 4, 5, 6, 7, 11, 12, 13, 14, 15, 16, 17] rfl (fun b5 => by kernel_rfl) (fun b5 => ⟨Pre.cell hp0 0 rfl, Pre.cell hp0 1 rfl, Pre.cell hp0 2 rfl, trivial⟩) (fun b5 => ?_)
  refine Ok.segEnd rfl ?_
  refine Ok.thenN ?_
  refine Ok.start (idx := [0, 2]) [] [.blk b1 [sl p1 0 1 1] 30, .blk b5 [iw 3, iw 1, iw 10] 24] (by kernel_rfl) rfl rfl rfl ?_
  refine Ok.take (fuel' := 4) (l' := [true, true, true, true, true, true, false, false, false, false]) (qs := [(0, .g []), (1, .g []), (2, .g [.K 1 0, .K 1 1, .K 1 2]), (3, .g [.K 0 0]), (4, .g []), (5, .g [.K 1 1])]) [(3, pt b1 0), (4, n0), (5, sl b2 0 1 1), (6, iw 0), (7, pt b5 0), (11, sl p0 0 1 1), (12, iw 1), (13, iw 0), (14, bT), (15, iw 0), (16, pt p0 0), (17, .agg #[iw 3, iw 1, iw 10]), (18, sl b2 0 1 1), (19, iw 0), (20, .agg #[iw 3, iw 1, iw 10]), (21, .agg #[sl p1 0 1 1]), (22, pt b5 1), (23, iw 1)] [b5, b5, b5, b1, b5] [] [3, 4, 5, 6, 7, 11, 12, 13, 14, 15, 16, 17, 18, 19, 20, 21, 22, 23] (by intro c a w d v h; cases d <;> exact h) (by kernel_rfl) rfl trivial ?_
  refine Ok.one (i := 6) (fuel' := 3) (l' := [true, true, true, true, true, true, true, false, false, false]) (by kernel_rfl) rfl rfl (Eff.call0 (d := some 24) (by kernel_rfl) (x30_5 H p1 hp1) ?_)
  rintro v6 H7 k9 le8 rfl
  refine Ok.dropL ?_
  refine Ok.withS (idx := [0, 2]) le8 rfl ?_
  refine Ok.one (i := 7) (fuel' := 2) (l' := [true, true, true, true, true, true, true, true, false, false]) (by kernel_rfl) rfl rfl (Eff.call0 (d := some 25) (by kernel_rfl) (x29_6 H7) ?_)
  rintro v10 H11 k13 le12 rfl
  refine Ok.dropL ?_
  refine Ok.withS (idx := [0, 2]) (SLe.trans le8 le12) rfl ?_
  refine Ok.take (fuel' := 1) (l' := [true, true, true, true, true, true, true, true, true, false]) (qs := [(8, .g [])]) [(3, pt b1 0), (4, n0), (5, sl b2 0 1 1), (6, iw 0), (7, pt b5 0), (11, sl p0 0 1 1), (12, iw 1), (13, iw 0), (14, bT), (15, iw 0), (16, pt p0 0), (17, .agg #[iw 3, iw 1, iw 10]), (18, sl b2 0 1 1), (19, iw 0), (20, .agg #[iw 3, iw 1, iw 10]), (21, .agg #[sl p1 0 1 1]), (22, pt b5 1), (23, iw 1), (24, .agg #[bF, iw 17, s0]), (25, .agg #[bF, iw 10, s0]), (26, pt b2 0)] [] [] [3, 4, 5, 6, 7, 11, 12, 13, 14, 15, 16, 17, 18, 19, 20, 21, 22, 23, 24, 25, 26] (by intro c a w d v h; cases d <;> exact h) (by kernel_rfl) rfl trivial ?_
  refine Ok.one (i := 9) (fuel' := 0) (l' := [true, true, true, true, true, true, true, true, true, true]) (by kernel_rfl) rfl rfl (Eff.op (.g [.K 1 0, .K 1 1, .K 1 2]) (fun _ => [(3, pt b1 0), (4, n0), (5, sl b2 0 1 1), (6, iw 0), (7, pt b5 0), (11, sl p0 0 1 1), (12, iw 1), (13, iw 0), (14, bT), (15, iw 0), (16, pt p0 0), (17, .agg #[iw 3, iw 1, iw 10]), (18, sl b2 0 1 1), (19, iw 0), (20, .agg #[iw 3, iw 1, iw 10]), (21, .agg #[sl p1 0 1 1]), (22, pt b5 1), (23, iw 1), (24, .agg #[bF, iw 17, s0]), (25, .agg #[bF, iw 10, s0]), (26, pt b2 0)]) (fun _ => [.blk b1 [sl p1 0 1 1] 30, .blk b2 [bF, iw 10, s0] 26, .blk b5 [iw 3, iw 1, iw 10] 24]) (fun _ => [b2, b2, b2]) (fun _ => []) [3, 4, 5, 6, 7, 11, 12, 13, 14, 15, 16, 17, 18, 19, 20, 21, 22, 23, 24, 25, 26] (fun _ => by kernel_rfl) (fun _ => trivial) (fun _ => ?_))
  refine Ok.withS (idx := [0, 2]) (SLe.trans le8 le12) rfl ?_
  refine Ok.done (by kernel_rfl) ?_
  refine Ok.blkN ?_
  refine Ok.thenN ?_
  refine Ok.reg ?_
  refine Ok.seg (j := 2) (fun _ => [(3, pt b1 0), (4, n0), (5, sl b2 0 1 1), (6, iw 0), (7, pt b5 0), (11, sl p0 0 1 1), (12, iw 1), (13, iw 1), (14, bT), (15, iw 0), (16, pt p0 0), (17, .agg #[iw 3, iw 1, iw 10]), (18, sl b2 0 1 1), (19, iw 0), (20, .agg #[iw 3, iw 1, iw 10]), (21, .agg #[sl p1 0 1 1]), (22, pt b5 1), (23, iw 1), (24, .agg #[bF, iw 17, s0]), (25, .agg #[bF, iw 10, s0]), (26, pt b2 0), (27, iw 1)]) (fun _ => [.blk b1 [sl p1 0 1 1] 30, .blk b2 [bF, iw 10, s0] 26, .blk b5 [iw 3, iw 1, iw 10] 24]) (fun _ => []) (fun _ => []) [.g [], .g []] [3, 4, 5, 6, 7, 11, 12, 13, 14, 15, 16, 17, 18, 19, 20, 21, 22, 23, 24, 25, 26, 27] rfl (fun _ => by kernel_rfl) (fun _ => trivial) (fun _ => ?_)
  refine Ok.segEnd rfl ?_
  refine Ok.thenN ?_
  refine Ok.round ?_
  refine Ok.seq ?_
  refine Ok.reg ?_
  refine Ok.seg (j := 1) (fun _ => [(3, pt b1 0), (4, n0), (5, sl b2 0 1 1), (6, iw 0), (7, pt b5 0), (11, sl p0 0 1 1), (12, iw 1), (13, iw 1), (14, bF), (15, iw 0), (16, pt p0 0), (17, .agg #[iw 3, iw 1, iw 10]), (18, sl b2 0 1 1), (19, iw 0), (20, .agg #[iw 3, iw 1, iw 10]), (21, .agg #[sl p1 0 1 1]), (22, pt b5 1), (23, iw 1), (24, .agg #[bF, iw 17, s0]), (25, .agg #[bF, iw 10, s0]), (26, pt b2 0), (27, iw 1)]) (fun _ => [.blk b1 [sl p1 0 1 1] 30, .blk b2 [bF, iw 10, s0] 26, .blk b5 [iw 3, iw 1, iw 10] 24]) (fun _ => []) (fun _ => []) [.g []] [3, 4, 5, 6, 7, 11, 12, 13, 14, 15, 16, 17, 18, 19, 20, 21, 22, 23, 24, 25, 26, 27] rfl (fun _ => by kernel_rfl) (fun _ => trivial) (fun _ => ?_)
  refine Ok.segEnd rfl ?_
  refine Ok.thenN ?_
  refine Ok.seq ?_
  refine Ok.condF rfl ?_
  refine Ok.exit_ ?_
  refine Ok.thenE ?_
  refine Ok.thenE ?_
  refine Ok.blkE ?_
  refine Ok.thenN ?_
  refine Ok.seq ?_
  refine Ok.reg ?_
  refine Ok.seg (j := 2) (fun _ => [(4, sl b2 0 1 1)]) (fun _ => [.blk b1 [sl p1 0 1 1] 30, .blk b2 [bF, iw 10, s0] 26, .blk b5 [iw 3, iw 1, iw 10] 24]) (fun _ => []) (fun _ => []) [.g [], .g []] [4] rfl (fun _ => by kernel_rfl) (fun _ => trivial) (fun _ => ?_)
  refine Ok.mask [false, true, false] [.blk b2 [bF, iw 10, s0] 26] rfl ?_
  refine Ok.segEnd rfl ?_
  refine Ok.thenN ?_
  refine Ok.ret_ ?_
  refine Ok.pubP 0 rfl [] rfl ?_
  intro H18 le19 pf20
  exact Ok.ret1 (v := sl b2 0 1 1) (SLe.trans le8 (SLe.trans le12 le19)) rfl rfl ⟨b2, rfl, pf20⟩
set_option maxRecDepth 100000 in
theorem x5_3 (H : Snap) (p0 : Nat) (hp0 : Pre H p0 [iw 1, bF, iw 17, s0]) : Does Tryd.prog 5 [.agg #[iw 3, iw 1, iw 10], .agg #[sl p0 0 1 1]] H [] (fun v H' kp => v = .agg #[bF, iw 10, s0]) := by
  refine Does.of Tryd.func5 rfl rfl rfl rfl (fun w0 H0 kx => ?_)
  refine Ok.seq ?_
  refine Ok.reg ?_
  refine Ok.seg (j := 3) (fun b1 => [(2, pt b1 0), (3, pt (b1 + 1) 0), (4, pt (b1 + 1 + 1) 0)]) (fun b1 => [.blk b1 [iw 3, iw 1, iw 10] 24, .blk (b1 + 1) [sl p0 0 1 1] 30, .blk (b1 + 1 + 1) [bF, iw 0, s0] 26]) (fun b1 => []) (fun b1 => []) [.g [.N], .g [.N], .g [.N]] [2, 3, 4] rfl (fun b1 => by kernel_rfl) (fun b1 => trivial) (fun b1 => ?_)
  refine Ok.segEnd rfl ?_
  refine Ok.thenN ?_
  refine Ok.seq ?_
  refine Ok.reg ?_
  refine Ok.seg (j := 3) (fun b2 => [(4, pt (b1 + 1 + 1) 0), (7, sl b2 0 1 1), (8, .agg #[sl p0 0 1 1])]) (fun b2 => [.blk b1 [iw 3, iw 1, iw 10] 24, .blk (b1 + 1) [sl p0 0 1 1] 30, .blk (b1 + 1 + 1) [bF, iw 0, s0] 26, .blk b2 [iw 3, iw 1, iw 10] 24]) (fun b2 => [b1, b1, b1, b1 + 1]) (fun b2 => []) [.g [.K 0 0, .K 0 1, .K 0 2], .g [.N], .g [.K 1 0]] [4, 7, 8] rfl (fun b2 => by kernel_rfl) (fun b2 => trivial) (fun b2 => ?_)
  refine Ok.mask [false, false, true, true] [.blk (b1 + 1 + 1) [bF, iw 0, s0] 26, .blk b2 [iw 3, iw 1, iw 10] 24] rfl ?_
  refine Ok.pubP 1 rfl [.blk (b1 + 1 + 1) [bF, iw 0, s0] 26] rfl ?_
  intro H3 le4 pf5
  refine Ok.eff (j := 4) rfl (Eff.call0 (d := some 9) (by kernel_rfl) (x15_4 H3 b2 p0 pf5 (Pre.mono le4 hp0)) ?_)
  rintro v6 H7 k9 le8 ⟨q10, rfl, pf11⟩
  refine Ok.dropL ?_
  refine Ok.seg (j := 5) (fun _ => [(4, pt (b1 + 1 + 1) 0), (5, sl q10 0 1 1)]) (fun _ => [.blk (b1 + 1 + 1) [bF, iw 0, s0] 26]) (fun _ => []) (fun _ => []) [.g []] [4, 5] rfl (fun _ => by kernel_rfl) (fun _ => trivial) (fun _ => ?_)
  refine Ok.segEnd rfl ?_
  refine Ok.thenN ?_
  refine Ok.seq ?_
  refine Ok.seq ?_
  refine Ok.reg ?_
  refine Ok.seg (j := 3) (fun _ => [(4, pt (b1 + 1 + 1) 0), (5, sl q10 0 1 1), (12, bF)]) (fun _ => [.blk (b1 + 1 + 1) [bF, iw 0, s0] 26]) (fun _ => []) (fun _ => []) [.g [], .g [], .g []] [4, 5, 12] rfl (fun _ => by kernel_rfl) (fun _ => trivial) (fun _ => ?_)
  refine Ok.segEnd rfl ?_
  refine Ok.thenN ?_
  refine Ok.condF rfl ?_
  refine Ok.skip_ ?_
  refine Ok.thenN ?_
  refine Ok.seq ?_
  refine Ok.reg ?_
  refine Ok.seg (j := 4) (fun _ => [(4, pt (b1 + 1 + 1) 0)]) (fun _ => [.blk (b1 + 1 + 1) [bF, iw 10, s0] 26]) (fun _ => [b1 + 1 + 1, b1 + 1 + 1, b1 + 1 + 1]) (fun _ => [HasCell H7 ⟨q10, 0, none⟩ (bF), HasCell H7 ⟨q10, 1, none⟩ (iw 10), HasCell H7 ⟨q10, 2, none⟩ (s0)]) [.g [], .g [], .g [.X (bF), .X (iw 10), .X (s0)], .g [.K 0 0, .K 0 1, .K 0 2]] [4] rfl (fun _ => by kernel_rfl) (fun _ => ⟨Pre.cell pf11 0 rfl, Pre.cell pf11 1 rfl, Pre.cell pf11 2 rfl, trivial⟩) (fun _ => ?_)
  refine Ok.segEnd rfl ?_
  refine Ok.thenN ?_
  refine Ok.ret_ ?_
  exact Ok.ret1c (SLe.trans le4 le8) [.K 0 0, .K 0 1, .K 0 2] (.agg #[bF, iw 10, s0]) [b1 + 1 + 1, b1 + 1 + 1, b1 + 1 + 1] rfl (by kernel_rfl) rfl
set_option maxRecDepth 100000 in
theorem x6_8 (H : Snap) : Does Tryd.prog 6 [iw (-1)] H [] (fun v H' kp => ∃ r0 : Nat, v = .agg #[sl r0 0 1 1] ∧ Pre H' r0 [iw 1, bF, iw (-1), s0]) := by
  refine Does.of Tryd.func6 rfl rfl rfl rfl (fun w0 H0 kx => ?_)
  refine Ok.seq ?_
  refine Ok.reg ?_
  refine Ok.seg (j := 1) (fun b1 => [(0, iw (-1)), (2, pt b1 0)]) (fun b1 => [.blk b1 [n0] 30]) (fun b1 => []) (fun b1 => []) [.g [.N]] [0, 2] rfl (fun b1 => by kernel_rfl) (fun b1 => trivial) (fun b1 => ?_)
  refine Ok.segEnd rfl ?_
  refine Ok.thenN ?_
  refine Ok.seq ?_
  refine Ok.reg ?_
  refine Ok.seg (j := 6) (fun b2 => [(2, pt b1 0)]) (fun b2 => [.blk b1 [sl b2 0 1 1] 30, .blk b2 [iw 1, bF, iw (-1), s0] 39]) (fun b2 => [b1]) (fun b2 => []) [.g [], .g [], .g [], .g [.N], .g [], .g [.K 0 0]] [2] rfl (fun b2 => by kernel_rfl) (fun b2 => trivial) (fun b2 => ?_)
  refine Ok.segEnd rfl ?_
  refine Ok.thenN ?_
  refine Ok.ret_ ?_
  refine Ok.pubP 1 rfl [.blk b1 [sl b2 0 1 1] 30] rfl ?_
  intro H3 le4 pf5
  exact Ok.ret1c le4 [.K 0 0] (.agg #[sl b2 0 1 1]) [b1] rfl (by kernel_rfl) ⟨b2, rfl, pf5⟩
set_option maxRecDepth 100000 in
theorem x30_11 (H : Snap) (p0 : Nat) (hp0 : Pre H p0 [iw 1, bF, iw (-1), s0]) : Does Tryd.prog 30 [.agg #[sl p0 0 1 1], iw 1] H [] (fun v H' kp => v = .agg #[bF, iw (-1), s0]) := by
  refine Does.of Tryd.func30 rfl rfl rfl rfl (fun w0 H0 kx => ?_)
  refine Ok.seq ?_
  refine Ok.reg ?_
  refine Ok.seg (j := 2) (fun b1 => [(1, iw 1), (2, pt b1 0), (4, pt (b1 + 1) 0)]) (fun b1 => [.blk b1 [sl p0 0 1 1] 30, .blk (b1 + 1) [bF, iw 0, s0] 26]) (fun b1 => []) (fun b1 => []) [.g [.N], .g [.N]] [1, 2, 4] rfl (fun b1 => by kernel_rfl) (fun b1 => trivial) (fun b1 => ?_)
  refine Ok.segEnd rfl ?_
  refine Ok.thenN ?_
  refine Ok.seq ?_
  refine Ok.seq ?_
  refine Ok.reg ?_
  refine Ok.seg (j := 4) (fun _ => [(1, iw 1), (4, pt (b1 + 1) 0), (8, sl p0 0 1 1), (9, iw 1), (10, iw 0)]) (fun _ => [.blk b1 [sl p0 0 1 1] 30, .blk (b1 + 1) [bF, iw 0, s0] 26]) (fun _ => [b1]) (fun _ => []) [.g [], .g [.K 0 0], .g [], .g []] [1, 4, 8, 9, 10] rfl (fun _ => by kernel_rfl) (fun _ => trivial) (fun _ => ?_)
  refine Ok.segEnd rfl ?_
  refine Ok.thenN ?_
  refine Ok.blk ?_
  refine Ok.loopN 1 ?_
  refine Ok.round ?_
  refine Ok.seq ?_
  refine Ok.reg ?_
  refine Ok.seg (j := 1) (fun _ => [(1, iw 1), (4, pt (b1 + 1) 0), (8, sl p0 0 1 1), (9, iw 1), (10, iw 0), (11, bT)]) (fun _ => [.blk b1 [sl p0 0 1 1] 30, .blk (b1 + 1) [bF, iw 0, s0] 26]) (fun _ => []) (fun _ => []) [.g []] [1, 4, 8, 9, 10, 11] rfl (fun _ => by kernel_rfl) (fun _ => trivial) (fun _ => ?_)
  refine Ok.segEnd rfl ?_
  refine Ok.thenN ?_
  refine Ok.seq ?_
  refine Ok.condT rfl ?_
  refine Ok.skip_ ?_
  refine Ok.thenN ?_
  refine Ok.seq ?_
  refine Ok.blk ?_
  refine Ok.seq ?_
  refine Ok.reg ?_
  refine Ok.seg (j := 4) (fun b4 => [(1, iw 1), (4, pt (b1 + 1) 0), (6, pt b4 0), (8, sl p0 0 1 1), (9, iw 1), (10, iw 0), (11, bT), (12, pt p0 0), (13, .agg #[iw 1, bF, iw (-1), s0])]) (fun b4 => [.blk b1 [sl p0 0 1 1] 30, .blk (b1 + 1) [bF, iw 0, s0] 26, .blk b4 [iw 1, bF, iw (-1), s0] 39]) (fun b4 => [b4, b4, b4, b4]) (fun b4 => [HasCell H ⟨p0, 0, none⟩ (iw 1), HasCell H ⟨p0, 1, none⟩ (bF), HasCell H ⟨p0, 2, none⟩ (iw (-1)), HasCell H ⟨p0, 3, none⟩ (s0)]) [.g [], .g [.X (iw 1), .X (bF), .X (iw (-1)), .X (s0)], .g [.N], .g [.K 2 0, .K 2 1, .K 2 2, .K 2 3]] [1, 4, 6, 8, 9, 10, 11, 12, 13] rfl (fun b4 => by kernel_rfl) (fun b4 => ⟨Pre.cell hp0 0 rfl, Pre.cell hp0 1 rfl, Pre.cell hp0 2 rfl, Pre.cell hp0 3 rfl, trivial⟩) (fun b4 => ?_)
  refine Ok.segEnd rfl ?_
  refine Ok.thenN ?_
  refine Ok.seq ?_
  refine Ok.reg ?_
  refine Ok.seg (j := 4) (fun _ => [(1, iw 1), (4, pt (b1 + 1) 0), (6, pt b4 0), (8, sl p0 0 1 1), (9, iw 1), (10, iw 0), (11, bT), (12, pt p0 0), (13, .agg #[iw 1, bF, iw (-1), s0]), (14, pt b4 0), (15, iw 1), (16, iw 1), (17, bT)]) (fun _ => [.blk b1 [sl p0 0 1 1] 30, .blk (b1 + 1) [bF, iw 0, s0] 26, .blk b4 [iw 1, bF, iw (-1), s0] 39]) (fun _ => [b4]) (fun _ => []) [.g [], .g [.K 2 0], .g [], .g []] [1, 4, 6, 8, 9, 10, 11, 12, 13, 14, 15, 16, 17] rfl (fun _ => by kernel_rfl) (fun _ => trivial) (fun _ => ?_)
  refine Ok.segEnd rfl ?_
  refine Ok.thenN ?_
  refine Ok.condT rfl ?_
  refine Ok.seq ?_
  refine Ok.reg ?_
  refine Ok.seg (j := 3) (fun _ => [(1, iw 1), (4, pt (b1 + 1) 0), (6, pt b4 0), (8, sl p0 0 1 1), (9, iw 1), (10, iw 0), (11, bT), (12, pt p0 0), (13, .agg #[iw 1, bF, iw (-1), s0]), (14, pt b4 0), (15, iw 1), (16, iw 1), (17, bT), (18, pt b4 1), (19, .agg #[bF, iw (-1), s0])]) (fun _ => [.blk b1 [sl p0 0 1 1] 30, .blk (b1 + 1) [bF, iw (-1), s0] 26, .blk b4 [iw 1, bF, iw (-1), s0] 39]) (fun _ => [b4, b4, b4, b1 + 1, b1 + 1, b1 + 1]) (fun _ => []) [.g [], .g [.K 2 1, .K 2 2, .K 2 3], .g [.K 1 0, .K 1 1, .K 1 2]] [1, 4, 6, 8, 9, 10, 11, 12, 13, 14, 15, 16, 17, 18, 19] rfl (fun _ => by kernel_rfl) (fun _ => trivial) (fun _ => ?_)
  refine Ok.segEnd rfl ?_
  refine Ok.thenN ?_
  refine Ok.ret_ ?_
  refine Ok.blkR ?_
  refine Ok.thenR ?_
  refine Ok.thenR ?_
  refine Ok.blkR ?_
  refine Ok.thenR ?_
  exact Ok.ret1c (SLe.refl _) [.K 1 0, .K 1 1, .K 1 2] (.agg #[bF, iw (-1), s0]) [b1 + 1, b1 + 1, b1 + 1] rfl (by kernel_rfl) rfl
set_option maxRecDepth 100000 in
theorem x54_13 (H : Snap) : Does Tryd.prog 54 [iw (-1), iw 10] H [] (fun v H' kp => v = iw (-10)) := by
  refine Does.of Tryd.func54 rfl rfl rfl rfl (fun w0 H0 kx => ?_)
  refine Ok.seq ?_
  refine Ok.reg ?_
  refine Ok.seg (j := 1) (fun _ => [(0, iw (-1)), (1, iw 10), (4, iw 0)]) (fun _ => []) (fun _ => []) (fun _ => []) [.g []] [0, 1, 4] rfl (fun _ => by kernel_rfl) (fun _ => trivial) (fun _ => ?_)
  refine Ok.segEnd rfl ?_
  refine Ok.thenN ?_
  refine Ok.seq ?_
  refine Ok.reg ?_
  refine Ok.seg (j := 4) (fun _ => [(0, iw (-1)), (1, iw 10), (4, iw 0), (5, iw (-1))]) (fun _ => []) (fun _ => []) (fun _ => []) [.g [], .g [], .g [], .g []] [0, 1, 4, 5] rfl (fun _ => by kernel_rfl) (fun _ => trivial) (fun _ => ?_)
  refine Ok.segEnd rfl ?_
  refine Ok.thenN ?_
  refine Ok.seq ?_
  refine Ok.seq ?_
  refine Ok.reg ?_
  refine Ok.seg (j := 2) (fun _ => [(0, iw (-1)), (1, iw 10), (4, iw 0), (5, iw (-1)), (10, bT)]) (fun _ => []) (fun _ => []) (fun _ => []) [.g [], .g []] [0, 1, 4, 5, 10] rfl (fun _ => by kernel_rfl) (fun _ => trivial) (fun _ => ?_)
  refine Ok.segEnd rfl ?_
  refine Ok.thenN ?_
  refine Ok.condT rfl ?_
  refine Ok.reg ?_
  refine Ok.seg (j := 4) (fun _ => [(0, iw (-1)), (4, iw 0), (5, iw 9)]) (fun _ => []) (fun _ => []) (fun _ => []) [.g [], .g [], .g [], .g []] [0, 4, 5] rfl (fun _ => by kernel_rfl) (fun _ => trivial) (fun _ => ?_)
  refine Ok.segEnd rfl ?_
  refine Ok.thenN ?_
  refine Ok.seq ?_
  refine Ok.seq ?_
  refine Ok.reg ?_
  refine Ok.seg (j := 4) (fun _ => [(0, iw (-1)), (4, iw 0), (5, iw 9), (17, bF)]) (fun _ => []) (fun _ => []) (fun _ => []) [.g [], .g [], .g [], .g []] [0, 4, 5, 17] rfl (fun _ => by kernel_rfl) (fun _ => trivial) (fun _ => ?_)
  refine Ok.segEnd rfl ?_
  refine Ok.thenN ?_
  refine Ok.condF rfl ?_
  refine Ok.skip_ ?_
  refine Ok.thenN ?_
  refine Ok.seq ?_
  refine Ok.reg ?_
  refine Ok.seg (j := 4) (fun _ => [(4, iw (-10))]) (fun _ => []) (fun _ => []) (fun _ => []) [.g [], .g [], .g [], .g []] [4] rfl (fun _ => by kernel_rfl) (fun _ => trivial) (fun _ => ?_)
  refine Ok.segEnd rfl ?_
  refine Ok.thenN ?_
  refine Ok.ret_ ?_
  exact Ok.ret1 (v := iw (-10)) (SLe.refl _) rfl rfl rfl
set_option maxRecDepth 100000 in
theorem x29_12 (H : Snap) : Does Tryd.prog 29 [.agg #[iw 3, iw 1, iw 10], .agg #[bF, iw (-1), s0]] H [] (fun v H' kp => v = .agg #[bF, iw (-10), s0]) := by
  refine Does.of Tryd.func29 rfl rfl rfl rfl (fun w0 H0 kx => ?_)
  refine Ok.seq ?_
  refine Ok.reg ?_
  refine Ok.seg (j := 3) (fun b1 => [(2, pt b1 0), (3, pt (b1 + 1) 0), (4, pt (b1 + 1 + 1) 0)]) (fun b1 => [.blk b1 [iw 3, iw 1, iw 10] 24, .blk (b1 + 1) [bF, iw (-1), s0] 26, .blk (b1 + 1 + 1) [bF, iw 0, s0] 26]) (fun b1 => []) (fun b1 => []) [.g [.N], .g [.N], .g [.N]] [2, 3, 4] rfl (fun b1 => by kernel_rfl) (fun b1 => trivial) (fun b1 => ?_)
  refine Ok.segEnd rfl ?_
  refine Ok.thenN ?_
  refine Ok.seq ?_
  refine Ok.seq ?_
  refine Ok.reg ?_
  refine Ok.seg (j := 2) (fun _ => [(2, pt b1 0), (3, pt (b1 + 1) 0), (4, pt (b1 + 1 + 1) 0), (10, bF)]) (fun _ => [.blk b1 [iw 3, iw 1, iw 10] 24, .blk (b1 + 1) [bF, iw (-1), s0] 26, .blk (b1 + 1 + 1) [bF, iw 0, s0] 26]) (fun _ => [b1 + 1]) (fun _ => []) [.g [], .g [.K 1 0]] [2, 3, 4, 10] rfl (fun _ => by kernel_rfl) (fun _ => trivial) (fun _ => ?_)
  refine Ok.segEnd rfl ?_
  refine Ok.thenN ?_
  refine Ok.condF rfl ?_
  refine Ok.skip_ ?_
  refine Ok.thenN ?_
  refine Ok.seq ?_
  refine Ok.seq ?_
  refine Ok.reg ?_
  refine Ok.seg (j := 2) (fun _ => [(2, pt b1 0), (3, pt (b1 + 1) 0), (4, pt (b1 + 1 + 1) 0), (13, iw 3)]) (fun _ => [.blk b1 [iw 3, iw 1, iw 10] 24, .blk (b1 + 1) [bF, iw (-1), s0] 26, .blk (b1 + 1 + 1) [bF, iw 0, s0] 26]) (fun _ => [b1]) (fun _ => []) [.g [], .g [.K 0 0]] [2, 3, 4, 13] rfl (fun _ => by kernel_rfl) (fun _ => trivial) (fun _ => ?_)
  refine Ok.segEnd rfl ?_
  refine Ok.thenN ?_
  refine Ok.blk ?_
  refine Ok.seq ?_
  refine Ok.reg ?_
  refine Ok.seg (j := 2) (fun _ => [(2, pt b1 0), (3, pt (b1 + 1) 0), (4, pt (b1 + 1 + 1) 0), (13, iw 3), (14, bF)]) (fun _ => [.blk b1 [iw 3, iw 1, iw 10] 24, .blk (b1 + 1) [bF, iw (-1), s0] 26, .blk (b1 + 1 + 1) [bF, iw 0, s0] 26]) (fun _ => []) (fun _ => []) [.g [], .g []] [2, 3, 4, 13, 14] rfl (fun _ => by kernel_rfl) (fun _ => trivial) (fun _ => ?_)
  refine Ok.segEnd rfl ?_
  refine Ok.thenN ?_
  refine Ok.condF rfl ?_
  refine Ok.seq ?_
  refine Ok.reg ?_
  refine Ok.seg (j := 2) (fun _ => [(2, pt b1 0), (3, pt (b1 + 1) 0), (4, pt (b1 + 1 + 1) 0), (13, iw 3), (45, bT)]) (fun _ => [.blk b1 [iw 3, iw 1, iw 10] 24, .blk (b1 + 1) [bF, iw (-1), s0] 26, .blk (b1 + 1 + 1) [bF, iw 0, s0] 26]) (fun _ => []) (fun _ => []) [.g [], .g []] [2, 3, 4, 13, 45] rfl (fun _ => by kernel_rfl) (fun _ => trivial) (fun _ => ?_)
  refine Ok.segEnd rfl ?_
  refine Ok.thenN ?_
  refine Ok.condT rfl ?_
  refine Ok.seq ?_
  refine Ok.start (idx := [0, 1]) [] [.blk b1 [iw 3, iw 1, iw 10] 24, .blk (b1 + 1) [bF, iw (-1), s0] 26] (by kernel_rfl) rfl rfl rfl ?_
  refine Ok.take (fuel' := 3) (l' := [true, true, true, true, false, true, true, true, true, true, true, true, true, true, false, false]) (qs := [(0, .g []), (1, .g [.K 1 1]), (2, .g []), (3, .g [.K 0 2]), (5, .g []), (6, .g [.K 1 2]), (7, .g []), (8, .g [.K 0 2]), (9, .g []), (10, .g [.K 1 2]), (11, .g []), (12, .g []), (13, .g [])]) [(3, pt (b1 + 1) 0), (4, pt (b1 + 1 + 1) 0), (48, iw (-1)), (50, iw 10), (60, s0)] [b1 + 1, b1, b1 + 1, b1, b1 + 1] [] [3, 4, 48, 50, 60] (by intro c a w d v h; cases d <;> exact h) (by kernel_rfl) rfl trivial ?_
  refine Ok.one (i := 4) (fuel' := 2) (l' := [true, true, true, true, true, true, true, true, true, true, true, true, true, true, false, false]) (by kernel_rfl) rfl rfl (Eff.call0 (d := some 51) (by kernel_rfl) (x54_13 H) ?_)
  rintro v6 H7 k9 le8 rfl
  refine Ok.dropL ?_
  refine Ok.withS (idx := [0, 1]) le8 rfl ?_
  refine Ok.take (fuel' := 1) (l' := [true, true, true, true, true, true, true, true, true, true, true, true, true, true, true, false]) (qs := [(14, .g [])]) [(3, pt (b1 + 1) 0), (4, pt (b1 + 1 + 1) 0), (61, .agg #[bF, iw (-10), s0])] [] [] [3, 4, 61] (by intro c a w d v h; cases d <;> exact h) (by kernel_rfl) rfl trivial ?_
  refine Ok.one (i := 15) (fuel' := 0) (l' := [true, true, true, true, true, true, true, true, true, true, true, true, true, true, true, true]) (by kernel_rfl) rfl rfl (Eff.op (.g [.K 2 0, .K 2 1, .K 2 2]) (fun _ => [(3, pt (b1 + 1) 0), (4, pt (b1 + 1 + 1) 0)]) (fun _ => [.blk b1 [iw 3, iw 1, iw 10] 24, .blk (b1 + 1) [bF, iw (-1), s0] 26, .blk (b1 + 1 + 1) [bF, iw (-10), s0] 26]) (fun _ => [b1 + 1 + 1, b1 + 1 + 1, b1 + 1 + 1]) (fun _ => []) [3, 4] (fun _ => by kernel_rfl) (fun _ => trivial) (fun _ => ?_))
  refine Ok.withS (idx := [0, 1]) le8 rfl ?_
  refine Ok.done (by kernel_rfl) ?_
  refine Ok.thenN ?_
  refine Ok.ret_ ?_
  refine Ok.blkR ?_
  refine Ok.thenR ?_
  exact Ok.ret1c le8 [.K 2 0, .K 2 1, .K 2 2] (.agg #[bF, iw (-10), s0]) [b1 + 1 + 1, b1 + 1 + 1, b1 + 1 + 1] rfl (by kernel_rfl) rfl
set_option maxRecDepth 100000 in
theorem x15_10 (H : Snap) (p0 p1 : Nat) (hp0 : Pre H p0 [iw 3, iw 1, iw 10]) (hp1 : Pre H p1 [iw 1, bF, iw (-1), s0]) : Does Tryd.prog 15 [sl p0 0 1 1, .agg #[sl p1 0 1 1]] H [] (fun v H' kp => ∃ r0 : Nat, v = sl r0 0 1 1 ∧ Pre H' r0 [bF, iw (-10), s0]) := by
  refine Does.of Tryd.func15 rfl rfl rfl rfl (fun w0 H0 kx => ?_)
  refine Ok.seq ?_
  refine Ok.reg ?_
  refine Ok.seg (j := 2) (fun b1 => [(0, sl p0 0 1 1), (3, pt b1 0), (4, n0)]) (fun b1 => [.blk b1 [sl p1 0 1 1] 30]) (fun b1 => []) (fun b1 => []) [.g [.N], .g []] [0, 3, 4] rfl (fun b1 => by kernel_rfl) (fun b1 => trivial) (fun b1 => ?_)
  refine Ok.segEnd rfl ?_
  refine Ok.thenN ?_
  refine Ok.seq ?_
  refine Ok.reg ?_
  refine Ok.seg (j := 4) (fun b2 => [(0, sl p0 0 1 1), (3, pt b1 0), (4, n0), (5, sl b2 0 1 1)]) (fun b2 => [.blk b1 [sl p1 0 1 1] 30, .blk b2 [bF, iw 0, s0] 26]) (fun b2 => []) (fun b2 => []) [.g [], .g [], .g [.N], .g []] [0, 3, 4, 5] rfl (fun b2 => by kernel_rfl) (fun b2 => trivial) (fun b2 => ?_)
  refine Ok.segEnd rfl ?_
  refine Ok.thenN ?_
  refine Ok.seq ?_
  refine Ok.seq ?_
  refine Ok.reg ?_
  refine Ok.seg (j := 3) (fun _ => [(3, pt b1 0), (4, n0), (5, sl b2 0 1 1), (11, sl p0 0 1 1), (12, iw 1), (13, iw 0)]) (fun _ => [.blk b1 [sl p1 0 1 1] 30, .blk b2 [bF, iw 0, s0] 26]) (fun _ => []) (fun _ => []) [.g [], .g [], .g []] [3, 4, 5, 11, 12, 13] rfl (fun _ => by kernel_rfl) (fun _ => trivial) (fun _ => ?_)
  refine Ok.segEnd rfl ?_
  refine Ok.thenN ?_
  refine Ok.blk ?_
  refine Ok.loopN 2 ?_
  refine Ok.round ?_
  refine Ok.seq ?_
  refine Ok.reg ?_
  refine Ok.seg (j := 1) (fun _ => [(3, pt b1 0), (4, n0), (5, sl b2 0 1 1), (11, sl p0 0 1 1), (12, iw 1), (13, iw 0), (14, bT)]) (fun _ => [.blk b1 [sl p1 0 1 1] 30, .blk b2 [bF, iw 0, s0] 26]) (fun _ => []) (fun _ => []) [.g []] [3, 4, 5, 11, 12, 13, 14] rfl (fun _ => by kernel_rfl) (fun _ => trivial) (fun _ => ?_)
  refine Ok.segEnd rfl ?_
  refine Ok.thenN ?_
  refine Ok.seq ?_
  refine Ok.condT rfl ?_
  refine Ok.skip_ ?_
  refine Ok.thenN ?_
  refine Ok.seq ?_
  refine Ok.blk ?_
  refine Ok.seq ?_
  refine Ok.reg ?_
  refine Ok.seg (j := 6) (fun b5 => [(3, pt b1 0), (4, n0), (5, sl b2 0 1 1), (6, iw 0), (7, pt b5 0), (11, sl p0 0 1 1), (12, iw 1), (13, iw 0), (14, bT), (15, iw 0), (16, pt p0 0), (17, .agg #[iw 3, iw 1, iw 10])]) (fun b5 => [.blk b1 [sl p1 0 1 1] 30, .blk b2 [bF, iw 0, s0] 26, .blk b5 [iw 3, iw 1, iw 10] 24]) (fun b5 => [b5, b5, b5]) (fun b5 => [HasCell H ⟨p0, 0, none⟩ (iw 3), HasCell H ⟨p0, 1, none⟩ (iw 1), HasCell H ⟨p0, 2, none⟩ (iw 10)]) [.g [], .g [], .g [.X (iw 3), .X (iw 1), .X (iw 10)], .g [.N], .g [], .g [.K 2 0, .K 2 1, .K 2 2]] [3, 4, 5, 6, 7, 11, 12, 13, 14, 15, 16, 17] rfl (fun b5 => by kernel_rfl) (fun b5 => ⟨Pre.cell hp0 0 rfl, Pre.cell hp0 1 rfl, Pre.cell hp0 2 rfl, trivial⟩) (fun b5 => ?_)
  refine Ok.segEnd rfl ?_
  refine Ok.thenN ?_
  refine Ok.start (idx := [0, 2]) [] [.blk b1 [sl p1 0 1 1] 30, .blk b5 [iw 3, iw 1, iw 10] 24] (by kernel_rfl) rfl rfl rfl ?_
  refine Ok.take (fuel' := 4) (l' := [true, true, true, true, true, true, false, false, false, false]) (qs := [(0, .g []), (1, .g []), (2, .g [.K 1 0, .K 1 1, .K 1 2]), (3, .g [.K 0 0]), (4, .g []), (5, .g [.K 1 1])]) [(3, pt b1 0), (4, n0), (5, sl b2 0 1 1), (6, iw 0), (7, pt b5 0), (11, sl p0 0 1 1), (12, iw 1), (13, iw 0), (14, bT), (15, iw 0), (16, pt p0 0), (17, .agg #[iw 3, iw 1, iw 10]), (18, sl b2 0 1 1), (19, iw 0), (20, .agg #[iw 3, iw 1, iw 10]), (21, .agg #[sl p1 0 1 1]), (22, pt b5 1), (23, iw 1)] [b5, b5, b5, b1, b5] [] [3, 4, 5, 6, 7, 11, 12, 13, 14, 15, 16, 17, 18, 19, 20, 21, 22, 23] (by intro c a w d v h; cases d <;> exact h) (by kernel_rfl) rfl trivial ?_
  refine Ok.one (i := 6) (fuel' := 3) (l' := [true, true, true, true, true, true, true, false, false, false]) (by kernel_rfl) rfl rfl (Eff.call0 (d := some 24) (by kernel_rfl) (x30_11 H p1 hp1) ?_)
  rintro v6 H7 k9 le8 rfl
  refine Ok.dropL ?_
  refine Ok.withS (idx := [0, 2]) le8 rfl ?_
  refine Ok.one (i := 7) (fuel' := 2) (l' := [true, true, true, true, true, true, true, true, false, false]) (by kernel_rfl) rfl rfl (Eff.call0 (d := some 25) (by kernel_rfl) (x29_12 H7) ?_)
  rintro v10 H11 k13 le12 rfl
  refine Ok.dropL ?_
  refine Ok.withS (idx := [0, 2]) (SLe.trans le8 le12) rfl ?_
  refine Ok.take (fuel' := 1) (l' := [true, true, true, true, true, true, true, true, true, false]) (qs := [(8, .g [])]) [(3, pt b1 0), (4, n0), (5, sl b2 0 1 1), (6, iw 0), (7, pt b5 0), (11, sl p0 0 1 1), (12, iw 1), (13, iw 0), (14, bT), (15, iw 0), (16, pt p0 0), (17, .agg #[iw 3, iw 1, iw 10]), (18, sl b2 0 1 1), (19, iw 0), (20, .agg #[iw 3, iw 1, iw 10]), (21, .agg #[sl p1 0 1 1]), (22, pt b5 1), (23, iw 1), (24, .agg #[bF, iw (-1), s0]), (25, .agg #[bF, iw (-10), s0]), (26, pt b2 0)] [] [] [3, 4, 5, 6, 7, 11, 12, 13, 14, 15, 16, 17, 18, 19, 20, 21, 22, 23, 24, 25, 26] (by intro c a w d v h; cases d <;> exact h) (by kernel_rfl) rfl trivial ?_
  refine Ok.one (i := 9) (fuel' := 0) (l' := [true, true, true, true, true, true, true, true, true, true]) (by kernel_rfl) rfl rfl (Eff.op (.g [.K 1 0, .K 1 1, .K 1 2]) (fun _ => [(3, pt b1 0), (4, n0), (5, sl b2 0 1 1), (6, iw 0), (7, pt b5 0), (11, sl p0 0 1 1), (12, iw 1), (13, iw 0), (14, bT), (15, iw 0), (16, pt p0 0), (17, .agg #[iw 3, iw 1, iw 10]), (18, sl b2 0 1 1), (19, iw 0), (20, .agg #[iw 3, iw 1, iw 10]), (21, .agg #[sl p1 0 1 1]), (22, pt b5 1), (23, iw 1), (24, .agg #[bF, iw (-1), s0]), (25, .agg #[bF, iw (-10), s0]), (26, pt b2 0)]) (fun _ => [.blk b1 [sl p1 0 1 1] 30, .blk b2 [bF, iw (-10), s0] 26, .blk b5 [iw 3, iw 1, iw 10] 24]) (fun _ => [b2, b2, b2]) (fun _ => []) [3, 4, 5, 6, 7, 11, 12, 13, 14, 15, 16, 17, 18, 19, 20, 21, 22, 23, 24, 25, 26] (fun _ => by kernel_rfl) (fun _ => trivial) (fun _ => ?_))
  refine Ok.withS (idx := [0, 2]) (SLe.trans le8 le12) rfl ?_
  refine Ok.done (by kernel_rfl) ?_
  refine Ok.blkN ?_
  refine Ok.thenN ?_
  refine Ok.reg ?_
  refine Ok.seg (j := 2) (fun _ => [(3, pt b1 0), (4, n0), (5, sl b2 0 1 1), (6, iw 0), (7, pt b5 0), (11, sl p0 0 1 1), (12, iw 1), (13, iw 1), (14, bT), (15, iw 0), (16, pt p0 0), (17, .agg #[iw 3, iw 1, iw 10]), (18, sl b2 0 1 1), (19, iw 0), (20, .agg #[iw 3, iw 1, iw 10]), (21, .agg #[sl p1 0 1 1]), (22, pt b5 1), (23, iw 1), (24, .agg #[bF, iw (-1), s0]), (25, .agg #[bF, iw (-10), s0]), (26, pt b2 0), (27, iw 1)]) (fun _ => [.blk b1 [sl p1 0 1 1] 30, .blk b2 [bF, iw (-10), s0] 26, .blk b5 [iw 3, iw 1, iw 10] 24]) (fun _ => []) (fun _ => []) [.g [], .g []] [3, 4, 5, 6, 7, 11, 12, 13, 14, 15, 16, 17, 18, 19, 20, 21, 22, 23, 24, 25, 26, 27] rfl (fun _ => by kernel_rfl) (fun _ => trivial) (fun _ => ?_)
  refine Ok.segEnd rfl ?_
  refine Ok.thenN ?_
  refine Ok.round ?_
  refine Ok.seq ?_
  refine Ok.reg ?_
  refine Ok.seg (j := 1) (fun _ => [(3, pt b1 0), (4, n0), (5, sl b2 0 1 1), (6, iw 0), (7, pt b5 0), (11, sl p0 0 1 1), (12, iw 1), (13, iw 1), (14, bF), (15, iw 0), (16, pt p0 0), (17, .agg #[iw 3, iw 1, iw 10]), (18, sl b2 0 1 1), (19, iw 0), (20, .agg #[iw 3, iw 1, iw 10]), (21, .agg #[sl p1 0 1 1]), (22, pt b5 1), (23, iw 1), (24, .agg #[bF, iw (-1), s0]), (25, .agg #[bF, iw (-10), s0]), (26, pt b2 0), (27, iw 1)]) (fun _ => [.blk b1 [sl p1 0 1 1] 30, .blk b2 [bF, iw (-10), s0] 26, .blk b5 [iw 3, iw 1, iw 10] 24]) (fun _ => []) (fun _ => []) [.g []] [3, 4, 5, 6, 7, 11, 12, 13, 14, 15, 16, 17, 18, 19, 20, 21, 22, 23, 24, 25, 26, 27] rfl (fun _ => by kernel_rfl) (fun _ => trivial) (fun _ => ?_)
  refine Ok.segEnd rfl ?_
  refine Ok.thenN ?_
  refine Ok.seq ?_
  refine Ok.condF rfl ?_
  refine Ok.exit_ ?_
  refine Ok.thenE ?_
  refine Ok.thenE ?_
  refine Ok.blkE ?_
  refine Ok.thenN ?_
  refine Ok.seq ?_
  refine Ok.reg ?_
  refine Ok.seg (j := 2) (fun _ => [(4, sl b2 0 1 1)]) (fun _ => [.blk b1 [sl p1 0 1 1] 30, .blk b2 [bF, iw (-10), s0] 26, .blk b5 [iw 3, iw 1, iw 10] 24]) (fun _ => []) (fun _ => []) [.g [], .g []] [4] rfl (fun _ => by kernel_rfl) (fun _ => trivial) (fun _ => ?_)
  refine Ok.mask [false, true, false] [.blk b2 [bF, iw (-10), s0] 26] rfl ?_
  refine Ok.segEnd rfl ?_
  refine Ok.thenN ?_
  refine Ok.ret_ ?_
  refine Ok.pubP 0 rfl [] rfl ?_
  intro H18 le19 pf20
  exact Ok.ret1 (v := sl b2 0 1 1) (SLe.trans le8 (SLe.trans le12 le19)) rfl rfl ⟨b2, rfl, pf20⟩
set_option maxRecDepth 100000 in
theorem x5_9 (H : Snap) (p0 : Nat) (hp0 : Pre H p0 [iw 1, bF, iw (-1), s0]) : Does Tryd.prog 5 [.agg #[iw 3, iw 1, iw 10], .agg #[sl p0 0 1 1]] H [] (fun v H' kp => v = .agg #[bF, iw (-10), s0]) := by
  refine Does.of Tryd.func5 rfl rfl rfl rfl (fun w0 H0 kx => ?_)
  refine Ok.seq ?_
  refine Ok.reg ?_
  refine Ok.seg (j := 3) (fun b1 => [(2, pt b1 0), (3, pt (b1 + 1) 0), (4, pt (b1 + 1 + 1) 0)]) (fun b1 => [.blk b1 [iw 3, iw 1, iw 10] 24, .blk (b1 + 1) [sl p0 0 1 1] 30, .blk (b1 + 1 + 1) [bF, iw 0, s0] 26]) (fun b1 => []) (fun b1 => []) [.g [.N], .g [.N], .g [.N]] [2, 3, 4] rfl (fun b1 => by kernel_rfl) (fun b1 => trivial) (fun b1 => ?_)
  refine Ok.segEnd rfl ?_
  refine Ok.thenN ?_
  refine Ok.seq ?_
  refine Ok.reg ?_
  refine Ok.seg (j := 3) (fun b2 => [(4, pt (b1 + 1 + 1) 0), (7, sl b2 0 1 1), (8, .agg #[sl p0 0 1 1])]) (fun b2 => [.blk b1 [iw 3, iw 1, iw 10] 24, .blk (b1 + 1) [sl p0 0 1 1] 30, .blk (b1 + 1 + 1) [bF, iw 0, s0] 26, .blk b2 [iw 3, iw 1, iw 10] 24]) (fun b2 => [b1, b1, b1, b1 + 1]) (fun b2 => []) [.g [.K 0 0, .K 0 1, .K 0 2], .g [.N], .g [.K 1 0]] [4, 7, 8] rfl (fun b2 => by kernel_rfl) (fun b2 => trivial) (fun b2 => ?_)
  refine Ok.mask [false, false, true, true] [.blk (b1 + 1 + 1) [bF, iw 0, s0] 26, .blk b2 [iw 3, iw 1, iw 10] 24] rfl ?_
  refine Ok.pubP 1 rfl [.blk (b1 + 1 + 1) [bF, iw 0, s0] 26] rfl ?_
  intro H3 le4 pf5
  refine Ok.eff (j := 4) rfl (Eff.call0 (d := some 9) (by kernel_rfl) (x15_10 H3 b2 p0 pf5 (Pre.mono le4 hp0)) ?_)
  rintro v6 H7 k9 le8 ⟨q10, rfl, pf11⟩
  refine Ok.dropL ?_
  refine Ok.seg (j := 5) (fun _ => [(4, pt (b1 + 1 + 1) 0), (5, sl q10 0 1 1)]) (fun _ => [.blk (b1 + 1 + 1) [bF, iw 0, s0] 26]) (fun _ => []) (fun _ => []) [.g []] [4, 5] rfl (fun _ => by kernel_rfl) (fun _ => trivial) (fun _ => ?_)
  refine Ok.segEnd rfl ?_
  refine Ok.thenN ?_
  refine Ok.seq ?_
  refine Ok.seq ?_
  refine Ok.reg ?_
  refine Ok.seg (j := 3) (fun _ => [(4, pt (b1 + 1 + 1) 0), (5, sl q10 0 1 1), (12, bF)]) (fun _ => [.blk (b1 + 1 + 1) [bF, iw 0, s0] 26]) (fun _ => []) (fun _ => []) [.g [], .g [], .g []] [4, 5, 12] rfl (fun _ => by kernel_rfl) (fun _ => trivial) (fun _ => ?_)
  refine Ok.segEnd rfl ?_
  refine Ok.thenN ?_
  refine Ok.condF rfl ?_
  refine Ok.skip_ ?_
  refine Ok.thenN ?_
  refine Ok.seq ?_
  refine Ok.reg ?_
  refine Ok.seg (j := 4) (fun _ => [(4, pt (b1 + 1 + 1) 0)]) (fun _ => [.blk (b1 + 1 + 1) [bF, iw (-10), s0] 26]) (fun _ => [b1 + 1 + 1, b1 + 1 + 1, b1 + 1 + 1]) (fun _ => [HasCell H7 ⟨q10, 0, none⟩ (bF), HasCell H7 ⟨q10, 1, none⟩ (iw (-10)), HasCell H7 ⟨q10, 2, none⟩ (s0)]) [.g [], .g [], .g [.X (bF), .X (iw (-10)), .X (s0)], .g [.K 0 0, .K 0 1, .K 0 2]] [4] rfl (fun _ => by kernel_rfl) (fun _ => ⟨Pre.cell pf11 0 rfl, Pre.cell pf11 1 rfl, Pre.cell pf11 2 rfl, trivial⟩) (fun _ => ?_)
  refine Ok.segEnd rfl ?_
  refine Ok.thenN ?_
  refine Ok.ret_ ?_
  exact Ok.ret1c (SLe.trans le4 le8) [.K 0 0, .K 0 1, .K 0 2] (.agg #[bF, iw (-10), s0]) [b1 + 1 + 1, b1 + 1 + 1, b1 + 1 + 1] rfl (by kernel_rfl) rfl
set_option maxRecDepth 100000 in
theorem x30_16 (H : Snap) (p0 : Nat) (hp0 : Pre H p0 [iw 1, bF, iw 0, .string ⟨#[97, 98, 99, 100]⟩]) : Does Tryd.prog 30 [.agg #[sl p0 0 1 1], iw 1] H [] (fun v H' kp => v = .agg #[bF, iw 0, .string ⟨#[97, 98, 99, 100]⟩]) := by
  refine Does.of Tryd.func30 rfl rfl rfl rfl (fun w0 H0 kx => ?_)
  refine Ok.seq ?_
  refine Ok.reg ?_
  refine Ok.seg (j := 2) (fun b1 => [(1, iw 1), (2, pt b1 0), (4, pt (b1 + 1) 0)]) (fun b1 => [.blk b1 [sl p0 0 1 1] 30, .blk (b1 + 1) [bF, iw 0, s0] 26]) (fun b1 => []) (fun b1 => []) [.g [.N], .g [.N]] [1, 2, 4] rfl (fun b1 => by kernel_rfl) (fun b1 => trivial) (fun b1 => ?_)
  refine Ok.segEnd rfl ?_
  refine Ok.thenN ?_
  refine Ok.seq ?_
  refine Ok.seq ?_
  refine Ok.reg ?_
  refine Ok.seg (j := 4) (fun _ => [(1, iw 1), (4, pt (b1 + 1) 0), (8, sl p0 0 1 1), (9, iw 1), (10, iw 0)]) (fun _ => [.blk b1 [sl p0 0 1 1] 30, .blk (b1 + 1) [bF, iw 0, s0] 26]) (fun _ => [b1]) (fun _ => []) [.g [], .g [.K 0 0], .g [], .g []] [1, 4, 8, 9, 10] rfl (fun _ => by kernel_rfl) (fun _ => trivial) (fun _ => ?_)
  refine Ok.segEnd rfl ?_
  refine Ok.thenN ?_
  refine Ok.blk ?_
  refine Ok.loopN 1 ?_
  refine Ok.round ?_
  refine Ok.seq ?_
  refine Ok.reg ?_
  refine Ok.seg (j := 1) (fun _ => [(1, iw 1), (4, pt (b1 + 1) 0), (8, sl p0 0 1 1), (9, iw 1), (10, iw 0), (11, bT)]) (fun _ => [.blk b1 [sl p0 0 1 1] 30, .blk (b1 + 1) [bF, iw 0, s0] 26]) (fun _ => []) (fun _ => []) [.g []] [1, 4, 8, 9, 10, 11] rfl (fun _ => by kernel_rfl) (fun _ => trivial) (fun _ => ?_)
  refine Ok.segEnd rfl ?_
  refine Ok.thenN ?_
  refine Ok.seq ?_
  refine Ok.condT rfl ?_
  refine Ok.skip_ ?_
  refine Ok.thenN ?_
  refine Ok.seq ?_
  refine Ok.blk ?_
  refine Ok.seq ?_
  refine Ok.reg ?_
  refine Ok.seg (j := 4) (fun b4 => [(1, iw 1), (4, pt (b1 + 1) 0), (6, pt b4 0), (8, sl p0 0 1 1), (9, iw 1), (10, iw 0), (11, bT), (12, pt p0 0), (13, .agg #[iw 1, bF, iw 0, .string ⟨#[97, 98, 99, 100]⟩])]) (fun b4 => [.blk b1 [sl p0 0 1 1] 30, .blk (b1 + 1) [bF, iw 0, s0] 26, .blk b4 [iw 1, bF, iw 0, .string ⟨#[97, 98, 99, 100]⟩] 39]) (fun b4 => [b4, b4, b4, b4]) (fun b4 => [HasCell H ⟨p0, 0, none⟩ (iw 1), HasCell H ⟨p0, 1, none⟩ (bF), HasCell H ⟨p0, 2, none⟩ (iw 0), HasCell H ⟨p0, 3, none⟩ (.string ⟨#[97, 98, 99, 100]⟩)]) [.g [], .g [.X (iw 1), .X (bF), .X (iw 0), .X (.string ⟨#[97, 98, 99, 100]⟩)], .g [.N], .g [.K 2 0, .K 2 1, .K 2 2, .K 2 3]] [1, 4, 6, 8, 9, 10, 11, 12, 13] rfl (fun b4 => by kernel_rfl) (fun b4 => ⟨Pre.cell hp0 0 rfl, Pre.cell hp0 1 rfl, Pre.cell hp0 2 rfl, Pre.cell hp0 3 rfl, trivial⟩) (fun b4 => ?_)
  refine Ok.segEnd rfl ?_
  refine Ok.thenN ?_
  refine Ok.seq ?_
  refine Ok.reg ?_
  refine Ok.seg (j := 4) (fun _ => [(1, iw 1), (4, pt (b1 + 1) 0), (6, pt b4 0), (8, sl p0 0 1 1), (9, iw 1), (10, iw 0), (11, bT), (12, pt p0 0), (13, .agg #[iw 1, bF, iw 0, .string ⟨#[97, 98, 99, 100]⟩]), (14, pt b4 0), (15, iw 1), (16, iw 1), (17, bT)]) (fun _ => [.blk b1 [sl p0 0 1 1] 30, .blk (b1 + 1) [bF, iw 0, s0] 26, .blk b4 [iw 1, bF, iw 0, .string ⟨#[97, 98, 99, 100]⟩] 39]) (fun _ => [b4]) (fun _ => []) [.g [], .g [.K 2 0], .g [], .g []] [1, 4, 6, 8, 9, 10, 11, 12, 13, 14, 15, 16, 17] rfl (fun _ => by kernel_rfl) (fun _ => trivial) (fun _ => ?_)
  refine Ok.segEnd rfl ?_
  refine Ok.thenN ?_
  refine Ok.condT rfl ?_
  refine Ok.seq ?_
  refine Ok.reg ?_
  refine Ok.seg (j := 3) (fun _ => [(1, iw 1), (4, pt (b1 + 1) 0), (6, pt b4 0), (8, sl p0 0 1 1), (9, iw 1), (10, iw 0), (11, bT), (12, pt p0 0), (13, .agg #[iw 1, bF, iw 0, .string ⟨#[97, 98, 99, 100]⟩]), (14, pt b4 0), (15, iw 1), (16, iw 1), (17, bT), (18, pt b4 1), (19, .agg #[bF, iw 0, .string ⟨#[97, 98, 99, 100]⟩])]) (fun _ => [.blk b1 [sl p0 0 1 1] 30, .blk (b1 + 1) [bF, iw 0, .string ⟨#[97, 98, 99, 100]⟩] 26, .blk b4 [iw 1, bF, iw 0, .string ⟨#[97, 98, 99, 100]⟩] 39]) (fun _ => [b4, b4, b4, b1 + 1, b1 + 1, b1 + 1]) (fun _ => []) [.g [], .g [.K 2 1, .K 2 2, .K 2 3], .g [.K 1 0, .K 1 1, .K 1 2]] [1, 4, 6, 8, 9, 10, 11, 12, 13, 14, 15, 16, 17, 18, 19] rfl (fun _ => by kernel_rfl) (fun _ => trivial) (fun _ => ?_)
  refine Ok.segEnd rfl ?_
  refine Ok.thenN ?_
  refine Ok.ret_ ?_
  refine Ok.blkR ?_
  refine Ok.thenR ?_
  refine Ok.thenR ?_
  refine Ok.blkR ?_
  refine Ok.thenR ?_
  exact Ok.ret1c (SLe.refl _) [.K 1 0, .K 1 1, .K 1 2] (.agg #[bF, iw 0, .string ⟨#[97, 98, 99, 100]⟩]) [b1 + 1, b1 + 1, b1 + 1] rfl (by kernel_rfl) rfl
set_option maxRecDepth 100000 in
theorem x54_18 (H : Snap) : Does Tryd.prog 54 [iw 0, iw 2] H [] (fun v H' kp => v = iw 0) := by
  refine Does.of Tryd.func54 rfl rfl rfl rfl (fun w0 H0 kx => ?_)
  refine Ok.seq ?_
  refine Ok.reg ?_
  refine Ok.seg (j := 1) (fun _ => [(0, iw 0), (1, iw 2), (4, iw 0)]) (fun _ => []) (fun _ => []) (fun _ => []) [.g []] [0, 1, 4] rfl (fun _ => by kernel_rfl) (fun _ => trivial) (fun _ => ?_)
  refine Ok.segEnd rfl ?_
  refine Ok.thenN ?_
  refine Ok.seq ?_
  refine Ok.reg ?_
  refine Ok.seg (j := 4) (fun _ => [(0, iw 0), (1, iw 2), (4, iw 0), (5, iw 0)]) (fun _ => []) (fun _ => []) (fun _ => []) [.g [], .g [], .g [], .g []] [0, 1, 4, 5] rfl (fun _ => by kernel_rfl) (fun _ => trivial) (fun _ => ?_)
  refine Ok.segEnd rfl ?_
  refine Ok.thenN ?_
  refine Ok.seq ?_
  refine Ok.seq ?_
  refine Ok.reg ?_
  refine Ok.seg (j := 2) (fun _ => [(0, iw 0), (1, iw 2), (4, iw 0), (5, iw 0), (10, bF)]) (fun _ => []) (fun _ => []) (fun _ => []) [.g [], .g []] [0, 1, 4, 5, 10] rfl (fun _ => by kernel_rfl) (fun _ => trivial) (fun _ => ?_)
  refine Ok.segEnd rfl ?_
  refine Ok.thenN ?_
  refine Ok.condF rfl ?_
  refine Ok.skip_ ?_
  refine Ok.thenN ?_
  refine Ok.seq ?_
  refine Ok.seq ?_
  refine Ok.reg ?_
  refine Ok.seg (j := 4) (fun _ => [(0, iw 0), (4, iw 0), (5, iw 0), (17, bF)]) (fun _ => []) (fun _ => []) (fun _ => []) [.g [], .g [], .g [], .g []] [0, 4, 5, 17] rfl (fun _ => by kernel_rfl) (fun _ => trivial) (fun _ => ?_)
  refine Ok.segEnd rfl ?_
  refine Ok.thenN ?_
  refine Ok.condF rfl ?_
  refine Ok.skip_ ?_
  refine Ok.thenN ?_
  refine Ok.seq ?_
  refine Ok.reg ?_
  refine Ok.seg (j := 4) (fun _ => [(4, iw 0)]) (fun _ => []) (fun _ => []) (fun _ => []) [.g [], .g [], .g [], .g []] [4] rfl (fun _ => by kernel_rfl) (fun _ => trivial) (fun _ => ?_)
  refine Ok.segEnd rfl ?_
  refine Ok.thenN ?_
  refine Ok.ret_ ?_
  exact Ok.ret1 (v := iw 0) (SLe.refl _) rfl rfl rfl
set_option maxRecDepth 100000 in
theorem x29_17 (H : Snap) : Does Tryd.prog 29 [.agg #[iw 3, iw 1, iw 2], .agg #[bF, iw 0, .string ⟨#[97, 98, 99, 100]⟩]] H [] (fun v H' kp => v = .agg #[bF, iw 0, .string ⟨#[97, 98]⟩]) := by
  refine Does.of Tryd.func29 rfl rfl rfl rfl (fun w0 H0 kx => ?_)
  refine Ok.seq ?_
  refine Ok.reg ?_
  refine Ok.seg (j := 3) (fun b1 => [(2, pt b1 0), (3, pt (b1 + 1) 0), (4, pt (b1 + 1 + 1) 0)]) (fun b1 => [.blk b1 [iw 3, iw 1, iw 2] 24, .blk (b1 + 1) [bF, iw 0, .string ⟨#[97, 98, 99, 100]⟩] 26, .blk (b1 + 1 + 1) [bF, iw 0, s0] 26]) (fun b1 => []) (fun b1 => []) [.g [.N], .g [.N], .g [.N]] [2, 3, 4] rfl (fun b1 => by kernel_rfl) (fun b1 => trivial) (fun b1 => ?_)
  refine Ok.segEnd rfl ?_
  refine Ok.thenN ?_
  refine Ok.seq ?_
  refine Ok.seq ?_
  refine Ok.reg ?_
  refine Ok.seg (j := 2) (fun _ => [(2, pt b1 0), (3, pt (b1 + 1) 0), (4, pt (b1 + 1 + 1) 0), (10, bF)]) (fun _ => [.blk b1 [iw 3, iw 1, iw 2] 24, .blk (b1 + 1) [bF, iw 0, .string ⟨#[97, 98, 99, 100]⟩] 26, .blk (b1 + 1 + 1) [bF, iw 0, s0] 26]) (fun _ => [b1 + 1]) (fun _ => []) [.g [], .g [.K 1 0]] [2, 3, 4, 10] rfl (fun _ => by kernel_rfl) (fun _ => trivial) (fun _ => ?_)
  refine Ok.segEnd rfl ?_
  refine Ok.thenN ?_
  refine Ok.condF rfl ?_
  refine Ok.skip_ ?_
  refine Ok.thenN ?_
  refine Ok.seq ?_
  refine Ok.seq ?_
  refine Ok.reg ?_
  refine Ok.seg (j := 2) (fun _ => [(2, pt b1 0), (3, pt (b1 + 1) 0), (4, pt (b1 + 1 + 1) 0), (13, iw 3)]) (fun _ => [.blk b1 [iw 3, iw 1, iw 2] 24, .blk (b1 + 1) [bF, iw 0, .string ⟨#[97, 98, 99, 100]⟩] 26, .blk (b1 + 1 + 1) [bF, iw 0, s0] 26]) (fun _ => [b1]) (fun _ => []) [.g [], .g [.K 0 0]] [2, 3, 4, 13] rfl (fun _ => by kernel_rfl) (fun _ => trivial) (fun _ => ?_)
  refine Ok.segEnd rfl ?_
  refine Ok.thenN ?_
  refine Ok.blk ?_
  refine Ok.seq ?_
  refine Ok.reg ?_
  refine Ok.seg (j := 2) (fun _ => [(2, pt b1 0), (3, pt (b1 + 1) 0), (4, pt (b1 + 1 + 1) 0), (13, iw 3), (14, bF)]) (fun _ => [.blk b1 [iw 3, iw 1, iw 2] 24, .blk (b1 + 1) [bF, iw 0, .string ⟨#[97, 98, 99, 100]⟩] 26, .blk (b1 + 1 + 1) [bF, iw 0, s0] 26]) (fun _ => []) (fun _ => []) [.g [], .g []] [2, 3, 4, 13, 14] rfl (fun _ => by kernel_rfl) (fun _ => trivial) (fun _ => ?_)
  refine Ok.segEnd rfl ?_
  refine Ok.thenN ?_
  refine Ok.condF rfl ?_
  refine Ok.seq ?_
  refine Ok.reg ?_
  refine Ok.seg (j := 2) (fun _ => [(2, pt b1 0), (3, pt (b1 + 1) 0), (4, pt (b1 + 1 + 1) 0), (13, iw 3), (45, bT)]) (fun _ => [.blk b1 [iw 3, iw 1, iw 2] 24, .blk (b1 + 1) [bF, iw 0, .string ⟨#[97, 98, 99, 100]⟩] 26, .blk (b1 + 1 + 1) [bF, iw 0, s0] 26]) (fun _ => []) (fun _ => []) [.g [], .g []] [2, 3, 4, 13, 45] rfl (fun _ => by kernel_rfl) (fun _ => trivial) (fun _ => ?_)
  refine Ok.segEnd rfl ?_
  refine Ok.thenN ?_
  refine Ok.condT rfl ?_
  refine Ok.seq ?_
  refine Ok.start (idx := [0, 1]) [] [.blk b1 [iw 3, iw 1, iw 2] 24, .blk (b1 + 1) [bF, iw 0, .string ⟨#[97, 98, 99, 100]⟩] 26] (by kernel_rfl) rfl rfl rfl ?_
  refine Ok.take (fuel' := 3) (l' := [true, true, true, true, false, true, true, true, true, true, true, true, true, true, false, false]) (qs := [(0, .g []), (1, .g [.K 1 1]), (2, .g []), (3, .g [.K 0 2]), (5, .g []), (6, .g [.K 1 2]), (7, .g []), (8, .g [.K 0 2]), (9, .g []), (10, .g [.K 1 2]), (11, .g []), (12, .g []), (13, .g [])]) [(3, pt (b1 + 1) 0), (4, pt (b1 + 1 + 1) 0), (48, iw 0), (50, iw 2), (60, .string ⟨#[97, 98]⟩)] [b1 + 1, b1, b1 + 1, b1, b1 + 1] [] [3, 4, 48, 50, 60] (by intro c a w d v h; cases d <;> exact h) (by kernel_rfl) rfl trivial ?_
  refine Ok.one (i := 4) (fuel' := 2) (l' := [true, true, true, true, true, true, true, true, true, true, true, true, true, true, false, false]) (by kernel_rfl) rfl rfl (Eff.call0 (d := some 51) (by kernel_rfl) (x54_18 H) ?_)
  rintro v6 H7 k9 le8 rfl
  refine Ok.dropL ?_
  refine Ok.withS (idx := [0, 1]) le8 rfl ?_
  refine Ok.take (fuel' := 1) (l' := [true, true, true, true, true, true, true, true, true, true, true, true, true, true, true, false]) (qs := [(14, .g [])]) [(3, pt (b1 + 1) 0), (4, pt (b1 + 1 + 1) 0), (61, .agg #[bF, iw 0, .string ⟨#[97, 98]⟩])] [] [] [3, 4, 61] (by intro c a w d v h; cases d <;> exact h) (by kernel_rfl) rfl trivial ?_
  refine Ok.one (i := 15) (fuel' := 0) (l' := [true, true, true, true, true, true, true, true, true, true, true, true, true, true, true, true]) (by kernel_rfl) rfl rfl (Eff.op (.g [.K 2 0, .K 2 1, .K 2 2]) (fun _ => [(3, pt (b1 + 1) 0), (4, pt (b1 + 1 + 1) 0)]) (fun _ => [.blk b1 [iw 3, iw 1, iw 2] 24, .blk (b1 + 1) [bF, iw 0, .string ⟨#[97, 98, 99, 100]⟩] 26, .blk (b1 + 1 + 1) [bF, iw 0, .string ⟨#[97, 98]⟩] 26]) (fun _ => [b1 + 1 + 1, b1 + 1 + 1, b1 + 1 + 1]) (fun _ => []) [3, 4] (fun _ => by kernel_rfl) (fun _ => trivial) (fun _ => ?_))
  refine Ok.withS (idx := [0, 1]) le8 rfl ?_
  refine Ok.done (by kernel_rfl) ?_
  refine Ok.thenN ?_
  refine Ok.ret_ ?_
  refine Ok.blkR ?_
  refine Ok.thenR ?_
  exact Ok.ret1c le8 [.K 2 0, .K 2 1, .K 2 2] (.agg #[bF, iw 0, .string ⟨#[97, 98]⟩]) [b1 + 1 + 1, b1 + 1 + 1, b1 + 1 + 1] rfl (by kernel_rfl) rfl
set_option maxRecDepth 100000 in
theorem x15_15 (H : Snap) (p0 p1 : Nat) (hp0 : Pre H p0 [iw 3, iw 1, iw 2]) (hp1 : Pre H p1 [iw 1, bF, iw 0, .string ⟨#[97, 98, 99, 100]⟩]) : Does Tryd.prog 15 [sl p0 0 1 1, .agg #[sl p1 0 1 1]] H [] (fun v H' kp => ∃ r0 : Nat, v = sl r0 0 1 1 ∧ Pre H' r0 [bF, iw 0, .string ⟨#[97, 98]⟩]) := by
  refine Does.of Tryd.func15 rfl rfl rfl rfl (fun w0 H0 kx => ?_)
  refine Ok.seq ?_
  refine Ok.reg ?_
  refine Ok.seg (j := 2) (fun b1 => [(0, sl p0 0 1 1), (3, pt b1 0), (4, n0)]) (fun b1 => [.blk b1 [sl p1 0 1 1] 30]) (fun b1 => []) (fun b1 => []) [.g [.N], .g []] [0, 3, 4] rfl (fun b1 => by kernel_rfl) (fun b1 => trivial) (fun b1 => ?_)
  refine Ok.segEnd rfl ?_
  refine Ok.thenN ?_
  refine Ok.seq ?_
  refine Ok.reg ?_
  refine Ok.seg (j := 4) (fun b2 => [(0, sl p0 0 1 1), (3, pt b1 0), (4, n0), (5, sl b2 0 1 1)]) (fun b2 => [.blk b1 [sl p1 0 1 1] 30, .blk b2 [bF, iw 0, s0] 26]) (fun b2 => []) (fun b2 => []) [.g [], .g [], .g [.N], .g []] [0, 3, 4, 5] rfl (fun b2 => by kernel_rfl) (fun b2 => trivial) (fun b2 => ?_)
  refine Ok.segEnd rfl ?_
  refine Ok.thenN ?_
  refine Ok.seq ?_
  refine Ok.seq ?_
  refine Ok.reg ?_
  refine Ok.seg (j := 3) (fun _ => [(3, pt b1 0), (4, n0), (5, sl b2 0 1 1), (11, sl p0 0 1 1), (12, iw 1), (13, iw 0)]) (fun _ => [.blk b1 [sl p1 0 1 1] 30, .blk b2 [bF, iw 0, s0] 26]) (fun _ => []) (fun _ => []) [.g [], .g [], .g []] [3, 4, 5, 11, 12, 13] rfl (fun _ => by kernel_rfl) (fun _ => trivial) (fun _ => ?_)
  refine Ok.segEnd rfl ?_
  refine Ok.thenN ?_
  refine Ok.blk ?_
  refine Ok.loopN 2 ?_
  refine Ok.round ?_
  refine Ok.seq ?_
  refine Ok.reg ?_
  refine Ok.seg (j := 1) (fun _ => [(3, pt b1 0), (4, n0), (5, sl b2 0 1 1), (11, sl p0 0 1 1), (12, iw 1), (13, iw 0), (14, bT)]) (fun _ => [.blk b1 [sl p1 0 1 1] 30, .blk b2 [bF, iw 0, s0] 26]) (fun _ => []) (fun _ => []) [.g []] [3, 4, 5, 11, 12, 13, 14] rfl (fun _ => by kernel_rfl) (fun _ => trivial) (fun _ => ?_)
  refine Ok.segEnd rfl ?_
  refine Ok.thenN ?_
  refine Ok.seq ?_
  refine Ok.condT rfl ?_
  refine Ok.skip_ ?_
  refine Ok.thenN ?_
  refine Ok.seq ?_
  refine Ok.blk ?_
  refine Ok.seq ?_
  refine Ok.reg ?_
  refine Ok.seg (j := 6) (fun b5 => [(3, pt b1 0), (4, n0), (5, sl b2 0 1 1), (6, iw 0), (7, pt b5 0), (11, sl p0 0 1 1), (12, iw 1), (13, iw 0), (14, bT), (15, iw 0), (16, pt p0 0), (17, .agg #[iw 3, iw 1, iw 2])]) (fun b5 => [.blk b1 [sl p1 0 1 1] 30, .blk b2 [bF, iw 0, s0] 26, .blk b5 [iw 3, iw 1, iw 2] 24]) (fun b5 => [b5, b5, b5]) (fun b5 => [HasCell H ⟨p0, 0, none⟩ (iw 3), HasCell H ⟨p0, 1, none⟩ (iw 1), HasCell H ⟨p0, 2, none⟩ (iw 2)]) [.g [], .g [], .g [.X (iw 3), .X (iw 1), .X (iw 2)], .g [.N], .g [], .g [.K 2 0, .K 2 1, .K 2 2]] [3, 4, 5, 6, 7, 11, 12, 13, 14, 15, 16, 17] rfl (fun b5 => by kernel_rfl) (fun b5 => ⟨Pre.cell hp0 0 rfl, Pre.cell hp0 1 rfl, Pre.cell hp0 2 rfl, trivial⟩) (fun b5 => ?_)
  refine Ok.segEnd rfl ?_
  refine Ok.thenN ?_
  refine Ok.start (idx := [0, 2]) [] [.blk b1 [sl p1 0 1 1] 30, .blk b5 [iw 3, iw 1, iw 2] 24] (by kernel_rfl) rfl rfl rfl ?_
  refine Ok.take (fuel' := 4) (l' := [true, true, true, true, true, true, false, false, false, false]) (qs := [(0, .g []), (1, .g []), (2, .g [.K 1 0, .K 1 1, .K 1 2]), (3, .g [.K 0 0]), (4, .g []), (5, .g [.K 1 1])]) [(3, pt b1 0), (4, n0), (5, sl b2 0 1 1), (6, iw 0), (7, pt b5 0), (11, sl p0 0 1 1), (12, iw 1), (13, iw 0), (14, bT), (15, iw 0), (16, pt p0 0), (17, .agg #[iw 3, iw 1, iw 2]), (18, sl b2 0 1 1), (19, iw 0), (20, .agg #[iw 3, iw 1, iw 2]), (21, .agg #[sl p1 0 1 1]), (22, pt b5 1), (23, iw 1)] [b5, b5, b5, b1, b5] [] [3, 4, 5, 6, 7, 11, 12, 13, 14, 15, 16, 17, 18, 19, 20, 21, 22, 23] (by intro c a w d v h; cases d <;> exact h) (by kernel_rfl) rfl trivial ?_
  refine Ok.one (i := 6) (fuel' := 3) (l' := [true, true, true, true, true, true, true, false, false, false]) (by kernel_rfl) rfl rfl (Eff.call0 (d := some 24) (by kernel_rfl) (x30_16 H p1 hp1) ?_)
  rintro v6 H7 k9 le8 rfl
  refine Ok.dropL ?_
  refine Ok.withS (idx := [0, 2]) le8 rfl ?_
  refine Ok.one (i := 7) (fuel' := 2) (l' := [true, true, true, true, true, true, true, true, false, false]) (by kernel_rfl) rfl rfl (Eff.call0 (d := some 25) (by kernel_rfl) (x29_17 H7) ?_)
  rintro v10 H11 k13 le12 rfl
  refine Ok.dropL ?_
  refine Ok.withS (idx := [0, 2]) (SLe.trans le8 le12) rfl ?_
  refine Ok.take (fuel' := 1) (l' := [true, true, true, true, true, true, true, true, true, false]) (qs := [(8, .g [])]) [(3, pt b1 0), (4, n0), (5, sl b2 0 1 1), (6, iw 0), (7, pt b5 0), (11, sl p0 0 1 1), (12, iw 1), (13, iw 0), (14, bT), (15, iw 0), (16, pt p0 0), (17, .agg #[iw 3, iw 1, iw 2]), (18, sl b2 0 1 1), (19, iw 0), (20, .agg #[iw 3, iw 1, iw 2]), (21, .agg #[sl p1 0 1 1]), (22, pt b5 1), (23, iw 1), (24, .agg #[bF, iw 0, .string ⟨#[97, 98, 99, 100]⟩]), (25, .agg #[bF, iw 0, .string ⟨#[97, 98]⟩]), (26, pt b2 0)] [] [] [3, 4, 5, 6, 7, 11, 12, 13, 14, 15, 16, 17, 18, 19, 20, 21, 22, 23, 24, 25, 26] (by intro c a w d v h; cases d <;> exact h) (by kernel_rfl) rfl trivial ?_
  refine Ok.one (i := 9) (fuel' := 0) (l' := [true, true, true, true, true, true, true, true, true, true]) (by kernel_rfl) rfl rfl (Eff.op (.g [.K 1 0, .K 1 1, .K 1 2]) (fun _ => [(3, pt b1 0), (4, n0), (5, sl b2 0 1 1), (6, iw 0), (7, pt b5 0), (11, sl p0 0 1 1), (12, iw 1), (13, iw 0), (14, bT), (15, iw 0), (16, pt p0 0), (17, .agg #[iw 3, iw 1, iw 2]), (18, sl b2 0 1 1), (19, iw 0), (20, .agg #[iw 3, iw 1, iw 2]), (21, .agg #[sl p1 0 1 1]), (22, pt b5 1), (23, iw 1), (24, .agg #[bF, iw 0, .string ⟨#[97, 98, 99, 100]⟩]), (25, .agg #[bF, iw 0, .string ⟨#[97, 98]⟩]), (26, pt b2 0)]) (fun _ => [.blk b1 [sl p1 0 1 1] 30, .blk b2 [bF, iw 0, .string ⟨#[97, 98]⟩] 26, .blk b5 [iw 3, iw 1, iw 2] 24]) (fun _ => [b2, b2, b2]) (fun _ => []) [3, 4, 5, 6, 7, 11, 12, 13, 14, 15, 16, 17, 18, 19, 20, 21, 22, 23, 24, 25, 26] (fun _ => by kernel_rfl) (fun _ => trivial) (fun _ => ?_))
  refine Ok.withS (idx := [0, 2]) (SLe.trans le8 le12) rfl ?_
  refine Ok.done (by kernel_rfl) ?_
  refine Ok.blkN ?_
  refine Ok.thenN ?_
  refine Ok.reg ?_
  refine Ok.seg (j := 2) (fun _ => [(3, pt b1 0), (4, n0), (5, sl b2 0 1 1), (6, iw 0), (7, pt b5 0), (11, sl p0 0 1 1), (12, iw 1), (13, iw 1), (14, bT), (15, iw 0), (16, pt p0 0), (17, .agg #[iw 3, iw 1, iw 2]), (18, sl b2 0 1 1), (19, iw 0), (20, .agg #[iw 3, iw 1, iw 2]), (21, .agg #[sl p1 0 1 1]), (22, pt b5 1), (23, iw 1), (24, .agg #[bF, iw 0, .string ⟨#[97, 98, 99, 100]⟩]), (25, .agg #[bF, iw 0, .string ⟨#[97, 98]⟩]), (26, pt b2 0), (27, iw 1)]) (fun _ => [.blk b1 [sl p1 0 1 1] 30, .blk b2 [bF, iw 0, .string ⟨#[97, 98]⟩] 26, .blk b5 [iw 3, iw 1, iw 2] 24]) (fun _ => []) (fun _ => []) [.g [], .g []] [3, 4, 5, 6, 7, 11, 12, 13, 14, 15, 16, 17, 18, 19, 20, 21, 22, 23, 24, 25, 26, 27] rfl (fun _ => by kernel_rfl) (fun _ => trivial) (fun _ => ?_)
  refine Ok.segEnd rfl ?_
  refine Ok.thenN ?_
  refine Ok.round ?_
  refine Ok.seq ?_
  refine Ok.reg ?_
  refine Ok.seg (j := 1) (fun _ => [(3, pt b1 0), (4, n0), (5, sl b2 0 1 1), (6, iw 0), (7, pt b5 0), (11, sl p0 0 1 1), (12, iw 1), (13, iw 1), (14, bF), (15, iw 0), (16, pt p0 0), (17, .agg #[iw 3, iw 1, iw 2]), (18, sl b2 0 1 1), (19, iw 0), (20, .agg #[iw 3, iw 1, iw 2]), (21, .agg #[sl p1 0 1 1]), (22, pt b5 1), (23, iw 1), (24, .agg #[bF, iw 0, .string ⟨#[97, 98, 99, 100]⟩]), (25, .agg #[bF, iw 0, .string ⟨#[97, 98]⟩]), (26, pt b2 0), (27, iw 1)]) (fun _ => [.blk b1 [sl p1 0 1 1] 30, .blk b2 [bF, iw 0, .string ⟨#[97, 98]⟩] 26, .blk b5 [iw 3, iw 1, iw 2] 24]) (fun _ => []) (fun _ => []) [.g []] [3, 4, 5, 6, 7, 11, 12, 13, 14, 15, 16, 17, 18, 19, 20, 21, 22, 23, 24, 25, 26, 27] rfl (fun _ => by kernel_rfl) (fun _ => trivial) (fun _ => ?_)
  refine Ok.segEnd rfl ?_
  refine Ok.thenN ?_
  refine Ok.seq ?_
  refine Ok.condF rfl ?_
  refine Ok.exit_ ?_
  refine Ok.thenE ?_
  refine Ok.thenE ?_
  refine Ok.blkE ?_
  refine Ok.thenN ?_
  refine Ok.seq ?_
  refine Ok.reg ?_
  refine Ok.seg (j := 2) (fun _ => [(4, sl b2 0 1 1)]) (fun _ => [.blk b1 [sl p1 0 1 1] 30, .blk b2 [bF, iw 0, .string ⟨#[97, 98]⟩] 26, .blk b5 [iw 3, iw 1, iw 2] 24]) (fun _ => []) (fun _ => []) [.g [], .g []] [4] rfl (fun _ => by kernel_rfl) (fun _ => trivial) (fun _ => ?_)
  refine Ok.mask [false, true, false] [.blk b2 [bF, iw 0, .string ⟨#[97, 98]⟩] 26] rfl ?_
  refine Ok.segEnd rfl ?_
  refine Ok.thenN ?_
  refine Ok.ret_ ?_
  refine Ok.pubP 0 rfl [] rfl ?_
  intro H18 le19 pf20
  exact Ok.ret1 (v := sl b2 0 1 1) (SLe.trans le8 (SLe.trans le12 le19)) rfl rfl ⟨b2, rfl, pf20⟩
set_option maxRecDepth 100000 in
theorem x5_14 (H : Snap) (p0 : Nat) (hp0 : Pre H p0 [iw 1, bF, iw 0, .string ⟨#[97, 98, 99, 100]⟩]) : Does Tryd.prog 5 [.agg #[iw 3, iw 1, iw 2], .agg #[sl p0 0 1 1]] H [] (fun v H' kp => v = .agg #[bF, iw 0, .string ⟨#[97, 98]⟩]) := by
  refine Does.of Tryd.func5 rfl rfl rfl rfl (fun w0 H0 kx => ?_)
  refine Ok.seq ?_
  refine Ok.reg ?_
  refine Ok.seg (j := 3) (fun b1 => [(2, pt b1 0), (3, pt (b1 + 1) 0), (4, pt (b1 + 1 + 1) 0)]) (fun b1 => [.blk b1 [iw 3, iw 1, iw 2] 24, .blk (b1 + 1) [sl p0 0 1 1] 30, .blk (b1 + 1 + 1) [bF, iw 0, s0] 26]) (fun b1 => []) (fun b1 => []) [.g [.N], .g [.N], .g [.N]] [2, 3, 4] rfl (fun b1 => by kernel_rfl) (fun b1 => trivial) (fun b1 => ?_)
  refine Ok.segEnd rfl ?_
  refine Ok.thenN ?_
  refine Ok.seq ?_
  refine Ok.reg ?_
  refine Ok.seg (j := 3) (fun b2 => [(4, pt (b1 + 1 + 1) 0), (7, sl b2 0 1 1), (8, .agg #[sl p0 0 1 1])]) (fun b2 => [.blk b1 [iw 3, iw 1, iw 2] 24, .blk (b1 + 1) [sl p0 0 1 1] 30, .blk (b1 + 1 + 1) [bF, iw 0, s0] 26, .blk b2 [iw 3, iw 1, iw 2] 24]) (fun b2 => [b1, b1, b1, b1 + 1]) (fun b2 => []) [.g [.K 0 0, .K 0 1, .K 0 2], .g [.N], .g [.K 1 0]] [4, 7, 8] rfl (fun b2 => by kernel_rfl) (fun b2 => trivial) (fun b2 => ?_)
  refine Ok.mask [false, false, true, true] [.blk (b1 + 1 + 1) [bF, iw 0, s0] 26, .blk b2 [iw 3, iw 1, iw 2] 24] rfl ?_
  refine Ok.pubP 1 rfl [.blk (b1 + 1 + 1) [bF, iw 0, s0] 26] rfl ?_
  intro H3 le4 pf5
  refine Ok.eff (j := 4) rfl (Eff.call0 (d := some 9) (by kernel_rfl) (x15_15 H3 b2 p0 pf5 (Pre.mono le4 hp0)) ?_)
  rintro v6 H7 k9 le8 ⟨q10, rfl, pf11⟩
  refine Ok.dropL ?_
  refine Ok.seg (j := 5) (fun _ => [(4, pt (b1 + 1 + 1) 0), (5, sl q10 0 1 1)]) (fun _ => [.blk (b1 + 1 + 1) [bF, iw 0, s0] 26]) (fun _ => []) (fun _ => []) [.g []] [4, 5] rfl (fun _ => by kernel_rfl) (fun _ => trivial) (fun _ => ?_)
  refine Ok.segEnd rfl ?_
  refine Ok.thenN ?_
  refine Ok.seq ?_
  refine Ok.seq ?_
  refine Ok.reg ?_
  refine Ok.seg (j := 3) (fun _ => [(4, pt (b1 + 1 + 1) 0), (5, sl q10 0 1 1), (12, bF)]) (fun _ => [.blk (b1 + 1 + 1) [bF, iw 0, s0] 26]) (fun _ => []) (fun _ => []) [.g [], .g [], .g []] [4, 5, 12] rfl (fun _ => by kernel_rfl) (fun _ => trivial) (fun _ => ?_)
  refine Ok.segEnd rfl ?_
  refine Ok.thenN ?_
  refine Ok.condF rfl ?_
  refine Ok.skip_ ?_
  refine Ok.thenN ?_
  refine Ok.seq ?_
  refine Ok.reg ?_
  refine Ok.seg (j := 4) (fun _ => [(4, pt (b1 + 1 + 1) 0)]) (fun _ => [.blk (b1 + 1 + 1) [bF, iw 0, .string ⟨#[97, 98]⟩] 26]) (fun _ => [b1 + 1 + 1, b1 + 1 + 1, b1 + 1 + 1]) (fun _ => [HasCell H7 ⟨q10, 0, none⟩ (bF), HasCell H7 ⟨q10, 1, none⟩ (iw 0), HasCell H7 ⟨q10, 2, none⟩ (.string ⟨#[97, 98]⟩)]) [.g [], .g [], .g [.X (bF), .X (iw 0), .X (.string ⟨#[97, 98]⟩)], .g [.K 0 0, .K 0 1, .K 0 2]] [4] rfl (fun _ => by kernel_rfl) (fun _ => ⟨Pre.cell pf11 0 rfl, Pre.cell pf11 1 rfl, Pre.cell pf11 2 rfl, trivial⟩) (fun _ => ?_)
  refine Ok.segEnd rfl ?_
  refine Ok.thenN ?_
  refine Ok.ret_ ?_
  exact Ok.ret1c (SLe.trans le4 le8) [.K 0 0, .K 0 1, .K 0 2] (.agg #[bF, iw 0, .string ⟨#[97, 98]⟩]) [b1 + 1 + 1, b1 + 1 + 1, b1 + 1 + 1] rfl (by kernel_rfl) rfl
set_option maxRecDepth 100000 in
theorem x6_19 (H : Snap) : Does Tryd.prog 6 [iw 31] H [] (fun v H' kp => ∃ r0 : Nat, v = .agg #[sl r0 0 1 1] ∧ Pre H' r0 [iw 1, bF, iw 31, s0]) := by
  refine Does.of Tryd.func6 rfl rfl rfl rfl (fun w0 H0 kx => ?_)
  refine Ok.seq ?_
  refine Ok.reg ?_
  refine Ok.seg (j := 1) (fun b1 => [(0, iw 31), (2, pt b1 0)]) (fun b1 => [.blk b1 [n0] 30]) (fun b1 => []) (fun b1 => []) [.g [.N]] [0, 2] rfl (fun b1 => by kernel_rfl) (fun b1 => trivial) (fun b1 => ?_)
  refine Ok.segEnd rfl ?_
  refine Ok.thenN ?_
  refine Ok.seq ?_
  refine Ok.reg ?_
  refine Ok.seg (j := 6) (fun b2 => [(2, pt b1 0)]) (fun b2 => [.blk b1 [sl b2 0 1 1] 30, .blk b2 [iw 1, bF, iw 31, s0] 39]) (fun b2 => [b1]) (fun b2 => []) [.g [], .g [], .g [], .g [.N], .g [], .g [.K 0 0]] [2] rfl (fun b2 => by kernel_rfl) (fun b2 => trivial) (fun b2 => ?_)
  refine Ok.segEnd rfl ?_
  refine Ok.thenN ?_
  refine Ok.ret_ ?_
  refine Ok.pubP 1 rfl [.blk b1 [sl b2 0 1 1] 30] rfl ?_
  intro H3 le4 pf5
  exact Ok.ret1c le4 [.K 0 0] (.agg #[sl b2 0 1 1]) [b1] rfl (by kernel_rfl) ⟨b2, rfl, pf5⟩
set_option maxRecDepth 100000 in
theorem x30_22 (H : Snap) (p0 : Nat) (hp0 : Pre H p0 [iw 1, bF, iw 31, s0]) : Does Tryd.prog 30 [.agg #[sl p0 0 1 1], iw 1] H [] (fun v H' kp => v = .agg #[bF, iw 31, s0]) := by
  refine Does.of Tryd.func30 rfl rfl rfl rfl (fun w0 H0 kx => ?_)
  refine Ok.seq ?_
  refine Ok.reg ?_
  refine Ok.seg (j := 2) (fun b1 => [(1, iw 1), (2, pt b1 0), (4, pt (b1 + 1) 0)]) (fun b1 => [.blk b1 [sl p0 0 1 1] 30, .blk (b1 + 1) [bF, iw 0, s0] 26]) (fun b1 => []) (fun b1 => []) [.g [.N], .g [.N]] [1, 2, 4] rfl (fun b1 => by kernel_rfl) (fun b1 => trivial) (fun b1 => ?_)
  refine Ok.segEnd rfl ?_
  refine Ok.thenN ?_
  refine Ok.seq ?_
  refine Ok.seq ?_
  refine Ok.reg ?_
  refine Ok.seg (j := 4) (fun _ => [(1, iw 1), (4, pt (b1 + 1) 0), (8, sl p0 0 1 1), (9, iw 1), (10, iw 0)]) (fun _ => [.blk b1 [sl p0 0 1 1] 30, .blk (b1 + 1) [bF, iw 0, s0] 26]) (fun _ => [b1]) (fun _ => []) [.g [], .g [.K 0 0], .g [], .g []] [1, 4, 8, 9, 10] rfl (fun _ => by kernel_rfl) (fun _ => trivial) (fun _ => ?_)
  refine Ok.segEnd rfl ?_
  refine Ok.thenN ?_
  refine Ok.blk ?_
  refine Ok.loopN 1 ?_
  refine Ok.round ?_
  refine Ok.seq ?_
  refine Ok.reg ?_
  refine Ok.seg (j := 1) (fun _ => [(1, iw 1), (4, pt (b1 + 1) 0), (8, sl p0 0 1 1), (9, iw 1), (10, iw 0), (11, bT)]) (fun _ => [.blk b1 [sl p0 0 1 1] 30, .blk (b1 + 1) [bF, iw 0, s0] 26]) (fun _ => []) (fun _ => []) [.g []] [1, 4, 8, 9, 10, 11] rfl (fun _ => by kernel_rfl) (fun _ => trivial) (fun _ => ?_)
  refine Ok.segEnd rfl ?_
  refine Ok.thenN ?_
  refine Ok.seq ?_
  refine Ok.condT rfl ?_
  refine Ok.skip_ ?_
  refine Ok.thenN ?_
  refine Ok.seq ?_
  refine Ok.blk ?_
  refine Ok.seq ?_
  refine Ok.reg ?_
  refine Ok.seg (j := 4) (fun b4 => [(1, iw 1), (4, pt (b1 + 1) 0), (6, pt b4 0), (8, sl p0 0 1 1), (9, iw 1), (10, iw 0), (11, bT), (12, pt p0 0), (13, .agg #[iw 1, bF, iw 31, s0])]) (fun b4 => [.blk b1 [sl p0 0 1 1] 30, .blk (b1 + 1) [bF, iw 0, s0] 26, .blk b4 [iw 1, bF, iw 31, s0] 39]) (fun b4 => [b4, b4, b4, b4]) (fun b4 => [HasCell H ⟨p0, 0, none⟩ (iw 1), HasCell H ⟨p0, 1, none⟩ (bF), HasCell H ⟨p0, 2, none⟩ (iw 31), HasCell H ⟨p0, 3, none⟩ (s0)]) [.g [], .g [.X (iw 1), .X (bF), .X (iw 31), .X (s0)], .g [.N], .g [.K 2 0, .K 2 1, .K 2 2, .K 2 3]] [1, 4, 6, 8, 9, 10, 11, 12, 13] rfl (fun b4 => by kernel_rfl) (fun b4 => ⟨Pre.cell hp0 0 rfl, Pre.cell hp0 1 rfl, Pre.cell hp0 2 rfl, Pre.cell hp0 3 rfl, trivial⟩) (fun b4 => ?_)
  refine Ok.segEnd rfl ?_
  refine Ok.thenN ?_
  refine Ok.seq ?_
  refine Ok.reg ?_
  refine Ok.seg (j := 4) (fun _ => [(1, iw 1), (4, pt (b1 + 1) 0), (6, pt b4 0), (8, sl p0 0 1 1), (9, iw 1), (10, iw 0), (11, bT), (12, pt p0 0), (13, .agg #[iw 1, bF, iw 31, s0]), (14, pt b4 0), (15, iw 1), (16, iw 1), (17, bT)]) (fun _ => [.blk b1 [sl p0 0 1 1] 30, .blk (b1 + 1) [bF, iw 0, s0] 26, .blk b4 [iw 1, bF, iw 31, s0] 39]) (fun _ => [b4]) (fun _ => []) [.g [], .g [.K 2 0], .g [], .g []] [1, 4, 6, 8, 9, 10, 11, 12, 13, 14, 15, 16, 17] rfl (fun _ => by kernel_rfl) (fun _ => trivial) (fun _ => ?_)
  refine Ok.segEnd rfl ?_
  refine Ok.thenN ?_
  refine Ok.condT rfl ?_
  refine Ok.seq ?_
  refine Ok.reg ?_
  refine Ok.seg (j := 3) (fun _ => [(1, iw 1), (4, pt (b1 + 1) 0), (6, pt b4 0), (8, sl p0 0 1 1), (9, iw 1), (10, iw 0), (11, bT), (12, pt p0 0), (13, .agg #[iw 1, bF, iw 31, s0]), (14, pt b4 0), (15, iw 1), (16, iw 1), (17, bT), (18, pt b4 1), (19, .agg #[bF, iw 31, s0])]) (fun _ => [.blk b1 [sl p0 0 1 1] 30, .blk (b1 + 1) [bF, iw 31, s0] 26, .blk b4 [iw 1, bF, iw 31, s0] 39]) (fun _ => [b4, b4, b4, b1 + 1, b1 + 1, b1 + 1]) (fun _ => []) [.g [], .g [.K 2 1, .K 2 2, .K 2 3], .g [.K 1 0, .K 1 1, .K 1 2]] [1, 4, 6, 8, 9, 10, 11, 12, 13, 14, 15, 16, 17, 18, 19] rfl (fun _ => by kernel_rfl) (fun _ => trivial) (fun _ => ?_)
  refine Ok.segEnd rfl ?_
  refine Ok.thenN ?_
  refine Ok.ret_ ?_
  refine Ok.blkR ?_
  refine Ok.thenR ?_
  refine Ok.thenR ?_
  refine Ok.blkR ?_
  refine Ok.thenR ?_
  exact Ok.ret1c (SLe.refl _) [.K 1 0, .K 1 1, .K 1 2] (.agg #[bF, iw 31, s0]) [b1 + 1, b1 + 1, b1 + 1] rfl (by kernel_rfl) rfl
set_option maxRecDepth 100000 in
theorem x55_24 (H : Snap) : Does Tryd.prog 55 [iw 31] H [] (fun v H' kp => v = iw 1) := by
  refine Does.of Tryd.func55 rfl rfl rfl rfl (fun w0 H0 kx => ?_)
  refine Ok.seq ?_
  refine Ok.reg ?_
  refine Ok.seg (j := 1) (fun _ => [(0, iw 31), (2, iw 0)]) (fun _ => []) (fun _ => []) (fun _ => []) [.g []] [0, 2] rfl (fun _ => by kernel_rfl) (fun _ => trivial) (fun _ => ?_)
  refine Ok.segEnd rfl ?_
  refine Ok.thenN ?_
  refine Ok.seq ?_
  refine Ok.reg ?_
  refine Ok.seg (j := 4) (fun _ => [(0, iw 31), (2, iw 0)]) (fun _ => []) (fun _ => []) (fun _ => []) [.g [], .g [], .g [], .g []] [0, 2] rfl (fun _ => by kernel_rfl) (fun _ => trivial) (fun _ => ?_)
  refine Ok.segEnd rfl ?_
  refine Ok.thenN ?_
  refine Ok.seq ?_
  refine Ok.reg ?_
  refine Ok.seg (j := 3) (fun _ => [(0, iw 719499), (2, iw 0)]) (fun _ => []) (fun _ => []) (fun _ => []) [.g [], .g [], .g []] [0, 2] rfl (fun _ => by kernel_rfl) (fun _ => trivial) (fun _ => ?_)
  refine Ok.segEnd rfl ?_
  refine Ok.thenN ?_
  refine Ok.seq ?_
  refine Ok.reg ?_
  refine Ok.seg (j := 3) (fun _ => [(0, iw 719499), (2, iw 0), (3, iw 4)]) (fun _ => []) (fun _ => []) (fun _ => []) [.g [], .g [], .g []] [0, 2, 3] rfl (fun _ => by kernel_rfl) (fun _ => trivial) (fun _ => ?_)
  refine Ok.segEnd rfl ?_
  refine Ok.thenN ?_
  refine Ok.seq ?_
  refine Ok.seq ?_
  refine Ok.reg ?_
  refine Ok.seg (j := 2) (fun _ => [(0, iw 719499), (2, iw 0), (3, iw 4), (16, bF)]) (fun _ => []) (fun _ => []) (fun _ => []) [.g [], .g []] [0, 2, 3, 16] rfl (fun _ => by kernel_rfl) (fun _ => trivial) (fun _ => ?_)
  refine Ok.segEnd rfl ?_
  refine Ok.thenN ?_
  refine Ok.condF rfl ?_
  refine Ok.skip_ ?_
  refine Ok.thenN ?_
  refine Ok.seq ?_
  refine Ok.reg ?_
  refine Ok.seg (j := 5) (fun _ => [(2, iw 0), (3, iw 4), (4, iw 135111)]) (fun _ => []) (fun _ => []) (fun _ => []) [.g [], .g [], .g [], .g [], .g []] [2, 3, 4] rfl (fun _ => by kernel_rfl) (fun _ => trivial) (fun _ => ?_)
  refine Ok.segEnd rfl ?_
  refine Ok.thenN ?_
  refine Ok.seq ?_
  refine Ok.reg ?_
  refine Ok.seg (j := 12) (fun _ => [(2, iw 0), (3, iw 4), (4, iw 135111), (5, iw 369)]) (fun _ => []) (fun _ => []) (fun _ => []) [.g [], .g [], .g [], .g [], .g [], .g [], .g [], .g [], .g [], .g [], .g [], .g []] [2, 3, 4, 5] rfl (fun _ => by kernel_rfl) (fun _ => trivial) (fun _ => ?_)
  refine Ok.segEnd rfl ?_
  refine Ok.thenN ?_
  refine Ok.seq ?_
  refine Ok.reg ?_
  refine Ok.seg (j := 11) (fun _ => [(2, iw 0), (3, iw 4), (5, iw 369), (6, iw 337)]) (fun _ => []) (fun _ => []) (fun _ => []) [.g [], .g [], .g [], .g [], .g [], .g [], .g [], .g [], .g [], .g [], .g []] [2, 3, 5, 6] rfl (fun _ => by kernel_rfl) (fun _ => trivial) (fun _ => ?_)
  refine Ok.segEnd rfl ?_
  refine Ok.thenN ?_
  refine Ok.seq ?_
  refine Ok.reg ?_
  refine Ok.seg (j := 5) (fun _ => [(2, iw 0), (3, iw 4), (5, iw 369), (7, iw 11)]) (fun _ => []) (fun _ => []) (fun _ => []) [.g [], .g [], .g [], .g [], .g []] [2, 3, 5, 7] rfl (fun _ => by kernel_rfl) (fun _ => trivial) (fun _ => ?_)
  refine Ok.segEnd rfl ?_
  refine Ok.thenN ?_
  refine Ok.seq ?_
  refine Ok.reg ?_
  refine Ok.seg (j := 10) (fun _ => [(2, iw 1)]) (fun _ => []) (fun _ => []) (fun _ => []) [.g [], .g [], .g [], .g [], .g [], .g [], .g [], .g [], .g [], .g []] [2] rfl (fun _ => by kernel_rfl) (fun _ => trivial) (fun _ => ?_)
  refine Ok.segEnd rfl ?_
  refine Ok.thenN ?_
  refine Ok.ret_ ?_
  exact Ok.ret1 (v := iw 1) (SLe.refl _) rfl rfl rfl
set_option maxRecDepth 100000 in
theorem x29_23 (H : Snap) : Does Tryd.prog 29 [.agg #[iw 5, iw 1, iw 0], .agg #[bF, iw 31, s0]] H [] (fun v H' kp => v = .agg #[bF, iw 1, s0]) := by
  refine Does.of Tryd.func29 rfl rfl rfl rfl (fun w0 H0 kx => ?_)
  refine Ok.seq ?_
  refine Ok.reg ?_
  refine Ok.seg (j := 3) (fun b1 => [(2, pt b1 0), (3, pt (b1 + 1) 0), (4, pt (b1 + 1 + 1) 0)]) (fun b1 => [.blk b1 [iw 5, iw 1, iw 0] 24, .blk (b1 + 1) [bF, iw 31, s0] 26, .blk (b1 + 1 + 1) [bF, iw 0, s0] 26]) (fun b1 => []) (fun b1 => []) [.g [.N], .g [.N], .g [.N]] [2, 3, 4] rfl (fun b1 => by kernel_rfl) (fun b1 => trivial) (fun b1 => ?_)
  refine Ok.segEnd rfl ?_
  refine Ok.thenN ?_
  refine Ok.seq ?_
  refine Ok.seq ?_
  refine Ok.reg ?_
  refine Ok.seg (j := 2) (fun _ => [(2, pt b1 0), (3, pt (b1 + 1) 0), (4, pt (b1 + 1 + 1) 0), (10, bF)]) (fun _ => [.blk b1 [iw 5, iw 1, iw 0] 24, .blk (b1 + 1) [bF, iw 31, s0] 26, .blk (b1 + 1 + 1) [bF, iw 0, s0] 26]) (fun _ => [b1 + 1]) (fun _ => []) [.g [], .g [.K 1 0]] [2, 3, 4, 10] rfl (fun _ => by kernel_rfl) (fun _ => trivial) (fun _ => ?_)
  refine Ok.segEnd rfl ?_
  refine Ok.thenN ?_
  refine Ok.condF rfl ?_
  refine Ok.skip_ ?_
  refine Ok.thenN ?_
  refine Ok.seq ?_
  refine Ok.seq ?_
  refine Ok.reg ?_
  refine Ok.seg (j := 2) (fun _ => [(2, pt b1 0), (3, pt (b1 + 1) 0), (4, pt (b1 + 1 + 1) 0), (13, iw 5)]) (fun _ => [.blk b1 [iw 5, iw 1, iw 0] 24, .blk (b1 + 1) [bF, iw 31, s0] 26, .blk (b1 + 1 + 1) [bF, iw 0, s0] 26]) (fun _ => [b1]) (fun _ => []) [.g [], .g [.K 0 0]] [2, 3, 4, 13] rfl (fun _ => by kernel_rfl) (fun _ => trivial) (fun _ => ?_)
  refine Ok.segEnd rfl ?_
  refine Ok.thenN ?_
  refine Ok.blk ?_
  refine Ok.seq ?_
  refine Ok.reg ?_
  refine Ok.seg (j := 2) (fun _ => [(2, pt b1 0), (3, pt (b1 + 1) 0), (4, pt (b1 + 1 + 1) 0), (13, iw 5), (14, bF)]) (fun _ => [.blk b1 [iw 5, iw 1, iw 0] 24, .blk (b1 + 1) [bF, iw 31, s0] 26, .blk (b1 + 1 + 1) [bF, iw 0, s0] 26]) (fun _ => []) (fun _ => []) [.g [], .g []] [2, 3, 4, 13, 14] rfl (fun _ => by kernel_rfl) (fun _ => trivial) (fun _ => ?_)
  refine Ok.segEnd rfl ?_
  refine Ok.thenN ?_
  refine Ok.condF rfl ?_
  refine Ok.seq ?_
  refine Ok.reg ?_
  refine Ok.seg (j := 2) (fun _ => [(2, pt b1 0), (3, pt (b1 + 1) 0), (4, pt (b1 + 1 + 1) 0), (13, iw 5), (45, bF)]) (fun _ => [.blk b1 [iw 5, iw 1, iw 0] 24, .blk (b1 + 1) [bF, iw 31, s0] 26, .blk (b1 + 1 + 1) [bF, iw 0, s0] 26]) (fun _ => []) (fun _ => []) [.g [], .g []] [2, 3, 4, 13, 45] rfl (fun _ => by kernel_rfl) (fun _ => trivial) (fun _ => ?_)
  refine Ok.segEnd rfl ?_
  refine Ok.thenN ?_
  refine Ok.condF rfl ?_
  refine Ok.seq ?_
  refine Ok.reg ?_
  refine Ok.seg (j := 2) (fun _ => [(3, pt (b1 + 1) 0), (4, pt (b1 + 1 + 1) 0), (62, bT)]) (fun _ => [.blk b1 [iw 5, iw 1, iw 0] 24, .blk (b1 + 1) [bF, iw 31, s0] 26, .blk (b1 + 1 + 1) [bF, iw 0, s0] 26]) (fun _ => []) (fun _ => []) [.g [], .g []] [3, 4, 62] rfl (fun _ => by kernel_rfl) (fun _ => trivial) (fun _ => ?_)
  refine Ok.segEnd rfl ?_
  refine Ok.thenN ?_
  refine Ok.condT rfl ?_
  refine Ok.seq ?_
  refine Ok.reg ?_
  refine Ok.seg (j := 2) (fun _ => [(3, pt (b1 + 1) 0), (4, pt (b1 + 1 + 1) 0), (65, iw 31)]) (fun _ => [.blk b1 [iw 5, iw 1, iw 0] 24, .blk (b1 + 1) [bF, iw 31, s0] 26, .blk (b1 + 1 + 1) [bF, iw 0, s0] 26]) (fun _ => [b1 + 1]) (fun _ => []) [.g [], .g [.K 1 1]] [3, 4, 65] rfl (fun _ => by kernel_rfl) (fun _ => trivial) (fun _ => ?_)
  refine Ok.eff (j := 3) rfl (Eff.call0 (d := some 66) (by kernel_rfl) (x55_24 H) ?_)
  rintro v8 H9 k11 le10 rfl
  refine Ok.dropL ?_
  refine Ok.seg (j := 5) (fun _ => [(3, pt (b1 + 1) 0), (4, pt (b1 + 1 + 1) 0)]) (fun _ => [.blk b1 [iw 5, iw 1, iw 0] 24, .blk (b1 + 1) [bF, iw 31, s0] 26, .blk (b1 + 1 + 1) [bF, iw 1, s0] 26]) (fun _ => [b1 + 1 + 1, b1 + 1 + 1, b1 + 1 + 1]) (fun _ => []) [.g [], .g [.K 2 0, .K 2 1, .K 2 2]] [3, 4] rfl (fun _ => by kernel_rfl) (fun _ => trivial) (fun _ => ?_)
  refine Ok.segEnd rfl ?_
  refine Ok.thenN ?_
  refine Ok.ret_ ?_
  refine Ok.blkR ?_
  refine Ok.thenR ?_
  exact Ok.ret1c le10 [.K 2 0, .K 2 1, .K 2 2] (.agg #[bF, iw 1, s0]) [b1 + 1 + 1, b1 + 1 + 1, b1 + 1 + 1] rfl (by kernel_rfl) rfl
set_option maxRecDepth 100000 in
theorem x15_21 (H : Snap) (p0 p1 : Nat) (hp0 : Pre H p0 [iw 5, iw 1, iw 0]) (hp1 : Pre H p1 [iw 1, bF, iw 31, s0]) : Does Tryd.prog 15 [sl p0 0 1 1, .agg #[sl p1 0 1 1]] H [] (fun v H' kp => ∃ r0 : Nat, v = sl r0 0 1 1 ∧ Pre H' r0 [bF, iw 1, s0]) := by
  refine Does.of Tryd.func15 rfl rfl rfl rfl (fun w0 H0 kx => ?_)
  refine Ok.seq ?_
  refine Ok.reg ?_
  refine Ok.seg (j := 2) (fun b1 => [(0, sl p0 0 1 1), (3, pt b1 0), (4, n0)]) (fun b1 => [.blk b1 [sl p1 0 1 1] 30]) (fun b1 => []) (fun b1 => []) [.g [.N], .g []] [0, 3, 4] rfl (fun b1 => by kernel_rfl) (fun b1 => trivial) (fun b1 => ?_)
  refine Ok.segEnd rfl ?_
  refine Ok.thenN ?_
  refine Ok.seq ?_
  refine Ok.reg ?_
  refine Ok.seg (j := 4) (fun b2 => [(0, sl p0 0 1 1), (3, pt b1 0), (4, n0), (5, sl b2 0 1 1)]) (fun b2 => [.blk b1 [sl p1 0 1 1] 30, .blk b2 [bF, iw 0, s0] 26]) (fun b2 => []) (fun b2 => []) [.g [], .g [], .g [.N], .g []] [0, 3, 4, 5] rfl (fun b2 => by kernel_rfl) (fun b2 => trivial) (fun b2 => ?_)
  refine Ok.segEnd rfl ?_
  refine Ok.thenN ?_
  refine Ok.seq ?_
  refine Ok.seq ?_
  refine Ok.reg ?_
  refine Ok.seg (j := 3) (fun _ => [(3, pt b1 0), (4, n0), (5, sl b2 0 1 1), (11, sl p0 0 1 1), (12, iw 1), (13, iw 0)]) (fun _ => [.blk b1 [sl p1 0 1 1] 30, .blk b2 [bF, iw 0, s0] 26]) (fun _ => []) (fun _ => []) [.g [], .g [], .g []] [3, 4, 5, 11, 12, 13] rfl (fun _ => by kernel_rfl) (fun _ => trivial) (fun _ => ?_)
  refine Ok.segEnd rfl ?_
  refine Ok.thenN ?_
  refine Ok.blk ?_
  refine Ok.loopN 2 ?_
  refine Ok.round ?_
  refine Ok.seq ?_
  refine Ok.reg ?_
  refine Ok.seg (j := 1) (fun _ => [(3, pt b1 0), (4, n0), (5, sl b2 0 1 1), (11, sl p0 0 1 1), (12, iw 1), (13, iw 0), (14, bT)]) (fun _ => [.blk b1 [sl p1 0 1 1] 30, .blk b2 [bF, iw 0, s0] 26]) (fun _ => []) (fun _ => []) [.g []] [3, 4, 5, 11, 12, 13, 14] rfl (fun _ => by kernel_rfl) (fun _ => trivial) (fun _ => ?_)
  refine Ok.segEnd rfl ?_
  refine Ok.thenN ?_
  refine Ok.seq ?_
  refine Ok.condT rfl ?_
  refine Ok.skip_ ?_
  refine Ok.thenN ?_
  refine Ok.seq ?_
  refine Ok.blk ?_
  refine Ok.seq ?_
  refine Ok.reg ?_
  refine Ok.seg (j := 6) (fun b5 => [(3, pt b1 0), (4, n0), (5, sl b2 0 1 1), (6, iw 0), (7, pt b5 0), (11, sl p0 0 1 1), (12, iw 1), (13, iw 0), (14, bT), (15, iw 0), (16, pt p0 0), (17, .agg #[iw 5, iw 1, iw 0])]) (fun b5 => [.blk b1 [sl p1 0 1 1] 30, .blk b2 [bF, iw 0, s0] 26, .blk b5 [iw 5, iw 1, iw 0] 24]) (fun b5 => [b5, b5, b5]) (fun b5 => [HasCell H ⟨p0, 0, none⟩ (iw 5), HasCell H ⟨p0, 1, none⟩ (iw 1), HasCell H ⟨p0, 2, none⟩ (iw 0)]) [.g [], .g [], .g [.X (iw 5), .X (iw 1), .X (iw 0)], .g [.N], .g [], .g [.K 2 0, .K 2 1, .K 2 2]] [3, 4, 5, 6, 7, 11, 12, 13, 14, 15, 16, 17] rfl (fun b5 => by kernel_rfl) (fun b5 => ⟨Pre.cell hp0 0 rfl, Pre.cell hp0 1 rfl, Pre.cell hp0 2 rfl, trivial⟩) (fun b5 => ?_)
  refine Ok.segEnd rfl ?_
  refine Ok.thenN ?_
  refine Ok.start (idx := [0, 2]) [] [.blk b1 [sl p1 0 1 1] 30, .blk b5 [iw 5, iw 1, iw 0] 24] (by kernel_rfl) rfl rfl rfl ?_
  refine Ok.take (fuel' := 4) (l' := [true, true, true, true, true, true, false, false, false, false]) (qs := [(0, .g []), (1, .g []), (2, .g [.K 1 0, .K 1 1, .K 1 2]), (3, .g [.K 0 0]), (4, .g []), (5, .g [.K 1 1])]) [(3, pt b1 0), (4, n0), (5, sl b2 0 1 1), (6, iw 0), (7, pt b5 0), (11, sl p0 0 1 1), (12, iw 1), (13, iw 0), (14, bT), (15, iw 0), (16, pt p0 0), (17, .agg #[iw 5, iw 1, iw 0]), (18, sl b2 0 1 1), (19, iw 0), (20, .agg #[iw 5, iw 1, iw 0]), (21, .agg #[sl p1 0 1 1]), (22, pt b5 1), (23, iw 1)] [b5, b5, b5, b1, b5] [] [3, 4, 5, 6, 7, 11, 12, 13, 14, 15, 16, 17, 18, 19, 20, 21, 22, 23] (by intro c a w d v h; cases d <;> exact h) (by kernel_rfl) rfl trivial ?_
  refine Ok.one (i := 6) (fuel' := 3) (l' := [true, true, true, true, true, true, true, false, false, false]) (by kernel_rfl) rfl rfl (Eff.call0 (d := some 24) (by kernel_rfl) (x30_22 H p1 hp1) ?_)
  rintro v6 H7 k9 le8 rfl
  refine Ok.dropL ?_
  refine Ok.withS (idx := [0, 2]) le8 rfl ?_
  refine Ok.one (i := 7) (fuel' := 2) (l' := [true, true, true, true, true, true, true, true, false, false]) (by kernel_rfl) rfl rfl (Eff.call0 (d := some 25) (by kernel_rfl) (x29_23 H7) ?_)
  rintro v10 H11 k13 le12 rfl
  refine Ok.dropL ?_
  refine Ok.withS (idx := [0, 2]) (SLe.trans le8 le12) rfl ?_
  refine Ok.take (fuel' := 1) (l' := [true, true, true, true, true, true, true, true, true, false]) (qs := [(8, .g [])]) [(3, pt b1 0), (4, n0), (5, sl b2 0 1 1), (6, iw 0), (7, pt b5 0), (11, sl p0 0 1 1), (12, iw 1), (13, iw 0), (14, bT), (15, iw 0), (16, pt p0 0), (17, .agg #[iw 5, iw 1, iw 0]), (18, sl b2 0 1 1), (19, iw 0), (20, .agg #[iw 5, iw 1, iw 0]), (21, .agg #[sl p1 0 1 1]), (22, pt b5 1), (23, iw 1), (24, .agg #[bF, iw 31, s0]), (25, .agg #[bF, iw 1, s0]), (26, pt b2 0)] [] [] [3, 4, 5, 6, 7, 11, 12, 13, 14, 15, 16, 17, 18, 19, 20, 21, 22, 23, 24, 25, 26] (by intro c a w d v h; cases d <;> exact h) (by kernel_rfl) rfl trivial ?_
  refine Ok.one (i := 9) (fuel' := 0) (l' := [true, true, true, true, true, true, true, true, true, true]) (by kernel_rfl) rfl rfl (Eff.op (.g [.K 1 0, .K 1 1, .K 1 2]) (fun _ => [(3, pt b1 0), (4, n0), (5, sl b2 0 1 1), (6, iw 0), (7, pt b5 0), (11, sl p0 0 1 1), (12, iw 1), (13, iw 0), (14, bT), (15, iw 0), (16, pt p0 0), (17, .agg #[iw 5, iw 1, iw 0]), (18, sl b2 0 1 1), (19, iw 0), (20, .agg #[iw 5, iw 1, iw 0]), (21, .agg #[sl p1 0 1 1]), (22, pt b5 1), (23, iw 1), (24, .agg #[bF, iw 31, s0]), (25, .agg #[bF, iw 1, s0]), (26, pt b2 0)]) (fun _ => [.blk b1 [sl p1 0 1 1] 30, .blk b2 [bF, iw 1, s0] 26, .blk b5 [iw 5, iw 1, iw 0] 24]) (fun _ => [b2, b2, b2]) (fun _ => []) [3, 4, 5, 6, 7, 11, 12, 13, 14, 15, 16, 17, 18, 19, 20, 21, 22, 23, 24, 25, 26] (fun _ => by kernel_rfl) (fun _ => trivial) (fun _ => ?_))
  refine Ok.withS (idx := [0, 2]) (SLe.trans le8 le12) rfl ?_
  refine Ok.done (by kernel_rfl) ?_
  refine Ok.blkN ?_
  refine Ok.thenN ?_
  refine Ok.reg ?_
  refine Ok.seg (j := 2) (fun _ => [(3, pt b1 0), (4, n0), (5, sl b2 0 1 1), (6, iw 0), (7, pt b5 0), (11, sl p0 0 1 1), (12, iw 1), (13, iw 1), (14, bT), (15, iw 0), (16, pt p0 0), (17, .agg #[iw 5, iw 1, iw 0]), (18, sl b2 0 1 1), (19, iw 0), (20, .agg #[iw 5, iw 1, iw 0]), (21, .agg #[sl p1 0 1 1]), (22, pt b5 1), (23, iw 1), (24, .agg #[bF, iw 31, s0]), (25, .agg #[bF, iw 1, s0]), (26, pt b2 0), (27, iw 1)]) (fun _ => [.blk b1 [sl p1 0 1 1] 30, .blk b2 [bF, iw 1, s0] 26, .blk b5 [iw 5, iw 1, iw 0] 24]) (fun _ => []) (fun _ => []) [.g [], .g []] [3, 4, 5, 6, 7, 11, 12, 13, 14, 15, 16, 17, 18, 19, 20, 21, 22, 23, 24, 25, 26, 27] rfl (fun _ => by kernel_rfl) (fun _ => trivial) (fun _ => ?_)
  refine Ok.segEnd rfl ?_
  refine Ok.thenN ?_
  refine Ok.round ?_
  refine Ok.seq ?_
  refine Ok.reg ?_
  refine Ok.seg (j := 1) (fun _ => [(3, pt b1 0), (4, n0), (5, sl b2 0 1 1), (6, iw 0), (7, pt b5 0), (11, sl p0 0 1 1), (12, iw 1), (13, iw 1), (14, bF), (15, iw 0), (16, pt p0 0), (17, .agg #[iw 5, iw 1, iw 0]), (18, sl b2 0 1 1), (19, iw 0), (20, .agg #[iw 5, iw 1, iw 0]), (21, .agg #[sl p1 0 1 1]), (22, pt b5 1), (23, iw 1), (24, .agg #[bF, iw 31, s0]), (25, .agg #[bF, iw 1, s0]), (26, pt b2 0), (27, iw 1)]) (fun _ => [.blk b1 [sl p1 0 1 1] 30, .blk b2 [bF, iw 1, s0] 26, .blk b5 [iw 5, iw 1, iw 0] 24]) (fun _ => []) (fun _ => []) [.g []] [3, 4, 5, 6, 7, 11, 12, 13, 14, 15, 16, 17, 18, 19, 20, 21, 22, 23, 24, 25, 26, 27] rfl (fun _ => by kernel_rfl) (fun _ => trivial) (fun _ => ?_)
  refine Ok.segEnd rfl ?_
  refine Ok.thenN ?_
  refine Ok.seq ?_
  refine Ok.condF rfl ?_
  refine Ok.exit_ ?_
  refine Ok.thenE ?_
  refine Ok.thenE ?_
  refine Ok.blkE ?_
  refine Ok.thenN ?_
  refine Ok.seq ?_
  refine Ok.reg ?_
  refine Ok.seg (j := 2) (fun _ => [(4, sl b2 0 1 1)]) (fun _ => [.blk b1 [sl p1 0 1 1] 30, .blk b2 [bF, iw 1, s0] 26, .blk b5 [iw 5, iw 1, iw 0] 24]) (fun _ => []) (fun _ => []) [.g [], .g []] [4] rfl (fun _ => by kernel_rfl) (fun _ => trivial) (fun _ => ?_)
  refine Ok.mask [false, true, false] [.blk b2 [bF, iw 1, s0] 26] rfl ?_
  refine Ok.segEnd rfl ?_
  refine Ok.thenN ?_
  refine Ok.ret_ ?_
  refine Ok.pubP 0 rfl [] rfl ?_
  intro H18 le19 pf20
  exact Ok.ret1 (v := sl b2 0 1 1) (SLe.trans le8 (SLe.trans le12 le19)) rfl rfl ⟨b2, rfl, pf20⟩
set_option maxRecDepth 100000 in
theorem x5_20 (H : Snap) (p0 : Nat) (hp0 : Pre H p0 [iw 1, bF, iw 31, s0]) : Does Tryd.prog 5 [.agg #[iw 5, iw 1, iw 0], .agg #[sl p0 0 1 1]] H [] (fun v H' kp => v = .agg #[bF, iw 1, s0]) := by
  refine Does.of Tryd.func5 rfl rfl rfl rfl (fun w0 H0 kx => ?_)
  refine Ok.seq ?_
  refine Ok.reg ?_
  refine Ok.seg (j := 3) (fun b1 => [(2, pt b1 0), (3, pt (b1 + 1) 0), (4, pt (b1 + 1 + 1) 0)]) (fun b1 => [.blk b1 [iw 5, iw 1, iw 0] 24, .blk (b1 + 1) [sl p0 0 1 1] 30, .blk (b1 + 1 + 1) [bF, iw 0, s0] 26]) (fun b1 => []) (fun b1 => []) [.g [.N], .g [.N], .g [.N]] [2, 3, 4] rfl (fun b1 => by kernel_rfl) (fun b1 => trivial) (fun b1 => ?_)
  refine Ok.segEnd rfl ?_
  refine Ok.thenN ?_
  refine Ok.seq ?_
  refine Ok.reg ?_
  refine Ok.seg (j := 3) (fun b2 => [(4, pt (b1 + 1 + 1) 0), (7, sl b2 0 1 1), (8, .agg #[sl p0 0 1 1])]) (fun b2 => [.blk b1 [iw 5, iw 1, iw 0] 24, .blk (b1 + 1) [sl p0 0 1 1] 30, .blk (b1 + 1 + 1) [bF, iw 0, s0] 26, .blk b2 [iw 5, iw 1, iw 0] 24]) (fun b2 => [b1, b1, b1, b1 + 1]) (fun b2 => []) [.g [.K 0 0, .K 0 1, .K 0 2], .g [.N], .g [.K 1 0]] [4, 7, 8] rfl (fun b2 => by kernel_rfl) (fun b2 => trivial) (fun b2 => ?_)
  refine Ok.mask [false, false, true, true] [.blk (b1 + 1 + 1) [bF, iw 0, s0] 26, .blk b2 [iw 5, iw 1, iw 0] 24] rfl ?_
  refine Ok.pubP 1 rfl [.blk (b1 + 1 + 1) [bF, iw 0, s0] 26] rfl ?_
  intro H3 le4 pf5
  refine Ok.eff (j := 4) rfl (Eff.call0 (d := some 9) (by kernel_rfl) (x15_21 H3 b2 p0 pf5 (Pre.mono le4 hp0)) ?_)
  rintro v6 H7 k9 le8 ⟨q10, rfl, pf11⟩
  refine Ok.dropL ?_
  refine Ok.seg (j := 5) (fun _ => [(4, pt (b1 + 1 + 1) 0), (5, sl q10 0 1 1)]) (fun _ => [.blk (b1 + 1 + 1) [bF, iw 0, s0] 26]) (fun _ => []) (fun _ => []) [.g []] [4, 5] rfl (fun _ => by kernel_rfl) (fun _ => trivial) (fun _ => ?_)
  refine Ok.segEnd rfl ?_
  refine Ok.thenN ?_
  refine Ok.seq ?_
  refine Ok.seq ?_
  refine Ok.reg ?_
  refine Ok.seg (j := 3) (fun _ => [(4, pt (b1 + 1 + 1) 0), (5, sl q10 0 1 1), (12, bF)]) (fun _ => [.blk (b1 + 1 + 1) [bF, iw 0, s0] 26]) (fun _ => []) (fun _ => []) [.g [], .g [], .g []] [4, 5, 12] rfl (fun _ => by kernel_rfl) (fun _ => trivial) (fun _ => ?_)
  refine Ok.segEnd rfl ?_
  refine Ok.thenN ?_
  refine Ok.condF rfl ?_
  refine Ok.skip_ ?_
  refine Ok.thenN ?_
  refine Ok.seq ?_
  refine Ok.reg ?_
  refine Ok.seg (j := 4) (fun _ => [(4, pt (b1 + 1 + 1) 0)]) (fun _ => [.blk (b1 + 1 + 1) [bF, iw 1, s0] 26]) (fun _ => [b1 + 1 + 1, b1 + 1 + 1, b1 + 1 + 1]) (fun _ => [HasCell H7 ⟨q10, 0, none⟩ (bF), HasCell H7 ⟨q10, 1, none⟩ (iw 1), HasCell H7 ⟨q10, 2, none⟩ (s0)]) [.g [], .g [], .g [.X (bF), .X (iw 1), .X (s0)], .g [.K 0 0, .K 0 1, .K 0 2]] [4] rfl (fun _ => by kernel_rfl) (fun _ => ⟨Pre.cell pf11 0 rfl, Pre.cell pf11 1 rfl, Pre.cell pf11 2 rfl, trivial⟩) (fun _ => ?_)
  refine Ok.segEnd rfl ?_
  refine Ok.thenN ?_
  refine Ok.ret_ ?_
  exact Ok.ret1c (SLe.trans le4 le8) [.K 0 0, .K 0 1, .K 0 2] (.agg #[bF, iw 1, s0]) [b1 + 1 + 1, b1 + 1 + 1, b1 + 1 + 1] rfl (by kernel_rfl) rfl
set_option maxRecDepth 100000 in
theorem x55_28 (H : Snap) : Does Tryd.prog 55 [iw (-1)] H [] (fun v H' kp => v = iw (-1)) := by
  refine Does.of Tryd.func55 rfl rfl rfl rfl (fun w0 H0 kx => ?_)
  refine Ok.seq ?_
  refine Ok.reg ?_
  refine Ok.seg (j := 1) (fun _ => [(0, iw (-1)), (2, iw 0)]) (fun _ => []) (fun _ => []) (fun _ => []) [.g []] [0, 2] rfl (fun _ => by kernel_rfl) (fun _ => trivial) (fun _ => ?_)
  refine Ok.segEnd rfl ?_
  refine Ok.thenN ?_
  refine Ok.seq ?_
  refine Ok.reg ?_
  refine Ok.seg (j := 4) (fun _ => [(0, iw (-1)), (2, iw 0)]) (fun _ => []) (fun _ => []) (fun _ => []) [.g [], .g [], .g [], .g []] [0, 2] rfl (fun _ => by kernel_rfl) (fun _ => trivial) (fun _ => ?_)
  refine Ok.segEnd rfl ?_
  refine Ok.thenN ?_
  refine Ok.seq ?_
  refine Ok.reg ?_
  refine Ok.seg (j := 3) (fun _ => [(0, iw 719467), (2, iw 0)]) (fun _ => []) (fun _ => []) (fun _ => []) [.g [], .g [], .g []] [0, 2] rfl (fun _ => by kernel_rfl) (fun _ => trivial) (fun _ => ?_)
  refine Ok.segEnd rfl ?_
  refine Ok.thenN ?_
  refine Ok.seq ?_
  refine Ok.reg ?_
  refine Ok.seg (j := 3) (fun _ => [(0, iw 719467), (2, iw 0), (3, iw 4)]) (fun _ => []) (fun _ => []) (fun _ => []) [.g [], .g [], .g []] [0, 2, 3] rfl (fun _ => by kernel_rfl) (fun _ => trivial) (fun _ => ?_)
  refine Ok.segEnd rfl ?_
  refine Ok.thenN ?_
  refine Ok.seq ?_
  refine Ok.seq ?_
  refine Ok.reg ?_
  refine Ok.seg (j := 2) (fun _ => [(0, iw 719467), (2, iw 0), (3, iw 4), (16, bF)]) (fun _ => []) (fun _ => []) (fun _ => []) [.g [], .g []] [0, 2, 3, 16] rfl (fun _ => by kernel_rfl) (fun _ => trivial) (fun _ => ?_)
  refine Ok.segEnd rfl ?_
  refine Ok.thenN ?_
  refine Ok.condF rfl ?_
  refine Ok.skip_ ?_
  refine Ok.thenN ?_
  refine Ok.seq ?_
  refine Ok.reg ?_
  refine Ok.seg (j := 5) (fun _ => [(2, iw 0), (3, iw 4), (4, iw 135079)]) (fun _ => []) (fun _ => []) (fun _ => []) [.g [], .g [], .g [], .g [], .g []] [2, 3, 4] rfl (fun _ => by kernel_rfl) (fun _ => trivial) (fun _ => ?_)
  refine Ok.segEnd rfl ?_
  refine Ok.thenN ?_
  refine Ok.seq ?_
  refine Ok.reg ?_
  refine Ok.seg (j := 12) (fun _ => [(2, iw 0), (3, iw 4), (4, iw 135079), (5, iw 369)]) (fun _ => []) (fun _ => []) (fun _ => []) [.g [], .g [], .g [], .g [], .g [], .g [], .g [], .g [], .g [], .g [], .g [], .g []] [2, 3, 4, 5] rfl (fun _ => by kernel_rfl) (fun _ => trivial) (fun _ => ?_)
  refine Ok.segEnd rfl ?_
  refine Ok.thenN ?_
  refine Ok.seq ?_
  refine Ok.reg ?_
  refine Ok.seg (j := 11) (fun _ => [(2, iw 0), (3, iw 4), (5, iw 369), (6, iw 305)]) (fun _ => []) (fun _ => []) (fun _ => []) [.g [], .g [], .g [], .g [], .g [], .g [], .g [], .g [], .g [], .g [], .g []] [2, 3, 5, 6] rfl (fun _ => by kernel_rfl) (fun _ => trivial) (fun _ => ?_)
  refine Ok.segEnd rfl ?_
  refine Ok.thenN ?_
  refine Ok.seq ?_
  refine Ok.reg ?_
  refine Ok.seg (j := 5) (fun _ => [(2, iw 0), (3, iw 4), (5, iw 369), (7, iw 9)]) (fun _ => []) (fun _ => []) (fun _ => []) [.g [], .g [], .g [], .g [], .g []] [2, 3, 5, 7] rfl (fun _ => by kernel_rfl) (fun _ => trivial) (fun _ => ?_)
  refine Ok.segEnd rfl ?_
  refine Ok.thenN ?_
  refine Ok.seq ?_
  refine Ok.reg ?_
  refine Ok.seg (j := 10) (fun _ => [(2, iw (-1))]) (fun _ => []) (fun _ => []) (fun _ => []) [.g [], .g [], .g [], .g [], .g [], .g [], .g [], .g [], .g [], .g []] [2] rfl (fun _ => by kernel_rfl) (fun _ => trivial) (fun _ => ?_)
  refine Ok.segEnd rfl ?_
  refine Ok.thenN ?_
  refine Ok.ret_ ?_
  exact Ok.ret1 (v := iw (-1)) (SLe.refl _) rfl rfl rfl
set_option maxRecDepth 100000 in
theorem x29_27 (H : Snap) : Does Tryd.prog 29 [.agg #[iw 5, iw 1, iw 0], .agg #[bF, iw (-1), s0]] H [] (fun v H' kp => v = .agg #[bF, iw (-1), s0]) := by
  refine Does.of Tryd.func29 rfl rfl rfl rfl (fun w0 H0 kx => ?_)
  refine Ok.seq ?_
  refine Ok.reg ?_
  refine Ok.seg (j := 3) (fun b1 => [(2, pt b1 0), (3, pt (b1 + 1) 0), (4, pt (b1 + 1 + 1) 0)]) (fun b1 => [.blk b1 [iw 5, iw 1, iw 0] 24, .blk (b1 + 1) [bF, iw (-1), s0] 26, .blk (b1 + 1 + 1) [bF, iw 0, s0] 26]) (fun b1 => []) (fun b1 => []) [.g [.N], .g [.N], .g [.N]] [2, 3, 4] rfl (fun b1 => by kernel_rfl) (fun b1 => trivial) (fun b1 => ?_)
  refine Ok.segEnd rfl ?_
  refine Ok.thenN ?_
  refine Ok.seq ?_
  refine Ok.seq ?_
  refine Ok.reg ?_
  refine Ok.seg (j := 2) (fun _ => [(2, pt b1 0), (3, pt (b1 + 1) 0), (4, pt (b1 + 1 + 1) 0), (10, bF)]) (fun _ => [.blk b1 [iw 5, iw 1, iw 0] 24, .blk (b1 + 1) [bF, iw (-1), s0] 26, .blk (b1 + 1 + 1) [bF, iw 0, s0] 26]) (fun _ => [b1 + 1]) (fun _ => []) [.g [], .g [.K 1 0]] [2, 3, 4, 10] rfl (fun _ => by kernel_rfl) (fun _ => trivial) (fun _ => ?_)
  refine Ok.segEnd rfl ?_
  refine Ok.thenN ?_
  refine Ok.condF rfl ?_
  refine Ok.skip_ ?_
  refine Ok.thenN ?_
  refine Ok.seq ?_
  refine Ok.seq ?_
  refine Ok.reg ?_
  refine Ok.seg (j := 2) (fun _ => [(2, pt b1 0), (3, pt (b1 + 1) 0), (4, pt (b1 + 1 + 1) 0), (13, iw 5)]) (fun _ => [.blk b1 [iw 5, iw 1, iw 0] 24, .blk (b1 + 1) [bF, iw (-1), s0] 26, .blk (b1 + 1 + 1) [bF, iw 0, s0] 26]) (fun _ => [b1]) (fun _ => []) [.g [], .g [.K 0 0]] [2, 3, 4, 13] rfl (fun _ => by kernel_rfl) (fun _ => trivial) (fun _ => ?_)
  refine Ok.segEnd rfl ?_
  refine Ok.thenN ?_
  refine Ok.blk ?_
  refine Ok.seq ?_
  refine Ok.reg ?_
  refine Ok.seg (j := 2) (fun _ => [(2, pt b1 0), (3, pt (b1 + 1) 0), (4, pt (b1 + 1 + 1) 0), (13, iw 5), (14, bF)]) (fun _ => [.blk b1 [iw 5, iw 1, iw 0] 24, .blk (b1 + 1) [bF, iw (-1), s0] 26, .blk (b1 + 1 + 1) [bF, iw 0, s0] 26]) (fun _ => []) (fun _ => []) [.g [], .g []] [2, 3, 4, 13, 14] rfl (fun _ => by kernel_rfl) (fun _ => trivial) (fun _ => ?_)
  refine Ok.segEnd rfl ?_
  refine Ok.thenN ?_
  refine Ok.condF rfl ?_
  refine Ok.seq ?_
  refine Ok.reg ?_
  refine Ok.seg (j := 2) (fun _ => [(2, pt b1 0), (3, pt (b1 + 1) 0), (4, pt (b1 + 1 + 1) 0), (13, iw 5), (45, bF)]) (fun _ => [.blk b1 [iw 5, iw 1, iw 0] 24, .blk (b1 + 1) [bF, iw (-1), s0] 26, .blk (b1 + 1 + 1) [bF, iw 0, s0] 26]) (fun _ => []) (fun _ => []) [.g [], .g []] [2, 3, 4, 13, 45] rfl (fun _ => by kernel_rfl) (fun _ => trivial) (fun _ => ?_)
  refine Ok.segEnd rfl ?_
  refine Ok.thenN ?_
  refine Ok.condF rfl ?_
  refine Ok.seq ?_
  refine Ok.reg ?_
  refine Ok.seg (j := 2) (fun _ => [(3, pt (b1 + 1) 0), (4, pt (b1 + 1 + 1) 0), (62, bT)]) (fun _ => [.blk b1 [iw 5, iw 1, iw 0] 24, .blk (b1 + 1) [bF, iw (-1), s0] 26, .blk (b1 + 1 + 1) [bF, iw 0, s0] 26]) (fun _ => []) (fun _ => []) [.g [], .g []] [3, 4, 62] rfl (fun _ => by kernel_rfl) (fun _ => trivial) (fun _ => ?_)
  refine Ok.segEnd rfl ?_
  refine Ok.thenN ?_
  refine Ok.condT rfl ?_
  refine Ok.seq ?_
  refine Ok.reg ?_
  refine Ok.seg (j := 2) (fun _ => [(3, pt (b1 + 1) 0), (4, pt (b1 + 1 + 1) 0), (65, iw (-1))]) (fun _ => [.blk b1 [iw 5, iw 1, iw 0] 24, .blk (b1 + 1) [bF, iw (-1), s0] 26, .blk (b1 + 1 + 1) [bF, iw 0, s0] 26]) (fun _ => [b1 + 1]) (fun _ => []) [.g [], .g [.K 1 1]] [3, 4, 65] rfl (fun _ => by kernel_rfl) (fun _ => trivial) (fun _ => ?_)
  refine Ok.eff (j := 3) rfl (Eff.call0 (d := some 66) (by kernel_rfl) (x55_28 H) ?_)
  rintro v8 H9 k11 le10 rfl
  refine Ok.dropL ?_
  refine Ok.seg (j := 5) (fun _ => [(3, pt (b1 + 1) 0), (4, pt (b1 + 1 + 1) 0)]) (fun _ => [.blk b1 [iw 5, iw 1, iw 0] 24, .blk (b1 + 1) [bF, iw (-1), s0] 26, .blk (b1 + 1 + 1) [bF, iw (-1), s0] 26]) (fun _ => [b1 + 1 + 1, b1 + 1 + 1, b1 + 1 + 1]) (fun _ => []) [.g [], .g [.K 2 0, .K 2 1, .K 2 2]] [3, 4] rfl (fun _ => by kernel_rfl) (fun _ => trivial) (fun _ => ?_)
  refine Ok.segEnd rfl ?_
  refine Ok.thenN ?_
  refine Ok.ret_ ?_
  refine Ok.blkR ?_
  refine Ok.thenR ?_
  exact Ok.ret1c le10 [.K 2 0, .K 2 1, .K 2 2] (.agg #[bF, iw (-1), s0]) [b1 + 1 + 1, b1 + 1 + 1, b1 + 1 + 1] rfl (by kernel_rfl) rfl
set_option maxRecDepth 100000 in
theorem x15_26 (H : Snap) (p0 p1 : Nat) (hp0 : Pre H p0 [iw 5, iw 1, iw 0]) (hp1 : Pre H p1 [iw 1, bF, iw (-1), s0]) : Does Tryd.prog 15 [sl p0 0 1 1, .agg #[sl p1 0 1 1]] H [] (fun v H' kp => ∃ r0 : Nat, v = sl r0 0 1 1 ∧ Pre H' r0 [bF, iw (-1), s0]) := by
  refine Does.of Tryd.func15 rfl rfl rfl rfl (fun w0 H0 kx => ?_)
  refine Ok.seq ?_
  refine Ok.reg ?_
  refine Ok.seg (j := 2) (fun b1 => [(0, sl p0 0 1 1), (3, pt b1 0), (4, n0)]) (fun b1 => [.blk b1 [sl p1 0 1 1] 30]) (fun b1 => []) (fun b1 => []) [.g [.N], .g []] [0, 3, 4] rfl (fun b1 => by kernel_rfl) (fun b1 => trivial) (fun b1 => ?_)
  refine Ok.segEnd rfl ?_
  refine Ok.thenN ?_
  refine Ok.seq ?_
  refine Ok.reg ?_
  refine Ok.seg (j := 4) (fun b2 => [(0, sl p0 0 1 1), (3, pt b1 0), (4, n0), (5, sl b2 0 1 1)]) (fun b2 => [.blk b1 [sl p1 0 1 1] 30, .blk b2 [bF, iw 0, s0] 26]) (fun b2 => []) (fun b2 => []) [.g [], .g [], .g [.N], .g []] [0, 3, 4, 5] rfl (fun b2 => by kernel_rfl) (fun b2 => trivial) (fun b2 => ?_)
  refine Ok.segEnd rfl ?_
  refine Ok.thenN ?_
  refine Ok.seq ?_
  refine Ok.seq ?_
  refine Ok.reg ?_
  refine Ok.seg (j := 3) (fun _ => [(3, pt b1 0), (4, n0), (5, sl b2 0 1 1), (11, sl p0 0 1 1), (12, iw 1), (13, iw 0)]) (fun _ => [.blk b1 [sl p1 0 1 1] 30, .blk b2 [bF, iw 0, s0] 26]) (fun _ => []) (fun _ => []) [.g [], .g [], .g []] [3, 4, 5, 11, 12, 13] rfl (fun _ => by kernel_rfl) (fun _ => trivial) (fun _ => ?_)
  refine Ok.segEnd rfl ?_
  refine Ok.thenN ?_
  refine Ok.blk ?_
  refine Ok.loopN 2 ?_
  refine Ok.round ?_
  refine Ok.seq ?_
  refine Ok.reg ?_
  refine Ok.seg (j := 1) (fun _ => [(3, pt b1 0), (4, n0), (5, sl b2 0 1 1), (11, sl p0 0 1 1), (12, iw 1), (13, iw 0), (14, bT)]) (fun _ => [.blk b1 [sl p1 0 1 1] 30, .blk b2 [bF, iw 0, s0] 26]) (fun _ => []) (fun _ => []) [.g []] [3, 4, 5, 11, 12, 13, 14] rfl (fun _ => by kernel_rfl) (fun _ => trivial) (fun _ => ?_)
  refine Ok.segEnd rfl ?_
  refine Ok.thenN ?_
  refine Ok.seq ?_
  refine Ok.condT rfl ?_
  refine Ok.skip_ ?_
  refine Ok.thenN ?_
  refine Ok.seq ?_
  refine Ok.blk ?_
  refine Ok.seq ?_
  refine Ok.reg ?_
  refine Ok.seg (j := 6) (fun b5 => [(3, pt b1 0), (4, n0), (5, sl b2 0 1 1), (6, iw 0), (7, pt b5 0), (11, sl p0 0 1 1), (12, iw 1), (13, iw 0), (14, bT), (15, iw 0), (16, pt p0 0), (17, .agg #[iw 5, iw 1, iw 0])]) (fun b5 => [.blk b1 [sl p1 0 1 1] 30, .blk b2 [bF, iw 0, s0] 26, .blk b5 [iw 5, iw 1, iw 0] 24]) (fun b5 => [b5, b5, b5]) (fun b5 => [HasCell H ⟨p0, 0, none⟩ (iw 5), HasCell H ⟨p0, 1, none⟩ (iw 1), HasCell H ⟨p0, 2, none⟩ (iw 0)]) [.g [], .g [], .g [.X (iw 5), .X (iw 1), .X (iw 0)], .g [.N], .g [], .g [.K 2 0, .K 2 1, .K 2 2]] [3, 4, 5, 6, 7, 11, 12, 13, 14, 15, 16, 17] rfl (fun b5 => by kernel_rfl) (fun b5 => ⟨Pre.cell hp0 0 rfl, Pre.cell hp0 1 rfl, Pre.cell hp0 2 rfl, trivial⟩) (fun b5 => ?_)
  refine Ok.segEnd rfl ?_
  refine Ok.thenN ?_
  refine Ok.start (idx := [0, 2]) [] [.blk b1 [sl p1 0 1 1] 30, .blk b5 [iw 5, iw 1, iw 0] 24] (by kernel_rfl) rfl rfl rfl ?_
  refine Ok.take (fuel' := 4) (l' := [true, true, true, true, true, true, false, false, false, false]) (qs := [(0, .g []), (1, .g []), (2, .g [.K 1 0, .K 1 1, .K 1 2]), (3, .g [.K 0 0]), (4, .g []), (5, .g [.K 1 1])]) [(3, pt b1 0), (4, n0), (5, sl b2 0 1 1), (6, iw 0), (7, pt b5 0), (11, sl p0 0 1 1), (12, iw 1), (13, iw 0), (14, bT), (15, iw 0), (16, pt p0 0), (17, .agg #[iw 5, iw 1, iw 0]), (18, sl b2 0 1 1), (19, iw 0), (20, .agg #[iw 5, iw 1, iw 0]), (21, .agg #[sl p1 0 1 1]), (22, pt b5 1), (23, iw 1)] [b5, b5, b5, b1, b5] [] [3, 4, 5, 6, 7, 11, 12, 13, 14, 15, 16, 17, 18, 19, 20, 21, 22, 23] (by intro c a w d v h; cases d <;> exact h) (by kernel_rfl) rfl trivial ?_
  refine Ok.one (i := 6) (fuel' := 3) (l' := [true, true, true, true, true, true, true, false, false, false]) (by kernel_rfl) rfl rfl (Eff.call0 (d := some 24) (by kernel_rfl) (x30_11 H p1 hp1) ?_)
  rintro v6 H7 k9 le8 rfl
  refine Ok.dropL ?_
  refine Ok.withS (idx := [0, 2]) le8 rfl ?_
  refine Ok.one (i := 7) (fuel' := 2) (l' := [true, true, true, true, true, true, true, true, false, false]) (by kernel_rfl) rfl rfl (Eff.call0 (d := some 25) (by kernel_rfl) (x29_27 H7) ?_)
  rintro v10 H11 k13 le12 rfl
  refine Ok.dropL ?_
  refine Ok.withS (idx := [0, 2]) (SLe.trans le8 le12) rfl ?_
  refine Ok.take (fuel' := 1) (l' := [true, true, true, true, true, true, true, true, true, false]) (qs := [(8, .g [])]) [(3, pt b1 0), (4, n0), (5, sl b2 0 1 1), (6, iw 0), (7, pt b5 0), (11, sl p0 0 1 1), (12, iw 1), (13, iw 0), (14, bT), (15, iw 0), (16, pt p0 0), (17, .agg #[iw 5, iw 1, iw 0]), (18, sl b2 0 1 1), (19, iw 0), (20, .agg #[iw 5, iw 1, iw 0]), (21, .agg #[sl p1 0 1 1]), (22, pt b5 1), (23, iw 1), (24, .agg #[bF, iw (-1), s0]), (25, .agg #[bF, iw (-1), s0]), (26, pt b2 0)] [] [] [3, 4, 5, 6, 7, 11, 12, 13, 14, 15, 16, 17, 18, 19, 20, 21, 22, 23, 24, 25, 26] (by intro c a w d v h; cases d <;> exact h) (by kernel_rfl) rfl trivial ?_
  refine Ok.one (i := 9) (fuel' := 0) (l' := [true, true, true, true, true, true, true, true, true, true]) (by kernel_rfl) rfl rfl (Eff.op (.g [.K 1 0, .K 1 1, .K 1 2]) (fun _ => [(3, pt b1 0), (4, n0), (5, sl b2 0 1 1), (6, iw 0), (7, pt b5 0), (11, sl p0 0 1 1), (12, iw 1), (13, iw 0), (14, bT), (15, iw 0), (16, pt p0 0), (17, .agg #[iw 5, iw 1, iw 0]), (18, sl b2 0 1 1), (19, iw 0), (20, .agg #[iw 5, iw 1, iw 0]), (21, .agg #[sl p1 0 1 1]), (22, pt b5 1), (23, iw 1), (24, .agg #[bF, iw (-1), s0]), (25, .agg #[bF, iw (-1), s0]), (26, pt b2 0)]) (fun _ => [.blk b1 [sl p1 0 1 1] 30, .blk b2 [bF, iw (-1), s0] 26, .blk b5 [iw 5, iw 1, iw 0] 24]) (fun _ => [b2, b2, b2]) (fun _ => []) [3, 4, 5, 6, 7, 11, 12, 13, 14, 15, 16, 17, 18, 19, 20, 21, 22, 23, 24, 25, 26] (fun _ => by kernel_rfl) (fun _ => trivial) (fun _ => ?_))
  refine Ok.withS (idx := [0, 2]) (SLe.trans le8 le12) rfl ?_
  refine Ok.done (by kernel_rfl) ?_
  refine Ok.blkN ?_
  refine Ok.thenN ?_
  refine Ok.reg ?_
  refine Ok.seg (j := 2) (fun _ => [(3, pt b1 0), (4, n0), (5, sl b2 0 1 1), (6, iw 0), (7, pt b5 0), (11, sl p0 0 1 1), (12, iw 1), (13, iw 1), (14, bT), (15, iw 0), (16, pt p0 0), (17, .agg #[iw 5, iw 1, iw 0]), (18, sl b2 0 1 1), (19, iw 0), (20, .agg #[iw 5, iw 1, iw 0]), (21, .agg #[sl p1 0 1 1]), (22, pt b5 1), (23, iw 1), (24, .agg #[bF, iw (-1), s0]), (25, .agg #[bF, iw (-1), s0]), (26, pt b2 0), (27, iw 1)]) (fun _ => [.blk b1 [sl p1 0 1 1] 30, .blk b2 [bF, iw (-1), s0] 26, .blk b5 [iw 5, iw 1, iw 0] 24]) (fun _ => []) (fun _ => []) [.g [], .g []] [3, 4, 5, 6, 7, 11, 12, 13, 14, 15, 16, 17, 18, 19, 20, 21, 22, 23, 24, 25, 26, 27] rfl (fun _ => by kernel_rfl) (fun _ => trivial) (fun _ => ?_)
  refine Ok.segEnd rfl ?_
  refine Ok.thenN ?_
  refine Ok.round ?_
  refine Ok.seq ?_
  refine Ok.reg ?_
  refine Ok.seg (j := 1) (fun _ => [(3, pt b1 0), (4, n0), (5, sl b2 0 1 1), (6, iw 0), (7, pt b5 0), (11, sl p0 0 1 1), (12, iw 1), (13, iw 1), (14, bF), (15, iw 0), (16, pt p0 0), (17, .agg #[iw 5, iw 1, iw 0]), (18, sl b2 0 1 1), (19, iw 0), (20, .agg #[iw 5, iw 1, iw 0]), (21, .agg #[sl p1 0 1 1]), (22, pt b5 1), (23, iw 1), (24, .agg #[bF, iw (-1), s0]), (25, .agg #[bF, iw (-1), s0]), (26, pt b2 0), (27, iw 1)]) (fun _ => [.blk b1 [sl p1 0 1 1] 30, .blk b2 [bF, iw (-1), s0] 26, .blk b5 [iw 5, iw 1, iw 0] 24]) (fun _ => []) (fun _ => []) [.g []] [3, 4, 5, 6, 7, 11, 12, 13, 14, 15, 16, 17, 18, 19, 20, 21, 22, 23, 24, 25, 26, 27] rfl (fun _ => by kernel_rfl) (fun _ => trivial) (fun _ => ?_)
  refine Ok.segEnd rfl ?_
  refine Ok.thenN ?_
  refine Ok.seq ?_
  refine Ok.condF rfl ?_
  refine Ok.exit_ ?_
  refine Ok.thenE ?_
  refine Ok.thenE ?_
  refine Ok.blkE ?_
  refine Ok.thenN ?_
  refine Ok.seq ?_
  refine Ok.reg ?_
  refine Ok.seg (j := 2) (fun _ => [(4, sl b2 0 1 1)]) (fun _ => [.blk b1 [sl p1 0 1 1] 30, .blk b2 [bF, iw (-1), s0] 26, .blk b5 [iw 5, iw 1, iw 0] 24]) (fun _ => []) (fun _ => []) [.g [], .g []] [4] rfl (fun _ => by kernel_rfl) (fun _ => trivial) (fun _ => ?_)
  refine Ok.mask [false, true, false] [.blk b2 [bF, iw (-1), s0] 26] rfl ?_
  refine Ok.segEnd rfl ?_
  refine Ok.thenN ?_
  refine Ok.ret_ ?_
  refine Ok.pubP 0 rfl [] rfl ?_
  intro H18 le19 pf20
  exact Ok.ret1 (v := sl b2 0 1 1) (SLe.trans le8 (SLe.trans le12 le19)) rfl rfl ⟨b2, rfl, pf20⟩
end Go.Proofs.YtldanodmjilfaaaDoor
