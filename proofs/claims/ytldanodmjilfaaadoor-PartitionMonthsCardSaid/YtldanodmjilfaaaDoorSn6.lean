/- Contracts of functions at the arguments that the fixed examples meet: printed by a program of this claim's author. -/
import Derived.Test.YtldanodmjilfaaaDoorProg
import Derived.Test.YtldanodmjilfaaaDoorSn5
set_option linter.unusedVariables false
set_option maxHeartbeats 4000000
namespace Go.Proofs.YtldanodmjilfaaaDoor
open Go Go.RowKit Sx
set_option maxRecDepth 100000 in
theorem x9_150 (H : Snap) : Does Tryd.prog 9 [iw 19, iw 30] H [] (fun v H' kp => v = .agg #[iw 1, iw 1, iw 19, iw 30, n0, s0, n0]) := by
  refine Does.of Tryd.func9 rfl rfl rfl rfl (fun w0 H0 kx => ?_)
  refine Ok.seq ?_
  refine Ok.reg ?_
  refine Ok.seg (j := 1) (fun b1 => [(0, iw 19), (1, iw 30), (4, pt b1 0)]) (fun b1 => [.blk b1 [iw 0, iw 0, iw 0, iw 0, n0, s0, n0] 44]) (fun b1 => []) (fun b1 => []) [.g [.N]] [0, 1, 4] rfl (fun b1 => by kernel_rfl) (fun b1 => trivial) (fun b1 => ?_)
  refine Ok.segEnd rfl ?_
  refine Ok.thenN ?_
  refine Ok.seq ?_
  refine Ok.reg ?_
  refine Ok.seg (j := 4) (fun _ => [(4, pt b1 0)]) (fun _ => [.blk b1 [iw 1, iw 1, iw 19, iw 30, n0, s0, n0] 44]) (fun _ => [b1, b1, b1, b1, b1, b1, b1]) (fun _ => []) [.g [], .g [], .g [], .g [.K 0 0, .K 0 1, .K 0 2, .K 0 3, .K 0 4, .K 0 5, .K 0 6]] [4] rfl (fun _ => by kernel_rfl) (fun _ => trivial) (fun _ => ?_)
  refine Ok.segEnd rfl ?_
  refine Ok.thenN ?_
  refine Ok.ret_ ?_
  exact Ok.ret1c (SLe.refl _) [.K 0 0, .K 0 1, .K 0 2, .K 0 3, .K 0 4, .K 0 5, .K 0 6] (.agg #[iw 1, iw 1, iw 19, iw 30, n0, s0, n0]) [b1, b1, b1, b1, b1, b1, b1] rfl (by kernel_rfl) rfl
set_option maxRecDepth 100000 in
theorem x54_156 (H : Snap) : Does Tryd.prog 54 [iw 19, iw 10] H [] (fun v H' kp => v = iw 10) := by
  refine Does.of Tryd.func54 rfl rfl rfl rfl (fun w0 H0 kx => ?_)
  refine Ok.seq ?_
  refine Ok.reg ?_
  refine Ok.seg (j := 1) (fun _ => [(0, iw 19), (1, iw 10), (4, iw 0)]) (fun _ => []) (fun _ => []) (fun _ => []) [.g []] [0, 1, 4] rfl (fun _ => by kernel_rfl) (fun _ => trivial) (fun _ => ?_)
  refine Ok.segEnd rfl ?_
  refine Ok.thenN ?_
  refine Ok.seq ?_
  refine Ok.reg ?_
  refine Ok.seg (j := 4) (fun _ => [(0, iw 19), (1, iw 10), (4, iw 0), (5, iw 9)]) (fun _ => []) (fun _ => []) (fun _ => []) [.g [], .g [], .g [], .g []] [0, 1, 4, 5] rfl (fun _ => by kernel_rfl) (fun _ => trivial) (fun _ => ?_)
  refine Ok.segEnd rfl ?_
  refine Ok.thenN ?_
  refine Ok.seq ?_
  refine Ok.seq ?_
  refine Ok.reg ?_
  refine Ok.seg (j := 2) (fun _ => [(0, iw 19), (1, iw 10), (4, iw 0), (5, iw 9), (10, bF)]) (fun _ => []) (fun _ => []) (fun _ => []) [.g [], .g []] [0, 1, 4, 5, 10] rfl (fun _ => by kernel_rfl) (fun _ => trivial) (fun _ => ?_)
  refine Ok.segEnd rfl ?_
  refine Ok.thenN ?_
  refine Ok.condF rfl ?_
  refine Ok.skip_ ?_
  refine Ok.thenN ?_
  refine Ok.seq ?_
  refine Ok.seq ?_
  refine Ok.reg ?_
  refine Ok.seg (j := 4) (fun _ => [(0, iw 19), (4, iw 0), (5, iw 9), (17, bF)]) (fun _ => []) (fun _ => []) (fun _ => []) [.g [], .g [], .g [], .g []] [0, 4, 5, 17] rfl (fun _ => by kernel_rfl) (fun _ => trivial) (fun _ => ?_)
  refine Ok.segEnd rfl ?_
  refine Ok.thenN ?_
  refine Ok.condF rfl ?_
  refine Ok.skip_ ?_
  refine Ok.thenN ?_
  refine Ok.seq ?_
  refine Ok.reg ?_
  refine Ok.seg (j := 4) (fun _ => [(4, iw 10)]) (fun _ => []) (fun _ => []) (fun _ => []) [.g [], .g [], .g [], .g []] [4] rfl (fun _ => by kernel_rfl) (fun _ => trivial) (fun _ => ?_)
  refine Ok.segEnd rfl ?_
  refine Ok.thenN ?_
  refine Ok.ret_ ?_
  exact Ok.ret1 (v := iw 10) (SLe.refl _) rfl rfl rfl
set_option maxRecDepth 100000 in
theorem x54_157 (H : Snap) : Does Tryd.prog 54 [iw 30, iw 10] H [] (fun v H' kp => v = iw 30) := by
  refine Does.of Tryd.func54 rfl rfl rfl rfl (fun w0 H0 kx => ?_)
  refine Ok.seq ?_
  refine Ok.reg ?_
  refine Ok.seg (j := 1) (fun _ => [(0, iw 30), (1, iw 10), (4, iw 0)]) (fun _ => []) (fun _ => []) (fun _ => []) [.g []] [0, 1, 4] rfl (fun _ => by kernel_rfl) (fun _ => trivial) (fun _ => ?_)
  refine Ok.segEnd rfl ?_
  refine Ok.thenN ?_
  refine Ok.seq ?_
  refine Ok.reg ?_
  refine Ok.seg (j := 4) (fun _ => [(0, iw 30), (1, iw 10), (4, iw 0), (5, iw 0)]) (fun _ => []) (fun _ => []) (fun _ => []) [.g [], .g [], .g [], .g []] [0, 1, 4, 5] rfl (fun _ => by kernel_rfl) (fun _ => trivial) (fun _ => ?_)
  refine Ok.segEnd rfl ?_
  refine Ok.thenN ?_
  refine Ok.seq ?_
  refine Ok.seq ?_
  refine Ok.reg ?_
  refine Ok.seg (j := 2) (fun _ => [(0, iw 30), (1, iw 10), (4, iw 0), (5, iw 0), (10, bF)]) (fun _ => []) (fun _ => []) (fun _ => []) [.g [], .g []] [0, 1, 4, 5, 10] rfl (fun _ => by kernel_rfl) (fun _ => trivial) (fun _ => ?_)
  refine Ok.segEnd rfl ?_
  refine Ok.thenN ?_
  refine Ok.condF rfl ?_
  refine Ok.skip_ ?_
  refine Ok.thenN ?_
  refine Ok.seq ?_
  refine Ok.seq ?_
  refine Ok.reg ?_
  refine Ok.seg (j := 4) (fun _ => [(0, iw 30), (4, iw 0), (5, iw 0), (17, bF)]) (fun _ => []) (fun _ => []) (fun _ => []) [.g [], .g [], .g [], .g []] [0, 4, 5, 17] rfl (fun _ => by kernel_rfl) (fun _ => trivial) (fun _ => ?_)
  refine Ok.segEnd rfl ?_
  refine Ok.thenN ?_
  refine Ok.condF rfl ?_
  refine Ok.skip_ ?_
  refine Ok.thenN ?_
  refine Ok.seq ?_
  refine Ok.reg ?_
  refine Ok.seg (j := 4) (fun _ => [(4, iw 30)]) (fun _ => []) (fun _ => []) (fun _ => []) [.g [], .g [], .g [], .g []] [4] rfl (fun _ => by kernel_rfl) (fun _ => trivial) (fun _ => ?_)
  refine Ok.segEnd rfl ?_
  refine Ok.thenN ?_
  refine Ok.ret_ ?_
  exact Ok.ret1 (v := iw 30) (SLe.refl _) rfl rfl rfl
set_option maxRecDepth 100000 in
theorem x58_158 (H : Snap) : Does Tryd.prog 58 [iw 1, iw 10, iw 30] H [] (fun v H' kp => v = .agg #[iw 1, iw 1, iw 10, iw 30, n0, s0, n0]) := by
  refine Does.of Tryd.func58 rfl rfl rfl rfl (fun w0 H0 kx => ?_)
  refine Ok.seq ?_
  refine Ok.reg ?_
  refine Ok.seg (j := 1) (fun b1 => [(0, iw 1), (1, iw 10), (2, iw 30), (6, pt b1 0)]) (fun b1 => [.blk b1 [iw 0, iw 0, iw 0, iw 0, n0, s0, n0] 44]) (fun b1 => []) (fun b1 => []) [.g [.N]] [0, 1, 2, 6] rfl (fun b1 => by kernel_rfl) (fun b1 => trivial) (fun b1 => ?_)
  refine Ok.segEnd rfl ?_
  refine Ok.thenN ?_
  refine Ok.seq ?_
  refine Ok.reg ?_
  refine Ok.seg (j := 5) (fun _ => [(6, pt b1 0)]) (fun _ => [.blk b1 [iw 1, iw 1, iw 10, iw 30, n0, s0, n0] 44]) (fun _ => [b1, b1, b1, b1, b1, b1, b1]) (fun _ => []) [.g [], .g [], .g [], .g [], .g [.K 0 0, .K 0 1, .K 0 2, .K 0 3, .K 0 4, .K 0 5, .K 0 6]] [6] rfl (fun _ => by kernel_rfl) (fun _ => trivial) (fun _ => ?_)
  refine Ok.segEnd rfl ?_
  refine Ok.thenN ?_
  refine Ok.ret_ ?_
  exact Ok.ret1c (SLe.refl _) [.K 0 0, .K 0 1, .K 0 2, .K 0 3, .K 0 4, .K 0 5, .K 0 6] (.agg #[iw 1, iw 1, iw 10, iw 30, n0, s0, n0]) [b1, b1, b1, b1, b1, b1, b1] rfl (by kernel_rfl) rfl
set_option maxRecDepth 100000 in
theorem x35_155 (H : Snap) : Does Tryd.prog 35 [.agg #[iw 3, iw 1, iw 10], .agg #[iw 1, iw 1, iw 19, iw 30, n0, s0, n0]] H [] (fun v H' kp => v = .agg #[iw 1, iw 1, iw 10, iw 30, n0, s0, n0]) := by
  refine Does.of Tryd.func35 rfl rfl rfl rfl (fun w0 H0 kx => ?_)
  refine Ok.seq ?_
  refine Ok.reg ?_
  refine Ok.seg (j := 3) (fun b1 => [(2, pt b1 0), (3, pt (b1 + 1) 0), (4, pt (b1 + 1 + 1) 0)]) (fun b1 => [.blk b1 [iw 3, iw 1, iw 10] 24, .blk (b1 + 1) [iw 1, iw 1, iw 19, iw 30, n0, s0, n0] 44, .blk (b1 + 1 + 1) [iw 0, iw 0, iw 0, iw 0, n0, s0, n0] 44]) (fun b1 => []) (fun b1 => []) [.g [.N], .g [.N], .g [.N]] [2, 3, 4] rfl (fun b1 => by kernel_rfl) (fun b1 => trivial) (fun b1 => ?_)
  refine Ok.segEnd rfl ?_
  refine Ok.thenN ?_
  refine Ok.seq ?_
  refine Ok.seq ?_
  refine Ok.reg ?_
  refine Ok.seg (j := 5) (fun _ => [(2, pt b1 0), (3, pt (b1 + 1) 0), (4, pt (b1 + 1 + 1) 0), (11, bF)]) (fun _ => [.blk b1 [iw 3, iw 1, iw 10] 24, .blk (b1 + 1) [iw 1, iw 1, iw 19, iw 30, n0, s0, n0] 44, .blk (b1 + 1 + 1) [iw 0, iw 0, iw 0, iw 0, n0, s0, n0] 44]) (fun _ => [b1 + 1, b1 + 1]) (fun _ => []) [.g [], .g [.K 1 2], .g [], .g [.K 1 3], .g []] [2, 3, 4, 11] rfl (fun _ => by kernel_rfl) (fun _ => trivial) (fun _ => ?_)
  refine Ok.segEnd rfl ?_
  refine Ok.thenN ?_
  refine Ok.condF rfl ?_
  refine Ok.skip_ ?_
  refine Ok.thenN ?_
  refine Ok.seq ?_
  refine Ok.seq ?_
  refine Ok.reg ?_
  refine Ok.seg (j := 2) (fun _ => [(2, pt b1 0), (3, pt (b1 + 1) 0), (4, pt (b1 + 1 + 1) 0), (14, iw 3)]) (fun _ => [.blk b1 [iw 3, iw 1, iw 10] 24, .blk (b1 + 1) [iw 1, iw 1, iw 19, iw 30, n0, s0, n0] 44, .blk (b1 + 1 + 1) [iw 0, iw 0, iw 0, iw 0, n0, s0, n0] 44]) (fun _ => [b1]) (fun _ => []) [.g [], .g [.K 0 0]] [2, 3, 4, 14] rfl (fun _ => by kernel_rfl) (fun _ => trivial) (fun _ => ?_)
  refine Ok.segEnd rfl ?_
  refine Ok.thenN ?_
  refine Ok.blk ?_
  refine Ok.seq ?_
  refine Ok.reg ?_
  refine Ok.seg (j := 2) (fun _ => [(2, pt b1 0), (3, pt (b1 + 1) 0), (4, pt (b1 + 1 + 1) 0), (14, iw 3), (15, bT)]) (fun _ => [.blk b1 [iw 3, iw 1, iw 10] 24, .blk (b1 + 1) [iw 1, iw 1, iw 19, iw 30, n0, s0, n0] 44, .blk (b1 + 1 + 1) [iw 0, iw 0, iw 0, iw 0, n0, s0, n0] 44]) (fun _ => []) (fun _ => []) [.g [], .g []] [2, 3, 4, 14, 15] rfl (fun _ => by kernel_rfl) (fun _ => trivial) (fun _ => ?_)
  refine Ok.segEnd rfl ?_
  refine Ok.thenN ?_
  refine Ok.condT rfl ?_
  refine Ok.seq ?_
  refine Ok.start (idx := [0, 1]) [] [.blk b1 [iw 3, iw 1, iw 10] 24, .blk (b1 + 1) [iw 1, iw 1, iw 19, iw 30, n0, s0, n0] 44] (by kernel_rfl) rfl rfl rfl ?_
  refine Ok.take (fuel' := 4) (l' := [true, true, true, true, true, true, false, true, true, true, true, false, false, false]) (qs := [(0, .g []), (1, .g [.K 0 1]), (2, .g []), (3, .g [.K 1 2]), (4, .g []), (5, .g [.K 0 2]), (7, .g []), (8, .g [.K 1 3]), (9, .g []), (10, .g [.K 0 2])]) [(2, pt b1 0), (3, pt (b1 + 1) 0), (4, pt (b1 + 1 + 1) 0), (18, iw 1), (20, iw 19), (22, iw 10), (25, iw 30), (27, iw 10)] [b1, b1 + 1, b1, b1 + 1, b1] [] [2, 3, 4, 18, 20, 22, 25, 27] (by intro c a w d v h; cases d <;> exact h) (by kernel_rfl) rfl trivial ?_
  refine Ok.one (i := 6) (fuel' := 3) (l' := [true, true, true, true, true, true, true, true, true, true, true, false, false, false]) (by kernel_rfl) rfl rfl (Eff.call0 (d := some 23) (by kernel_rfl) (x54_156 H) ?_)
  rintro v5 H6 k8 le7 rfl
  refine Ok.dropL ?_
  refine Ok.withS (idx := [0, 1]) le7 rfl ?_
  refine Ok.one (i := 11) (fuel' := 2) (l' := [true, true, true, true, true, true, true, true, true, true, true, true, false, false]) (by kernel_rfl) rfl rfl (Eff.call0 (d := some 28) (by kernel_rfl) (x54_157 H6) ?_)
  rintro v9 H10 k12 le11 rfl
  refine Ok.dropL ?_
  refine Ok.withS (idx := [0, 1]) (SLe.trans le7 le11) rfl ?_
  refine Ok.one (i := 12) (fuel' := 1) (l' := [true, true, true, true, true, true, true, true, true, true, true, true, true, false]) (by kernel_rfl) rfl rfl (Eff.call0 (d := some 29) (by kernel_rfl) (x58_158 H10) ?_)
  rintro v13 H14 k16 le15 rfl
  refine Ok.dropL ?_
  refine Ok.withS (idx := [0, 1]) (SLe.trans le7 (SLe.trans le11 le15)) rfl ?_
  refine Ok.one (i := 13) (fuel' := 0) (l' := [true, true, true, true, true, true, true, true, true, true, true, true, true, true]) (by kernel_rfl) rfl rfl (Eff.op (.g [.K 2 0, .K 2 1, .K 2 2, .K 2 3, .K 2 4, .K 2 5, .K 2 6]) (fun _ => [(2, pt b1 0), (3, pt (b1 + 1) 0), (4, pt (b1 + 1 + 1) 0)]) (fun _ => [.blk b1 [iw 3, iw 1, iw 10] 24, .blk (b1 + 1) [iw 1, iw 1, iw 19, iw 30, n0, s0, n0] 44, .blk (b1 + 1 + 1) [iw 1, iw 1, iw 10, iw 30, n0, s0, n0] 44]) (fun _ => [b1 + 1 + 1, b1 + 1 + 1, b1 + 1 + 1, b1 + 1 + 1, b1 + 1 + 1, b1 + 1 + 1, b1 + 1 + 1]) (fun _ => []) [2, 3, 4] (fun _ => by kernel_rfl) (fun _ => trivial) (fun _ => ?_))
  refine Ok.withS (idx := [0, 1]) (SLe.trans le7 (SLe.trans le11 le15)) rfl ?_
  refine Ok.done (by kernel_rfl) ?_
  refine Ok.thenN ?_
  refine Ok.ret_ ?_
  refine Ok.blkR ?_
  refine Ok.thenR ?_
  exact Ok.ret1c (SLe.trans le7 (SLe.trans le11 le15)) [.K 2 0, .K 2 1, .K 2 2, .K 2 3, .K 2 4, .K 2 5, .K 2 6] (.agg #[iw 1, iw 1, iw 10, iw 30, n0, s0, n0]) [b1 + 1 + 1, b1 + 1 + 1, b1 + 1 + 1, b1 + 1 + 1, b1 + 1 + 1, b1 + 1 + 1, b1 + 1 + 1] rfl (by kernel_rfl) rfl
set_option maxRecDepth 100000 in
theorem x33_154 (H : Snap) (p0 : Nat) (hp0 : Pre H p0 [iw 3, iw 1, iw 10]) : Does Tryd.prog 33 [.agg #[iw 1, iw 1, iw 19, iw 30, n0, s0, n0], pt p0 0] H [] (fun v H' kp => v = .agg #[iw 1, iw 1, iw 10, iw 30, n0, s0, n0]) := by
  refine Does.of Tryd.func33 rfl rfl rfl rfl (fun w0 H0 kx => ?_)
  refine Ok.seq ?_
  refine Ok.reg ?_
  refine Ok.seg (j := 2) (fun b1 => [(1, pt p0 0), (2, pt b1 0), (3, pt (b1 + 1) 0)]) (fun b1 => [.blk b1 [iw 1, iw 1, iw 19, iw 30, n0, s0, n0] 44, .blk (b1 + 1) [iw 0, iw 0, iw 0, iw 0, n0, s0, n0] 44]) (fun b1 => []) (fun b1 => []) [.g [.N], .g [.N]] [1, 2, 3] rfl (fun b1 => by kernel_rfl) (fun b1 => trivial) (fun b1 => ?_)
  refine Ok.segEnd rfl ?_
  refine Ok.thenN ?_
  refine Ok.seq ?_
  refine Ok.seq ?_
  refine Ok.reg ?_
  refine Ok.seg (j := 2) (fun _ => [(1, pt p0 0), (2, pt b1 0), (3, pt (b1 + 1) 0), (5, iw 1)]) (fun _ => [.blk b1 [iw 1, iw 1, iw 19, iw 30, n0, s0, n0] 44, .blk (b1 + 1) [iw 0, iw 0, iw 0, iw 0, n0, s0, n0] 44]) (fun _ => [b1]) (fun _ => []) [.g [], .g [.K 0 0]] [1, 2, 3, 5] rfl (fun _ => by kernel_rfl) (fun _ => trivial) (fun _ => ?_)
  refine Ok.segEnd rfl ?_
  refine Ok.thenN ?_
  refine Ok.blk ?_
  refine Ok.seq ?_
  refine Ok.reg ?_
  refine Ok.seg (j := 2) (fun _ => [(1, pt p0 0), (2, pt b1 0), (3, pt (b1 + 1) 0), (5, iw 1), (6, bF)]) (fun _ => [.blk b1 [iw 1, iw 1, iw 19, iw 30, n0, s0, n0] 44, .blk (b1 + 1) [iw 0, iw 0, iw 0, iw 0, n0, s0, n0] 44]) (fun _ => []) (fun _ => []) [.g [], .g []] [1, 2, 3, 5, 6] rfl (fun _ => by kernel_rfl) (fun _ => trivial) (fun _ => ?_)
  refine Ok.segEnd rfl ?_
  refine Ok.thenN ?_
  refine Ok.condF rfl ?_
  refine Ok.seq ?_
  refine Ok.reg ?_
  refine Ok.seg (j := 2) (fun _ => [(1, pt p0 0), (2, pt b1 0), (3, pt (b1 + 1) 0), (5, iw 1), (9, bF)]) (fun _ => [.blk b1 [iw 1, iw 1, iw 19, iw 30, n0, s0, n0] 44, .blk (b1 + 1) [iw 0, iw 0, iw 0, iw 0, n0, s0, n0] 44]) (fun _ => []) (fun _ => []) [.g [], .g []] [1, 2, 3, 5, 9] rfl (fun _ => by kernel_rfl) (fun _ => trivial) (fun _ => ?_)
  refine Ok.segEnd rfl ?_
  refine Ok.thenN ?_
  refine Ok.condF rfl ?_
  refine Ok.seq ?_
  refine Ok.reg ?_
  refine Ok.seg (j := 2) (fun _ => [(1, pt p0 0), (2, pt b1 0), (3, pt (b1 + 1) 0), (15, bF)]) (fun _ => [.blk b1 [iw 1, iw 1, iw 19, iw 30, n0, s0, n0] 44, .blk (b1 + 1) [iw 0, iw 0, iw 0, iw 0, n0, s0, n0] 44]) (fun _ => []) (fun _ => []) [.g [], .g []] [1, 2, 3, 15] rfl (fun _ => by kernel_rfl) (fun _ => trivial) (fun _ => ?_)
  refine Ok.segEnd rfl ?_
  refine Ok.thenN ?_
  refine Ok.condF rfl ?_
  refine Ok.skip_ ?_
  refine Ok.blkN ?_
  refine Ok.thenN ?_
  refine Ok.seq ?_
  refine Ok.reg ?_
  refine Ok.seg (j := 2) (fun _ => [(3, pt (b1 + 1) 0), (33, .agg #[iw 3, iw 1, iw 10]), (34, .agg #[iw 1, iw 1, iw 19, iw 30, n0, s0, n0])]) (fun _ => [.blk b1 [iw 1, iw 1, iw 19, iw 30, n0, s0, n0] 44, .blk (b1 + 1) [iw 0, iw 0, iw 0, iw 0, n0, s0, n0] 44]) (fun _ => [b1, b1, b1, b1, b1, b1, b1]) (fun _ => [HasCell H ⟨p0, 0, none⟩ (iw 3), HasCell H ⟨p0, 1, none⟩ (iw 1), HasCell H ⟨p0, 2, none⟩ (iw 10)]) [.g [.X (iw 3), .X (iw 1), .X (iw 10)], .g [.K 0 0, .K 0 1, .K 0 2, .K 0 3, .K 0 4, .K 0 5, .K 0 6]] [3, 33, 34] rfl (fun _ => by kernel_rfl) (fun _ => ⟨Pre.cell hp0 0 rfl, Pre.cell hp0 1 rfl, Pre.cell hp0 2 rfl, trivial⟩) (fun _ => ?_)
  refine Ok.eff (j := 3) rfl (Eff.call0 (d := some 35) (by kernel_rfl) (x35_155 H) ?_)
  rintro v7 H8 k10 le9 rfl
  refine Ok.dropL ?_
  refine Ok.seg (j := 4) (fun _ => [(3, pt (b1 + 1) 0)]) (fun _ => [.blk b1 [iw 1, iw 1, iw 19, iw 30, n0, s0, n0] 44, .blk (b1 + 1) [iw 1, iw 1, iw 10, iw 30, n0, s0, n0] 44]) (fun _ => [b1 + 1, b1 + 1, b1 + 1, b1 + 1, b1 + 1, b1 + 1, b1 + 1]) (fun _ => []) [.g [.K 1 0, .K 1 1, .K 1 2, .K 1 3, .K 1 4, .K 1 5, .K 1 6]] [3] rfl (fun _ => by kernel_rfl) (fun _ => trivial) (fun _ => ?_)
  refine Ok.segEnd rfl ?_
  refine Ok.thenN ?_
  refine Ok.ret_ ?_
  exact Ok.ret1c le9 [.K 1 0, .K 1 1, .K 1 2, .K 1 3, .K 1 4, .K 1 5, .K 1 6] (.agg #[iw 1, iw 1, iw 10, iw 30, n0, s0, n0]) [b1 + 1, b1 + 1, b1 + 1, b1 + 1, b1 + 1, b1 + 1, b1 + 1] rfl (by kernel_rfl) rfl
set_option maxRecDepth 100000 in
theorem x18_153 (H : Snap) (p0 p1 p2 p3 p4 : Nat) (hp0 : Pre H p0 [iw 3, iw 1, iw 10]) (hp1 : Pre H p1 [.func (.func 33) #[] #[pt p2 0]]) (hp2 : Pre H p2 [iw 3, iw 1, iw 10]) (hp3 : Pre H p3 [.func (.func 36) #[] #[pt p2 0]]) (hp4 : Pre H p4 [.func (.func 18) #[] #[pt p0 0, pt p1 0, pt p3 0, pt p4 0]]) : Does Tryd.prog 18 [.agg #[iw 1, iw 1, iw 19, iw 30, n0, s0, n0], bT, pt p0 0, pt p1 0, pt p3 0, pt p4 0] H [] (fun v H' kp => v = .agg #[iw 1, iw 1, iw 10, iw 30, n0, s0, n0]) := by
  refine Does.of Tryd.func18 rfl rfl rfl rfl (fun w0 H0 kx => ?_)
  refine Ok.seq ?_
  refine Ok.reg ?_
  refine Ok.seg (j := 2) (fun b1 => [(1, bT), (2, pt p0 0), (3, pt p1 0), (4, pt p3 0), (5, pt p4 0), (6, pt b1 0), (8, pt (b1 + 1) 0)]) (fun b1 => [.blk b1 [iw 1, iw 1, iw 19, iw 30, n0, s0, n0] 44, .blk (b1 + 1) [iw 0, iw 0, iw 0, iw 0, n0, s0, n0] 44]) (fun b1 => []) (fun b1 => []) [.g [.N], .g [.N]] [1, 2, 3, 4, 5, 6, 8] rfl (fun b1 => by kernel_rfl) (fun b1 => trivial) (fun b1 => ?_)
  refine Ok.segEnd rfl ?_
  refine Ok.thenN ?_
  refine Ok.seq ?_
  refine Ok.seq ?_
  refine Ok.reg ?_
  refine Ok.seg (j := 2) (fun _ => [(1, bT), (2, pt p0 0), (3, pt p1 0), (4, pt p3 0), (5, pt p4 0), (6, pt b1 0), (8, pt (b1 + 1) 0), (13, iw 1)]) (fun _ => [.blk b1 [iw 1, iw 1, iw 19, iw 30, n0, s0, n0] 44, .blk (b1 + 1) [iw 0, iw 0, iw 0, iw 0, n0, s0, n0] 44]) (fun _ => [b1]) (fun _ => []) [.g [], .g [.K 0 0]] [1, 2, 3, 4, 5, 6, 8, 13] rfl (fun _ => by kernel_rfl) (fun _ => trivial) (fun _ => ?_)
  refine Ok.segEnd rfl ?_
  refine Ok.thenN ?_
  refine Ok.blk ?_
  refine Ok.seq ?_
  refine Ok.reg ?_
  refine Ok.seg (j := 2) (fun _ => [(1, bT), (2, pt p0 0), (3, pt p1 0), (4, pt p3 0), (5, pt p4 0), (6, pt b1 0), (8, pt (b1 + 1) 0), (13, iw 1), (14, bF)]) (fun _ => [.blk b1 [iw 1, iw 1, iw 19, iw 30, n0, s0, n0] 44, .blk (b1 + 1) [iw 0, iw 0, iw 0, iw 0, n0, s0, n0] 44]) (fun _ => []) (fun _ => []) [.g [], .g []] [1, 2, 3, 4, 5, 6, 8, 13, 14] rfl (fun _ => by kernel_rfl) (fun _ => trivial) (fun _ => ?_)
  refine Ok.segEnd rfl ?_
  refine Ok.thenN ?_
  refine Ok.condF rfl ?_
  refine Ok.seq ?_
  refine Ok.seq ?_
  refine Ok.reg ?_
  refine Ok.seg (j := 2) (fun _ => [(1, bT), (2, pt p0 0), (3, pt p1 0), (4, pt p3 0), (5, pt p4 0), (6, pt b1 0), (8, pt (b1 + 1) 0), (13, iw 1), (19, bT)]) (fun _ => [.blk b1 [iw 1, iw 1, iw 19, iw 30, n0, s0, n0] 44, .blk (b1 + 1) [iw 0, iw 0, iw 0, iw 0, n0, s0, n0] 44]) (fun _ => []) (fun _ => []) [.g [], .g []] [1, 2, 3, 4, 5, 6, 8, 13, 19] rfl (fun _ => by kernel_rfl) (fun _ => trivial) (fun _ => ?_)
  refine Ok.segEnd rfl ?_
  refine Ok.thenN ?_
  refine Ok.condT rfl ?_
  refine Ok.skip_ ?_
  refine Ok.thenN ?_
  refine Ok.condT rfl ?_
  refine Ok.seq ?_
  refine Ok.seq ?_
  refine Ok.reg ?_
  refine Ok.seg (j := 8) (fun _ => [(2, pt p0 0), (3, pt p1 0), (4, pt p3 0), (6, pt b1 0), (8, pt (b1 + 1) 0), (31, bT)]) (fun _ => [.blk b1 [iw 1, iw 1, iw 19, iw 30, n0, s0, n0] 44, .blk (b1 + 1) [iw 0, iw 0, iw 0, iw 0, n0, s0, n0] 44]) (fun _ => [b1]) (fun _ => [HasCell H ⟨p0, 1, none⟩ (iw 1)]) [.g [], .g [.K 0 1], .g [], .g [.X (iw 1)], .g [], .g [], .g [], .g []] [2, 3, 4, 6, 8, 31] rfl (fun _ => by kernel_rfl) (fun _ => ⟨Pre.cell hp0 1 rfl, trivial⟩) (fun _ => ?_)
  refine Ok.segEnd rfl ?_
  refine Ok.thenN ?_
  refine Ok.condT rfl ?_
  refine Ok.seq ?_
  refine Ok.reg ?_
  refine Ok.seg (j := 2) (fun _ => [(2, pt p0 0), (4, pt p3 0), (6, pt b1 0), (8, pt (b1 + 1) 0), (32, .func (.func 33) #[] #[pt p2 0]), (33, .agg #[iw 1, iw 1, iw 19, iw 30, n0, s0, n0])]) (fun _ => [.blk b1 [iw 1, iw 1, iw 19, iw 30, n0, s0, n0] 44, .blk (b1 + 1) [iw 0, iw 0, iw 0, iw 0, n0, s0, n0] 44]) (fun _ => [b1, b1, b1, b1, b1, b1, b1]) (fun _ => [HasCell H ⟨p1, 0, none⟩ (.func (.func 33) #[] #[pt p2 0])]) [.g [.X (.func (.func 33) #[] #[pt p2 0])], .g [.K 0 0, .K 0 1, .K 0 2, .K 0 3, .K 0 4, .K 0 5, .K 0 6]] [2, 4, 6, 8, 32, 33] rfl (fun _ => by kernel_rfl) (fun _ => ⟨Pre.cell hp1 0 rfl, trivial⟩) (fun _ => ?_)
  refine Ok.eff (j := 3) rfl (Eff.call0 (d := some 34) (by kernel_rfl) (x33_154 H p2 hp2) ?_)
  rintro v7 H8 k10 le9 rfl
  refine Ok.dropL ?_
  refine Ok.seg (j := 4) (fun _ => [(2, pt p0 0), (4, pt p3 0), (6, pt b1 0), (8, pt (b1 + 1) 0)]) (fun _ => [.blk b1 [iw 1, iw 1, iw 19, iw 30, n0, s0, n0] 44, .blk (b1 + 1) [iw 1, iw 1, iw 10, iw 30, n0, s0, n0] 44]) (fun _ => [b1 + 1, b1 + 1, b1 + 1, b1 + 1, b1 + 1, b1 + 1, b1 + 1]) (fun _ => []) [.g [.K 1 0, .K 1 1, .K 1 2, .K 1 3, .K 1 4, .K 1 5, .K 1 6]] [2, 4, 6, 8] rfl (fun _ => by kernel_rfl) (fun _ => trivial) (fun _ => ?_)
  refine Ok.segEnd rfl ?_
  refine Ok.thenN ?_
  refine Ok.ret_ ?_
  refine Ok.thenR ?_
  refine Ok.blkR ?_
  refine Ok.thenR ?_
  exact Ok.ret1c le9 [.K 1 0, .K 1 1, .K 1 2, .K 1 3, .K 1 4, .K 1 5, .K 1 6] (.agg #[iw 1, iw 1, iw 10, iw 30, n0, s0, n0]) [b1 + 1, b1 + 1, b1 + 1, b1 + 1, b1 + 1, b1 + 1, b1 + 1] rfl (by kernel_rfl) rfl
set_option maxRecDepth 100000 in
theorem x8_152 (H : Snap) : Does Tryd.prog 8 [.agg #[iw 3, iw 1, iw 10], .agg #[iw 1, iw 1, iw 19, iw 30, n0, s0, n0]] H [] (fun v H' kp => v = .agg #[iw 1, iw 1, iw 10, iw 30, n0, s0, n0]) := by
  refine Does.of Tryd.func8 rfl rfl rfl rfl (fun w0 H0 kx => ?_)
  refine Ok.seq ?_
  refine Ok.reg ?_
  refine Ok.seg (j := 3) (fun b1 => [(2, pt b1 0), (3, pt (b1 + 1) 0), (4, pt (b1 + 1 + 1) 0)]) (fun b1 => [.blk b1 [iw 3, iw 1, iw 10] 24, .blk (b1 + 1) [iw 1, iw 1, iw 19, iw 30, n0, s0, n0] 44, .blk (b1 + 1 + 1) [iw 0, iw 0, iw 0, iw 0, n0, s0, n0] 44]) (fun b1 => []) (fun b1 => []) [.g [.N], .g [.N], .g [.N]] [2, 3, 4] rfl (fun b1 => by kernel_rfl) (fun b1 => trivial) (fun b1 => ?_)
  refine Ok.segEnd rfl ?_
  refine Ok.thenN ?_
  refine Ok.seq ?_
  refine Ok.reg ?_
  refine Ok.seg (j := 1) (fun _ => [(2, pt b1 0), (3, pt (b1 + 1) 0), (4, pt (b1 + 1 + 1) 0), (9, .agg #[iw 3, iw 1, iw 10])]) (fun _ => [.blk b1 [iw 3, iw 1, iw 10] 24, .blk (b1 + 1) [iw 1, iw 1, iw 19, iw 30, n0, s0, n0] 44, .blk (b1 + 1 + 1) [iw 0, iw 0, iw 0, iw 0, n0, s0, n0] 44]) (fun _ => [b1, b1, b1]) (fun _ => []) [.g [.K 0 0, .K 0 1, .K 0 2]] [2, 3, 4, 9] rfl (fun _ => by kernel_rfl) (fun _ => trivial) (fun _ => ?_)
  refine Ok.eff (j := 2) rfl (Eff.call0 (d := some 10) (by kernel_rfl) (x17_35 H) ?_)
  rintro v3 H4 k6 le5 ⟨q7, rfl, pf8⟩
  refine Ok.dropL ?_
  refine Ok.seg (j := 9) (fun b9 => [(2, pt b1 0), (3, pt (b1 + 1) 0), (4, pt (b1 + 1 + 1) 0), (5, pt b9 0), (6, pt (b9 + 1) 0)]) (fun b9 => [.blk b1 [iw 3, iw 1, iw 10] 24, .blk (b1 + 1) [iw 1, iw 1, iw 19, iw 30, n0, s0, n0] 44, .blk (b1 + 1 + 1) [iw 0, iw 0, iw 0, iw 0, n0, s0, n0] 44, .blk b9 [.func (.func 33) #[] #[pt q7 0]] 47, .blk (b9 + 1) [.func (.func 36) #[] #[pt q7 0]] 47]) (fun b9 => [b9, b9 + 1]) (fun b9 => []) [.g [], .g [], .g [], .g [.N], .g [.N], .g [.K 3 0], .g [.K 4 0]] [2, 3, 4, 5, 6] rfl (fun b9 => by kernel_rfl) (fun b9 => trivial) (fun b9 => ?_)
  refine Ok.segEnd rfl ?_
  refine Ok.thenN ?_
  refine Ok.seq ?_
  refine Ok.reg ?_
  refine Ok.seg (j := 1) (fun b10 => [(2, pt b1 0), (3, pt (b1 + 1) 0), (4, pt (b1 + 1 + 1) 0), (5, pt b9 0), (6, pt (b9 + 1) 0), (7, pt b10 0)]) (fun b10 => [.blk b1 [iw 3, iw 1, iw 10] 24, .blk (b1 + 1) [iw 1, iw 1, iw 19, iw 30, n0, s0, n0] 44, .blk (b1 + 1 + 1) [iw 0, iw 0, iw 0, iw 0, n0, s0, n0] 44, .blk b9 [.func (.func 33) #[] #[pt q7 0]] 47, .blk (b9 + 1) [.func (.func 36) #[] #[pt q7 0]] 47, .blk b10 [.nilFunc] 60]) (fun b10 => []) (fun b10 => []) [.g [.N]] [2, 3, 4, 5, 6, 7] rfl (fun b10 => by kernel_rfl) (fun b10 => trivial) (fun b10 => ?_)
  refine Ok.segEnd rfl ?_
  refine Ok.thenN ?_
  refine Ok.seq ?_
  refine Ok.reg ?_
  refine Ok.seg (j := 2) (fun _ => [(3, pt (b1 + 1) 0), (4, pt (b1 + 1 + 1) 0), (7, pt b10 0)]) (fun _ => [.blk b1 [iw 3, iw 1, iw 10] 24, .blk (b1 + 1) [iw 1, iw 1, iw 19, iw 30, n0, s0, n0] 44, .blk (b1 + 1 + 1) [iw 0, iw 0, iw 0, iw 0, n0, s0, n0] 44, .blk b9 [.func (.func 33) #[] #[pt q7 0]] 47, .blk (b9 + 1) [.func (.func 36) #[] #[pt q7 0]] 47, .blk b10 [.func (.func 18) #[] #[pt b1 0, pt b9 0, pt (b9 + 1) 0, pt b10 0]] 60]) (fun _ => [b10]) (fun _ => []) [.g [], .g [.K 5 0]] [3, 4, 7] rfl (fun _ => by kernel_rfl) (fun _ => trivial) (fun _ => ?_)
  refine Ok.segEnd rfl ?_
  refine Ok.thenN ?_
  refine Ok.seq ?_
  refine Ok.reg ?_
  refine Ok.seg (j := 2) (fun _ => [(4, pt (b1 + 1 + 1) 0), (14, .func (.func 18) #[] #[pt b1 0, pt b9 0, pt (b9 + 1) 0, pt b10 0]), (15, .agg #[iw 1, iw 1, iw 19, iw 30, n0, s0, n0])]) (fun _ => [.blk b1 [iw 3, iw 1, iw 10] 24, .blk (b1 + 1) [iw 1, iw 1, iw 19, iw 30, n0, s0, n0] 44, .blk (b1 + 1 + 1) [iw 0, iw 0, iw 0, iw 0, n0, s0, n0] 44, .blk b9 [.func (.func 33) #[] #[pt q7 0]] 47, .blk (b9 + 1) [.func (.func 36) #[] #[pt q7 0]] 47, .blk b10 [.func (.func 18) #[] #[pt b1 0, pt b9 0, pt (b9 + 1) 0, pt b10 0]] 60]) (fun _ => [b10, b1 + 1, b1 + 1, b1 + 1, b1 + 1, b1 + 1, b1 + 1, b1 + 1]) (fun _ => []) [.g [.K 5 0], .g [.K 1 0, .K 1 1, .K 1 2, .K 1 3, .K 1 4, .K 1 5, .K 1 6]] [4, 14, 15] rfl (fun _ => by kernel_rfl) (fun _ => trivial) (fun _ => ?_)
  refine Ok.pubP 0 rfl [.blk (b1 + 1) [iw 1, iw 1, iw 19, iw 30, n0, s0, n0] 44, .blk (b1 + 1 + 1) [iw 0, iw 0, iw 0, iw 0, n0, s0, n0] 44, .blk b9 [.func (.func 33) #[] #[pt q7 0]] 47, .blk (b9 + 1) [.func (.func 36) #[] #[pt q7 0]] 47, .blk b10 [.func (.func 18) #[] #[pt b1 0, pt b9 0, pt (b9 + 1) 0, pt b10 0]] 60] rfl ?_
  intro H13 le14 pf15
  refine Ok.pubP 2 rfl [.blk (b1 + 1) [iw 1, iw 1, iw 19, iw 30, n0, s0, n0] 44, .blk (b1 + 1 + 1) [iw 0, iw 0, iw 0, iw 0, n0, s0, n0] 44, .blk (b9 + 1) [.func (.func 36) #[] #[pt q7 0]] 47, .blk b10 [.func (.func 18) #[] #[pt b1 0, pt b9 0, pt (b9 + 1) 0, pt b10 0]] 60] rfl ?_
  intro H16 le17 pf18
  refine Ok.pubP 2 rfl [.blk (b1 + 1) [iw 1, iw 1, iw 19, iw 30, n0, s0, n0] 44, .blk (b1 + 1 + 1) [iw 0, iw 0, iw 0, iw 0, n0, s0, n0] 44, .blk b10 [.func (.func 18) #[] #[pt b1 0, pt b9 0, pt (b9 + 1) 0, pt b10 0]] 60] rfl ?_
  intro H19 le20 pf21
  refine Ok.pubP 2 rfl [.blk (b1 + 1) [iw 1, iw 1, iw 19, iw 30, n0, s0, n0] 44, .blk (b1 + 1 + 1) [iw 0, iw 0, iw 0, iw 0, n0, s0, n0] 44] rfl ?_
  intro H22 le23 pf24
  refine Ok.eff (j := 3) rfl (Eff.call0 (d := some 16) (by kernel_rfl) (x18_153 H22 b1 b9 q7 (b9 + 1) b10 (Pre.mono (SLe.trans le17 (SLe.trans le20 le23)) pf15) (Pre.mono (SLe.trans le20 le23) pf18) (Pre.mono (SLe.trans le14 (SLe.trans le17 (SLe.trans le20 le23))) pf8) (Pre.mono le23 pf21) pf24) ?_)
  rintro v25 H26 k28 le27 rfl
  refine Ok.dropL ?_
  refine Ok.seg (j := 4) (fun _ => [(4, pt (b1 + 1 + 1) 0)]) (fun _ => [.blk (b1 + 1) [iw 1, iw 1, iw 19, iw 30, n0, s0, n0] 44, .blk (b1 + 1 + 1) [iw 1, iw 1, iw 10, iw 30, n0, s0, n0] 44]) (fun _ => [b1 + 1 + 1, b1 + 1 + 1, b1 + 1 + 1, b1 + 1 + 1, b1 + 1 + 1, b1 + 1 + 1, b1 + 1 + 1]) (fun _ => []) [.g [.K 1 0, .K 1 1, .K 1 2, .K 1 3, .K 1 4, .K 1 5, .K 1 6]] [4] rfl (fun _ => by kernel_rfl) (fun _ => trivial) (fun _ => ?_)
  refine Ok.segEnd rfl ?_
  refine Ok.thenN ?_
  refine Ok.ret_ ?_
  exact Ok.ret1c (SLe.trans le5 (SLe.trans le14 (SLe.trans le17 (SLe.trans le20 (SLe.trans le23 le27))))) [.K 1 0, .K 1 1, .K 1 2, .K 1 3, .K 1 4, .K 1 5, .K 1 6] (.agg #[iw 1, iw 1, iw 10, iw 30, n0, s0, n0]) [b1 + 1 + 1, b1 + 1 + 1, b1 + 1 + 1, b1 + 1 + 1, b1 + 1 + 1, b1 + 1 + 1, b1 + 1 + 1] rfl (by kernel_rfl) rfl
set_option maxRecDepth 100000 in
theorem x48_160 (H : Snap) : Does Tryd.prog 48 [iw 1] H [] (fun v H' kp => v = bT) := by
  refine Does.of Tryd.func48 rfl rfl rfl rfl (fun w0 H0 kx => ?_)
  refine Ok.seq ?_
  refine Ok.reg ?_
  refine Ok.seg (j := 1) (fun _ => [(0, iw 1), (2, bF)]) (fun _ => []) (fun _ => []) (fun _ => []) [.g []] [0, 2] rfl (fun _ => by kernel_rfl) (fun _ => trivial) (fun _ => ?_)
  refine Ok.segEnd rfl ?_
  refine Ok.thenN ?_
  refine Ok.seq ?_
  refine Ok.reg ?_
  refine Ok.seg (j := 7) (fun _ => [(2, bT)]) (fun _ => []) (fun _ => []) (fun _ => []) [.g [], .g [], .g [], .g [], .g [], .g [], .g []] [2] rfl (fun _ => by kernel_rfl) (fun _ => trivial) (fun _ => ?_)
  refine Ok.segEnd rfl ?_
  refine Ok.thenN ?_
  refine Ok.ret_ ?_
  exact Ok.ret1 (v := bT) (SLe.refl _) rfl rfl rfl
set_option maxRecDepth 100000 in
theorem x49_161 (H : Snap) (p0 : Nat) (hp0 : Pre H p0 [iw 1, bF, iw 10, s0]) : Does Tryd.prog 49 [.agg #[sl p0 0 1 1], iw 1] H [] (fun v H' kp => v = .agg #[bF, iw 10, s0]) := by
  refine Does.of Tryd.func49 rfl rfl rfl rfl (fun w0 H0 kx => ?_)
  refine Ok.seq ?_
  refine Ok.reg ?_
  refine Ok.seg (j := 2) (fun b1 => [(1, iw 1), (2, pt b1 0), (4, pt (b1 + 1) 0)]) (fun b1 => [.blk b1 [sl p0 0 1 1] 30, .blk (b1 + 1) [bF, iw 0, s0] 26]) (fun b1 => []) (fun b1 => []) [.g [.N], .g [.N]] [1, 2, 4] rfl (fun b1 => by kernel_rfl) (fun b1 => trivial) (fun b1 => ?_)
  refine Ok.segEnd rfl ?_
  refine Ok.thenN ?_
  refine Ok.seq ?_
  refine Ok.seq ?_
  refine Ok.reg ?_
  refine Ok.seg (j := 4) (fun _ => [(1, iw 1), (4, pt (b1 + 1) 0), (8, sl p0 0 1 1), (9, iw 1), (10, iw 0)]) (fun _ => [.blk b1 [sl p0 0 1 1] 30, .blk (b1 + 1) [bF, iw 0, s0] 26]) (fun _ => [b1]) (fun _ => []) [.g [], .g [.K 0 0], .g [], .g []] [1, 4, 8, 9, 10] rfl (fun _ => by kernel_rfl) (fun _ => trivial) (fun _ => ?_)
  refine Ok.segEnd rfl ?_
  refine Ok.thenN ?_
  refine Ok.blk ?_
  refine Ok.loopN 1 ?_
  refine Ok.round ?_
  refine Ok.seq ?_
  refine Ok.reg ?_
  refine Ok.seg (j := 1) (fun _ => [(1, iw 1), (4, pt (b1 + 1) 0), (8, sl p0 0 1 1), (9, iw 1), (10, iw 0), (11, bT)]) (fun _ => [.blk b1 [sl p0 0 1 1] 30, .blk (b1 + 1) [bF, iw 0, s0] 26]) (fun _ => []) (fun _ => []) [.g []] [1, 4, 8, 9, 10, 11] rfl (fun _ => by kernel_rfl) (fun _ => trivial) (fun _ => ?_)
  refine Ok.segEnd rfl ?_
  refine Ok.thenN ?_
  refine Ok.seq ?_
  refine Ok.condT rfl ?_
  refine Ok.skip_ ?_
  refine Ok.thenN ?_
  refine Ok.seq ?_
  refine Ok.blk ?_
  refine Ok.seq ?_
  refine Ok.reg ?_
  refine Ok.seg (j := 4) (fun b4 => [(1, iw 1), (4, pt (b1 + 1) 0), (6, pt b4 0), (8, sl p0 0 1 1), (9, iw 1), (10, iw 0), (11, bT), (12, pt p0 0), (13, .agg #[iw 1, bF, iw 10, s0])]) (fun b4 => [.blk b1 [sl p0 0 1 1] 30, .blk (b1 + 1) [bF, iw 0, s0] 26, .blk b4 [iw 1, bF, iw 10, s0] 39]) (fun b4 => [b4, b4, b4, b4]) (fun b4 => [HasCell H ⟨p0, 0, none⟩ (iw 1), HasCell H ⟨p0, 1, none⟩ (bF), HasCell H ⟨p0, 2, none⟩ (iw 10), HasCell H ⟨p0, 3, none⟩ (s0)]) [.g [], .g [.X (iw 1), .X (bF), .X (iw 10), .X (s0)], .g [.N], .g [.K 2 0, .K 2 1, .K 2 2, .K 2 3]] [1, 4, 6, 8, 9, 10, 11, 12, 13] rfl (fun b4 => by kernel_rfl) (fun b4 => ⟨Pre.cell hp0 0 rfl, Pre.cell hp0 1 rfl, Pre.cell hp0 2 rfl, Pre.cell hp0 3 rfl, trivial⟩) (fun b4 => ?_)
  refine Ok.segEnd rfl ?_
  refine Ok.thenN ?_
  refine Ok.seq ?_
  refine Ok.reg ?_
  refine Ok.seg (j := 4) (fun _ => [(1, iw 1), (4, pt (b1 + 1) 0), (6, pt b4 0), (8, sl p0 0 1 1), (9, iw 1), (10, iw 0), (11, bT), (12, pt p0 0), (13, .agg #[iw 1, bF, iw 10, s0]), (14, pt b4 0), (15, iw 1), (16, iw 1), (17, bT)]) (fun _ => [.blk b1 [sl p0 0 1 1] 30, .blk (b1 + 1) [bF, iw 0, s0] 26, .blk b4 [iw 1, bF, iw 10, s0] 39]) (fun _ => [b4]) (fun _ => []) [.g [], .g [.K 2 0], .g [], .g []] [1, 4, 6, 8, 9, 10, 11, 12, 13, 14, 15, 16, 17] rfl (fun _ => by kernel_rfl) (fun _ => trivial) (fun _ => ?_)
  refine Ok.segEnd rfl ?_
  refine Ok.thenN ?_
  refine Ok.condT rfl ?_
  refine Ok.seq ?_
  refine Ok.reg ?_
  refine Ok.seg (j := 3) (fun _ => [(1, iw 1), (4, pt (b1 + 1) 0), (6, pt b4 0), (8, sl p0 0 1 1), (9, iw 1), (10, iw 0), (11, bT), (12, pt p0 0), (13, .agg #[iw 1, bF, iw 10, s0]), (14, pt b4 0), (15, iw 1), (16, iw 1), (17, bT), (18, pt b4 1), (19, .agg #[bF, iw 10, s0])]) (fun _ => [.blk b1 [sl p0 0 1 1] 30, .blk (b1 + 1) [bF, iw 10, s0] 26, .blk b4 [iw 1, bF, iw 10, s0] 39]) (fun _ => [b4, b4, b4, b1 + 1, b1 + 1, b1 + 1]) (fun _ => []) [.g [], .g [.K 2 1, .K 2 2, .K 2 3], .g [.K 1 0, .K 1 1, .K 1 2]] [1, 4, 6, 8, 9, 10, 11, 12, 13, 14, 15, 16, 17, 18, 19] rfl (fun _ => by kernel_rfl) (fun _ => trivial) (fun _ => ?_)
  refine Ok.segEnd rfl ?_
  refine Ok.thenN ?_
  refine Ok.ret_ ?_
  refine Ok.blkR ?_
  refine Ok.thenR ?_
  refine Ok.thenR ?_
  refine Ok.blkR ?_
  refine Ok.thenR ?_
  exact Ok.ret1c (SLe.refl _) [.K 1 0, .K 1 1, .K 1 2] (.agg #[bF, iw 10, s0]) [b1 + 1, b1 + 1, b1 + 1] rfl (by kernel_rfl) rfl
set_option maxRecDepth 100000 in
theorem x50_162 (H : Snap) : Does Tryd.prog 50 [bT] H [] (fun v H' kp => v = iw 1) := by
  refine Does.of Tryd.func50 rfl rfl rfl rfl (fun w0 H0 kx => ?_)
  refine Ok.seq ?_
  refine Ok.reg ?_
  refine Ok.seg (j := 1) (fun _ => [(0, bT), (2, iw 0)]) (fun _ => []) (fun _ => []) (fun _ => []) [.g []] [0, 2] rfl (fun _ => by kernel_rfl) (fun _ => trivial) (fun _ => ?_)
  refine Ok.segEnd rfl ?_
  refine Ok.thenN ?_
  refine Ok.seq ?_
  refine Ok.seq ?_
  refine Ok.reg ?_
  refine Ok.seg (j := 1) (fun _ => [(2, iw 0), (3, bT)]) (fun _ => []) (fun _ => []) (fun _ => []) [.g []] [2, 3] rfl (fun _ => by kernel_rfl) (fun _ => trivial) (fun _ => ?_)
  refine Ok.segEnd rfl ?_
  refine Ok.thenN ?_
  refine Ok.condT rfl ?_
  refine Ok.seq ?_
  refine Ok.reg ?_
  refine Ok.seg (j := 1) (fun _ => [(2, iw 1)]) (fun _ => []) (fun _ => []) (fun _ => []) [.g []] [2] rfl (fun _ => by kernel_rfl) (fun _ => trivial) (fun _ => ?_)
  refine Ok.segEnd rfl ?_
  refine Ok.thenN ?_
  refine Ok.ret_ ?_
  refine Ok.thenR ?_
  exact Ok.ret1 (v := iw 1) (SLe.refl _) rfl rfl rfl
set_option maxRecDepth 100000 in
theorem x27_159 (H : Snap) (p0 : Nat) (hp0 : Pre H p0 [iw 1, bF, iw 10, s0]) : Does Tryd.prog 27 [.agg #[iw 1, iw 1, iw 10, iw 30, n0, s0, n0], .agg #[sl p0 0 1 1]] H [] (fun v H' kp => v = iw 1) := by
  refine Does.of Tryd.func27 rfl rfl rfl rfl (fun w0 H0 kx => ?_)
  refine Ok.seq ?_
  refine Ok.reg ?_
  refine Ok.seg (j := 3) (fun b1 => [(2, pt b1 0), (3, pt (b1 + 1) 0), (4, iw 0)]) (fun b1 => [.blk b1 [iw 1, iw 1, iw 10, iw 30, n0, s0, n0] 44, .blk (b1 + 1) [sl p0 0 1 1] 30]) (fun b1 => []) (fun b1 => []) [.g [.N], .g [.N], .g []] [2, 3, 4] rfl (fun b1 => by kernel_rfl) (fun b1 => trivial) (fun b1 => ?_)
  refine Ok.segEnd rfl ?_
  refine Ok.thenN ?_
  refine Ok.seq ?_
  refine Ok.reg ?_
  refine Ok.seg (j := 2) (fun _ => [(2, pt b1 0), (3, pt (b1 + 1) 0), (4, iw 0), (5, .func (.func 46) #[] #[pt (b1 + 1) 0])]) (fun _ => [.blk b1 [iw 1, iw 1, iw 10, iw 30, n0, s0, n0] 44, .blk (b1 + 1) [sl p0 0 1 1] 30]) (fun _ => []) (fun _ => []) [.g [], .g []] [2, 3, 4, 5] rfl (fun _ => by kernel_rfl) (fun _ => trivial) (fun _ => ?_)
  refine Ok.segEnd rfl ?_
  refine Ok.thenN ?_
  refine Ok.seq ?_
  refine Ok.seq ?_
  refine Ok.reg ?_
  refine Ok.seg (j := 2) (fun _ => [(2, pt b1 0), (3, pt (b1 + 1) 0), (4, iw 0), (5, .func (.func 46) #[] #[pt (b1 + 1) 0]), (10, iw 1)]) (fun _ => [.blk b1 [iw 1, iw 1, iw 10, iw 30, n0, s0, n0] 44, .blk (b1 + 1) [sl p0 0 1 1] 30]) (fun _ => [b1]) (fun _ => []) [.g [], .g [.K 0 0]] [2, 3, 4, 5, 10] rfl (fun _ => by kernel_rfl) (fun _ => trivial) (fun _ => ?_)
  refine Ok.segEnd rfl ?_
  refine Ok.thenN ?_
  refine Ok.blk ?_
  refine Ok.seq ?_
  refine Ok.reg ?_
  refine Ok.seg (j := 2) (fun _ => [(2, pt b1 0), (3, pt (b1 + 1) 0), (4, iw 0), (5, .func (.func 46) #[] #[pt (b1 + 1) 0]), (10, iw 1), (11, bF)]) (fun _ => [.blk b1 [iw 1, iw 1, iw 10, iw 30, n0, s0, n0] 44, .blk (b1 + 1) [sl p0 0 1 1] 30]) (fun _ => []) (fun _ => []) [.g [], .g []] [2, 3, 4, 5, 10, 11] rfl (fun _ => by kernel_rfl) (fun _ => trivial) (fun _ => ?_)
  refine Ok.segEnd rfl ?_
  refine Ok.thenN ?_
  refine Ok.condF rfl ?_
  refine Ok.seq ?_
  refine Ok.reg ?_
  refine Ok.seg (j := 2) (fun _ => [(2, pt b1 0), (3, pt (b1 + 1) 0), (4, iw 0), (5, .func (.func 46) #[] #[pt (b1 + 1) 0]), (10, iw 1), (13, bF)]) (fun _ => [.blk b1 [iw 1, iw 1, iw 10, iw 30, n0, s0, n0] 44, .blk (b1 + 1) [sl p0 0 1 1] 30]) (fun _ => []) (fun _ => []) [.g [], .g []] [2, 3, 4, 5, 10, 13] rfl (fun _ => by kernel_rfl) (fun _ => trivial) (fun _ => ?_)
  refine Ok.segEnd rfl ?_
  refine Ok.thenN ?_
  refine Ok.condF rfl ?_
  refine Ok.seq ?_
  refine Ok.reg ?_
  refine Ok.seg (j := 2) (fun _ => [(2, pt b1 0), (3, pt (b1 + 1) 0), (4, iw 0), (5, .func (.func 46) #[] #[pt (b1 + 1) 0]), (10, iw 1), (19, bF)]) (fun _ => [.blk b1 [iw 1, iw 1, iw 10, iw 30, n0, s0, n0] 44, .blk (b1 + 1) [sl p0 0 1 1] 30]) (fun _ => []) (fun _ => []) [.g [], .g []] [2, 3, 4, 5, 10, 19] rfl (fun _ => by kernel_rfl) (fun _ => trivial) (fun _ => ?_)
  refine Ok.segEnd rfl ?_
  refine Ok.thenN ?_
  refine Ok.condF rfl ?_
  refine Ok.seq ?_
  refine Ok.reg ?_
  refine Ok.seg (j := 2) (fun _ => [(2, pt b1 0), (3, pt (b1 + 1) 0), (4, iw 0), (5, .func (.func 46) #[] #[pt (b1 + 1) 0]), (25, bF)]) (fun _ => [.blk b1 [iw 1, iw 1, iw 10, iw 30, n0, s0, n0] 44, .blk (b1 + 1) [sl p0 0 1 1] 30]) (fun _ => []) (fun _ => []) [.g [], .g []] [2, 3, 4, 5, 25] rfl (fun _ => by kernel_rfl) (fun _ => trivial) (fun _ => ?_)
  refine Ok.segEnd rfl ?_
  refine Ok.thenN ?_
  refine Ok.condF rfl ?_
  refine Ok.skip_ ?_
  refine Ok.blkN ?_
  refine Ok.thenN ?_
  refine Ok.seq ?_
  refine Ok.seq ?_
  refine Ok.reg ?_
  refine Ok.seg (j := 2) (fun _ => [(2, pt b1 0), (3, pt (b1 + 1) 0), (4, iw 0), (42, iw 1)]) (fun _ => [.blk b1 [iw 1, iw 1, iw 10, iw 30, n0, s0, n0] 44, .blk (b1 + 1) [sl p0 0 1 1] 30]) (fun _ => [b1]) (fun _ => []) [.g [], .g [.K 0 0]] [2, 3, 4, 42] rfl (fun _ => by kernel_rfl) (fun _ => trivial) (fun _ => ?_)
  refine Ok.eff (j := 3) rfl (Eff.call0 (d := some 43) (by kernel_rfl) (x48_160 H) ?_)
  rintro v9 H10 k12 le11 rfl
  refine Ok.dropL ?_
  refine Ok.seg (j := 4) (fun _ => [(2, pt b1 0), (3, pt (b1 + 1) 0), (4, iw 0), (44, bF)]) (fun _ => [.blk b1 [iw 1, iw 1, iw 10, iw 30, n0, s0, n0] 44, .blk (b1 + 1) [sl p0 0 1 1] 30]) (fun _ => []) (fun _ => []) [.g []] [2, 3, 4, 44] rfl (fun _ => by kernel_rfl) (fun _ => trivial) (fun _ => ?_)
  refine Ok.segEnd rfl ?_
  refine Ok.thenN ?_
  refine Ok.condF rfl ?_
  refine Ok.skip_ ?_
  refine Ok.thenN ?_
  refine Ok.seq ?_
  refine Ok.reg ?_
  refine Ok.seg (j := 3) (fun _ => [(2, pt b1 0), (4, iw 0), (45, .agg #[sl p0 0 1 1]), (47, iw 1)]) (fun _ => [.blk b1 [iw 1, iw 1, iw 10, iw 30, n0, s0, n0] 44, .blk (b1 + 1) [sl p0 0 1 1] 30]) (fun _ => [b1 + 1, b1]) (fun _ => []) [.g [.K 1 0], .g [], .g [.K 0 1]] [2, 4, 45, 47] rfl (fun _ => by kernel_rfl) (fun _ => trivial) (fun _ => ?_)
  refine Ok.eff (j := 4) rfl (Eff.call0 (d := some 48) (by kernel_rfl) (x49_161 H10 p0 (Pre.mono le11 hp0)) ?_)
  rintro v15 H16 k18 le17 rfl
  refine Ok.dropL ?_
  refine Ok.seg (j := 6) (fun b19 => [(2, pt b1 0), (4, iw 0), (7, pt b19 0)]) (fun b19 => [.blk b1 [iw 1, iw 1, iw 10, iw 30, n0, s0, n0] 44, .blk (b1 + 1) [sl p0 0 1 1] 30, .blk b19 [bF, iw 10, s0] 26]) (fun b19 => [b19, b19, b19]) (fun b19 => []) [.g [.N], .g [.K 2 0, .K 2 1, .K 2 2]] [2, 4, 7] rfl (fun b19 => by kernel_rfl) (fun b19 => trivial) (fun b19 => ?_)
  refine Ok.segEnd rfl ?_
  refine Ok.thenN ?_
  refine Ok.seq ?_
  refine Ok.blk ?_
  refine Ok.seq ?_
  refine Ok.reg ?_
  refine Ok.seg (j := 4) (fun _ => [(2, pt b1 0), (4, iw 0), (7, pt b19 0), (49, bF)]) (fun _ => [.blk b1 [iw 1, iw 1, iw 10, iw 30, n0, s0, n0] 44, .blk (b1 + 1) [sl p0 0 1 1] 30, .blk b19 [bF, iw 10, s0] 26]) (fun _ => [b1]) (fun _ => []) [.g [], .g [.K 0 0], .g [], .g []] [2, 4, 7, 49] rfl (fun _ => by kernel_rfl) (fun _ => trivial) (fun _ => ?_)
  refine Ok.segEnd rfl ?_
  refine Ok.thenN ?_
  refine Ok.condF rfl ?_
  refine Ok.seq ?_
  refine Ok.reg ?_
  refine Ok.seg (j := 3) (fun _ => [(2, pt b1 0), (4, iw 0), (7, pt b19 0), (56, bF)]) (fun _ => [.blk b1 [iw 1, iw 1, iw 10, iw 30, n0, s0, n0] 44, .blk (b1 + 1) [sl p0 0 1 1] 30, .blk b19 [bF, iw 10, s0] 26]) (fun _ => [b19]) (fun _ => []) [.g [], .g [.K 2 0], .g []] [2, 4, 7, 56] rfl (fun _ => by kernel_rfl) (fun _ => trivial) (fun _ => ?_)
  refine Ok.segEnd rfl ?_
  refine Ok.thenN ?_
  refine Ok.condF rfl ?_
  refine Ok.seq ?_
  refine Ok.reg ?_
  refine Ok.seg (j := 4) (fun _ => [(2, pt b1 0), (4, iw 0), (7, pt b19 0), (59, bT)]) (fun _ => [.blk b1 [iw 1, iw 1, iw 10, iw 30, n0, s0, n0] 44, .blk (b1 + 1) [sl p0 0 1 1] 30, .blk b19 [bF, iw 10, s0] 26]) (fun _ => [b1]) (fun _ => []) [.g [], .g [.K 0 0], .g [], .g []] [2, 4, 7, 59] rfl (fun _ => by kernel_rfl) (fun _ => trivial) (fun _ => ?_)
  refine Ok.segEnd rfl ?_
  refine Ok.thenN ?_
  refine Ok.condT rfl ?_
  refine Ok.seq ?_
  refine Ok.reg ?_
  refine Ok.seg (j := 12) (fun _ => [(2, pt b1 0), (4, iw 0), (7, pt b19 0), (74, bT)]) (fun _ => [.blk b1 [iw 1, iw 1, iw 10, iw 30, n0, s0, n0] 44, .blk (b1 + 1) [sl p0 0 1 1] 30, .blk b19 [bF, iw 10, s0] 26]) (fun _ => [b1, b19, b19, b1]) (fun _ => []) [.g [], .g [.K 0 2], .g [], .g [.K 2 1], .g [], .g [], .g [], .g [.K 2 1], .g [], .g [.K 0 3], .g [], .g []] [2, 4, 7, 74] rfl (fun _ => by kernel_rfl) (fun _ => trivial) (fun _ => ?_)
  refine Ok.eff (j := 13) rfl (Eff.call0 (d := some 75) (by kernel_rfl) (x50_162 H16) ?_)
  rintro v24 H25 k27 le26 rfl
  refine Ok.dropL ?_
  refine Ok.seg (j := 14) (fun _ => [(2, pt b1 0), (4, iw 1), (7, pt b19 0)]) (fun _ => [.blk b1 [iw 1, iw 1, iw 10, iw 30, n0, s0, n0] 44, .blk (b1 + 1) [sl p0 0 1 1] 30, .blk b19 [bF, iw 10, s0] 26]) (fun _ => []) (fun _ => []) [.g []] [2, 4, 7] rfl (fun _ => by kernel_rfl) (fun _ => trivial) (fun _ => ?_)
  refine Ok.segEnd rfl ?_
  refine Ok.thenN ?_
  refine Ok.ret_ ?_
  refine Ok.blkR ?_
  refine Ok.thenR ?_
  refine Ok.dropAll ?_
  exact Ok.ret1 (v := iw 1) (SLe.trans le11 (SLe.trans le17 le26)) rfl rfl rfl
set_option maxRecDepth 100000 in
theorem x13_151 (H : Snap) (p0 p1 : Nat) (hp0 : Pre H p0 [iw 3, iw 1, iw 10]) (hp1 : Pre H p1 [bF, iw 10, s0]) : Does Tryd.prog 13 [sl p0 0 1 1, sl p1 0 1 1, .agg #[iw 1, iw 1, iw 19, iw 30, n0, s0, n0]] H [] (fun v H' kp => v = bT) := by
  refine Does.of Tryd.func13 rfl rfl rfl rfl (fun w0 H0 kx => ?_)
  refine Ok.seq ?_
  refine Ok.reg ?_
  refine Ok.seg (j := 2) (fun b1 => [(0, sl p0 0 1 1), (1, sl p1 0 1 1), (5, pt b1 0), (6, bF)]) (fun b1 => [.blk b1 [iw 1, iw 1, iw 19, iw 30, n0, s0, n0] 44]) (fun b1 => []) (fun b1 => []) [.g [.N], .g []] [0, 1, 5, 6] rfl (fun b1 => by kernel_rfl) (fun b1 => trivial) (fun b1 => ?_)
  refine Ok.segEnd rfl ?_
  refine Ok.thenN ?_
  refine Ok.seq ?_
  refine Ok.seq ?_
  refine Ok.reg ?_
  refine Ok.seg (j := 6) (fun _ => [(0, sl p0 0 1 1), (1, sl p1 0 1 1), (5, pt b1 0), (6, bF), (13, iw 1), (14, iw 0)]) (fun _ => [.blk b1 [iw 1, iw 1, iw 19, iw 30, n0, s0, n0] 44]) (fun _ => []) (fun _ => []) [.g [], .g [], .g [], .g [], .g [], .g []] [0, 1, 5, 6, 13, 14] rfl (fun _ => by kernel_rfl) (fun _ => trivial) (fun _ => ?_)
  refine Ok.segEnd rfl ?_
  refine Ok.thenN ?_
  refine Ok.blk ?_
  refine Ok.loopN 2 ?_
  refine Ok.round ?_
  refine Ok.seq ?_
  refine Ok.reg ?_
  refine Ok.seg (j := 1) (fun _ => [(0, sl p0 0 1 1), (1, sl p1 0 1 1), (5, pt b1 0), (6, bF), (13, iw 1), (14, iw 0), (15, bT)]) (fun _ => [.blk b1 [iw 1, iw 1, iw 19, iw 30, n0, s0, n0] 44]) (fun _ => []) (fun _ => []) [.g []] [0, 1, 5, 6, 13, 14, 15] rfl (fun _ => by kernel_rfl) (fun _ => trivial) (fun _ => ?_)
  refine Ok.segEnd rfl ?_
  refine Ok.thenN ?_
  refine Ok.seq ?_
  refine Ok.condT rfl ?_
  refine Ok.skip_ ?_
  refine Ok.thenN ?_
  refine Ok.seq ?_
  refine Ok.blk ?_
  refine Ok.seq ?_
  refine Ok.reg ?_
  refine Ok.seg (j := 2) (fun _ => [(0, sl p0 0 1 1), (1, sl p1 0 1 1), (5, pt b1 0), (6, bF), (7, iw 0), (13, iw 1), (14, iw 0), (15, bT), (16, iw 0)]) (fun _ => [.blk b1 [iw 1, iw 1, iw 19, iw 30, n0, s0, n0] 44]) (fun _ => []) (fun _ => []) [.g [], .g []] [0, 1, 5, 6, 7, 13, 14, 15, 16] rfl (fun _ => by kernel_rfl) (fun _ => trivial) (fun _ => ?_)
  refine Ok.segEnd rfl ?_
  refine Ok.thenN ?_
  refine Ok.seq ?_
  refine Ok.reg ?_
  refine Ok.seg (j := 1) (fun b5 => [(0, sl p0 0 1 1), (1, sl p1 0 1 1), (5, pt b1 0), (6, bF), (7, iw 0), (8, pt b5 0), (13, iw 1), (14, iw 0), (15, bT), (16, iw 0)]) (fun b5 => [.blk b1 [iw 1, iw 1, iw 19, iw 30, n0, s0, n0] 44, .blk b5 [n0] 30]) (fun b5 => []) (fun b5 => []) [.g [.N]] [0, 1, 5, 6, 7, 8, 13, 14, 15, 16] rfl (fun b5 => by kernel_rfl) (fun b5 => trivial) (fun b5 => ?_)
  refine Ok.segEnd rfl ?_
  refine Ok.thenN ?_
  refine Ok.seq ?_
  refine Ok.seq ?_
  refine Ok.reg ?_
  refine Ok.seg (j := 6) (fun _ => [(0, sl p0 0 1 1), (1, sl p1 0 1 1), (5, pt b1 0), (6, bF), (7, iw 0), (8, pt b5 0), (13, iw 1), (14, iw 0), (15, bT), (16, iw 0), (17, sl p1 0 1 1), (18, iw 0), (19, pt p1 0), (20, pt p1 0), (21, bF), (22, bT)]) (fun _ => [.blk b1 [iw 1, iw 1, iw 19, iw 30, n0, s0, n0] 44, .blk b5 [n0] 30]) (fun _ => []) (fun _ => [HasCell H ⟨p1, 0, none⟩ (bF)]) [.g [], .g [], .g [], .g [], .g [.X (bF)], .g []] [0, 1, 5, 6, 7, 8, 13, 14, 15, 16, 17, 18, 19, 20, 21, 22] rfl (fun _ => by kernel_rfl) (fun _ => ⟨Pre.cell hp1 0 rfl, trivial⟩) (fun _ => ?_)
  refine Ok.segEnd rfl ?_
  refine Ok.thenN ?_
  refine Ok.condT rfl ?_
  refine Ok.start (idx := [0]) [] [.blk b1 [iw 1, iw 1, iw 19, iw 30, n0, s0, n0] 44] (by kernel_rfl) rfl rfl rfl ?_
  refine Ok.take (fuel' := 3) (l' := [true, true, true, true, true, true, true, true, true, true, false, false, false]) (qs := [(0, .g []), (1, .g []), (2, .g []), (3, .g []), (4, .g [.X (iw 1)]), (5, .g []), (6, .g []), (7, .g []), (8, .g [.X (bF), .X (iw 10), .X (s0)]), (9, .g [])]) [(0, sl p0 0 1 1), (1, sl p1 0 1 1), (5, pt b1 0), (6, bF), (7, iw 0), (8, pt b5 0), (13, iw 1), (14, iw 0), (15, bT), (16, iw 0), (17, sl p1 0 1 1), (18, iw 0), (19, pt p1 0), (20, pt p1 0), (21, bF), (22, bT), (23, sl p0 0 1 1), (24, iw 0), (25, pt p0 0), (26, pt p0 1), (27, iw 1), (28, sl p1 0 1 1), (29, iw 0), (30, pt p1 0), (31, .agg #[bF, iw 10, s0]), (32, .agg #[iw 1, bF, iw 10, s0])] [] [HasCell H ⟨p0, 1, none⟩ (iw 1), HasCell H ⟨p1, 0, none⟩ (bF), HasCell H ⟨p1, 1, none⟩ (iw 10), HasCell H ⟨p1, 2, none⟩ (s0)] [0, 1, 5, 6, 7, 8, 13, 14, 15, 16, 17, 18, 19, 20, 21, 22, 23, 24, 25, 26, 27, 28, 29, 30, 31, 32] (by intro c a w d v h; cases d <;> exact h) (by kernel_rfl) rfl ⟨Pre.cell hp0 1 rfl, Pre.cell hp1 0 rfl, Pre.cell hp1 1 rfl, Pre.cell hp1 2 rfl, trivial⟩ ?_
  refine Ok.one (i := 10) (fuel' := 2) (l' := [true, true, true, true, true, true, true, true, true, true, true, false, false]) (by kernel_rfl) rfl rfl (Eff.op (.g [.N]) (fun b7 => [(0, sl p0 0 1 1), (1, sl p1 0 1 1), (5, pt b1 0), (6, bF), (7, iw 0), (8, pt b5 0), (13, iw 1), (14, iw 0), (15, bT), (16, iw 0), (17, sl p1 0 1 1), (18, iw 0), (19, pt p1 0), (20, pt p1 0), (21, bF), (22, bT), (23, sl p0 0 1 1), (24, iw 0), (25, pt p0 0), (26, pt p0 1), (27, iw 1), (28, sl p1 0 1 1), (29, iw 0), (30, pt p1 0), (31, .agg #[bF, iw 10, s0]), (32, .agg #[iw 1, bF, iw 10, s0]), (33, sl b7 0 1 1)]) (fun b7 => [.blk b1 [iw 1, iw 1, iw 19, iw 30, n0, s0, n0] 44, .blk b5 [n0] 30, .blk b7 [iw 1, bF, iw 10, s0] 39]) (fun b7 => []) (fun b7 => []) [0, 1, 5, 6, 7, 8, 13, 14, 15, 16, 17, 18, 19, 20, 21, 22, 23, 24, 25, 26, 27, 28, 29, 30, 31, 32, 33] (fun b7 => by kernel_rfl) (fun b7 => trivial) (fun b7 => ?_))
  refine Ok.withS (idx := [0]) (SLe.refl _) rfl ?_
  refine Ok.take (fuel' := 1) (l' := [true, true, true, true, true, true, true, true, true, true, true, true, false]) (qs := [(11, .g [])]) [(0, sl p0 0 1 1), (1, sl p1 0 1 1), (5, pt b1 0), (6, bF), (7, iw 0), (8, pt b5 0), (13, iw 1), (14, iw 0), (15, bT), (16, iw 0), (17, sl p1 0 1 1), (18, iw 0), (19, pt p1 0), (20, pt p1 0), (21, bF), (22, bT), (23, sl p0 0 1 1), (24, iw 0), (25, pt p0 0), (26, pt p0 1), (27, iw 1), (28, sl p1 0 1 1), (29, iw 0), (30, pt p1 0), (31, .agg #[bF, iw 10, s0]), (32, .agg #[iw 1, bF, iw 10, s0]), (33, sl b7 0 1 1), (34, pt b5 0)] [] [] [0, 1, 5, 6, 7, 8, 13, 14, 15, 16, 17, 18, 19, 20, 21, 22, 23, 24, 25, 26, 27, 28, 29, 30, 31, 32, 33, 34] (by intro c a w d v h; cases d <;> exact h) (by kernel_rfl) rfl trivial ?_
  refine Ok.one (i := 12) (fuel' := 0) (l' := [true, true, true, true, true, true, true, true, true, true, true, true, true]) (by kernel_rfl) rfl rfl (Eff.op (.g [.K 1 0]) (fun _ => [(0, sl p0 0 1 1), (1, sl p1 0 1 1), (5, pt b1 0), (6, bF), (7, iw 0), (8, pt b5 0), (13, iw 1), (14, iw 0), (15, bT), (16, iw 0), (17, sl p1 0 1 1), (18, iw 0), (19, pt p1 0), (20, pt p1 0), (21, bF), (22, bT), (23, sl p0 0 1 1), (24, iw 0), (25, pt p0 0), (26, pt p0 1), (27, iw 1), (28, sl p1 0 1 1), (29, iw 0), (30, pt p1 0), (31, .agg #[bF, iw 10, s0]), (32, .agg #[iw 1, bF, iw 10, s0]), (33, sl b7 0 1 1), (34, pt b5 0)]) (fun _ => [.blk b1 [iw 1, iw 1, iw 19, iw 30, n0, s0, n0] 44, .blk b5 [sl b7 0 1 1] 30, .blk b7 [iw 1, bF, iw 10, s0] 39]) (fun _ => [b5]) (fun _ => []) [0, 1, 5, 6, 7, 8, 13, 14, 15, 16, 17, 18, 19, 20, 21, 22, 23, 24, 25, 26, 27, 28, 29, 30, 31, 32, 33, 34] (fun _ => by kernel_rfl) (fun _ => trivial) (fun _ => ?_))
  refine Ok.withS (idx := [0]) (SLe.refl _) rfl ?_
  refine Ok.done (by kernel_rfl) ?_
  refine Ok.thenN ?_
  refine Ok.seq ?_
  refine Ok.pubP 2 rfl [.blk b1 [iw 1, iw 1, iw 19, iw 30, n0, s0, n0] 44, .blk b5 [sl b7 0 1 1] 30] rfl ?_
  intro H9 le10 pf11
  refine Ok.start (idx := [0, 1]) [] [.blk b1 [iw 1, iw 1, iw 19, iw 30, n0, s0, n0] 44, .blk b5 [sl b7 0 1 1] 30] (by kernel_rfl) rfl rfl rfl ?_
  refine Ok.take (fuel' := 3) (l' := [true, true, true, true, true, false, true, false, false]) (qs := [(0, .g []), (1, .g []), (2, .g []), (3, .g [.X (iw 3), .X (iw 1), .X (iw 10)]), (4, .g [.K 0 0, .K 0 1, .K 0 2, .K 0 3, .K 0 4, .K 0 5, .K 0 6]), (6, .g [.K 1 0])]) [(0, sl p0 0 1 1), (1, sl p1 0 1 1), (5, pt b1 0), (6, bF), (7, iw 0), (8, pt b5 0), (13, iw 1), (14, iw 0), (15, bT), (16, iw 0), (17, sl p1 0 1 1), (18, iw 0), (19, pt p1 0), (20, pt p1 0), (21, bF), (22, bT), (23, sl p0 0 1 1), (24, iw 0), (25, pt p0 0), (26, pt p0 1), (27, iw 1), (28, sl p1 0 1 1), (29, iw 0), (30, pt p1 0), (31, .agg #[bF, iw 10, s0]), (32, .agg #[iw 1, bF, iw 10, s0]), (33, sl b7 0 1 1), (34, pt b5 0), (35, sl p0 0 1 1), (36, iw 0), (37, pt p0 0), (38, .agg #[iw 3, iw 1, iw 10]), (39, .agg #[iw 1, iw 1, iw 19, iw 30, n0, s0, n0]), (41, .agg #[sl b7 0 1 1])] [b1, b1, b1, b1, b1, b1, b1, b5] [HasCell H9 ⟨p0, 0, none⟩ (iw 3), HasCell H9 ⟨p0, 1, none⟩ (iw 1), HasCell H9 ⟨p0, 2, none⟩ (iw 10)] [0, 1, 5, 6, 7, 8, 13, 14, 15, 16, 17, 18, 19, 20, 21, 22, 23, 24, 25, 26, 27, 28, 29, 30, 31, 32, 33, 34, 35, 36, 37, 38, 39, 41] (by intro c a w d v h; cases d <;> exact h) (by kernel_rfl) rfl ⟨Pre.cell (Pre.mono le10 hp0) 0 rfl, Pre.cell (Pre.mono le10 hp0) 1 rfl, Pre.cell (Pre.mono le10 hp0) 2 rfl, trivial⟩ ?_
  refine Ok.one (i := 5) (fuel' := 2) (l' := [true, true, true, true, true, true, true, false, false]) (by kernel_rfl) rfl rfl (Eff.call0 (d := some 40) (by kernel_rfl) (x8_152 H9) ?_)
  rintro v12 H13 k15 le14 rfl
  refine Ok.dropL ?_
  refine Ok.withS (idx := [0, 1]) le14 rfl ?_
  refine Ok.one (i := 7) (fuel' := 1) (l' := [true, true, true, true, true, true, true, true, false]) (by kernel_rfl) rfl rfl (Eff.call0 (d := some 42) (by kernel_rfl) (x27_159 H13 b7 (Pre.mono le14 pf11)) ?_)
  rintro v16 H17 k19 le18 rfl
  refine Ok.dropL ?_
  refine Ok.withS (idx := [0, 1]) (SLe.trans le14 le18) rfl ?_
  refine Ok.take (fuel' := 0) (l' := [true, true, true, true, true, true, true, true, true]) (qs := [(8, .g [])]) [(0, sl p0 0 1 1), (1, sl p1 0 1 1), (5, pt b1 0), (6, bF), (7, iw 0), (8, pt b5 0), (13, iw 1), (14, iw 0), (15, bT), (16, iw 0), (17, sl p1 0 1 1), (18, iw 0), (19, pt p1 0), (20, pt p1 0), (21, bF), (22, bT), (23, sl p0 0 1 1), (24, iw 0), (25, pt p0 0), (26, pt p0 1), (27, iw 1), (28, sl p1 0 1 1), (29, iw 0), (30, pt p1 0), (31, .agg #[bF, iw 10, s0]), (32, .agg #[iw 1, bF, iw 10, s0]), (33, sl b7 0 1 1), (34, pt b5 0), (35, sl p0 0 1 1), (36, iw 0), (37, pt p0 0), (38, .agg #[iw 3, iw 1, iw 10]), (39, .agg #[iw 1, iw 1, iw 19, iw 30, n0, s0, n0]), (40, .agg #[iw 1, iw 1, iw 10, iw 30, n0, s0, n0]), (41, .agg #[sl b7 0 1 1]), (42, iw 1), (43, bF)] [] [] [0, 1, 5, 6, 7, 8, 13, 14, 15, 16, 17, 18, 19, 20, 21, 22, 23, 24, 25, 26, 27, 28, 29, 30, 31, 32, 33, 34, 35, 36, 37, 38, 39, 40, 41, 42, 43] (by intro c a w d v h; cases d <;> exact h) (by kernel_rfl) rfl trivial ?_
  refine Ok.done (by kernel_rfl) ?_
  refine Ok.thenN ?_
  refine Ok.condF rfl ?_
  refine Ok.skip_ ?_
  refine Ok.blkN ?_
  refine Ok.thenN ?_
  refine Ok.reg ?_
  refine Ok.seg (j := 2) (fun _ => [(0, sl p0 0 1 1), (1, sl p1 0 1 1), (5, pt b1 0), (6, bF), (7, iw 0), (8, pt b5 0), (13, iw 1), (14, iw 1), (15, bT), (16, iw 0), (17, sl p1 0 1 1), (18, iw 0), (19, pt p1 0), (20, pt p1 0), (21, bF), (22, bT), (23, sl p0 0 1 1), (24, iw 0), (25, pt p0 0), (26, pt p0 1), (27, iw 1), (28, sl p1 0 1 1), (29, iw 0), (30, pt p1 0), (31, .agg #[bF, iw 10, s0]), (32, .agg #[iw 1, bF, iw 10, s0]), (33, sl b7 0 1 1), (34, pt b5 0), (35, sl p0 0 1 1), (36, iw 0), (37, pt p0 0), (38, .agg #[iw 3, iw 1, iw 10]), (39, .agg #[iw 1, iw 1, iw 19, iw 30, n0, s0, n0]), (40, .agg #[iw 1, iw 1, iw 10, iw 30, n0, s0, n0]), (41, .agg #[sl b7 0 1 1]), (42, iw 1), (43, bF), (44, iw 1)]) (fun _ => [.blk b1 [iw 1, iw 1, iw 19, iw 30, n0, s0, n0] 44, .blk b5 [sl b7 0 1 1] 30]) (fun _ => []) (fun _ => []) [.g [], .g []] [0, 1, 5, 6, 7, 8, 13, 14, 15, 16, 17, 18, 19, 20, 21, 22, 23, 24, 25, 26, 27, 28, 29, 30, 31, 32, 33, 34, 35, 36, 37, 38, 39, 40, 41, 42, 43, 44] rfl (fun _ => by kernel_rfl) (fun _ => trivial) (fun _ => ?_)
  refine Ok.segEnd rfl ?_
  refine Ok.thenN ?_
  refine Ok.round ?_
  refine Ok.seq ?_
  refine Ok.reg ?_
  refine Ok.seg (j := 1) (fun _ => [(0, sl p0 0 1 1), (1, sl p1 0 1 1), (5, pt b1 0), (6, bF), (7, iw 0), (8, pt b5 0), (13, iw 1), (14, iw 1), (15, bF), (16, iw 0), (17, sl p1 0 1 1), (18, iw 0), (19, pt p1 0), (20, pt p1 0), (21, bF), (22, bT), (23, sl p0 0 1 1), (24, iw 0), (25, pt p0 0), (26, pt p0 1), (27, iw 1), (28, sl p1 0 1 1), (29, iw 0), (30, pt p1 0), (31, .agg #[bF, iw 10, s0]), (32, .agg #[iw 1, bF, iw 10, s0]), (33, sl b7 0 1 1), (34, pt b5 0), (35, sl p0 0 1 1), (36, iw 0), (37, pt p0 0), (38, .agg #[iw 3, iw 1, iw 10]), (39, .agg #[iw 1, iw 1, iw 19, iw 30, n0, s0, n0]), (40, .agg #[iw 1, iw 1, iw 10, iw 30, n0, s0, n0]), (41, .agg #[sl b7 0 1 1]), (42, iw 1), (43, bF), (44, iw 1)]) (fun _ => [.blk b1 [iw 1, iw 1, iw 19, iw 30, n0, s0, n0] 44, .blk b5 [sl b7 0 1 1] 30]) (fun _ => []) (fun _ => []) [.g []] [0, 1, 5, 6, 7, 8, 13, 14, 15, 16, 17, 18, 19, 20, 21, 22, 23, 24, 25, 26, 27, 28, 29, 30, 31, 32, 33, 34, 35, 36, 37, 38, 39, 40, 41, 42, 43, 44] rfl (fun _ => by kernel_rfl) (fun _ => trivial) (fun _ => ?_)
  refine Ok.segEnd rfl ?_
  refine Ok.thenN ?_
  refine Ok.seq ?_
  refine Ok.condF rfl ?_
  refine Ok.exit_ ?_
  refine Ok.thenE ?_
  refine Ok.thenE ?_
  refine Ok.blkE ?_
  refine Ok.thenN ?_
  refine Ok.seq ?_
  refine Ok.reg ?_
  refine Ok.seg (j := 1) (fun _ => [(6, bT)]) (fun _ => [.blk b1 [iw 1, iw 1, iw 19, iw 30, n0, s0, n0] 44, .blk b5 [sl b7 0 1 1] 30]) (fun _ => []) (fun _ => []) [.g []] [6] rfl (fun _ => by kernel_rfl) (fun _ => trivial) (fun _ => ?_)
  refine Ok.mask [false, false] [] rfl ?_
  refine Ok.segEnd rfl ?_
  refine Ok.thenN ?_
  refine Ok.ret_ ?_
  exact Ok.ret1 (v := bT) (SLe.trans le10 (SLe.trans le14 le18)) rfl rfl rfl
set_option maxRecDepth 100000 in
theorem x9_163 (H : Snap) : Does Tryd.prog 9 [iw 20, iw 30] H [] (fun v H' kp => v = .agg #[iw 1, iw 1, iw 20, iw 30, n0, s0, n0]) := by
  refine Does.of Tryd.func9 rfl rfl rfl rfl (fun w0 H0 kx => ?_)
  refine Ok.seq ?_
  refine Ok.reg ?_
  refine Ok.seg (j := 1) (fun b1 => [(0, iw 20), (1, iw 30), (4, pt b1 0)]) (fun b1 => [.blk b1 [iw 0, iw 0, iw 0, iw 0, n0, s0, n0] 44]) (fun b1 => []) (fun b1 => []) [.g [.N]] [0, 1, 4] rfl (fun b1 => by kernel_rfl) (fun b1 => trivial) (fun b1 => ?_)
  refine Ok.segEnd rfl ?_
  refine Ok.thenN ?_
  refine Ok.seq ?_
  refine Ok.reg ?_
  refine Ok.seg (j := 4) (fun _ => [(4, pt b1 0)]) (fun _ => [.blk b1 [iw 1, iw 1, iw 20, iw 30, n0, s0, n0] 44]) (fun _ => [b1, b1, b1, b1, b1, b1, b1]) (fun _ => []) [.g [], .g [], .g [], .g [.K 0 0, .K 0 1, .K 0 2, .K 0 3, .K 0 4, .K 0 5, .K 0 6]] [4] rfl (fun _ => by kernel_rfl) (fun _ => trivial) (fun _ => ?_)
  refine Ok.segEnd rfl ?_
  refine Ok.thenN ?_
  refine Ok.ret_ ?_
  exact Ok.ret1c (SLe.refl _) [.K 0 0, .K 0 1, .K 0 2, .K 0 3, .K 0 4, .K 0 5, .K 0 6] (.agg #[iw 1, iw 1, iw 20, iw 30, n0, s0, n0]) [b1, b1, b1, b1, b1, b1, b1] rfl (by kernel_rfl) rfl
set_option maxRecDepth 100000 in
theorem x54_169 (H : Snap) : Does Tryd.prog 54 [iw 20, iw 10] H [] (fun v H' kp => v = iw 20) := by
  refine Does.of Tryd.func54 rfl rfl rfl rfl (fun w0 H0 kx => ?_)
  refine Ok.seq ?_
  refine Ok.reg ?_
  refine Ok.seg (j := 1) (fun _ => [(0, iw 20), (1, iw 10), (4, iw 0)]) (fun _ => []) (fun _ => []) (fun _ => []) [.g []] [0, 1, 4] rfl (fun _ => by kernel_rfl) (fun _ => trivial) (fun _ => ?_)
  refine Ok.segEnd rfl ?_
  refine Ok.thenN ?_
  refine Ok.seq ?_
  refine Ok.reg ?_
  refine Ok.seg (j := 4) (fun _ => [(0, iw 20), (1, iw 10), (4, iw 0), (5, iw 0)]) (fun _ => []) (fun _ => []) (fun _ => []) [.g [], .g [], .g [], .g []] [0, 1, 4, 5] rfl (fun _ => by kernel_rfl) (fun _ => trivial) (fun _ => ?_)
  refine Ok.segEnd rfl ?_
  refine Ok.thenN ?_
  refine Ok.seq ?_
  refine Ok.seq ?_
  refine Ok.reg ?_
  refine Ok.seg (j := 2) (fun _ => [(0, iw 20), (1, iw 10), (4, iw 0), (5, iw 0), (10, bF)]) (fun _ => []) (fun _ => []) (fun _ => []) [.g [], .g []] [0, 1, 4, 5, 10] rfl (fun _ => by kernel_rfl) (fun _ => trivial) (fun _ => ?_)
  refine Ok.segEnd rfl ?_
  refine Ok.thenN ?_
  refine Ok.condF rfl ?_
  refine Ok.skip_ ?_
  refine Ok.thenN ?_
  refine Ok.seq ?_
  refine Ok.seq ?_
  refine Ok.reg ?_
  refine Ok.seg (j := 4) (fun _ => [(0, iw 20), (4, iw 0), (5, iw 0), (17, bF)]) (fun _ => []) (fun _ => []) (fun _ => []) [.g [], .g [], .g [], .g []] [0, 4, 5, 17] rfl (fun _ => by kernel_rfl) (fun _ => trivial) (fun _ => ?_)
  refine Ok.segEnd rfl ?_
  refine Ok.thenN ?_
  refine Ok.condF rfl ?_
  refine Ok.skip_ ?_
  refine Ok.thenN ?_
  refine Ok.seq ?_
  refine Ok.reg ?_
  refine Ok.seg (j := 4) (fun _ => [(4, iw 20)]) (fun _ => []) (fun _ => []) (fun _ => []) [.g [], .g [], .g [], .g []] [4] rfl (fun _ => by kernel_rfl) (fun _ => trivial) (fun _ => ?_)
  refine Ok.segEnd rfl ?_
  refine Ok.thenN ?_
  refine Ok.ret_ ?_
  exact Ok.ret1 (v := iw 20) (SLe.refl _) rfl rfl rfl
set_option maxRecDepth 100000 in
theorem x58_170 (H : Snap) : Does Tryd.prog 58 [iw 1, iw 20, iw 30] H [] (fun v H' kp => v = .agg #[iw 1, iw 1, iw 20, iw 30, n0, s0, n0]) := by
  refine Does.of Tryd.func58 rfl rfl rfl rfl (fun w0 H0 kx => ?_)
  refine Ok.seq ?_
  refine Ok.reg ?_
  refine Ok.seg (j := 1) (fun b1 => [(0, iw 1), (1, iw 20), (2, iw 30), (6, pt b1 0)]) (fun b1 => [.blk b1 [iw 0, iw 0, iw 0, iw 0, n0, s0, n0] 44]) (fun b1 => []) (fun b1 => []) [.g [.N]] [0, 1, 2, 6] rfl (fun b1 => by kernel_rfl) (fun b1 => trivial) (fun b1 => ?_)
  refine Ok.segEnd rfl ?_
  refine Ok.thenN ?_
  refine Ok.seq ?_
  refine Ok.reg ?_
  refine Ok.seg (j := 5) (fun _ => [(6, pt b1 0)]) (fun _ => [.blk b1 [iw 1, iw 1, iw 20, iw 30, n0, s0, n0] 44]) (fun _ => [b1, b1, b1, b1, b1, b1, b1]) (fun _ => []) [.g [], .g [], .g [], .g [], .g [.K 0 0, .K 0 1, .K 0 2, .K 0 3, .K 0 4, .K 0 5, .K 0 6]] [6] rfl (fun _ => by kernel_rfl) (fun _ => trivial) (fun _ => ?_)
  refine Ok.segEnd rfl ?_
  refine Ok.thenN ?_
  refine Ok.ret_ ?_
  exact Ok.ret1c (SLe.refl _) [.K 0 0, .K 0 1, .K 0 2, .K 0 3, .K 0 4, .K 0 5, .K 0 6] (.agg #[iw 1, iw 1, iw 20, iw 30, n0, s0, n0]) [b1, b1, b1, b1, b1, b1, b1] rfl (by kernel_rfl) rfl
set_option maxRecDepth 100000 in
theorem x35_168 (H : Snap) : Does Tryd.prog 35 [.agg #[iw 3, iw 1, iw 10], .agg #[iw 1, iw 1, iw 20, iw 30, n0, s0, n0]] H [] (fun v H' kp => v = .agg #[iw 1, iw 1, iw 20, iw 30, n0, s0, n0]) := by
  refine Does.of Tryd.func35 rfl rfl rfl rfl (fun w0 H0 kx => ?_)
  refine Ok.seq ?_
  refine Ok.reg ?_
  refine Ok.seg (j := 3) (fun b1 => [(2, pt b1 0), (3, pt (b1 + 1) 0), (4, pt (b1 + 1 + 1) 0)]) (fun b1 => [.blk b1 [iw 3, iw 1, iw 10] 24, .blk (b1 + 1) [iw 1, iw 1, iw 20, iw 30, n0, s0, n0] 44, .blk (b1 + 1 + 1) [iw 0, iw 0, iw 0, iw 0, n0, s0, n0] 44]) (fun b1 => []) (fun b1 => []) [.g [.N], .g [.N], .g [.N]] [2, 3, 4] rfl (fun b1 => by kernel_rfl) (fun b1 => trivial) (fun b1 => ?_)
  refine Ok.segEnd rfl ?_
  refine Ok.thenN ?_
  refine Ok.seq ?_
  refine Ok.seq ?_
  refine Ok.reg ?_
  refine Ok.seg (j := 5) (fun _ => [(2, pt b1 0), (3, pt (b1 + 1) 0), (4, pt (b1 + 1 + 1) 0), (11, bF)]) (fun _ => [.blk b1 [iw 3, iw 1, iw 10] 24, .blk (b1 + 1) [iw 1, iw 1, iw 20, iw 30, n0, s0, n0] 44, .blk (b1 + 1 + 1) [iw 0, iw 0, iw 0, iw 0, n0, s0, n0] 44]) (fun _ => [b1 + 1, b1 + 1]) (fun _ => []) [.g [], .g [.K 1 2], .g [], .g [.K 1 3], .g []] [2, 3, 4, 11] rfl (fun _ => by kernel_rfl) (fun _ => trivial) (fun _ => ?_)
  refine Ok.segEnd rfl ?_
  refine Ok.thenN ?_
  refine Ok.condF rfl ?_
  refine Ok.skip_ ?_
  refine Ok.thenN ?_
  refine Ok.seq ?_
  refine Ok.seq ?_
  refine Ok.reg ?_
  refine Ok.seg (j := 2) (fun _ => [(2, pt b1 0), (3, pt (b1 + 1) 0), (4, pt (b1 + 1 + 1) 0), (14, iw 3)]) (fun _ => [.blk b1 [iw 3, iw 1, iw 10] 24, .blk (b1 + 1) [iw 1, iw 1, iw 20, iw 30, n0, s0, n0] 44, .blk (b1 + 1 + 1) [iw 0, iw 0, iw 0, iw 0, n0, s0, n0] 44]) (fun _ => [b1]) (fun _ => []) [.g [], .g [.K 0 0]] [2, 3, 4, 14] rfl (fun _ => by kernel_rfl) (fun _ => trivial) (fun _ => ?_)
  refine Ok.segEnd rfl ?_
  refine Ok.thenN ?_
  refine Ok.blk ?_
  refine Ok.seq ?_
  refine Ok.reg ?_
  refine Ok.seg (j := 2) (fun _ => [(2, pt b1 0), (3, pt (b1 + 1) 0), (4, pt (b1 + 1 + 1) 0), (14, iw 3), (15, bT)]) (fun _ => [.blk b1 [iw 3, iw 1, iw 10] 24, .blk (b1 + 1) [iw 1, iw 1, iw 20, iw 30, n0, s0, n0] 44, .blk (b1 + 1 + 1) [iw 0, iw 0, iw 0, iw 0, n0, s0, n0] 44]) (fun _ => []) (fun _ => []) [.g [], .g []] [2, 3, 4, 14, 15] rfl (fun _ => by kernel_rfl) (fun _ => trivial) (fun _ => ?_)
  refine Ok.segEnd rfl ?_
  refine Ok.thenN ?_
  refine Ok.condT rfl ?_
  refine Ok.seq ?_
  refine Ok.start (idx := [0, 1]) [] [.blk b1 [iw 3, iw 1, iw 10] 24, .blk (b1 + 1) [iw 1, iw 1, iw 20, iw 30, n0, s0, n0] 44] (by kernel_rfl) rfl rfl rfl ?_
  refine Ok.take (fuel' := 4) (l' := [true, true, true, true, true, true, false, true, true, true, true, false, false, false]) (qs := [(0, .g []), (1, .g [.K 0 1]), (2, .g []), (3, .g [.K 1 2]), (4, .g []), (5, .g [.K 0 2]), (7, .g []), (8, .g [.K 1 3]), (9, .g []), (10, .g [.K 0 2])]) [(2, pt b1 0), (3, pt (b1 + 1) 0), (4, pt (b1 + 1 + 1) 0), (18, iw 1), (20, iw 20), (22, iw 10), (25, iw 30), (27, iw 10)] [b1, b1 + 1, b1, b1 + 1, b1] [] [2, 3, 4, 18, 20, 22, 25, 27] (by intro c a w d v h; cases d <;> exact h) (by kernel_rfl) rfl trivial ?_
  refine Ok.one (i := 6) (fuel' := 3) (l' := [true, true, true, true, true, true, true, true, true, true, true, false, false, false]) (by kernel_rfl) rfl rfl (Eff.call0 (d := some 23) (by kernel_rfl) (x54_169 H) ?_)
  rintro v5 H6 k8 le7 rfl
  refine Ok.dropL ?_
  refine Ok.withS (idx := [0, 1]) le7 rfl ?_
  refine Ok.one (i := 11) (fuel' := 2) (l' := [true, true, true, true, true, true, true, true, true, true, true, true, false, false]) (by kernel_rfl) rfl rfl (Eff.call0 (d := some 28) (by kernel_rfl) (x54_157 H6) ?_)
  rintro v9 H10 k12 le11 rfl
  refine Ok.dropL ?_
  refine Ok.withS (idx := [0, 1]) (SLe.trans le7 le11) rfl ?_
  refine Ok.one (i := 12) (fuel' := 1) (l' := [true, true, true, true, true, true, true, true, true, true, true, true, true, false]) (by kernel_rfl) rfl rfl (Eff.call0 (d := some 29) (by kernel_rfl) (x58_170 H10) ?_)
  rintro v13 H14 k16 le15 rfl
  refine Ok.dropL ?_
  refine Ok.withS (idx := [0, 1]) (SLe.trans le7 (SLe.trans le11 le15)) rfl ?_
  refine Ok.one (i := 13) (fuel' := 0) (l' := [true, true, true, true, true, true, true, true, true, true, true, true, true, true]) (by kernel_rfl) rfl rfl (Eff.op (.g [.K 2 0, .K 2 1, .K 2 2, .K 2 3, .K 2 4, .K 2 5, .K 2 6]) (fun _ => [(2, pt b1 0), (3, pt (b1 + 1) 0), (4, pt (b1 + 1 + 1) 0)]) (fun _ => [.blk b1 [iw 3, iw 1, iw 10] 24, .blk (b1 + 1) [iw 1, iw 1, iw 20, iw 30, n0, s0, n0] 44, .blk (b1 + 1 + 1) [iw 1, iw 1, iw 20, iw 30, n0, s0, n0] 44]) (fun _ => [b1 + 1 + 1, b1 + 1 + 1, b1 + 1 + 1, b1 + 1 + 1, b1 + 1 + 1, b1 + 1 + 1, b1 + 1 + 1]) (fun _ => []) [2, 3, 4] (fun _ => by kernel_rfl) (fun _ => trivial) (fun _ => ?_))
  refine Ok.withS (idx := [0, 1]) (SLe.trans le7 (SLe.trans le11 le15)) rfl ?_
  refine Ok.done (by kernel_rfl) ?_
  refine Ok.thenN ?_
  refine Ok.ret_ ?_
  refine Ok.blkR ?_
  refine Ok.thenR ?_
  exact Ok.ret1c (SLe.trans le7 (SLe.trans le11 le15)) [.K 2 0, .K 2 1, .K 2 2, .K 2 3, .K 2 4, .K 2 5, .K 2 6] (.agg #[iw 1, iw 1, iw 20, iw 30, n0, s0, n0]) [b1 + 1 + 1, b1 + 1 + 1, b1 + 1 + 1, b1 + 1 + 1, b1 + 1 + 1, b1 + 1 + 1, b1 + 1 + 1] rfl (by kernel_rfl) rfl
set_option maxRecDepth 100000 in
theorem x33_167 (H : Snap) (p0 : Nat) (hp0 : Pre H p0 [iw 3, iw 1, iw 10]) : Does Tryd.prog 33 [.agg #[iw 1, iw 1, iw 20, iw 30, n0, s0, n0], pt p0 0] H [] (fun v H' kp => v = .agg #[iw 1, iw 1, iw 20, iw 30, n0, s0, n0]) := by
  refine Does.of Tryd.func33 rfl rfl rfl rfl (fun w0 H0 kx => ?_)
  refine Ok.seq ?_
  refine Ok.reg ?_
  refine Ok.seg (j := 2) (fun b1 => [(1, pt p0 0), (2, pt b1 0), (3, pt (b1 + 1) 0)]) (fun b1 => [.blk b1 [iw 1, iw 1, iw 20, iw 30, n0, s0, n0] 44, .blk (b1 + 1) [iw 0, iw 0, iw 0, iw 0, n0, s0, n0] 44]) (fun b1 => []) (fun b1 => []) [.g [.N], .g [.N]] [1, 2, 3] rfl (fun b1 => by kernel_rfl) (fun b1 => trivial) (fun b1 => ?_)
  refine Ok.segEnd rfl ?_
  refine Ok.thenN ?_
  refine Ok.seq ?_
  refine Ok.seq ?_
  refine Ok.reg ?_
  refine Ok.seg (j := 2) (fun _ => [(1, pt p0 0), (2, pt b1 0), (3, pt (b1 + 1) 0), (5, iw 1)]) (fun _ => [.blk b1 [iw 1, iw 1, iw 20, iw 30, n0, s0, n0] 44, .blk (b1 + 1) [iw 0, iw 0, iw 0, iw 0, n0, s0, n0] 44]) (fun _ => [b1]) (fun _ => []) [.g [], .g [.K 0 0]] [1, 2, 3, 5] rfl (fun _ => by kernel_rfl) (fun _ => trivial) (fun _ => ?_)
  refine Ok.segEnd rfl ?_
  refine Ok.thenN ?_
  refine Ok.blk ?_
  refine Ok.seq ?_
  refine Ok.reg ?_
  refine Ok.seg (j := 2) (fun _ => [(1, pt p0 0), (2, pt b1 0), (3, pt (b1 + 1) 0), (5, iw 1), (6, bF)]) (fun _ => [.blk b1 [iw 1, iw 1, iw 20, iw 30, n0, s0, n0] 44, .blk (b1 + 1) [iw 0, iw 0, iw 0, iw 0, n0, s0, n0] 44]) (fun _ => []) (fun _ => []) [.g [], .g []] [1, 2, 3, 5, 6] rfl (fun _ => by kernel_rfl) (fun _ => trivial) (fun _ => ?_)
  refine Ok.segEnd rfl ?_
  refine Ok.thenN ?_
  refine Ok.condF rfl ?_
  refine Ok.seq ?_
  refine Ok.reg ?_
  refine Ok.seg (j := 2) (fun _ => [(1, pt p0 0), (2, pt b1 0), (3, pt (b1 + 1) 0), (5, iw 1), (9, bF)]) (fun _ => [.blk b1 [iw 1, iw 1, iw 20, iw 30, n0, s0, n0] 44, .blk (b1 + 1) [iw 0, iw 0, iw 0, iw 0, n0, s0, n0] 44]) (fun _ => []) (fun _ => []) [.g [], .g []] [1, 2, 3, 5, 9] rfl (fun _ => by kernel_rfl) (fun _ => trivial) (fun _ => ?_)
  refine Ok.segEnd rfl ?_
  refine Ok.thenN ?_
  refine Ok.condF rfl ?_
  refine Ok.seq ?_
  refine Ok.reg ?_
  refine Ok.seg (j := 2) (fun _ => [(1, pt p0 0), (2, pt b1 0), (3, pt (b1 + 1) 0), (15, bF)]) (fun _ => [.blk b1 [iw 1, iw 1, iw 20, iw 30, n0, s0, n0] 44, .blk (b1 + 1) [iw 0, iw 0, iw 0, iw 0, n0, s0, n0] 44]) (fun _ => []) (fun _ => []) [.g [], .g []] [1, 2, 3, 15] rfl (fun _ => by kernel_rfl) (fun _ => trivial) (fun _ => ?_)
  refine Ok.segEnd rfl ?_
  refine Ok.thenN ?_
  refine Ok.condF rfl ?_
  refine Ok.skip_ ?_
  refine Ok.blkN ?_
  refine Ok.thenN ?_
  refine Ok.seq ?_
  refine Ok.reg ?_
  refine Ok.seg (j := 2) (fun _ => [(3, pt (b1 + 1) 0), (33, .agg #[iw 3, iw 1, iw 10]), (34, .agg #[iw 1, iw 1, iw 20, iw 30, n0, s0, n0])]) (fun _ => [.blk b1 [iw 1, iw 1, iw 20, iw 30, n0, s0, n0] 44, .blk (b1 + 1) [iw 0, iw 0, iw 0, iw 0, n0, s0, n0] 44]) (fun _ => [b1, b1, b1, b1, b1, b1, b1]) (fun _ => [HasCell H ⟨p0, 0, none⟩ (iw 3), HasCell H ⟨p0, 1, none⟩ (iw 1), HasCell H ⟨p0, 2, none⟩ (iw 10)]) [.g [.X (iw 3), .X (iw 1), .X (iw 10)], .g [.K 0 0, .K 0 1, .K 0 2, .K 0 3, .K 0 4, .K 0 5, .K 0 6]] [3, 33, 34] rfl (fun _ => by kernel_rfl) (fun _ => ⟨Pre.cell hp0 0 rfl, Pre.cell hp0 1 rfl, Pre.cell hp0 2 rfl, trivial⟩) (fun _ => ?_)
  refine Ok.eff (j := 3) rfl (Eff.call0 (d := some 35) (by kernel_rfl) (x35_168 H) ?_)
  rintro v7 H8 k10 le9 rfl
  refine Ok.dropL ?_
  refine Ok.seg (j := 4) (fun _ => [(3, pt (b1 + 1) 0)]) (fun _ => [.blk b1 [iw 1, iw 1, iw 20, iw 30, n0, s0, n0] 44, .blk (b1 + 1) [iw 1, iw 1, iw 20, iw 30, n0, s0, n0] 44]) (fun _ => [b1 + 1, b1 + 1, b1 + 1, b1 + 1, b1 + 1, b1 + 1, b1 + 1]) (fun _ => []) [.g [.K 1 0, .K 1 1, .K 1 2, .K 1 3, .K 1 4, .K 1 5, .K 1 6]] [3] rfl (fun _ => by kernel_rfl) (fun _ => trivial) (fun _ => ?_)
  refine Ok.segEnd rfl ?_
  refine Ok.thenN ?_
  refine Ok.ret_ ?_
  exact Ok.ret1c le9 [.K 1 0, .K 1 1, .K 1 2, .K 1 3, .K 1 4, .K 1 5, .K 1 6] (.agg #[iw 1, iw 1, iw 20, iw 30, n0, s0, n0]) [b1 + 1, b1 + 1, b1 + 1, b1 + 1, b1 + 1, b1 + 1, b1 + 1] rfl (by kernel_rfl) rfl
set_option maxRecDepth 100000 in
theorem x18_166 (H : Snap) (p0 p1 p2 p3 p4 : Nat) (hp0 : Pre H p0 [iw 3, iw 1, iw 10]) (hp1 : Pre H p1 [.func (.func 33) #[] #[pt p2 0]]) (hp2 : Pre H p2 [iw 3, iw 1, iw 10]) (hp3 : Pre H p3 [.func (.func 36) #[] #[pt p2 0]]) (hp4 : Pre H p4 [.func (.func 18) #[] #[pt p0 0, pt p1 0, pt p3 0, pt p4 0]]) : Does Tryd.prog 18 [.agg #[iw 1, iw 1, iw 20, iw 30, n0, s0, n0], bT, pt p0 0, pt p1 0, pt p3 0, pt p4 0] H [] (fun v H' kp => v = .agg #[iw 1, iw 1, iw 20, iw 30, n0, s0, n0]) := by
  refine Does.of Tryd.func18 rfl rfl rfl rfl (fun w0 H0 kx => ?_)
  refine Ok.seq ?_
  refine Ok.reg ?_
  refine Ok.seg (j := 2) (fun b1 => [(1, bT), (2, pt p0 0), (3, pt p1 0), (4, pt p3 0), (5, pt p4 0), (6, pt b1 0), (8, pt (b1 + 1) 0)]) (fun b1 => [.blk b1 [iw 1, iw 1, iw 20, iw 30, n0, s0, n0] 44, .blk (b1 + 1) [iw 0, iw 0, iw 0, iw 0, n0, s0, n0] 44]) (fun b1 => []) (fun b1 => []) [.g [.N], .g [.N]] [1, 2, 3, 4, 5, 6, 8] rfl (fun b1 => by kernel_rfl) (fun b1 => trivial) (fun b1 => ?_)
  refine Ok.segEnd rfl ?_
  refine Ok.thenN ?_
  refine Ok.seq ?_
  refine Ok.seq ?_
  refine Ok.reg ?_
  refine Ok.seg (j := 2) (fun _ => [(1, bT), (2, pt p0 0), (3, pt p1 0), (4, pt p3 0), (5, pt p4 0), (6, pt b1 0), (8, pt (b1 + 1) 0), (13, iw 1)]) (fun _ => [.blk b1 [iw 1, iw 1, iw 20, iw 30, n0, s0, n0] 44, .blk (b1 + 1) [iw 0, iw 0, iw 0, iw 0, n0, s0, n0] 44]) (fun _ => [b1]) (fun _ => []) [.g [], .g [.K 0 0]] [1, 2, 3, 4, 5, 6, 8, 13] rfl (fun _ => by kernel_rfl) (fun _ => trivial) (fun _ => ?_)
  refine Ok.segEnd rfl ?_
  refine Ok.thenN ?_
  refine Ok.blk ?_
  refine Ok.seq ?_
  refine Ok.reg ?_
  refine Ok.seg (j := 2) (fun _ => [(1, bT), (2, pt p0 0), (3, pt p1 0), (4, pt p3 0), (5, pt p4 0), (6, pt b1 0), (8, pt (b1 + 1) 0), (13, iw 1), (14, bF)]) (fun _ => [.blk b1 [iw 1, iw 1, iw 20, iw 30, n0, s0, n0] 44, .blk (b1 + 1) [iw 0, iw 0, iw 0, iw 0, n0, s0, n0] 44]) (fun _ => []) (fun _ => []) [.g [], .g []] [1, 2, 3, 4, 5, 6, 8, 13, 14] rfl (fun _ => by kernel_rfl) (fun _ => trivial) (fun _ => ?_)
  refine Ok.segEnd rfl ?_
  refine Ok.thenN ?_
  refine Ok.condF rfl ?_
  refine Ok.seq ?_
  refine Ok.seq ?_
  refine Ok.reg ?_
  refine Ok.seg (j := 2) (fun _ => [(1, bT), (2, pt p0 0), (3, pt p1 0), (4, pt p3 0), (5, pt p4 0), (6, pt b1 0), (8, pt (b1 + 1) 0), (13, iw 1), (19, bT)]) (fun _ => [.blk b1 [iw 1, iw 1, iw 20, iw 30, n0, s0, n0] 44, .blk (b1 + 1) [iw 0, iw 0, iw 0, iw 0, n0, s0, n0] 44]) (fun _ => []) (fun _ => []) [.g [], .g []] [1, 2, 3, 4, 5, 6, 8, 13, 19] rfl (fun _ => by kernel_rfl) (fun _ => trivial) (fun _ => ?_)
  refine Ok.segEnd rfl ?_
  refine Ok.thenN ?_
  refine Ok.condT rfl ?_
  refine Ok.skip_ ?_
  refine Ok.thenN ?_
  refine Ok.condT rfl ?_
  refine Ok.seq ?_
  refine Ok.seq ?_
  refine Ok.reg ?_
  refine Ok.seg (j := 8) (fun _ => [(2, pt p0 0), (3, pt p1 0), (4, pt p3 0), (6, pt b1 0), (8, pt (b1 + 1) 0), (31, bT)]) (fun _ => [.blk b1 [iw 1, iw 1, iw 20, iw 30, n0, s0, n0] 44, .blk (b1 + 1) [iw 0, iw 0, iw 0, iw 0, n0, s0, n0] 44]) (fun _ => [b1]) (fun _ => [HasCell H ⟨p0, 1, none⟩ (iw 1)]) [.g [], .g [.K 0 1], .g [], .g [.X (iw 1)], .g [], .g [], .g [], .g []] [2, 3, 4, 6, 8, 31] rfl (fun _ => by kernel_rfl) (fun _ => ⟨Pre.cell hp0 1 rfl, trivial⟩) (fun _ => ?_)
  refine Ok.segEnd rfl ?_
  refine Ok.thenN ?_
  refine Ok.condT rfl ?_
  refine Ok.seq ?_
  refine Ok.reg ?_
  refine Ok.seg (j := 2) (fun _ => [(2, pt p0 0), (4, pt p3 0), (6, pt b1 0), (8, pt (b1 + 1) 0), (32, .func (.func 33) #[] #[pt p2 0]), (33, .agg #[iw 1, iw 1, iw 20, iw 30, n0, s0, n0])]) (fun _ => [.blk b1 [iw 1, iw 1, iw 20, iw 30, n0, s0, n0] 44, .blk (b1 + 1) [iw 0, iw 0, iw 0, iw 0, n0, s0, n0] 44]) (fun _ => [b1, b1, b1, b1, b1, b1, b1]) (fun _ => [HasCell H ⟨p1, 0, none⟩ (.func (.func 33) #[] #[pt p2 0])]) [.g [.X (.func (.func 33) #[] #[pt p2 0])], .g [.K 0 0, .K 0 1, .K 0 2, .K 0 3, .K 0 4, .K 0 5, .K 0 6]] [2, 4, 6, 8, 32, 33] rfl (fun _ => by kernel_rfl) (fun _ => ⟨Pre.cell hp1 0 rfl, trivial⟩) (fun _ => ?_)
  refine Ok.eff (j := 3) rfl (Eff.call0 (d := some 34) (by kernel_rfl) (x33_167 H p2 hp2) ?_)
  rintro v7 H8 k10 le9 rfl
  refine Ok.dropL ?_
  refine Ok.seg (j := 4) (fun _ => [(2, pt p0 0), (4, pt p3 0), (6, pt b1 0), (8, pt (b1 + 1) 0)]) (fun _ => [.blk b1 [iw 1, iw 1, iw 20, iw 30, n0, s0, n0] 44, .blk (b1 + 1) [iw 1, iw 1, iw 20, iw 30, n0, s0, n0] 44]) (fun _ => [b1 + 1, b1 + 1, b1 + 1, b1 + 1, b1 + 1, b1 + 1, b1 + 1]) (fun _ => []) [.g [.K 1 0, .K 1 1, .K 1 2, .K 1 3, .K 1 4, .K 1 5, .K 1 6]] [2, 4, 6, 8] rfl (fun _ => by kernel_rfl) (fun _ => trivial) (fun _ => ?_)
  refine Ok.segEnd rfl ?_
  refine Ok.thenN ?_
  refine Ok.ret_ ?_
  refine Ok.thenR ?_
  refine Ok.blkR ?_
  refine Ok.thenR ?_
  exact Ok.ret1c le9 [.K 1 0, .K 1 1, .K 1 2, .K 1 3, .K 1 4, .K 1 5, .K 1 6] (.agg #[iw 1, iw 1, iw 20, iw 30, n0, s0, n0]) [b1 + 1, b1 + 1, b1 + 1, b1 + 1, b1 + 1, b1 + 1, b1 + 1] rfl (by kernel_rfl) rfl
set_option maxRecDepth 100000 in
theorem x8_165 (H : Snap) : Does Tryd.prog 8 [.agg #[iw 3, iw 1, iw 10], .agg #[iw 1, iw 1, iw 20, iw 30, n0, s0, n0]] H [] (fun v H' kp => v = .agg #[iw 1, iw 1, iw 20, iw 30, n0, s0, n0]) := by
  refine Does.of Tryd.func8 rfl rfl rfl rfl (fun w0 H0 kx => ?_)
  refine Ok.seq ?_
  refine Ok.reg ?_
  refine Ok.seg (j := 3) (fun b1 => [(2, pt b1 0), (3, pt (b1 + 1) 0), (4, pt (b1 + 1 + 1) 0)]) (fun b1 => [.blk b1 [iw 3, iw 1, iw 10] 24, .blk (b1 + 1) [iw 1, iw 1, iw 20, iw 30, n0, s0, n0] 44, .blk (b1 + 1 + 1) [iw 0, iw 0, iw 0, iw 0, n0, s0, n0] 44]) (fun b1 => []) (fun b1 => []) [.g [.N], .g [.N], .g [.N]] [2, 3, 4] rfl (fun b1 => by kernel_rfl) (fun b1 => trivial) (fun b1 => ?_)
  refine Ok.segEnd rfl ?_
  refine Ok.thenN ?_
  refine Ok.seq ?_
  refine Ok.reg ?_
  refine Ok.seg (j := 1) (fun _ => [(2, pt b1 0), (3, pt (b1 + 1) 0), (4, pt (b1 + 1 + 1) 0), (9, .agg #[iw 3, iw 1, iw 10])]) (fun _ => [.blk b1 [iw 3, iw 1, iw 10] 24, .blk (b1 + 1) [iw 1, iw 1, iw 20, iw 30, n0, s0, n0] 44, .blk (b1 + 1 + 1) [iw 0, iw 0, iw 0, iw 0, n0, s0, n0] 44]) (fun _ => [b1, b1, b1]) (fun _ => []) [.g [.K 0 0, .K 0 1, .K 0 2]] [2, 3, 4, 9] rfl (fun _ => by kernel_rfl) (fun _ => trivial) (fun _ => ?_)
  refine Ok.eff (j := 2) rfl (Eff.call0 (d := some 10) (by kernel_rfl) (x17_35 H) ?_)
  rintro v3 H4 k6 le5 ⟨q7, rfl, pf8⟩
  refine Ok.dropL ?_
  refine Ok.seg (j := 9) (fun b9 => [(2, pt b1 0), (3, pt (b1 + 1) 0), (4, pt (b1 + 1 + 1) 0), (5, pt b9 0), (6, pt (b9 + 1) 0)]) (fun b9 => [.blk b1 [iw 3, iw 1, iw 10] 24, .blk (b1 + 1) [iw 1, iw 1, iw 20, iw 30, n0, s0, n0] 44, .blk (b1 + 1 + 1) [iw 0, iw 0, iw 0, iw 0, n0, s0, n0] 44, .blk b9 [.func (.func 33) #[] #[pt q7 0]] 47, .blk (b9 + 1) [.func (.func 36) #[] #[pt q7 0]] 47]) (fun b9 => [b9, b9 + 1]) (fun b9 => []) [.g [], .g [], .g [], .g [.N], .g [.N], .g [.K 3 0], .g [.K 4 0]] [2, 3, 4, 5, 6] rfl (fun b9 => by kernel_rfl) (fun b9 => trivial) (fun b9 => ?_)
  refine Ok.segEnd rfl ?_
  refine Ok.thenN ?_
  refine Ok.seq ?_
  refine Ok.reg ?_
  refine Ok.seg (j := 1) (fun b10 => [(2, pt b1 0), (3, pt (b1 + 1) 0), (4, pt (b1 + 1 + 1) 0), (5, pt b9 0), (6, pt (b9 + 1) 0), (7, pt b10 0)]) (fun b10 => [.blk b1 [iw 3, iw 1, iw 10] 24, .blk (b1 + 1) [iw 1, iw 1, iw 20, iw 30, n0, s0, n0] 44, .blk (b1 + 1 + 1) [iw 0, iw 0, iw 0, iw 0, n0, s0, n0] 44, .blk b9 [.func (.func 33) #[] #[pt q7 0]] 47, .blk (b9 + 1) [.func (.func 36) #[] #[pt q7 0]] 47, .blk b10 [.nilFunc] 60]) (fun b10 => []) (fun b10 => []) [.g [.N]] [2, 3, 4, 5, 6, 7] rfl (fun b10 => by kernel_rfl) (fun b10 => trivial) (fun b10 => ?_)
  refine Ok.segEnd rfl ?_
  refine Ok.thenN ?_
  refine Ok.seq ?_
  refine Ok.reg ?_
  refine Ok.seg (j := 2) (fun _ => [(3, pt (b1 + 1) 0), (4, pt (b1 + 1 + 1) 0), (7, pt b10 0)]) (fun _ => [.blk b1 [iw 3, iw 1, iw 10] 24, .blk (b1 + 1) [iw 1, iw 1, iw 20, iw 30, n0, s0, n0] 44, .blk (b1 + 1 + 1) [iw 0, iw 0, iw 0, iw 0, n0, s0, n0] 44, .blk b9 [.func (.func 33) #[] #[pt q7 0]] 47, .blk (b9 + 1) [.func (.func 36) #[] #[pt q7 0]] 47, .blk b10 [.func (.func 18) #[] #[pt b1 0, pt b9 0, pt (b9 + 1) 0, pt b10 0]] 60]) (fun _ => [b10]) (fun _ => []) [.g [], .g [.K 5 0]] [3, 4, 7] rfl (fun _ => by kernel_rfl) (fun _ => trivial) (fun _ => ?_)
  refine Ok.segEnd rfl ?_
  refine Ok.thenN ?_
  refine Ok.seq ?_
  refine Ok.reg ?_
  refine Ok.seg (j := 2) (fun _ => [(4, pt (b1 + 1 + 1) 0), (14, .func (.func 18) #[] #[pt b1 0, pt b9 0, pt (b9 + 1) 0, pt b10 0]), (15, .agg #[iw 1, iw 1, iw 20, iw 30, n0, s0, n0])]) (fun _ => [.blk b1 [iw 3, iw 1, iw 10] 24, .blk (b1 + 1) [iw 1, iw 1, iw 20, iw 30, n0, s0, n0] 44, .blk (b1 + 1 + 1) [iw 0, iw 0, iw 0, iw 0, n0, s0, n0] 44, .blk b9 [.func (.func 33) #[] #[pt q7 0]] 47, .blk (b9 + 1) [.func (.func 36) #[] #[pt q7 0]] 47, .blk b10 [.func (.func 18) #[] #[pt b1 0, pt b9 0, pt (b9 + 1) 0, pt b10 0]] 60]) (fun _ => [b10, b1 + 1, b1 + 1, b1 + 1, b1 + 1, b1 + 1, b1 + 1, b1 + 1]) (fun _ => []) [.g [.K 5 0], .g [.K 1 0, .K 1 1, .K 1 2, .K 1 3, .K 1 4, .K 1 5, .K 1 6]] [4, 14, 15] rfl (fun _ => by kernel_rfl) (fun _ => trivial) (fun _ => ?_)
  refine Ok.pubP 0 rfl [.blk (b1 + 1) [iw 1, iw 1, iw 20, iw 30, n0, s0, n0] 44, .blk (b1 + 1 + 1) [iw 0, iw 0, iw 0, iw 0, n0, s0, n0] 44, .blk b9 [.func (.func 33) #[] #[pt q7 0]] 47, .blk (b9 + 1) [.func (.func 36) #[] #[pt q7 0]] 47, .blk b10 [.func (.func 18) #[] #[pt b1 0, pt b9 0, pt (b9 + 1) 0, pt b10 0]] 60] rfl ?_
  intro H13 le14 pf15
  refine Ok.pubP 2 rfl [.blk (b1 + 1) [iw 1, iw 1, iw 20, iw 30, n0, s0, n0] 44, .blk (b1 + 1 + 1) [iw 0, iw 0, iw 0, iw 0, n0, s0, n0] 44, .blk (b9 + 1) [.func (.func 36) #[] #[pt q7 0]] 47, .blk b10 [.func (.func 18) #[] #[pt b1 0, pt b9 0, pt (b9 + 1) 0, pt b10 0]] 60] rfl ?_
  intro H16 le17 pf18
  refine Ok.pubP 2 rfl [.blk (b1 + 1) [iw 1, iw 1, iw 20, iw 30, n0, s0, n0] 44, .blk (b1 + 1 + 1) [iw 0, iw 0, iw 0, iw 0, n0, s0, n0] 44, .blk b10 [.func (.func 18) #[] #[pt b1 0, pt b9 0, pt (b9 + 1) 0, pt b10 0]] 60] rfl ?_
  intro H19 le20 pf21
  refine Ok.pubP 2 rfl [.blk (b1 + 1) [iw 1, iw 1, iw 20, iw 30, n0, s0, n0] 44, .blk (b1 + 1 + 1) [iw 0, iw 0, iw 0, iw 0, n0, s0, n0] 44] rfl ?_
  intro H22 le23 pf24
  refine Ok.eff (j := 3) rfl (Eff.call0 (d := some 16) (by kernel_rfl) (x18_166 H22 b1 b9 q7 (b9 + 1) b10 (Pre.mono (SLe.trans le17 (SLe.trans le20 le23)) pf15) (Pre.mono (SLe.trans le20 le23) pf18) (Pre.mono (SLe.trans le14 (SLe.trans le17 (SLe.trans le20 le23))) pf8) (Pre.mono le23 pf21) pf24) ?_)
  rintro v25 H26 k28 le27 rfl
  refine Ok.dropL ?_
  refine Ok.seg (j := 4) (fun _ => [(4, pt (b1 + 1 + 1) 0)]) (fun _ => [.blk (b1 + 1) [iw 1, iw 1, iw 20, iw 30, n0, s0, n0] 44, .blk (b1 + 1 + 1) [iw 1, iw 1, iw 20, iw 30, n0, s0, n0] 44]) (fun _ => [b1 + 1 + 1, b1 + 1 + 1, b1 + 1 + 1, b1 + 1 + 1, b1 + 1 + 1, b1 + 1 + 1, b1 + 1 + 1]) (fun _ => []) [.g [.K 1 0, .K 1 1, .K 1 2, .K 1 3, .K 1 4, .K 1 5, .K 1 6]] [4] rfl (fun _ => by kernel_rfl) (fun _ => trivial) (fun _ => ?_)
  refine Ok.segEnd rfl ?_
  refine Ok.thenN ?_
  refine Ok.ret_ ?_
  exact Ok.ret1c (SLe.trans le5 (SLe.trans le14 (SLe.trans le17 (SLe.trans le20 (SLe.trans le23 le27))))) [.K 1 0, .K 1 1, .K 1 2, .K 1 3, .K 1 4, .K 1 5, .K 1 6] (.agg #[iw 1, iw 1, iw 20, iw 30, n0, s0, n0]) [b1 + 1 + 1, b1 + 1 + 1, b1 + 1 + 1, b1 + 1 + 1, b1 + 1 + 1, b1 + 1 + 1, b1 + 1 + 1] rfl (by kernel_rfl) rfl
set_option maxRecDepth 100000 in
theorem x50_172 (H : Snap) : Does Tryd.prog 50 [bF] H [] (fun v H' kp => v = iw 0) := by
  refine Does.of Tryd.func50 rfl rfl rfl rfl (fun w0 H0 kx => ?_)
  refine Ok.seq ?_
  refine Ok.reg ?_
  refine Ok.seg (j := 1) (fun _ => [(0, bF), (2, iw 0)]) (fun _ => []) (fun _ => []) (fun _ => []) [.g []] [0, 2] rfl (fun _ => by kernel_rfl) (fun _ => trivial) (fun _ => ?_)
  refine Ok.segEnd rfl ?_
  refine Ok.thenN ?_
  refine Ok.seq ?_
  refine Ok.seq ?_
  refine Ok.reg ?_
  refine Ok.seg (j := 1) (fun _ => [(2, iw 0), (3, bF)]) (fun _ => []) (fun _ => []) (fun _ => []) [.g []] [2, 3] rfl (fun _ => by kernel_rfl) (fun _ => trivial) (fun _ => ?_)
  refine Ok.segEnd rfl ?_
  refine Ok.thenN ?_
  refine Ok.condF rfl ?_
  refine Ok.skip_ ?_
  refine Ok.thenN ?_
  refine Ok.seq ?_
  refine Ok.reg ?_
  refine Ok.seg (j := 1) (fun _ => [(2, iw 0)]) (fun _ => []) (fun _ => []) (fun _ => []) [.g []] [2] rfl (fun _ => by kernel_rfl) (fun _ => trivial) (fun _ => ?_)
  refine Ok.segEnd rfl ?_
  refine Ok.thenN ?_
  refine Ok.ret_ ?_
  exact Ok.ret1 (v := iw 0) (SLe.refl _) rfl rfl rfl
set_option maxRecDepth 100000 in
theorem x27_171 (H : Snap) (p0 : Nat) (hp0 : Pre H p0 [iw 1, bF, iw 10, s0]) : Does Tryd.prog 27 [.agg #[iw 1, iw 1, iw 20, iw 30, n0, s0, n0], .agg #[sl p0 0 1 1]] H [] (fun v H' kp => v = iw 0) := by
  refine Does.of Tryd.func27 rfl rfl rfl rfl (fun w0 H0 kx => ?_)
  refine Ok.seq ?_
  refine Ok.reg ?_
  refine Ok.seg (j := 3) (fun b1 => [(2, pt b1 0), (3, pt (b1 + 1) 0), (4, iw 0)]) (fun b1 => [.blk b1 [iw 1, iw 1, iw 20, iw 30, n0, s0, n0] 44, .blk (b1 + 1) [sl p0 0 1 1] 30]) (fun b1 => []) (fun b1 => []) [.g [.N], .g [.N], .g []] [2, 3, 4] rfl (fun b1 => by kernel_rfl) (fun b1 => trivial) (fun b1 => ?_)
  refine Ok.segEnd rfl ?_
  refine Ok.thenN ?_
  refine Ok.seq ?_
  refine Ok.reg ?_
  refine Ok.seg (j := 2) (fun _ => [(2, pt b1 0), (3, pt (b1 + 1) 0), (4, iw 0), (5, .func (.func 46) #[] #[pt (b1 + 1) 0])]) (fun _ => [.blk b1 [iw 1, iw 1, iw 20, iw 30, n0, s0, n0] 44, .blk (b1 + 1) [sl p0 0 1 1] 30]) (fun _ => []) (fun _ => []) [.g [], .g []] [2, 3, 4, 5] rfl (fun _ => by kernel_rfl) (fun _ => trivial) (fun _ => ?_)
  refine Ok.segEnd rfl ?_
  refine Ok.thenN ?_
  refine Ok.seq ?_
  refine Ok.seq ?_
  refine Ok.reg ?_
  refine Ok.seg (j := 2) (fun _ => [(2, pt b1 0), (3, pt (b1 + 1) 0), (4, iw 0), (5, .func (.func 46) #[] #[pt (b1 + 1) 0]), (10, iw 1)]) (fun _ => [.blk b1 [iw 1, iw 1, iw 20, iw 30, n0, s0, n0] 44, .blk (b1 + 1) [sl p0 0 1 1] 30]) (fun _ => [b1]) (fun _ => []) [.g [], .g [.K 0 0]] [2, 3, 4, 5, 10] rfl (fun _ => by kernel_rfl) (fun _ => trivial) (fun _ => ?_)
  refine Ok.segEnd rfl ?_
  refine Ok.thenN ?_
  refine Ok.blk ?_
  refine Ok.seq ?_
  refine Ok.reg ?_
  refine Ok.seg (j := 2) (fun _ => [(2, pt b1 0), (3, pt (b1 + 1) 0), (4, iw 0), (5, .func (.func 46) #[] #[pt (b1 + 1) 0]), (10, iw 1), (11, bF)]) (fun _ => [.blk b1 [iw 1, iw 1, iw 20, iw 30, n0, s0, n0] 44, .blk (b1 + 1) [sl p0 0 1 1] 30]) (fun _ => []) (fun _ => []) [.g [], .g []] [2, 3, 4, 5, 10, 11] rfl (fun _ => by kernel_rfl) (fun _ => trivial) (fun _ => ?_)
  refine Ok.segEnd rfl ?_
  refine Ok.thenN ?_
  refine Ok.condF rfl ?_
  refine Ok.seq ?_
  refine Ok.reg ?_
  refine Ok.seg (j := 2) (fun _ => [(2, pt b1 0), (3, pt (b1 + 1) 0), (4, iw 0), (5, .func (.func 46) #[] #[pt (b1 + 1) 0]), (10, iw 1), (13, bF)]) (fun _ => [.blk b1 [iw 1, iw 1, iw 20, iw 30, n0, s0, n0] 44, .blk (b1 + 1) [sl p0 0 1 1] 30]) (fun _ => []) (fun _ => []) [.g [], .g []] [2, 3, 4, 5, 10, 13] rfl (fun _ => by kernel_rfl) (fun _ => trivial) (fun _ => ?_)
  refine Ok.segEnd rfl ?_
  refine Ok.thenN ?_
  refine Ok.condF rfl ?_
  refine Ok.seq ?_
  refine Ok.reg ?_
  refine Ok.seg (j := 2) (fun _ => [(2, pt b1 0), (3, pt (b1 + 1) 0), (4, iw 0), (5, .func (.func 46) #[] #[pt (b1 + 1) 0]), (10, iw 1), (19, bF)]) (fun _ => [.blk b1 [iw 1, iw 1, iw 20, iw 30, n0, s0, n0] 44, .blk (b1 + 1) [sl p0 0 1 1] 30]) (fun _ => []) (fun _ => []) [.g [], .g []] [2, 3, 4, 5, 10, 19] rfl (fun _ => by kernel_rfl) (fun _ => trivial) (fun _ => ?_)
  refine Ok.segEnd rfl ?_
  refine Ok.thenN ?_
  refine Ok.condF rfl ?_
  refine Ok.seq ?_
  refine Ok.reg ?_
  refine Ok.seg (j := 2) (fun _ => [(2, pt b1 0), (3, pt (b1 + 1) 0), (4, iw 0), (5, .func (.func 46) #[] #[pt (b1 + 1) 0]), (25, bF)]) (fun _ => [.blk b1 [iw 1, iw 1, iw 20, iw 30, n0, s0, n0] 44, .blk (b1 + 1) [sl p0 0 1 1] 30]) (fun _ => []) (fun _ => []) [.g [], .g []] [2, 3, 4, 5, 25] rfl (fun _ => by kernel_rfl) (fun _ => trivial) (fun _ => ?_)
  refine Ok.segEnd rfl ?_
  refine Ok.thenN ?_
  refine Ok.condF rfl ?_
  refine Ok.skip_ ?_
  refine Ok.blkN ?_
  refine Ok.thenN ?_
  refine Ok.seq ?_
  refine Ok.seq ?_
  refine Ok.reg ?_
  refine Ok.seg (j := 2) (fun _ => [(2, pt b1 0), (3, pt (b1 + 1) 0), (4, iw 0), (42, iw 1)]) (fun _ => [.blk b1 [iw 1, iw 1, iw 20, iw 30, n0, s0, n0] 44, .blk (b1 + 1) [sl p0 0 1 1] 30]) (fun _ => [b1]) (fun _ => []) [.g [], .g [.K 0 0]] [2, 3, 4, 42] rfl (fun _ => by kernel_rfl) (fun _ => trivial) (fun _ => ?_)
  refine Ok.eff (j := 3) rfl (Eff.call0 (d := some 43) (by kernel_rfl) (x48_160 H) ?_)
  rintro v9 H10 k12 le11 rfl
  refine Ok.dropL ?_
  refine Ok.seg (j := 4) (fun _ => [(2, pt b1 0), (3, pt (b1 + 1) 0), (4, iw 0), (44, bF)]) (fun _ => [.blk b1 [iw 1, iw 1, iw 20, iw 30, n0, s0, n0] 44, .blk (b1 + 1) [sl p0 0 1 1] 30]) (fun _ => []) (fun _ => []) [.g []] [2, 3, 4, 44] rfl (fun _ => by kernel_rfl) (fun _ => trivial) (fun _ => ?_)
  refine Ok.segEnd rfl ?_
  refine Ok.thenN ?_
  refine Ok.condF rfl ?_
  refine Ok.skip_ ?_
  refine Ok.thenN ?_
  refine Ok.seq ?_
  refine Ok.reg ?_
  refine Ok.seg (j := 3) (fun _ => [(2, pt b1 0), (4, iw 0), (45, .agg #[sl p0 0 1 1]), (47, iw 1)]) (fun _ => [.blk b1 [iw 1, iw 1, iw 20, iw 30, n0, s0, n0] 44, .blk (b1 + 1) [sl p0 0 1 1] 30]) (fun _ => [b1 + 1, b1]) (fun _ => []) [.g [.K 1 0], .g [], .g [.K 0 1]] [2, 4, 45, 47] rfl (fun _ => by kernel_rfl) (fun _ => trivial) (fun _ => ?_)
  refine Ok.eff (j := 4) rfl (Eff.call0 (d := some 48) (by kernel_rfl) (x49_161 H10 p0 (Pre.mono le11 hp0)) ?_)
  rintro v15 H16 k18 le17 rfl
  refine Ok.dropL ?_
  refine Ok.seg (j := 6) (fun b19 => [(2, pt b1 0), (4, iw 0), (7, pt b19 0)]) (fun b19 => [.blk b1 [iw 1, iw 1, iw 20, iw 30, n0, s0, n0] 44, .blk (b1 + 1) [sl p0 0 1 1] 30, .blk b19 [bF, iw 10, s0] 26]) (fun b19 => [b19, b19, b19]) (fun b19 => []) [.g [.N], .g [.K 2 0, .K 2 1, .K 2 2]] [2, 4, 7] rfl (fun b19 => by kernel_rfl) (fun b19 => trivial) (fun b19 => ?_)
  refine Ok.segEnd rfl ?_
  refine Ok.thenN ?_
  refine Ok.seq ?_
  refine Ok.blk ?_
  refine Ok.seq ?_
  refine Ok.reg ?_
  refine Ok.seg (j := 4) (fun _ => [(2, pt b1 0), (4, iw 0), (7, pt b19 0), (49, bF)]) (fun _ => [.blk b1 [iw 1, iw 1, iw 20, iw 30, n0, s0, n0] 44, .blk (b1 + 1) [sl p0 0 1 1] 30, .blk b19 [bF, iw 10, s0] 26]) (fun _ => [b1]) (fun _ => []) [.g [], .g [.K 0 0], .g [], .g []] [2, 4, 7, 49] rfl (fun _ => by kernel_rfl) (fun _ => trivial) (fun _ => ?_)
  refine Ok.segEnd rfl ?_
  refine Ok.thenN ?_
  refine Ok.condF rfl ?_
  refine Ok.seq ?_
  refine Ok.reg ?_
  refine Ok.seg (j := 3) (fun _ => [(2, pt b1 0), (4, iw 0), (7, pt b19 0), (56, bF)]) (fun _ => [.blk b1 [iw 1, iw 1, iw 20, iw 30, n0, s0, n0] 44, .blk (b1 + 1) [sl p0 0 1 1] 30, .blk b19 [bF, iw 10, s0] 26]) (fun _ => [b19]) (fun _ => []) [.g [], .g [.K 2 0], .g []] [2, 4, 7, 56] rfl (fun _ => by kernel_rfl) (fun _ => trivial) (fun _ => ?_)
  refine Ok.segEnd rfl ?_
  refine Ok.thenN ?_
  refine Ok.condF rfl ?_
  refine Ok.seq ?_
  refine Ok.reg ?_
  refine Ok.seg (j := 4) (fun _ => [(2, pt b1 0), (4, iw 0), (7, pt b19 0), (59, bT)]) (fun _ => [.blk b1 [iw 1, iw 1, iw 20, iw 30, n0, s0, n0] 44, .blk (b1 + 1) [sl p0 0 1 1] 30, .blk b19 [bF, iw 10, s0] 26]) (fun _ => [b1]) (fun _ => []) [.g [], .g [.K 0 0], .g [], .g []] [2, 4, 7, 59] rfl (fun _ => by kernel_rfl) (fun _ => trivial) (fun _ => ?_)
  refine Ok.segEnd rfl ?_
  refine Ok.thenN ?_
  refine Ok.condT rfl ?_
  refine Ok.seq ?_
  refine Ok.reg ?_
  refine Ok.seg (j := 12) (fun _ => [(2, pt b1 0), (4, iw 0), (7, pt b19 0), (74, bF)]) (fun _ => [.blk b1 [iw 1, iw 1, iw 20, iw 30, n0, s0, n0] 44, .blk (b1 + 1) [sl p0 0 1 1] 30, .blk b19 [bF, iw 10, s0] 26]) (fun _ => [b1, b19]) (fun _ => []) [.g [], .g [.K 0 2], .g [], .g [.K 2 1], .g [], .g [], .g [], .g [], .g [], .g [], .g [], .g []] [2, 4, 7, 74] rfl (fun _ => by kernel_rfl) (fun _ => trivial) (fun _ => ?_)
  refine Ok.eff (j := 13) rfl (Eff.call0 (d := some 75) (by kernel_rfl) (x50_172 H16) ?_)
  rintro v24 H25 k27 le26 rfl
  refine Ok.dropL ?_
  refine Ok.seg (j := 14) (fun _ => [(2, pt b1 0), (4, iw 0), (7, pt b19 0)]) (fun _ => [.blk b1 [iw 1, iw 1, iw 20, iw 30, n0, s0, n0] 44, .blk (b1 + 1) [sl p0 0 1 1] 30, .blk b19 [bF, iw 10, s0] 26]) (fun _ => []) (fun _ => []) [.g []] [2, 4, 7] rfl (fun _ => by kernel_rfl) (fun _ => trivial) (fun _ => ?_)
  refine Ok.segEnd rfl ?_
  refine Ok.thenN ?_
  refine Ok.ret_ ?_
  refine Ok.blkR ?_
  refine Ok.thenR ?_
  refine Ok.dropAll ?_
  exact Ok.ret1 (v := iw 0) (SLe.trans le11 (SLe.trans le17 le26)) rfl rfl rfl
set_option maxRecDepth 100000 in
theorem x13_164 (H : Snap) (p0 p1 : Nat) (hp0 : Pre H p0 [iw 3, iw 1, iw 10]) (hp1 : Pre H p1 [bF, iw 10, s0]) : Does Tryd.prog 13 [sl p0 0 1 1, sl p1 0 1 1, .agg #[iw 1, iw 1, iw 20, iw 30, n0, s0, n0]] H [] (fun v H' kp => v = bF) := by
  refine Does.of Tryd.func13 rfl rfl rfl rfl (fun w0 H0 kx => ?_)
  refine Ok.seq ?_
  refine Ok.reg ?_
  refine Ok.seg (j := 2) (fun b1 => [(0, sl p0 0 1 1), (1, sl p1 0 1 1), (5, pt b1 0), (6, bF)]) (fun b1 => [.blk b1 [iw 1, iw 1, iw 20, iw 30, n0, s0, n0] 44]) (fun b1 => []) (fun b1 => []) [.g [.N], .g []] [0, 1, 5, 6] rfl (fun b1 => by kernel_rfl) (fun b1 => trivial) (fun b1 => ?_)
  refine Ok.segEnd rfl ?_
  refine Ok.thenN ?_
  refine Ok.seq ?_
  refine Ok.seq ?_
  refine Ok.reg ?_
  refine Ok.seg (j := 6) (fun _ => [(0, sl p0 0 1 1), (1, sl p1 0 1 1), (5, pt b1 0), (6, bF), (13, iw 1), (14, iw 0)]) (fun _ => [.blk b1 [iw 1, iw 1, iw 20, iw 30, n0, s0, n0] 44]) (fun _ => []) (fun _ => []) [.g [], .g [], .g [], .g [], .g [], .g []] [0, 1, 5, 6, 13, 14] rfl (fun _ => by kernel_rfl) (fun _ => trivial) (fun _ => ?_)
  refine Ok.segEnd rfl ?_
  refine Ok.thenN ?_
  refine Ok.blk ?_
  refine Ok.loopN 1 ?_
  refine Ok.round ?_
  refine Ok.seq ?_
  refine Ok.reg ?_
  refine Ok.seg (j := 1) (fun _ => [(0, sl p0 0 1 1), (1, sl p1 0 1 1), (5, pt b1 0), (6, bF), (13, iw 1), (14, iw 0), (15, bT)]) (fun _ => [.blk b1 [iw 1, iw 1, iw 20, iw 30, n0, s0, n0] 44]) (fun _ => []) (fun _ => []) [.g []] [0, 1, 5, 6, 13, 14, 15] rfl (fun _ => by kernel_rfl) (fun _ => trivial) (fun _ => ?_)
  refine Ok.segEnd rfl ?_
  refine Ok.thenN ?_
  refine Ok.seq ?_
  refine Ok.condT rfl ?_
  refine Ok.skip_ ?_
  refine Ok.thenN ?_
  refine Ok.seq ?_
  refine Ok.blk ?_
  refine Ok.seq ?_
  refine Ok.reg ?_
  refine Ok.seg (j := 2) (fun _ => [(0, sl p0 0 1 1), (1, sl p1 0 1 1), (5, pt b1 0), (6, bF), (7, iw 0), (13, iw 1), (14, iw 0), (15, bT), (16, iw 0)]) (fun _ => [.blk b1 [iw 1, iw 1, iw 20, iw 30, n0, s0, n0] 44]) (fun _ => []) (fun _ => []) [.g [], .g []] [0, 1, 5, 6, 7, 13, 14, 15, 16] rfl (fun _ => by kernel_rfl) (fun _ => trivial) (fun _ => ?_)
  refine Ok.segEnd rfl ?_
  refine Ok.thenN ?_
  refine Ok.seq ?_
  refine Ok.reg ?_
  refine Ok.seg (j := 1) (fun b5 => [(0, sl p0 0 1 1), (1, sl p1 0 1 1), (5, pt b1 0), (6, bF), (7, iw 0), (8, pt b5 0), (13, iw 1), (14, iw 0), (15, bT), (16, iw 0)]) (fun b5 => [.blk b1 [iw 1, iw 1, iw 20, iw 30, n0, s0, n0] 44, .blk b5 [n0] 30]) (fun b5 => []) (fun b5 => []) [.g [.N]] [0, 1, 5, 6, 7, 8, 13, 14, 15, 16] rfl (fun b5 => by kernel_rfl) (fun b5 => trivial) (fun b5 => ?_)
  refine Ok.segEnd rfl ?_
  refine Ok.thenN ?_
  refine Ok.seq ?_
  refine Ok.seq ?_
  refine Ok.reg ?_
  refine Ok.seg (j := 6) (fun _ => [(0, sl p0 0 1 1), (1, sl p1 0 1 1), (5, pt b1 0), (6, bF), (7, iw 0), (8, pt b5 0), (13, iw 1), (14, iw 0), (15, bT), (16, iw 0), (17, sl p1 0 1 1), (18, iw 0), (19, pt p1 0), (20, pt p1 0), (21, bF), (22, bT)]) (fun _ => [.blk b1 [iw 1, iw 1, iw 20, iw 30, n0, s0, n0] 44, .blk b5 [n0] 30]) (fun _ => []) (fun _ => [HasCell H ⟨p1, 0, none⟩ (bF)]) [.g [], .g [], .g [], .g [], .g [.X (bF)], .g []] [0, 1, 5, 6, 7, 8, 13, 14, 15, 16, 17, 18, 19, 20, 21, 22] rfl (fun _ => by kernel_rfl) (fun _ => ⟨Pre.cell hp1 0 rfl, trivial⟩) (fun _ => ?_)
  refine Ok.segEnd rfl ?_
  refine Ok.thenN ?_
  refine Ok.condT rfl ?_
  refine Ok.start (idx := [0]) [] [.blk b1 [iw 1, iw 1, iw 20, iw 30, n0, s0, n0] 44] (by kernel_rfl) rfl rfl rfl ?_
  refine Ok.take (fuel' := 3) (l' := [true, true, true, true, true, true, true, true, true, true, false, false, false]) (qs := [(0, .g []), (1, .g []), (2, .g []), (3, .g []), (4, .g [.X (iw 1)]), (5, .g []), (6, .g []), (7, .g []), (8, .g [.X (bF), .X (iw 10), .X (s0)]), (9, .g [])]) [(0, sl p0 0 1 1), (1, sl p1 0 1 1), (5, pt b1 0), (6, bF), (7, iw 0), (8, pt b5 0), (13, iw 1), (14, iw 0), (15, bT), (16, iw 0), (17, sl p1 0 1 1), (18, iw 0), (19, pt p1 0), (20, pt p1 0), (21, bF), (22, bT), (23, sl p0 0 1 1), (24, iw 0), (25, pt p0 0), (26, pt p0 1), (27, iw 1), (28, sl p1 0 1 1), (29, iw 0), (30, pt p1 0), (31, .agg #[bF, iw 10, s0]), (32, .agg #[iw 1, bF, iw 10, s0])] [] [HasCell H ⟨p0, 1, none⟩ (iw 1), HasCell H ⟨p1, 0, none⟩ (bF), HasCell H ⟨p1, 1, none⟩ (iw 10), HasCell H ⟨p1, 2, none⟩ (s0)] [0, 1, 5, 6, 7, 8, 13, 14, 15, 16, 17, 18, 19, 20, 21, 22, 23, 24, 25, 26, 27, 28, 29, 30, 31, 32] (by intro c a w d v h; cases d <;> exact h) (by kernel_rfl) rfl ⟨Pre.cell hp0 1 rfl, Pre.cell hp1 0 rfl, Pre.cell hp1 1 rfl, Pre.cell hp1 2 rfl, trivial⟩ ?_
  refine Ok.one (i := 10) (fuel' := 2) (l' := [true, true, true, true, true, true, true, true, true, true, true, false, false]) (by kernel_rfl) rfl rfl (Eff.op (.g [.N]) (fun b7 => [(0, sl p0 0 1 1), (1, sl p1 0 1 1), (5, pt b1 0), (6, bF), (7, iw 0), (8, pt b5 0), (13, iw 1), (14, iw 0), (15, bT), (16, iw 0), (17, sl p1 0 1 1), (18, iw 0), (19, pt p1 0), (20, pt p1 0), (21, bF), (22, bT), (23, sl p0 0 1 1), (24, iw 0), (25, pt p0 0), (26, pt p0 1), (27, iw 1), (28, sl p1 0 1 1), (29, iw 0), (30, pt p1 0), (31, .agg #[bF, iw 10, s0]), (32, .agg #[iw 1, bF, iw 10, s0]), (33, sl b7 0 1 1)]) (fun b7 => [.blk b1 [iw 1, iw 1, iw 20, iw 30, n0, s0, n0] 44, .blk b5 [n0] 30, .blk b7 [iw 1, bF, iw 10, s0] 39]) (fun b7 => []) (fun b7 => []) [0, 1, 5, 6, 7, 8, 13, 14, 15, 16, 17, 18, 19, 20, 21, 22, 23, 24, 25, 26, 27, 28, 29, 30, 31, 32, 33] (fun b7 => by kernel_rfl) (fun b7 => trivial) (fun b7 => ?_))
  refine Ok.withS (idx := [0]) (SLe.refl _) rfl ?_
  refine Ok.take (fuel' := 1) (l' := [true, true, true, true, true, true, true, true, true, true, true, true, false]) (qs := [(11, .g [])]) [(0, sl p0 0 1 1), (1, sl p1 0 1 1), (5, pt b1 0), (6, bF), (7, iw 0), (8, pt b5 0), (13, iw 1), (14, iw 0), (15, bT), (16, iw 0), (17, sl p1 0 1 1), (18, iw 0), (19, pt p1 0), (20, pt p1 0), (21, bF), (22, bT), (23, sl p0 0 1 1), (24, iw 0), (25, pt p0 0), (26, pt p0 1), (27, iw 1), (28, sl p1 0 1 1), (29, iw 0), (30, pt p1 0), (31, .agg #[bF, iw 10, s0]), (32, .agg #[iw 1, bF, iw 10, s0]), (33, sl b7 0 1 1), (34, pt b5 0)] [] [] [0, 1, 5, 6, 7, 8, 13, 14, 15, 16, 17, 18, 19, 20, 21, 22, 23, 24, 25, 26, 27, 28, 29, 30, 31, 32, 33, 34] (by intro c a w d v h; cases d <;> exact h) (by kernel_rfl) rfl trivial ?_
  refine Ok.one (i := 12) (fuel' := 0) (l' := [true, true, true, true, true, true, true, true, true, true, true, true, true]) (by kernel_rfl) rfl rfl (Eff.op (.g [.K 1 0]) (fun _ => [(0, sl p0 0 1 1), (1, sl p1 0 1 1), (5, pt b1 0), (6, bF), (7, iw 0), (8, pt b5 0), (13, iw 1), (14, iw 0), (15, bT), (16, iw 0), (17, sl p1 0 1 1), (18, iw 0), (19, pt p1 0), (20, pt p1 0), (21, bF), (22, bT), (23, sl p0 0 1 1), (24, iw 0), (25, pt p0 0), (26, pt p0 1), (27, iw 1), (28, sl p1 0 1 1), (29, iw 0), (30, pt p1 0), (31, .agg #[bF, iw 10, s0]), (32, .agg #[iw 1, bF, iw 10, s0]), (33, sl b7 0 1 1), (34, pt b5 0)]) (fun _ => [.blk b1 [iw 1, iw 1, iw 20, iw 30, n0, s0, n0] 44, .blk b5 [sl b7 0 1 1] 30, .blk b7 [iw 1, bF, iw 10, s0] 39]) (fun _ => [b5]) (fun _ => []) [0, 1, 5, 6, 7, 8, 13, 14, 15, 16, 17, 18, 19, 20, 21, 22, 23, 24, 25, 26, 27, 28, 29, 30, 31, 32, 33, 34] (fun _ => by kernel_rfl) (fun _ => trivial) (fun _ => ?_))
  refine Ok.withS (idx := [0]) (SLe.refl _) rfl ?_
  refine Ok.done (by kernel_rfl) ?_
  refine Ok.thenN ?_
  refine Ok.seq ?_
  refine Ok.pubP 2 rfl [.blk b1 [iw 1, iw 1, iw 20, iw 30, n0, s0, n0] 44, .blk b5 [sl b7 0 1 1] 30] rfl ?_
  intro H9 le10 pf11
  refine Ok.start (idx := [0, 1]) [] [.blk b1 [iw 1, iw 1, iw 20, iw 30, n0, s0, n0] 44, .blk b5 [sl b7 0 1 1] 30] (by kernel_rfl) rfl rfl rfl ?_
  refine Ok.take (fuel' := 3) (l' := [true, true, true, true, true, false, true, false, false]) (qs := [(0, .g []), (1, .g []), (2, .g []), (3, .g [.X (iw 3), .X (iw 1), .X (iw 10)]), (4, .g [.K 0 0, .K 0 1, .K 0 2, .K 0 3, .K 0 4, .K 0 5, .K 0 6]), (6, .g [.K 1 0])]) [(0, sl p0 0 1 1), (1, sl p1 0 1 1), (5, pt b1 0), (6, bF), (7, iw 0), (8, pt b5 0), (13, iw 1), (14, iw 0), (15, bT), (16, iw 0), (17, sl p1 0 1 1), (18, iw 0), (19, pt p1 0), (20, pt p1 0), (21, bF), (22, bT), (23, sl p0 0 1 1), (24, iw 0), (25, pt p0 0), (26, pt p0 1), (27, iw 1), (28, sl p1 0 1 1), (29, iw 0), (30, pt p1 0), (31, .agg #[bF, iw 10, s0]), (32, .agg #[iw 1, bF, iw 10, s0]), (33, sl b7 0 1 1), (34, pt b5 0), (35, sl p0 0 1 1), (36, iw 0), (37, pt p0 0), (38, .agg #[iw 3, iw 1, iw 10]), (39, .agg #[iw 1, iw 1, iw 20, iw 30, n0, s0, n0]), (41, .agg #[sl b7 0 1 1])] [b1, b1, b1, b1, b1, b1, b1, b5] [HasCell H9 ⟨p0, 0, none⟩ (iw 3), HasCell H9 ⟨p0, 1, none⟩ (iw 1), HasCell H9 ⟨p0, 2, none⟩ (iw 10)] [0, 1, 5, 6, 7, 8, 13, 14, 15, 16, 17, 18, 19, 20, 21, 22, 23, 24, 25, 26, 27, 28, 29, 30, 31, 32, 33, 34, 35, 36, 37, 38, 39, 41] (by intro c a w d v h; cases d <;> exact h) (by kernel_rfl) rfl ⟨Pre.cell (Pre.mono le10 hp0) 0 rfl, Pre.cell (Pre.mono le10 hp0) 1 rfl, Pre.cell (Pre.mono le10 hp0) 2 rfl, trivial⟩ ?_
  refine Ok.one (i := 5) (fuel' := 2) (l' := [true, true, true, true, true, true, true, false, false]) (by kernel_rfl) rfl rfl (Eff.call0 (d := some 40) (by kernel_rfl) (x8_165 H9) ?_)
  rintro v12 H13 k15 le14 rfl
  refine Ok.dropL ?_
  refine Ok.withS (idx := [0, 1]) le14 rfl ?_
  refine Ok.one (i := 7) (fuel' := 1) (l' := [true, true, true, true, true, true, true, true, false]) (by kernel_rfl) rfl rfl (Eff.call0 (d := some 42) (by kernel_rfl) (x27_171 H13 b7 (Pre.mono le14 pf11)) ?_)
  rintro v16 H17 k19 le18 rfl
  refine Ok.dropL ?_
  refine Ok.withS (idx := [0, 1]) (SLe.trans le14 le18) rfl ?_
  refine Ok.take (fuel' := 0) (l' := [true, true, true, true, true, true, true, true, true]) (qs := [(8, .g [])]) [(0, sl p0 0 1 1), (1, sl p1 0 1 1), (5, pt b1 0), (6, bF), (7, iw 0), (8, pt b5 0), (13, iw 1), (14, iw 0), (15, bT), (16, iw 0), (17, sl p1 0 1 1), (18, iw 0), (19, pt p1 0), (20, pt p1 0), (21, bF), (22, bT), (23, sl p0 0 1 1), (24, iw 0), (25, pt p0 0), (26, pt p0 1), (27, iw 1), (28, sl p1 0 1 1), (29, iw 0), (30, pt p1 0), (31, .agg #[bF, iw 10, s0]), (32, .agg #[iw 1, bF, iw 10, s0]), (33, sl b7 0 1 1), (34, pt b5 0), (35, sl p0 0 1 1), (36, iw 0), (37, pt p0 0), (38, .agg #[iw 3, iw 1, iw 10]), (39, .agg #[iw 1, iw 1, iw 20, iw 30, n0, s0, n0]), (40, .agg #[iw 1, iw 1, iw 20, iw 30, n0, s0, n0]), (41, .agg #[sl b7 0 1 1]), (42, iw 0), (43, bT)] [] [] [0, 1, 5, 6, 7, 8, 13, 14, 15, 16, 17, 18, 19, 20, 21, 22, 23, 24, 25, 26, 27, 28, 29, 30, 31, 32, 33, 34, 35, 36, 37, 38, 39, 40, 41, 42, 43] (by intro c a w d v h; cases d <;> exact h) (by kernel_rfl) rfl trivial ?_
  refine Ok.done (by kernel_rfl) ?_
  refine Ok.thenN ?_
  refine Ok.condT rfl ?_
  refine Ok.seq ?_
  refine Ok.reg ?_
  refine Ok.seg (j := 1) (fun _ => [(0, sl p0 0 1 1), (1, sl p1 0 1 1), (5, pt b1 0), (6, bF), (7, iw 0), (8, pt b5 0), (13, iw 1), (14, iw 0), (15, bT), (16, iw 0), (17, sl p1 0 1 1), (18, iw 0), (19, pt p1 0), (20, pt p1 0), (21, bF), (22, bT), (23, sl p0 0 1 1), (24, iw 0), (25, pt p0 0), (26, pt p0 1), (27, iw 1), (28, sl p1 0 1 1), (29, iw 0), (30, pt p1 0), (31, .agg #[bF, iw 10, s0]), (32, .agg #[iw 1, bF, iw 10, s0]), (33, sl b7 0 1 1), (34, pt b5 0), (35, sl p0 0 1 1), (36, iw 0), (37, pt p0 0), (38, .agg #[iw 3, iw 1, iw 10]), (39, .agg #[iw 1, iw 1, iw 20, iw 30, n0, s0, n0]), (40, .agg #[iw 1, iw 1, iw 20, iw 30, n0, s0, n0]), (41, .agg #[sl b7 0 1 1]), (42, iw 0), (43, bT)]) (fun _ => [.blk b1 [iw 1, iw 1, iw 20, iw 30, n0, s0, n0] 44, .blk b5 [sl b7 0 1 1] 30]) (fun _ => []) (fun _ => []) [.g []] [0, 1, 5, 6, 7, 8, 13, 14, 15, 16, 17, 18, 19, 20, 21, 22, 23, 24, 25, 26, 27, 28, 29, 30, 31, 32, 33, 34, 35, 36, 37, 38, 39, 40, 41, 42, 43] rfl (fun _ => by kernel_rfl) (fun _ => trivial) (fun _ => ?_)
  refine Ok.segEnd rfl ?_
  refine Ok.thenN ?_
  refine Ok.ret_ ?_
  refine Ok.blkR ?_
  refine Ok.thenR ?_
  refine Ok.thenR ?_
  refine Ok.blkR ?_
  refine Ok.thenR ?_
  refine Ok.dropAll ?_
  exact Ok.ret1 (v := bF) (SLe.trans le10 (SLe.trans le14 le18)) rfl rfl rfl
set_option maxRecDepth 100000 in
theorem x28_174 (H : Snap) (p0 p1 : Nat) (c0 : Nat) (hp0 : Pre H p0 [iw 3]) (hp1 : Pre H p1 [iw 3]) : Does Tryd.prog 28 [sl p0 0 1 c0, sl p1 0 1 1] H [] (fun v H' kp => v = bT) := by
  refine Does.of Tryd.func28 rfl rfl rfl rfl (fun w0 H0 kx => ?_)
  refine Ok.seq ?_
  refine Ok.reg ?_
  refine Ok.seg (j := 1) (fun _ => [(0, sl p0 0 1 c0), (1, sl p1 0 1 1), (4, bF)]) (fun _ => []) (fun _ => []) (fun _ => []) [.g []] [0, 1, 4] rfl (fun _ => by kernel_rfl) (fun _ => trivial) (fun _ => ?_)
  refine Ok.segEnd rfl ?_
  refine Ok.thenN ?_
  refine Ok.seq ?_
  refine Ok.seq ?_
  refine Ok.reg ?_
  refine Ok.seg (j := 5) (fun _ => [(0, sl p0 0 1 c0), (1, sl p1 0 1 1), (4, bF), (10, bF)]) (fun _ => []) (fun _ => []) (fun _ => []) [.g [], .g [], .g [], .g [], .g []] [0, 1, 4, 10] rfl (fun _ => by kernel_rfl) (fun _ => trivial) (fun _ => ?_)
  refine Ok.segEnd rfl ?_
  refine Ok.thenN ?_
  refine Ok.condF rfl ?_
  refine Ok.skip_ ?_
  refine Ok.thenN ?_
  refine Ok.seq ?_
  refine Ok.seq ?_
  refine Ok.reg ?_
  refine Ok.seg (j := 1) (fun _ => [(0, sl p0 0 1 c0), (1, sl p1 0 1 1), (4, bF), (5, iw 0)]) (fun _ => []) (fun _ => []) (fun _ => []) [.g []] [0, 1, 4, 5] rfl (fun _ => by kernel_rfl) (fun _ => trivial) (fun _ => ?_)
  refine Ok.segEnd rfl ?_
  refine Ok.thenN ?_
  refine Ok.blk ?_
  refine Ok.loopN 2 ?_
  refine Ok.round ?_
  refine Ok.seq ?_
  refine Ok.seq ?_
  refine Ok.reg ?_
  refine Ok.seg (j := 4) (fun _ => [(0, sl p0 0 1 c0), (1, sl p1 0 1 1), (4, bF), (5, iw 0), (11, iw 0), (12, sl p0 0 1 c0), (13, iw 1), (14, bT)]) (fun _ => []) (fun _ => []) (fun _ => []) [.g [], .g [], .g [], .g []] [0, 1, 4, 5, 11, 12, 13, 14] rfl (fun _ => by kernel_rfl) (fun _ => trivial) (fun _ => ?_)
  refine Ok.segEnd rfl ?_
  refine Ok.thenN ?_
  refine Ok.condT rfl ?_
  refine Ok.skip_ ?_
  refine Ok.thenN ?_
  refine Ok.seq ?_
  refine Ok.blk ?_
  refine Ok.seq ?_
  refine Ok.start (idx := []) [] [] (by kernel_rfl) rfl rfl rfl ?_
  refine Ok.take (fuel' := 0) (l' := [true, true, true, true, true, true, true, true, true]) (qs := [(0, .g []), (1, .g []), (2, .g []), (3, .g [.X (iw 3)]), (4, .g []), (5, .g []), (6, .g []), (7, .g [.X (iw 3)]), (8, .g [])]) [(0, sl p0 0 1 c0), (1, sl p1 0 1 1), (4, bF), (5, iw 0), (11, iw 0), (12, sl p0 0 1 c0), (13, iw 1), (14, bT), (17, sl p0 0 1 c0), (18, iw 0), (19, pt p0 0), (20, iw 3), (21, sl p1 0 1 1), (22, iw 0), (23, pt p1 0), (24, iw 3), (25, bF)] [] [HasCell H ⟨p0, 0, none⟩ (iw 3), HasCell H ⟨p1, 0, none⟩ (iw 3)] [0, 1, 4, 5, 11, 12, 13, 14, 17, 18, 19, 20, 21, 22, 23, 24, 25] (by intro c a w d v h; cases d <;> exact h) (by kernel_rfl) rfl ⟨Pre.cell hp0 0 rfl, Pre.cell hp1 0 rfl, trivial⟩ ?_
  refine Ok.done (by kernel_rfl) ?_
  refine Ok.thenN ?_
  refine Ok.condF rfl ?_
  refine Ok.skip_ ?_
  refine Ok.blkN ?_
  refine Ok.thenN ?_
  refine Ok.reg ?_
  refine Ok.seg (j := 3) (fun _ => [(0, sl p0 0 1 c0), (1, sl p1 0 1 1), (4, bF), (5, iw 1), (11, iw 0), (12, sl p0 0 1 c0), (13, iw 1), (14, bT), (15, iw 0), (16, iw 1), (17, sl p0 0 1 c0), (18, iw 0), (19, pt p0 0), (20, iw 3), (21, sl p1 0 1 1), (22, iw 0), (23, pt p1 0), (24, iw 3), (25, bF)]) (fun _ => []) (fun _ => []) (fun _ => []) [.g [], .g [], .g []] [0, 1, 4, 5, 11, 12, 13, 14, 15, 16, 17, 18, 19, 20, 21, 22, 23, 24, 25] rfl (fun _ => by kernel_rfl) (fun _ => trivial) (fun _ => ?_)
  refine Ok.segEnd rfl ?_
  refine Ok.thenN ?_
  refine Ok.round ?_
  refine Ok.seq ?_
  refine Ok.seq ?_
  refine Ok.reg ?_
  refine Ok.seg (j := 4) (fun _ => [(0, sl p0 0 1 c0), (1, sl p1 0 1 1), (4, bF), (5, iw 1), (11, iw 1), (12, sl p0 0 1 c0), (13, iw 1), (14, bF), (15, iw 0), (16, iw 1), (17, sl p0 0 1 c0), (18, iw 0), (19, pt p0 0), (20, iw 3), (21, sl p1 0 1 1), (22, iw 0), (23, pt p1 0), (24, iw 3), (25, bF)]) (fun _ => []) (fun _ => []) (fun _ => []) [.g [], .g [], .g [], .g []] [0, 1, 4, 5, 11, 12, 13, 14, 15, 16, 17, 18, 19, 20, 21, 22, 23, 24, 25] rfl (fun _ => by kernel_rfl) (fun _ => trivial) (fun _ => ?_)
  refine Ok.segEnd rfl ?_
  refine Ok.thenN ?_
  refine Ok.condF rfl ?_
  refine Ok.exit_ ?_
  refine Ok.thenE ?_
  refine Ok.thenE ?_
  refine Ok.blkE ?_
  refine Ok.thenN ?_
  refine Ok.seq ?_
  refine Ok.reg ?_
  refine Ok.seg (j := 1) (fun _ => [(4, bT)]) (fun _ => []) (fun _ => []) (fun _ => []) [.g []] [4] rfl (fun _ => by kernel_rfl) (fun _ => trivial) (fun _ => ?_)
  refine Ok.segEnd rfl ?_
  refine Ok.thenN ?_
  refine Ok.ret_ ?_
  exact Ok.ret1 (v := bT) (SLe.refl _) rfl rfl rfl
end Go.Proofs.YtldanodmjilfaaaDoor
