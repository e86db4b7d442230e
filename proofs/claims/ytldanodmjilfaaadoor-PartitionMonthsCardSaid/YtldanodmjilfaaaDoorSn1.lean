/- Contracts of functions at the arguments that the fixed examples meet: printed by a program of this claim's author. -/
import Derived.Test.YtldanodmjilfaaaDoorProg
import Derived.Test.YtldanodmjilfaaaDoorSn0
set_option linter.unusedVariables false
set_option maxHeartbeats 4000000
namespace Go.Proofs.YtldanodmjilfaaaDoor
open Go Go.RowKit Sx
set_option maxRecDepth 100000 in
theorem x5_25 (H : Snap) (p0 : Nat) (hp0 : Pre H p0 [iw 1, bF, iw (-1), s0]) : Does Tryd.prog 5 [.agg #[iw 5, iw 1, iw 0], .agg #[sl p0 0 1 1]] H [] (fun v H' kp => v = .agg #[bF, iw (-1), s0]) := by
  refine Does.of Tryd.func5 rfl rfl rfl rfl (fun w0 H0 kx => ?_)
  refine Ok.seq ?_
  refine Ok.reg ?_
  refine Ok.seg (j := 3) (fun b1 => [(2, pt b1 0), (3, pt (b1 + 1) 0), (4, pt (b1 + 1 + 1) 0)]) (fun b1 => [.blk b1 [iw 5, iw 1, iw 0] 24, .blk (b1 + 1) [sl p0 0 1 1] 30, .blk (b1 + 1 + 1) [bF, iw 0, s0] 26]) (fun b1 => []) (fun b1 => []) [.g [.N], .g [.N], .g [.N]] [2, 3, 4] rfl (fun b1 => by kernel_rfl) (fun b1 => trivial) (fun b1 => ?_)
  refine Ok.segEnd rfl ?_
  refine Ok.thenN ?_
  refine Ok.seq ?_
  refine Ok.reg ?_
  refine Ok.seg (j := 3) (fun b2 => [(4, pt (b1 + 1 + 1) 0), (7, sl b2 0 1 1), (8, .agg #[sl p0 0 1 1])]) (fun b2 => [.blk b1 [iw 5, iw 1, iw 0] 24, .blk (b1 + 1) [sl p0 0 1 1] 30, .blk (b1 + 1 + 1) [bF, iw 0, s0] 26, .blk b2 [iw 5, iw 1, iw 0] 24]) (fun b2 => [b1, b1, b1, b1 + 1]) (fun b2 => []) [.g [.K 0 0, .K 0 1, .K 0 2], .g [.N], .g [.K 1 0]] [4, 7, 8] rfl (fun b2 => by kernel_rfl) (fun b2 => trivial) (fun b2 => ?_)
  refine Ok.mask [false, false, true, true] [.blk (b1 + 1 + 1) [bF, iw 0, s0] 26, .blk b2 [iw 5, iw 1, iw 0] 24] rfl ?_
  refine Ok.pubP 1 rfl [.blk (b1 + 1 + 1) [bF, iw 0, s0] 26] rfl ?_
  intro H3 le4 pf5
  refine Ok.eff (j := 4) rfl (Eff.call0 (d := some 9) (by kernel_rfl) (x15_26 H3 b2 p0 pf5 (Pre.mono le4 hp0)) ?_)
  rintro v6 H7 k9 le8 ⟨q10, rfl, pf11⟩
  refine Ok.dropL ?_
  refine Ok.seg (j := 5) (fun _ => [(4, pt (b1 + 1 + 1) 0), (5, sl q10 0 1 1)]) (fun _ => [.blk (b1 + 1 + 1) [bF, iw 0, s0] 26]) (fun _ => []) (fun _ => []) [.g []] [4, 5] rfl (fun _ => by kernel_rfl) (fun _ => trivial) (fun _ => ?_)
  refine Ok.segEnd rfl ?_
  refine Ok.thenN ?_
  refine Ok.seq ?_
  refine Ok.seq ?_
  refine Ok.reg ?_
  refine Ok.seg (j := 3) (fun _ => [(4, pt (b1 + 1 + 1) 0), (5, sl q10 0 1 1), (12, bF)]) (fun _ => [.blk (b1 + 1 + 1) [bF, iw 0, s0] 26]) (fun _ => []) (fun _ => []) [.g [], .g [], .g []] [4, 5, 12] rfl (fun _ => by kernel_rfl) (fun _ => trivial) (fun _ => ?_)
  refine Ok.segEnd rfl ?_
  refine Ok.thenN ?_
  refine Ok.condF rfl ?_
  refine Ok.skip_ ?_
  refine Ok.thenN ?_
  refine Ok.seq ?_
  refine Ok.reg ?_
  refine Ok.seg (j := 4) (fun _ => [(4, pt (b1 + 1 + 1) 0)]) (fun _ => [.blk (b1 + 1 + 1) [bF, iw (-1), s0] 26]) (fun _ => [b1 + 1 + 1, b1 + 1 + 1, b1 + 1 + 1]) (fun _ => [HasCell H7 ⟨q10, 0, none⟩ (bF), HasCell H7 ⟨q10, 1, none⟩ (iw (-1)), HasCell H7 ⟨q10, 2, none⟩ (s0)]) [.g [], .g [], .g [.X (bF), .X (iw (-1)), .X (s0)], .g [.K 0 0, .K 0 1, .K 0 2]] [4] rfl (fun _ => by kernel_rfl) (fun _ => ⟨Pre.cell pf11 0 rfl, Pre.cell pf11 1 rfl, Pre.cell pf11 2 rfl, trivial⟩) (fun _ => ?_)
  refine Ok.segEnd rfl ?_
  refine Ok.thenN ?_
  refine Ok.ret_ ?_
  exact Ok.ret1c (SLe.trans le4 le8) [.K 0 0, .K 0 1, .K 0 2] (.agg #[bF, iw (-1), s0]) [b1 + 1 + 1, b1 + 1 + 1, b1 + 1 + 1] rfl (by kernel_rfl) rfl
set_option maxRecDepth 100000 in
theorem x30_31 (H : Snap) : Does Tryd.prog 30 [.agg #[n0], iw 1] H [] (fun v H' kp => v = .agg #[bT, iw 0, s0]) := by
  refine Does.of Tryd.func30 rfl rfl rfl rfl (fun w0 H0 kx => ?_)
  refine Ok.seq ?_
  refine Ok.reg ?_
  refine Ok.seg (j := 2) (fun b1 => [(1, iw 1), (2, pt b1 0), (4, pt (b1 + 1) 0)]) (fun b1 => [.blk b1 [n0] 30, .blk (b1 + 1) [bF, iw 0, s0] 26]) (fun b1 => []) (fun b1 => []) [.g [.N], .g [.N]] [1, 2, 4] rfl (fun b1 => by kernel_rfl) (fun b1 => trivial) (fun b1 => ?_)
  refine Ok.segEnd rfl ?_
  refine Ok.thenN ?_
  refine Ok.seq ?_
  refine Ok.seq ?_
  refine Ok.reg ?_
  refine Ok.seg (j := 4) (fun _ => [(1, iw 1), (4, pt (b1 + 1) 0), (8, n0), (9, iw 0), (10, iw 0)]) (fun _ => [.blk b1 [n0] 30, .blk (b1 + 1) [bF, iw 0, s0] 26]) (fun _ => [b1]) (fun _ => []) [.g [], .g [.K 0 0], .g [], .g []] [1, 4, 8, 9, 10] rfl (fun _ => by kernel_rfl) (fun _ => trivial) (fun _ => ?_)
  refine Ok.segEnd rfl ?_
  refine Ok.thenN ?_
  refine Ok.blk ?_
  refine Ok.loopN 1 ?_
  refine Ok.round ?_
  refine Ok.seq ?_
  refine Ok.reg ?_
  refine Ok.seg (j := 1) (fun _ => [(1, iw 1), (4, pt (b1 + 1) 0), (8, n0), (9, iw 0), (10, iw 0), (11, bF)]) (fun _ => [.blk b1 [n0] 30, .blk (b1 + 1) [bF, iw 0, s0] 26]) (fun _ => []) (fun _ => []) [.g []] [1, 4, 8, 9, 10, 11] rfl (fun _ => by kernel_rfl) (fun _ => trivial) (fun _ => ?_)
  refine Ok.segEnd rfl ?_
  refine Ok.thenN ?_
  refine Ok.seq ?_
  refine Ok.condF rfl ?_
  refine Ok.exit_ ?_
  refine Ok.thenE ?_
  refine Ok.thenE ?_
  refine Ok.blkE ?_
  refine Ok.thenN ?_
  refine Ok.seq ?_
  refine Ok.reg ?_
  refine Ok.seg (j := 2) (fun _ => [(4, pt (b1 + 1) 0)]) (fun _ => [.blk b1 [n0] 30, .blk (b1 + 1) [bT, iw 0, s0] 26]) (fun _ => [b1 + 1, b1 + 1, b1 + 1]) (fun _ => []) [.g [], .g [.K 1 0, .K 1 1, .K 1 2]] [4] rfl (fun _ => by kernel_rfl) (fun _ => trivial) (fun _ => ?_)
  refine Ok.segEnd rfl ?_
  refine Ok.thenN ?_
  refine Ok.ret_ ?_
  exact Ok.ret1c (SLe.refl _) [.K 1 0, .K 1 1, .K 1 2] (.agg #[bT, iw 0, s0]) [b1 + 1, b1 + 1, b1 + 1] rfl (by kernel_rfl) rfl
set_option maxRecDepth 100000 in
theorem x29_32 (H : Snap) : Does Tryd.prog 29 [.agg #[iw 3, iw 1, iw 10], .agg #[bT, iw 0, s0]] H [] (fun v H' kp => v = .agg #[bT, iw 0, s0]) := by
  refine Does.of Tryd.func29 rfl rfl rfl rfl (fun w0 H0 kx => ?_)
  refine Ok.seq ?_
  refine Ok.reg ?_
  refine Ok.seg (j := 3) (fun b1 => [(2, pt b1 0), (3, pt (b1 + 1) 0), (4, pt (b1 + 1 + 1) 0)]) (fun b1 => [.blk b1 [iw 3, iw 1, iw 10] 24, .blk (b1 + 1) [bT, iw 0, s0] 26, .blk (b1 + 1 + 1) [bF, iw 0, s0] 26]) (fun b1 => []) (fun b1 => []) [.g [.N], .g [.N], .g [.N]] [2, 3, 4] rfl (fun b1 => by kernel_rfl) (fun b1 => trivial) (fun b1 => ?_)
  refine Ok.segEnd rfl ?_
  refine Ok.thenN ?_
  refine Ok.seq ?_
  refine Ok.seq ?_
  refine Ok.reg ?_
  refine Ok.seg (j := 2) (fun _ => [(2, pt b1 0), (3, pt (b1 + 1) 0), (4, pt (b1 + 1 + 1) 0), (10, bT)]) (fun _ => [.blk b1 [iw 3, iw 1, iw 10] 24, .blk (b1 + 1) [bT, iw 0, s0] 26, .blk (b1 + 1 + 1) [bF, iw 0, s0] 26]) (fun _ => [b1 + 1]) (fun _ => []) [.g [], .g [.K 1 0]] [2, 3, 4, 10] rfl (fun _ => by kernel_rfl) (fun _ => trivial) (fun _ => ?_)
  refine Ok.segEnd rfl ?_
  refine Ok.thenN ?_
  refine Ok.condT rfl ?_
  refine Ok.seq ?_
  refine Ok.reg ?_
  refine Ok.seg (j := 2) (fun _ => [(2, pt b1 0), (3, pt (b1 + 1) 0), (4, pt (b1 + 1 + 1) 0)]) (fun _ => [.blk b1 [iw 3, iw 1, iw 10] 24, .blk (b1 + 1) [bT, iw 0, s0] 26, .blk (b1 + 1 + 1) [bT, iw 0, s0] 26]) (fun _ => [b1 + 1 + 1, b1 + 1 + 1, b1 + 1 + 1]) (fun _ => []) [.g [], .g [.K 2 0, .K 2 1, .K 2 2]] [2, 3, 4] rfl (fun _ => by kernel_rfl) (fun _ => trivial) (fun _ => ?_)
  refine Ok.segEnd rfl ?_
  refine Ok.thenN ?_
  refine Ok.ret_ ?_
  refine Ok.thenR ?_
  exact Ok.ret1c (SLe.refl _) [.K 2 0, .K 2 1, .K 2 2] (.agg #[bT, iw 0, s0]) [b1 + 1 + 1, b1 + 1 + 1, b1 + 1 + 1] rfl (by kernel_rfl) rfl
set_option maxRecDepth 100000 in
theorem x15_30 (H : Snap) (p0 : Nat) (hp0 : Pre H p0 [iw 3, iw 1, iw 10]) : Does Tryd.prog 15 [sl p0 0 1 1, .agg #[n0]] H [] (fun v H' kp => ∃ r0 : Nat, v = sl r0 0 1 1 ∧ Pre H' r0 [bT, iw 0, s0]) := by
  refine Does.of Tryd.func15 rfl rfl rfl rfl (fun w0 H0 kx => ?_)
  refine Ok.seq ?_
  refine Ok.reg ?_
  refine Ok.seg (j := 2) (fun b1 => [(0, sl p0 0 1 1), (3, pt b1 0), (4, n0)]) (fun b1 => [.blk b1 [n0] 30]) (fun b1 => []) (fun b1 => []) [.g [.N], .g []] [0, 3, 4] rfl (fun b1 => by kernel_rfl) (fun b1 => trivial) (fun b1 => ?_)
  refine Ok.segEnd rfl ?_
  refine Ok.thenN ?_
  refine Ok.seq ?_
  refine Ok.reg ?_
  refine Ok.seg (j := 4) (fun b2 => [(0, sl p0 0 1 1), (3, pt b1 0), (4, n0), (5, sl b2 0 1 1)]) (fun b2 => [.blk b1 [n0] 30, .blk b2 [bF, iw 0, s0] 26]) (fun b2 => []) (fun b2 => []) [.g [], .g [], .g [.N], .g []] [0, 3, 4, 5] rfl (fun b2 => by kernel_rfl) (fun b2 => trivial) (fun b2 => ?_)
  refine Ok.segEnd rfl ?_
  refine Ok.thenN ?_
  refine Ok.seq ?_
  refine Ok.seq ?_
  refine Ok.reg ?_
  refine Ok.seg (j := 3) (fun _ => [(3, pt b1 0), (4, n0), (5, sl b2 0 1 1), (11, sl p0 0 1 1), (12, iw 1), (13, iw 0)]) (fun _ => [.blk b1 [n0] 30, .blk b2 [bF, iw 0, s0] 26]) (fun _ => []) (fun _ => []) [.g [], .g [], .g []] [3, 4, 5, 11, 12, 13] rfl (fun _ => by kernel_rfl) (fun _ => trivial) (fun _ => ?_)
  refine Ok.segEnd rfl ?_
  refine Ok.thenN ?_
  refine Ok.blk ?_
  refine Ok.loopN 2 ?_
  refine Ok.round ?_
  refine Ok.seq ?_
  refine Ok.reg ?_
  refine Ok.seg (j := 1) (fun _ => [(3, pt b1 0), (4, n0), (5, sl b2 0 1 1), (11, sl p0 0 1 1), (12, iw 1), (13, iw 0), (14, bT)]) (fun _ => [.blk b1 [n0] 30, .blk b2 [bF, iw 0, s0] 26]) (fun _ => []) (fun _ => []) [.g []] [3, 4, 5, 11, 12, 13, 14] rfl (fun _ => by kernel_rfl) (fun _ => trivial) (fun _ => ?_)
  refine Ok.segEnd rfl ?_
  refine Ok.thenN ?_
  refine Ok.seq ?_
  refine Ok.condT rfl ?_
  refine Ok.skip_ ?_
  refine Ok.thenN ?_
  refine Ok.seq ?_
  refine Ok.blk ?_
  refine Ok.seq ?_
  refine Ok.reg ?_
  refine Ok.seg (j := 6) (fun b5 => [(3, pt b1 0), (4, n0), (5, sl b2 0 1 1), (6, iw 0), (7, pt b5 0), (11, sl p0 0 1 1), (12, iw 1), (13, iw 0), (14, bT), (15, iw 0), (16, pt p0 0), (17, .agg #[iw 3, iw 1, iw 10])]) (fun b5 => [.blk b1 [n0] 30, .blk b2 [bF, iw 0, s0] 26, .blk b5 [iw 3, iw 1, iw 10] 24]) (fun b5 => [b5, b5, b5]) (fun b5 => [HasCell H ⟨p0, 0, none⟩ (iw 3), HasCell H ⟨p0, 1, none⟩ (iw 1), HasCell H ⟨p0, 2, none⟩ (iw 10)]) [.g [], .g [], .g [.X (iw 3), .X (iw 1), .X (iw 10)], .g [.N], .g [], .g [.K 2 0, .K 2 1, .K 2 2]] [3, 4, 5, 6, 7, 11, 12, 13, 14, 15, 16, 17] rfl (fun b5 => by kernel_rfl) (fun b5 => ⟨Pre.cell hp0 0 rfl, Pre.cell hp0 1 rfl, Pre.cell hp0 2 rfl, trivial⟩) (fun b5 => ?_)
  refine Ok.segEnd rfl ?_
  refine Ok.thenN ?_
  refine Ok.start (idx := [0, 2]) [] [.blk b1 [n0] 30, .blk b5 [iw 3, iw 1, iw 10] 24] (by kernel_rfl) rfl rfl rfl ?_
  refine Ok.take (fuel' := 4) (l' := [true, true, true, true, true, true, false, false, false, false]) (qs := [(0, .g []), (1, .g []), (2, .g [.K 1 0, .K 1 1, .K 1 2]), (3, .g [.K 0 0]), (4, .g []), (5, .g [.K 1 1])]) [(3, pt b1 0), (4, n0), (5, sl b2 0 1 1), (6, iw 0), (7, pt b5 0), (11, sl p0 0 1 1), (12, iw 1), (13, iw 0), (14, bT), (15, iw 0), (16, pt p0 0), (17, .agg #[iw 3, iw 1, iw 10]), (18, sl b2 0 1 1), (19, iw 0), (20, .agg #[iw 3, iw 1, iw 10]), (21, .agg #[n0]), (22, pt b5 1), (23, iw 1)] [b5, b5, b5, b1, b5] [] [3, 4, 5, 6, 7, 11, 12, 13, 14, 15, 16, 17, 18, 19, 20, 21, 22, 23] (by intro c a w d v h; cases d <;> exact h) (by kernel_rfl) rfl trivial ?_
  refine Ok.one (i := 6) (fuel' := 3) (l' := [true, true, true, true, true, true, true, false, false, false]) (by kernel_rfl) rfl rfl (Eff.call0 (d := some 24) (by kernel_rfl) (x30_31 H) ?_)
  rintro v6 H7 k9 le8 rfl
  refine Ok.dropL ?_
  refine Ok.withS (idx := [0, 2]) le8 rfl ?_
  refine Ok.one (i := 7) (fuel' := 2) (l' := [true, true, true, true, true, true, true, true, false, false]) (by kernel_rfl) rfl rfl (Eff.call0 (d := some 25) (by kernel_rfl) (x29_32 H7) ?_)
  rintro v10 H11 k13 le12 rfl
  refine Ok.dropL ?_
  refine Ok.withS (idx := [0, 2]) (SLe.trans le8 le12) rfl ?_
  refine Ok.take (fuel' := 1) (l' := [true, true, true, true, true, true, true, true, true, false]) (qs := [(8, .g [])]) [(3, pt b1 0), (4, n0), (5, sl b2 0 1 1), (6, iw 0), (7, pt b5 0), (11, sl p0 0 1 1), (12, iw 1), (13, iw 0), (14, bT), (15, iw 0), (16, pt p0 0), (17, .agg #[iw 3, iw 1, iw 10]), (18, sl b2 0 1 1), (19, iw 0), (20, .agg #[iw 3, iw 1, iw 10]), (21, .agg #[n0]), (22, pt b5 1), (23, iw 1), (24, .agg #[bT, iw 0, s0]), (25, .agg #[bT, iw 0, s0]), (26, pt b2 0)] [] [] [3, 4, 5, 6, 7, 11, 12, 13, 14, 15, 16, 17, 18, 19, 20, 21, 22, 23, 24, 25, 26] (by intro c a w d v h; cases d <;> exact h) (by kernel_rfl) rfl trivial ?_
  refine Ok.one (i := 9) (fuel' := 0) (l' := [true, true, true, true, true, true, true, true, true, true]) (by kernel_rfl) rfl rfl (Eff.op (.g [.K 1 0, .K 1 1, .K 1 2]) (fun _ => [(3, pt b1 0), (4, n0), (5, sl b2 0 1 1), (6, iw 0), (7, pt b5 0), (11, sl p0 0 1 1), (12, iw 1), (13, iw 0), (14, bT), (15, iw 0), (16, pt p0 0), (17, .agg #[iw 3, iw 1, iw 10]), (18, sl b2 0 1 1), (19, iw 0), (20, .agg #[iw 3, iw 1, iw 10]), (21, .agg #[n0]), (22, pt b5 1), (23, iw 1), (24, .agg #[bT, iw 0, s0]), (25, .agg #[bT, iw 0, s0]), (26, pt b2 0)]) (fun _ => [.blk b1 [n0] 30, .blk b2 [bT, iw 0, s0] 26, .blk b5 [iw 3, iw 1, iw 10] 24]) (fun _ => [b2, b2, b2]) (fun _ => []) [3, 4, 5, 6, 7, 11, 12, 13, 14, 15, 16, 17, 18, 19, 20, 21, 22, 23, 24, 25, 26] (fun _ => by kernel_rfl) (fun _ => trivial) (fun _ => ?_))
  refine Ok.withS (idx := [0, 2]) (SLe.trans le8 le12) rfl ?_
  refine Ok.done (by kernel_rfl) ?_
  refine Ok.blkN ?_
  refine Ok.thenN ?_
  refine Ok.reg ?_
  refine Ok.seg (j := 2) (fun _ => [(3, pt b1 0), (4, n0), (5, sl b2 0 1 1), (6, iw 0), (7, pt b5 0), (11, sl p0 0 1 1), (12, iw 1), (13, iw 1), (14, bT), (15, iw 0), (16, pt p0 0), (17, .agg #[iw 3, iw 1, iw 10]), (18, sl b2 0 1 1), (19, iw 0), (20, .agg #[iw 3, iw 1, iw 10]), (21, .agg #[n0]), (22, pt b5 1), (23, iw 1), (24, .agg #[bT, iw 0, s0]), (25, .agg #[bT, iw 0, s0]), (26, pt b2 0), (27, iw 1)]) (fun _ => [.blk b1 [n0] 30, .blk b2 [bT, iw 0, s0] 26, .blk b5 [iw 3, iw 1, iw 10] 24]) (fun _ => []) (fun _ => []) [.g [], .g []] [3, 4, 5, 6, 7, 11, 12, 13, 14, 15, 16, 17, 18, 19, 20, 21, 22, 23, 24, 25, 26, 27] rfl (fun _ => by kernel_rfl) (fun _ => trivial) (fun _ => ?_)
  refine Ok.segEnd rfl ?_
  refine Ok.thenN ?_
  refine Ok.round ?_
  refine Ok.seq ?_
  refine Ok.reg ?_
  refine Ok.seg (j := 1) (fun _ => [(3, pt b1 0), (4, n0), (5, sl b2 0 1 1), (6, iw 0), (7, pt b5 0), (11, sl p0 0 1 1), (12, iw 1), (13, iw 1), (14, bF), (15, iw 0), (16, pt p0 0), (17, .agg #[iw 3, iw 1, iw 10]), (18, sl b2 0 1 1), (19, iw 0), (20, .agg #[iw 3, iw 1, iw 10]), (21, .agg #[n0]), (22, pt b5 1), (23, iw 1), (24, .agg #[bT, iw 0, s0]), (25, .agg #[bT, iw 0, s0]), (26, pt b2 0), (27, iw 1)]) (fun _ => [.blk b1 [n0] 30, .blk b2 [bT, iw 0, s0] 26, .blk b5 [iw 3, iw 1, iw 10] 24]) (fun _ => []) (fun _ => []) [.g []] [3, 4, 5, 6, 7, 11, 12, 13, 14, 15, 16, 17, 18, 19, 20, 21, 22, 23, 24, 25, 26, 27] rfl (fun _ => by kernel_rfl) (fun _ => trivial) (fun _ => ?_)
  refine Ok.segEnd rfl ?_
  refine Ok.thenN ?_
  refine Ok.seq ?_
  refine Ok.condF rfl ?_
  refine Ok.exit_ ?_
  refine Ok.thenE ?_
  refine Ok.thenE ?_
  refine Ok.blkE ?_
  refine Ok.thenN ?_
  refine Ok.seq ?_
  refine Ok.reg ?_
  refine Ok.seg (j := 2) (fun _ => [(4, sl b2 0 1 1)]) (fun _ => [.blk b1 [n0] 30, .blk b2 [bT, iw 0, s0] 26, .blk b5 [iw 3, iw 1, iw 10] 24]) (fun _ => []) (fun _ => []) [.g [], .g []] [4] rfl (fun _ => by kernel_rfl) (fun _ => trivial) (fun _ => ?_)
  refine Ok.mask [false, true, false] [.blk b2 [bT, iw 0, s0] 26] rfl ?_
  refine Ok.segEnd rfl ?_
  refine Ok.thenN ?_
  refine Ok.ret_ ?_
  refine Ok.pubP 0 rfl [] rfl ?_
  intro H18 le19 pf20
  exact Ok.ret1 (v := sl b2 0 1 1) (SLe.trans le8 (SLe.trans le12 le19)) rfl rfl ⟨b2, rfl, pf20⟩
set_option maxRecDepth 100000 in
theorem x5_29 (H : Snap) : Does Tryd.prog 5 [.agg #[iw 3, iw 1, iw 10], .agg #[n0]] H [] (fun v H' kp => v = .agg #[bT, iw 0, s0]) := by
  refine Does.of Tryd.func5 rfl rfl rfl rfl (fun w0 H0 kx => ?_)
  refine Ok.seq ?_
  refine Ok.reg ?_
  refine Ok.seg (j := 3) (fun b1 => [(2, pt b1 0), (3, pt (b1 + 1) 0), (4, pt (b1 + 1 + 1) 0)]) (fun b1 => [.blk b1 [iw 3, iw 1, iw 10] 24, .blk (b1 + 1) [n0] 30, .blk (b1 + 1 + 1) [bF, iw 0, s0] 26]) (fun b1 => []) (fun b1 => []) [.g [.N], .g [.N], .g [.N]] [2, 3, 4] rfl (fun b1 => by kernel_rfl) (fun b1 => trivial) (fun b1 => ?_)
  refine Ok.segEnd rfl ?_
  refine Ok.thenN ?_
  refine Ok.seq ?_
  refine Ok.reg ?_
  refine Ok.seg (j := 3) (fun b2 => [(4, pt (b1 + 1 + 1) 0), (7, sl b2 0 1 1), (8, .agg #[n0])]) (fun b2 => [.blk b1 [iw 3, iw 1, iw 10] 24, .blk (b1 + 1) [n0] 30, .blk (b1 + 1 + 1) [bF, iw 0, s0] 26, .blk b2 [iw 3, iw 1, iw 10] 24]) (fun b2 => [b1, b1, b1, b1 + 1]) (fun b2 => []) [.g [.K 0 0, .K 0 1, .K 0 2], .g [.N], .g [.K 1 0]] [4, 7, 8] rfl (fun b2 => by kernel_rfl) (fun b2 => trivial) (fun b2 => ?_)
  refine Ok.mask [false, false, true, true] [.blk (b1 + 1 + 1) [bF, iw 0, s0] 26, .blk b2 [iw 3, iw 1, iw 10] 24] rfl ?_
  refine Ok.pubP 1 rfl [.blk (b1 + 1 + 1) [bF, iw 0, s0] 26] rfl ?_
  intro H3 le4 pf5
  refine Ok.eff (j := 4) rfl (Eff.call0 (d := some 9) (by kernel_rfl) (x15_30 H3 b2 pf5) ?_)
  rintro v6 H7 k9 le8 ⟨q10, rfl, pf11⟩
  refine Ok.dropL ?_
  refine Ok.seg (j := 5) (fun _ => [(4, pt (b1 + 1 + 1) 0), (5, sl q10 0 1 1)]) (fun _ => [.blk (b1 + 1 + 1) [bF, iw 0, s0] 26]) (fun _ => []) (fun _ => []) [.g []] [4, 5] rfl (fun _ => by kernel_rfl) (fun _ => trivial) (fun _ => ?_)
  refine Ok.segEnd rfl ?_
  refine Ok.thenN ?_
  refine Ok.seq ?_
  refine Ok.seq ?_
  refine Ok.reg ?_
  refine Ok.seg (j := 3) (fun _ => [(4, pt (b1 + 1 + 1) 0), (5, sl q10 0 1 1), (12, bF)]) (fun _ => [.blk (b1 + 1 + 1) [bF, iw 0, s0] 26]) (fun _ => []) (fun _ => []) [.g [], .g [], .g []] [4, 5, 12] rfl (fun _ => by kernel_rfl) (fun _ => trivial) (fun _ => ?_)
  refine Ok.segEnd rfl ?_
  refine Ok.thenN ?_
  refine Ok.condF rfl ?_
  refine Ok.skip_ ?_
  refine Ok.thenN ?_
  refine Ok.seq ?_
  refine Ok.reg ?_
  refine Ok.seg (j := 4) (fun _ => [(4, pt (b1 + 1 + 1) 0)]) (fun _ => [.blk (b1 + 1 + 1) [bT, iw 0, s0] 26]) (fun _ => [b1 + 1 + 1, b1 + 1 + 1, b1 + 1 + 1]) (fun _ => [HasCell H7 ⟨q10, 0, none⟩ (bT), HasCell H7 ⟨q10, 1, none⟩ (iw 0), HasCell H7 ⟨q10, 2, none⟩ (s0)]) [.g [], .g [], .g [.X (bT), .X (iw 0), .X (s0)], .g [.K 0 0, .K 0 1, .K 0 2]] [4] rfl (fun _ => by kernel_rfl) (fun _ => ⟨Pre.cell pf11 0 rfl, Pre.cell pf11 1 rfl, Pre.cell pf11 2 rfl, trivial⟩) (fun _ => ?_)
  refine Ok.segEnd rfl ?_
  refine Ok.thenN ?_
  refine Ok.ret_ ?_
  exact Ok.ret1c (SLe.trans le4 le8) [.K 0 0, .K 0 1, .K 0 2] (.agg #[bT, iw 0, s0]) [b1 + 1 + 1, b1 + 1 + 1, b1 + 1 + 1] rfl (by kernel_rfl) rfl
set_option maxRecDepth 100000 in
theorem x9_33 (H : Snap) : Does Tryd.prog 9 [iw 17, iw 42] H [] (fun v H' kp => v = .agg #[iw 1, iw 1, iw 17, iw 42, n0, s0, n0]) := by
  refine Does.of Tryd.func9 rfl rfl rfl rfl (fun w0 H0 kx => ?_)
  refine Ok.seq ?_
  refine Ok.reg ?_
  refine Ok.seg (j := 1) (fun b1 => [(0, iw 17), (1, iw 42), (4, pt b1 0)]) (fun b1 => [.blk b1 [iw 0, iw 0, iw 0, iw 0, n0, s0, n0] 44]) (fun b1 => []) (fun b1 => []) [.g [.N]] [0, 1, 4] rfl (fun b1 => by kernel_rfl) (fun b1 => trivial) (fun b1 => ?_)
  refine Ok.segEnd rfl ?_
  refine Ok.thenN ?_
  refine Ok.seq ?_
  refine Ok.reg ?_
  refine Ok.seg (j := 4) (fun _ => [(4, pt b1 0)]) (fun _ => [.blk b1 [iw 1, iw 1, iw 17, iw 42, n0, s0, n0] 44]) (fun _ => [b1, b1, b1, b1, b1, b1, b1]) (fun _ => []) [.g [], .g [], .g [], .g [.K 0 0, .K 0 1, .K 0 2, .K 0 3, .K 0 4, .K 0 5, .K 0 6]] [4] rfl (fun _ => by kernel_rfl) (fun _ => trivial) (fun _ => ?_)
  refine Ok.segEnd rfl ?_
  refine Ok.thenN ?_
  refine Ok.ret_ ?_
  exact Ok.ret1c (SLe.refl _) [.K 0 0, .K 0 1, .K 0 2, .K 0 3, .K 0 4, .K 0 5, .K 0 6] (.agg #[iw 1, iw 1, iw 17, iw 42, n0, s0, n0]) [b1, b1, b1, b1, b1, b1, b1] rfl (by kernel_rfl) rfl
set_option maxRecDepth 100000 in
theorem x17_35 (H : Snap) : Does Tryd.prog 17 [.agg #[iw 3, iw 1, iw 10]] H [] (fun v H' kp => ∃ r0 : Nat, v = .tuple #[.func (.func 33) #[] #[pt r0 0], .func (.func 36) #[] #[pt r0 0]] ∧ Pre H' r0 [iw 3, iw 1, iw 10]) := by
  refine Does.of Tryd.func17 rfl rfl rfl rfl (fun w0 H0 kx => ?_)
  refine Ok.seq ?_
  refine Ok.reg ?_
  refine Ok.seg (j := 3) (fun b1 => [(1, pt b1 0), (2, .nilFunc), (3, .nilFunc)]) (fun b1 => [.blk b1 [iw 3, iw 1, iw 10] 24]) (fun b1 => []) (fun b1 => []) [.g [.N], .g [], .g []] [1, 2, 3] rfl (fun b1 => by kernel_rfl) (fun b1 => trivial) (fun b1 => ?_)
  refine Ok.segEnd rfl ?_
  refine Ok.thenN ?_
  refine Ok.seq ?_
  refine Ok.reg ?_
  refine Ok.seg (j := 1) (fun _ => [(1, pt b1 0), (2, .func (.func 31) #[] #[]), (3, .nilFunc)]) (fun _ => [.blk b1 [iw 3, iw 1, iw 10] 24]) (fun _ => []) (fun _ => []) [.g []] [1, 2, 3] rfl (fun _ => by kernel_rfl) (fun _ => trivial) (fun _ => ?_)
  refine Ok.segEnd rfl ?_
  refine Ok.thenN ?_
  refine Ok.seq ?_
  refine Ok.seq ?_
  refine Ok.reg ?_
  refine Ok.seg (j := 8) (fun _ => [(1, pt b1 0), (2, .func (.func 31) #[] #[]), (3, .nilFunc), (11, bF)]) (fun _ => [.blk b1 [iw 3, iw 1, iw 10] 24]) (fun _ => [b1, b1]) (fun _ => []) [.g [], .g [.K 0 0], .g [], .g [], .g [], .g [.K 0 0], .g [], .g []] [1, 2, 3, 11] rfl (fun _ => by kernel_rfl) (fun _ => trivial) (fun _ => ?_)
  refine Ok.segEnd rfl ?_
  refine Ok.thenN ?_
  refine Ok.condF rfl ?_
  refine Ok.skip_ ?_
  refine Ok.thenN ?_
  refine Ok.seq ?_
  refine Ok.reg ?_
  refine Ok.seg (j := 2) (fun _ => [(1, pt b1 0), (2, .func (.func 33) #[] #[pt b1 0]), (3, .nilFunc)]) (fun _ => [.blk b1 [iw 3, iw 1, iw 10] 24]) (fun _ => []) (fun _ => []) [.g [], .g []] [1, 2, 3] rfl (fun _ => by kernel_rfl) (fun _ => trivial) (fun _ => ?_)
  refine Ok.segEnd rfl ?_
  refine Ok.thenN ?_
  refine Ok.seq ?_
  refine Ok.reg ?_
  refine Ok.seg (j := 2) (fun _ => [(2, .func (.func 33) #[] #[pt b1 0]), (3, .func (.func 36) #[] #[pt b1 0])]) (fun _ => [.blk b1 [iw 3, iw 1, iw 10] 24]) (fun _ => []) (fun _ => []) [.g [], .g []] [2, 3] rfl (fun _ => by kernel_rfl) (fun _ => trivial) (fun _ => ?_)
  refine Ok.segEnd rfl ?_
  refine Ok.thenN ?_
  refine Ok.seq ?_
  refine Ok.reg ?_
  refine Ok.seg (j := 4) (fun _ => [(2, .func (.func 33) #[] #[pt b1 0]), (3, .func (.func 36) #[] #[pt b1 0])]) (fun _ => [.blk b1 [iw 3, iw 1, iw 10] 24]) (fun _ => []) (fun _ => []) [.g [], .g [], .g [], .g []] [2, 3] rfl (fun _ => by kernel_rfl) (fun _ => trivial) (fun _ => ?_)
  refine Ok.segEnd rfl ?_
  refine Ok.thenN ?_
  refine Ok.ret_ ?_
  refine Ok.pubP 0 rfl [] rfl ?_
  intro H7 le8 pf9
  exact Ok.ret2 (v := .func (.func 33) #[] #[pt b1 0]) (x := .func (.func 36) #[] #[pt b1 0]) le8 rfl rfl rfl ⟨b1, rfl, pf9⟩
set_option maxRecDepth 100000 in
theorem x54_39 (H : Snap) : Does Tryd.prog 54 [iw 42, iw 10] H [] (fun v H' kp => v = iw 40) := by
  refine Does.of Tryd.func54 rfl rfl rfl rfl (fun w0 H0 kx => ?_)
  refine Ok.seq ?_
  refine Ok.reg ?_
  refine Ok.seg (j := 1) (fun _ => [(0, iw 42), (1, iw 10), (4, iw 0)]) (fun _ => []) (fun _ => []) (fun _ => []) [.g []] [0, 1, 4] rfl (fun _ => by kernel_rfl) (fun _ => trivial) (fun _ => ?_)
  refine Ok.segEnd rfl ?_
  refine Ok.thenN ?_
  refine Ok.seq ?_
  refine Ok.reg ?_
  refine Ok.seg (j := 4) (fun _ => [(0, iw 42), (1, iw 10), (4, iw 0), (5, iw 2)]) (fun _ => []) (fun _ => []) (fun _ => []) [.g [], .g [], .g [], .g []] [0, 1, 4, 5] rfl (fun _ => by kernel_rfl) (fun _ => trivial) (fun _ => ?_)
  refine Ok.segEnd rfl ?_
  refine Ok.thenN ?_
  refine Ok.seq ?_
  refine Ok.seq ?_
  refine Ok.reg ?_
  refine Ok.seg (j := 2) (fun _ => [(0, iw 42), (1, iw 10), (4, iw 0), (5, iw 2), (10, bF)]) (fun _ => []) (fun _ => []) (fun _ => []) [.g [], .g []] [0, 1, 4, 5, 10] rfl (fun _ => by kernel_rfl) (fun _ => trivial) (fun _ => ?_)
  refine Ok.segEnd rfl ?_
  refine Ok.thenN ?_
  refine Ok.condF rfl ?_
  refine Ok.skip_ ?_
  refine Ok.thenN ?_
  refine Ok.seq ?_
  refine Ok.seq ?_
  refine Ok.reg ?_
  refine Ok.seg (j := 4) (fun _ => [(0, iw 42), (4, iw 0), (5, iw 2), (17, bF)]) (fun _ => []) (fun _ => []) (fun _ => []) [.g [], .g [], .g [], .g []] [0, 4, 5, 17] rfl (fun _ => by kernel_rfl) (fun _ => trivial) (fun _ => ?_)
  refine Ok.segEnd rfl ?_
  refine Ok.thenN ?_
  refine Ok.condF rfl ?_
  refine Ok.skip_ ?_
  refine Ok.thenN ?_
  refine Ok.seq ?_
  refine Ok.reg ?_
  refine Ok.seg (j := 4) (fun _ => [(4, iw 40)]) (fun _ => []) (fun _ => []) (fun _ => []) [.g [], .g [], .g [], .g []] [4] rfl (fun _ => by kernel_rfl) (fun _ => trivial) (fun _ => ?_)
  refine Ok.segEnd rfl ?_
  refine Ok.thenN ?_
  refine Ok.ret_ ?_
  exact Ok.ret1 (v := iw 40) (SLe.refl _) rfl rfl rfl
set_option maxRecDepth 100000 in
theorem x58_40 (H : Snap) : Does Tryd.prog 58 [iw 1, iw 10, iw 40] H [] (fun v H' kp => v = .agg #[iw 1, iw 1, iw 10, iw 40, n0, s0, n0]) := by
  refine Does.of Tryd.func58 rfl rfl rfl rfl (fun w0 H0 kx => ?_)
  refine Ok.seq ?_
  refine Ok.reg ?_
  refine Ok.seg (j := 1) (fun b1 => [(0, iw 1), (1, iw 10), (2, iw 40), (6, pt b1 0)]) (fun b1 => [.blk b1 [iw 0, iw 0, iw 0, iw 0, n0, s0, n0] 44]) (fun b1 => []) (fun b1 => []) [.g [.N]] [0, 1, 2, 6] rfl (fun b1 => by kernel_rfl) (fun b1 => trivial) (fun b1 => ?_)
  refine Ok.segEnd rfl ?_
  refine Ok.thenN ?_
  refine Ok.seq ?_
  refine Ok.reg ?_
  refine Ok.seg (j := 5) (fun _ => [(6, pt b1 0)]) (fun _ => [.blk b1 [iw 1, iw 1, iw 10, iw 40, n0, s0, n0] 44]) (fun _ => [b1, b1, b1, b1, b1, b1, b1]) (fun _ => []) [.g [], .g [], .g [], .g [], .g [.K 0 0, .K 0 1, .K 0 2, .K 0 3, .K 0 4, .K 0 5, .K 0 6]] [6] rfl (fun _ => by kernel_rfl) (fun _ => trivial) (fun _ => ?_)
  refine Ok.segEnd rfl ?_
  refine Ok.thenN ?_
  refine Ok.ret_ ?_
  exact Ok.ret1c (SLe.refl _) [.K 0 0, .K 0 1, .K 0 2, .K 0 3, .K 0 4, .K 0 5, .K 0 6] (.agg #[iw 1, iw 1, iw 10, iw 40, n0, s0, n0]) [b1, b1, b1, b1, b1, b1, b1] rfl (by kernel_rfl) rfl
set_option maxRecDepth 100000 in
theorem x35_38 (H : Snap) : Does Tryd.prog 35 [.agg #[iw 3, iw 1, iw 10], .agg #[iw 1, iw 1, iw 17, iw 42, n0, s0, n0]] H [] (fun v H' kp => v = .agg #[iw 1, iw 1, iw 10, iw 40, n0, s0, n0]) := by
  refine Does.of Tryd.func35 rfl rfl rfl rfl (fun w0 H0 kx => ?_)
  refine Ok.seq ?_
  refine Ok.reg ?_
  refine Ok.seg (j := 3) (fun b1 => [(2, pt b1 0), (3, pt (b1 + 1) 0), (4, pt (b1 + 1 + 1) 0)]) (fun b1 => [.blk b1 [iw 3, iw 1, iw 10] 24, .blk (b1 + 1) [iw 1, iw 1, iw 17, iw 42, n0, s0, n0] 44, .blk (b1 + 1 + 1) [iw 0, iw 0, iw 0, iw 0, n0, s0, n0] 44]) (fun b1 => []) (fun b1 => []) [.g [.N], .g [.N], .g [.N]] [2, 3, 4] rfl (fun b1 => by kernel_rfl) (fun b1 => trivial) (fun b1 => ?_)
  refine Ok.segEnd rfl ?_
  refine Ok.thenN ?_
  refine Ok.seq ?_
  refine Ok.seq ?_
  refine Ok.reg ?_
  refine Ok.seg (j := 5) (fun _ => [(2, pt b1 0), (3, pt (b1 + 1) 0), (4, pt (b1 + 1 + 1) 0), (11, bF)]) (fun _ => [.blk b1 [iw 3, iw 1, iw 10] 24, .blk (b1 + 1) [iw 1, iw 1, iw 17, iw 42, n0, s0, n0] 44, .blk (b1 + 1 + 1) [iw 0, iw 0, iw 0, iw 0, n0, s0, n0] 44]) (fun _ => [b1 + 1, b1 + 1]) (fun _ => []) [.g [], .g [.K 1 2], .g [], .g [.K 1 3], .g []] [2, 3, 4, 11] rfl (fun _ => by kernel_rfl) (fun _ => trivial) (fun _ => ?_)
  refine Ok.segEnd rfl ?_
  refine Ok.thenN ?_
  refine Ok.condF rfl ?_
  refine Ok.skip_ ?_
  refine Ok.thenN ?_
  refine Ok.seq ?_
  refine Ok.seq ?_
  refine Ok.reg ?_
  refine Ok.seg (j := 2) (fun _ => [(2, pt b1 0), (3, pt (b1 + 1) 0), (4, pt (b1 + 1 + 1) 0), (14, iw 3)]) (fun _ => [.blk b1 [iw 3, iw 1, iw 10] 24, .blk (b1 + 1) [iw 1, iw 1, iw 17, iw 42, n0, s0, n0] 44, .blk (b1 + 1 + 1) [iw 0, iw 0, iw 0, iw 0, n0, s0, n0] 44]) (fun _ => [b1]) (fun _ => []) [.g [], .g [.K 0 0]] [2, 3, 4, 14] rfl (fun _ => by kernel_rfl) (fun _ => trivial) (fun _ => ?_)
  refine Ok.segEnd rfl ?_
  refine Ok.thenN ?_
  refine Ok.blk ?_
  refine Ok.seq ?_
  refine Ok.reg ?_
  refine Ok.seg (j := 2) (fun _ => [(2, pt b1 0), (3, pt (b1 + 1) 0), (4, pt (b1 + 1 + 1) 0), (14, iw 3), (15, bT)]) (fun _ => [.blk b1 [iw 3, iw 1, iw 10] 24, .blk (b1 + 1) [iw 1, iw 1, iw 17, iw 42, n0, s0, n0] 44, .blk (b1 + 1 + 1) [iw 0, iw 0, iw 0, iw 0, n0, s0, n0] 44]) (fun _ => []) (fun _ => []) [.g [], .g []] [2, 3, 4, 14, 15] rfl (fun _ => by kernel_rfl) (fun _ => trivial) (fun _ => ?_)
  refine Ok.segEnd rfl ?_
  refine Ok.thenN ?_
  refine Ok.condT rfl ?_
  refine Ok.seq ?_
  refine Ok.start (idx := [0, 1]) [] [.blk b1 [iw 3, iw 1, iw 10] 24, .blk (b1 + 1) [iw 1, iw 1, iw 17, iw 42, n0, s0, n0] 44] (by kernel_rfl) rfl rfl rfl ?_
  refine Ok.take (fuel' := 4) (l' := [true, true, true, true, true, true, false, true, true, true, true, false, false, false]) (qs := [(0, .g []), (1, .g [.K 0 1]), (2, .g []), (3, .g [.K 1 2]), (4, .g []), (5, .g [.K 0 2]), (7, .g []), (8, .g [.K 1 3]), (9, .g []), (10, .g [.K 0 2])]) [(2, pt b1 0), (3, pt (b1 + 1) 0), (4, pt (b1 + 1 + 1) 0), (18, iw 1), (20, iw 17), (22, iw 10), (25, iw 42), (27, iw 10)] [b1, b1 + 1, b1, b1 + 1, b1] [] [2, 3, 4, 18, 20, 22, 25, 27] (by intro c a w d v h; cases d <;> exact h) (by kernel_rfl) rfl trivial ?_
  refine Ok.one (i := 6) (fuel' := 3) (l' := [true, true, true, true, true, true, true, true, true, true, true, false, false, false]) (by kernel_rfl) rfl rfl (Eff.call0 (d := some 23) (by kernel_rfl) (x54_7 H) ?_)
  rintro v5 H6 k8 le7 rfl
  refine Ok.dropL ?_
  refine Ok.withS (idx := [0, 1]) le7 rfl ?_
  refine Ok.one (i := 11) (fuel' := 2) (l' := [true, true, true, true, true, true, true, true, true, true, true, true, false, false]) (by kernel_rfl) rfl rfl (Eff.call0 (d := some 28) (by kernel_rfl) (x54_39 H6) ?_)
  rintro v9 H10 k12 le11 rfl
  refine Ok.dropL ?_
  refine Ok.withS (idx := [0, 1]) (SLe.trans le7 le11) rfl ?_
  refine Ok.one (i := 12) (fuel' := 1) (l' := [true, true, true, true, true, true, true, true, true, true, true, true, true, false]) (by kernel_rfl) rfl rfl (Eff.call0 (d := some 29) (by kernel_rfl) (x58_40 H10) ?_)
  rintro v13 H14 k16 le15 rfl
  refine Ok.dropL ?_
  refine Ok.withS (idx := [0, 1]) (SLe.trans le7 (SLe.trans le11 le15)) rfl ?_
  refine Ok.one (i := 13) (fuel' := 0) (l' := [true, true, true, true, true, true, true, true, true, true, true, true, true, true]) (by kernel_rfl) rfl rfl (Eff.op (.g [.K 2 0, .K 2 1, .K 2 2, .K 2 3, .K 2 4, .K 2 5, .K 2 6]) (fun _ => [(2, pt b1 0), (3, pt (b1 + 1) 0), (4, pt (b1 + 1 + 1) 0)]) (fun _ => [.blk b1 [iw 3, iw 1, iw 10] 24, .blk (b1 + 1) [iw 1, iw 1, iw 17, iw 42, n0, s0, n0] 44, .blk (b1 + 1 + 1) [iw 1, iw 1, iw 10, iw 40, n0, s0, n0] 44]) (fun _ => [b1 + 1 + 1, b1 + 1 + 1, b1 + 1 + 1, b1 + 1 + 1, b1 + 1 + 1, b1 + 1 + 1, b1 + 1 + 1]) (fun _ => []) [2, 3, 4] (fun _ => by kernel_rfl) (fun _ => trivial) (fun _ => ?_))
  refine Ok.withS (idx := [0, 1]) (SLe.trans le7 (SLe.trans le11 le15)) rfl ?_
  refine Ok.done (by kernel_rfl) ?_
  refine Ok.thenN ?_
  refine Ok.ret_ ?_
  refine Ok.blkR ?_
  refine Ok.thenR ?_
  exact Ok.ret1c (SLe.trans le7 (SLe.trans le11 le15)) [.K 2 0, .K 2 1, .K 2 2, .K 2 3, .K 2 4, .K 2 5, .K 2 6] (.agg #[iw 1, iw 1, iw 10, iw 40, n0, s0, n0]) [b1 + 1 + 1, b1 + 1 + 1, b1 + 1 + 1, b1 + 1 + 1, b1 + 1 + 1, b1 + 1 + 1, b1 + 1 + 1] rfl (by kernel_rfl) rfl
set_option maxRecDepth 100000 in
theorem x33_37 (H : Snap) (p0 : Nat) (hp0 : Pre H p0 [iw 3, iw 1, iw 10]) : Does Tryd.prog 33 [.agg #[iw 1, iw 1, iw 17, iw 42, n0, s0, n0], pt p0 0] H [] (fun v H' kp => v = .agg #[iw 1, iw 1, iw 10, iw 40, n0, s0, n0]) := by
  refine Does.of Tryd.func33 rfl rfl rfl rfl (fun w0 H0 kx => ?_)
  refine Ok.seq ?_
  refine Ok.reg ?_
  refine Ok.seg (j := 2) (fun b1 => [(1, pt p0 0), (2, pt b1 0), (3, pt (b1 + 1) 0)]) (fun b1 => [.blk b1 [iw 1, iw 1, iw 17, iw 42, n0, s0, n0] 44, .blk (b1 + 1) [iw 0, iw 0, iw 0, iw 0, n0, s0, n0] 44]) (fun b1 => []) (fun b1 => []) [.g [.N], .g [.N]] [1, 2, 3] rfl (fun b1 => by kernel_rfl) (fun b1 => trivial) (fun b1 => ?_)
  refine Ok.segEnd rfl ?_
  refine Ok.thenN ?_
  refine Ok.seq ?_
  refine Ok.seq ?_
  refine Ok.reg ?_
  refine Ok.seg (j := 2) (fun _ => [(1, pt p0 0), (2, pt b1 0), (3, pt (b1 + 1) 0), (5, iw 1)]) (fun _ => [.blk b1 [iw 1, iw 1, iw 17, iw 42, n0, s0, n0] 44, .blk (b1 + 1) [iw 0, iw 0, iw 0, iw 0, n0, s0, n0] 44]) (fun _ => [b1]) (fun _ => []) [.g [], .g [.K 0 0]] [1, 2, 3, 5] rfl (fun _ => by kernel_rfl) (fun _ => trivial) (fun _ => ?_)
  refine Ok.segEnd rfl ?_
  refine Ok.thenN ?_
  refine Ok.blk ?_
  refine Ok.seq ?_
  refine Ok.reg ?_
  refine Ok.seg (j := 2) (fun _ => [(1, pt p0 0), (2, pt b1 0), (3, pt (b1 + 1) 0), (5, iw 1), (6, bF)]) (fun _ => [.blk b1 [iw 1, iw 1, iw 17, iw 42, n0, s0, n0] 44, .blk (b1 + 1) [iw 0, iw 0, iw 0, iw 0, n0, s0, n0] 44]) (fun _ => []) (fun _ => []) [.g [], .g []] [1, 2, 3, 5, 6] rfl (fun _ => by kernel_rfl) (fun _ => trivial) (fun _ => ?_)
  refine Ok.segEnd rfl ?_
  refine Ok.thenN ?_
  refine Ok.condF rfl ?_
  refine Ok.seq ?_
  refine Ok.reg ?_
  refine Ok.seg (j := 2) (fun _ => [(1, pt p0 0), (2, pt b1 0), (3, pt (b1 + 1) 0), (5, iw 1), (9, bF)]) (fun _ => [.blk b1 [iw 1, iw 1, iw 17, iw 42, n0, s0, n0] 44, .blk (b1 + 1) [iw 0, iw 0, iw 0, iw 0, n0, s0, n0] 44]) (fun _ => []) (fun _ => []) [.g [], .g []] [1, 2, 3, 5, 9] rfl (fun _ => by kernel_rfl) (fun _ => trivial) (fun _ => ?_)
  refine Ok.segEnd rfl ?_
  refine Ok.thenN ?_
  refine Ok.condF rfl ?_
  refine Ok.seq ?_
  refine Ok.reg ?_
  refine Ok.seg (j := 2) (fun _ => [(1, pt p0 0), (2, pt b1 0), (3, pt (b1 + 1) 0), (15, bF)]) (fun _ => [.blk b1 [iw 1, iw 1, iw 17, iw 42, n0, s0, n0] 44, .blk (b1 + 1) [iw 0, iw 0, iw 0, iw 0, n0, s0, n0] 44]) (fun _ => []) (fun _ => []) [.g [], .g []] [1, 2, 3, 15] rfl (fun _ => by kernel_rfl) (fun _ => trivial) (fun _ => ?_)
  refine Ok.segEnd rfl ?_
  refine Ok.thenN ?_
  refine Ok.condF rfl ?_
  refine Ok.skip_ ?_
  refine Ok.blkN ?_
  refine Ok.thenN ?_
  refine Ok.seq ?_
  refine Ok.reg ?_
  refine Ok.seg (j := 2) (fun _ => [(3, pt (b1 + 1) 0), (33, .agg #[iw 3, iw 1, iw 10]), (34, .agg #[iw 1, iw 1, iw 17, iw 42, n0, s0, n0])]) (fun _ => [.blk b1 [iw 1, iw 1, iw 17, iw 42, n0, s0, n0] 44, .blk (b1 + 1) [iw 0, iw 0, iw 0, iw 0, n0, s0, n0] 44]) (fun _ => [b1, b1, b1, b1, b1, b1, b1]) (fun _ => [HasCell H ⟨p0, 0, none⟩ (iw 3), HasCell H ⟨p0, 1, none⟩ (iw 1), HasCell H ⟨p0, 2, none⟩ (iw 10)]) [.g [.X (iw 3), .X (iw 1), .X (iw 10)], .g [.K 0 0, .K 0 1, .K 0 2, .K 0 3, .K 0 4, .K 0 5, .K 0 6]] [3, 33, 34] rfl (fun _ => by kernel_rfl) (fun _ => ⟨Pre.cell hp0 0 rfl, Pre.cell hp0 1 rfl, Pre.cell hp0 2 rfl, trivial⟩) (fun _ => ?_)
  refine Ok.eff (j := 3) rfl (Eff.call0 (d := some 35) (by kernel_rfl) (x35_38 H) ?_)
  rintro v7 H8 k10 le9 rfl
  refine Ok.dropL ?_
  refine Ok.seg (j := 4) (fun _ => [(3, pt (b1 + 1) 0)]) (fun _ => [.blk b1 [iw 1, iw 1, iw 17, iw 42, n0, s0, n0] 44, .blk (b1 + 1) [iw 1, iw 1, iw 10, iw 40, n0, s0, n0] 44]) (fun _ => [b1 + 1, b1 + 1, b1 + 1, b1 + 1, b1 + 1, b1 + 1, b1 + 1]) (fun _ => []) [.g [.K 1 0, .K 1 1, .K 1 2, .K 1 3, .K 1 4, .K 1 5, .K 1 6]] [3] rfl (fun _ => by kernel_rfl) (fun _ => trivial) (fun _ => ?_)
  refine Ok.segEnd rfl ?_
  refine Ok.thenN ?_
  refine Ok.ret_ ?_
  exact Ok.ret1c le9 [.K 1 0, .K 1 1, .K 1 2, .K 1 3, .K 1 4, .K 1 5, .K 1 6] (.agg #[iw 1, iw 1, iw 10, iw 40, n0, s0, n0]) [b1 + 1, b1 + 1, b1 + 1, b1 + 1, b1 + 1, b1 + 1, b1 + 1] rfl (by kernel_rfl) rfl
set_option maxRecDepth 100000 in
theorem x18_36 (H : Snap) (p0 p1 p2 p3 p4 : Nat) (hp0 : Pre H p0 [iw 3, iw 1, iw 10]) (hp1 : Pre H p1 [.func (.func 33) #[] #[pt p2 0]]) (hp2 : Pre H p2 [iw 3, iw 1, iw 10]) (hp3 : Pre H p3 [.func (.func 36) #[] #[pt p2 0]]) (hp4 : Pre H p4 [.func (.func 18) #[] #[pt p0 0, pt p1 0, pt p3 0, pt p4 0]]) : Does Tryd.prog 18 [.agg #[iw 1, iw 1, iw 17, iw 42, n0, s0, n0], bT, pt p0 0, pt p1 0, pt p3 0, pt p4 0] H [] (fun v H' kp => v = .agg #[iw 1, iw 1, iw 10, iw 40, n0, s0, n0]) := by
  refine Does.of Tryd.func18 rfl rfl rfl rfl (fun w0 H0 kx => ?_)
  refine Ok.seq ?_
  refine Ok.reg ?_
  refine Ok.seg (j := 2) (fun b1 => [(1, bT), (2, pt p0 0), (3, pt p1 0), (4, pt p3 0), (5, pt p4 0), (6, pt b1 0), (8, pt (b1 + 1) 0)]) (fun b1 => [.blk b1 [iw 1, iw 1, iw 17, iw 42, n0, s0, n0] 44, .blk (b1 + 1) [iw 0, iw 0, iw 0, iw 0, n0, s0, n0] 44]) (fun b1 => []) (fun b1 => []) [.g [.N], .g [.N]] [1, 2, 3, 4, 5, 6, 8] rfl (fun b1 => by kernel_rfl) (fun b1 => trivial) (fun b1 => ?_)
  refine Ok.segEnd rfl ?_
  refine Ok.thenN ?_
  refine Ok.seq ?_
  refine Ok.seq ?_
  refine Ok.reg ?_
  refine Ok.seg (j := 2) (fun _ => [(1, bT), (2, pt p0 0), (3, pt p1 0), (4, pt p3 0), (5, pt p4 0), (6, pt b1 0), (8, pt (b1 + 1) 0), (13, iw 1)]) (fun _ => [.blk b1 [iw 1, iw 1, iw 17, iw 42, n0, s0, n0] 44, .blk (b1 + 1) [iw 0, iw 0, iw 0, iw 0, n0, s0, n0] 44]) (fun _ => [b1]) (fun _ => []) [.g [], .g [.K 0 0]] [1, 2, 3, 4, 5, 6, 8, 13] rfl (fun _ => by kernel_rfl) (fun _ => trivial) (fun _ => ?_)
  refine Ok.segEnd rfl ?_
  refine Ok.thenN ?_
  refine Ok.blk ?_
  refine Ok.seq ?_
  refine Ok.reg ?_
  refine Ok.seg (j := 2) (fun _ => [(1, bT), (2, pt p0 0), (3, pt p1 0), (4, pt p3 0), (5, pt p4 0), (6, pt b1 0), (8, pt (b1 + 1) 0), (13, iw 1), (14, bF)]) (fun _ => [.blk b1 [iw 1, iw 1, iw 17, iw 42, n0, s0, n0] 44, .blk (b1 + 1) [iw 0, iw 0, iw 0, iw 0, n0, s0, n0] 44]) (fun _ => []) (fun _ => []) [.g [], .g []] [1, 2, 3, 4, 5, 6, 8, 13, 14] rfl (fun _ => by kernel_rfl) (fun _ => trivial) (fun _ => ?_)
  refine Ok.segEnd rfl ?_
  refine Ok.thenN ?_
  refine Ok.condF rfl ?_
  refine Ok.seq ?_
  refine Ok.seq ?_
  refine Ok.reg ?_
  refine Ok.seg (j := 2) (fun _ => [(1, bT), (2, pt p0 0), (3, pt p1 0), (4, pt p3 0), (5, pt p4 0), (6, pt b1 0), (8, pt (b1 + 1) 0), (13, iw 1), (19, bT)]) (fun _ => [.blk b1 [iw 1, iw 1, iw 17, iw 42, n0, s0, n0] 44, .blk (b1 + 1) [iw 0, iw 0, iw 0, iw 0, n0, s0, n0] 44]) (fun _ => []) (fun _ => []) [.g [], .g []] [1, 2, 3, 4, 5, 6, 8, 13, 19] rfl (fun _ => by kernel_rfl) (fun _ => trivial) (fun _ => ?_)
  refine Ok.segEnd rfl ?_
  refine Ok.thenN ?_
  refine Ok.condT rfl ?_
  refine Ok.skip_ ?_
  refine Ok.thenN ?_
  refine Ok.condT rfl ?_
  refine Ok.seq ?_
  refine Ok.seq ?_
  refine Ok.reg ?_
  refine Ok.seg (j := 8) (fun _ => [(2, pt p0 0), (3, pt p1 0), (4, pt p3 0), (6, pt b1 0), (8, pt (b1 + 1) 0), (31, bT)]) (fun _ => [.blk b1 [iw 1, iw 1, iw 17, iw 42, n0, s0, n0] 44, .blk (b1 + 1) [iw 0, iw 0, iw 0, iw 0, n0, s0, n0] 44]) (fun _ => [b1]) (fun _ => [HasCell H ⟨p0, 1, none⟩ (iw 1)]) [.g [], .g [.K 0 1], .g [], .g [.X (iw 1)], .g [], .g [], .g [], .g []] [2, 3, 4, 6, 8, 31] rfl (fun _ => by kernel_rfl) (fun _ => ⟨Pre.cell hp0 1 rfl, trivial⟩) (fun _ => ?_)
  refine Ok.segEnd rfl ?_
  refine Ok.thenN ?_
  refine Ok.condT rfl ?_
  refine Ok.seq ?_
  refine Ok.reg ?_
  refine Ok.seg (j := 2) (fun _ => [(2, pt p0 0), (4, pt p3 0), (6, pt b1 0), (8, pt (b1 + 1) 0), (32, .func (.func 33) #[] #[pt p2 0]), (33, .agg #[iw 1, iw 1, iw 17, iw 42, n0, s0, n0])]) (fun _ => [.blk b1 [iw 1, iw 1, iw 17, iw 42, n0, s0, n0] 44, .blk (b1 + 1) [iw 0, iw 0, iw 0, iw 0, n0, s0, n0] 44]) (fun _ => [b1, b1, b1, b1, b1, b1, b1]) (fun _ => [HasCell H ⟨p1, 0, none⟩ (.func (.func 33) #[] #[pt p2 0])]) [.g [.X (.func (.func 33) #[] #[pt p2 0])], .g [.K 0 0, .K 0 1, .K 0 2, .K 0 3, .K 0 4, .K 0 5, .K 0 6]] [2, 4, 6, 8, 32, 33] rfl (fun _ => by kernel_rfl) (fun _ => ⟨Pre.cell hp1 0 rfl, trivial⟩) (fun _ => ?_)
  refine Ok.eff (j := 3) rfl (Eff.call0 (d := some 34) (by kernel_rfl) (x33_37 H p2 hp2) ?_)
  rintro v7 H8 k10 le9 rfl
  refine Ok.dropL ?_
  refine Ok.seg (j := 4) (fun _ => [(2, pt p0 0), (4, pt p3 0), (6, pt b1 0), (8, pt (b1 + 1) 0)]) (fun _ => [.blk b1 [iw 1, iw 1, iw 17, iw 42, n0, s0, n0] 44, .blk (b1 + 1) [iw 1, iw 1, iw 10, iw 40, n0, s0, n0] 44]) (fun _ => [b1 + 1, b1 + 1, b1 + 1, b1 + 1, b1 + 1, b1 + 1, b1 + 1]) (fun _ => []) [.g [.K 1 0, .K 1 1, .K 1 2, .K 1 3, .K 1 4, .K 1 5, .K 1 6]] [2, 4, 6, 8] rfl (fun _ => by kernel_rfl) (fun _ => trivial) (fun _ => ?_)
  refine Ok.segEnd rfl ?_
  refine Ok.thenN ?_
  refine Ok.ret_ ?_
  refine Ok.thenR ?_
  refine Ok.blkR ?_
  refine Ok.thenR ?_
  exact Ok.ret1c le9 [.K 1 0, .K 1 1, .K 1 2, .K 1 3, .K 1 4, .K 1 5, .K 1 6] (.agg #[iw 1, iw 1, iw 10, iw 40, n0, s0, n0]) [b1 + 1, b1 + 1, b1 + 1, b1 + 1, b1 + 1, b1 + 1, b1 + 1] rfl (by kernel_rfl) rfl
set_option maxRecDepth 100000 in
theorem x8_34 (H : Snap) : Does Tryd.prog 8 [.agg #[iw 3, iw 1, iw 10], .agg #[iw 1, iw 1, iw 17, iw 42, n0, s0, n0]] H [] (fun v H' kp => v = .agg #[iw 1, iw 1, iw 10, iw 40, n0, s0, n0]) := by
  refine Does.of Tryd.func8 rfl rfl rfl rfl (fun w0 H0 kx => ?_)
  refine Ok.seq ?_
  refine Ok.reg ?_
  refine Ok.seg (j := 3) (fun b1 => [(2, pt b1 0), (3, pt (b1 + 1) 0), (4, pt (b1 + 1 + 1) 0)]) (fun b1 => [.blk b1 [iw 3, iw 1, iw 10] 24, .blk (b1 + 1) [iw 1, iw 1, iw 17, iw 42, n0, s0, n0] 44, .blk (b1 + 1 + 1) [iw 0, iw 0, iw 0, iw 0, n0, s0, n0] 44]) (fun b1 => []) (fun b1 => []) [.g [.N], .g [.N], .g [.N]] [2, 3, 4] rfl (fun b1 => by kernel_rfl) (fun b1 => trivial) (fun b1 => ?_)
  refine Ok.segEnd rfl ?_
  refine Ok.thenN ?_
  refine Ok.seq ?_
  refine Ok.reg ?_
  refine Ok.seg (j := 1) (fun _ => [(2, pt b1 0), (3, pt (b1 + 1) 0), (4, pt (b1 + 1 + 1) 0), (9, .agg #[iw 3, iw 1, iw 10])]) (fun _ => [.blk b1 [iw 3, iw 1, iw 10] 24, .blk (b1 + 1) [iw 1, iw 1, iw 17, iw 42, n0, s0, n0] 44, .blk (b1 + 1 + 1) [iw 0, iw 0, iw 0, iw 0, n0, s0, n0] 44]) (fun _ => [b1, b1, b1]) (fun _ => []) [.g [.K 0 0, .K 0 1, .K 0 2]] [2, 3, 4, 9] rfl (fun _ => by kernel_rfl) (fun _ => trivial) (fun _ => ?_)
  refine Ok.eff (j := 2) rfl (Eff.call0 (d := some 10) (by kernel_rfl) (x17_35 H) ?_)
  rintro v3 H4 k6 le5 ⟨q7, rfl, pf8⟩
  refine Ok.dropL ?_
  refine Ok.seg (j := 9) (fun b9 => [(2, pt b1 0), (3, pt (b1 + 1) 0), (4, pt (b1 + 1 + 1) 0), (5, pt b9 0), (6, pt (b9 + 1) 0)]) (fun b9 => [.blk b1 [iw 3, iw 1, iw 10] 24, .blk (b1 + 1) [iw 1, iw 1, iw 17, iw 42, n0, s0, n0] 44, .blk (b1 + 1 + 1) [iw 0, iw 0, iw 0, iw 0, n0, s0, n0] 44, .blk b9 [.func (.func 33) #[] #[pt q7 0]] 47, .blk (b9 + 1) [.func (.func 36) #[] #[pt q7 0]] 47]) (fun b9 => [b9, b9 + 1]) (fun b9 => []) [.g [], .g [], .g [], .g [.N], .g [.N], .g [.K 3 0], .g [.K 4 0]] [2, 3, 4, 5, 6] rfl (fun b9 => by kernel_rfl) (fun b9 => trivial) (fun b9 => ?_)
  refine Ok.segEnd rfl ?_
  refine Ok.thenN ?_
  refine Ok.seq ?_
  refine Ok.reg ?_
  refine Ok.seg (j := 1) (fun b10 => [(2, pt b1 0), (3, pt (b1 + 1) 0), (4, pt (b1 + 1 + 1) 0), (5, pt b9 0), (6, pt (b9 + 1) 0), (7, pt b10 0)]) (fun b10 => [.blk b1 [iw 3, iw 1, iw 10] 24, .blk (b1 + 1) [iw 1, iw 1, iw 17, iw 42, n0, s0, n0] 44, .blk (b1 + 1 + 1) [iw 0, iw 0, iw 0, iw 0, n0, s0, n0] 44, .blk b9 [.func (.func 33) #[] #[pt q7 0]] 47, .blk (b9 + 1) [.func (.func 36) #[] #[pt q7 0]] 47, .blk b10 [.nilFunc] 60]) (fun b10 => []) (fun b10 => []) [.g [.N]] [2, 3, 4, 5, 6, 7] rfl (fun b10 => by kernel_rfl) (fun b10 => trivial) (fun b10 => ?_)
  refine Ok.segEnd rfl ?_
  refine Ok.thenN ?_
  refine Ok.seq ?_
  refine Ok.reg ?_
  refine Ok.seg (j := 2) (fun _ => [(3, pt (b1 + 1) 0), (4, pt (b1 + 1 + 1) 0), (7, pt b10 0)]) (fun _ => [.blk b1 [iw 3, iw 1, iw 10] 24, .blk (b1 + 1) [iw 1, iw 1, iw 17, iw 42, n0, s0, n0] 44, .blk (b1 + 1 + 1) [iw 0, iw 0, iw 0, iw 0, n0, s0, n0] 44, .blk b9 [.func (.func 33) #[] #[pt q7 0]] 47, .blk (b9 + 1) [.func (.func 36) #[] #[pt q7 0]] 47, .blk b10 [.func (.func 18) #[] #[pt b1 0, pt b9 0, pt (b9 + 1) 0, pt b10 0]] 60]) (fun _ => [b10]) (fun _ => []) [.g [], .g [.K 5 0]] [3, 4, 7] rfl (fun _ => by kernel_rfl) (fun _ => trivial) (fun _ => ?_)
  refine Ok.segEnd rfl ?_
  refine Ok.thenN ?_
  refine Ok.seq ?_
  refine Ok.reg ?_
  refine Ok.seg (j := 2) (fun _ => [(4, pt (b1 + 1 + 1) 0), (14, .func (.func 18) #[] #[pt b1 0, pt b9 0, pt (b9 + 1) 0, pt b10 0]), (15, .agg #[iw 1, iw 1, iw 17, iw 42, n0, s0, n0])]) (fun _ => [.blk b1 [iw 3, iw 1, iw 10] 24, .blk (b1 + 1) [iw 1, iw 1, iw 17, iw 42, n0, s0, n0] 44, .blk (b1 + 1 + 1) [iw 0, iw 0, iw 0, iw 0, n0, s0, n0] 44, .blk b9 [.func (.func 33) #[] #[pt q7 0]] 47, .blk (b9 + 1) [.func (.func 36) #[] #[pt q7 0]] 47, .blk b10 [.func (.func 18) #[] #[pt b1 0, pt b9 0, pt (b9 + 1) 0, pt b10 0]] 60]) (fun _ => [b10, b1 + 1, b1 + 1, b1 + 1, b1 + 1, b1 + 1, b1 + 1, b1 + 1]) (fun _ => []) [.g [.K 5 0], .g [.K 1 0, .K 1 1, .K 1 2, .K 1 3, .K 1 4, .K 1 5, .K 1 6]] [4, 14, 15] rfl (fun _ => by kernel_rfl) (fun _ => trivial) (fun _ => ?_)
  refine Ok.pubP 0 rfl [.blk (b1 + 1) [iw 1, iw 1, iw 17, iw 42, n0, s0, n0] 44, .blk (b1 + 1 + 1) [iw 0, iw 0, iw 0, iw 0, n0, s0, n0] 44, .blk b9 [.func (.func 33) #[] #[pt q7 0]] 47, .blk (b9 + 1) [.func (.func 36) #[] #[pt q7 0]] 47, .blk b10 [.func (.func 18) #[] #[pt b1 0, pt b9 0, pt (b9 + 1) 0, pt b10 0]] 60] rfl ?_
  intro H13 le14 pf15
  refine Ok.pubP 2 rfl [.blk (b1 + 1) [iw 1, iw 1, iw 17, iw 42, n0, s0, n0] 44, .blk (b1 + 1 + 1) [iw 0, iw 0, iw 0, iw 0, n0, s0, n0] 44, .blk (b9 + 1) [.func (.func 36) #[] #[pt q7 0]] 47, .blk b10 [.func (.func 18) #[] #[pt b1 0, pt b9 0, pt (b9 + 1) 0, pt b10 0]] 60] rfl ?_
  intro H16 le17 pf18
  refine Ok.pubP 2 rfl [.blk (b1 + 1) [iw 1, iw 1, iw 17, iw 42, n0, s0, n0] 44, .blk (b1 + 1 + 1) [iw 0, iw 0, iw 0, iw 0, n0, s0, n0] 44, .blk b10 [.func (.func 18) #[] #[pt b1 0, pt b9 0, pt (b9 + 1) 0, pt b10 0]] 60] rfl ?_
  intro H19 le20 pf21
  refine Ok.pubP 2 rfl [.blk (b1 + 1) [iw 1, iw 1, iw 17, iw 42, n0, s0, n0] 44, .blk (b1 + 1 + 1) [iw 0, iw 0, iw 0, iw 0, n0, s0, n0] 44] rfl ?_
  intro H22 le23 pf24
  refine Ok.eff (j := 3) rfl (Eff.call0 (d := some 16) (by kernel_rfl) (x18_36 H22 b1 b9 q7 (b9 + 1) b10 (Pre.mono (SLe.trans le17 (SLe.trans le20 le23)) pf15) (Pre.mono (SLe.trans le20 le23) pf18) (Pre.mono (SLe.trans le14 (SLe.trans le17 (SLe.trans le20 le23))) pf8) (Pre.mono le23 pf21) pf24) ?_)
  rintro v25 H26 k28 le27 rfl
  refine Ok.dropL ?_
  refine Ok.seg (j := 4) (fun _ => [(4, pt (b1 + 1 + 1) 0)]) (fun _ => [.blk (b1 + 1) [iw 1, iw 1, iw 17, iw 42, n0, s0, n0] 44, .blk (b1 + 1 + 1) [iw 1, iw 1, iw 10, iw 40, n0, s0, n0] 44]) (fun _ => [b1 + 1 + 1, b1 + 1 + 1, b1 + 1 + 1, b1 + 1 + 1, b1 + 1 + 1, b1 + 1 + 1, b1 + 1 + 1]) (fun _ => []) [.g [.K 1 0, .K 1 1, .K 1 2, .K 1 3, .K 1 4, .K 1 5, .K 1 6]] [4] rfl (fun _ => by kernel_rfl) (fun _ => trivial) (fun _ => ?_)
  refine Ok.segEnd rfl ?_
  refine Ok.thenN ?_
  refine Ok.ret_ ?_
  exact Ok.ret1c (SLe.trans le5 (SLe.trans le14 (SLe.trans le17 (SLe.trans le20 (SLe.trans le23 le27))))) [.K 1 0, .K 1 1, .K 1 2, .K 1 3, .K 1 4, .K 1 5, .K 1 6] (.agg #[iw 1, iw 1, iw 10, iw 40, n0, s0, n0]) [b1 + 1 + 1, b1 + 1 + 1, b1 + 1 + 1, b1 + 1 + 1, b1 + 1 + 1, b1 + 1 + 1, b1 + 1 + 1] rfl (by kernel_rfl) rfl
set_option maxRecDepth 100000 in
theorem x9_41 (H : Snap) : Does Tryd.prog 9 [iw 10, iw 40] H [] (fun v H' kp => v = .agg #[iw 1, iw 1, iw 10, iw 40, n0, s0, n0]) := by
  refine Does.of Tryd.func9 rfl rfl rfl rfl (fun w0 H0 kx => ?_)
  refine Ok.seq ?_
  refine Ok.reg ?_
  refine Ok.seg (j := 1) (fun b1 => [(0, iw 10), (1, iw 40), (4, pt b1 0)]) (fun b1 => [.blk b1 [iw 0, iw 0, iw 0, iw 0, n0, s0, n0] 44]) (fun b1 => []) (fun b1 => []) [.g [.N]] [0, 1, 4] rfl (fun b1 => by kernel_rfl) (fun b1 => trivial) (fun b1 => ?_)
  refine Ok.segEnd rfl ?_
  refine Ok.thenN ?_
  refine Ok.seq ?_
  refine Ok.reg ?_
  refine Ok.seg (j := 4) (fun _ => [(4, pt b1 0)]) (fun _ => [.blk b1 [iw 1, iw 1, iw 10, iw 40, n0, s0, n0] 44]) (fun _ => [b1, b1, b1, b1, b1, b1, b1]) (fun _ => []) [.g [], .g [], .g [], .g [.K 0 0, .K 0 1, .K 0 2, .K 0 3, .K 0 4, .K 0 5, .K 0 6]] [4] rfl (fun _ => by kernel_rfl) (fun _ => trivial) (fun _ => ?_)
  refine Ok.segEnd rfl ?_
  refine Ok.thenN ?_
  refine Ok.ret_ ?_
  exact Ok.ret1c (SLe.refl _) [.K 0 0, .K 0 1, .K 0 2, .K 0 3, .K 0 4, .K 0 5, .K 0 6] (.agg #[iw 1, iw 1, iw 10, iw 40, n0, s0, n0]) [b1, b1, b1, b1, b1, b1, b1] rfl (by kernel_rfl) rfl
set_option maxRecDepth 100000 in
theorem x16_43 (H : Snap) : Does Tryd.prog 16 [n0, n0] H [] (fun v H' kp => v = bT) := by
  refine Does.of Tryd.func16 rfl rfl rfl rfl (fun w0 H0 kx => ?_)
  refine Ok.seq ?_
  refine Ok.reg ?_
  refine Ok.seg (j := 1) (fun _ => [(0, n0), (1, n0), (4, bF)]) (fun _ => []) (fun _ => []) (fun _ => []) [.g []] [0, 1, 4] rfl (fun _ => by kernel_rfl) (fun _ => trivial) (fun _ => ?_)
  refine Ok.segEnd rfl ?_
  refine Ok.thenN ?_
  refine Ok.seq ?_
  refine Ok.seq ?_
  refine Ok.reg ?_
  refine Ok.seg (j := 5) (fun _ => [(0, n0), (1, n0), (4, bF), (10, bF)]) (fun _ => []) (fun _ => []) (fun _ => []) [.g [], .g [], .g [], .g [], .g []] [0, 1, 4, 10] rfl (fun _ => by kernel_rfl) (fun _ => trivial) (fun _ => ?_)
  refine Ok.segEnd rfl ?_
  refine Ok.thenN ?_
  refine Ok.condF rfl ?_
  refine Ok.skip_ ?_
  refine Ok.thenN ?_
  refine Ok.seq ?_
  refine Ok.seq ?_
  refine Ok.reg ?_
  refine Ok.seg (j := 1) (fun _ => [(0, n0), (1, n0), (4, bF), (5, iw 0)]) (fun _ => []) (fun _ => []) (fun _ => []) [.g []] [0, 1, 4, 5] rfl (fun _ => by kernel_rfl) (fun _ => trivial) (fun _ => ?_)
  refine Ok.segEnd rfl ?_
  refine Ok.thenN ?_
  refine Ok.blk ?_
  refine Ok.loopN 1 ?_
  refine Ok.round ?_
  refine Ok.seq ?_
  refine Ok.seq ?_
  refine Ok.reg ?_
  refine Ok.seg (j := 4) (fun _ => [(0, n0), (1, n0), (4, bF), (5, iw 0), (11, iw 0), (12, n0), (13, iw 0), (14, bF)]) (fun _ => []) (fun _ => []) (fun _ => []) [.g [], .g [], .g [], .g []] [0, 1, 4, 5, 11, 12, 13, 14] rfl (fun _ => by kernel_rfl) (fun _ => trivial) (fun _ => ?_)
  refine Ok.segEnd rfl ?_
  refine Ok.thenN ?_
  refine Ok.condF rfl ?_
  refine Ok.exit_ ?_
  refine Ok.thenE ?_
  refine Ok.thenE ?_
  refine Ok.blkE ?_
  refine Ok.thenN ?_
  refine Ok.seq ?_
  refine Ok.reg ?_
  refine Ok.seg (j := 1) (fun _ => [(4, bT)]) (fun _ => []) (fun _ => []) (fun _ => []) [.g []] [4] rfl (fun _ => by kernel_rfl) (fun _ => trivial) (fun _ => ?_)
  refine Ok.segEnd rfl ?_
  refine Ok.thenN ?_
  refine Ok.ret_ ?_
  exact Ok.ret1 (v := bT) (SLe.refl _) rfl rfl rfl
set_option maxRecDepth 100000 in
theorem x7_42 (H : Snap) : Does Tryd.prog 7 [.agg #[iw 1, iw 1, iw 10, iw 40, n0, s0, n0], .agg #[iw 1, iw 1, iw 10, iw 40, n0, s0, n0]] H [] (fun v H' kp => v = bT) := by
  refine Does.of Tryd.func7 rfl rfl rfl rfl (fun w0 H0 kx => ?_)
  refine Ok.seq ?_
  refine Ok.reg ?_
  refine Ok.seg (j := 3) (fun b1 => [(2, pt b1 0), (3, pt (b1 + 1) 0), (4, bF)]) (fun b1 => [.blk b1 [iw 1, iw 1, iw 10, iw 40, n0, s0, n0] 44, .blk (b1 + 1) [iw 1, iw 1, iw 10, iw 40, n0, s0, n0] 44]) (fun b1 => []) (fun b1 => []) [.g [.N], .g [.N], .g []] [2, 3, 4] rfl (fun b1 => by kernel_rfl) (fun b1 => trivial) (fun b1 => ?_)
  refine Ok.segEnd rfl ?_
  refine Ok.thenN ?_
  refine Ok.seq ?_
  refine Ok.seq ?_
  refine Ok.reg ?_
  refine Ok.seg (j := 38) (fun _ => [(2, pt b1 0), (3, pt (b1 + 1) 0), (4, bF), (39, bF), (41, n0), (43, n0)]) (fun _ => [.blk b1 [iw 1, iw 1, iw 10, iw 40, n0, s0, n0] 44, .blk (b1 + 1) [iw 1, iw 1, iw 10, iw 40, n0, s0, n0] 44]) (fun _ => [b1, b1 + 1, b1, b1 + 1, b1, b1 + 1, b1, b1 + 1, b1, b1 + 1, b1, b1 + 1]) (fun _ => []) [.g [], .g [.K 0 0], .g [], .g [.K 1 0], .g [], .g [], .g [], .g [.K 0 1], .g [], .g [.K 1 1], .g [], .g [], .g [], .g [], .g [.K 0 2], .g [], .g [.K 1 2], .g [], .g [], .g [], .g [], .g [.K 0 3], .g [], .g [.K 1 3], .g [], .g [], .g [], .g [], .g [.K 0 5], .g [], .g [.K 1 5], .g [], .g [], .g [], .g [], .g [.K 0 4], .g [], .g [.K 1 4]] [2, 3, 4, 39, 41, 43] rfl (fun _ => by kernel_rfl) (fun _ => trivial) (fun _ => ?_)
  refine Ok.eff (j := 39) rfl (Eff.call0 (d := some 44) (by kernel_rfl) (x16_43 H) ?_)
  rintro v3 H4 k6 le5 rfl
  refine Ok.dropL ?_
  refine Ok.seg (j := 50) (fun _ => [(2, pt b1 0), (3, pt (b1 + 1) 0), (4, bF), (55, bF)]) (fun _ => [.blk b1 [iw 1, iw 1, iw 10, iw 40, n0, s0, n0] 44, .blk (b1 + 1) [iw 1, iw 1, iw 10, iw 40, n0, s0, n0] 44]) (fun _ => [b1, b1 + 1]) (fun _ => []) [.g [], .g [], .g [], .g [], .g [.K 0 6], .g [], .g [], .g [.K 1 6], .g [], .g [], .g []] [2, 3, 4, 55] rfl (fun _ => by kernel_rfl) (fun _ => trivial) (fun _ => ?_)
  refine Ok.segEnd rfl ?_
  refine Ok.thenN ?_
  refine Ok.condF rfl ?_
  refine Ok.skip_ ?_
  refine Ok.thenN ?_
  refine Ok.seq ?_
  refine Ok.seq ?_
  refine Ok.reg ?_
  refine Ok.seg (j := 1) (fun _ => [(2, pt b1 0), (3, pt (b1 + 1) 0), (4, bF), (5, iw 0)]) (fun _ => [.blk b1 [iw 1, iw 1, iw 10, iw 40, n0, s0, n0] 44, .blk (b1 + 1) [iw 1, iw 1, iw 10, iw 40, n0, s0, n0] 44]) (fun _ => []) (fun _ => []) [.g []] [2, 3, 4, 5] rfl (fun _ => by kernel_rfl) (fun _ => trivial) (fun _ => ?_)
  refine Ok.segEnd rfl ?_
  refine Ok.thenN ?_
  refine Ok.blk ?_
  refine Ok.loopN 1 ?_
  refine Ok.round ?_
  refine Ok.seq ?_
  refine Ok.seq ?_
  refine Ok.reg ?_
  refine Ok.seg (j := 5) (fun _ => [(2, pt b1 0), (3, pt (b1 + 1) 0), (4, bF), (5, iw 0), (56, iw 0), (57, pt b1 6), (58, n0), (59, iw 0), (60, bF)]) (fun _ => [.blk b1 [iw 1, iw 1, iw 10, iw 40, n0, s0, n0] 44, .blk (b1 + 1) [iw 1, iw 1, iw 10, iw 40, n0, s0, n0] 44]) (fun _ => [b1]) (fun _ => []) [.g [], .g [], .g [.K 0 6], .g [], .g []] [2, 3, 4, 5, 56, 57, 58, 59, 60] rfl (fun _ => by kernel_rfl) (fun _ => trivial) (fun _ => ?_)
  refine Ok.segEnd rfl ?_
  refine Ok.thenN ?_
  refine Ok.condF rfl ?_
  refine Ok.exit_ ?_
  refine Ok.thenE ?_
  refine Ok.thenE ?_
  refine Ok.blkE ?_
  refine Ok.thenN ?_
  refine Ok.seq ?_
  refine Ok.reg ?_
  refine Ok.seg (j := 1) (fun _ => [(4, bT)]) (fun _ => [.blk b1 [iw 1, iw 1, iw 10, iw 40, n0, s0, n0] 44, .blk (b1 + 1) [iw 1, iw 1, iw 10, iw 40, n0, s0, n0] 44]) (fun _ => []) (fun _ => []) [.g []] [4] rfl (fun _ => by kernel_rfl) (fun _ => trivial) (fun _ => ?_)
  refine Ok.mask [false, false] [] rfl ?_
  refine Ok.segEnd rfl ?_
  refine Ok.thenN ?_
  refine Ok.ret_ ?_
  exact Ok.ret1 (v := bT) le5 rfl rfl rfl
set_option maxRecDepth 100000 in
theorem x10_44 (H : Snap) : Does Tryd.prog 10 [.agg #[iw 1, iw 1, iw 17, iw 42, n0, s0, n0]] H [] (fun v H' kp => ∃ r0 : Nat, v = .agg #[iw 7, iw 0, iw 0, iw 0, n0, s0, sl r0 0 1 1] ∧ Pre H' r0 [iw 1, iw 1, iw 17, iw 42, n0, s0, n0]) := by
  refine Does.of Tryd.func10 rfl rfl rfl rfl (fun w0 H0 kx => ?_)
  refine Ok.seq ?_
  refine Ok.reg ?_
  refine Ok.seg (j := 2) (fun b1 => [(1, pt b1 0), (2, pt (b1 + 1) 0)]) (fun b1 => [.blk b1 [iw 1, iw 1, iw 17, iw 42, n0, s0, n0] 44, .blk (b1 + 1) [iw 0, iw 0, iw 0, iw 0, n0, s0, n0] 44]) (fun b1 => []) (fun b1 => []) [.g [.N], .g [.N]] [1, 2] rfl (fun b1 => by kernel_rfl) (fun b1 => trivial) (fun b1 => ?_)
  refine Ok.segEnd rfl ?_
  refine Ok.thenN ?_
  refine Ok.seq ?_
  refine Ok.reg ?_
  refine Ok.seg (j := 4) (fun b2 => [(2, pt (b1 + 1) 0)]) (fun b2 => [.blk b1 [iw 1, iw 1, iw 17, iw 42, n0, s0, n0] 44, .blk (b1 + 1) [iw 7, iw 0, iw 0, iw 0, n0, s0, sl b2 0 1 1] 44, .blk b2 [iw 1, iw 1, iw 17, iw 42, n0, s0, n0] 44]) (fun b2 => [b1, b1, b1, b1, b1, b1, b1, b1 + 1, b1 + 1, b1 + 1, b1 + 1, b1 + 1, b1 + 1, b1 + 1]) (fun b2 => []) [.g [.K 0 0, .K 0 1, .K 0 2, .K 0 3, .K 0 4, .K 0 5, .K 0 6], .g [.N], .g [], .g [.K 1 0, .K 1 1, .K 1 2, .K 1 3, .K 1 4, .K 1 5, .K 1 6]] [2] rfl (fun b2 => by kernel_rfl) (fun b2 => trivial) (fun b2 => ?_)
  refine Ok.segEnd rfl ?_
  refine Ok.thenN ?_
  refine Ok.ret_ ?_
  refine Ok.pubP 2 rfl [.blk b1 [iw 1, iw 1, iw 17, iw 42, n0, s0, n0] 44, .blk (b1 + 1) [iw 7, iw 0, iw 0, iw 0, n0, s0, sl b2 0 1 1] 44] rfl ?_
  intro H3 le4 pf5
  exact Ok.ret1c le4 [.K 1 0, .K 1 1, .K 1 2, .K 1 3, .K 1 4, .K 1 5, .K 1 6] (.agg #[iw 7, iw 0, iw 0, iw 0, n0, s0, sl b2 0 1 1]) [b1 + 1, b1 + 1, b1 + 1, b1 + 1, b1 + 1, b1 + 1, b1 + 1] rfl (by kernel_rfl) ⟨b2, rfl, pf5⟩
set_option maxRecDepth 100000 in
theorem x58_50 (H : Snap) : Does Tryd.prog 58 [iw 1, iw 17, iw 33] H [] (fun v H' kp => v = .agg #[iw 1, iw 1, iw 17, iw 33, n0, s0, n0]) := by
  refine Does.of Tryd.func58 rfl rfl rfl rfl (fun w0 H0 kx => ?_)
  refine Ok.seq ?_
  refine Ok.reg ?_
  refine Ok.seg (j := 1) (fun b1 => [(0, iw 1), (1, iw 17), (2, iw 33), (6, pt b1 0)]) (fun b1 => [.blk b1 [iw 0, iw 0, iw 0, iw 0, n0, s0, n0] 44]) (fun b1 => []) (fun b1 => []) [.g [.N]] [0, 1, 2, 6] rfl (fun b1 => by kernel_rfl) (fun b1 => trivial) (fun b1 => ?_)
  refine Ok.segEnd rfl ?_
  refine Ok.thenN ?_
  refine Ok.seq ?_
  refine Ok.reg ?_
  refine Ok.seg (j := 5) (fun _ => [(6, pt b1 0)]) (fun _ => [.blk b1 [iw 1, iw 1, iw 17, iw 33, n0, s0, n0] 44]) (fun _ => [b1, b1, b1, b1, b1, b1, b1]) (fun _ => []) [.g [], .g [], .g [], .g [], .g [.K 0 0, .K 0 1, .K 0 2, .K 0 3, .K 0 4, .K 0 5, .K 0 6]] [6] rfl (fun _ => by kernel_rfl) (fun _ => trivial) (fun _ => ?_)
  refine Ok.segEnd rfl ?_
  refine Ok.thenN ?_
  refine Ok.ret_ ?_
  exact Ok.ret1c (SLe.refl _) [.K 0 0, .K 0 1, .K 0 2, .K 0 3, .K 0 4, .K 0 5, .K 0 6] (.agg #[iw 1, iw 1, iw 17, iw 33, n0, s0, n0]) [b1, b1, b1, b1, b1, b1, b1] rfl (by kernel_rfl) rfl
set_option maxRecDepth 100000 in
theorem x32_51 (H : Snap) : Does Tryd.prog 32 [.agg #[iw 1, iw 1, iw 17, iw 33, n0, s0, n0]] H [] (fun v H' kp => ∃ r0 : Nat, v = .agg #[iw 7, iw 0, iw 0, iw 0, n0, s0, sl r0 0 1 1] ∧ Pre H' r0 [iw 1, iw 1, iw 17, iw 33, n0, s0, n0]) := by
  refine Does.of Tryd.func32 rfl rfl rfl rfl (fun w0 H0 kx => ?_)
  refine Ok.seq ?_
  refine Ok.reg ?_
  refine Ok.seg (j := 2) (fun b1 => [(1, pt b1 0), (2, pt (b1 + 1) 0)]) (fun b1 => [.blk b1 [iw 1, iw 1, iw 17, iw 33, n0, s0, n0] 44, .blk (b1 + 1) [iw 0, iw 0, iw 0, iw 0, n0, s0, n0] 44]) (fun b1 => []) (fun b1 => []) [.g [.N], .g [.N]] [1, 2] rfl (fun b1 => by kernel_rfl) (fun b1 => trivial) (fun b1 => ?_)
  refine Ok.segEnd rfl ?_
  refine Ok.thenN ?_
  refine Ok.seq ?_
  refine Ok.reg ?_
  refine Ok.seg (j := 4) (fun b2 => [(2, pt (b1 + 1) 0)]) (fun b2 => [.blk b1 [iw 1, iw 1, iw 17, iw 33, n0, s0, n0] 44, .blk (b1 + 1) [iw 7, iw 0, iw 0, iw 0, n0, s0, sl b2 0 1 1] 44, .blk b2 [iw 1, iw 1, iw 17, iw 33, n0, s0, n0] 44]) (fun b2 => [b1, b1, b1, b1, b1, b1, b1, b1 + 1, b1 + 1, b1 + 1, b1 + 1, b1 + 1, b1 + 1, b1 + 1]) (fun b2 => []) [.g [.K 0 0, .K 0 1, .K 0 2, .K 0 3, .K 0 4, .K 0 5, .K 0 6], .g [.N], .g [], .g [.K 1 0, .K 1 1, .K 1 2, .K 1 3, .K 1 4, .K 1 5, .K 1 6]] [2] rfl (fun b2 => by kernel_rfl) (fun b2 => trivial) (fun b2 => ?_)
  refine Ok.segEnd rfl ?_
  refine Ok.thenN ?_
  refine Ok.ret_ ?_
  refine Ok.pubP 2 rfl [.blk b1 [iw 1, iw 1, iw 17, iw 33, n0, s0, n0] 44, .blk (b1 + 1) [iw 7, iw 0, iw 0, iw 0, n0, s0, sl b2 0 1 1] 44] rfl ?_
  intro H3 le4 pf5
  exact Ok.ret1c le4 [.K 1 0, .K 1 1, .K 1 2, .K 1 3, .K 1 4, .K 1 5, .K 1 6] (.agg #[iw 7, iw 0, iw 0, iw 0, n0, s0, sl b2 0 1 1]) [b1 + 1, b1 + 1, b1 + 1, b1 + 1, b1 + 1, b1 + 1, b1 + 1] rfl (by kernel_rfl) ⟨b2, rfl, pf5⟩
set_option maxRecDepth 100000 in
theorem x37_49 (H : Snap) : Does Tryd.prog 37 [.agg #[iw 3, iw 1, iw 10], .agg #[iw 1, iw 1, iw 17, iw 42, n0, s0, n0]] H [] (fun v H' kp => ∃ r0 : Nat, v = .agg #[iw 7, iw 0, iw 0, iw 0, n0, s0, sl r0 0 1 1] ∧ Pre H' r0 [iw 1, iw 1, iw 17, iw 33, n0, s0, n0]) := by
  refine Does.of Tryd.func37 rfl rfl rfl rfl (fun w0 H0 kx => ?_)
  refine Ok.seq ?_
  refine Ok.reg ?_
  refine Ok.seg (j := 3) (fun b1 => [(2, pt b1 0), (3, pt (b1 + 1) 0), (4, pt (b1 + 1 + 1) 0)]) (fun b1 => [.blk b1 [iw 3, iw 1, iw 10] 24, .blk (b1 + 1) [iw 1, iw 1, iw 17, iw 42, n0, s0, n0] 44, .blk (b1 + 1 + 1) [iw 0, iw 0, iw 0, iw 0, n0, s0, n0] 44]) (fun b1 => []) (fun b1 => []) [.g [.N], .g [.N], .g [.N]] [2, 3, 4] rfl (fun b1 => by kernel_rfl) (fun b1 => trivial) (fun b1 => ?_)
  refine Ok.segEnd rfl ?_
  refine Ok.thenN ?_
  refine Ok.seq ?_
  refine Ok.seq ?_
  refine Ok.reg ?_
  refine Ok.seg (j := 2) (fun _ => [(2, pt b1 0), (3, pt (b1 + 1) 0), (4, pt (b1 + 1 + 1) 0), (8, iw 3)]) (fun _ => [.blk b1 [iw 3, iw 1, iw 10] 24, .blk (b1 + 1) [iw 1, iw 1, iw 17, iw 42, n0, s0, n0] 44, .blk (b1 + 1 + 1) [iw 0, iw 0, iw 0, iw 0, n0, s0, n0] 44]) (fun _ => [b1]) (fun _ => []) [.g [], .g [.K 0 0]] [2, 3, 4, 8] rfl (fun _ => by kernel_rfl) (fun _ => trivial) (fun _ => ?_)
  refine Ok.segEnd rfl ?_
  refine Ok.thenN ?_
  refine Ok.blk ?_
  refine Ok.seq ?_
  refine Ok.reg ?_
  refine Ok.seg (j := 2) (fun _ => [(2, pt b1 0), (3, pt (b1 + 1) 0), (4, pt (b1 + 1 + 1) 0), (8, iw 3), (9, bT)]) (fun _ => [.blk b1 [iw 3, iw 1, iw 10] 24, .blk (b1 + 1) [iw 1, iw 1, iw 17, iw 42, n0, s0, n0] 44, .blk (b1 + 1 + 1) [iw 0, iw 0, iw 0, iw 0, n0, s0, n0] 44]) (fun _ => []) (fun _ => []) [.g [], .g []] [2, 3, 4, 8, 9] rfl (fun _ => by kernel_rfl) (fun _ => trivial) (fun _ => ?_)
  refine Ok.segEnd rfl ?_
  refine Ok.thenN ?_
  refine Ok.condT rfl ?_
  refine Ok.seq ?_
  refine Ok.seq ?_
  refine Ok.reg ?_
  refine Ok.seg (j := 7) (fun _ => [(2, pt b1 0), (3, pt (b1 + 1) 0), (4, pt (b1 + 1 + 1) 0), (17, bF)]) (fun _ => [.blk b1 [iw 3, iw 1, iw 10] 24, .blk (b1 + 1) [iw 1, iw 1, iw 17, iw 42, n0, s0, n0] 44, .blk (b1 + 1 + 1) [iw 0, iw 0, iw 0, iw 0, n0, s0, n0] 44]) (fun _ => [b1 + 1, b1]) (fun _ => []) [.g [], .g [.K 1 3], .g [], .g [.K 0 2], .g [], .g [], .g []] [2, 3, 4, 17] rfl (fun _ => by kernel_rfl) (fun _ => trivial) (fun _ => ?_)
  refine Ok.segEnd rfl ?_
  refine Ok.thenN ?_
  refine Ok.condF rfl ?_
  refine Ok.skip_ ?_
  refine Ok.thenN ?_
  refine Ok.seq ?_
  refine Ok.reg ?_
  refine Ok.seg (j := 10) (fun _ => [(4, pt (b1 + 1 + 1) 0), (20, iw 1), (22, iw 17), (28, iw 33)]) (fun _ => [.blk b1 [iw 3, iw 1, iw 10] 24, .blk (b1 + 1) [iw 1, iw 1, iw 17, iw 42, n0, s0, n0] 44, .blk (b1 + 1 + 1) [iw 0, iw 0, iw 0, iw 0, n0, s0, n0] 44]) (fun _ => [b1, b1 + 1, b1 + 1, b1]) (fun _ => []) [.g [], .g [.K 0 1], .g [], .g [.K 1 2], .g [], .g [.K 1 3], .g [], .g [.K 0 2], .g [], .g []] [4, 20, 22, 28] rfl (fun _ => by kernel_rfl) (fun _ => trivial) (fun _ => ?_)
  refine Ok.mask [false, false, true] [.blk (b1 + 1 + 1) [iw 0, iw 0, iw 0, iw 0, n0, s0, n0] 44] rfl ?_
  refine Ok.eff (j := 11) rfl (Eff.call0 (d := some 29) (by kernel_rfl) (x58_50 H) ?_)
  rintro v6 H7 k9 le8 rfl
  refine Ok.dropL ?_
  refine Ok.eff (j := 12) rfl (Eff.call0 (d := some 30) (by kernel_rfl) (x32_51 H7) ?_)
  rintro v11 H12 k14 le13 ⟨q15, rfl, pf16⟩
  refine Ok.dropL ?_
  refine Ok.seg (j := 13) (fun _ => [(4, pt (b1 + 1 + 1) 0)]) (fun _ => [.blk (b1 + 1 + 1) [iw 7, iw 0, iw 0, iw 0, n0, s0, sl q15 0 1 1] 44]) (fun _ => [b1 + 1 + 1, b1 + 1 + 1, b1 + 1 + 1, b1 + 1 + 1, b1 + 1 + 1, b1 + 1 + 1, b1 + 1 + 1]) (fun _ => []) [.g [.K 0 0, .K 0 1, .K 0 2, .K 0 3, .K 0 4, .K 0 5, .K 0 6]] [4] rfl (fun _ => by kernel_rfl) (fun _ => trivial) (fun _ => ?_)
  refine Ok.segEnd rfl ?_
  refine Ok.thenN ?_
  refine Ok.ret_ ?_
  refine Ok.blkR ?_
  refine Ok.thenR ?_
  exact Ok.ret1c (SLe.trans le8 le13) [.K 0 0, .K 0 1, .K 0 2, .K 0 3, .K 0 4, .K 0 5, .K 0 6] (.agg #[iw 7, iw 0, iw 0, iw 0, n0, s0, sl q15 0 1 1]) [b1 + 1 + 1, b1 + 1 + 1, b1 + 1 + 1, b1 + 1 + 1, b1 + 1 + 1, b1 + 1 + 1, b1 + 1 + 1] rfl (by kernel_rfl) ⟨q15, rfl, pf16⟩
set_option maxRecDepth 100000 in
theorem x36_48 (H : Snap) (p0 : Nat) (hp0 : Pre H p0 [iw 3, iw 1, iw 10]) : Does Tryd.prog 36 [.agg #[iw 1, iw 1, iw 17, iw 42, n0, s0, n0], pt p0 0] H [] (fun v H' kp => ∃ r0 : Nat, v = .agg #[iw 7, iw 0, iw 0, iw 0, n0, s0, sl r0 0 1 1] ∧ Pre H' r0 [iw 1, iw 1, iw 17, iw 33, n0, s0, n0]) := by
  refine Does.of Tryd.func36 rfl rfl rfl rfl (fun w0 H0 kx => ?_)
  refine Ok.seq ?_
  refine Ok.reg ?_
  refine Ok.seg (j := 2) (fun b1 => [(1, pt p0 0), (2, pt b1 0), (3, pt (b1 + 1) 0)]) (fun b1 => [.blk b1 [iw 1, iw 1, iw 17, iw 42, n0, s0, n0] 44, .blk (b1 + 1) [iw 0, iw 0, iw 0, iw 0, n0, s0, n0] 44]) (fun b1 => []) (fun b1 => []) [.g [.N], .g [.N]] [1, 2, 3] rfl (fun b1 => by kernel_rfl) (fun b1 => trivial) (fun b1 => ?_)
  refine Ok.segEnd rfl ?_
  refine Ok.thenN ?_
  refine Ok.seq ?_
  refine Ok.blk ?_
  refine Ok.seq ?_
  refine Ok.reg ?_
  refine Ok.seg (j := 4) (fun _ => [(1, pt p0 0), (2, pt b1 0), (3, pt (b1 + 1) 0), (4, bF)]) (fun _ => [.blk b1 [iw 1, iw 1, iw 17, iw 42, n0, s0, n0] 44, .blk (b1 + 1) [iw 0, iw 0, iw 0, iw 0, n0, s0, n0] 44]) (fun _ => [b1]) (fun _ => []) [.g [], .g [.K 0 0], .g [], .g []] [1, 2, 3, 4] rfl (fun _ => by kernel_rfl) (fun _ => trivial) (fun _ => ?_)
  refine Ok.segEnd rfl ?_
  refine Ok.thenN ?_
  refine Ok.condF rfl ?_
  refine Ok.seq ?_
  refine Ok.reg ?_
  refine Ok.seg (j := 4) (fun _ => [(1, pt p0 0), (2, pt b1 0), (3, pt (b1 + 1) 0), (10, bT)]) (fun _ => [.blk b1 [iw 1, iw 1, iw 17, iw 42, n0, s0, n0] 44, .blk (b1 + 1) [iw 0, iw 0, iw 0, iw 0, n0, s0, n0] 44]) (fun _ => [b1]) (fun _ => []) [.g [], .g [.K 0 0], .g [], .g []] [1, 2, 3, 10] rfl (fun _ => by kernel_rfl) (fun _ => trivial) (fun _ => ?_)
  refine Ok.segEnd rfl ?_
  refine Ok.thenN ?_
  refine Ok.condT rfl ?_
  refine Ok.seq ?_
  refine Ok.reg ?_
  refine Ok.seg (j := 2) (fun _ => [(3, pt (b1 + 1) 0), (14, .agg #[iw 3, iw 1, iw 10]), (15, .agg #[iw 1, iw 1, iw 17, iw 42, n0, s0, n0])]) (fun _ => [.blk b1 [iw 1, iw 1, iw 17, iw 42, n0, s0, n0] 44, .blk (b1 + 1) [iw 0, iw 0, iw 0, iw 0, n0, s0, n0] 44]) (fun _ => [b1, b1, b1, b1, b1, b1, b1]) (fun _ => [HasCell H ⟨p0, 0, none⟩ (iw 3), HasCell H ⟨p0, 1, none⟩ (iw 1), HasCell H ⟨p0, 2, none⟩ (iw 10)]) [.g [.X (iw 3), .X (iw 1), .X (iw 10)], .g [.K 0 0, .K 0 1, .K 0 2, .K 0 3, .K 0 4, .K 0 5, .K 0 6]] [3, 14, 15] rfl (fun _ => by kernel_rfl) (fun _ => ⟨Pre.cell hp0 0 rfl, Pre.cell hp0 1 rfl, Pre.cell hp0 2 rfl, trivial⟩) (fun _ => ?_)
  refine Ok.eff (j := 3) rfl (Eff.call0 (d := some 16) (by kernel_rfl) (x37_49 H) ?_)
  rintro v5 H6 k8 le7 ⟨q9, rfl, pf10⟩
  refine Ok.dropL ?_
  refine Ok.seg (j := 4) (fun _ => [(3, pt (b1 + 1) 0)]) (fun _ => [.blk b1 [iw 1, iw 1, iw 17, iw 42, n0, s0, n0] 44, .blk (b1 + 1) [iw 7, iw 0, iw 0, iw 0, n0, s0, sl q9 0 1 1] 44]) (fun _ => [b1 + 1, b1 + 1, b1 + 1, b1 + 1, b1 + 1, b1 + 1, b1 + 1]) (fun _ => []) [.g [.K 1 0, .K 1 1, .K 1 2, .K 1 3, .K 1 4, .K 1 5, .K 1 6]] [3] rfl (fun _ => by kernel_rfl) (fun _ => trivial) (fun _ => ?_)
  refine Ok.segEnd rfl ?_
  refine Ok.thenN ?_
  refine Ok.ret_ ?_
  refine Ok.blkR ?_
  refine Ok.thenR ?_
  exact Ok.ret1c le7 [.K 1 0, .K 1 1, .K 1 2, .K 1 3, .K 1 4, .K 1 5, .K 1 6] (.agg #[iw 7, iw 0, iw 0, iw 0, n0, s0, sl q9 0 1 1]) [b1 + 1, b1 + 1, b1 + 1, b1 + 1, b1 + 1, b1 + 1, b1 + 1] rfl (by kernel_rfl) ⟨q9, rfl, pf10⟩
set_option maxRecDepth 100000 in
theorem x18_47 (H : Snap) (p0 p1 p2 p3 p4 : Nat) (hp0 : Pre H p0 [iw 3, iw 1, iw 10]) (hp1 : Pre H p1 [.func (.func 33) #[] #[pt p2 0]]) (hp2 : Pre H p2 [iw 3, iw 1, iw 10]) (hp3 : Pre H p3 [.func (.func 36) #[] #[pt p2 0]]) (hp4 : Pre H p4 [.func (.func 18) #[] #[pt p0 0, pt p1 0, pt p3 0, pt p4 0]]) : Does Tryd.prog 18 [.agg #[iw 1, iw 1, iw 17, iw 42, n0, s0, n0], bF, pt p0 0, pt p1 0, pt p3 0, pt p4 0] H [] (fun v H' kp => ∃ r0 : Nat, v = .agg #[iw 7, iw 0, iw 0, iw 0, n0, s0, sl r0 0 1 1] ∧ Pre H' r0 [iw 1, iw 1, iw 17, iw 33, n0, s0, n0]) := by
  refine Does.of Tryd.func18 rfl rfl rfl rfl (fun w0 H0 kx => ?_)
  refine Ok.seq ?_
  refine Ok.reg ?_
  refine Ok.seg (j := 2) (fun b1 => [(1, bF), (2, pt p0 0), (3, pt p1 0), (4, pt p3 0), (5, pt p4 0), (6, pt b1 0), (8, pt (b1 + 1) 0)]) (fun b1 => [.blk b1 [iw 1, iw 1, iw 17, iw 42, n0, s0, n0] 44, .blk (b1 + 1) [iw 0, iw 0, iw 0, iw 0, n0, s0, n0] 44]) (fun b1 => []) (fun b1 => []) [.g [.N], .g [.N]] [1, 2, 3, 4, 5, 6, 8] rfl (fun b1 => by kernel_rfl) (fun b1 => trivial) (fun b1 => ?_)
  refine Ok.segEnd rfl ?_
  refine Ok.thenN ?_
  refine Ok.seq ?_
  refine Ok.seq ?_
  refine Ok.reg ?_
  refine Ok.seg (j := 2) (fun _ => [(1, bF), (2, pt p0 0), (3, pt p1 0), (4, pt p3 0), (5, pt p4 0), (6, pt b1 0), (8, pt (b1 + 1) 0), (13, iw 1)]) (fun _ => [.blk b1 [iw 1, iw 1, iw 17, iw 42, n0, s0, n0] 44, .blk (b1 + 1) [iw 0, iw 0, iw 0, iw 0, n0, s0, n0] 44]) (fun _ => [b1]) (fun _ => []) [.g [], .g [.K 0 0]] [1, 2, 3, 4, 5, 6, 8, 13] rfl (fun _ => by kernel_rfl) (fun _ => trivial) (fun _ => ?_)
  refine Ok.segEnd rfl ?_
  refine Ok.thenN ?_
  refine Ok.blk ?_
  refine Ok.seq ?_
  refine Ok.reg ?_
  refine Ok.seg (j := 2) (fun _ => [(1, bF), (2, pt p0 0), (3, pt p1 0), (4, pt p3 0), (5, pt p4 0), (6, pt b1 0), (8, pt (b1 + 1) 0), (13, iw 1), (14, bF)]) (fun _ => [.blk b1 [iw 1, iw 1, iw 17, iw 42, n0, s0, n0] 44, .blk (b1 + 1) [iw 0, iw 0, iw 0, iw 0, n0, s0, n0] 44]) (fun _ => []) (fun _ => []) [.g [], .g []] [1, 2, 3, 4, 5, 6, 8, 13, 14] rfl (fun _ => by kernel_rfl) (fun _ => trivial) (fun _ => ?_)
  refine Ok.segEnd rfl ?_
  refine Ok.thenN ?_
  refine Ok.condF rfl ?_
  refine Ok.seq ?_
  refine Ok.seq ?_
  refine Ok.reg ?_
  refine Ok.seg (j := 2) (fun _ => [(1, bF), (2, pt p0 0), (3, pt p1 0), (4, pt p3 0), (5, pt p4 0), (6, pt b1 0), (8, pt (b1 + 1) 0), (13, iw 1), (19, bT)]) (fun _ => [.blk b1 [iw 1, iw 1, iw 17, iw 42, n0, s0, n0] 44, .blk (b1 + 1) [iw 0, iw 0, iw 0, iw 0, n0, s0, n0] 44]) (fun _ => []) (fun _ => []) [.g [], .g []] [1, 2, 3, 4, 5, 6, 8, 13, 19] rfl (fun _ => by kernel_rfl) (fun _ => trivial) (fun _ => ?_)
  refine Ok.segEnd rfl ?_
  refine Ok.thenN ?_
  refine Ok.condT rfl ?_
  refine Ok.skip_ ?_
  refine Ok.thenN ?_
  refine Ok.condT rfl ?_
  refine Ok.seq ?_
  refine Ok.seq ?_
  refine Ok.reg ?_
  refine Ok.seg (j := 8) (fun _ => [(2, pt p0 0), (3, pt p1 0), (4, pt p3 0), (6, pt b1 0), (8, pt (b1 + 1) 0), (31, bF)]) (fun _ => [.blk b1 [iw 1, iw 1, iw 17, iw 42, n0, s0, n0] 44, .blk (b1 + 1) [iw 0, iw 0, iw 0, iw 0, n0, s0, n0] 44]) (fun _ => [b1]) (fun _ => [HasCell H ⟨p0, 1, none⟩ (iw 1)]) [.g [], .g [.K 0 1], .g [], .g [.X (iw 1)], .g [], .g [], .g [], .g []] [2, 3, 4, 6, 8, 31] rfl (fun _ => by kernel_rfl) (fun _ => ⟨Pre.cell hp0 1 rfl, trivial⟩) (fun _ => ?_)
  refine Ok.segEnd rfl ?_
  refine Ok.thenN ?_
  refine Ok.condF rfl ?_
  refine Ok.skip_ ?_
  refine Ok.thenN ?_
  refine Ok.seq ?_
  refine Ok.reg ?_
  refine Ok.seg (j := 5) (fun _ => [(4, pt p3 0), (6, pt b1 0), (8, pt (b1 + 1) 0), (39, bT)]) (fun _ => [.blk b1 [iw 1, iw 1, iw 17, iw 42, n0, s0, n0] 44, .blk (b1 + 1) [iw 0, iw 0, iw 0, iw 0, n0, s0, n0] 44]) (fun _ => [b1]) (fun _ => [HasCell H ⟨p0, 1, none⟩ (iw 1)]) [.g [], .g [.K 0 1], .g [], .g [.X (iw 1)], .g []] [4, 6, 8, 39] rfl (fun _ => by kernel_rfl) (fun _ => ⟨Pre.cell hp0 1 rfl, trivial⟩) (fun _ => ?_)
  refine Ok.segEnd rfl ?_
  refine Ok.thenN ?_
  refine Ok.condT rfl ?_
  refine Ok.seq ?_
  refine Ok.reg ?_
  refine Ok.seg (j := 2) (fun _ => [(8, pt (b1 + 1) 0), (40, .func (.func 36) #[] #[pt p2 0]), (41, .agg #[iw 1, iw 1, iw 17, iw 42, n0, s0, n0])]) (fun _ => [.blk b1 [iw 1, iw 1, iw 17, iw 42, n0, s0, n0] 44, .blk (b1 + 1) [iw 0, iw 0, iw 0, iw 0, n0, s0, n0] 44]) (fun _ => [b1, b1, b1, b1, b1, b1, b1]) (fun _ => [HasCell H ⟨p3, 0, none⟩ (.func (.func 36) #[] #[pt p2 0])]) [.g [.X (.func (.func 36) #[] #[pt p2 0])], .g [.K 0 0, .K 0 1, .K 0 2, .K 0 3, .K 0 4, .K 0 5, .K 0 6]] [8, 40, 41] rfl (fun _ => by kernel_rfl) (fun _ => ⟨Pre.cell hp3 0 rfl, trivial⟩) (fun _ => ?_)
  refine Ok.eff (j := 3) rfl (Eff.call0 (d := some 42) (by kernel_rfl) (x36_48 H p2 hp2) ?_)
  rintro v8 H9 k11 le10 ⟨q12, rfl, pf13⟩
  refine Ok.dropL ?_
  refine Ok.seg (j := 4) (fun _ => [(8, pt (b1 + 1) 0)]) (fun _ => [.blk b1 [iw 1, iw 1, iw 17, iw 42, n0, s0, n0] 44, .blk (b1 + 1) [iw 7, iw 0, iw 0, iw 0, n0, s0, sl q12 0 1 1] 44]) (fun _ => [b1 + 1, b1 + 1, b1 + 1, b1 + 1, b1 + 1, b1 + 1, b1 + 1]) (fun _ => []) [.g [.K 1 0, .K 1 1, .K 1 2, .K 1 3, .K 1 4, .K 1 5, .K 1 6]] [8] rfl (fun _ => by kernel_rfl) (fun _ => trivial) (fun _ => ?_)
  refine Ok.segEnd rfl ?_
  refine Ok.thenN ?_
  refine Ok.ret_ ?_
  refine Ok.blkR ?_
  refine Ok.thenR ?_
  exact Ok.ret1c le10 [.K 1 0, .K 1 1, .K 1 2, .K 1 3, .K 1 4, .K 1 5, .K 1 6] (.agg #[iw 7, iw 0, iw 0, iw 0, n0, s0, sl q12 0 1 1]) [b1 + 1, b1 + 1, b1 + 1, b1 + 1, b1 + 1, b1 + 1, b1 + 1] rfl (by kernel_rfl) ⟨q12, rfl, pf13⟩
set_option maxRecDepth 100000 in
theorem x18_46 (H : Snap) (p0 p1 p2 p3 p4 p5 : Nat) (hp0 : Pre H p0 [iw 1, iw 1, iw 17, iw 42, n0, s0, n0]) (hp1 : Pre H p1 [iw 3, iw 1, iw 10]) (hp2 : Pre H p2 [.func (.func 33) #[] #[pt p3 0]]) (hp3 : Pre H p3 [iw 3, iw 1, iw 10]) (hp4 : Pre H p4 [.func (.func 36) #[] #[pt p3 0]]) (hp5 : Pre H p5 [.func (.func 18) #[] #[pt p1 0, pt p2 0, pt p4 0, pt p5 0]]) : Does Tryd.prog 18 [.agg #[iw 7, iw 0, iw 0, iw 0, n0, s0, sl p0 0 1 1], bT, pt p1 0, pt p2 0, pt p4 0, pt p5 0] H [] (fun v H' kp => ∃ r0 : Nat, v = .agg #[iw 7, iw 0, iw 0, iw 0, n0, s0, sl r0 0 1 1] ∧ Pre H' r0 [iw 1, iw 1, iw 17, iw 33, n0, s0, n0]) := by
  refine Does.of Tryd.func18 rfl rfl rfl rfl (fun w0 H0 kx => ?_)
  refine Ok.seq ?_
  refine Ok.reg ?_
  refine Ok.seg (j := 2) (fun b1 => [(1, bT), (2, pt p1 0), (3, pt p2 0), (4, pt p4 0), (5, pt p5 0), (6, pt b1 0), (8, pt (b1 + 1) 0)]) (fun b1 => [.blk b1 [iw 7, iw 0, iw 0, iw 0, n0, s0, sl p0 0 1 1] 44, .blk (b1 + 1) [iw 0, iw 0, iw 0, iw 0, n0, s0, n0] 44]) (fun b1 => []) (fun b1 => []) [.g [.N], .g [.N]] [1, 2, 3, 4, 5, 6, 8] rfl (fun b1 => by kernel_rfl) (fun b1 => trivial) (fun b1 => ?_)
  refine Ok.segEnd rfl ?_
  refine Ok.thenN ?_
  refine Ok.seq ?_
  refine Ok.seq ?_
  refine Ok.reg ?_
  refine Ok.seg (j := 2) (fun _ => [(1, bT), (2, pt p1 0), (3, pt p2 0), (4, pt p4 0), (5, pt p5 0), (6, pt b1 0), (8, pt (b1 + 1) 0), (13, iw 7)]) (fun _ => [.blk b1 [iw 7, iw 0, iw 0, iw 0, n0, s0, sl p0 0 1 1] 44, .blk (b1 + 1) [iw 0, iw 0, iw 0, iw 0, n0, s0, n0] 44]) (fun _ => [b1]) (fun _ => []) [.g [], .g [.K 0 0]] [1, 2, 3, 4, 5, 6, 8, 13] rfl (fun _ => by kernel_rfl) (fun _ => trivial) (fun _ => ?_)
  refine Ok.segEnd rfl ?_
  refine Ok.thenN ?_
  refine Ok.blk ?_
  refine Ok.seq ?_
  refine Ok.reg ?_
  refine Ok.seg (j := 2) (fun _ => [(1, bT), (2, pt p1 0), (3, pt p2 0), (4, pt p4 0), (5, pt p5 0), (6, pt b1 0), (8, pt (b1 + 1) 0), (13, iw 7), (14, bF)]) (fun _ => [.blk b1 [iw 7, iw 0, iw 0, iw 0, n0, s0, sl p0 0 1 1] 44, .blk (b1 + 1) [iw 0, iw 0, iw 0, iw 0, n0, s0, n0] 44]) (fun _ => []) (fun _ => []) [.g [], .g []] [1, 2, 3, 4, 5, 6, 8, 13, 14] rfl (fun _ => by kernel_rfl) (fun _ => trivial) (fun _ => ?_)
  refine Ok.segEnd rfl ?_
  refine Ok.thenN ?_
  refine Ok.condF rfl ?_
  refine Ok.seq ?_
  refine Ok.seq ?_
  refine Ok.reg ?_
  refine Ok.seg (j := 2) (fun _ => [(1, bT), (2, pt p1 0), (3, pt p2 0), (4, pt p4 0), (5, pt p5 0), (6, pt b1 0), (8, pt (b1 + 1) 0), (13, iw 7), (19, bF)]) (fun _ => [.blk b1 [iw 7, iw 0, iw 0, iw 0, n0, s0, sl p0 0 1 1] 44, .blk (b1 + 1) [iw 0, iw 0, iw 0, iw 0, n0, s0, n0] 44]) (fun _ => []) (fun _ => []) [.g [], .g []] [1, 2, 3, 4, 5, 6, 8, 13, 19] rfl (fun _ => by kernel_rfl) (fun _ => trivial) (fun _ => ?_)
  refine Ok.segEnd rfl ?_
  refine Ok.thenN ?_
  refine Ok.condF rfl ?_
  refine Ok.seq ?_
  refine Ok.reg ?_
  refine Ok.seg (j := 2) (fun _ => [(1, bT), (2, pt p1 0), (3, pt p2 0), (4, pt p4 0), (5, pt p5 0), (6, pt b1 0), (8, pt (b1 + 1) 0), (13, iw 7), (19, bF)]) (fun _ => [.blk b1 [iw 7, iw 0, iw 0, iw 0, n0, s0, sl p0 0 1 1] 44, .blk (b1 + 1) [iw 0, iw 0, iw 0, iw 0, n0, s0, n0] 44]) (fun _ => []) (fun _ => []) [.g [], .g []] [1, 2, 3, 4, 5, 6, 8, 13, 19] rfl (fun _ => by kernel_rfl) (fun _ => trivial) (fun _ => ?_)
  refine Ok.segEnd rfl ?_
  refine Ok.thenN ?_
  refine Ok.condF rfl ?_
  refine Ok.seq ?_
  refine Ok.reg ?_
  refine Ok.seg (j := 2) (fun _ => [(1, bT), (2, pt p1 0), (3, pt p2 0), (4, pt p4 0), (5, pt p5 0), (6, pt b1 0), (8, pt (b1 + 1) 0), (13, iw 7), (19, bF)]) (fun _ => [.blk b1 [iw 7, iw 0, iw 0, iw 0, n0, s0, sl p0 0 1 1] 44, .blk (b1 + 1) [iw 0, iw 0, iw 0, iw 0, n0, s0, n0] 44]) (fun _ => []) (fun _ => []) [.g [], .g []] [1, 2, 3, 4, 5, 6, 8, 13, 19] rfl (fun _ => by kernel_rfl) (fun _ => trivial) (fun _ => ?_)
  refine Ok.segEnd rfl ?_
  refine Ok.thenN ?_
  refine Ok.condF rfl ?_
  refine Ok.reg ?_
  refine Ok.seg (j := 2) (fun _ => [(1, bT), (2, pt p1 0), (3, pt p2 0), (4, pt p4 0), (5, pt p5 0), (6, pt b1 0), (8, pt (b1 + 1) 0), (13, iw 7), (19, bF)]) (fun _ => [.blk b1 [iw 7, iw 0, iw 0, iw 0, n0, s0, sl p0 0 1 1] 44, .blk (b1 + 1) [iw 0, iw 0, iw 0, iw 0, n0, s0, n0] 44]) (fun _ => []) (fun _ => []) [.g [], .g []] [1, 2, 3, 4, 5, 6, 8, 13, 19] rfl (fun _ => by kernel_rfl) (fun _ => trivial) (fun _ => ?_)
  refine Ok.segEnd rfl ?_
  refine Ok.thenN ?_
  refine Ok.condF rfl ?_
  refine Ok.seq ?_
  refine Ok.reg ?_
  refine Ok.seg (j := 2) (fun _ => [(1, bT), (5, pt p5 0), (6, pt b1 0), (8, pt (b1 + 1) 0), (13, iw 7), (43, bT)]) (fun _ => [.blk b1 [iw 7, iw 0, iw 0, iw 0, n0, s0, sl p0 0 1 1] 44, .blk (b1 + 1) [iw 0, iw 0, iw 0, iw 0, n0, s0, n0] 44]) (fun _ => []) (fun _ => []) [.g [], .g []] [1, 5, 6, 8, 13, 43] rfl (fun _ => by kernel_rfl) (fun _ => trivial) (fun _ => ?_)
  refine Ok.segEnd rfl ?_
  refine Ok.thenN ?_
  refine Ok.condT rfl ?_
  refine Ok.seq ?_
  refine Ok.reg ?_
  refine Ok.seg (j := 4) (fun _ => [(1, bT), (5, pt p5 0), (6, pt b1 0), (8, pt (b1 + 1) 0), (48, bT)]) (fun _ => [.blk b1 [iw 7, iw 0, iw 0, iw 0, n0, s0, sl p0 0 1 1] 44, .blk (b1 + 1) [iw 0, iw 0, iw 0, iw 0, n0, s0, n0] 44]) (fun _ => [b1]) (fun _ => []) [.g [], .g [.K 0 6], .g [], .g []] [1, 5, 6, 8, 48] rfl (fun _ => by kernel_rfl) (fun _ => trivial) (fun _ => ?_)
  refine Ok.segEnd rfl ?_
  refine Ok.thenN ?_
  refine Ok.condT rfl ?_
  refine Ok.seq ?_
  refine Ok.start (idx := [0]) [] [.blk b1 [iw 7, iw 0, iw 0, iw 0, n0, s0, sl p0 0 1 1] 44] (by kernel_rfl) rfl rfl rfl ?_
  refine Ok.take (fuel' := 2) (l' := [true, true, true, true, true, true, true, false, false]) (qs := [(0, .g [.X (.func (.func 18) #[] #[pt p1 0, pt p2 0, pt p4 0, pt p5 0])]), (1, .g []), (2, .g [.K 0 6]), (3, .g []), (4, .g [.X (iw 1), .X (iw 1), .X (iw 17), .X (iw 42), .X (n0), .X (s0), .X (n0)]), (5, .g []), (6, .g [])]) [(8, pt (b1 + 1) 0), (49, .func (.func 18) #[] #[pt p1 0, pt p2 0, pt p4 0, pt p5 0]), (53, .agg #[iw 1, iw 1, iw 17, iw 42, n0, s0, n0]), (55, bF)] [b1] [HasCell H ⟨p5, 0, none⟩ (.func (.func 18) #[] #[pt p1 0, pt p2 0, pt p4 0, pt p5 0]), HasCell H ⟨p0, 0, none⟩ (iw 1), HasCell H ⟨p0, 1, none⟩ (iw 1), HasCell H ⟨p0, 2, none⟩ (iw 17), HasCell H ⟨p0, 3, none⟩ (iw 42), HasCell H ⟨p0, 4, none⟩ (n0), HasCell H ⟨p0, 5, none⟩ (s0), HasCell H ⟨p0, 6, none⟩ (n0)] [8, 49, 53, 55] (by intro c a w d v h; cases d <;> exact h) (by kernel_rfl) rfl ⟨Pre.cell hp5 0 rfl, Pre.cell hp0 0 rfl, Pre.cell hp0 1 rfl, Pre.cell hp0 2 rfl, Pre.cell hp0 3 rfl, Pre.cell hp0 4 rfl, Pre.cell hp0 5 rfl, Pre.cell hp0 6 rfl, trivial⟩ ?_
  refine Ok.one (i := 7) (fuel' := 1) (l' := [true, true, true, true, true, true, true, true, false]) (by kernel_rfl) rfl rfl (Eff.call0 (d := some 56) (by kernel_rfl) (x18_47 H p1 p2 p3 p4 p5 hp1 hp2 hp3 hp4 hp5) ?_)
  rintro v10 H11 k13 le12 ⟨q14, rfl, pf15⟩
  refine Ok.dropL ?_
  refine Ok.withS (idx := [0]) le12 rfl ?_
  refine Ok.one (i := 8) (fuel' := 0) (l' := [true, true, true, true, true, true, true, true, true]) (by kernel_rfl) rfl rfl (Eff.op (.g [.K 1 0, .K 1 1, .K 1 2, .K 1 3, .K 1 4, .K 1 5, .K 1 6]) (fun _ => [(8, pt (b1 + 1) 0)]) (fun _ => [.blk b1 [iw 7, iw 0, iw 0, iw 0, n0, s0, sl p0 0 1 1] 44, .blk (b1 + 1) [iw 7, iw 0, iw 0, iw 0, n0, s0, sl q14 0 1 1] 44]) (fun _ => [b1 + 1, b1 + 1, b1 + 1, b1 + 1, b1 + 1, b1 + 1, b1 + 1]) (fun _ => []) [8] (fun _ => by kernel_rfl) (fun _ => trivial) (fun _ => ?_))
  refine Ok.withS (idx := [0]) le12 rfl ?_
  refine Ok.done (by kernel_rfl) ?_
  refine Ok.thenN ?_
  refine Ok.ret_ ?_
  refine Ok.blkR ?_
  refine Ok.thenR ?_
  exact Ok.ret1c le12 [.K 1 0, .K 1 1, .K 1 2, .K 1 3, .K 1 4, .K 1 5, .K 1 6] (.agg #[iw 7, iw 0, iw 0, iw 0, n0, s0, sl q14 0 1 1]) [b1 + 1, b1 + 1, b1 + 1, b1 + 1, b1 + 1, b1 + 1, b1 + 1] rfl (by kernel_rfl) ⟨q14, rfl, pf15⟩
set_option maxRecDepth 100000 in
theorem x8_45 (H : Snap) (p0 : Nat) (hp0 : Pre H p0 [iw 1, iw 1, iw 17, iw 42, n0, s0, n0]) : Does Tryd.prog 8 [.agg #[iw 3, iw 1, iw 10], .agg #[iw 7, iw 0, iw 0, iw 0, n0, s0, sl p0 0 1 1]] H [] (fun v H' kp => ∃ r0 : Nat, v = .agg #[iw 7, iw 0, iw 0, iw 0, n0, s0, sl r0 0 1 1] ∧ Pre H' r0 [iw 1, iw 1, iw 17, iw 33, n0, s0, n0]) := by
  refine Does.of Tryd.func8 rfl rfl rfl rfl (fun w0 H0 kx => ?_)
  refine Ok.seq ?_
  refine Ok.reg ?_
  refine Ok.seg (j := 3) (fun b1 => [(2, pt b1 0), (3, pt (b1 + 1) 0), (4, pt (b1 + 1 + 1) 0)]) (fun b1 => [.blk b1 [iw 3, iw 1, iw 10] 24, .blk (b1 + 1) [iw 7, iw 0, iw 0, iw 0, n0, s0, sl p0 0 1 1] 44, .blk (b1 + 1 + 1) [iw 0, iw 0, iw 0, iw 0, n0, s0, n0] 44]) (fun b1 => []) (fun b1 => []) [.g [.N], .g [.N], .g [.N]] [2, 3, 4] rfl (fun b1 => by kernel_rfl) (fun b1 => trivial) (fun b1 => ?_)
  refine Ok.segEnd rfl ?_
  refine Ok.thenN ?_
  refine Ok.seq ?_
  refine Ok.reg ?_
  refine Ok.seg (j := 1) (fun _ => [(2, pt b1 0), (3, pt (b1 + 1) 0), (4, pt (b1 + 1 + 1) 0), (9, .agg #[iw 3, iw 1, iw 10])]) (fun _ => [.blk b1 [iw 3, iw 1, iw 10] 24, .blk (b1 + 1) [iw 7, iw 0, iw 0, iw 0, n0, s0, sl p0 0 1 1] 44, .blk (b1 + 1 + 1) [iw 0, iw 0, iw 0, iw 0, n0, s0, n0] 44]) (fun _ => [b1, b1, b1]) (fun _ => []) [.g [.K 0 0, .K 0 1, .K 0 2]] [2, 3, 4, 9] rfl (fun _ => by kernel_rfl) (fun _ => trivial) (fun _ => ?_)
  refine Ok.eff (j := 2) rfl (Eff.call0 (d := some 10) (by kernel_rfl) (x17_35 H) ?_)
  rintro v3 H4 k6 le5 ⟨q7, rfl, pf8⟩
  refine Ok.dropL ?_
  refine Ok.seg (j := 9) (fun b9 => [(2, pt b1 0), (3, pt (b1 + 1) 0), (4, pt (b1 + 1 + 1) 0), (5, pt b9 0), (6, pt (b9 + 1) 0)]) (fun b9 => [.blk b1 [iw 3, iw 1, iw 10] 24, .blk (b1 + 1) [iw 7, iw 0, iw 0, iw 0, n0, s0, sl p0 0 1 1] 44, .blk (b1 + 1 + 1) [iw 0, iw 0, iw 0, iw 0, n0, s0, n0] 44, .blk b9 [.func (.func 33) #[] #[pt q7 0]] 47, .blk (b9 + 1) [.func (.func 36) #[] #[pt q7 0]] 47]) (fun b9 => [b9, b9 + 1]) (fun b9 => []) [.g [], .g [], .g [], .g [.N], .g [.N], .g [.K 3 0], .g [.K 4 0]] [2, 3, 4, 5, 6] rfl (fun b9 => by kernel_rfl) (fun b9 => trivial) (fun b9 => ?_)
  refine Ok.segEnd rfl ?_
  refine Ok.thenN ?_
  refine Ok.seq ?_
  refine Ok.reg ?_
  refine Ok.seg (j := 1) (fun b10 => [(2, pt b1 0), (3, pt (b1 + 1) 0), (4, pt (b1 + 1 + 1) 0), (5, pt b9 0), (6, pt (b9 + 1) 0), (7, pt b10 0)]) (fun b10 => [.blk b1 [iw 3, iw 1, iw 10] 24, .blk (b1 + 1) [iw 7, iw 0, iw 0, iw 0, n0, s0, sl p0 0 1 1] 44, .blk (b1 + 1 + 1) [iw 0, iw 0, iw 0, iw 0, n0, s0, n0] 44, .blk b9 [.func (.func 33) #[] #[pt q7 0]] 47, .blk (b9 + 1) [.func (.func 36) #[] #[pt q7 0]] 47, .blk b10 [.nilFunc] 60]) (fun b10 => []) (fun b10 => []) [.g [.N]] [2, 3, 4, 5, 6, 7] rfl (fun b10 => by kernel_rfl) (fun b10 => trivial) (fun b10 => ?_)
  refine Ok.segEnd rfl ?_
  refine Ok.thenN ?_
  refine Ok.seq ?_
  refine Ok.reg ?_
  refine Ok.seg (j := 2) (fun _ => [(3, pt (b1 + 1) 0), (4, pt (b1 + 1 + 1) 0), (7, pt b10 0)]) (fun _ => [.blk b1 [iw 3, iw 1, iw 10] 24, .blk (b1 + 1) [iw 7, iw 0, iw 0, iw 0, n0, s0, sl p0 0 1 1] 44, .blk (b1 + 1 + 1) [iw 0, iw 0, iw 0, iw 0, n0, s0, n0] 44, .blk b9 [.func (.func 33) #[] #[pt q7 0]] 47, .blk (b9 + 1) [.func (.func 36) #[] #[pt q7 0]] 47, .blk b10 [.func (.func 18) #[] #[pt b1 0, pt b9 0, pt (b9 + 1) 0, pt b10 0]] 60]) (fun _ => [b10]) (fun _ => []) [.g [], .g [.K 5 0]] [3, 4, 7] rfl (fun _ => by kernel_rfl) (fun _ => trivial) (fun _ => ?_)
  refine Ok.segEnd rfl ?_
  refine Ok.thenN ?_
  refine Ok.seq ?_
  refine Ok.reg ?_
  refine Ok.seg (j := 2) (fun _ => [(4, pt (b1 + 1 + 1) 0), (14, .func (.func 18) #[] #[pt b1 0, pt b9 0, pt (b9 + 1) 0, pt b10 0]), (15, .agg #[iw 7, iw 0, iw 0, iw 0, n0, s0, sl p0 0 1 1])]) (fun _ => [.blk b1 [iw 3, iw 1, iw 10] 24, .blk (b1 + 1) [iw 7, iw 0, iw 0, iw 0, n0, s0, sl p0 0 1 1] 44, .blk (b1 + 1 + 1) [iw 0, iw 0, iw 0, iw 0, n0, s0, n0] 44, .blk b9 [.func (.func 33) #[] #[pt q7 0]] 47, .blk (b9 + 1) [.func (.func 36) #[] #[pt q7 0]] 47, .blk b10 [.func (.func 18) #[] #[pt b1 0, pt b9 0, pt (b9 + 1) 0, pt b10 0]] 60]) (fun _ => [b10, b1 + 1, b1 + 1, b1 + 1, b1 + 1, b1 + 1, b1 + 1, b1 + 1]) (fun _ => []) [.g [.K 5 0], .g [.K 1 0, .K 1 1, .K 1 2, .K 1 3, .K 1 4, .K 1 5, .K 1 6]] [4, 14, 15] rfl (fun _ => by kernel_rfl) (fun _ => trivial) (fun _ => ?_)
  refine Ok.pubP 0 rfl [.blk (b1 + 1) [iw 7, iw 0, iw 0, iw 0, n0, s0, sl p0 0 1 1] 44, .blk (b1 + 1 + 1) [iw 0, iw 0, iw 0, iw 0, n0, s0, n0] 44, .blk b9 [.func (.func 33) #[] #[pt q7 0]] 47, .blk (b9 + 1) [.func (.func 36) #[] #[pt q7 0]] 47, .blk b10 [.func (.func 18) #[] #[pt b1 0, pt b9 0, pt (b9 + 1) 0, pt b10 0]] 60] rfl ?_
  intro H13 le14 pf15
  refine Ok.pubP 2 rfl [.blk (b1 + 1) [iw 7, iw 0, iw 0, iw 0, n0, s0, sl p0 0 1 1] 44, .blk (b1 + 1 + 1) [iw 0, iw 0, iw 0, iw 0, n0, s0, n0] 44, .blk (b9 + 1) [.func (.func 36) #[] #[pt q7 0]] 47, .blk b10 [.func (.func 18) #[] #[pt b1 0, pt b9 0, pt (b9 + 1) 0, pt b10 0]] 60] rfl ?_
  intro H16 le17 pf18
  refine Ok.pubP 2 rfl [.blk (b1 + 1) [iw 7, iw 0, iw 0, iw 0, n0, s0, sl p0 0 1 1] 44, .blk (b1 + 1 + 1) [iw 0, iw 0, iw 0, iw 0, n0, s0, n0] 44, .blk b10 [.func (.func 18) #[] #[pt b1 0, pt b9 0, pt (b9 + 1) 0, pt b10 0]] 60] rfl ?_
  intro H19 le20 pf21
  refine Ok.pubP 2 rfl [.blk (b1 + 1) [iw 7, iw 0, iw 0, iw 0, n0, s0, sl p0 0 1 1] 44, .blk (b1 + 1 + 1) [iw 0, iw 0, iw 0, iw 0, n0, s0, n0] 44] rfl ?_
  intro H22 le23 pf24
  refine Ok.eff (j := 3) rfl (Eff.call0 (d := some 16) (by kernel_rfl) (x18_46 H22 p0 b1 b9 q7 (b9 + 1) b10 (Pre.mono (SLe.trans le5 (SLe.trans le14 (SLe.trans le17 (SLe.trans le20 le23)))) hp0) (Pre.mono (SLe.trans le17 (SLe.trans le20 le23)) pf15) (Pre.mono (SLe.trans le20 le23) pf18) (Pre.mono (SLe.trans le14 (SLe.trans le17 (SLe.trans le20 le23))) pf8) (Pre.mono le23 pf21) pf24) ?_)
  rintro v25 H26 k28 le27 ⟨q29, rfl, pf30⟩
  refine Ok.dropL ?_
  refine Ok.seg (j := 4) (fun _ => [(4, pt (b1 + 1 + 1) 0)]) (fun _ => [.blk (b1 + 1) [iw 7, iw 0, iw 0, iw 0, n0, s0, sl p0 0 1 1] 44, .blk (b1 + 1 + 1) [iw 7, iw 0, iw 0, iw 0, n0, s0, sl q29 0 1 1] 44]) (fun _ => [b1 + 1 + 1, b1 + 1 + 1, b1 + 1 + 1, b1 + 1 + 1, b1 + 1 + 1, b1 + 1 + 1, b1 + 1 + 1]) (fun _ => []) [.g [.K 1 0, .K 1 1, .K 1 2, .K 1 3, .K 1 4, .K 1 5, .K 1 6]] [4] rfl (fun _ => by kernel_rfl) (fun _ => trivial) (fun _ => ?_)
  refine Ok.segEnd rfl ?_
  refine Ok.thenN ?_
  refine Ok.ret_ ?_
  exact Ok.ret1c (SLe.trans le5 (SLe.trans le14 (SLe.trans le17 (SLe.trans le20 (SLe.trans le23 le27))))) [.K 1 0, .K 1 1, .K 1 2, .K 1 3, .K 1 4, .K 1 5, .K 1 6] (.agg #[iw 7, iw 0, iw 0, iw 0, n0, s0, sl q29 0 1 1]) [b1 + 1 + 1, b1 + 1 + 1, b1 + 1 + 1, b1 + 1 + 1, b1 + 1 + 1, b1 + 1 + 1, b1 + 1 + 1] rfl (by kernel_rfl) ⟨q29, rfl, pf30⟩
set_option maxRecDepth 100000 in
theorem x9_52 (H : Snap) : Does Tryd.prog 9 [iw 17, iw 33] H [] (fun v H' kp => v = .agg #[iw 1, iw 1, iw 17, iw 33, n0, s0, n0]) := by
  refine Does.of Tryd.func9 rfl rfl rfl rfl (fun w0 H0 kx => ?_)
  refine Ok.seq ?_
  refine Ok.reg ?_
  refine Ok.seg (j := 1) (fun b1 => [(0, iw 17), (1, iw 33), (4, pt b1 0)]) (fun b1 => [.blk b1 [iw 0, iw 0, iw 0, iw 0, n0, s0, n0] 44]) (fun b1 => []) (fun b1 => []) [.g [.N]] [0, 1, 4] rfl (fun b1 => by kernel_rfl) (fun b1 => trivial) (fun b1 => ?_)
  refine Ok.segEnd rfl ?_
  refine Ok.thenN ?_
  refine Ok.seq ?_
  refine Ok.reg ?_
  refine Ok.seg (j := 4) (fun _ => [(4, pt b1 0)]) (fun _ => [.blk b1 [iw 1, iw 1, iw 17, iw 33, n0, s0, n0] 44]) (fun _ => [b1, b1, b1, b1, b1, b1, b1]) (fun _ => []) [.g [], .g [], .g [], .g [.K 0 0, .K 0 1, .K 0 2, .K 0 3, .K 0 4, .K 0 5, .K 0 6]] [4] rfl (fun _ => by kernel_rfl) (fun _ => trivial) (fun _ => ?_)
  refine Ok.segEnd rfl ?_
  refine Ok.thenN ?_
  refine Ok.ret_ ?_
  exact Ok.ret1c (SLe.refl _) [.K 0 0, .K 0 1, .K 0 2, .K 0 3, .K 0 4, .K 0 5, .K 0 6] (.agg #[iw 1, iw 1, iw 17, iw 33, n0, s0, n0]) [b1, b1, b1, b1, b1, b1, b1] rfl (by kernel_rfl) rfl
set_option maxRecDepth 100000 in
theorem x10_53 (H : Snap) : Does Tryd.prog 10 [.agg #[iw 1, iw 1, iw 17, iw 33, n0, s0, n0]] H [] (fun v H' kp => ∃ r0 : Nat, v = .agg #[iw 7, iw 0, iw 0, iw 0, n0, s0, sl r0 0 1 1] ∧ Pre H' r0 [iw 1, iw 1, iw 17, iw 33, n0, s0, n0]) := by
  refine Does.of Tryd.func10 rfl rfl rfl rfl (fun w0 H0 kx => ?_)
  refine Ok.seq ?_
  refine Ok.reg ?_
  refine Ok.seg (j := 2) (fun b1 => [(1, pt b1 0), (2, pt (b1 + 1) 0)]) (fun b1 => [.blk b1 [iw 1, iw 1, iw 17, iw 33, n0, s0, n0] 44, .blk (b1 + 1) [iw 0, iw 0, iw 0, iw 0, n0, s0, n0] 44]) (fun b1 => []) (fun b1 => []) [.g [.N], .g [.N]] [1, 2] rfl (fun b1 => by kernel_rfl) (fun b1 => trivial) (fun b1 => ?_)
  refine Ok.segEnd rfl ?_
  refine Ok.thenN ?_
  refine Ok.seq ?_
  refine Ok.reg ?_
  refine Ok.seg (j := 4) (fun b2 => [(2, pt (b1 + 1) 0)]) (fun b2 => [.blk b1 [iw 1, iw 1, iw 17, iw 33, n0, s0, n0] 44, .blk (b1 + 1) [iw 7, iw 0, iw 0, iw 0, n0, s0, sl b2 0 1 1] 44, .blk b2 [iw 1, iw 1, iw 17, iw 33, n0, s0, n0] 44]) (fun b2 => [b1, b1, b1, b1, b1, b1, b1, b1 + 1, b1 + 1, b1 + 1, b1 + 1, b1 + 1, b1 + 1, b1 + 1]) (fun b2 => []) [.g [.K 0 0, .K 0 1, .K 0 2, .K 0 3, .K 0 4, .K 0 5, .K 0 6], .g [.N], .g [], .g [.K 1 0, .K 1 1, .K 1 2, .K 1 3, .K 1 4, .K 1 5, .K 1 6]] [2] rfl (fun b2 => by kernel_rfl) (fun b2 => trivial) (fun b2 => ?_)
  refine Ok.segEnd rfl ?_
  refine Ok.thenN ?_
  refine Ok.ret_ ?_
  refine Ok.pubP 2 rfl [.blk b1 [iw 1, iw 1, iw 17, iw 33, n0, s0, n0] 44, .blk (b1 + 1) [iw 7, iw 0, iw 0, iw 0, n0, s0, sl b2 0 1 1] 44] rfl ?_
  intro H3 le4 pf5
  exact Ok.ret1c le4 [.K 1 0, .K 1 1, .K 1 2, .K 1 3, .K 1 4, .K 1 5, .K 1 6] (.agg #[iw 7, iw 0, iw 0, iw 0, n0, s0, sl b2 0 1 1]) [b1 + 1, b1 + 1, b1 + 1, b1 + 1, b1 + 1, b1 + 1, b1 + 1] rfl (by kernel_rfl) ⟨b2, rfl, pf5⟩
set_option maxRecDepth 100000 in
theorem x7_55 (H : Snap) : Does Tryd.prog 7 [.agg #[iw 1, iw 1, iw 17, iw 33, n0, s0, n0], .agg #[iw 1, iw 1, iw 17, iw 33, n0, s0, n0]] H [] (fun v H' kp => v = bT) := by
  refine Does.of Tryd.func7 rfl rfl rfl rfl (fun w0 H0 kx => ?_)
  refine Ok.seq ?_
  refine Ok.reg ?_
  refine Ok.seg (j := 3) (fun b1 => [(2, pt b1 0), (3, pt (b1 + 1) 0), (4, bF)]) (fun b1 => [.blk b1 [iw 1, iw 1, iw 17, iw 33, n0, s0, n0] 44, .blk (b1 + 1) [iw 1, iw 1, iw 17, iw 33, n0, s0, n0] 44]) (fun b1 => []) (fun b1 => []) [.g [.N], .g [.N], .g []] [2, 3, 4] rfl (fun b1 => by kernel_rfl) (fun b1 => trivial) (fun b1 => ?_)
  refine Ok.segEnd rfl ?_
  refine Ok.thenN ?_
  refine Ok.seq ?_
  refine Ok.seq ?_
  refine Ok.reg ?_
  refine Ok.seg (j := 38) (fun _ => [(2, pt b1 0), (3, pt (b1 + 1) 0), (4, bF), (39, bF), (41, n0), (43, n0)]) (fun _ => [.blk b1 [iw 1, iw 1, iw 17, iw 33, n0, s0, n0] 44, .blk (b1 + 1) [iw 1, iw 1, iw 17, iw 33, n0, s0, n0] 44]) (fun _ => [b1, b1 + 1, b1, b1 + 1, b1, b1 + 1, b1, b1 + 1, b1, b1 + 1, b1, b1 + 1]) (fun _ => []) [.g [], .g [.K 0 0], .g [], .g [.K 1 0], .g [], .g [], .g [], .g [.K 0 1], .g [], .g [.K 1 1], .g [], .g [], .g [], .g [], .g [.K 0 2], .g [], .g [.K 1 2], .g [], .g [], .g [], .g [], .g [.K 0 3], .g [], .g [.K 1 3], .g [], .g [], .g [], .g [], .g [.K 0 5], .g [], .g [.K 1 5], .g [], .g [], .g [], .g [], .g [.K 0 4], .g [], .g [.K 1 4]] [2, 3, 4, 39, 41, 43] rfl (fun _ => by kernel_rfl) (fun _ => trivial) (fun _ => ?_)
  refine Ok.eff (j := 39) rfl (Eff.call0 (d := some 44) (by kernel_rfl) (x16_43 H) ?_)
  rintro v3 H4 k6 le5 rfl
  refine Ok.dropL ?_
  refine Ok.seg (j := 50) (fun _ => [(2, pt b1 0), (3, pt (b1 + 1) 0), (4, bF), (55, bF)]) (fun _ => [.blk b1 [iw 1, iw 1, iw 17, iw 33, n0, s0, n0] 44, .blk (b1 + 1) [iw 1, iw 1, iw 17, iw 33, n0, s0, n0] 44]) (fun _ => [b1, b1 + 1]) (fun _ => []) [.g [], .g [], .g [], .g [], .g [.K 0 6], .g [], .g [], .g [.K 1 6], .g [], .g [], .g []] [2, 3, 4, 55] rfl (fun _ => by kernel_rfl) (fun _ => trivial) (fun _ => ?_)
  refine Ok.segEnd rfl ?_
  refine Ok.thenN ?_
  refine Ok.condF rfl ?_
  refine Ok.skip_ ?_
  refine Ok.thenN ?_
  refine Ok.seq ?_
  refine Ok.seq ?_
  refine Ok.reg ?_
  refine Ok.seg (j := 1) (fun _ => [(2, pt b1 0), (3, pt (b1 + 1) 0), (4, bF), (5, iw 0)]) (fun _ => [.blk b1 [iw 1, iw 1, iw 17, iw 33, n0, s0, n0] 44, .blk (b1 + 1) [iw 1, iw 1, iw 17, iw 33, n0, s0, n0] 44]) (fun _ => []) (fun _ => []) [.g []] [2, 3, 4, 5] rfl (fun _ => by kernel_rfl) (fun _ => trivial) (fun _ => ?_)
  refine Ok.segEnd rfl ?_
  refine Ok.thenN ?_
  refine Ok.blk ?_
  refine Ok.loopN 1 ?_
  refine Ok.round ?_
  refine Ok.seq ?_
  refine Ok.seq ?_
  refine Ok.reg ?_
  refine Ok.seg (j := 5) (fun _ => [(2, pt b1 0), (3, pt (b1 + 1) 0), (4, bF), (5, iw 0), (56, iw 0), (57, pt b1 6), (58, n0), (59, iw 0), (60, bF)]) (fun _ => [.blk b1 [iw 1, iw 1, iw 17, iw 33, n0, s0, n0] 44, .blk (b1 + 1) [iw 1, iw 1, iw 17, iw 33, n0, s0, n0] 44]) (fun _ => [b1]) (fun _ => []) [.g [], .g [], .g [.K 0 6], .g [], .g []] [2, 3, 4, 5, 56, 57, 58, 59, 60] rfl (fun _ => by kernel_rfl) (fun _ => trivial) (fun _ => ?_)
  refine Ok.segEnd rfl ?_
  refine Ok.thenN ?_
  refine Ok.condF rfl ?_
  refine Ok.exit_ ?_
  refine Ok.thenE ?_
  refine Ok.thenE ?_
  refine Ok.blkE ?_
  refine Ok.thenN ?_
  refine Ok.seq ?_
  refine Ok.reg ?_
  refine Ok.seg (j := 1) (fun _ => [(4, bT)]) (fun _ => [.blk b1 [iw 1, iw 1, iw 17, iw 33, n0, s0, n0] 44, .blk (b1 + 1) [iw 1, iw 1, iw 17, iw 33, n0, s0, n0] 44]) (fun _ => []) (fun _ => []) [.g []] [4] rfl (fun _ => by kernel_rfl) (fun _ => trivial) (fun _ => ?_)
  refine Ok.mask [false, false] [] rfl ?_
  refine Ok.segEnd rfl ?_
  refine Ok.thenN ?_
  refine Ok.ret_ ?_
  exact Ok.ret1 (v := bT) le5 rfl rfl rfl
set_option maxRecDepth 100000 in
theorem x7_54 (H : Snap) (p0 p1 : Nat) (hp0 : Pre H p0 [iw 1, iw 1, iw 17, iw 33, n0, s0, n0]) (hp1 : Pre H p1 [iw 1, iw 1, iw 17, iw 33, n0, s0, n0]) : Does Tryd.prog 7 [.agg #[iw 7, iw 0, iw 0, iw 0, n0, s0, sl p0 0 1 1], .agg #[iw 7, iw 0, iw 0, iw 0, n0, s0, sl p1 0 1 1]] H [] (fun v H' kp => v = bT) := by
  refine Does.of Tryd.func7 rfl rfl rfl rfl (fun w0 H0 kx => ?_)
  refine Ok.seq ?_
  refine Ok.reg ?_
  refine Ok.seg (j := 3) (fun b1 => [(2, pt b1 0), (3, pt (b1 + 1) 0), (4, bF)]) (fun b1 => [.blk b1 [iw 7, iw 0, iw 0, iw 0, n0, s0, sl p0 0 1 1] 44, .blk (b1 + 1) [iw 7, iw 0, iw 0, iw 0, n0, s0, sl p1 0 1 1] 44]) (fun b1 => []) (fun b1 => []) [.g [.N], .g [.N], .g []] [2, 3, 4] rfl (fun b1 => by kernel_rfl) (fun b1 => trivial) (fun b1 => ?_)
  refine Ok.segEnd rfl ?_
  refine Ok.thenN ?_
  refine Ok.seq ?_
  refine Ok.seq ?_
  refine Ok.reg ?_
  refine Ok.seg (j := 38) (fun _ => [(2, pt b1 0), (3, pt (b1 + 1) 0), (4, bF), (39, bF), (41, n0), (43, n0)]) (fun _ => [.blk b1 [iw 7, iw 0, iw 0, iw 0, n0, s0, sl p0 0 1 1] 44, .blk (b1 + 1) [iw 7, iw 0, iw 0, iw 0, n0, s0, sl p1 0 1 1] 44]) (fun _ => [b1, b1 + 1, b1, b1 + 1, b1, b1 + 1, b1, b1 + 1, b1, b1 + 1, b1, b1 + 1]) (fun _ => []) [.g [], .g [.K 0 0], .g [], .g [.K 1 0], .g [], .g [], .g [], .g [.K 0 1], .g [], .g [.K 1 1], .g [], .g [], .g [], .g [], .g [.K 0 2], .g [], .g [.K 1 2], .g [], .g [], .g [], .g [], .g [.K 0 3], .g [], .g [.K 1 3], .g [], .g [], .g [], .g [], .g [.K 0 5], .g [], .g [.K 1 5], .g [], .g [], .g [], .g [], .g [.K 0 4], .g [], .g [.K 1 4]] [2, 3, 4, 39, 41, 43] rfl (fun _ => by kernel_rfl) (fun _ => trivial) (fun _ => ?_)
  refine Ok.eff (j := 39) rfl (Eff.call0 (d := some 44) (by kernel_rfl) (x16_43 H) ?_)
  rintro v3 H4 k6 le5 rfl
  refine Ok.dropL ?_
  refine Ok.seg (j := 50) (fun _ => [(2, pt b1 0), (3, pt (b1 + 1) 0), (4, bF), (55, bF)]) (fun _ => [.blk b1 [iw 7, iw 0, iw 0, iw 0, n0, s0, sl p0 0 1 1] 44, .blk (b1 + 1) [iw 7, iw 0, iw 0, iw 0, n0, s0, sl p1 0 1 1] 44]) (fun _ => [b1, b1 + 1]) (fun _ => []) [.g [], .g [], .g [], .g [], .g [.K 0 6], .g [], .g [], .g [.K 1 6], .g [], .g [], .g []] [2, 3, 4, 55] rfl (fun _ => by kernel_rfl) (fun _ => trivial) (fun _ => ?_)
  refine Ok.segEnd rfl ?_
  refine Ok.thenN ?_
  refine Ok.condF rfl ?_
  refine Ok.skip_ ?_
  refine Ok.thenN ?_
  refine Ok.seq ?_
  refine Ok.seq ?_
  refine Ok.reg ?_
  refine Ok.seg (j := 1) (fun _ => [(2, pt b1 0), (3, pt (b1 + 1) 0), (4, bF), (5, iw 0)]) (fun _ => [.blk b1 [iw 7, iw 0, iw 0, iw 0, n0, s0, sl p0 0 1 1] 44, .blk (b1 + 1) [iw 7, iw 0, iw 0, iw 0, n0, s0, sl p1 0 1 1] 44]) (fun _ => []) (fun _ => []) [.g []] [2, 3, 4, 5] rfl (fun _ => by kernel_rfl) (fun _ => trivial) (fun _ => ?_)
  refine Ok.segEnd rfl ?_
  refine Ok.thenN ?_
  refine Ok.blk ?_
  refine Ok.loopN 2 ?_
  refine Ok.round ?_
  refine Ok.seq ?_
  refine Ok.seq ?_
  refine Ok.reg ?_
  refine Ok.seg (j := 5) (fun _ => [(2, pt b1 0), (3, pt (b1 + 1) 0), (4, bF), (5, iw 0), (56, iw 0), (57, pt b1 6), (58, sl p0 0 1 1), (59, iw 1), (60, bT)]) (fun _ => [.blk b1 [iw 7, iw 0, iw 0, iw 0, n0, s0, sl p0 0 1 1] 44, .blk (b1 + 1) [iw 7, iw 0, iw 0, iw 0, n0, s0, sl p1 0 1 1] 44]) (fun _ => [b1]) (fun _ => []) [.g [], .g [], .g [.K 0 6], .g [], .g []] [2, 3, 4, 5, 56, 57, 58, 59, 60] rfl (fun _ => by kernel_rfl) (fun _ => trivial) (fun _ => ?_)
  refine Ok.segEnd rfl ?_
  refine Ok.thenN ?_
  refine Ok.condT rfl ?_
  refine Ok.skip_ ?_
  refine Ok.thenN ?_
  refine Ok.seq ?_
  refine Ok.blk ?_
  refine Ok.seq ?_
  refine Ok.start (idx := [0, 1]) [] [.blk b1 [iw 7, iw 0, iw 0, iw 0, n0, s0, sl p0 0 1 1] 44, .blk (b1 + 1) [iw 7, iw 0, iw 0, iw 0, n0, s0, sl p1 0 1 1] 44] (by kernel_rfl) rfl rfl rfl ?_
  refine Ok.take (fuel' := 2) (l' := [true, true, true, true, true, true, true, true, true, true, false, false]) (qs := [(0, .g []), (1, .g [.K 0 6]), (2, .g []), (3, .g []), (4, .g [.X (iw 1), .X (iw 1), .X (iw 17), .X (iw 33), .X (n0), .X (s0), .X (n0)]), (5, .g []), (6, .g [.K 1 6]), (7, .g []), (8, .g []), (9, .g [.X (iw 1), .X (iw 1), .X (iw 17), .X (iw 33), .X (n0), .X (s0), .X (n0)])]) [(2, pt b1 0), (3, pt (b1 + 1) 0), (4, bF), (5, iw 0), (56, iw 0), (57, pt b1 6), (58, sl p0 0 1 1), (59, iw 1), (60, bT), (63, pt b1 6), (64, sl p0 0 1 1), (65, iw 0), (66, pt p0 0), (67, .agg #[iw 1, iw 1, iw 17, iw 33, n0, s0, n0]), (68, pt (b1 + 1) 6), (69, sl p1 0 1 1), (70, iw 0), (71, pt p1 0), (72, .agg #[iw 1, iw 1, iw 17, iw 33, n0, s0, n0])] [b1, b1 + 1] [HasCell H4 ⟨p0, 0, none⟩ (iw 1), HasCell H4 ⟨p0, 1, none⟩ (iw 1), HasCell H4 ⟨p0, 2, none⟩ (iw 17), HasCell H4 ⟨p0, 3, none⟩ (iw 33), HasCell H4 ⟨p0, 4, none⟩ (n0), HasCell H4 ⟨p0, 5, none⟩ (s0), HasCell H4 ⟨p0, 6, none⟩ (n0), HasCell H4 ⟨p1, 0, none⟩ (iw 1), HasCell H4 ⟨p1, 1, none⟩ (iw 1), HasCell H4 ⟨p1, 2, none⟩ (iw 17), HasCell H4 ⟨p1, 3, none⟩ (iw 33), HasCell H4 ⟨p1, 4, none⟩ (n0), HasCell H4 ⟨p1, 5, none⟩ (s0), HasCell H4 ⟨p1, 6, none⟩ (n0)] [2, 3, 4, 5, 56, 57, 58, 59, 60, 63, 64, 65, 66, 67, 68, 69, 70, 71, 72] (by intro c a w d v h; cases d <;> exact h) (by kernel_rfl) rfl ⟨Pre.cell (Pre.mono le5 hp0) 0 rfl, Pre.cell (Pre.mono le5 hp0) 1 rfl, Pre.cell (Pre.mono le5 hp0) 2 rfl, Pre.cell (Pre.mono le5 hp0) 3 rfl, Pre.cell (Pre.mono le5 hp0) 4 rfl, Pre.cell (Pre.mono le5 hp0) 5 rfl, Pre.cell (Pre.mono le5 hp0) 6 rfl, Pre.cell (Pre.mono le5 hp1) 0 rfl, Pre.cell (Pre.mono le5 hp1) 1 rfl, Pre.cell (Pre.mono le5 hp1) 2 rfl, Pre.cell (Pre.mono le5 hp1) 3 rfl, Pre.cell (Pre.mono le5 hp1) 4 rfl, Pre.cell (Pre.mono le5 hp1) 5 rfl, Pre.cell (Pre.mono le5 hp1) 6 rfl, trivial⟩ ?_
  refine Ok.one (i := 10) (fuel' := 1) (l' := [true, true, true, true, true, true, true, true, true, true, true, false]) (by kernel_rfl) rfl rfl (Eff.call0 (d := some 73) (by kernel_rfl) (x7_55 H4) ?_)
  rintro v10 H11 k13 le12 rfl
  refine Ok.dropL ?_
  refine Ok.withS (idx := [0, 1]) le12 rfl ?_
  refine Ok.take (fuel' := 0) (l' := [true, true, true, true, true, true, true, true, true, true, true, true]) (qs := [(11, .g [])]) [(2, pt b1 0), (3, pt (b1 + 1) 0), (4, bF), (5, iw 0), (56, iw 0), (57, pt b1 6), (58, sl p0 0 1 1), (59, iw 1), (60, bT), (63, pt b1 6), (64, sl p0 0 1 1), (65, iw 0), (66, pt p0 0), (67, .agg #[iw 1, iw 1, iw 17, iw 33, n0, s0, n0]), (68, pt (b1 + 1) 6), (69, sl p1 0 1 1), (70, iw 0), (71, pt p1 0), (72, .agg #[iw 1, iw 1, iw 17, iw 33, n0, s0, n0]), (73, bT), (74, bF)] [] [] [2, 3, 4, 5, 56, 57, 58, 59, 60, 63, 64, 65, 66, 67, 68, 69, 70, 71, 72, 73, 74] (by intro c a w d v h; cases d <;> exact h) (by kernel_rfl) rfl trivial ?_
  refine Ok.done (by kernel_rfl) ?_
  refine Ok.thenN ?_
  refine Ok.condF rfl ?_
  refine Ok.skip_ ?_
  refine Ok.blkN ?_
  refine Ok.thenN ?_
  refine Ok.reg ?_
  refine Ok.seg (j := 3) (fun _ => [(2, pt b1 0), (3, pt (b1 + 1) 0), (4, bF), (5, iw 1), (56, iw 0), (57, pt b1 6), (58, sl p0 0 1 1), (59, iw 1), (60, bT), (61, iw 0), (62, iw 1), (63, pt b1 6), (64, sl p0 0 1 1), (65, iw 0), (66, pt p0 0), (67, .agg #[iw 1, iw 1, iw 17, iw 33, n0, s0, n0]), (68, pt (b1 + 1) 6), (69, sl p1 0 1 1), (70, iw 0), (71, pt p1 0), (72, .agg #[iw 1, iw 1, iw 17, iw 33, n0, s0, n0]), (73, bT), (74, bF)]) (fun _ => [.blk b1 [iw 7, iw 0, iw 0, iw 0, n0, s0, sl p0 0 1 1] 44, .blk (b1 + 1) [iw 7, iw 0, iw 0, iw 0, n0, s0, sl p1 0 1 1] 44]) (fun _ => []) (fun _ => []) [.g [], .g [], .g []] [2, 3, 4, 5, 56, 57, 58, 59, 60, 61, 62, 63, 64, 65, 66, 67, 68, 69, 70, 71, 72, 73, 74] rfl (fun _ => by kernel_rfl) (fun _ => trivial) (fun _ => ?_)
  refine Ok.segEnd rfl ?_
  refine Ok.thenN ?_
  refine Ok.round ?_
  refine Ok.seq ?_
  refine Ok.seq ?_
  refine Ok.reg ?_
  refine Ok.seg (j := 5) (fun _ => [(2, pt b1 0), (3, pt (b1 + 1) 0), (4, bF), (5, iw 1), (56, iw 1), (57, pt b1 6), (58, sl p0 0 1 1), (59, iw 1), (60, bF), (61, iw 0), (62, iw 1), (63, pt b1 6), (64, sl p0 0 1 1), (65, iw 0), (66, pt p0 0), (67, .agg #[iw 1, iw 1, iw 17, iw 33, n0, s0, n0]), (68, pt (b1 + 1) 6), (69, sl p1 0 1 1), (70, iw 0), (71, pt p1 0), (72, .agg #[iw 1, iw 1, iw 17, iw 33, n0, s0, n0]), (73, bT), (74, bF)]) (fun _ => [.blk b1 [iw 7, iw 0, iw 0, iw 0, n0, s0, sl p0 0 1 1] 44, .blk (b1 + 1) [iw 7, iw 0, iw 0, iw 0, n0, s0, sl p1 0 1 1] 44]) (fun _ => [b1]) (fun _ => []) [.g [], .g [], .g [.K 0 6], .g [], .g []] [2, 3, 4, 5, 56, 57, 58, 59, 60, 61, 62, 63, 64, 65, 66, 67, 68, 69, 70, 71, 72, 73, 74] rfl (fun _ => by kernel_rfl) (fun _ => trivial) (fun _ => ?_)
  refine Ok.segEnd rfl ?_
  refine Ok.thenN ?_
  refine Ok.condF rfl ?_
  refine Ok.exit_ ?_
  refine Ok.thenE ?_
  refine Ok.thenE ?_
  refine Ok.blkE ?_
  refine Ok.thenN ?_
  refine Ok.seq ?_
  refine Ok.reg ?_
  refine Ok.seg (j := 1) (fun _ => [(4, bT)]) (fun _ => [.blk b1 [iw 7, iw 0, iw 0, iw 0, n0, s0, sl p0 0 1 1] 44, .blk (b1 + 1) [iw 7, iw 0, iw 0, iw 0, n0, s0, sl p1 0 1 1] 44]) (fun _ => []) (fun _ => []) [.g []] [4] rfl (fun _ => by kernel_rfl) (fun _ => trivial) (fun _ => ?_)
  refine Ok.mask [false, false] [] rfl ?_
  refine Ok.segEnd rfl ?_
  refine Ok.thenN ?_
  refine Ok.ret_ ?_
  exact Ok.ret1 (v := bT) (SLe.trans le5 le12) rfl rfl rfl
set_option maxRecDepth 100000 in
theorem x9_56 (H : Snap) : Does Tryd.prog 9 [iw 1, iw 58] H [] (fun v H' kp => v = .agg #[iw 1, iw 1, iw 1, iw 58, n0, s0, n0]) := by
  refine Does.of Tryd.func9 rfl rfl rfl rfl (fun w0 H0 kx => ?_)
  refine Ok.seq ?_
  refine Ok.reg ?_
  refine Ok.seg (j := 1) (fun b1 => [(0, iw 1), (1, iw 58), (4, pt b1 0)]) (fun b1 => [.blk b1 [iw 0, iw 0, iw 0, iw 0, n0, s0, n0] 44]) (fun b1 => []) (fun b1 => []) [.g [.N]] [0, 1, 4] rfl (fun b1 => by kernel_rfl) (fun b1 => trivial) (fun b1 => ?_)
  refine Ok.segEnd rfl ?_
  refine Ok.thenN ?_
  refine Ok.seq ?_
  refine Ok.reg ?_
  refine Ok.seg (j := 4) (fun _ => [(4, pt b1 0)]) (fun _ => [.blk b1 [iw 1, iw 1, iw 1, iw 58, n0, s0, n0] 44]) (fun _ => [b1, b1, b1, b1, b1, b1, b1]) (fun _ => []) [.g [], .g [], .g [], .g [.K 0 0, .K 0 1, .K 0 2, .K 0 3, .K 0 4, .K 0 5, .K 0 6]] [4] rfl (fun _ => by kernel_rfl) (fun _ => trivial) (fun _ => ?_)
  refine Ok.segEnd rfl ?_
  refine Ok.thenN ?_
  refine Ok.ret_ ?_
  exact Ok.ret1c (SLe.refl _) [.K 0 0, .K 0 1, .K 0 2, .K 0 3, .K 0 4, .K 0 5, .K 0 6] (.agg #[iw 1, iw 1, iw 1, iw 58, n0, s0, n0]) [b1, b1, b1, b1, b1, b1, b1] rfl (by kernel_rfl) rfl
end Go.Proofs.YtldanodmjilfaaaDoor
