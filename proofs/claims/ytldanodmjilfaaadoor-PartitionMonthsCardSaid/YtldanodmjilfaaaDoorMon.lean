/- Contracts of functions at the arguments that the fixed examples meet: printed by a program of this claim's author. -/
import Derived.Test.YtldanodmjilfaaaDoorProg
import Derived.Test.YtldanodmjilfaaaDoorSxE
import Derived.Test.YtldanodmjilfaaaDoorSxM
set_option linter.unusedVariables false
set_option maxHeartbeats 4000000
namespace Go.Proofs.YtldanodmjilfaaaDoor
open Go Go.RowKit Sx
set_option maxRecDepth 100000 in
theorem m55_1 (H : Snap) (z0 : Int) : Does Tryd.prog 55 [iw z0] H [] (fun v H' kp => v = iw (monthZ z0)) := by
  refine Does.of Tryd.func55 rfl rfl rfl rfl (fun w0 H0 kx => ?_)
  refine Ok.seq ?_
  refine Ok.reg ?_
  refine Ok.seg (j := 1) (fun _ => [(0, iw z0), (2, iw 0)]) (fun _ => []) (fun _ => []) (fun _ => []) [.g []] [0, 2] rfl (fun _ => by kernel_rfl) (fun _ => trivial) (fun _ => ?_)
  refine Ok.segEnd rfl ?_
  refine Ok.thenN ?_
  refine Ok.seq ?_
  refine Ok.reg ?_
  refine Ok.seg (j := 4) (fun _ => [(0, iw (mC z0)), (2, iw 0)]) (fun _ => []) (fun _ => []) (fun _ => []) [.g [], .g [], .g [], .g []] [0, 2] rfl (fun _ => by kernel_rfl) (fun _ => trivial) (fun _ => ?_)
  refine Ok.segEnd rfl ?_
  refine Ok.thenN ?_
  refine Ok.seq ?_
  refine Ok.reg ?_
  refine Ok.seg (j := 3) (fun _ => [(0, iw (mN z0)), (2, iw 0)]) (fun _ => []) (fun _ => []) (fun _ => []) [.g [], .g [], .g []] [0, 2] rfl (fun _ => by kernel_rfl) (fun _ => trivial) (fun _ => ?_)
  refine Ok.segEnd rfl ?_
  refine Ok.thenN ?_
  refine Ok.seq ?_
  refine Ok.reg ?_
  refine Ok.seg (j := 3) (fun _ => [(0, iw (mN z0)), (2, iw 0), (3, iw (mE0 z0))]) (fun _ => []) (fun _ => []) (fun _ => []) [.g [], .g [], .g []] [0, 2, 3] rfl (fun _ => by kernel_rfl) (fun _ => trivial) (fun _ => ?_)
  refine Ok.segEnd rfl ?_
  refine Ok.thenN ?_
  refine Ok.seq ?_
  refine Ok.seq ?_
  refine Ok.reg ?_
  refine Ok.seg (j := 2) (fun _ => [(0, iw (mN z0)), (2, iw 0), (3, iw (mE0 z0)), (16, .bool (decide ((mN z0) < 0)))]) (fun _ => []) (fun _ => []) (fun _ => []) [.g [], .g []] [0, 2, 3, 16] rfl (fun _ => by kernel_rfl) (fun _ => trivial) (fun _ => ?_)
  refine Ok.segEnd rfl ?_
  refine Ok.thenN ?_
  refine Ok.cond (decide ((mN z0) < 0)) rfl (fun h6 => ?_) (fun h6 => ?_)
  · refine Ok.reg ?_
    refine Ok.seg (j := 4) (fun _ => [(0, iw (mN z0)), (2, iw 0), (3, iw (mE1 z0))]) (fun _ => []) (fun _ => []) (fun _ => []) [.g [], .g [], .g [], .g []] [0, 2, 3] rfl (fun _ => by kernel_rfl) (fun _ => trivial) (fun _ => ?_)
    refine Ok.segEnd rfl ?_
    refine Ok.thenN ?_
    refine Ok.seq ?_
    refine Ok.reg ?_
    refine Ok.seg (j := 5) (fun _ => [(2, iw 0), (3, iw (mE1 z0)), (4, iw (mDay z0 (mE1 z0)))]) (fun _ => []) (fun _ => []) (fun _ => []) [.g [], .g [], .g [], .g [], .g []] [2, 3, 4] rfl (fun _ => by kernel_rfl) (fun _ => trivial) (fun _ => ?_)
    refine Ok.segEnd rfl ?_
    refine Ok.thenN ?_
    refine Ok.seq ?_
    refine Ok.reg ?_
    refine Ok.seg (j := 12) (fun _ => [(2, iw 0), (3, iw (mE1 z0)), (4, iw (mDay z0 (mE1 z0))), (5, iw (mYear (mDay z0 (mE1 z0))))]) (fun _ => []) (fun _ => []) (fun _ => []) [.g [], .g [], .g [], .g [], .g [], .g [], .g [], .g [], .g [], .g [], .g [], .g []] [2, 3, 4, 5] rfl (fun _ => by kernel_rfl) (fun _ => trivial) (fun _ => ?_)
    refine Ok.segEnd rfl ?_
    refine Ok.thenN ?_
    refine Ok.seq ?_
    refine Ok.reg ?_
    refine Ok.seg (j := 11) (fun _ => [(2, iw 0), (3, iw (mE1 z0)), (5, iw (mYear (mDay z0 (mE1 z0)))), (6, iw (mRest (mDay z0 (mE1 z0)) (mYear (mDay z0 (mE1 z0)))))]) (fun _ => []) (fun _ => []) (fun _ => []) [.g [], .g [], .g [], .g [], .g [], .g [], .g [], .g [], .g [], .g [], .g []] [2, 3, 5, 6] rfl (fun _ => by kernel_rfl) (fun _ => trivial) (fun _ => ?_)
    refine Ok.segEnd rfl ?_
    refine Ok.thenN ?_
    refine Ok.seq ?_
    refine Ok.reg ?_
    refine Ok.seg (j := 5) (fun _ => [(2, iw 0), (3, iw (mE1 z0)), (5, iw (mYear (mDay z0 (mE1 z0)))), (7, iw (mMon (mRest (mDay z0 (mE1 z0)) (mYear (mDay z0 (mE1 z0))))))]) (fun _ => []) (fun _ => []) (fun _ => []) [.g [], .g [], .g [], .g [], .g []] [2, 3, 5, 7] rfl (fun _ => by kernel_rfl) (fun _ => trivial) (fun _ => ?_)
    refine Ok.segEnd rfl ?_
    refine Ok.thenN ?_
    refine Ok.seq ?_
    refine Ok.reg ?_
    refine Ok.seg (j := 10) (fun _ => [(2, iw (mOut (mE1 z0) (mYear (mDay z0 (mE1 z0))) (mMon (mRest (mDay z0 (mE1 z0)) (mYear (mDay z0 (mE1 z0)))))))]) (fun _ => []) (fun _ => []) (fun _ => []) [.g [], .g [], .g [], .g [], .g [], .g [], .g [], .g [], .g [], .g []] [2] rfl (fun _ => by kernel_rfl) (fun _ => trivial) (fun _ => ?_)
    refine Ok.segEnd rfl ?_
    refine Ok.thenN ?_
    refine Ok.ret_ ?_
    exact Ok.ret1 (v := iw (mOut (mE1 z0) (mYear (mDay z0 (mE1 z0))) (mMon (mRest (mDay z0 (mE1 z0)) (mYear (mDay z0 (mE1 z0))))))) (SLe.refl _) rfl rfl (by rw [monthZ_neg (of_decide_eq_true h6)])
  · refine Ok.skip_ ?_
    refine Ok.thenN ?_
    refine Ok.seq ?_
    refine Ok.reg ?_
    refine Ok.seg (j := 5) (fun _ => [(2, iw 0), (3, iw (mE0 z0)), (4, iw (mDay z0 (mE0 z0)))]) (fun _ => []) (fun _ => []) (fun _ => []) [.g [], .g [], .g [], .g [], .g []] [2, 3, 4] rfl (fun _ => by kernel_rfl) (fun _ => trivial) (fun _ => ?_)
    refine Ok.segEnd rfl ?_
    refine Ok.thenN ?_
    refine Ok.seq ?_
    refine Ok.reg ?_
    refine Ok.seg (j := 12) (fun _ => [(2, iw 0), (3, iw (mE0 z0)), (4, iw (mDay z0 (mE0 z0))), (5, iw (mYear (mDay z0 (mE0 z0))))]) (fun _ => []) (fun _ => []) (fun _ => []) [.g [], .g [], .g [], .g [], .g [], .g [], .g [], .g [], .g [], .g [], .g [], .g []] [2, 3, 4, 5] rfl (fun _ => by kernel_rfl) (fun _ => trivial) (fun _ => ?_)
    refine Ok.segEnd rfl ?_
    refine Ok.thenN ?_
    refine Ok.seq ?_
    refine Ok.reg ?_
    refine Ok.seg (j := 11) (fun _ => [(2, iw 0), (3, iw (mE0 z0)), (5, iw (mYear (mDay z0 (mE0 z0)))), (6, iw (mRest (mDay z0 (mE0 z0)) (mYear (mDay z0 (mE0 z0)))))]) (fun _ => []) (fun _ => []) (fun _ => []) [.g [], .g [], .g [], .g [], .g [], .g [], .g [], .g [], .g [], .g [], .g []] [2, 3, 5, 6] rfl (fun _ => by kernel_rfl) (fun _ => trivial) (fun _ => ?_)
    refine Ok.segEnd rfl ?_
    refine Ok.thenN ?_
    refine Ok.seq ?_
    refine Ok.reg ?_
    refine Ok.seg (j := 5) (fun _ => [(2, iw 0), (3, iw (mE0 z0)), (5, iw (mYear (mDay z0 (mE0 z0)))), (7, iw (mMon (mRest (mDay z0 (mE0 z0)) (mYear (mDay z0 (mE0 z0))))))]) (fun _ => []) (fun _ => []) (fun _ => []) [.g [], .g [], .g [], .g [], .g []] [2, 3, 5, 7] rfl (fun _ => by kernel_rfl) (fun _ => trivial) (fun _ => ?_)
    refine Ok.segEnd rfl ?_
    refine Ok.thenN ?_
    refine Ok.seq ?_
    refine Ok.reg ?_
    refine Ok.seg (j := 10) (fun _ => [(2, iw (mOut (mE0 z0) (mYear (mDay z0 (mE0 z0))) (mMon (mRest (mDay z0 (mE0 z0)) (mYear (mDay z0 (mE0 z0)))))))]) (fun _ => []) (fun _ => []) (fun _ => []) [.g [], .g [], .g [], .g [], .g [], .g [], .g [], .g [], .g [], .g []] [2] rfl (fun _ => by kernel_rfl) (fun _ => trivial) (fun _ => ?_)
    refine Ok.segEnd rfl ?_
    refine Ok.thenN ?_
    refine Ok.ret_ ?_
    exact Ok.ret1 (v := iw (mOut (mE0 z0) (mYear (mDay z0 (mE0 z0))) (mMon (mRest (mDay z0 (mE0 z0)) (mYear (mDay z0 (mE0 z0))))))) (SLe.refl _) rfl rfl (by rw [monthZ_pos (of_decide_eq_false h6)])
set_option maxRecDepth 100000 in
theorem m6_2 (H : Snap) (z0 : Int) : Does Tryd.prog 6 [iw z0] H [] (fun v H' kp => ∃ r0 : Nat, v = .agg #[sl r0 0 1 1] ∧ Pre H' r0 [iw 1, bF, iw z0, s0]) := by
  refine Does.of Tryd.func6 rfl rfl rfl rfl (fun w0 H0 kx => ?_)
  refine Ok.seq ?_
  refine Ok.reg ?_
  refine Ok.seg (j := 1) (fun b1 => [(0, iw z0), (2, pt b1 0)]) (fun b1 => [.blk b1 [n0] 30]) (fun b1 => []) (fun b1 => []) [.g [.N]] [0, 2] rfl (fun b1 => by kernel_rfl) (fun b1 => trivial) (fun b1 => ?_)
  refine Ok.segEnd rfl ?_
  refine Ok.thenN ?_
  refine Ok.seq ?_
  refine Ok.reg ?_
  refine Ok.seg (j := 6) (fun b2 => [(2, pt b1 0)]) (fun b2 => [.blk b1 [sl b2 0 1 1] 30, .blk b2 [iw 1, bF, iw z0, s0] 39]) (fun b2 => [b1]) (fun b2 => []) [.g [], .g [], .g [], .g [.N], .g [], .g [.K 0 0]] [2] rfl (fun b2 => by kernel_rfl) (fun b2 => trivial) (fun b2 => ?_)
  refine Ok.segEnd rfl ?_
  refine Ok.thenN ?_
  refine Ok.ret_ ?_
  refine Ok.pubP 1 rfl [.blk b1 [sl b2 0 1 1] 30] rfl ?_
  intro H3 le4 pf5
  exact Ok.ret1c le4 [.K 0 0] (.agg #[sl b2 0 1 1]) [b1] rfl (by kernel_rfl) ⟨b2, rfl, pf5⟩
set_option maxRecDepth 100000 in
theorem m30_5 (H : Snap) (p0 : Nat) (z0 : Int) (hp0 : Pre H p0 [iw 1, bF, iw z0, s0]) : Does Tryd.prog 30 [.agg #[sl p0 0 1 1], iw 1] H [] (fun v H' kp => v = .agg #[bF, iw z0, s0]) := by
  refine Does.of Tryd.func30 rfl rfl rfl rfl (fun w0 H0 kx => ?_)
  refine Ok.seq ?_
  refine Ok.reg ?_
  refine Ok.seg (j := 2) (fun b1 => [(1, iw 1), (2, pt b1 0), (4, pt (b1 + 1) 0)]) (fun b1 => [.blk b1 [sl p0 0 1 1] 30, .blk (b1 + 1) [bF, iw 0, s0] 26]) (fun b1 => []) (fun b1 => []) [.g [.N], .g [.N]] [1, 2, 4] rfl (fun b1 => by kernel_rfl) (fun b1 => trivial) (fun b1 => ?_)
  refine Ok.segEnd rfl ?_
  refine Ok.thenN ?_
  refine Ok.seq ?_
  refine Ok.seq ?_
  refine Ok.reg ?_
  refine Ok.seg (j := 4) (fun _ => [(1, iw 1), (4, pt (b1 + 1) 0), (8, sl p0 0 1 1), (9, iw 1), (10, iw 0)]) (fun _ => [.blk b1 [sl p0 0 1 1] 30, .blk (b1 + 1) [bF, iw 0, s0] 26]) (fun _ => [b1]) (fun _ => []) [.g [], .g [.K 0 0], .g [], .g []] [1, 4, 8, 9, 10] rfl (fun _ => by kernel_rfl) (fun _ => trivial) (fun _ => ?_)
  refine Ok.segEnd rfl ?_
  refine Ok.thenN ?_
  refine Ok.blk ?_
  refine Ok.loopN 1 ?_
  refine Ok.round ?_
  refine Ok.seq ?_
  refine Ok.reg ?_
  refine Ok.seg (j := 1) (fun _ => [(1, iw 1), (4, pt (b1 + 1) 0), (8, sl p0 0 1 1), (9, iw 1), (10, iw 0), (11, bT)]) (fun _ => [.blk b1 [sl p0 0 1 1] 30, .blk (b1 + 1) [bF, iw 0, s0] 26]) (fun _ => []) (fun _ => []) [.g []] [1, 4, 8, 9, 10, 11] rfl (fun _ => by kernel_rfl) (fun _ => trivial) (fun _ => ?_)
  refine Ok.segEnd rfl ?_
  refine Ok.thenN ?_
  refine Ok.seq ?_
  refine Ok.condT rfl ?_
  refine Ok.skip_ ?_
  refine Ok.thenN ?_
  refine Ok.seq ?_
  refine Ok.blk ?_
  refine Ok.seq ?_
  refine Ok.reg ?_
  refine Ok.seg (j := 4) (fun b4 => [(1, iw 1), (4, pt (b1 + 1) 0), (6, pt b4 0), (8, sl p0 0 1 1), (9, iw 1), (10, iw 0), (11, bT), (12, pt p0 0), (13, .agg #[iw 1, bF, iw z0, s0])]) (fun b4 => [.blk b1 [sl p0 0 1 1] 30, .blk (b1 + 1) [bF, iw 0, s0] 26, .blk b4 [iw 1, bF, iw z0, s0] 39]) (fun b4 => [b4, b4, b4, b4]) (fun b4 => [HasCell H ⟨p0, 0, none⟩ (iw 1), HasCell H ⟨p0, 1, none⟩ (bF), HasCell H ⟨p0, 2, none⟩ (iw z0), HasCell H ⟨p0, 3, none⟩ (s0)]) [.g [], .g [.X (iw 1), .X (bF), .X (iw z0), .X (s0)], .g [.N], .g [.K 2 0, .K 2 1, .K 2 2, .K 2 3]] [1, 4, 6, 8, 9, 10, 11, 12, 13] rfl (fun b4 => by kernel_rfl) (fun b4 => ⟨Pre.cell hp0 0 rfl, Pre.cell hp0 1 rfl, Pre.cell hp0 2 rfl, Pre.cell hp0 3 rfl, trivial⟩) (fun b4 => ?_)
  refine Ok.segEnd rfl ?_
  refine Ok.thenN ?_
  refine Ok.seq ?_
  refine Ok.reg ?_
  refine Ok.seg (j := 4) (fun _ => [(1, iw 1), (4, pt (b1 + 1) 0), (6, pt b4 0), (8, sl p0 0 1 1), (9, iw 1), (10, iw 0), (11, bT), (12, pt p0 0), (13, .agg #[iw 1, bF, iw z0, s0]), (14, pt b4 0), (15, iw 1), (16, iw 1), (17, bT)]) (fun _ => [.blk b1 [sl p0 0 1 1] 30, .blk (b1 + 1) [bF, iw 0, s0] 26, .blk b4 [iw 1, bF, iw z0, s0] 39]) (fun _ => [b4]) (fun _ => []) [.g [], .g [.K 2 0], .g [], .g []] [1, 4, 6, 8, 9, 10, 11, 12, 13, 14, 15, 16, 17] rfl (fun _ => by kernel_rfl) (fun _ => trivial) (fun _ => ?_)
  refine Ok.segEnd rfl ?_
  refine Ok.thenN ?_
  refine Ok.condT rfl ?_
  refine Ok.seq ?_
  refine Ok.reg ?_
  refine Ok.seg (j := 3) (fun _ => [(1, iw 1), (4, pt (b1 + 1) 0), (6, pt b4 0), (8, sl p0 0 1 1), (9, iw 1), (10, iw 0), (11, bT), (12, pt p0 0), (13, .agg #[iw 1, bF, iw z0, s0]), (14, pt b4 0), (15, iw 1), (16, iw 1), (17, bT), (18, pt b4 1), (19, .agg #[bF, iw z0, s0])]) (fun _ => [.blk b1 [sl p0 0 1 1] 30, .blk (b1 + 1) [bF, iw z0, s0] 26, .blk b4 [iw 1, bF, iw z0, s0] 39]) (fun _ => [b4, b4, b4, b1 + 1, b1 + 1, b1 + 1]) (fun _ => []) [.g [], .g [.K 2 1, .K 2 2, .K 2 3], .g [.K 1 0, .K 1 1, .K 1 2]] [1, 4, 6, 8, 9, 10, 11, 12, 13, 14, 15, 16, 17, 18, 19] rfl (fun _ => by kernel_rfl) (fun _ => trivial) (fun _ => ?_)
  refine Ok.segEnd rfl ?_
  refine Ok.thenN ?_
  refine Ok.ret_ ?_
  refine Ok.blkR ?_
  refine Ok.thenR ?_
  refine Ok.thenR ?_
  refine Ok.blkR ?_
  refine Ok.thenR ?_
  exact Ok.ret1c (SLe.refl _) [.K 1 0, .K 1 1, .K 1 2] (.agg #[bF, iw z0, s0]) [b1 + 1, b1 + 1, b1 + 1] rfl (by kernel_rfl) rfl
set_option maxRecDepth 100000 in
theorem m29_6 (H : Snap) (z0 : Int) : Does Tryd.prog 29 [.agg #[iw 5, iw 1, iw 0], .agg #[bF, iw z0, s0]] H [] (fun v H' kp => v = .agg #[bF, iw (monthZ z0), s0]) := by
  refine Does.of Tryd.func29 rfl rfl rfl rfl (fun w0 H0 kx => ?_)
  refine Ok.seq ?_
  refine Ok.reg ?_
  refine Ok.seg (j := 3) (fun b1 => [(2, pt b1 0), (3, pt (b1 + 1) 0), (4, pt (b1 + 1 + 1) 0)]) (fun b1 => [.blk b1 [iw 5, iw 1, iw 0] 24, .blk (b1 + 1) [bF, iw z0, s0] 26, .blk (b1 + 1 + 1) [bF, iw 0, s0] 26]) (fun b1 => []) (fun b1 => []) [.g [.N], .g [.N], .g [.N]] [2, 3, 4] rfl (fun b1 => by kernel_rfl) (fun b1 => trivial) (fun b1 => ?_)
  refine Ok.segEnd rfl ?_
  refine Ok.thenN ?_
  refine Ok.seq ?_
  refine Ok.seq ?_
  refine Ok.reg ?_
  refine Ok.seg (j := 2) (fun _ => [(2, pt b1 0), (3, pt (b1 + 1) 0), (4, pt (b1 + 1 + 1) 0), (10, bF)]) (fun _ => [.blk b1 [iw 5, iw 1, iw 0] 24, .blk (b1 + 1) [bF, iw z0, s0] 26, .blk (b1 + 1 + 1) [bF, iw 0, s0] 26]) (fun _ => [b1 + 1]) (fun _ => []) [.g [], .g [.K 1 0]] [2, 3, 4, 10] rfl (fun _ => by kernel_rfl) (fun _ => trivial) (fun _ => ?_)
  refine Ok.segEnd rfl ?_
  refine Ok.thenN ?_
  refine Ok.condF rfl ?_
  refine Ok.skip_ ?_
  refine Ok.thenN ?_
  refine Ok.seq ?_
  refine Ok.seq ?_
  refine Ok.reg ?_
  refine Ok.seg (j := 2) (fun _ => [(2, pt b1 0), (3, pt (b1 + 1) 0), (4, pt (b1 + 1 + 1) 0), (13, iw 5)]) (fun _ => [.blk b1 [iw 5, iw 1, iw 0] 24, .blk (b1 + 1) [bF, iw z0, s0] 26, .blk (b1 + 1 + 1) [bF, iw 0, s0] 26]) (fun _ => [b1]) (fun _ => []) [.g [], .g [.K 0 0]] [2, 3, 4, 13] rfl (fun _ => by kernel_rfl) (fun _ => trivial) (fun _ => ?_)
  refine Ok.segEnd rfl ?_
  refine Ok.thenN ?_
  refine Ok.blk ?_
  refine Ok.seq ?_
  refine Ok.reg ?_
  refine Ok.seg (j := 2) (fun _ => [(2, pt b1 0), (3, pt (b1 + 1) 0), (4, pt (b1 + 1 + 1) 0), (13, iw 5), (14, bF)]) (fun _ => [.blk b1 [iw 5, iw 1, iw 0] 24, .blk (b1 + 1) [bF, iw z0, s0] 26, .blk (b1 + 1 + 1) [bF, iw 0, s0] 26]) (fun _ => []) (fun _ => []) [.g [], .g []] [2, 3, 4, 13, 14] rfl (fun _ => by kernel_rfl) (fun _ => trivial) (fun _ => ?_)
  refine Ok.segEnd rfl ?_
  refine Ok.thenN ?_
  refine Ok.condF rfl ?_
  refine Ok.seq ?_
  refine Ok.reg ?_
  refine Ok.seg (j := 2) (fun _ => [(2, pt b1 0), (3, pt (b1 + 1) 0), (4, pt (b1 + 1 + 1) 0), (13, iw 5), (45, bF)]) (fun _ => [.blk b1 [iw 5, iw 1, iw 0] 24, .blk (b1 + 1) [bF, iw z0, s0] 26, .blk (b1 + 1 + 1) [bF, iw 0, s0] 26]) (fun _ => []) (fun _ => []) [.g [], .g []] [2, 3, 4, 13, 45] rfl (fun _ => by kernel_rfl) (fun _ => trivial) (fun _ => ?_)
  refine Ok.segEnd rfl ?_
  refine Ok.thenN ?_
  refine Ok.condF rfl ?_
  refine Ok.seq ?_
  refine Ok.reg ?_
  refine Ok.seg (j := 2) (fun _ => [(3, pt (b1 + 1) 0), (4, pt (b1 + 1 + 1) 0), (62, bT)]) (fun _ => [.blk b1 [iw 5, iw 1, iw 0] 24, .blk (b1 + 1) [bF, iw z0, s0] 26, .blk (b1 + 1 + 1) [bF, iw 0, s0] 26]) (fun _ => []) (fun _ => []) [.g [], .g []] [3, 4, 62] rfl (fun _ => by kernel_rfl) (fun _ => trivial) (fun _ => ?_)
  refine Ok.segEnd rfl ?_
  refine Ok.thenN ?_
  refine Ok.condT rfl ?_
  refine Ok.seq ?_
  refine Ok.reg ?_
  refine Ok.seg (j := 2) (fun _ => [(3, pt (b1 + 1) 0), (4, pt (b1 + 1 + 1) 0), (65, iw z0)]) (fun _ => [.blk b1 [iw 5, iw 1, iw 0] 24, .blk (b1 + 1) [bF, iw z0, s0] 26, .blk (b1 + 1 + 1) [bF, iw 0, s0] 26]) (fun _ => [b1 + 1]) (fun _ => []) [.g [], .g [.K 1 1]] [3, 4, 65] rfl (fun _ => by kernel_rfl) (fun _ => trivial) (fun _ => ?_)
  refine Ok.eff (j := 3) rfl (Eff.call0 (d := some 66) (by kernel_rfl) (m55_1 H z0) ?_)
  rintro v8 H9 k11 le10 rfl
  refine Ok.dropL ?_
  refine Ok.seg (j := 5) (fun _ => [(3, pt (b1 + 1) 0), (4, pt (b1 + 1 + 1) 0)]) (fun _ => [.blk b1 [iw 5, iw 1, iw 0] 24, .blk (b1 + 1) [bF, iw z0, s0] 26, .blk (b1 + 1 + 1) [bF, iw (monthZ z0), s0] 26]) (fun _ => [b1 + 1 + 1, b1 + 1 + 1, b1 + 1 + 1]) (fun _ => []) [.g [], .g [.K 2 0, .K 2 1, .K 2 2]] [3, 4] rfl (fun _ => by kernel_rfl) (fun _ => trivial) (fun _ => ?_)
  refine Ok.segEnd rfl ?_
  refine Ok.thenN ?_
  refine Ok.ret_ ?_
  refine Ok.blkR ?_
  refine Ok.thenR ?_
  exact Ok.ret1c le10 [.K 2 0, .K 2 1, .K 2 2] (.agg #[bF, iw (monthZ z0), s0]) [b1 + 1 + 1, b1 + 1 + 1, b1 + 1 + 1] rfl (by kernel_rfl) rfl
set_option maxRecDepth 100000 in
theorem m15_4 (H : Snap) (p0 p1 : Nat) (z0 : Int) (hp0 : Pre H p0 [iw 5, iw 1, iw 0]) (hp1 : Pre H p1 [iw 1, bF, iw z0, s0]) : Does Tryd.prog 15 [sl p0 0 1 1, .agg #[sl p1 0 1 1]] H [] (fun v H' kp => ∃ r0 : Nat, v = sl r0 0 1 1 ∧ Pre H' r0 [bF, iw (monthZ z0), s0]) := by
  refine Does.of Tryd.func15 rfl rfl rfl rfl (fun w0 H0 kx => ?_)
  refine Ok.seq ?_
  refine Ok.reg ?_
  refine Ok.seg (j := 2) (fun b1 => [(0, sl p0 0 1 1), (3, pt b1 0), (4, n0)]) (fun b1 => [.blk b1 [sl p1 0 1 1] 30]) (fun b1 => []) (fun b1 => []) [.g [.N], .g []] [0, 3, 4] rfl (fun b1 => by kernel_rfl) (fun b1 => trivial) (fun b1 => ?_)
  refine Ok.segEnd rfl ?_
  refine Ok.thenN ?_
  refine Ok.seq ?_
  refine Ok.reg ?_
  refine Ok.seg (j := 4) (fun b2 => [(0, sl p0 0 1 1), (3, pt b1 0), (4, n0), (5, sl b2 0 1 1)]) (fun b2 => [.blk b1 [sl p1 0 1 1] 30, .blk b2 [bF, iw 0, s0] 26]) (fun b2 => []) (fun b2 => []) [.g [], .g [], .g [.N], .g []] [0, 3, 4, 5] rfl (fun b2 => by kernel_rfl) (fun b2 => trivial) (fun b2 => ?_)
  refine Ok.segEnd rfl ?_
  refine Ok.thenN ?_
  refine Ok.seq ?_
  refine Ok.seq ?_
  refine Ok.reg ?_
  refine Ok.seg (j := 3) (fun _ => [(3, pt b1 0), (4, n0), (5, sl b2 0 1 1), (11, sl p0 0 1 1), (12, iw 1), (13, iw 0)]) (fun _ => [.blk b1 [sl p1 0 1 1] 30, .blk b2 [bF, iw 0, s0] 26]) (fun _ => []) (fun _ => []) [.g [], .g [], .g []] [3, 4, 5, 11, 12, 13] rfl (fun _ => by kernel_rfl) (fun _ => trivial) (fun _ => ?_)
  refine Ok.segEnd rfl ?_
  refine Ok.thenN ?_
  refine Ok.blk ?_
  refine Ok.loopN 2 ?_
  refine Ok.round ?_
  refine Ok.seq ?_
  refine Ok.reg ?_
  refine Ok.seg (j := 1) (fun _ => [(3, pt b1 0), (4, n0), (5, sl b2 0 1 1), (11, sl p0 0 1 1), (12, iw 1), (13, iw 0), (14, bT)]) (fun _ => [.blk b1 [sl p1 0 1 1] 30, .blk b2 [bF, iw 0, s0] 26]) (fun _ => []) (fun _ => []) [.g []] [3, 4, 5, 11, 12, 13, 14] rfl (fun _ => by kernel_rfl) (fun _ => trivial) (fun _ => ?_)
  refine Ok.segEnd rfl ?_
  refine Ok.thenN ?_
  refine Ok.seq ?_
  refine Ok.condT rfl ?_
  refine Ok.skip_ ?_
  refine Ok.thenN ?_
  refine Ok.seq ?_
  refine Ok.blk ?_
  refine Ok.seq ?_
  refine Ok.reg ?_
  refine Ok.seg (j := 6) (fun b5 => [(3, pt b1 0), (4, n0), (5, sl b2 0 1 1), (6, iw 0), (7, pt b5 0), (11, sl p0 0 1 1), (12, iw 1), (13, iw 0), (14, bT), (15, iw 0), (16, pt p0 0), (17, .agg #[iw 5, iw 1, iw 0])]) (fun b5 => [.blk b1 [sl p1 0 1 1] 30, .blk b2 [bF, iw 0, s0] 26, .blk b5 [iw 5, iw 1, iw 0] 24]) (fun b5 => [b5, b5, b5]) (fun b5 => [HasCell H ⟨p0, 0, none⟩ (iw 5), HasCell H ⟨p0, 1, none⟩ (iw 1), HasCell H ⟨p0, 2, none⟩ (iw 0)]) [.g [], .g [], .g [.X (iw 5), .X (iw 1), .X (iw 0)], .g [.N], .g [], .g [.K 2 0, .K 2 1, .K 2 2]] [3, 4, 5, 6, 7, 11, 12, 13, 14, 15, 16, 17] rfl (fun b5 => by kernel_rfl) (fun b5 => ⟨Pre.cell hp0 0 rfl, Pre.cell hp0 1 rfl, Pre.cell hp0 2 rfl, trivial⟩) (fun b5 => ?_)
  refine Ok.segEnd rfl ?_
  refine Ok.thenN ?_
  refine Ok.start (idx := [0, 2]) [] [.blk b1 [sl p1 0 1 1] 30, .blk b5 [iw 5, iw 1, iw 0] 24] (by kernel_rfl) rfl rfl rfl ?_
  refine Ok.take (fuel' := 4) (l' := [true, true, true, true, true, true, false, false, false, false]) (qs := [(0, .g []), (1, .g []), (2, .g [.K 1 0, .K 1 1, .K 1 2]), (3, .g [.K 0 0]), (4, .g []), (5, .g [.K 1 1])]) [(3, pt b1 0), (4, n0), (5, sl b2 0 1 1), (6, iw 0), (7, pt b5 0), (11, sl p0 0 1 1), (12, iw 1), (13, iw 0), (14, bT), (15, iw 0), (16, pt p0 0), (17, .agg #[iw 5, iw 1, iw 0]), (18, sl b2 0 1 1), (19, iw 0), (20, .agg #[iw 5, iw 1, iw 0]), (21, .agg #[sl p1 0 1 1]), (22, pt b5 1), (23, iw 1)] [b5, b5, b5, b1, b5] [] [3, 4, 5, 6, 7, 11, 12, 13, 14, 15, 16, 17, 18, 19, 20, 21, 22, 23] (by intro c a w d v h; cases d <;> exact h) (by kernel_rfl) rfl trivial ?_
  refine Ok.one (i := 6) (fuel' := 3) (l' := [true, true, true, true, true, true, true, false, false, false]) (by kernel_rfl) rfl rfl (Eff.call0 (d := some 24) (by kernel_rfl) (m30_5 H p1 z0 hp1) ?_)
  rintro v6 H7 k9 le8 rfl
  refine Ok.dropL ?_
  refine Ok.withS (idx := [0, 2]) le8 rfl ?_
  refine Ok.one (i := 7) (fuel' := 2) (l' := [true, true, true, true, true, true, true, true, false, false]) (by kernel_rfl) rfl rfl (Eff.call0 (d := some 25) (by kernel_rfl) (m29_6 H7 z0) ?_)
  rintro v10 H11 k13 le12 rfl
  refine Ok.dropL ?_
  refine Ok.withS (idx := [0, 2]) (SLe.trans le8 le12) rfl ?_
  refine Ok.take (fuel' := 1) (l' := [true, true, true, true, true, true, true, true, true, false]) (qs := [(8, .g [])]) [(3, pt b1 0), (4, n0), (5, sl b2 0 1 1), (6, iw 0), (7, pt b5 0), (11, sl p0 0 1 1), (12, iw 1), (13, iw 0), (14, bT), (15, iw 0), (16, pt p0 0), (17, .agg #[iw 5, iw 1, iw 0]), (18, sl b2 0 1 1), (19, iw 0), (20, .agg #[iw 5, iw 1, iw 0]), (21, .agg #[sl p1 0 1 1]), (22, pt b5 1), (23, iw 1), (24, .agg #[bF, iw z0, s0]), (25, .agg #[bF, iw (monthZ z0), s0]), (26, pt b2 0)] [] [] [3, 4, 5, 6, 7, 11, 12, 13, 14, 15, 16, 17, 18, 19, 20, 21, 22, 23, 24, 25, 26] (by intro c a w d v h; cases d <;> exact h) (by kernel_rfl) rfl trivial ?_
  refine Ok.one (i := 9) (fuel' := 0) (l' := [true, true, true, true, true, true, true, true, true, true]) (by kernel_rfl) rfl rfl (Eff.op (.g [.K 1 0, .K 1 1, .K 1 2]) (fun _ => [(3, pt b1 0), (4, n0), (5, sl b2 0 1 1), (6, iw 0), (7, pt b5 0), (11, sl p0 0 1 1), (12, iw 1), (13, iw 0), (14, bT), (15, iw 0), (16, pt p0 0), (17, .agg #[iw 5, iw 1, iw 0]), (18, sl b2 0 1 1), (19, iw 0), (20, .agg #[iw 5, iw 1, iw 0]), (21, .agg #[sl p1 0 1 1]), (22, pt b5 1), (23, iw 1), (24, .agg #[bF, iw z0, s0]), (25, .agg #[bF, iw (monthZ z0), s0]), (26, pt b2 0)]) (fun _ => [.blk b1 [sl p1 0 1 1] 30, .blk b2 [bF, iw (monthZ z0), s0] 26, .blk b5 [iw 5, iw 1, iw 0] 24]) (fun _ => [b2, b2, b2]) (fun _ => []) [3, 4, 5, 6, 7, 11, 12, 13, 14, 15, 16, 17, 18, 19, 20, 21, 22, 23, 24, 25, 26] (fun _ => by kernel_rfl) (fun _ => trivial) (fun _ => ?_))
  refine Ok.withS (idx := [0, 2]) (SLe.trans le8 le12) rfl ?_
  refine Ok.done (by kernel_rfl) ?_
  refine Ok.blkN ?_
  refine Ok.thenN ?_
  refine Ok.reg ?_
  refine Ok.seg (j := 2) (fun _ => [(3, pt b1 0), (4, n0), (5, sl b2 0 1 1), (6, iw 0), (7, pt b5 0), (11, sl p0 0 1 1), (12, iw 1), (13, iw 1), (14, bT), (15, iw 0), (16, pt p0 0), (17, .agg #[iw 5, iw 1, iw 0]), (18, sl b2 0 1 1), (19, iw 0), (20, .agg #[iw 5, iw 1, iw 0]), (21, .agg #[sl p1 0 1 1]), (22, pt b5 1), (23, iw 1), (24, .agg #[bF, iw z0, s0]), (25, .agg #[bF, iw (monthZ z0), s0]), (26, pt b2 0), (27, iw 1)]) (fun _ => [.blk b1 [sl p1 0 1 1] 30, .blk b2 [bF, iw (monthZ z0), s0] 26, .blk b5 [iw 5, iw 1, iw 0] 24]) (fun _ => []) (fun _ => []) [.g [], .g []] [3, 4, 5, 6, 7, 11, 12, 13, 14, 15, 16, 17, 18, 19, 20, 21, 22, 23, 24, 25, 26, 27] rfl (fun _ => by kernel_rfl) (fun _ => trivial) (fun _ => ?_)
  refine Ok.segEnd rfl ?_
  refine Ok.thenN ?_
  refine Ok.round ?_
  refine Ok.seq ?_
  refine Ok.reg ?_
  refine Ok.seg (j := 1) (fun _ => [(3, pt b1 0), (4, n0), (5, sl b2 0 1 1), (6, iw 0), (7, pt b5 0), (11, sl p0 0 1 1), (12, iw 1), (13, iw 1), (14, bF), (15, iw 0), (16, pt p0 0), (17, .agg #[iw 5, iw 1, iw 0]), (18, sl b2 0 1 1), (19, iw 0), (20, .agg #[iw 5, iw 1, iw 0]), (21, .agg #[sl p1 0 1 1]), (22, pt b5 1), (23, iw 1), (24, .agg #[bF, iw z0, s0]), (25, .agg #[bF, iw (monthZ z0), s0]), (26, pt b2 0), (27, iw 1)]) (fun _ => [.blk b1 [sl p1 0 1 1] 30, .blk b2 [bF, iw (monthZ z0), s0] 26, .blk b5 [iw 5, iw 1, iw 0] 24]) (fun _ => []) (fun _ => []) [.g []] [3, 4, 5, 6, 7, 11, 12, 13, 14, 15, 16, 17, 18, 19, 20, 21, 22, 23, 24, 25, 26, 27] rfl (fun _ => by kernel_rfl) (fun _ => trivial) (fun _ => ?_)
  refine Ok.segEnd rfl ?_
  refine Ok.thenN ?_
  refine Ok.seq ?_
  refine Ok.condF rfl ?_
  refine Ok.exit_ ?_
  refine Ok.thenE ?_
  refine Ok.thenE ?_
  refine Ok.blkE ?_
  refine Ok.thenN ?_
  refine Ok.seq ?_
  refine Ok.reg ?_
  refine Ok.seg (j := 2) (fun _ => [(4, sl b2 0 1 1)]) (fun _ => [.blk b1 [sl p1 0 1 1] 30, .blk b2 [bF, iw (monthZ z0), s0] 26, .blk b5 [iw 5, iw 1, iw 0] 24]) (fun _ => []) (fun _ => []) [.g [], .g []] [4] rfl (fun _ => by kernel_rfl) (fun _ => trivial) (fun _ => ?_)
  refine Ok.mask [false, true, false] [.blk b2 [bF, iw (monthZ z0), s0] 26] rfl ?_
  refine Ok.segEnd rfl ?_
  refine Ok.thenN ?_
  refine Ok.ret_ ?_
  refine Ok.pubP 0 rfl [] rfl ?_
  intro H18 le19 pf20
  exact Ok.ret1 (v := sl b2 0 1 1) (SLe.trans le8 (SLe.trans le12 le19)) rfl rfl ⟨b2, rfl, pf20⟩
set_option maxRecDepth 100000 in
theorem m5_3 (H : Snap) (p0 : Nat) (z0 : Int) (hp0 : Pre H p0 [iw 1, bF, iw z0, s0]) : Does Tryd.prog 5 [.agg #[iw 5, iw 1, iw 0], .agg #[sl p0 0 1 1]] H [] (fun v H' kp => v = .agg #[bF, iw (monthZ z0), s0]) := by
  refine Does.of Tryd.func5 rfl rfl rfl rfl (fun w0 H0 kx => ?_)
  refine Ok.seq ?_
  refine Ok.reg ?_
  refine Ok.seg (j := 3) (fun b1 => [(2, pt b1 0), (3, pt (b1 + 1) 0), (4, pt (b1 + 1 + 1) 0)]) (fun b1 => [.blk b1 [iw 5, iw 1, iw 0] 24, .blk (b1 + 1) [sl p0 0 1 1] 30, .blk (b1 + 1 + 1) [bF, iw 0, s0] 26]) (fun b1 => []) (fun b1 => []) [.g [.N], .g [.N], .g [.N]] [2, 3, 4] rfl (fun b1 => by kernel_rfl) (fun b1 => trivial) (fun b1 => ?_)
  refine Ok.segEnd rfl ?_
  refine Ok.thenN ?_
  refine Ok.seq ?_
  refine Ok.reg ?_
  refine Ok.seg (j := 3) (fun b2 => [(4, pt (b1 + 1 + 1) 0), (7, sl b2 0 1 1), (8, .agg #[sl p0 0 1 1])]) (fun b2 => [.blk b1 [iw 5, iw 1, iw 0] 24, .blk (b1 + 1) [sl p0 0 1 1] 30, .blk (b1 + 1 + 1) [bF, iw 0, s0] 26, .blk b2 [iw 5, iw 1, iw 0] 24]) (fun b2 => [b1, b1, b1, b1 + 1]) (fun b2 => []) [.g [.K 0 0, .K 0 1, .K 0 2], .g [.N], .g [.K 1 0]] [4, 7, 8] rfl (fun b2 => by kernel_rfl) (fun b2 => trivial) (fun b2 => ?_)
  refine Ok.mask [false, false, true, true] [.blk (b1 + 1 + 1) [bF, iw 0, s0] 26, .blk b2 [iw 5, iw 1, iw 0] 24] rfl ?_
  refine Ok.pubP 1 rfl [.blk (b1 + 1 + 1) [bF, iw 0, s0] 26] rfl ?_
  intro H3 le4 pf5
  refine Ok.eff (j := 4) rfl (Eff.call0 (d := some 9) (by kernel_rfl) (m15_4 H3 b2 p0 z0 pf5 (Pre.mono le4 hp0)) ?_)
  rintro v6 H7 k9 le8 ⟨q10, rfl, pf11⟩
  refine Ok.dropL ?_
  refine Ok.seg (j := 5) (fun _ => [(4, pt (b1 + 1 + 1) 0), (5, sl q10 0 1 1)]) (fun _ => [.blk (b1 + 1 + 1) [bF, iw 0, s0] 26]) (fun _ => []) (fun _ => []) [.g []] [4, 5] rfl (fun _ => by kernel_rfl) (fun _ => trivial) (fun _ => ?_)
  refine Ok.segEnd rfl ?_
  refine Ok.thenN ?_
  refine Ok.seq ?_
  refine Ok.seq ?_
  refine Ok.reg ?_
  refine Ok.seg (j := 3) (fun _ => [(4, pt (b1 + 1 + 1) 0), (5, sl q10 0 1 1), (12, bF)]) (fun _ => [.blk (b1 + 1 + 1) [bF, iw 0, s0] 26]) (fun _ => []) (fun _ => []) [.g [], .g [], .g []] [4, 5, 12] rfl (fun _ => by kernel_rfl) (fun _ => trivial) (fun _ => ?_)
  refine Ok.segEnd rfl ?_
  refine Ok.thenN ?_
  refine Ok.condF rfl ?_
  refine Ok.skip_ ?_
  refine Ok.thenN ?_
  refine Ok.seq ?_
  refine Ok.reg ?_
  refine Ok.seg (j := 4) (fun _ => [(4, pt (b1 + 1 + 1) 0)]) (fun _ => [.blk (b1 + 1 + 1) [bF, iw (monthZ z0), s0] 26]) (fun _ => [b1 + 1 + 1, b1 + 1 + 1, b1 + 1 + 1]) (fun _ => [HasCell H7 ⟨q10, 0, none⟩ (bF), HasCell H7 ⟨q10, 1, none⟩ (iw (monthZ z0)), HasCell H7 ⟨q10, 2, none⟩ (s0)]) [.g [], .g [], .g [.X (bF), .X (iw (monthZ z0)), .X (s0)], .g [.K 0 0, .K 0 1, .K 0 2]] [4] rfl (fun _ => by kernel_rfl) (fun _ => ⟨Pre.cell pf11 0 rfl, Pre.cell pf11 1 rfl, Pre.cell pf11 2 rfl, trivial⟩) (fun _ => ?_)
  refine Ok.segEnd rfl ?_
  refine Ok.thenN ?_
  refine Ok.ret_ ?_
  exact Ok.ret1c (SLe.trans le4 le8) [.K 0 0, .K 0 1, .K 0 2] (.agg #[bF, iw (monthZ z0), s0]) [b1 + 1 + 1, b1 + 1 + 1, b1 + 1 + 1] rfl (by kernel_rfl) rfl
end Go.Proofs.YtldanodmjilfaaaDoor
