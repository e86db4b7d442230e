/- Contracts of functions at the arguments that the fixed examples meet: printed by a program of this claim's author. -/
import Derived.Test.YtldanodmjilfaaaDoorProg
import Derived.Test.YtldanodmjilfaaaDoorSn6
set_option linter.unusedVariables false
set_option maxHeartbeats 4000000
namespace Go.Proofs.YtldanodmjilfaaaDoor
open Go Go.RowKit Sx
set_option maxRecDepth 100000 in
theorem x28_175 (H : Snap) (p0 p1 : Nat) (c0 : Nat) (hp0 : Pre H p0 [iw 1]) (hp1 : Pre H p1 [iw 1]) : Does Tryd.prog 28 [sl p0 0 1 c0, sl p1 0 1 1] H [] (fun v H' kp => v = bT) := by
  refine Does.of Tryd.func28 rfl rfl rfl rfl (fun w0 H0 kx => ?_)
  refine Ok.seq ?_
  refine Ok.reg ?_
  refine Ok.seg (j := 1) (fun _ => [(0, sl p0 0 1 c0), (1, sl p1 0 1 1), (4, bF)]) (fun _ => []) (fun _ => []) (fun _ => []) [.g []] [0, 1, 4] rfl (fun _ => by kernel_rfl) (fun _ => trivial) (fun _ => ?_)
  refine Ok.segEnd rfl ?_
  refine Ok.thenN ?_
  refine Ok.seq ?_
  refine Ok.seq ?_
  refine Ok.reg ?_
  refine Ok.seg (j := 5) (fun _ => [(0, sl p0 0 1 c0), (1, sl p1 0 1 1), (4, bF), (10, bF)]) (fun _ => []) (fun _ => []) (fun _ => []) [.g [], .g [], .g [], .g [], .g []] [0, 1, 4, 10] rfl (fun _ => by kernel_rfl) (fun _ => trivial) (fun _ => ?_)
  refine Ok.segEnd rfl ?_
  refine Ok.thenN ?_
  refine Ok.condF rfl ?_
  refine Ok.skip_ ?_
  refine Ok.thenN ?_
  refine Ok.seq ?_
  refine Ok.seq ?_
  refine Ok.reg ?_
  refine Ok.seg (j := 1) (fun _ => [(0, sl p0 0 1 c0), (1, sl p1 0 1 1), (4, bF), (5, iw 0)]) (fun _ => []) (fun _ => []) (fun _ => []) [.g []] [0, 1, 4, 5] rfl (fun _ => by kernel_rfl) (fun _ => trivial) (fun _ => ?_)
  refine Ok.segEnd rfl ?_
  refine Ok.thenN ?_
  refine Ok.blk ?_
  refine Ok.loopN 2 ?_
  refine Ok.round ?_
  refine Ok.seq ?_
  refine Ok.seq ?_
  refine Ok.reg ?_
  refine Ok.seg (j := 4) (fun _ => [(0, sl p0 0 1 c0), (1, sl p1 0 1 1), (4, bF), (5, iw 0), (11, iw 0), (12, sl p0 0 1 c0), (13, iw 1), (14, bT)]) (fun _ => []) (fun _ => []) (fun _ => []) [.g [], .g [], .g [], .g []] [0, 1, 4, 5, 11, 12, 13, 14] rfl (fun _ => by kernel_rfl) (fun _ => trivial) (fun _ => ?_)
  refine Ok.segEnd rfl ?_
  refine Ok.thenN ?_
  refine Ok.condT rfl ?_
  refine Ok.skip_ ?_
  refine Ok.thenN ?_
  refine Ok.seq ?_
  refine Ok.blk ?_
  refine Ok.seq ?_
  refine Ok.start (idx := []) [] [] (by kernel_rfl) rfl rfl rfl ?_
  refine Ok.take (fuel' := 0) (l' := [true, true, true, true, true, true, true, true, true]) (qs := [(0, .g []), (1, .g []), (2, .g []), (3, .g [.X (iw 1)]), (4, .g []), (5, .g []), (6, .g []), (7, .g [.X (iw 1)]), (8, .g [])]) [(0, sl p0 0 1 c0), (1, sl p1 0 1 1), (4, bF), (5, iw 0), (11, iw 0), (12, sl p0 0 1 c0), (13, iw 1), (14, bT), (17, sl p0 0 1 c0), (18, iw 0), (19, pt p0 0), (20, iw 1), (21, sl p1 0 1 1), (22, iw 0), (23, pt p1 0), (24, iw 1), (25, bF)] [] [HasCell H ⟨p0, 0, none⟩ (iw 1), HasCell H ⟨p1, 0, none⟩ (iw 1)] [0, 1, 4, 5, 11, 12, 13, 14, 17, 18, 19, 20, 21, 22, 23, 24, 25] (by intro c a w d v h; cases d <;> exact h) (by kernel_rfl) rfl ⟨Pre.cell hp0 0 rfl, Pre.cell hp1 0 rfl, trivial⟩ ?_
  refine Ok.done (by kernel_rfl) ?_
  refine Ok.thenN ?_
  refine Ok.condF rfl ?_
  refine Ok.skip_ ?_
  refine Ok.blkN ?_
  refine Ok.thenN ?_
  refine Ok.reg ?_
  refine Ok.seg (j := 3) (fun _ => [(0, sl p0 0 1 c0), (1, sl p1 0 1 1), (4, bF), (5, iw 1), (11, iw 0), (12, sl p0 0 1 c0), (13, iw 1), (14, bT), (15, iw 0), (16, iw 1), (17, sl p0 0 1 c0), (18, iw 0), (19, pt p0 0), (20, iw 1), (21, sl p1 0 1 1), (22, iw 0), (23, pt p1 0), (24, iw 1), (25, bF)]) (fun _ => []) (fun _ => []) (fun _ => []) [.g [], .g [], .g []] [0, 1, 4, 5, 11, 12, 13, 14, 15, 16, 17, 18, 19, 20, 21, 22, 23, 24, 25] rfl (fun _ => by kernel_rfl) (fun _ => trivial) (fun _ => ?_)
  refine Ok.segEnd rfl ?_
  refine Ok.thenN ?_
  refine Ok.round ?_
  refine Ok.seq ?_
  refine Ok.seq ?_
  refine Ok.reg ?_
  refine Ok.seg (j := 4) (fun _ => [(0, sl p0 0 1 c0), (1, sl p1 0 1 1), (4, bF), (5, iw 1), (11, iw 1), (12, sl p0 0 1 c0), (13, iw 1), (14, bF), (15, iw 0), (16, iw 1), (17, sl p0 0 1 c0), (18, iw 0), (19, pt p0 0), (20, iw 1), (21, sl p1 0 1 1), (22, iw 0), (23, pt p1 0), (24, iw 1), (25, bF)]) (fun _ => []) (fun _ => []) (fun _ => []) [.g [], .g [], .g [], .g []] [0, 1, 4, 5, 11, 12, 13, 14, 15, 16, 17, 18, 19, 20, 21, 22, 23, 24, 25] rfl (fun _ => by kernel_rfl) (fun _ => trivial) (fun _ => ?_)
  refine Ok.segEnd rfl ?_
  refine Ok.thenN ?_
  refine Ok.condF rfl ?_
  refine Ok.exit_ ?_
  refine Ok.thenE ?_
  refine Ok.thenE ?_
  refine Ok.blkE ?_
  refine Ok.thenN ?_
  refine Ok.seq ?_
  refine Ok.reg ?_
  refine Ok.seg (j := 1) (fun _ => [(4, bT)]) (fun _ => []) (fun _ => []) (fun _ => []) [.g []] [4] rfl (fun _ => by kernel_rfl) (fun _ => trivial) (fun _ => ?_)
  refine Ok.segEnd rfl ?_
  refine Ok.thenN ?_
  refine Ok.ret_ ?_
  exact Ok.ret1 (v := bT) (SLe.refl _) rfl rfl rfl
set_option maxRecDepth 100000 in
theorem x28_176 (H : Snap) (p0 p1 : Nat) (c0 : Nat) (hp0 : Pre H p0 [iw 0, iw 2]) (hp1 : Pre H p1 [iw 0, iw 2]) : Does Tryd.prog 28 [sl p0 0 2 c0, sl p1 0 2 2] H [] (fun v H' kp => v = bT) := by
  refine Does.of Tryd.func28 rfl rfl rfl rfl (fun w0 H0 kx => ?_)
  refine Ok.seq ?_
  refine Ok.reg ?_
  refine Ok.seg (j := 1) (fun _ => [(0, sl p0 0 2 c0), (1, sl p1 0 2 2), (4, bF)]) (fun _ => []) (fun _ => []) (fun _ => []) [.g []] [0, 1, 4] rfl (fun _ => by kernel_rfl) (fun _ => trivial) (fun _ => ?_)
  refine Ok.segEnd rfl ?_
  refine Ok.thenN ?_
  refine Ok.seq ?_
  refine Ok.seq ?_
  refine Ok.reg ?_
  refine Ok.seg (j := 5) (fun _ => [(0, sl p0 0 2 c0), (1, sl p1 0 2 2), (4, bF), (10, bF)]) (fun _ => []) (fun _ => []) (fun _ => []) [.g [], .g [], .g [], .g [], .g []] [0, 1, 4, 10] rfl (fun _ => by kernel_rfl) (fun _ => trivial) (fun _ => ?_)
  refine Ok.segEnd rfl ?_
  refine Ok.thenN ?_
  refine Ok.condF rfl ?_
  refine Ok.skip_ ?_
  refine Ok.thenN ?_
  refine Ok.seq ?_
  refine Ok.seq ?_
  refine Ok.reg ?_
  refine Ok.seg (j := 1) (fun _ => [(0, sl p0 0 2 c0), (1, sl p1 0 2 2), (4, bF), (5, iw 0)]) (fun _ => []) (fun _ => []) (fun _ => []) [.g []] [0, 1, 4, 5] rfl (fun _ => by kernel_rfl) (fun _ => trivial) (fun _ => ?_)
  refine Ok.segEnd rfl ?_
  refine Ok.thenN ?_
  refine Ok.blk ?_
  refine Ok.loopN 3 ?_
  refine Ok.round ?_
  refine Ok.seq ?_
  refine Ok.seq ?_
  refine Ok.reg ?_
  refine Ok.seg (j := 4) (fun _ => [(0, sl p0 0 2 c0), (1, sl p1 0 2 2), (4, bF), (5, iw 0), (11, iw 0), (12, sl p0 0 2 c0), (13, iw 2), (14, bT)]) (fun _ => []) (fun _ => []) (fun _ => []) [.g [], .g [], .g [], .g []] [0, 1, 4, 5, 11, 12, 13, 14] rfl (fun _ => by kernel_rfl) (fun _ => trivial) (fun _ => ?_)
  refine Ok.segEnd rfl ?_
  refine Ok.thenN ?_
  refine Ok.condT rfl ?_
  refine Ok.skip_ ?_
  refine Ok.thenN ?_
  refine Ok.seq ?_
  refine Ok.blk ?_
  refine Ok.seq ?_
  refine Ok.start (idx := []) [] [] (by kernel_rfl) rfl rfl rfl ?_
  refine Ok.take (fuel' := 0) (l' := [true, true, true, true, true, true, true, true, true]) (qs := [(0, .g []), (1, .g []), (2, .g []), (3, .g [.X (iw 0)]), (4, .g []), (5, .g []), (6, .g []), (7, .g [.X (iw 0)]), (8, .g [])]) [(0, sl p0 0 2 c0), (1, sl p1 0 2 2), (4, bF), (5, iw 0), (11, iw 0), (12, sl p0 0 2 c0), (13, iw 2), (14, bT), (17, sl p0 0 2 c0), (18, iw 0), (19, pt p0 0), (20, iw 0), (21, sl p1 0 2 2), (22, iw 0), (23, pt p1 0), (24, iw 0), (25, bF)] [] [HasCell H ⟨p0, 0, none⟩ (iw 0), HasCell H ⟨p1, 0, none⟩ (iw 0)] [0, 1, 4, 5, 11, 12, 13, 14, 17, 18, 19, 20, 21, 22, 23, 24, 25] (by intro c a w d v h; cases d <;> exact h) (by kernel_rfl) rfl ⟨Pre.cell hp0 0 rfl, Pre.cell hp1 0 rfl, trivial⟩ ?_
  refine Ok.done (by kernel_rfl) ?_
  refine Ok.thenN ?_
  refine Ok.condF rfl ?_
  refine Ok.skip_ ?_
  refine Ok.blkN ?_
  refine Ok.thenN ?_
  refine Ok.reg ?_
  refine Ok.seg (j := 3) (fun _ => [(0, sl p0 0 2 c0), (1, sl p1 0 2 2), (4, bF), (5, iw 1), (11, iw 0), (12, sl p0 0 2 c0), (13, iw 2), (14, bT), (15, iw 0), (16, iw 1), (17, sl p0 0 2 c0), (18, iw 0), (19, pt p0 0), (20, iw 0), (21, sl p1 0 2 2), (22, iw 0), (23, pt p1 0), (24, iw 0), (25, bF)]) (fun _ => []) (fun _ => []) (fun _ => []) [.g [], .g [], .g []] [0, 1, 4, 5, 11, 12, 13, 14, 15, 16, 17, 18, 19, 20, 21, 22, 23, 24, 25] rfl (fun _ => by kernel_rfl) (fun _ => trivial) (fun _ => ?_)
  refine Ok.segEnd rfl ?_
  refine Ok.thenN ?_
  refine Ok.round ?_
  refine Ok.seq ?_
  refine Ok.seq ?_
  refine Ok.reg ?_
  refine Ok.seg (j := 4) (fun _ => [(0, sl p0 0 2 c0), (1, sl p1 0 2 2), (4, bF), (5, iw 1), (11, iw 1), (12, sl p0 0 2 c0), (13, iw 2), (14, bT), (15, iw 0), (16, iw 1), (17, sl p0 0 2 c0), (18, iw 0), (19, pt p0 0), (20, iw 0), (21, sl p1 0 2 2), (22, iw 0), (23, pt p1 0), (24, iw 0), (25, bF)]) (fun _ => []) (fun _ => []) (fun _ => []) [.g [], .g [], .g [], .g []] [0, 1, 4, 5, 11, 12, 13, 14, 15, 16, 17, 18, 19, 20, 21, 22, 23, 24, 25] rfl (fun _ => by kernel_rfl) (fun _ => trivial) (fun _ => ?_)
  refine Ok.segEnd rfl ?_
  refine Ok.thenN ?_
  refine Ok.condT rfl ?_
  refine Ok.skip_ ?_
  refine Ok.thenN ?_
  refine Ok.seq ?_
  refine Ok.blk ?_
  refine Ok.seq ?_
  refine Ok.start (idx := []) [] [] (by kernel_rfl) rfl rfl rfl ?_
  refine Ok.take (fuel' := 0) (l' := [true, true, true, true, true, true, true, true, true]) (qs := [(0, .g []), (1, .g []), (2, .g []), (3, .g [.X (iw 2)]), (4, .g []), (5, .g []), (6, .g []), (7, .g [.X (iw 2)]), (8, .g [])]) [(0, sl p0 0 2 c0), (1, sl p1 0 2 2), (4, bF), (5, iw 1), (11, iw 1), (12, sl p0 0 2 c0), (13, iw 2), (14, bT), (15, iw 0), (16, iw 1), (17, sl p0 0 2 c0), (18, iw 1), (19, pt p0 1), (20, iw 2), (21, sl p1 0 2 2), (22, iw 1), (23, pt p1 1), (24, iw 2), (25, bF)] [] [HasCell H ⟨p0, 1, none⟩ (iw 2), HasCell H ⟨p1, 1, none⟩ (iw 2)] [0, 1, 4, 5, 11, 12, 13, 14, 15, 16, 17, 18, 19, 20, 21, 22, 23, 24, 25] (by intro c a w d v h; cases d <;> exact h) (by kernel_rfl) rfl ⟨Pre.cell hp0 1 rfl, Pre.cell hp1 1 rfl, trivial⟩ ?_
  refine Ok.done (by kernel_rfl) ?_
  refine Ok.thenN ?_
  refine Ok.condF rfl ?_
  refine Ok.skip_ ?_
  refine Ok.blkN ?_
  refine Ok.thenN ?_
  refine Ok.reg ?_
  refine Ok.seg (j := 3) (fun _ => [(0, sl p0 0 2 c0), (1, sl p1 0 2 2), (4, bF), (5, iw 2), (11, iw 1), (12, sl p0 0 2 c0), (13, iw 2), (14, bT), (15, iw 1), (16, iw 2), (17, sl p0 0 2 c0), (18, iw 1), (19, pt p0 1), (20, iw 2), (21, sl p1 0 2 2), (22, iw 1), (23, pt p1 1), (24, iw 2), (25, bF)]) (fun _ => []) (fun _ => []) (fun _ => []) [.g [], .g [], .g []] [0, 1, 4, 5, 11, 12, 13, 14, 15, 16, 17, 18, 19, 20, 21, 22, 23, 24, 25] rfl (fun _ => by kernel_rfl) (fun _ => trivial) (fun _ => ?_)
  refine Ok.segEnd rfl ?_
  refine Ok.thenN ?_
  refine Ok.round ?_
  refine Ok.seq ?_
  refine Ok.seq ?_
  refine Ok.reg ?_
  refine Ok.seg (j := 4) (fun _ => [(0, sl p0 0 2 c0), (1, sl p1 0 2 2), (4, bF), (5, iw 2), (11, iw 2), (12, sl p0 0 2 c0), (13, iw 2), (14, bF), (15, iw 1), (16, iw 2), (17, sl p0 0 2 c0), (18, iw 1), (19, pt p0 1), (20, iw 2), (21, sl p1 0 2 2), (22, iw 1), (23, pt p1 1), (24, iw 2), (25, bF)]) (fun _ => []) (fun _ => []) (fun _ => []) [.g [], .g [], .g [], .g []] [0, 1, 4, 5, 11, 12, 13, 14, 15, 16, 17, 18, 19, 20, 21, 22, 23, 24, 25] rfl (fun _ => by kernel_rfl) (fun _ => trivial) (fun _ => ?_)
  refine Ok.segEnd rfl ?_
  refine Ok.thenN ?_
  refine Ok.condF rfl ?_
  refine Ok.exit_ ?_
  refine Ok.thenE ?_
  refine Ok.thenE ?_
  refine Ok.blkE ?_
  refine Ok.thenN ?_
  refine Ok.seq ?_
  refine Ok.reg ?_
  refine Ok.seg (j := 1) (fun _ => [(4, bT)]) (fun _ => []) (fun _ => []) (fun _ => []) [.g []] [4] rfl (fun _ => by kernel_rfl) (fun _ => trivial) (fun _ => ?_)
  refine Ok.segEnd rfl ?_
  refine Ok.thenN ?_
  refine Ok.ret_ ?_
  exact Ok.ret1 (v := bT) (SLe.refl _) rfl rfl rfl
set_option maxRecDepth 100000 in
theorem x14_173 (H : Snap) (p0 p1 p2 p3 p4 p5 p6 p7 : Nat) (c0 c1 c2 : Nat) (hp0 : Pre H p0 [sl p1 0 1 c0, sl p2 0 1 c1, sl p3 0 2 c2]) (hp1 : Pre H p1 [iw 3]) (hp2 : Pre H p2 [iw 1]) (hp3 : Pre H p3 [iw 0, iw 2]) (hp4 : Pre H p4 [sl p5 0 1 1, sl p6 0 1 1, sl p7 0 2 2]) (hp5 : Pre H p5 [iw 3]) (hp6 : Pre H p6 [iw 1]) (hp7 : Pre H p7 [iw 0, iw 2]) : Does Tryd.prog 14 [sl p0 0 3 3, sl p4 0 3 3] H [] (fun v H' kp => v = bT) := by
  refine Does.of Tryd.func14 rfl rfl rfl rfl (fun w0 H0 kx => ?_)
  refine Ok.seq ?_
  refine Ok.reg ?_
  refine Ok.seg (j := 1) (fun _ => [(0, sl p0 0 3 3), (1, sl p4 0 3 3), (4, bF)]) (fun _ => []) (fun _ => []) (fun _ => []) [.g []] [0, 1, 4] rfl (fun _ => by kernel_rfl) (fun _ => trivial) (fun _ => ?_)
  refine Ok.segEnd rfl ?_
  refine Ok.thenN ?_
  refine Ok.seq ?_
  refine Ok.seq ?_
  refine Ok.reg ?_
  refine Ok.seg (j := 5) (fun _ => [(0, sl p0 0 3 3), (1, sl p4 0 3 3), (4, bF), (10, bF)]) (fun _ => []) (fun _ => []) (fun _ => []) [.g [], .g [], .g [], .g [], .g []] [0, 1, 4, 10] rfl (fun _ => by kernel_rfl) (fun _ => trivial) (fun _ => ?_)
  refine Ok.segEnd rfl ?_
  refine Ok.thenN ?_
  refine Ok.condF rfl ?_
  refine Ok.skip_ ?_
  refine Ok.thenN ?_
  refine Ok.seq ?_
  refine Ok.seq ?_
  refine Ok.reg ?_
  refine Ok.seg (j := 1) (fun _ => [(0, sl p0 0 3 3), (1, sl p4 0 3 3), (4, bF), (5, iw 0)]) (fun _ => []) (fun _ => []) (fun _ => []) [.g []] [0, 1, 4, 5] rfl (fun _ => by kernel_rfl) (fun _ => trivial) (fun _ => ?_)
  refine Ok.segEnd rfl ?_
  refine Ok.thenN ?_
  refine Ok.blk ?_
  refine Ok.loopN 4 ?_
  refine Ok.round ?_
  refine Ok.seq ?_
  refine Ok.seq ?_
  refine Ok.reg ?_
  refine Ok.seg (j := 4) (fun _ => [(0, sl p0 0 3 3), (1, sl p4 0 3 3), (4, bF), (5, iw 0), (11, iw 0), (12, sl p0 0 3 3), (13, iw 3), (14, bT)]) (fun _ => []) (fun _ => []) (fun _ => []) [.g [], .g [], .g [], .g []] [0, 1, 4, 5, 11, 12, 13, 14] rfl (fun _ => by kernel_rfl) (fun _ => trivial) (fun _ => ?_)
  refine Ok.segEnd rfl ?_
  refine Ok.thenN ?_
  refine Ok.condT rfl ?_
  refine Ok.skip_ ?_
  refine Ok.thenN ?_
  refine Ok.seq ?_
  refine Ok.blk ?_
  refine Ok.seq ?_
  refine Ok.start (idx := []) [] [] (by kernel_rfl) rfl rfl rfl ?_
  refine Ok.take (fuel' := 2) (l' := [true, true, true, true, true, true, true, true, false, false]) (qs := [(0, .g []), (1, .g []), (2, .g []), (3, .g [.X (sl p1 0 1 c0)]), (4, .g []), (5, .g []), (6, .g []), (7, .g [.X (sl p5 0 1 1)])]) [(0, sl p0 0 3 3), (1, sl p4 0 3 3), (4, bF), (5, iw 0), (11, iw 0), (12, sl p0 0 3 3), (13, iw 3), (14, bT), (17, sl p0 0 3 3), (18, iw 0), (19, pt p0 0), (20, sl p1 0 1 c0), (21, sl p4 0 3 3), (22, iw 0), (23, pt p4 0), (24, sl p5 0 1 1)] [] [HasCell H ⟨p0, 0, none⟩ (sl p1 0 1 c0), HasCell H ⟨p4, 0, none⟩ (sl p5 0 1 1)] [0, 1, 4, 5, 11, 12, 13, 14, 17, 18, 19, 20, 21, 22, 23, 24] (by intro c a w d v h; cases d <;> exact h) (by kernel_rfl) rfl ⟨Pre.cell hp0 0 rfl, Pre.cell hp4 0 rfl, trivial⟩ ?_
  refine Ok.one (i := 8) (fuel' := 1) (l' := [true, true, true, true, true, true, true, true, true, false]) (by kernel_rfl) rfl rfl (Eff.call0 (d := some 25) (by kernel_rfl) (x28_174 H p1 p5 c0 hp1 hp5) ?_)
  rintro v5 H6 k8 le7 rfl
  refine Ok.dropL ?_
  refine Ok.withS (idx := []) le7 rfl ?_
  refine Ok.take (fuel' := 0) (l' := [true, true, true, true, true, true, true, true, true, true]) (qs := [(9, .g [])]) [(0, sl p0 0 3 3), (1, sl p4 0 3 3), (4, bF), (5, iw 0), (11, iw 0), (12, sl p0 0 3 3), (13, iw 3), (14, bT), (17, sl p0 0 3 3), (18, iw 0), (19, pt p0 0), (20, sl p1 0 1 c0), (21, sl p4 0 3 3), (22, iw 0), (23, pt p4 0), (24, sl p5 0 1 1), (25, bT), (26, bF)] [] [] [0, 1, 4, 5, 11, 12, 13, 14, 17, 18, 19, 20, 21, 22, 23, 24, 25, 26] (by intro c a w d v h; cases d <;> exact h) (by kernel_rfl) rfl trivial ?_
  refine Ok.done (by kernel_rfl) ?_
  refine Ok.thenN ?_
  refine Ok.condF rfl ?_
  refine Ok.skip_ ?_
  refine Ok.blkN ?_
  refine Ok.thenN ?_
  refine Ok.reg ?_
  refine Ok.seg (j := 3) (fun _ => [(0, sl p0 0 3 3), (1, sl p4 0 3 3), (4, bF), (5, iw 1), (11, iw 0), (12, sl p0 0 3 3), (13, iw 3), (14, bT), (15, iw 0), (16, iw 1), (17, sl p0 0 3 3), (18, iw 0), (19, pt p0 0), (20, sl p1 0 1 c0), (21, sl p4 0 3 3), (22, iw 0), (23, pt p4 0), (24, sl p5 0 1 1), (25, bT), (26, bF)]) (fun _ => []) (fun _ => []) (fun _ => []) [.g [], .g [], .g []] [0, 1, 4, 5, 11, 12, 13, 14, 15, 16, 17, 18, 19, 20, 21, 22, 23, 24, 25, 26] rfl (fun _ => by kernel_rfl) (fun _ => trivial) (fun _ => ?_)
  refine Ok.segEnd rfl ?_
  refine Ok.thenN ?_
  refine Ok.round ?_
  refine Ok.seq ?_
  refine Ok.seq ?_
  refine Ok.reg ?_
  refine Ok.seg (j := 4) (fun _ => [(0, sl p0 0 3 3), (1, sl p4 0 3 3), (4, bF), (5, iw 1), (11, iw 1), (12, sl p0 0 3 3), (13, iw 3), (14, bT), (15, iw 0), (16, iw 1), (17, sl p0 0 3 3), (18, iw 0), (19, pt p0 0), (20, sl p1 0 1 c0), (21, sl p4 0 3 3), (22, iw 0), (23, pt p4 0), (24, sl p5 0 1 1), (25, bT), (26, bF)]) (fun _ => []) (fun _ => []) (fun _ => []) [.g [], .g [], .g [], .g []] [0, 1, 4, 5, 11, 12, 13, 14, 15, 16, 17, 18, 19, 20, 21, 22, 23, 24, 25, 26] rfl (fun _ => by kernel_rfl) (fun _ => trivial) (fun _ => ?_)
  refine Ok.segEnd rfl ?_
  refine Ok.thenN ?_
  refine Ok.condT rfl ?_
  refine Ok.skip_ ?_
  refine Ok.thenN ?_
  refine Ok.seq ?_
  refine Ok.blk ?_
  refine Ok.seq ?_
  refine Ok.start (idx := []) [] [] (by kernel_rfl) rfl rfl rfl ?_
  refine Ok.take (fuel' := 2) (l' := [true, true, true, true, true, true, true, true, false, false]) (qs := [(0, .g []), (1, .g []), (2, .g []), (3, .g [.X (sl p2 0 1 c1)]), (4, .g []), (5, .g []), (6, .g []), (7, .g [.X (sl p6 0 1 1)])]) [(0, sl p0 0 3 3), (1, sl p4 0 3 3), (4, bF), (5, iw 1), (11, iw 1), (12, sl p0 0 3 3), (13, iw 3), (14, bT), (15, iw 0), (16, iw 1), (17, sl p0 0 3 3), (18, iw 1), (19, pt p0 1), (20, sl p2 0 1 c1), (21, sl p4 0 3 3), (22, iw 1), (23, pt p4 1), (24, sl p6 0 1 1), (25, bT), (26, bF)] [] [HasCell H6 ⟨p0, 1, none⟩ (sl p2 0 1 c1), HasCell H6 ⟨p4, 1, none⟩ (sl p6 0 1 1)] [0, 1, 4, 5, 11, 12, 13, 14, 15, 16, 17, 18, 19, 20, 21, 22, 23, 24, 25, 26] (by intro c a w d v h; cases d <;> exact h) (by kernel_rfl) rfl ⟨Pre.cell (Pre.mono le7 hp0) 1 rfl, Pre.cell (Pre.mono le7 hp4) 1 rfl, trivial⟩ ?_
  refine Ok.one (i := 8) (fuel' := 1) (l' := [true, true, true, true, true, true, true, true, true, false]) (by kernel_rfl) rfl rfl (Eff.call0 (d := some 25) (by kernel_rfl) (x28_175 H6 p2 p6 c1 (Pre.mono le7 hp2) (Pre.mono le7 hp6)) ?_)
  rintro v11 H12 k14 le13 rfl
  refine Ok.dropL ?_
  refine Ok.withS (idx := []) le13 rfl ?_
  refine Ok.take (fuel' := 0) (l' := [true, true, true, true, true, true, true, true, true, true]) (qs := [(9, .g [])]) [(0, sl p0 0 3 3), (1, sl p4 0 3 3), (4, bF), (5, iw 1), (11, iw 1), (12, sl p0 0 3 3), (13, iw 3), (14, bT), (15, iw 0), (16, iw 1), (17, sl p0 0 3 3), (18, iw 1), (19, pt p0 1), (20, sl p2 0 1 c1), (21, sl p4 0 3 3), (22, iw 1), (23, pt p4 1), (24, sl p6 0 1 1), (25, bT), (26, bF)] [] [] [0, 1, 4, 5, 11, 12, 13, 14, 15, 16, 17, 18, 19, 20, 21, 22, 23, 24, 25, 26] (by intro c a w d v h; cases d <;> exact h) (by kernel_rfl) rfl trivial ?_
  refine Ok.done (by kernel_rfl) ?_
  refine Ok.thenN ?_
  refine Ok.condF rfl ?_
  refine Ok.skip_ ?_
  refine Ok.blkN ?_
  refine Ok.thenN ?_
  refine Ok.reg ?_
  refine Ok.seg (j := 3) (fun _ => [(0, sl p0 0 3 3), (1, sl p4 0 3 3), (4, bF), (5, iw 2), (11, iw 1), (12, sl p0 0 3 3), (13, iw 3), (14, bT), (15, iw 1), (16, iw 2), (17, sl p0 0 3 3), (18, iw 1), (19, pt p0 1), (20, sl p2 0 1 c1), (21, sl p4 0 3 3), (22, iw 1), (23, pt p4 1), (24, sl p6 0 1 1), (25, bT), (26, bF)]) (fun _ => []) (fun _ => []) (fun _ => []) [.g [], .g [], .g []] [0, 1, 4, 5, 11, 12, 13, 14, 15, 16, 17, 18, 19, 20, 21, 22, 23, 24, 25, 26] rfl (fun _ => by kernel_rfl) (fun _ => trivial) (fun _ => ?_)
  refine Ok.segEnd rfl ?_
  refine Ok.thenN ?_
  refine Ok.round ?_
  refine Ok.seq ?_
  refine Ok.seq ?_
  refine Ok.reg ?_
  refine Ok.seg (j := 4) (fun _ => [(0, sl p0 0 3 3), (1, sl p4 0 3 3), (4, bF), (5, iw 2), (11, iw 2), (12, sl p0 0 3 3), (13, iw 3), (14, bT), (15, iw 1), (16, iw 2), (17, sl p0 0 3 3), (18, iw 1), (19, pt p0 1), (20, sl p2 0 1 c1), (21, sl p4 0 3 3), (22, iw 1), (23, pt p4 1), (24, sl p6 0 1 1), (25, bT), (26, bF)]) (fun _ => []) (fun _ => []) (fun _ => []) [.g [], .g [], .g [], .g []] [0, 1, 4, 5, 11, 12, 13, 14, 15, 16, 17, 18, 19, 20, 21, 22, 23, 24, 25, 26] rfl (fun _ => by kernel_rfl) (fun _ => trivial) (fun _ => ?_)
  refine Ok.segEnd rfl ?_
  refine Ok.thenN ?_
  refine Ok.condT rfl ?_
  refine Ok.skip_ ?_
  refine Ok.thenN ?_
  refine Ok.seq ?_
  refine Ok.blk ?_
  refine Ok.seq ?_
  refine Ok.start (idx := []) [] [] (by kernel_rfl) rfl rfl rfl ?_
  refine Ok.take (fuel' := 2) (l' := [true, true, true, true, true, true, true, true, false, false]) (qs := [(0, .g []), (1, .g []), (2, .g []), (3, .g [.X (sl p3 0 2 c2)]), (4, .g []), (5, .g []), (6, .g []), (7, .g [.X (sl p7 0 2 2)])]) [(0, sl p0 0 3 3), (1, sl p4 0 3 3), (4, bF), (5, iw 2), (11, iw 2), (12, sl p0 0 3 3), (13, iw 3), (14, bT), (15, iw 1), (16, iw 2), (17, sl p0 0 3 3), (18, iw 2), (19, pt p0 2), (20, sl p3 0 2 c2), (21, sl p4 0 3 3), (22, iw 2), (23, pt p4 2), (24, sl p7 0 2 2), (25, bT), (26, bF)] [] [HasCell H12 ⟨p0, 2, none⟩ (sl p3 0 2 c2), HasCell H12 ⟨p4, 2, none⟩ (sl p7 0 2 2)] [0, 1, 4, 5, 11, 12, 13, 14, 15, 16, 17, 18, 19, 20, 21, 22, 23, 24, 25, 26] (by intro c a w d v h; cases d <;> exact h) (by kernel_rfl) rfl ⟨Pre.cell (Pre.mono (SLe.trans le7 le13) hp0) 2 rfl, Pre.cell (Pre.mono (SLe.trans le7 le13) hp4) 2 rfl, trivial⟩ ?_
  refine Ok.one (i := 8) (fuel' := 1) (l' := [true, true, true, true, true, true, true, true, true, false]) (by kernel_rfl) rfl rfl (Eff.call0 (d := some 25) (by kernel_rfl) (x28_176 H12 p3 p7 c2 (Pre.mono (SLe.trans le7 le13) hp3) (Pre.mono (SLe.trans le7 le13) hp7)) ?_)
  rintro v17 H18 k20 le19 rfl
  refine Ok.dropL ?_
  refine Ok.withS (idx := []) le19 rfl ?_
  refine Ok.take (fuel' := 0) (l' := [true, true, true, true, true, true, true, true, true, true]) (qs := [(9, .g [])]) [(0, sl p0 0 3 3), (1, sl p4 0 3 3), (4, bF), (5, iw 2), (11, iw 2), (12, sl p0 0 3 3), (13, iw 3), (14, bT), (15, iw 1), (16, iw 2), (17, sl p0 0 3 3), (18, iw 2), (19, pt p0 2), (20, sl p3 0 2 c2), (21, sl p4 0 3 3), (22, iw 2), (23, pt p4 2), (24, sl p7 0 2 2), (25, bT), (26, bF)] [] [] [0, 1, 4, 5, 11, 12, 13, 14, 15, 16, 17, 18, 19, 20, 21, 22, 23, 24, 25, 26] (by intro c a w d v h; cases d <;> exact h) (by kernel_rfl) rfl trivial ?_
  refine Ok.done (by kernel_rfl) ?_
  refine Ok.thenN ?_
  refine Ok.condF rfl ?_
  refine Ok.skip_ ?_
  refine Ok.blkN ?_
  refine Ok.thenN ?_
  refine Ok.reg ?_
  refine Ok.seg (j := 3) (fun _ => [(0, sl p0 0 3 3), (1, sl p4 0 3 3), (4, bF), (5, iw 3), (11, iw 2), (12, sl p0 0 3 3), (13, iw 3), (14, bT), (15, iw 2), (16, iw 3), (17, sl p0 0 3 3), (18, iw 2), (19, pt p0 2), (20, sl p3 0 2 c2), (21, sl p4 0 3 3), (22, iw 2), (23, pt p4 2), (24, sl p7 0 2 2), (25, bT), (26, bF)]) (fun _ => []) (fun _ => []) (fun _ => []) [.g [], .g [], .g []] [0, 1, 4, 5, 11, 12, 13, 14, 15, 16, 17, 18, 19, 20, 21, 22, 23, 24, 25, 26] rfl (fun _ => by kernel_rfl) (fun _ => trivial) (fun _ => ?_)
  refine Ok.segEnd rfl ?_
  refine Ok.thenN ?_
  refine Ok.round ?_
  refine Ok.seq ?_
  refine Ok.seq ?_
  refine Ok.reg ?_
  refine Ok.seg (j := 4) (fun _ => [(0, sl p0 0 3 3), (1, sl p4 0 3 3), (4, bF), (5, iw 3), (11, iw 3), (12, sl p0 0 3 3), (13, iw 3), (14, bF), (15, iw 2), (16, iw 3), (17, sl p0 0 3 3), (18, iw 2), (19, pt p0 2), (20, sl p3 0 2 c2), (21, sl p4 0 3 3), (22, iw 2), (23, pt p4 2), (24, sl p7 0 2 2), (25, bT), (26, bF)]) (fun _ => []) (fun _ => []) (fun _ => []) [.g [], .g [], .g [], .g []] [0, 1, 4, 5, 11, 12, 13, 14, 15, 16, 17, 18, 19, 20, 21, 22, 23, 24, 25, 26] rfl (fun _ => by kernel_rfl) (fun _ => trivial) (fun _ => ?_)
  refine Ok.segEnd rfl ?_
  refine Ok.thenN ?_
  refine Ok.condF rfl ?_
  refine Ok.exit_ ?_
  refine Ok.thenE ?_
  refine Ok.thenE ?_
  refine Ok.blkE ?_
  refine Ok.thenN ?_
  refine Ok.seq ?_
  refine Ok.reg ?_
  refine Ok.seg (j := 1) (fun _ => [(4, bT)]) (fun _ => []) (fun _ => []) (fun _ => []) [.g []] [4] rfl (fun _ => by kernel_rfl) (fun _ => trivial) (fun _ => ?_)
  refine Ok.segEnd rfl ?_
  refine Ok.thenN ?_
  refine Ok.ret_ ?_
  exact Ok.ret1 (v := bT) (SLe.trans le7 (SLe.trans le13 le19)) rfl rfl rfl
set_option maxRecDepth 100000 in
theorem x4_1 (H : Snap) : Does Tryd.prog 4 [] H [] (fun v H' kp => v = bT) := by
  refine Does.of Tryd.func4 rfl rfl rfl rfl (fun w0 H0 kx => ?_)
  refine Ok.seq ?_
  refine Ok.reg ?_
  refine Ok.seg (j := 1) (fun _ => [(0, bF)]) (fun _ => []) (fun _ => []) (fun _ => []) [.g []] [0] rfl (fun _ => by kernel_rfl) (fun _ => trivial) (fun _ => ?_)
  refine Ok.segEnd rfl ?_
  refine Ok.thenN ?_
  refine Ok.seq ?_
  refine Ok.reg ?_
  refine Ok.seg (j := 6) (fun b2 => [(0, bF), (1, pt b2 0), (2, pt (b2 + 1) 0)]) (fun b2 => [.blk b2 [iw 3, iw 1, iw 10] 24, .blk (b2 + 1) [iw 3, iw 1, iw 2] 24]) (fun b2 => [b2, b2, b2, b2 + 1, b2 + 1, b2 + 1]) (fun b2 => []) [.g [], .g [], .g [.N], .g [.N], .g [.K 0 0, .K 0 1, .K 0 2], .g [.K 1 0, .K 1 1, .K 1 2]] [0, 1, 2] rfl (fun b2 => by kernel_rfl) (fun b2 => trivial) (fun b2 => ?_)
  refine Ok.segEnd rfl ?_
  refine Ok.thenN ?_
  refine Ok.seq ?_
  refine Ok.reg ?_
  refine Ok.seg (j := 3) (fun b3 => [(0, bF), (1, pt b2 0), (2, pt (b2 + 1) 0), (3, pt b3 0)]) (fun b3 => [.blk b2 [iw 3, iw 1, iw 10] 24, .blk (b2 + 1) [iw 3, iw 1, iw 2] 24, .blk b3 [iw 5, iw 1, iw 0] 24]) (fun b3 => [b3, b3, b3]) (fun b3 => []) [.g [], .g [.N], .g [.K 2 0, .K 2 1, .K 2 2]] [0, 1, 2, 3] rfl (fun b3 => by kernel_rfl) (fun b3 => trivial) (fun b3 => ?_)
  refine Ok.segEnd rfl ?_
  refine Ok.thenN ?_
  refine Ok.seq ?_
  refine Ok.reg ?_
  refine Ok.seg (j := 6) (fun b4 => [(0, bF), (1, pt b2 0), (2, pt (b2 + 1) 0), (3, pt b3 0), (4, pt (b4 + 1) 0)]) (fun b4 => [.blk b2 [iw 3, iw 1, iw 10] 24, .blk (b2 + 1) [iw 3, iw 1, iw 2] 24, .blk b3 [iw 5, iw 1, iw 0] 24, .blk b4 [iw 1, .string ⟨#[97]⟩, iw 3, iw 0, iw 2, .string ⟨#[98]⟩, iw 5, iw 0] 34, .blk (b4 + 1) [sl b4 0 2 2, iw 3] 37]) (fun b4 => [b4 + 1, b4 + 1]) (fun b4 => []) [.g [], .g [], .g [.N], .g [], .g [.N], .g [.K 4 0, .K 4 1]] [0, 1, 2, 3, 4] rfl (fun b4 => by kernel_rfl) (fun b4 => trivial) (fun b4 => ?_)
  refine Ok.segEnd rfl ?_
  refine Ok.thenN ?_
  refine Ok.seq ?_
  refine Ok.start (idx := [0, 1, 2, 3, 4]) [] [.blk b2 [iw 3, iw 1, iw 10] 24, .blk (b2 + 1) [iw 3, iw 1, iw 2] 24, .blk b3 [iw 5, iw 1, iw 0] 24, .blk b4 [iw 1, .string ⟨#[97]⟩, iw 3, iw 0, iw 2, .string ⟨#[98]⟩, iw 5, iw 0] 34, .blk (b4 + 1) [sl b4 0 2 2, iw 3] 37] (by kernel_rfl) rfl rfl rfl ?_
  refine Ok.take (fuel' := 42) (l' := [true, false, false, true, false, false, false, false, false, false, false, false, false, false, false, false, false, false, false, false, false, false, false, false, false, false, false, false, false, false, false, false, false, false, false, false, false, false, false, false, false, false, false, false]) (qs := [(0, .g [.K 0 0, .K 0 1, .K 0 2]), (3, .g [])]) [(0, bF), (1, pt b2 0), (2, pt (b2 + 1) 0), (3, pt b3 0), (4, pt (b4 + 1) 0), (17, .agg #[iw 3, iw 1, iw 10]), (20, .agg #[bF, iw 10, s0])] [b2, b2, b2] [] [0, 1, 2, 3, 4, 17, 20] (by intro c a w d v h; cases d <;> exact h) (by kernel_rfl) rfl trivial ?_
  refine Ok.one (i := 1) (fuel' := 41) (l' := [true, true, false, true, false, false, false, false, false, false, false, false, false, false, false, false, false, false, false, false, false, false, false, false, false, false, false, false, false, false, false, false, false, false, false, false, false, false, false, false, false, false, false, false]) (by kernel_rfl) rfl rfl (Eff.call0 (d := some 18) (by kernel_rfl) (x6_2 H) ?_)
  rintro v5 H6 k8 le7 ⟨q9, rfl, pf10⟩
  refine Ok.dropL ?_
  refine Ok.withS (idx := [0, 1, 2, 3, 4]) le7 rfl ?_
  refine Ok.one (i := 2) (fuel' := 40) (l' := [true, true, true, true, false, false, false, false, false, false, false, false, false, false, false, false, false, false, false, false, false, false, false, false, false, false, false, false, false, false, false, false, false, false, false, false, false, false, false, false, false, false, false, false]) (by kernel_rfl) rfl rfl (Eff.call0 (d := some 19) (by kernel_rfl) (x5_3 H6 q9 pf10) ?_)
  rintro v11 H12 k14 le13 rfl
  refine Ok.dropL ?_
  refine Ok.withS (idx := [0, 1, 2, 3, 4]) (SLe.trans le7 le13) rfl ?_
  refine Ok.take (fuel' := 36) (l' := [true, true, true, true, true, true, true, false, false, true, false, false, false, false, false, false, false, false, false, false, false, false, false, false, false, false, false, false, false, false, false, false, false, false, false, false, false, false, false, false, false, false, false, false]) (qs := [(4, .g []), (5, .g []), (6, .g [.K 0 0, .K 0 1, .K 0 2]), (9, .g [])]) [(0, bF), (1, pt b2 0), (2, pt (b2 + 1) 0), (3, pt b3 0), (4, pt (b4 + 1) 0), (22, bT), (23, .agg #[iw 3, iw 1, iw 10]), (26, .agg #[bF, iw (-10), s0])] [b2, b2, b2] [] [0, 1, 2, 3, 4, 22, 23, 26] (by intro c a w d v h; cases d <;> exact h) (by kernel_rfl) rfl trivial ?_
  refine Ok.one (i := 7) (fuel' := 35) (l' := [true, true, true, true, true, true, true, true, false, true, false, false, false, false, false, false, false, false, false, false, false, false, false, false, false, false, false, false, false, false, false, false, false, false, false, false, false, false, false, false, false, false, false, false]) (by kernel_rfl) rfl rfl (Eff.call0 (d := some 24) (by kernel_rfl) (x6_8 H12) ?_)
  rintro v15 H16 k18 le17 ⟨q19, rfl, pf20⟩
  refine Ok.dropL ?_
  refine Ok.withS (idx := [0, 1, 2, 3, 4]) (SLe.trans le7 (SLe.trans le13 le17)) rfl ?_
  refine Ok.one (i := 8) (fuel' := 34) (l' := [true, true, true, true, true, true, true, true, true, true, false, false, false, false, false, false, false, false, false, false, false, false, false, false, false, false, false, false, false, false, false, false, false, false, false, false, false, false, false, false, false, false, false, false]) (by kernel_rfl) rfl rfl (Eff.call0 (d := some 25) (by kernel_rfl) (x5_9 H16 q19 pf20) ?_)
  rintro v21 H22 k24 le23 rfl
  refine Ok.dropL ?_
  refine Ok.withS (idx := [0, 1, 2, 3, 4]) (SLe.trans le7 (SLe.trans le13 (SLe.trans le17 le23))) rfl ?_
  refine Ok.take (fuel' := 27) (l' := [true, true, true, true, true, true, true, true, true, true, true, true, true, true, true, true, false, false, false, true, false, false, false, false, false, false, false, false, false, false, false, false, false, false, false, false, false, false, false, false, false, false, false, false]) (qs := [(10, .g []), (11, .g []), (12, .g []), (13, .g [.K 1 0, .K 1 1, .K 1 2]), (14, .g []), (15, .g []), (19, .g [])]) [(0, bF), (1, pt b2 0), (3, pt b3 0), (4, pt (b4 + 1) 0), (29, bT), (30, .agg #[iw 3, iw 1, iw 2]), (32, .agg #[iw 1, bF, iw 0, .string ⟨#[97, 98, 99, 100]⟩]), (36, .agg #[bF, iw 0, .string ⟨#[97, 98]⟩])] [b2 + 1, b2 + 1, b2 + 1] [] [0, 1, 3, 4, 29, 30, 32, 36] (by intro c a w d v h; cases d <;> exact h) (by kernel_rfl) rfl trivial ?_
  refine Ok.one (i := 16) (fuel' := 26) (l' := [true, true, true, true, true, true, true, true, true, true, true, true, true, true, true, true, true, false, false, true, false, false, false, false, false, false, false, false, false, false, false, false, false, false, false, false, false, false, false, false, false, false, false, false]) (by kernel_rfl) rfl rfl (Eff.op (.g [.N]) (fun b25 => [(0, bF), (1, pt b2 0), (3, pt b3 0), (4, pt (b4 + 1) 0), (29, bT), (30, .agg #[iw 3, iw 1, iw 2]), (33, sl b25 0 1 1), (36, .agg #[bF, iw 0, .string ⟨#[97, 98]⟩])]) (fun b25 => [.blk b2 [iw 3, iw 1, iw 10] 24, .blk (b2 + 1) [iw 3, iw 1, iw 2] 24, .blk b3 [iw 5, iw 1, iw 0] 24, .blk b4 [iw 1, .string ⟨#[97]⟩, iw 3, iw 0, iw 2, .string ⟨#[98]⟩, iw 5, iw 0] 34, .blk (b4 + 1) [sl b4 0 2 2, iw 3] 37, .blk b25 [iw 1, bF, iw 0, .string ⟨#[97, 98, 99, 100]⟩] 39]) (fun b25 => []) (fun b25 => []) [0, 1, 3, 4, 29, 30, 33, 36] (fun b25 => by kernel_rfl) (fun b25 => trivial) (fun b25 => ?_))
  refine Ok.withS (idx := [0, 1, 2, 3, 4]) (SLe.trans le7 (SLe.trans le13 (SLe.trans le17 le23))) rfl ?_
  refine Ok.take (fuel' := 25) (l' := [true, true, true, true, true, true, true, true, true, true, true, true, true, true, true, true, true, true, false, true, false, false, false, false, false, false, false, false, false, false, false, false, false, false, false, false, false, false, false, false, false, false, false, false]) (qs := [(17, .g [])]) [(0, bF), (1, pt b2 0), (3, pt b3 0), (4, pt (b4 + 1) 0), (29, bT), (30, .agg #[iw 3, iw 1, iw 2]), (34, .agg #[sl b25 0 1 1]), (36, .agg #[bF, iw 0, .string ⟨#[97, 98]⟩])] [] [] [0, 1, 3, 4, 29, 30, 34, 36] (by intro c a w d v h; cases d <;> exact h) (by kernel_rfl) rfl trivial ?_
  refine Ok.pubP 5 rfl [.blk b2 [iw 3, iw 1, iw 10] 24, .blk (b2 + 1) [iw 3, iw 1, iw 2] 24, .blk b3 [iw 5, iw 1, iw 0] 24, .blk b4 [iw 1, .string ⟨#[97]⟩, iw 3, iw 0, iw 2, .string ⟨#[98]⟩, iw 5, iw 0] 34, .blk (b4 + 1) [sl b4 0 2 2, iw 3] 37] rfl ?_
  intro H26 le27 pf28
  refine Ok.one (i := 18) (fuel' := 24) (l' := [true, true, true, true, true, true, true, true, true, true, true, true, true, true, true, true, true, true, true, true, false, false, false, false, false, false, false, false, false, false, false, false, false, false, false, false, false, false, false, false, false, false, false, false]) (by kernel_rfl) rfl rfl (Eff.call0 (d := some 35) (by kernel_rfl) (x5_14 H26 b25 pf28) ?_)
  rintro v29 H30 k32 le31 rfl
  refine Ok.dropL ?_
  refine Ok.withS (idx := [0, 1, 2, 3, 4]) (SLe.trans le7 (SLe.trans le13 (SLe.trans le17 (SLe.trans le23 (SLe.trans le27 le31))))) rfl ?_
  refine Ok.take (fuel' := 19) (l' := [true, true, true, true, true, true, true, true, true, true, true, true, true, true, true, true, true, true, true, true, true, true, true, true, false, false, true, false, false, false, false, false, false, false, false, false, false, false, false, false, false, false, false, false]) (qs := [(20, .g []), (21, .g []), (22, .g []), (23, .g [.K 2 0, .K 2 1, .K 2 2]), (26, .g [])]) [(0, bF), (1, pt b2 0), (3, pt b3 0), (4, pt (b4 + 1) 0), (39, bT), (40, .agg #[iw 5, iw 1, iw 0]), (43, .agg #[bF, iw 1, s0])] [b3, b3, b3] [] [0, 1, 3, 4, 39, 40, 43] (by intro c a w d v h; cases d <;> exact h) (by kernel_rfl) rfl trivial ?_
  refine Ok.one (i := 24) (fuel' := 18) (l' := [true, true, true, true, true, true, true, true, true, true, true, true, true, true, true, true, true, true, true, true, true, true, true, true, true, false, true, false, false, false, false, false, false, false, false, false, false, false, false, false, false, false, false, false]) (by kernel_rfl) rfl rfl (Eff.call0 (d := some 41) (by kernel_rfl) (x6_19 H30) ?_)
  rintro v33 H34 k36 le35 ⟨q37, rfl, pf38⟩
  refine Ok.dropL ?_
  refine Ok.withS (idx := [0, 1, 2, 3, 4]) (SLe.trans le7 (SLe.trans le13 (SLe.trans le17 (SLe.trans le23 (SLe.trans le27 (SLe.trans le31 le35)))))) rfl ?_
  refine Ok.one (i := 25) (fuel' := 17) (l' := [true, true, true, true, true, true, true, true, true, true, true, true, true, true, true, true, true, true, true, true, true, true, true, true, true, true, true, false, false, false, false, false, false, false, false, false, false, false, false, false, false, false, false, false]) (by kernel_rfl) rfl rfl (Eff.call0 (d := some 42) (by kernel_rfl) (x5_20 H34 q37 pf38) ?_)
  rintro v39 H40 k42 le41 rfl
  refine Ok.dropL ?_
  refine Ok.withS (idx := [0, 1, 2, 3, 4]) (SLe.trans le7 (SLe.trans le13 (SLe.trans le17 (SLe.trans le23 (SLe.trans le27 (SLe.trans le31 (SLe.trans le35 le41))))))) rfl ?_
  refine Ok.take (fuel' := 12) (l' := [true, true, true, true, true, true, true, true, true, true, true, true, true, true, true, true, true, true, true, true, true, true, true, true, true, true, true, true, true, true, true, false, false, true, false, false, false, false, false, false, false, false, false, false]) (qs := [(27, .g []), (28, .g []), (29, .g []), (30, .g [.K 2 0, .K 2 1, .K 2 2]), (33, .g [])]) [(0, bF), (1, pt b2 0), (3, pt b3 0), (4, pt (b4 + 1) 0), (46, bT), (47, .agg #[iw 5, iw 1, iw 0]), (50, .agg #[bF, iw (-1), s0])] [b3, b3, b3] [] [0, 1, 3, 4, 46, 47, 50] (by intro c a w d v h; cases d <;> exact h) (by kernel_rfl) rfl trivial ?_
  refine Ok.one (i := 31) (fuel' := 11) (l' := [true, true, true, true, true, true, true, true, true, true, true, true, true, true, true, true, true, true, true, true, true, true, true, true, true, true, true, true, true, true, true, true, false, true, false, false, false, false, false, false, false, false, false, false]) (by kernel_rfl) rfl rfl (Eff.call0 (d := some 48) (by kernel_rfl) (x6_8 H40) ?_)
  rintro v43 H44 k46 le45 ⟨q47, rfl, pf48⟩
  refine Ok.dropL ?_
  refine Ok.withS (idx := [0, 1, 2, 3, 4]) (SLe.trans le7 (SLe.trans le13 (SLe.trans le17 (SLe.trans le23 (SLe.trans le27 (SLe.trans le31 (SLe.trans le35 (SLe.trans le41 le45)))))))) rfl ?_
  refine Ok.one (i := 32) (fuel' := 10) (l' := [true, true, true, true, true, true, true, true, true, true, true, true, true, true, true, true, true, true, true, true, true, true, true, true, true, true, true, true, true, true, true, true, true, true, false, false, false, false, false, false, false, false, false, false]) (by kernel_rfl) rfl rfl (Eff.call0 (d := some 49) (by kernel_rfl) (x5_25 H44 q47 pf48) ?_)
  rintro v49 H50 k52 le51 rfl
  refine Ok.dropL ?_
  refine Ok.withS (idx := [0, 1, 2, 3, 4]) (SLe.trans le7 (SLe.trans le13 (SLe.trans le17 (SLe.trans le23 (SLe.trans le27 (SLe.trans le31 (SLe.trans le35 (SLe.trans le41 (SLe.trans le45 le51))))))))) rfl ?_
  refine Ok.take (fuel' := 4) (l' := [true, true, true, true, true, true, true, true, true, true, true, true, true, true, true, true, true, true, true, true, true, true, true, true, true, true, true, true, true, true, true, true, true, true, true, true, true, true, true, false, true, false, false, false]) (qs := [(34, .g []), (35, .g []), (36, .g []), (37, .g [.K 0 0, .K 0 1, .K 0 2]), (38, .g []), (40, .g [])]) [(0, bF), (1, pt b2 0), (3, pt b3 0), (4, pt (b4 + 1) 0), (53, bT), (54, .agg #[iw 3, iw 1, iw 10]), (55, .agg #[n0]), (57, .agg #[bT, iw 0, s0])] [b2, b2, b2] [] [0, 1, 3, 4, 53, 54, 55, 57] (by intro c a w d v h; cases d <;> exact h) (by kernel_rfl) rfl trivial ?_
  refine Ok.one (i := 39) (fuel' := 3) (l' := [true, true, true, true, true, true, true, true, true, true, true, true, true, true, true, true, true, true, true, true, true, true, true, true, true, true, true, true, true, true, true, true, true, true, true, true, true, true, true, true, true, false, false, false]) (by kernel_rfl) rfl rfl (Eff.call0 (d := some 56) (by kernel_rfl) (x5_29 H50) ?_)
  rintro v53 H54 k56 le55 rfl
  refine Ok.dropL ?_
  refine Ok.withS (idx := [0, 1, 2, 3, 4]) (SLe.trans le7 (SLe.trans le13 (SLe.trans le17 (SLe.trans le23 (SLe.trans le27 (SLe.trans le31 (SLe.trans le35 (SLe.trans le41 (SLe.trans le45 (SLe.trans le51 le55)))))))))) rfl ?_
  refine Ok.take (fuel' := 1) (l' := [true, true, true, true, true, true, true, true, true, true, true, true, true, true, true, true, true, true, true, true, true, true, true, true, true, true, true, true, true, true, true, true, true, true, true, true, true, true, true, true, true, true, true, false]) (qs := [(41, .g []), (42, .g [])]) [(0, bF), (1, pt b2 0), (3, pt b3 0), (4, pt (b4 + 1) 0), (59, bT)] [] [] [0, 1, 3, 4, 59] (by intro c a w d v h; cases d <;> exact h) (by kernel_rfl) rfl trivial ?_
  refine Ok.one (i := 43) (fuel' := 0) (l' := [true, true, true, true, true, true, true, true, true, true, true, true, true, true, true, true, true, true, true, true, true, true, true, true, true, true, true, true, true, true, true, true, true, true, true, true, true, true, true, true, true, true, true, true]) (by kernel_rfl) rfl rfl (Eff.op (.g []) (fun _ => [(0, bF), (1, pt b2 0), (3, pt b3 0), (4, pt (b4 + 1) 0), (5, bT)]) (fun _ => [.blk b2 [iw 3, iw 1, iw 10] 24, .blk (b2 + 1) [iw 3, iw 1, iw 2] 24, .blk b3 [iw 5, iw 1, iw 0] 24, .blk b4 [iw 1, .string ⟨#[97]⟩, iw 3, iw 0, iw 2, .string ⟨#[98]⟩, iw 5, iw 0] 34, .blk (b4 + 1) [sl b4 0 2 2, iw 3] 37]) (fun _ => []) (fun _ => []) [0, 1, 3, 4, 5] (fun _ => by kernel_rfl) (fun _ => trivial) (fun _ => ?_))
  refine Ok.withS (idx := [0, 1, 2, 3, 4]) (SLe.trans le7 (SLe.trans le13 (SLe.trans le17 (SLe.trans le23 (SLe.trans le27 (SLe.trans le31 (SLe.trans le35 (SLe.trans le41 (SLe.trans le45 (SLe.trans le51 le55)))))))))) rfl ?_
  refine Ok.done (by kernel_rfl) ?_
  refine Ok.thenN ?_
  refine Ok.seq ?_
  refine Ok.start (idx := [0, 1, 2, 3, 4]) [] [.blk b2 [iw 3, iw 1, iw 10] 24, .blk (b2 + 1) [iw 3, iw 1, iw 2] 24, .blk b3 [iw 5, iw 1, iw 0] 24, .blk b4 [iw 1, .string ⟨#[97]⟩, iw 3, iw 0, iw 2, .string ⟨#[98]⟩, iw 5, iw 0] 34, .blk (b4 + 1) [sl b4 0 2 2, iw 3] 37] (by kernel_rfl) rfl rfl rfl ?_
  refine Ok.take (fuel' := 38) (l' := [true, false, false, false, false, false, false, false, false, false, false, false, false, false, false, false, false, false, false, false, false, false, false, false, false, false, false, false, false, false, false, false, false, false, false, false, false, false, false]) (qs := [(0, .g [.K 0 0, .K 0 1, .K 0 2])]) [(0, bF), (1, pt b2 0), (3, pt b3 0), (4, pt (b4 + 1) 0), (5, bT), (60, .agg #[iw 3, iw 1, iw 10])] [b2, b2, b2] [] [0, 1, 3, 4, 5, 60] (by intro c a w d v h; cases d <;> exact h) (by kernel_rfl) rfl trivial ?_
  refine Ok.one (i := 1) (fuel' := 37) (l' := [true, true, false, false, false, false, false, false, false, false, false, false, false, false, false, false, false, false, false, false, false, false, false, false, false, false, false, false, false, false, false, false, false, false, false, false, false, false, false]) (by kernel_rfl) rfl rfl (Eff.call0 (d := some 61) (by kernel_rfl) (x9_33 H54) ?_)
  rintro v58 H59 k61 le60 rfl
  refine Ok.dropL ?_
  refine Ok.withS (idx := [0, 1, 2, 3, 4]) le60 rfl ?_
  refine Ok.one (i := 2) (fuel' := 36) (l' := [true, true, true, false, false, false, false, false, false, false, false, false, false, false, false, false, false, false, false, false, false, false, false, false, false, false, false, false, false, false, false, false, false, false, false, false, false, false, false]) (by kernel_rfl) rfl rfl (Eff.call0 (d := some 62) (by kernel_rfl) (x8_34 H59) ?_)
  rintro v62 H63 k65 le64 rfl
  refine Ok.dropL ?_
  refine Ok.withS (idx := [0, 1, 2, 3, 4]) (SLe.trans le60 le64) rfl ?_
  refine Ok.one (i := 3) (fuel' := 35) (l' := [true, true, true, true, false, false, false, false, false, false, false, false, false, false, false, false, false, false, false, false, false, false, false, false, false, false, false, false, false, false, false, false, false, false, false, false, false, false, false]) (by kernel_rfl) rfl rfl (Eff.call0 (d := some 63) (by kernel_rfl) (x9_41 H63) ?_)
  rintro v66 H67 k69 le68 rfl
  refine Ok.dropL ?_
  refine Ok.withS (idx := [0, 1, 2, 3, 4]) (SLe.trans le60 (SLe.trans le64 le68)) rfl ?_
  refine Ok.one (i := 4) (fuel' := 34) (l' := [true, true, true, true, true, false, false, false, false, false, false, false, false, false, false, false, false, false, false, false, false, false, false, false, false, false, false, false, false, false, false, false, false, false, false, false, false, false, false]) (by kernel_rfl) rfl rfl (Eff.call0 (d := some 64) (by kernel_rfl) (x7_42 H67) ?_)
  rintro v70 H71 k73 le72 rfl
  refine Ok.dropL ?_
  refine Ok.withS (idx := [0, 1, 2, 3, 4]) (SLe.trans le60 (SLe.trans le64 (SLe.trans le68 le72))) rfl ?_
  refine Ok.take (fuel' := 32) (l' := [true, true, true, true, true, true, true, false, false, false, false, false, false, false, false, false, false, false, false, false, false, false, false, false, false, false, false, false, false, false, false, false, false, false, false, false, false, false, false]) (qs := [(5, .g []), (6, .g [.K 0 0, .K 0 1, .K 0 2])]) [(0, bF), (1, pt b2 0), (3, pt b3 0), (4, pt (b4 + 1) 0), (5, bT), (65, bT), (66, .agg #[iw 3, iw 1, iw 10])] [b2, b2, b2] [] [0, 1, 3, 4, 5, 65, 66] (by intro c a w d v h; cases d <;> exact h) (by kernel_rfl) rfl trivial ?_
  refine Ok.one (i := 7) (fuel' := 31) (l' := [true, true, true, true, true, true, true, true, false, false, false, false, false, false, false, false, false, false, false, false, false, false, false, false, false, false, false, false, false, false, false, false, false, false, false, false, false, false, false]) (by kernel_rfl) rfl rfl (Eff.call0 (d := some 67) (by kernel_rfl) (x9_33 H71) ?_)
  rintro v74 H75 k77 le76 rfl
  refine Ok.dropL ?_
  refine Ok.withS (idx := [0, 1, 2, 3, 4]) (SLe.trans le60 (SLe.trans le64 (SLe.trans le68 (SLe.trans le72 le76)))) rfl ?_
  refine Ok.one (i := 8) (fuel' := 30) (l' := [true, true, true, true, true, true, true, true, true, false, false, false, false, false, false, false, false, false, false, false, false, false, false, false, false, false, false, false, false, false, false, false, false, false, false, false, false, false, false]) (by kernel_rfl) rfl rfl (Eff.call0 (d := some 68) (by kernel_rfl) (x10_44 H75) ?_)
  rintro v78 H79 k81 le80 ⟨q82, rfl, pf83⟩
  refine Ok.dropL ?_
  refine Ok.withS (idx := [0, 1, 2, 3, 4]) (SLe.trans le60 (SLe.trans le64 (SLe.trans le68 (SLe.trans le72 (SLe.trans le76 le80))))) rfl ?_
  refine Ok.one (i := 9) (fuel' := 29) (l' := [true, true, true, true, true, true, true, true, true, true, false, false, false, false, false, false, false, false, false, false, false, false, false, false, false, false, false, false, false, false, false, false, false, false, false, false, false, false, false]) (by kernel_rfl) rfl rfl (Eff.call0 (d := some 69) (by kernel_rfl) (x8_45 H79 q82 pf83) ?_)
  rintro v84 H85 k87 le86 ⟨q88, rfl, pf89⟩
  refine Ok.dropL ?_
  refine Ok.withS (idx := [0, 1, 2, 3, 4]) (SLe.trans le60 (SLe.trans le64 (SLe.trans le68 (SLe.trans le72 (SLe.trans le76 (SLe.trans le80 le86)))))) rfl ?_
  refine Ok.one (i := 10) (fuel' := 28) (l' := [true, true, true, true, true, true, true, true, true, true, true, false, false, false, false, false, false, false, false, false, false, false, false, false, false, false, false, false, false, false, false, false, false, false, false, false, false, false, false]) (by kernel_rfl) rfl rfl (Eff.call0 (d := some 70) (by kernel_rfl) (x9_52 H85) ?_)
  rintro v90 H91 k93 le92 rfl
  refine Ok.dropL ?_
  refine Ok.withS (idx := [0, 1, 2, 3, 4]) (SLe.trans le60 (SLe.trans le64 (SLe.trans le68 (SLe.trans le72 (SLe.trans le76 (SLe.trans le80 (SLe.trans le86 le92))))))) rfl ?_
  refine Ok.one (i := 11) (fuel' := 27) (l' := [true, true, true, true, true, true, true, true, true, true, true, true, false, false, false, false, false, false, false, false, false, false, false, false, false, false, false, false, false, false, false, false, false, false, false, false, false, false, false]) (by kernel_rfl) rfl rfl (Eff.call0 (d := some 71) (by kernel_rfl) (x10_53 H91) ?_)
  rintro v94 H95 k97 le96 ⟨q98, rfl, pf99⟩
  refine Ok.dropL ?_
  refine Ok.withS (idx := [0, 1, 2, 3, 4]) (SLe.trans le60 (SLe.trans le64 (SLe.trans le68 (SLe.trans le72 (SLe.trans le76 (SLe.trans le80 (SLe.trans le86 (SLe.trans le92 le96)))))))) rfl ?_
  refine Ok.one (i := 12) (fuel' := 26) (l' := [true, true, true, true, true, true, true, true, true, true, true, true, true, false, false, false, false, false, false, false, false, false, false, false, false, false, false, false, false, false, false, false, false, false, false, false, false, false, false]) (by kernel_rfl) rfl rfl (Eff.call0 (d := some 72) (by kernel_rfl) (x7_54 H95 q88 q98 (Pre.mono (SLe.trans le92 le96) pf89) pf99) ?_)
  rintro v100 H101 k103 le102 rfl
  refine Ok.dropL ?_
  refine Ok.withS (idx := [0, 1, 2, 3, 4]) (SLe.trans le60 (SLe.trans le64 (SLe.trans le68 (SLe.trans le72 (SLe.trans le76 (SLe.trans le80 (SLe.trans le86 (SLe.trans le92 (SLe.trans le96 le102))))))))) rfl ?_
  refine Ok.take (fuel' := 23) (l' := [true, true, true, true, true, true, true, true, true, true, true, true, true, true, true, true, false, false, false, false, false, false, false, false, false, false, false, false, false, false, false, false, false, false, false, false, false, false, false]) (qs := [(13, .g []), (14, .g []), (15, .g [.K 2 0, .K 2 1, .K 2 2])]) [(0, bF), (1, pt b2 0), (3, pt b3 0), (4, pt (b4 + 1) 0), (5, bT), (74, bT), (75, .agg #[iw 5, iw 1, iw 0])] [b3, b3, b3] [] [0, 1, 3, 4, 5, 74, 75] (by intro c a w d v h; cases d <;> exact h) (by kernel_rfl) rfl trivial ?_
  refine Ok.one (i := 16) (fuel' := 22) (l' := [true, true, true, true, true, true, true, true, true, true, true, true, true, true, true, true, true, false, false, false, false, false, false, false, false, false, false, false, false, false, false, false, false, false, false, false, false, false, false]) (by kernel_rfl) rfl rfl (Eff.call0 (d := some 76) (by kernel_rfl) (x9_56 H101) ?_)
  rintro v104 H105 k107 le106 rfl
  refine Ok.dropL ?_
  refine Ok.withS (idx := [0, 1, 2, 3, 4]) (SLe.trans le60 (SLe.trans le64 (SLe.trans le68 (SLe.trans le72 (SLe.trans le76 (SLe.trans le80 (SLe.trans le86 (SLe.trans le92 (SLe.trans le96 (SLe.trans le102 le106)))))))))) rfl ?_
  refine Ok.one (i := 17) (fuel' := 21) (l' := [true, true, true, true, true, true, true, true, true, true, true, true, true, true, true, true, true, true, false, false, false, false, false, false, false, false, false, false, false, false, false, false, false, false, false, false, false, false, false]) (by kernel_rfl) rfl rfl (Eff.call0 (d := some 77) (by kernel_rfl) (x10_57 H105) ?_)
  rintro v108 H109 k111 le110 ⟨q112, rfl, pf113⟩
  refine Ok.dropL ?_
  refine Ok.withS (idx := [0, 1, 2, 3, 4]) (SLe.trans le60 (SLe.trans le64 (SLe.trans le68 (SLe.trans le72 (SLe.trans le76 (SLe.trans le80 (SLe.trans le86 (SLe.trans le92 (SLe.trans le96 (SLe.trans le102 (SLe.trans le106 le110))))))))))) rfl ?_
  refine Ok.one (i := 18) (fuel' := 20) (l' := [true, true, true, true, true, true, true, true, true, true, true, true, true, true, true, true, true, true, true, false, false, false, false, false, false, false, false, false, false, false, false, false, false, false, false, false, false, false, false]) (by kernel_rfl) rfl rfl (Eff.call0 (d := some 78) (by kernel_rfl) (x8_58 H109 q112 pf113) ?_)
  rintro v114 H115 k117 le116 ⟨q118, rfl, pf119⟩
  refine Ok.dropL ?_
  refine Ok.withS (idx := [0, 1, 2, 3, 4]) (SLe.trans le60 (SLe.trans le64 (SLe.trans le68 (SLe.trans le72 (SLe.trans le76 (SLe.trans le80 (SLe.trans le86 (SLe.trans le92 (SLe.trans le96 (SLe.trans le102 (SLe.trans le106 (SLe.trans le110 le116)))))))))))) rfl ?_
  refine Ok.one (i := 19) (fuel' := 19) (l' := [true, true, true, true, true, true, true, true, true, true, true, true, true, true, true, true, true, true, true, true, false, false, false, false, false, false, false, false, false, false, false, false, false, false, false, false, false, false, false]) (by kernel_rfl) rfl rfl (Eff.call0 (d := some 79) (by kernel_rfl) (x9_70 H115) ?_)
  rintro v120 H121 k123 le122 rfl
  refine Ok.dropL ?_
  refine Ok.withS (idx := [0, 1, 2, 3, 4]) (SLe.trans le60 (SLe.trans le64 (SLe.trans le68 (SLe.trans le72 (SLe.trans le76 (SLe.trans le80 (SLe.trans le86 (SLe.trans le92 (SLe.trans le96 (SLe.trans le102 (SLe.trans le106 (SLe.trans le110 (SLe.trans le116 le122))))))))))))) rfl ?_
  refine Ok.one (i := 20) (fuel' := 18) (l' := [true, true, true, true, true, true, true, true, true, true, true, true, true, true, true, true, true, true, true, true, true, false, false, false, false, false, false, false, false, false, false, false, false, false, false, false, false, false, false]) (by kernel_rfl) rfl rfl (Eff.call0 (d := some 80) (by kernel_rfl) (x10_71 H121) ?_)
  rintro v124 H125 k127 le126 ⟨q128, rfl, pf129⟩
  refine Ok.dropL ?_
  refine Ok.withS (idx := [0, 1, 2, 3, 4]) (SLe.trans le60 (SLe.trans le64 (SLe.trans le68 (SLe.trans le72 (SLe.trans le76 (SLe.trans le80 (SLe.trans le86 (SLe.trans le92 (SLe.trans le96 (SLe.trans le102 (SLe.trans le106 (SLe.trans le110 (SLe.trans le116 (SLe.trans le122 le126)))))))))))))) rfl ?_
  refine Ok.one (i := 21) (fuel' := 17) (l' := [true, true, true, true, true, true, true, true, true, true, true, true, true, true, true, true, true, true, true, true, true, true, false, false, false, false, false, false, false, false, false, false, false, false, false, false, false, false, false]) (by kernel_rfl) rfl rfl (Eff.call0 (d := some 81) (by kernel_rfl) (x7_72 H125 q118 q128 (Pre.mono (SLe.trans le122 le126) pf119) pf129) ?_)
  rintro v130 H131 k133 le132 rfl
  refine Ok.dropL ?_
  refine Ok.withS (idx := [0, 1, 2, 3, 4]) (SLe.trans le60 (SLe.trans le64 (SLe.trans le68 (SLe.trans le72 (SLe.trans le76 (SLe.trans le80 (SLe.trans le86 (SLe.trans le92 (SLe.trans le96 (SLe.trans le102 (SLe.trans le106 (SLe.trans le110 (SLe.trans le116 (SLe.trans le122 (SLe.trans le126 le132))))))))))))))) rfl ?_
  refine Ok.take (fuel' := 12) (l' := [true, true, true, true, true, true, true, true, true, true, true, true, true, true, true, true, true, true, true, true, true, true, true, true, true, true, false, true, false, false, false, false, false, false, false, false, false, false, false]) (qs := [(22, .g []), (23, .g []), (24, .g [.K 0 0, .K 0 1, .K 0 2]), (25, .g []), (27, .g [])]) [(0, bF), (1, pt b2 0), (3, pt b3 0), (4, pt (b4 + 1) 0), (5, bT), (83, bT), (84, .agg #[iw 3, iw 1, iw 10]), (85, .agg #[iw 4, iw 2, iw 0, iw 0, n0, s0, n0]), (87, .agg #[iw 0, iw 0, iw 0, iw 0, n0, s0, n0])] [b2, b2, b2] [] [0, 1, 3, 4, 5, 83, 84, 85, 87] (by intro c a w d v h; cases d <;> exact h) (by kernel_rfl) rfl trivial ?_
  refine Ok.one (i := 26) (fuel' := 11) (l' := [true, true, true, true, true, true, true, true, true, true, true, true, true, true, true, true, true, true, true, true, true, true, true, true, true, true, true, true, false, false, false, false, false, false, false, false, false, false, false]) (by kernel_rfl) rfl rfl (Eff.call0 (d := some 86) (by kernel_rfl) (x8_74 H131) ?_)
  rintro v134 H135 k137 le136 rfl
  refine Ok.dropL ?_
  refine Ok.withS (idx := [0, 1, 2, 3, 4]) (SLe.trans le60 (SLe.trans le64 (SLe.trans le68 (SLe.trans le72 (SLe.trans le76 (SLe.trans le80 (SLe.trans le86 (SLe.trans le92 (SLe.trans le96 (SLe.trans le102 (SLe.trans le106 (SLe.trans le110 (SLe.trans le116 (SLe.trans le122 (SLe.trans le126 (SLe.trans le132 le136)))))))))))))))) rfl ?_
  refine Ok.one (i := 28) (fuel' := 10) (l' := [true, true, true, true, true, true, true, true, true, true, true, true, true, true, true, true, true, true, true, true, true, true, true, true, true, true, true, true, true, false, false, false, false, false, false, false, false, false, false]) (by kernel_rfl) rfl rfl (Eff.call0 (d := some 88) (by kernel_rfl) (x7_76 H135) ?_)
  rintro v138 H139 k141 le140 rfl
  refine Ok.dropL ?_
  refine Ok.withS (idx := [0, 1, 2, 3, 4]) (SLe.trans le60 (SLe.trans le64 (SLe.trans le68 (SLe.trans le72 (SLe.trans le76 (SLe.trans le80 (SLe.trans le86 (SLe.trans le92 (SLe.trans le96 (SLe.trans le102 (SLe.trans le106 (SLe.trans le110 (SLe.trans le116 (SLe.trans le122 (SLe.trans le126 (SLe.trans le132 (SLe.trans le136 le140))))))))))))))))) rfl ?_
  refine Ok.take (fuel' := 5) (l' := [true, true, true, true, true, true, true, true, true, true, true, true, true, true, true, true, true, true, true, true, true, true, true, true, true, true, true, true, true, true, true, true, true, false, false, true, false, false, false]) (qs := [(29, .g []), (30, .g []), (31, .g [.K 0 0, .K 0 1, .K 0 2]), (32, .g []), (35, .g [])]) [(0, bF), (1, pt b2 0), (3, pt b3 0), (4, pt (b4 + 1) 0), (5, bT), (90, bT), (91, .agg #[iw 3, iw 1, iw 10]), (92, .agg #[iw 0, iw 0, iw 0, iw 0, n0, s0, n0]), (95, .agg #[iw 6, iw 0, iw 0, iw 0, n0, s0, n0])] [b2, b2, b2] [] [0, 1, 3, 4, 5, 90, 91, 92, 95] (by intro c a w d v h; cases d <;> exact h) (by kernel_rfl) rfl trivial ?_
  refine Ok.one (i := 33) (fuel' := 4) (l' := [true, true, true, true, true, true, true, true, true, true, true, true, true, true, true, true, true, true, true, true, true, true, true, true, true, true, true, true, true, true, true, true, true, true, false, true, false, false, false]) (by kernel_rfl) rfl rfl (Eff.call0 (d := some 93) (by kernel_rfl) (x10_77 H139) ?_)
  rintro v142 H143 k145 le144 ⟨q146, rfl, pf147⟩
  refine Ok.dropL ?_
  refine Ok.withS (idx := [0, 1, 2, 3, 4]) (SLe.trans le60 (SLe.trans le64 (SLe.trans le68 (SLe.trans le72 (SLe.trans le76 (SLe.trans le80 (SLe.trans le86 (SLe.trans le92 (SLe.trans le96 (SLe.trans le102 (SLe.trans le106 (SLe.trans le110 (SLe.trans le116 (SLe.trans le122 (SLe.trans le126 (SLe.trans le132 (SLe.trans le136 (SLe.trans le140 le144)))))))))))))))))) rfl ?_
  refine Ok.one (i := 34) (fuel' := 3) (l' := [true, true, true, true, true, true, true, true, true, true, true, true, true, true, true, true, true, true, true, true, true, true, true, true, true, true, true, true, true, true, true, true, true, true, true, true, false, false, false]) (by kernel_rfl) rfl rfl (Eff.call0 (d := some 94) (by kernel_rfl) (x8_78 H143 q146 pf147) ?_)
  rintro v148 H149 k151 le150 rfl
  refine Ok.dropL ?_
  refine Ok.withS (idx := [0, 1, 2, 3, 4]) (SLe.trans le60 (SLe.trans le64 (SLe.trans le68 (SLe.trans le72 (SLe.trans le76 (SLe.trans le80 (SLe.trans le86 (SLe.trans le92 (SLe.trans le96 (SLe.trans le102 (SLe.trans le106 (SLe.trans le110 (SLe.trans le116 (SLe.trans le122 (SLe.trans le126 (SLe.trans le132 (SLe.trans le136 (SLe.trans le140 (SLe.trans le144 le150))))))))))))))))))) rfl ?_
  refine Ok.one (i := 36) (fuel' := 2) (l' := [true, true, true, true, true, true, true, true, true, true, true, true, true, true, true, true, true, true, true, true, true, true, true, true, true, true, true, true, true, true, true, true, true, true, true, true, true, false, false]) (by kernel_rfl) rfl rfl (Eff.call0 (d := some 96) (by kernel_rfl) (x7_81 H149) ?_)
  rintro v152 H153 k155 le154 rfl
  refine Ok.dropL ?_
  refine Ok.withS (idx := [0, 1, 2, 3, 4]) (SLe.trans le60 (SLe.trans le64 (SLe.trans le68 (SLe.trans le72 (SLe.trans le76 (SLe.trans le80 (SLe.trans le86 (SLe.trans le92 (SLe.trans le96 (SLe.trans le102 (SLe.trans le106 (SLe.trans le110 (SLe.trans le116 (SLe.trans le122 (SLe.trans le126 (SLe.trans le132 (SLe.trans le136 (SLe.trans le140 (SLe.trans le144 (SLe.trans le150 le154)))))))))))))))))))) rfl ?_
  refine Ok.take (fuel' := 1) (l' := [true, true, true, true, true, true, true, true, true, true, true, true, true, true, true, true, true, true, true, true, true, true, true, true, true, true, true, true, true, true, true, true, true, true, true, true, true, true, false]) (qs := [(37, .g [])]) [(0, bF), (1, pt b2 0), (3, pt b3 0), (4, pt (b4 + 1) 0), (5, bT), (97, bT)] [] [] [0, 1, 3, 4, 5, 97] (by intro c a w d v h; cases d <;> exact h) (by kernel_rfl) rfl trivial ?_
  refine Ok.one (i := 38) (fuel' := 0) (l' := [true, true, true, true, true, true, true, true, true, true, true, true, true, true, true, true, true, true, true, true, true, true, true, true, true, true, true, true, true, true, true, true, true, true, true, true, true, true, true]) (by kernel_rfl) rfl rfl (Eff.op (.g []) (fun _ => [(0, bF), (1, pt b2 0), (3, pt b3 0), (4, pt (b4 + 1) 0), (5, bT), (6, bT)]) (fun _ => [.blk b2 [iw 3, iw 1, iw 10] 24, .blk (b2 + 1) [iw 3, iw 1, iw 2] 24, .blk b3 [iw 5, iw 1, iw 0] 24, .blk b4 [iw 1, .string ⟨#[97]⟩, iw 3, iw 0, iw 2, .string ⟨#[98]⟩, iw 5, iw 0] 34, .blk (b4 + 1) [sl b4 0 2 2, iw 3] 37]) (fun _ => []) (fun _ => []) [0, 1, 3, 4, 5, 6] (fun _ => by kernel_rfl) (fun _ => trivial) (fun _ => ?_))
  refine Ok.withS (idx := [0, 1, 2, 3, 4]) (SLe.trans le60 (SLe.trans le64 (SLe.trans le68 (SLe.trans le72 (SLe.trans le76 (SLe.trans le80 (SLe.trans le86 (SLe.trans le92 (SLe.trans le96 (SLe.trans le102 (SLe.trans le106 (SLe.trans le110 (SLe.trans le116 (SLe.trans le122 (SLe.trans le126 (SLe.trans le132 (SLe.trans le136 (SLe.trans le140 (SLe.trans le144 (SLe.trans le150 le154)))))))))))))))))))) rfl ?_
  refine Ok.done (by kernel_rfl) ?_
  refine Ok.thenN ?_
  refine Ok.seq ?_
  refine Ok.pubP 3 rfl [.blk b2 [iw 3, iw 1, iw 10] 24, .blk (b2 + 1) [iw 3, iw 1, iw 2] 24, .blk b3 [iw 5, iw 1, iw 0] 24, .blk (b4 + 1) [sl b4 0 2 2, iw 3] 37] rfl ?_
  intro H157 le158 pf159
  refine Ok.start (idx := [0, 1, 2, 3]) [] [.blk b2 [iw 3, iw 1, iw 10] 24, .blk (b2 + 1) [iw 3, iw 1, iw 2] 24, .blk b3 [iw 5, iw 1, iw 0] 24, .blk (b4 + 1) [sl b4 0 2 2, iw 3] 37] (by kernel_rfl) rfl rfl rfl ?_
  refine Ok.take (fuel' := 23) (l' := [true, true, true, false, false, false, false, false, false, false, false, false, false, false, false, false, false, false, false, false, false, false, false, false, false, false]) (qs := [(0, .g [.K 3 0, .K 3 1]), (1, .g [.K 0 0, .K 0 1, .K 0 2]), (2, .g [])]) [(0, bF), (1, pt b2 0), (3, pt b3 0), (4, pt (b4 + 1) 0), (5, bT), (6, bT), (98, .agg #[sl b4 0 2 2, iw 3]), (99, .agg #[iw 3, iw 1, iw 10]), (100, .agg #[iw 5, iw 2, iw 0])] [b4 + 1, b4 + 1, b2, b2, b2] [] [0, 1, 3, 4, 5, 6, 98, 99, 100] (by intro c a w d v h; cases d <;> exact h) (by kernel_rfl) rfl trivial ?_
  refine Ok.one (i := 3) (fuel' := 22) (l' := [true, true, true, true, false, false, false, false, false, false, false, false, false, false, false, false, false, false, false, false, false, false, false, false, false, false]) (by kernel_rfl) rfl rfl (Eff.op (.g [.N]) (fun b160 => [(0, bF), (1, pt b2 0), (3, pt b3 0), (4, pt (b4 + 1) 0), (5, bT), (6, bT), (98, .agg #[sl b4 0 2 2, iw 3]), (101, sl b160 0 2 2)]) (fun b160 => [.blk b2 [iw 3, iw 1, iw 10] 24, .blk (b2 + 1) [iw 3, iw 1, iw 2] 24, .blk b3 [iw 5, iw 1, iw 0] 24, .blk (b4 + 1) [sl b4 0 2 2, iw 3] 37, .blk b160 [iw 3, iw 1, iw 10, iw 5, iw 2, iw 0] 24]) (fun b160 => []) (fun b160 => []) [0, 1, 3, 4, 5, 6, 98, 101] (fun b160 => by kernel_rfl) (fun b160 => trivial) (fun b160 => ?_))
  refine Ok.withS (idx := [0, 1, 2, 3]) (SLe.refl _) rfl ?_
  refine Ok.pubP 4 rfl [.blk b2 [iw 3, iw 1, iw 10] 24, .blk (b2 + 1) [iw 3, iw 1, iw 2] 24, .blk b3 [iw 5, iw 1, iw 0] 24, .blk (b4 + 1) [sl b4 0 2 2, iw 3] 37] rfl ?_
  intro H161 le162 pf163
  refine Ok.one (i := 4) (fuel' := 21) (l' := [true, true, true, true, true, false, false, false, false, false, false, false, false, false, false, false, false, false, false, false, false, false, false, false, false, false]) (by kernel_rfl) rfl rfl (Eff.call0 (d := some 102) (by kernel_rfl) (x11_82 H161 b4 b160 (Pre.mono le162 pf159) pf163) ?_)
  rintro v164 H165 k167 le166 rfl
  refine Ok.dropL ?_
  refine Ok.withS (idx := [0, 1, 2, 3]) (SLe.trans le162 le166) rfl ?_
  refine Ok.take (fuel' := 18) (l' := [true, true, true, true, true, true, true, true, false, false, false, false, false, false, false, false, false, false, false, false, false, false, false, false, false, false]) (qs := [(5, .g []), (6, .g [.K 3 0, .K 3 1]), (7, .g [.K 2 0, .K 2 1, .K 2 2])]) [(0, bF), (1, pt b2 0), (4, pt (b4 + 1) 0), (5, bT), (6, bT), (103, bT), (104, .agg #[sl b4 0 2 2, iw 3]), (105, .agg #[iw 5, iw 1, iw 0])] [b4 + 1, b4 + 1, b3, b3, b3] [] [0, 1, 4, 5, 6, 103, 104, 105] (by intro c a w d v h; cases d <;> exact h) (by kernel_rfl) rfl trivial ?_
  refine Ok.one (i := 8) (fuel' := 17) (l' := [true, true, true, true, true, true, true, true, true, false, false, false, false, false, false, false, false, false, false, false, false, false, false, false, false, false]) (by kernel_rfl) rfl rfl (Eff.op (.g [.N]) (fun b168 => [(0, bF), (1, pt b2 0), (4, pt (b4 + 1) 0), (5, bT), (6, bT), (103, bT), (104, .agg #[sl b4 0 2 2, iw 3]), (106, sl b168 0 1 1)]) (fun b168 => [.blk b2 [iw 3, iw 1, iw 10] 24, .blk (b2 + 1) [iw 3, iw 1, iw 2] 24, .blk b3 [iw 5, iw 1, iw 0] 24, .blk (b4 + 1) [sl b4 0 2 2, iw 3] 37, .blk b168 [iw 5, iw 1, iw 0] 24]) (fun b168 => []) (fun b168 => []) [0, 1, 4, 5, 6, 103, 104, 106] (fun b168 => by kernel_rfl) (fun b168 => trivial) (fun b168 => ?_))
  refine Ok.withS (idx := [0, 1, 2, 3]) (SLe.trans le162 le166) rfl ?_
  refine Ok.pubP 4 rfl [.blk b2 [iw 3, iw 1, iw 10] 24, .blk (b2 + 1) [iw 3, iw 1, iw 2] 24, .blk b3 [iw 5, iw 1, iw 0] 24, .blk (b4 + 1) [sl b4 0 2 2, iw 3] 37] rfl ?_
  intro H169 le170 pf171
  refine Ok.one (i := 9) (fuel' := 16) (l' := [true, true, true, true, true, true, true, true, true, true, false, false, false, false, false, false, false, false, false, false, false, false, false, false, false, false]) (by kernel_rfl) rfl rfl (Eff.call0 (d := some 107) (by kernel_rfl) (x11_94 H169 b4 b168 (Pre.mono (SLe.trans le162 (SLe.trans le166 le170)) pf159) pf171) ?_)
  rintro v172 H173 k175 le174 rfl
  refine Ok.dropL ?_
  refine Ok.withS (idx := [0, 1, 2, 3]) (SLe.trans le162 (SLe.trans le166 (SLe.trans le170 le174))) rfl ?_
  refine Ok.take (fuel' := 11) (l' := [true, true, true, true, true, true, true, true, true, true, true, true, true, true, true, false, false, false, false, false, false, false, false, false, false, false]) (qs := [(10, .g []), (11, .g []), (12, .g []), (13, .g [.K 3 0, .K 3 1]), (14, .g [])]) [(0, bF), (1, pt b2 0), (4, pt (b4 + 1) 0), (5, bT), (6, bT), (110, bT), (111, .agg #[sl b4 0 2 2, iw 3]), (112, .agg #[iw 2, iw 1, iw 0])] [b4 + 1, b4 + 1] [] [0, 1, 4, 5, 6, 110, 111, 112] (by intro c a w d v h; cases d <;> exact h) (by kernel_rfl) rfl trivial ?_
  refine Ok.one (i := 15) (fuel' := 10) (l' := [true, true, true, true, true, true, true, true, true, true, true, true, true, true, true, true, false, false, false, false, false, false, false, false, false, false]) (by kernel_rfl) rfl rfl (Eff.op (.g [.N]) (fun b176 => [(0, bF), (1, pt b2 0), (4, pt (b4 + 1) 0), (5, bT), (6, bT), (110, bT), (111, .agg #[sl b4 0 2 2, iw 3]), (113, sl b176 0 1 1)]) (fun b176 => [.blk b2 [iw 3, iw 1, iw 10] 24, .blk (b2 + 1) [iw 3, iw 1, iw 2] 24, .blk b3 [iw 5, iw 1, iw 0] 24, .blk (b4 + 1) [sl b4 0 2 2, iw 3] 37, .blk b176 [iw 2, iw 1, iw 0] 24]) (fun b176 => []) (fun b176 => []) [0, 1, 4, 5, 6, 110, 111, 113] (fun b176 => by kernel_rfl) (fun b176 => trivial) (fun b176 => ?_))
  refine Ok.withS (idx := [0, 1, 2, 3]) (SLe.trans le162 (SLe.trans le166 (SLe.trans le170 le174))) rfl ?_
  refine Ok.pubP 4 rfl [.blk b2 [iw 3, iw 1, iw 10] 24, .blk (b2 + 1) [iw 3, iw 1, iw 2] 24, .blk b3 [iw 5, iw 1, iw 0] 24, .blk (b4 + 1) [sl b4 0 2 2, iw 3] 37] rfl ?_
  intro H177 le178 pf179
  refine Ok.one (i := 16) (fuel' := 9) (l' := [true, true, true, true, true, true, true, true, true, true, true, true, true, true, true, true, true, false, false, false, false, false, false, false, false, false]) (by kernel_rfl) rfl rfl (Eff.call0 (d := some 114) (by kernel_rfl) (x11_96 H177 b4 b176 (Pre.mono (SLe.trans le162 (SLe.trans le166 (SLe.trans le170 (SLe.trans le174 le178)))) pf159) pf179) ?_)
  rintro v180 H181 k183 le182 rfl
  refine Ok.dropL ?_
  refine Ok.withS (idx := [0, 1, 2, 3]) (SLe.trans le162 (SLe.trans le166 (SLe.trans le170 (SLe.trans le174 (SLe.trans le178 le182))))) rfl ?_
  refine Ok.take (fuel' := 5) (l' := [true, true, true, true, true, true, true, true, true, true, true, true, true, true, true, true, true, true, true, true, true, false, false, false, false, false]) (qs := [(17, .g []), (18, .g []), (19, .g []), (20, .g [.K 3 0, .K 3 1])]) [(0, bF), (1, pt b2 0), (5, bT), (6, bT), (117, bT), (118, .agg #[sl b4 0 2 2, iw 3])] [b4 + 1, b4 + 1] [] [0, 1, 5, 6, 117, 118] (by intro c a w d v h; cases d <;> exact h) (by kernel_rfl) rfl trivial ?_
  refine Ok.one (i := 21) (fuel' := 4) (l' := [true, true, true, true, true, true, true, true, true, true, true, true, true, true, true, true, true, true, true, true, true, true, false, false, false, false]) (by kernel_rfl) rfl rfl (Eff.op (.g [.N]) (fun b184 => [(0, bF), (1, pt b2 0), (5, bT), (6, bT), (117, bT), (118, .agg #[sl b4 0 2 2, iw 3]), (119, sl b184 0 9 9)]) (fun b184 => [.blk b2 [iw 3, iw 1, iw 10] 24, .blk (b2 + 1) [iw 3, iw 1, iw 2] 24, .blk b3 [iw 5, iw 1, iw 0] 24, .blk (b4 + 1) [sl b4 0 2 2, iw 3] 37, .blk b184 [iw 0, iw 0, iw 0, iw 0, iw 0, iw 0, iw 0, iw 0, iw 0, iw 0, iw 0, iw 0, iw 0, iw 0, iw 0, iw 0, iw 0, iw 0, iw 0, iw 0, iw 0, iw 0, iw 0, iw 0, iw 0, iw 0, iw 0] 24]) (fun b184 => []) (fun b184 => []) [0, 1, 5, 6, 117, 118, 119] (fun b184 => by kernel_rfl) (fun b184 => trivial) (fun b184 => ?_))
  refine Ok.withS (idx := [0, 1, 2, 3]) (SLe.trans le162 (SLe.trans le166 (SLe.trans le170 (SLe.trans le174 (SLe.trans le178 le182))))) rfl ?_
  refine Ok.pubP 4 rfl [.blk b2 [iw 3, iw 1, iw 10] 24, .blk (b2 + 1) [iw 3, iw 1, iw 2] 24, .blk b3 [iw 5, iw 1, iw 0] 24, .blk (b4 + 1) [sl b4 0 2 2, iw 3] 37] rfl ?_
  intro H185 le186 pf187
  refine Ok.one (i := 22) (fuel' := 3) (l' := [true, true, true, true, true, true, true, true, true, true, true, true, true, true, true, true, true, true, true, true, true, true, true, false, false, false]) (by kernel_rfl) rfl rfl (Eff.call0 (d := some 120) (by kernel_rfl) (x11_98 H185 b4 b184 (Pre.mono (SLe.trans le162 (SLe.trans le166 (SLe.trans le170 (SLe.trans le174 (SLe.trans le178 (SLe.trans le182 le186)))))) pf159) pf187) ?_)
  rintro v188 H189 k191 le190 rfl
  refine Ok.dropL ?_
  refine Ok.withS (idx := [0, 1, 2, 3]) (SLe.trans le162 (SLe.trans le166 (SLe.trans le170 (SLe.trans le174 (SLe.trans le178 (SLe.trans le182 (SLe.trans le186 le190))))))) rfl ?_
  refine Ok.take (fuel' := 1) (l' := [true, true, true, true, true, true, true, true, true, true, true, true, true, true, true, true, true, true, true, true, true, true, true, true, true, false]) (qs := [(23, .g []), (24, .g [])]) [(0, bF), (1, pt b2 0), (5, bT), (6, bT), (122, bT)] [] [] [0, 1, 5, 6, 122] (by intro c a w d v h; cases d <;> exact h) (by kernel_rfl) rfl trivial ?_
  refine Ok.one (i := 25) (fuel' := 0) (l' := [true, true, true, true, true, true, true, true, true, true, true, true, true, true, true, true, true, true, true, true, true, true, true, true, true, true]) (by kernel_rfl) rfl rfl (Eff.op (.g []) (fun _ => [(0, bF), (1, pt b2 0), (5, bT), (6, bT), (7, bT)]) (fun _ => [.blk b2 [iw 3, iw 1, iw 10] 24, .blk (b2 + 1) [iw 3, iw 1, iw 2] 24, .blk b3 [iw 5, iw 1, iw 0] 24, .blk (b4 + 1) [sl b4 0 2 2, iw 3] 37]) (fun _ => []) (fun _ => []) [0, 1, 5, 6, 7] (fun _ => by kernel_rfl) (fun _ => trivial) (fun _ => ?_))
  refine Ok.withS (idx := [0, 1, 2, 3]) (SLe.trans le162 (SLe.trans le166 (SLe.trans le170 (SLe.trans le174 (SLe.trans le178 (SLe.trans le182 (SLe.trans le186 le190))))))) rfl ?_
  refine Ok.done (by kernel_rfl) ?_
  refine Ok.thenN ?_
  refine Ok.seq ?_
  refine Ok.start (idx := [0, 1, 2, 3]) [] [.blk b2 [iw 3, iw 1, iw 10] 24, .blk (b2 + 1) [iw 3, iw 1, iw 2] 24, .blk b3 [iw 5, iw 1, iw 0] 24, .blk (b4 + 1) [sl b4 0 2 2, iw 3] 37] (by kernel_rfl) rfl rfl rfl ?_
  refine Ok.take (fuel' := 7) (l' := [true, false, false, false, false, true, false, false, false]) (qs := [(0, .g [.K 0 0, .K 0 1, .K 0 2]), (5, .g [])]) [(0, bF), (1, pt b2 0), (5, bT), (6, bT), (7, bT), (123, .agg #[iw 3, iw 1, iw 10]), (128, .agg #[n0])] [b2, b2, b2] [] [0, 1, 5, 6, 7, 123, 128] (by intro c a w d v h; cases d <;> exact h) (by kernel_rfl) rfl trivial ?_
  refine Ok.join (ι := Nat × Nat × Nat × Nat × Nat) (fun y193 => [(0, bF), (1, pt b2 0), (5, bT), (6, bT), (7, bT), (124, sl y193.1 0 1 1), (129, sl y193.2.1 0 4 4)]) (fun y193 => [.blk b2 [iw 3, iw 1, iw 10] 24, .blk (b2 + 1) [iw 3, iw 1, iw 2] 24, .blk b3 [iw 5, iw 1, iw 0] 24, .blk (b4 + 1) [sl b4 0 2 2, iw 3] 37]) (fun H' y193 => Pre H' (y193.1) [iw 3, iw 1, iw 10] ∧ Pre H' (y193.2.1) [sl y193.2.2.1 0 1 1, sl y193.2.2.2.1 0 1 1, sl y193.2.2.2.2 0 1 1, n0] ∧ Pre H' (y193.2.2.1) [iw 1, bF, iw 17, s0] ∧ Pre H' (y193.2.2.2.1) [iw 1, bF, iw 5, s0] ∧ Pre H' (y193.2.2.2.2) [iw 1, bF, iw 12, s0]) 2 [true, true, true, true, true, true, true, false, false] ?_ (fun J194 => ?_)
  · rintro H200 ⟨q195, q196, q197, q198, q199⟩ le201 ⟨pf202, pf203, pf204, pf205, pf206⟩
    refine Ok.one (i := 7) (fuel' := 1) (l' := [true, true, true, true, true, true, true, true, false]) (by kernel_rfl) rfl rfl (Eff.call0 (d := some 130) (by kernel_rfl) (x12_106 H200 q195 q196 q197 q198 q199 pf202 pf203 pf204 pf205 pf206) ?_)
    rintro v207 H208 k210 le209 ⟨q211, q212, q213, q214, d215, d216, d217, rfl, pf218, pf219, pf220, pf221⟩
    refine Ok.dropL ?_
    refine Ok.withS (idx := [0, 1, 2, 3]) (SLe.trans le201 le209) rfl ?_
    refine Ok.one (i := 8) (fuel' := 0) (l' := [true, true, true, true, true, true, true, true, true]) (by kernel_rfl) rfl rfl (Eff.op (.g []) (fun _ => [(0, bF), (1, pt b2 0), (5, bT), (6, bT), (7, bT), (8, sl q211 0 3 3)]) (fun _ => [.blk b2 [iw 3, iw 1, iw 10] 24, .blk (b2 + 1) [iw 3, iw 1, iw 2] 24, .blk b3 [iw 5, iw 1, iw 0] 24, .blk (b4 + 1) [sl b4 0 2 2, iw 3] 37]) (fun _ => []) (fun _ => []) [0, 1, 5, 6, 7, 8] (fun _ => by kernel_rfl) (fun _ => trivial) (fun _ => ?_))
    refine Ok.withS (idx := [0, 1, 2, 3]) (SLe.trans le201 le209) rfl ?_
    refine Ok.done (by kernel_rfl) ?_
    refine Ok.thenN ?_
    refine Ok.seq ?_
    refine Ok.start (idx := [0, 1, 2, 3]) [] [.blk b2 [iw 3, iw 1, iw 10] 24, .blk (b2 + 1) [iw 3, iw 1, iw 2] 24, .blk b3 [iw 5, iw 1, iw 0] 24, .blk (b4 + 1) [sl b4 0 2 2, iw 3] 37] (by kernel_rfl) rfl rfl rfl ?_
    refine Ok.take (fuel' := 14) (l' := [true, false, true, false, false, false, false, false, false, false, false, false, false, false, false, false]) (qs := [(0, .g [.K 0 0, .K 0 1, .K 0 2]), (2, .g [])]) [(0, bF), (1, pt b2 0), (5, bT), (6, bT), (7, bT), (8, sl q211 0 3 3), (131, .agg #[iw 3, iw 1, iw 10]), (133, .agg #[bF, iw 10, s0])] [b2, b2, b2] [] [0, 1, 5, 6, 7, 8, 131, 133] (by intro c a w d v h; cases d <;> exact h) (by kernel_rfl) rfl trivial ?_
    refine Ok.join (ι := Nat × Nat) (fun y223 => [(0, bF), (1, pt b2 0), (5, bT), (6, bT), (7, bT), (8, sl q211 0 3 3), (132, sl y223.1 0 1 1), (134, sl y223.2 0 1 1), (135, .agg #[iw 1, iw 1, iw 19, iw 30, n0, s0, n0])]) (fun y223 => [.blk b2 [iw 3, iw 1, iw 10] 24, .blk (b2 + 1) [iw 3, iw 1, iw 2] 24, .blk b3 [iw 5, iw 1, iw 0] 24, .blk (b4 + 1) [sl b4 0 2 2, iw 3] 37]) (fun H' y223 => Pre H' (y223.1) [iw 3, iw 1, iw 10] ∧ Pre H' (y223.2) [bF, iw 10, s0]) 11 [true, true, true, true, true, false, false, false, false, false, false, false, false, false, false, false] ?_ (fun J224 => ?_)
    · rintro H227 ⟨q225, q226⟩ le228 ⟨pf229, pf230⟩
      refine Ok.one (i := 5) (fuel' := 10) (l' := [true, true, true, true, true, true, false, false, false, false, false, false, false, false, false, false]) (by kernel_rfl) rfl rfl (Eff.call0 (d := some 136) (by kernel_rfl) (x13_151 H227 q225 q226 pf229 pf230) ?_)
      rintro v231 H232 k234 le233 rfl
      refine Ok.dropL ?_
      refine Ok.withS (idx := [0, 1, 2, 3]) (SLe.trans le228 le233) rfl ?_
      refine Ok.take (fuel' := 7) (l' := [true, true, true, true, true, true, true, true, false, true, false, false, false, false, false, false]) (qs := [(6, .g []), (7, .g [.K 0 0, .K 0 1, .K 0 2]), (9, .g [])]) [(0, bF), (5, bT), (6, bT), (7, bT), (8, sl q211 0 3 3), (137, bT), (138, .agg #[iw 3, iw 1, iw 10]), (140, .agg #[bF, iw 10, s0])] [b2, b2, b2] [] [0, 5, 6, 7, 8, 137, 138, 140] (by intro c a w d v h; cases d <;> exact h) (by kernel_rfl) rfl trivial ?_
      refine Ok.join (ι := Nat × Nat) (fun y235 => [(0, bF), (5, bT), (6, bT), (7, bT), (8, sl q211 0 3 3), (137, bT), (139, sl y235.1 0 1 1), (141, sl y235.2 0 1 1), (142, .agg #[iw 1, iw 1, iw 20, iw 30, n0, s0, n0])]) (fun y235 => [.blk b2 [iw 3, iw 1, iw 10] 24, .blk (b2 + 1) [iw 3, iw 1, iw 2] 24, .blk b3 [iw 5, iw 1, iw 0] 24, .blk (b4 + 1) [sl b4 0 2 2, iw 3] 37]) (fun H' y235 => Pre H' (y235.1) [iw 3, iw 1, iw 10] ∧ Pre H' (y235.2) [bF, iw 10, s0]) 4 [true, true, true, true, true, true, true, true, true, true, true, true, false, false, false, false] ?_ (fun J236 => ?_)
      · rintro H239 ⟨q237, q238⟩ le240 ⟨pf241, pf242⟩
        refine Ok.one (i := 12) (fuel' := 3) (l' := [true, true, true, true, true, true, true, true, true, true, true, true, true, false, false, false]) (by kernel_rfl) rfl rfl (Eff.call0 (d := some 143) (by kernel_rfl) (x13_164 H239 q237 q238 pf241 pf242) ?_)
        rintro v243 H244 k246 le245 rfl
        refine Ok.dropL ?_
        refine Ok.withS (idx := [0, 1, 2, 3]) (SLe.trans le228 (SLe.trans le233 (SLe.trans le240 le245))) rfl ?_
        refine Ok.take (fuel' := 1) (l' := [true, true, true, true, true, true, true, true, true, true, true, true, true, true, true, false]) (qs := [(13, .g []), (14, .g [])]) [(0, bF), (5, bT), (6, bT), (7, bT), (8, sl q211 0 3 3), (145, bT)] [] [] [0, 5, 6, 7, 8, 145] (by intro c a w d v h; cases d <;> exact h) (by kernel_rfl) rfl trivial ?_
        refine Ok.one (i := 15) (fuel' := 0) (l' := [true, true, true, true, true, true, true, true, true, true, true, true, true, true, true, true]) (by kernel_rfl) rfl rfl (Eff.op (.g []) (fun _ => [(0, bF), (5, bT), (6, bT), (7, bT), (8, sl q211 0 3 3), (9, bT)]) (fun _ => [.blk b2 [iw 3, iw 1, iw 10] 24, .blk (b2 + 1) [iw 3, iw 1, iw 2] 24, .blk b3 [iw 5, iw 1, iw 0] 24, .blk (b4 + 1) [sl b4 0 2 2, iw 3] 37]) (fun _ => []) (fun _ => []) [0, 5, 6, 7, 8, 9] (fun _ => by kernel_rfl) (fun _ => trivial) (fun _ => ?_))
        refine Ok.withS (idx := [0, 1, 2, 3]) (SLe.trans le228 (SLe.trans le233 (SLe.trans le240 le245))) rfl ?_
        refine Ok.done (by kernel_rfl) ?_
        refine Ok.thenN ?_
        refine Ok.seq ?_
        refine Ok.reg ?_
        refine Ok.seg (j := 16) (fun b248 => [(0, bF), (156, bT), (157, sl q211 0 3 3), (161, sl (b248 + 1 + 1 + 1) 0 3 3)]) (fun b248 => [.blk b2 [iw 3, iw 1, iw 10] 24, .blk (b2 + 1) [iw 3, iw 1, iw 2] 24, .blk b3 [iw 5, iw 1, iw 0] 24, .blk (b4 + 1) [sl b4 0 2 2, iw 3] 37, .blk b248 [iw 3] 3, .blk (b248 + 1) [iw 1] 3, .blk (b248 + 1 + 1) [iw 0, iw 2] 3, .blk (b248 + 1 + 1 + 1) [sl b248 0 1 1, sl (b248 + 1) 0 1 1, sl (b248 + 1 + 1) 0 2 2] 55]) (fun b248 => []) (fun b248 => []) [.g [], .g [], .g [], .g [], .g [], .g [], .g [], .g [], .g [], .g [], .g [], .g [], .g [.N], .g [.N], .g [.N], .g [.N]] [0, 156, 157, 161] rfl (fun b248 => by kernel_rfl) (fun b248 => trivial) (fun b248 => ?_)
        refine Ok.mask [false, false, false, false, true, true, true, true] [.blk b248 [iw 3] 3, .blk (b248 + 1) [iw 1] 3, .blk (b248 + 1 + 1) [iw 0, iw 2] 3, .blk (b248 + 1 + 1 + 1) [sl b248 0 1 1, sl (b248 + 1) 0 1 1, sl (b248 + 1 + 1) 0 2 2] 55] rfl ?_
        refine Ok.pubP 3 rfl [.blk b248 [iw 3] 3, .blk (b248 + 1) [iw 1] 3, .blk (b248 + 1 + 1) [iw 0, iw 2] 3] rfl ?_
        intro H249 le250 pf251
        refine Ok.pubP 0 rfl [.blk (b248 + 1) [iw 1] 3, .blk (b248 + 1 + 1) [iw 0, iw 2] 3] rfl ?_
        intro H252 le253 pf254
        refine Ok.pubP 0 rfl [.blk (b248 + 1 + 1) [iw 0, iw 2] 3] rfl ?_
        intro H255 le256 pf257
        refine Ok.pubP 0 rfl [] rfl ?_
        intro H258 le259 pf260
        refine Ok.eff (j := 17) rfl (Eff.call0 (d := some 162) (by kernel_rfl) (x14_173 H258 q211 q212 q213 q214 (b248 + 1 + 1 + 1) b248 (b248 + 1) (b248 + 1 + 1) d215 d216 d217 (Pre.mono (SLe.trans le228 (SLe.trans le233 (SLe.trans le240 (SLe.trans le245 (SLe.trans le250 (SLe.trans le253 (SLe.trans le256 le259))))))) pf218) (Pre.mono (SLe.trans le228 (SLe.trans le233 (SLe.trans le240 (SLe.trans le245 (SLe.trans le250 (SLe.trans le253 (SLe.trans le256 le259))))))) pf219) (Pre.mono (SLe.trans le228 (SLe.trans le233 (SLe.trans le240 (SLe.trans le245 (SLe.trans le250 (SLe.trans le253 (SLe.trans le256 le259))))))) pf220) (Pre.mono (SLe.trans le228 (SLe.trans le233 (SLe.trans le240 (SLe.trans le245 (SLe.trans le250 (SLe.trans le253 (SLe.trans le256 le259))))))) pf221) (Pre.mono (SLe.trans le253 (SLe.trans le256 le259)) pf251) (Pre.mono (SLe.trans le256 le259) pf254) (Pre.mono le259 pf257) pf260) ?_)
        rintro v261 H262 k264 le263 rfl
        refine Ok.dropL ?_
        refine Ok.seg (j := 19) (fun _ => [(0, bT)]) (fun _ => []) (fun _ => []) (fun _ => []) [.g [], .g []] [0] rfl (fun _ => by kernel_rfl) (fun _ => trivial) (fun _ => ?_)
        refine Ok.segEnd rfl ?_
        refine Ok.thenN ?_
        refine Ok.ret_ ?_
        exact Ok.ret1 (v := bT) (SLe.trans le7 (SLe.trans le13 (SLe.trans le17 (SLe.trans le23 (SLe.trans le27 (SLe.trans le31 (SLe.trans le35 (SLe.trans le41 (SLe.trans le45 (SLe.trans le51 (SLe.trans le55 (SLe.trans le60 (SLe.trans le64 (SLe.trans le68 (SLe.trans le72 (SLe.trans le76 (SLe.trans le80 (SLe.trans le86 (SLe.trans le92 (SLe.trans le96 (SLe.trans le102 (SLe.trans le106 (SLe.trans le110 (SLe.trans le116 (SLe.trans le122 (SLe.trans le126 (SLe.trans le132 (SLe.trans le136 (SLe.trans le140 (SLe.trans le144 (SLe.trans le150 (SLe.trans le154 (SLe.trans le158 (SLe.trans le162 (SLe.trans le166 (SLe.trans le170 (SLe.trans le174 (SLe.trans le178 (SLe.trans le182 (SLe.trans le186 (SLe.trans le190 (SLe.trans le201 (SLe.trans le209 (SLe.trans le228 (SLe.trans le233 (SLe.trans le240 (SLe.trans le245 (SLe.trans le250 (SLe.trans le253 (SLe.trans le256 (SLe.trans le259 le263))))))))))))))))))))))))))))))))))))))))))))))))))) rfl rfl rfl
      · refine Ok.three (fuel' := 6) (i := 8) (li := [true, true, true, true, true, true, true, true, true, true, false, false, false, false, false, false]) (j := 10) (lj := [true, true, true, true, true, true, true, true, false, true, true, false, false, false, false, false]) (k := 11) (lk := [true, true, true, true, true, true, true, true, false, true, false, true, false, false, false, false]) (by kernel_rfl) rfl rfl rfl rfl ?_ ?_ ?_
        · refine (Eff.op (.g [.N]) (fun b266 => [(0, bF), (5, bT), (6, bT), (7, bT), (8, sl q211 0 3 3), (137, bT), (139, sl b266 0 1 1), (140, .agg #[bF, iw 10, s0])]) (fun b266 => [.blk b2 [iw 3, iw 1, iw 10] 24, .blk (b2 + 1) [iw 3, iw 1, iw 2] 24, .blk b3 [iw 5, iw 1, iw 0] 24, .blk (b4 + 1) [sl b4 0 2 2, iw 3] 37, .blk b266 [iw 3, iw 1, iw 10] 24]) (fun b266 => []) (fun b266 => []) [0, 5, 6, 7, 8, 137, 139, 140] (fun b266 => by kernel_rfl) (fun b266 => trivial) (fun b266 => ?_))
          refine Ok.pubP 4 rfl [.blk b2 [iw 3, iw 1, iw 10] 24, .blk (b2 + 1) [iw 3, iw 1, iw 2] 24, .blk b3 [iw 5, iw 1, iw 0] 24, .blk (b4 + 1) [sl b4 0 2 2, iw 3] 37] rfl ?_
          intro H267 le268 pf269
          refine Ok.withS (idx := [0, 1, 2, 3]) (SLe.trans le228 (SLe.trans le233 le268)) rfl ?_
          refine Ok.two (fuel' := 5) (i := 10) (li := [true, true, true, true, true, true, true, true, true, true, true, false, false, false, false, false]) (j := 11) (lj := [true, true, true, true, true, true, true, true, true, true, false, true, false, false, false, false]) (by kernel_rfl) rfl rfl rfl ?_ ?_
          · refine (Eff.op (.g [.N]) (fun b270 => [(0, bF), (5, bT), (6, bT), (7, bT), (8, sl q211 0 3 3), (137, bT), (139, sl b266 0 1 1), (141, sl b270 0 1 1)]) (fun b270 => [.blk b2 [iw 3, iw 1, iw 10] 24, .blk (b2 + 1) [iw 3, iw 1, iw 2] 24, .blk b3 [iw 5, iw 1, iw 0] 24, .blk (b4 + 1) [sl b4 0 2 2, iw 3] 37, .blk b270 [bF, iw 10, s0] 26]) (fun b270 => []) (fun b270 => []) [0, 5, 6, 7, 8, 137, 139, 141] (fun b270 => by kernel_rfl) (fun b270 => trivial) (fun b270 => ?_))
            refine Ok.pubP 4 rfl [.blk b2 [iw 3, iw 1, iw 10] 24, .blk (b2 + 1) [iw 3, iw 1, iw 2] 24, .blk b3 [iw 5, iw 1, iw 0] 24, .blk (b4 + 1) [sl b4 0 2 2, iw 3] 37] rfl ?_
            intro H271 le272 pf273
            refine Ok.withS (idx := [0, 1, 2, 3]) (SLe.trans le228 (SLe.trans le233 (SLe.trans le268 le272))) rfl ?_
            refine Ok.one (i := 11) (fuel' := 4) (l' := [true, true, true, true, true, true, true, true, true, true, true, true, false, false, false, false]) (by kernel_rfl) rfl rfl (Eff.call0 (d := some 142) (by kernel_rfl) (x9_163 H271) ?_)
            rintro v274 H275 k277 le276 rfl
            refine Ok.dropL ?_
            refine Ok.withS (idx := [0, 1, 2, 3]) (SLe.trans le228 (SLe.trans le233 (SLe.trans le268 (SLe.trans le272 le276)))) rfl ?_
            refine Ok.restr [0, 5, 6, 7, 8, 137, 139, 141, 142] [(0, bF), (5, bT), (6, bT), (7, bT), (8, sl q211 0 3 3), (137, bT), (139, sl b266 0 1 1), (141, sl b270 0 1 1), (142, .agg #[iw 1, iw 1, iw 20, iw 30, n0, s0, n0])] rfl ?_
            exact J236 _ (b266, b270) (SLe.trans le268 (SLe.trans le272 le276)) ⟨(Pre.mono (SLe.trans le272 le276) pf269), (Pre.mono le276 pf273)⟩
          · refine (Eff.call0 (d := some 142) (by kernel_rfl) (x9_163 H267) ?_)
            rintro v278 H279 k281 le280 rfl
            refine Ok.dropL ?_
            refine Ok.withS (idx := [0, 1, 2, 3]) (SLe.trans le228 (SLe.trans le233 (SLe.trans le268 le280))) rfl ?_
            refine Ok.one (i := 10) (fuel' := 4) (l' := [true, true, true, true, true, true, true, true, true, true, true, true, false, false, false, false]) (by kernel_rfl) rfl rfl (Eff.op (.g [.N]) (fun b282 => [(0, bF), (5, bT), (6, bT), (7, bT), (8, sl q211 0 3 3), (137, bT), (139, sl b266 0 1 1), (141, sl b282 0 1 1), (142, .agg #[iw 1, iw 1, iw 20, iw 30, n0, s0, n0])]) (fun b282 => [.blk b2 [iw 3, iw 1, iw 10] 24, .blk (b2 + 1) [iw 3, iw 1, iw 2] 24, .blk b3 [iw 5, iw 1, iw 0] 24, .blk (b4 + 1) [sl b4 0 2 2, iw 3] 37, .blk b282 [bF, iw 10, s0] 26]) (fun b282 => []) (fun b282 => []) [0, 5, 6, 7, 8, 137, 139, 141, 142] (fun b282 => by kernel_rfl) (fun b282 => trivial) (fun b282 => ?_))
            refine Ok.pubP 4 rfl [.blk b2 [iw 3, iw 1, iw 10] 24, .blk (b2 + 1) [iw 3, iw 1, iw 2] 24, .blk b3 [iw 5, iw 1, iw 0] 24, .blk (b4 + 1) [sl b4 0 2 2, iw 3] 37] rfl ?_
            intro H283 le284 pf285
            refine Ok.withS (idx := [0, 1, 2, 3]) (SLe.trans le228 (SLe.trans le233 (SLe.trans le268 (SLe.trans le280 le284)))) rfl ?_
            refine Ok.restr [0, 5, 6, 7, 8, 137, 139, 141, 142] [(0, bF), (5, bT), (6, bT), (7, bT), (8, sl q211 0 3 3), (137, bT), (139, sl b266 0 1 1), (141, sl b282 0 1 1), (142, .agg #[iw 1, iw 1, iw 20, iw 30, n0, s0, n0])] rfl ?_
            exact J236 _ (b266, b282) (SLe.trans le268 (SLe.trans le280 le284)) ⟨(Pre.mono (SLe.trans le280 le284) pf269), pf285⟩
        · refine (Eff.op (.g [.N]) (fun b286 => [(0, bF), (5, bT), (6, bT), (7, bT), (8, sl q211 0 3 3), (137, bT), (138, .agg #[iw 3, iw 1, iw 10]), (141, sl b286 0 1 1)]) (fun b286 => [.blk b2 [iw 3, iw 1, iw 10] 24, .blk (b2 + 1) [iw 3, iw 1, iw 2] 24, .blk b3 [iw 5, iw 1, iw 0] 24, .blk (b4 + 1) [sl b4 0 2 2, iw 3] 37, .blk b286 [bF, iw 10, s0] 26]) (fun b286 => []) (fun b286 => []) [0, 5, 6, 7, 8, 137, 138, 141] (fun b286 => by kernel_rfl) (fun b286 => trivial) (fun b286 => ?_))
          refine Ok.pubP 4 rfl [.blk b2 [iw 3, iw 1, iw 10] 24, .blk (b2 + 1) [iw 3, iw 1, iw 2] 24, .blk b3 [iw 5, iw 1, iw 0] 24, .blk (b4 + 1) [sl b4 0 2 2, iw 3] 37] rfl ?_
          intro H287 le288 pf289
          refine Ok.withS (idx := [0, 1, 2, 3]) (SLe.trans le228 (SLe.trans le233 le288)) rfl ?_
          refine Ok.two (fuel' := 5) (i := 8) (li := [true, true, true, true, true, true, true, true, true, true, true, false, false, false, false, false]) (j := 11) (lj := [true, true, true, true, true, true, true, true, false, true, true, true, false, false, false, false]) (by kernel_rfl) rfl rfl rfl ?_ ?_
          · refine (Eff.op (.g [.N]) (fun b290 => [(0, bF), (5, bT), (6, bT), (7, bT), (8, sl q211 0 3 3), (137, bT), (139, sl b290 0 1 1), (141, sl b286 0 1 1)]) (fun b290 => [.blk b2 [iw 3, iw 1, iw 10] 24, .blk (b2 + 1) [iw 3, iw 1, iw 2] 24, .blk b3 [iw 5, iw 1, iw 0] 24, .blk (b4 + 1) [sl b4 0 2 2, iw 3] 37, .blk b290 [iw 3, iw 1, iw 10] 24]) (fun b290 => []) (fun b290 => []) [0, 5, 6, 7, 8, 137, 139, 141] (fun b290 => by kernel_rfl) (fun b290 => trivial) (fun b290 => ?_))
            refine Ok.pubP 4 rfl [.blk b2 [iw 3, iw 1, iw 10] 24, .blk (b2 + 1) [iw 3, iw 1, iw 2] 24, .blk b3 [iw 5, iw 1, iw 0] 24, .blk (b4 + 1) [sl b4 0 2 2, iw 3] 37] rfl ?_
            intro H291 le292 pf293
            refine Ok.withS (idx := [0, 1, 2, 3]) (SLe.trans le228 (SLe.trans le233 (SLe.trans le288 le292))) rfl ?_
            refine Ok.one (i := 11) (fuel' := 4) (l' := [true, true, true, true, true, true, true, true, true, true, true, true, false, false, false, false]) (by kernel_rfl) rfl rfl (Eff.call0 (d := some 142) (by kernel_rfl) (x9_163 H291) ?_)
            rintro v294 H295 k297 le296 rfl
            refine Ok.dropL ?_
            refine Ok.withS (idx := [0, 1, 2, 3]) (SLe.trans le228 (SLe.trans le233 (SLe.trans le288 (SLe.trans le292 le296)))) rfl ?_
            refine Ok.restr [0, 5, 6, 7, 8, 137, 139, 141, 142] [(0, bF), (5, bT), (6, bT), (7, bT), (8, sl q211 0 3 3), (137, bT), (139, sl b290 0 1 1), (141, sl b286 0 1 1), (142, .agg #[iw 1, iw 1, iw 20, iw 30, n0, s0, n0])] rfl ?_
            exact J236 _ (b290, b286) (SLe.trans le288 (SLe.trans le292 le296)) ⟨(Pre.mono le296 pf293), (Pre.mono (SLe.trans le292 le296) pf289)⟩
          · refine (Eff.call0 (d := some 142) (by kernel_rfl) (x9_163 H287) ?_)
            rintro v298 H299 k301 le300 rfl
            refine Ok.dropL ?_
            refine Ok.withS (idx := [0, 1, 2, 3]) (SLe.trans le228 (SLe.trans le233 (SLe.trans le288 le300))) rfl ?_
            refine Ok.one (i := 8) (fuel' := 4) (l' := [true, true, true, true, true, true, true, true, true, true, true, true, false, false, false, false]) (by kernel_rfl) rfl rfl (Eff.op (.g [.N]) (fun b302 => [(0, bF), (5, bT), (6, bT), (7, bT), (8, sl q211 0 3 3), (137, bT), (139, sl b302 0 1 1), (141, sl b286 0 1 1), (142, .agg #[iw 1, iw 1, iw 20, iw 30, n0, s0, n0])]) (fun b302 => [.blk b2 [iw 3, iw 1, iw 10] 24, .blk (b2 + 1) [iw 3, iw 1, iw 2] 24, .blk b3 [iw 5, iw 1, iw 0] 24, .blk (b4 + 1) [sl b4 0 2 2, iw 3] 37, .blk b302 [iw 3, iw 1, iw 10] 24]) (fun b302 => []) (fun b302 => []) [0, 5, 6, 7, 8, 137, 139, 141, 142] (fun b302 => by kernel_rfl) (fun b302 => trivial) (fun b302 => ?_))
            refine Ok.pubP 4 rfl [.blk b2 [iw 3, iw 1, iw 10] 24, .blk (b2 + 1) [iw 3, iw 1, iw 2] 24, .blk b3 [iw 5, iw 1, iw 0] 24, .blk (b4 + 1) [sl b4 0 2 2, iw 3] 37] rfl ?_
            intro H303 le304 pf305
            refine Ok.withS (idx := [0, 1, 2, 3]) (SLe.trans le228 (SLe.trans le233 (SLe.trans le288 (SLe.trans le300 le304)))) rfl ?_
            refine Ok.restr [0, 5, 6, 7, 8, 137, 139, 141, 142] [(0, bF), (5, bT), (6, bT), (7, bT), (8, sl q211 0 3 3), (137, bT), (139, sl b302 0 1 1), (141, sl b286 0 1 1), (142, .agg #[iw 1, iw 1, iw 20, iw 30, n0, s0, n0])] rfl ?_
            exact J236 _ (b302, b286) (SLe.trans le288 (SLe.trans le300 le304)) ⟨pf305, (Pre.mono (SLe.trans le300 le304) pf289)⟩
        · refine (Eff.call0 (d := some 142) (by kernel_rfl) (x9_163 H232) ?_)
          rintro v306 H307 k309 le308 rfl
          refine Ok.dropL ?_
          refine Ok.withS (idx := [0, 1, 2, 3]) (SLe.trans le228 (SLe.trans le233 le308)) rfl ?_
          refine Ok.two (fuel' := 5) (i := 8) (li := [true, true, true, true, true, true, true, true, true, true, false, true, false, false, false, false]) (j := 10) (lj := [true, true, true, true, true, true, true, true, false, true, true, true, false, false, false, false]) (by kernel_rfl) rfl rfl rfl ?_ ?_
          · refine (Eff.op (.g [.N]) (fun b310 => [(0, bF), (5, bT), (6, bT), (7, bT), (8, sl q211 0 3 3), (137, bT), (139, sl b310 0 1 1), (140, .agg #[bF, iw 10, s0]), (142, .agg #[iw 1, iw 1, iw 20, iw 30, n0, s0, n0])]) (fun b310 => [.blk b2 [iw 3, iw 1, iw 10] 24, .blk (b2 + 1) [iw 3, iw 1, iw 2] 24, .blk b3 [iw 5, iw 1, iw 0] 24, .blk (b4 + 1) [sl b4 0 2 2, iw 3] 37, .blk b310 [iw 3, iw 1, iw 10] 24]) (fun b310 => []) (fun b310 => []) [0, 5, 6, 7, 8, 137, 139, 140, 142] (fun b310 => by kernel_rfl) (fun b310 => trivial) (fun b310 => ?_))
            refine Ok.pubP 4 rfl [.blk b2 [iw 3, iw 1, iw 10] 24, .blk (b2 + 1) [iw 3, iw 1, iw 2] 24, .blk b3 [iw 5, iw 1, iw 0] 24, .blk (b4 + 1) [sl b4 0 2 2, iw 3] 37] rfl ?_
            intro H311 le312 pf313
            refine Ok.withS (idx := [0, 1, 2, 3]) (SLe.trans le228 (SLe.trans le233 (SLe.trans le308 le312))) rfl ?_
            refine Ok.one (i := 10) (fuel' := 4) (l' := [true, true, true, true, true, true, true, true, true, true, true, true, false, false, false, false]) (by kernel_rfl) rfl rfl (Eff.op (.g [.N]) (fun b314 => [(0, bF), (5, bT), (6, bT), (7, bT), (8, sl q211 0 3 3), (137, bT), (139, sl b310 0 1 1), (141, sl b314 0 1 1), (142, .agg #[iw 1, iw 1, iw 20, iw 30, n0, s0, n0])]) (fun b314 => [.blk b2 [iw 3, iw 1, iw 10] 24, .blk (b2 + 1) [iw 3, iw 1, iw 2] 24, .blk b3 [iw 5, iw 1, iw 0] 24, .blk (b4 + 1) [sl b4 0 2 2, iw 3] 37, .blk b314 [bF, iw 10, s0] 26]) (fun b314 => []) (fun b314 => []) [0, 5, 6, 7, 8, 137, 139, 141, 142] (fun b314 => by kernel_rfl) (fun b314 => trivial) (fun b314 => ?_))
            refine Ok.pubP 4 rfl [.blk b2 [iw 3, iw 1, iw 10] 24, .blk (b2 + 1) [iw 3, iw 1, iw 2] 24, .blk b3 [iw 5, iw 1, iw 0] 24, .blk (b4 + 1) [sl b4 0 2 2, iw 3] 37] rfl ?_
            intro H315 le316 pf317
            refine Ok.withS (idx := [0, 1, 2, 3]) (SLe.trans le228 (SLe.trans le233 (SLe.trans le308 (SLe.trans le312 le316)))) rfl ?_
            refine Ok.restr [0, 5, 6, 7, 8, 137, 139, 141, 142] [(0, bF), (5, bT), (6, bT), (7, bT), (8, sl q211 0 3 3), (137, bT), (139, sl b310 0 1 1), (141, sl b314 0 1 1), (142, .agg #[iw 1, iw 1, iw 20, iw 30, n0, s0, n0])] rfl ?_
            exact J236 _ (b310, b314) (SLe.trans le308 (SLe.trans le312 le316)) ⟨(Pre.mono le316 pf313), pf317⟩
          · refine (Eff.op (.g [.N]) (fun b318 => [(0, bF), (5, bT), (6, bT), (7, bT), (8, sl q211 0 3 3), (137, bT), (138, .agg #[iw 3, iw 1, iw 10]), (141, sl b318 0 1 1), (142, .agg #[iw 1, iw 1, iw 20, iw 30, n0, s0, n0])]) (fun b318 => [.blk b2 [iw 3, iw 1, iw 10] 24, .blk (b2 + 1) [iw 3, iw 1, iw 2] 24, .blk b3 [iw 5, iw 1, iw 0] 24, .blk (b4 + 1) [sl b4 0 2 2, iw 3] 37, .blk b318 [bF, iw 10, s0] 26]) (fun b318 => []) (fun b318 => []) [0, 5, 6, 7, 8, 137, 138, 141, 142] (fun b318 => by kernel_rfl) (fun b318 => trivial) (fun b318 => ?_))
            refine Ok.pubP 4 rfl [.blk b2 [iw 3, iw 1, iw 10] 24, .blk (b2 + 1) [iw 3, iw 1, iw 2] 24, .blk b3 [iw 5, iw 1, iw 0] 24, .blk (b4 + 1) [sl b4 0 2 2, iw 3] 37] rfl ?_
            intro H319 le320 pf321
            refine Ok.withS (idx := [0, 1, 2, 3]) (SLe.trans le228 (SLe.trans le233 (SLe.trans le308 le320))) rfl ?_
            refine Ok.one (i := 8) (fuel' := 4) (l' := [true, true, true, true, true, true, true, true, true, true, true, true, false, false, false, false]) (by kernel_rfl) rfl rfl (Eff.op (.g [.N]) (fun b322 => [(0, bF), (5, bT), (6, bT), (7, bT), (8, sl q211 0 3 3), (137, bT), (139, sl b322 0 1 1), (141, sl b318 0 1 1), (142, .agg #[iw 1, iw 1, iw 20, iw 30, n0, s0, n0])]) (fun b322 => [.blk b2 [iw 3, iw 1, iw 10] 24, .blk (b2 + 1) [iw 3, iw 1, iw 2] 24, .blk b3 [iw 5, iw 1, iw 0] 24, .blk (b4 + 1) [sl b4 0 2 2, iw 3] 37, .blk b322 [iw 3, iw 1, iw 10] 24]) (fun b322 => []) (fun b322 => []) [0, 5, 6, 7, 8, 137, 139, 141, 142] (fun b322 => by kernel_rfl) (fun b322 => trivial) (fun b322 => ?_))
            refine Ok.pubP 4 rfl [.blk b2 [iw 3, iw 1, iw 10] 24, .blk (b2 + 1) [iw 3, iw 1, iw 2] 24, .blk b3 [iw 5, iw 1, iw 0] 24, .blk (b4 + 1) [sl b4 0 2 2, iw 3] 37] rfl ?_
            intro H323 le324 pf325
            refine Ok.withS (idx := [0, 1, 2, 3]) (SLe.trans le228 (SLe.trans le233 (SLe.trans le308 (SLe.trans le320 le324)))) rfl ?_
            refine Ok.restr [0, 5, 6, 7, 8, 137, 139, 141, 142] [(0, bF), (5, bT), (6, bT), (7, bT), (8, sl q211 0 3 3), (137, bT), (139, sl b322 0 1 1), (141, sl b318 0 1 1), (142, .agg #[iw 1, iw 1, iw 20, iw 30, n0, s0, n0])] rfl ?_
            exact J236 _ (b322, b318) (SLe.trans le308 (SLe.trans le320 le324)) ⟨pf325, (Pre.mono le324 pf321)⟩
    · refine Ok.three (fuel' := 13) (i := 1) (li := [true, true, true, false, false, false, false, false, false, false, false, false, false, false, false, false]) (j := 3) (lj := [true, false, true, true, false, false, false, false, false, false, false, false, false, false, false, false]) (k := 4) (lk := [true, false, true, false, true, false, false, false, false, false, false, false, false, false, false, false]) (by kernel_rfl) rfl rfl rfl rfl ?_ ?_ ?_
      · refine (Eff.op (.g [.N]) (fun b326 => [(0, bF), (1, pt b2 0), (5, bT), (6, bT), (7, bT), (8, sl q211 0 3 3), (132, sl b326 0 1 1), (133, .agg #[bF, iw 10, s0])]) (fun b326 => [.blk b2 [iw 3, iw 1, iw 10] 24, .blk (b2 + 1) [iw 3, iw 1, iw 2] 24, .blk b3 [iw 5, iw 1, iw 0] 24, .blk (b4 + 1) [sl b4 0 2 2, iw 3] 37, .blk b326 [iw 3, iw 1, iw 10] 24]) (fun b326 => []) (fun b326 => []) [0, 1, 5, 6, 7, 8, 132, 133] (fun b326 => by kernel_rfl) (fun b326 => trivial) (fun b326 => ?_))
        refine Ok.pubP 4 rfl [.blk b2 [iw 3, iw 1, iw 10] 24, .blk (b2 + 1) [iw 3, iw 1, iw 2] 24, .blk b3 [iw 5, iw 1, iw 0] 24, .blk (b4 + 1) [sl b4 0 2 2, iw 3] 37] rfl ?_
        intro H327 le328 pf329
        refine Ok.withS (idx := [0, 1, 2, 3]) le328 rfl ?_
        refine Ok.two (fuel' := 12) (i := 3) (li := [true, true, true, true, false, false, false, false, false, false, false, false, false, false, false, false]) (j := 4) (lj := [true, true, true, false, true, false, false, false, false, false, false, false, false, false, false, false]) (by kernel_rfl) rfl rfl rfl ?_ ?_
        · refine (Eff.op (.g [.N]) (fun b330 => [(0, bF), (1, pt b2 0), (5, bT), (6, bT), (7, bT), (8, sl q211 0 3 3), (132, sl b326 0 1 1), (134, sl b330 0 1 1)]) (fun b330 => [.blk b2 [iw 3, iw 1, iw 10] 24, .blk (b2 + 1) [iw 3, iw 1, iw 2] 24, .blk b3 [iw 5, iw 1, iw 0] 24, .blk (b4 + 1) [sl b4 0 2 2, iw 3] 37, .blk b330 [bF, iw 10, s0] 26]) (fun b330 => []) (fun b330 => []) [0, 1, 5, 6, 7, 8, 132, 134] (fun b330 => by kernel_rfl) (fun b330 => trivial) (fun b330 => ?_))
          refine Ok.pubP 4 rfl [.blk b2 [iw 3, iw 1, iw 10] 24, .blk (b2 + 1) [iw 3, iw 1, iw 2] 24, .blk b3 [iw 5, iw 1, iw 0] 24, .blk (b4 + 1) [sl b4 0 2 2, iw 3] 37] rfl ?_
          intro H331 le332 pf333
          refine Ok.withS (idx := [0, 1, 2, 3]) (SLe.trans le328 le332) rfl ?_
          refine Ok.one (i := 4) (fuel' := 11) (l' := [true, true, true, true, true, false, false, false, false, false, false, false, false, false, false, false]) (by kernel_rfl) rfl rfl (Eff.call0 (d := some 135) (by kernel_rfl) (x9_150 H331) ?_)
          rintro v334 H335 k337 le336 rfl
          refine Ok.dropL ?_
          refine Ok.withS (idx := [0, 1, 2, 3]) (SLe.trans le328 (SLe.trans le332 le336)) rfl ?_
          refine Ok.restr [0, 1, 5, 6, 7, 8, 132, 134, 135] [(0, bF), (1, pt b2 0), (5, bT), (6, bT), (7, bT), (8, sl q211 0 3 3), (132, sl b326 0 1 1), (134, sl b330 0 1 1), (135, .agg #[iw 1, iw 1, iw 19, iw 30, n0, s0, n0])] rfl ?_
          exact J224 _ (b326, b330) (SLe.trans le328 (SLe.trans le332 le336)) ⟨(Pre.mono (SLe.trans le332 le336) pf329), (Pre.mono le336 pf333)⟩
        · refine (Eff.call0 (d := some 135) (by kernel_rfl) (x9_150 H327) ?_)
          rintro v338 H339 k341 le340 rfl
          refine Ok.dropL ?_
          refine Ok.withS (idx := [0, 1, 2, 3]) (SLe.trans le328 le340) rfl ?_
          refine Ok.one (i := 3) (fuel' := 11) (l' := [true, true, true, true, true, false, false, false, false, false, false, false, false, false, false, false]) (by kernel_rfl) rfl rfl (Eff.op (.g [.N]) (fun b342 => [(0, bF), (1, pt b2 0), (5, bT), (6, bT), (7, bT), (8, sl q211 0 3 3), (132, sl b326 0 1 1), (134, sl b342 0 1 1), (135, .agg #[iw 1, iw 1, iw 19, iw 30, n0, s0, n0])]) (fun b342 => [.blk b2 [iw 3, iw 1, iw 10] 24, .blk (b2 + 1) [iw 3, iw 1, iw 2] 24, .blk b3 [iw 5, iw 1, iw 0] 24, .blk (b4 + 1) [sl b4 0 2 2, iw 3] 37, .blk b342 [bF, iw 10, s0] 26]) (fun b342 => []) (fun b342 => []) [0, 1, 5, 6, 7, 8, 132, 134, 135] (fun b342 => by kernel_rfl) (fun b342 => trivial) (fun b342 => ?_))
          refine Ok.pubP 4 rfl [.blk b2 [iw 3, iw 1, iw 10] 24, .blk (b2 + 1) [iw 3, iw 1, iw 2] 24, .blk b3 [iw 5, iw 1, iw 0] 24, .blk (b4 + 1) [sl b4 0 2 2, iw 3] 37] rfl ?_
          intro H343 le344 pf345
          refine Ok.withS (idx := [0, 1, 2, 3]) (SLe.trans le328 (SLe.trans le340 le344)) rfl ?_
          refine Ok.restr [0, 1, 5, 6, 7, 8, 132, 134, 135] [(0, bF), (1, pt b2 0), (5, bT), (6, bT), (7, bT), (8, sl q211 0 3 3), (132, sl b326 0 1 1), (134, sl b342 0 1 1), (135, .agg #[iw 1, iw 1, iw 19, iw 30, n0, s0, n0])] rfl ?_
          exact J224 _ (b326, b342) (SLe.trans le328 (SLe.trans le340 le344)) ⟨(Pre.mono (SLe.trans le340 le344) pf329), pf345⟩
      · refine (Eff.op (.g [.N]) (fun b346 => [(0, bF), (1, pt b2 0), (5, bT), (6, bT), (7, bT), (8, sl q211 0 3 3), (131, .agg #[iw 3, iw 1, iw 10]), (134, sl b346 0 1 1)]) (fun b346 => [.blk b2 [iw 3, iw 1, iw 10] 24, .blk (b2 + 1) [iw 3, iw 1, iw 2] 24, .blk b3 [iw 5, iw 1, iw 0] 24, .blk (b4 + 1) [sl b4 0 2 2, iw 3] 37, .blk b346 [bF, iw 10, s0] 26]) (fun b346 => []) (fun b346 => []) [0, 1, 5, 6, 7, 8, 131, 134] (fun b346 => by kernel_rfl) (fun b346 => trivial) (fun b346 => ?_))
        refine Ok.pubP 4 rfl [.blk b2 [iw 3, iw 1, iw 10] 24, .blk (b2 + 1) [iw 3, iw 1, iw 2] 24, .blk b3 [iw 5, iw 1, iw 0] 24, .blk (b4 + 1) [sl b4 0 2 2, iw 3] 37] rfl ?_
        intro H347 le348 pf349
        refine Ok.withS (idx := [0, 1, 2, 3]) le348 rfl ?_
        refine Ok.two (fuel' := 12) (i := 1) (li := [true, true, true, true, false, false, false, false, false, false, false, false, false, false, false, false]) (j := 4) (lj := [true, false, true, true, true, false, false, false, false, false, false, false, false, false, false, false]) (by kernel_rfl) rfl rfl rfl ?_ ?_
        · refine (Eff.op (.g [.N]) (fun b350 => [(0, bF), (1, pt b2 0), (5, bT), (6, bT), (7, bT), (8, sl q211 0 3 3), (132, sl b350 0 1 1), (134, sl b346 0 1 1)]) (fun b350 => [.blk b2 [iw 3, iw 1, iw 10] 24, .blk (b2 + 1) [iw 3, iw 1, iw 2] 24, .blk b3 [iw 5, iw 1, iw 0] 24, .blk (b4 + 1) [sl b4 0 2 2, iw 3] 37, .blk b350 [iw 3, iw 1, iw 10] 24]) (fun b350 => []) (fun b350 => []) [0, 1, 5, 6, 7, 8, 132, 134] (fun b350 => by kernel_rfl) (fun b350 => trivial) (fun b350 => ?_))
          refine Ok.pubP 4 rfl [.blk b2 [iw 3, iw 1, iw 10] 24, .blk (b2 + 1) [iw 3, iw 1, iw 2] 24, .blk b3 [iw 5, iw 1, iw 0] 24, .blk (b4 + 1) [sl b4 0 2 2, iw 3] 37] rfl ?_
          intro H351 le352 pf353
          refine Ok.withS (idx := [0, 1, 2, 3]) (SLe.trans le348 le352) rfl ?_
          refine Ok.one (i := 4) (fuel' := 11) (l' := [true, true, true, true, true, false, false, false, false, false, false, false, false, false, false, false]) (by kernel_rfl) rfl rfl (Eff.call0 (d := some 135) (by kernel_rfl) (x9_150 H351) ?_)
          rintro v354 H355 k357 le356 rfl
          refine Ok.dropL ?_
          refine Ok.withS (idx := [0, 1, 2, 3]) (SLe.trans le348 (SLe.trans le352 le356)) rfl ?_
          refine Ok.restr [0, 1, 5, 6, 7, 8, 132, 134, 135] [(0, bF), (1, pt b2 0), (5, bT), (6, bT), (7, bT), (8, sl q211 0 3 3), (132, sl b350 0 1 1), (134, sl b346 0 1 1), (135, .agg #[iw 1, iw 1, iw 19, iw 30, n0, s0, n0])] rfl ?_
          exact J224 _ (b350, b346) (SLe.trans le348 (SLe.trans le352 le356)) ⟨(Pre.mono le356 pf353), (Pre.mono (SLe.trans le352 le356) pf349)⟩
        · refine (Eff.call0 (d := some 135) (by kernel_rfl) (x9_150 H347) ?_)
          rintro v358 H359 k361 le360 rfl
          refine Ok.dropL ?_
          refine Ok.withS (idx := [0, 1, 2, 3]) (SLe.trans le348 le360) rfl ?_
          refine Ok.one (i := 1) (fuel' := 11) (l' := [true, true, true, true, true, false, false, false, false, false, false, false, false, false, false, false]) (by kernel_rfl) rfl rfl (Eff.op (.g [.N]) (fun b362 => [(0, bF), (1, pt b2 0), (5, bT), (6, bT), (7, bT), (8, sl q211 0 3 3), (132, sl b362 0 1 1), (134, sl b346 0 1 1), (135, .agg #[iw 1, iw 1, iw 19, iw 30, n0, s0, n0])]) (fun b362 => [.blk b2 [iw 3, iw 1, iw 10] 24, .blk (b2 + 1) [iw 3, iw 1, iw 2] 24, .blk b3 [iw 5, iw 1, iw 0] 24, .blk (b4 + 1) [sl b4 0 2 2, iw 3] 37, .blk b362 [iw 3, iw 1, iw 10] 24]) (fun b362 => []) (fun b362 => []) [0, 1, 5, 6, 7, 8, 132, 134, 135] (fun b362 => by kernel_rfl) (fun b362 => trivial) (fun b362 => ?_))
          refine Ok.pubP 4 rfl [.blk b2 [iw 3, iw 1, iw 10] 24, .blk (b2 + 1) [iw 3, iw 1, iw 2] 24, .blk b3 [iw 5, iw 1, iw 0] 24, .blk (b4 + 1) [sl b4 0 2 2, iw 3] 37] rfl ?_
          intro H363 le364 pf365
          refine Ok.withS (idx := [0, 1, 2, 3]) (SLe.trans le348 (SLe.trans le360 le364)) rfl ?_
          refine Ok.restr [0, 1, 5, 6, 7, 8, 132, 134, 135] [(0, bF), (1, pt b2 0), (5, bT), (6, bT), (7, bT), (8, sl q211 0 3 3), (132, sl b362 0 1 1), (134, sl b346 0 1 1), (135, .agg #[iw 1, iw 1, iw 19, iw 30, n0, s0, n0])] rfl ?_
          exact J224 _ (b362, b346) (SLe.trans le348 (SLe.trans le360 le364)) ⟨pf365, (Pre.mono (SLe.trans le360 le364) pf349)⟩
      · refine (Eff.call0 (d := some 135) (by kernel_rfl) (x9_150 H208) ?_)
        rintro v366 H367 k369 le368 rfl
        refine Ok.dropL ?_
        refine Ok.withS (idx := [0, 1, 2, 3]) le368 rfl ?_
        refine Ok.two (fuel' := 12) (i := 1) (li := [true, true, true, false, true, false, false, false, false, false, false, false, false, false, false, false]) (j := 3) (lj := [true, false, true, true, true, false, false, false, false, false, false, false, false, false, false, false]) (by kernel_rfl) rfl rfl rfl ?_ ?_
        · refine (Eff.op (.g [.N]) (fun b370 => [(0, bF), (1, pt b2 0), (5, bT), (6, bT), (7, bT), (8, sl q211 0 3 3), (132, sl b370 0 1 1), (133, .agg #[bF, iw 10, s0]), (135, .agg #[iw 1, iw 1, iw 19, iw 30, n0, s0, n0])]) (fun b370 => [.blk b2 [iw 3, iw 1, iw 10] 24, .blk (b2 + 1) [iw 3, iw 1, iw 2] 24, .blk b3 [iw 5, iw 1, iw 0] 24, .blk (b4 + 1) [sl b4 0 2 2, iw 3] 37, .blk b370 [iw 3, iw 1, iw 10] 24]) (fun b370 => []) (fun b370 => []) [0, 1, 5, 6, 7, 8, 132, 133, 135] (fun b370 => by kernel_rfl) (fun b370 => trivial) (fun b370 => ?_))
          refine Ok.pubP 4 rfl [.blk b2 [iw 3, iw 1, iw 10] 24, .blk (b2 + 1) [iw 3, iw 1, iw 2] 24, .blk b3 [iw 5, iw 1, iw 0] 24, .blk (b4 + 1) [sl b4 0 2 2, iw 3] 37] rfl ?_
          intro H371 le372 pf373
          refine Ok.withS (idx := [0, 1, 2, 3]) (SLe.trans le368 le372) rfl ?_
          refine Ok.one (i := 3) (fuel' := 11) (l' := [true, true, true, true, true, false, false, false, false, false, false, false, false, false, false, false]) (by kernel_rfl) rfl rfl (Eff.op (.g [.N]) (fun b374 => [(0, bF), (1, pt b2 0), (5, bT), (6, bT), (7, bT), (8, sl q211 0 3 3), (132, sl b370 0 1 1), (134, sl b374 0 1 1), (135, .agg #[iw 1, iw 1, iw 19, iw 30, n0, s0, n0])]) (fun b374 => [.blk b2 [iw 3, iw 1, iw 10] 24, .blk (b2 + 1) [iw 3, iw 1, iw 2] 24, .blk b3 [iw 5, iw 1, iw 0] 24, .blk (b4 + 1) [sl b4 0 2 2, iw 3] 37, .blk b374 [bF, iw 10, s0] 26]) (fun b374 => []) (fun b374 => []) [0, 1, 5, 6, 7, 8, 132, 134, 135] (fun b374 => by kernel_rfl) (fun b374 => trivial) (fun b374 => ?_))
          refine Ok.pubP 4 rfl [.blk b2 [iw 3, iw 1, iw 10] 24, .blk (b2 + 1) [iw 3, iw 1, iw 2] 24, .blk b3 [iw 5, iw 1, iw 0] 24, .blk (b4 + 1) [sl b4 0 2 2, iw 3] 37] rfl ?_
          intro H375 le376 pf377
          refine Ok.withS (idx := [0, 1, 2, 3]) (SLe.trans le368 (SLe.trans le372 le376)) rfl ?_
          refine Ok.restr [0, 1, 5, 6, 7, 8, 132, 134, 135] [(0, bF), (1, pt b2 0), (5, bT), (6, bT), (7, bT), (8, sl q211 0 3 3), (132, sl b370 0 1 1), (134, sl b374 0 1 1), (135, .agg #[iw 1, iw 1, iw 19, iw 30, n0, s0, n0])] rfl ?_
          exact J224 _ (b370, b374) (SLe.trans le368 (SLe.trans le372 le376)) ⟨(Pre.mono le376 pf373), pf377⟩
        · refine (Eff.op (.g [.N]) (fun b378 => [(0, bF), (1, pt b2 0), (5, bT), (6, bT), (7, bT), (8, sl q211 0 3 3), (131, .agg #[iw 3, iw 1, iw 10]), (134, sl b378 0 1 1), (135, .agg #[iw 1, iw 1, iw 19, iw 30, n0, s0, n0])]) (fun b378 => [.blk b2 [iw 3, iw 1, iw 10] 24, .blk (b2 + 1) [iw 3, iw 1, iw 2] 24, .blk b3 [iw 5, iw 1, iw 0] 24, .blk (b4 + 1) [sl b4 0 2 2, iw 3] 37, .blk b378 [bF, iw 10, s0] 26]) (fun b378 => []) (fun b378 => []) [0, 1, 5, 6, 7, 8, 131, 134, 135] (fun b378 => by kernel_rfl) (fun b378 => trivial) (fun b378 => ?_))
          refine Ok.pubP 4 rfl [.blk b2 [iw 3, iw 1, iw 10] 24, .blk (b2 + 1) [iw 3, iw 1, iw 2] 24, .blk b3 [iw 5, iw 1, iw 0] 24, .blk (b4 + 1) [sl b4 0 2 2, iw 3] 37] rfl ?_
          intro H379 le380 pf381
          refine Ok.withS (idx := [0, 1, 2, 3]) (SLe.trans le368 le380) rfl ?_
          refine Ok.one (i := 1) (fuel' := 11) (l' := [true, true, true, true, true, false, false, false, false, false, false, false, false, false, false, false]) (by kernel_rfl) rfl rfl (Eff.op (.g [.N]) (fun b382 => [(0, bF), (1, pt b2 0), (5, bT), (6, bT), (7, bT), (8, sl q211 0 3 3), (132, sl b382 0 1 1), (134, sl b378 0 1 1), (135, .agg #[iw 1, iw 1, iw 19, iw 30, n0, s0, n0])]) (fun b382 => [.blk b2 [iw 3, iw 1, iw 10] 24, .blk (b2 + 1) [iw 3, iw 1, iw 2] 24, .blk b3 [iw 5, iw 1, iw 0] 24, .blk (b4 + 1) [sl b4 0 2 2, iw 3] 37, .blk b382 [iw 3, iw 1, iw 10] 24]) (fun b382 => []) (fun b382 => []) [0, 1, 5, 6, 7, 8, 132, 134, 135] (fun b382 => by kernel_rfl) (fun b382 => trivial) (fun b382 => ?_))
          refine Ok.pubP 4 rfl [.blk b2 [iw 3, iw 1, iw 10] 24, .blk (b2 + 1) [iw 3, iw 1, iw 2] 24, .blk b3 [iw 5, iw 1, iw 0] 24, .blk (b4 + 1) [sl b4 0 2 2, iw 3] 37] rfl ?_
          intro H383 le384 pf385
          refine Ok.withS (idx := [0, 1, 2, 3]) (SLe.trans le368 (SLe.trans le380 le384)) rfl ?_
          refine Ok.restr [0, 1, 5, 6, 7, 8, 132, 134, 135] [(0, bF), (1, pt b2 0), (5, bT), (6, bT), (7, bT), (8, sl q211 0 3 3), (132, sl b382 0 1 1), (134, sl b378 0 1 1), (135, .agg #[iw 1, iw 1, iw 19, iw 30, n0, s0, n0])] rfl ?_
          exact J224 _ (b382, b378) (SLe.trans le368 (SLe.trans le380 le384)) ⟨pf385, (Pre.mono le384 pf381)⟩
  · refine Ok.two (fuel' := 6) (i := 1) (li := [true, true, false, false, false, true, false, false, false]) (j := 2) (lj := [true, false, true, false, false, true, false, false, false]) (by kernel_rfl) rfl rfl rfl ?_ ?_
    · refine (Eff.op (.g [.N]) (fun b386 => [(0, bF), (1, pt b2 0), (5, bT), (6, bT), (7, bT), (124, sl b386 0 1 1), (128, .agg #[n0])]) (fun b386 => [.blk b2 [iw 3, iw 1, iw 10] 24, .blk (b2 + 1) [iw 3, iw 1, iw 2] 24, .blk b3 [iw 5, iw 1, iw 0] 24, .blk (b4 + 1) [sl b4 0 2 2, iw 3] 37, .blk b386 [iw 3, iw 1, iw 10] 24]) (fun b386 => []) (fun b386 => []) [0, 1, 5, 6, 7, 124, 128] (fun b386 => by kernel_rfl) (fun b386 => trivial) (fun b386 => ?_))
      refine Ok.pubP 4 rfl [.blk b2 [iw 3, iw 1, iw 10] 24, .blk (b2 + 1) [iw 3, iw 1, iw 2] 24, .blk b3 [iw 5, iw 1, iw 0] 24, .blk (b4 + 1) [sl b4 0 2 2, iw 3] 37] rfl ?_
      intro H387 le388 pf389
      refine Ok.withS (idx := [0, 1, 2, 3]) le388 rfl ?_
      refine Ok.one (i := 2) (fuel' := 5) (l' := [true, true, true, false, false, true, false, false, false]) (by kernel_rfl) rfl rfl (Eff.call0 (d := some 125) (by kernel_rfl) (x6_2 H387) ?_)
      rintro v390 H391 k393 le392 ⟨q394, rfl, pf395⟩
      refine Ok.dropL ?_
      refine Ok.withS (idx := [0, 1, 2, 3]) (SLe.trans le388 le392) rfl ?_
      refine Ok.one (i := 3) (fuel' := 4) (l' := [true, true, true, true, false, true, false, false, false]) (by kernel_rfl) rfl rfl (Eff.call0 (d := some 126) (by kernel_rfl) (x6_104 H391) ?_)
      rintro v396 H397 k399 le398 ⟨q400, rfl, pf401⟩
      refine Ok.dropL ?_
      refine Ok.withS (idx := [0, 1, 2, 3]) (SLe.trans le388 (SLe.trans le392 le398)) rfl ?_
      refine Ok.one (i := 4) (fuel' := 3) (l' := [true, true, true, true, true, true, false, false, false]) (by kernel_rfl) rfl rfl (Eff.call0 (d := some 127) (by kernel_rfl) (x6_105 H397) ?_)
      rintro v402 H403 k405 le404 ⟨q406, rfl, pf407⟩
      refine Ok.dropL ?_
      refine Ok.withS (idx := [0, 1, 2, 3]) (SLe.trans le388 (SLe.trans le392 (SLe.trans le398 le404))) rfl ?_
      refine Ok.one (i := 6) (fuel' := 2) (l' := [true, true, true, true, true, true, true, false, false]) (by kernel_rfl) rfl rfl (Eff.op (.g [.N]) (fun b408 => [(0, bF), (1, pt b2 0), (5, bT), (6, bT), (7, bT), (124, sl b386 0 1 1), (129, sl b408 0 4 4)]) (fun b408 => [.blk b2 [iw 3, iw 1, iw 10] 24, .blk (b2 + 1) [iw 3, iw 1, iw 2] 24, .blk b3 [iw 5, iw 1, iw 0] 24, .blk (b4 + 1) [sl b4 0 2 2, iw 3] 37, .blk b408 [sl q394 0 1 1, sl q400 0 1 1, sl q406 0 1 1, n0] 30]) (fun b408 => []) (fun b408 => []) [0, 1, 5, 6, 7, 124, 129] (fun b408 => by kernel_rfl) (fun b408 => trivial) (fun b408 => ?_))
      refine Ok.pubP 4 rfl [.blk b2 [iw 3, iw 1, iw 10] 24, .blk (b2 + 1) [iw 3, iw 1, iw 2] 24, .blk b3 [iw 5, iw 1, iw 0] 24, .blk (b4 + 1) [sl b4 0 2 2, iw 3] 37] rfl ?_
      intro H409 le410 pf411
      refine Ok.withS (idx := [0, 1, 2, 3]) (SLe.trans le388 (SLe.trans le392 (SLe.trans le398 (SLe.trans le404 le410)))) rfl ?_
      refine Ok.restr [0, 1, 5, 6, 7, 124, 129] [(0, bF), (1, pt b2 0), (5, bT), (6, bT), (7, bT), (124, sl b386 0 1 1), (129, sl b408 0 4 4)] rfl ?_
      exact J194 _ (b386, b408, q394, q400, q406) (SLe.trans le388 (SLe.trans le392 (SLe.trans le398 (SLe.trans le404 le410)))) ⟨(Pre.mono (SLe.trans le392 (SLe.trans le398 (SLe.trans le404 le410))) pf389), pf411, (Pre.mono (SLe.trans le398 (SLe.trans le404 le410)) pf395), (Pre.mono (SLe.trans le404 le410) pf401), (Pre.mono le410 pf407)⟩
    · refine (Eff.call0 (d := some 125) (by kernel_rfl) (x6_2 H189) ?_)
      rintro v412 H413 k415 le414 ⟨q416, rfl, pf417⟩
      refine Ok.dropL ?_
      refine Ok.withS (idx := [0, 1, 2, 3]) le414 rfl ?_
      refine Ok.two (fuel' := 5) (i := 1) (li := [true, true, true, false, false, true, false, false, false]) (j := 3) (lj := [true, false, true, true, false, true, false, false, false]) (by kernel_rfl) rfl rfl rfl ?_ ?_
      · refine (Eff.op (.g [.N]) (fun b418 => [(0, bF), (1, pt b2 0), (5, bT), (6, bT), (7, bT), (124, sl b418 0 1 1), (125, .agg #[sl q416 0 1 1]), (128, .agg #[n0])]) (fun b418 => [.blk b2 [iw 3, iw 1, iw 10] 24, .blk (b2 + 1) [iw 3, iw 1, iw 2] 24, .blk b3 [iw 5, iw 1, iw 0] 24, .blk (b4 + 1) [sl b4 0 2 2, iw 3] 37, .blk b418 [iw 3, iw 1, iw 10] 24]) (fun b418 => []) (fun b418 => []) [0, 1, 5, 6, 7, 124, 125, 128] (fun b418 => by kernel_rfl) (fun b418 => trivial) (fun b418 => ?_))
        refine Ok.pubP 4 rfl [.blk b2 [iw 3, iw 1, iw 10] 24, .blk (b2 + 1) [iw 3, iw 1, iw 2] 24, .blk b3 [iw 5, iw 1, iw 0] 24, .blk (b4 + 1) [sl b4 0 2 2, iw 3] 37] rfl ?_
        intro H419 le420 pf421
        refine Ok.withS (idx := [0, 1, 2, 3]) (SLe.trans le414 le420) rfl ?_
        refine Ok.one (i := 3) (fuel' := 4) (l' := [true, true, true, true, false, true, false, false, false]) (by kernel_rfl) rfl rfl (Eff.call0 (d := some 126) (by kernel_rfl) (x6_104 H419) ?_)
        rintro v422 H423 k425 le424 ⟨q426, rfl, pf427⟩
        refine Ok.dropL ?_
        refine Ok.withS (idx := [0, 1, 2, 3]) (SLe.trans le414 (SLe.trans le420 le424)) rfl ?_
        refine Ok.one (i := 4) (fuel' := 3) (l' := [true, true, true, true, true, true, false, false, false]) (by kernel_rfl) rfl rfl (Eff.call0 (d := some 127) (by kernel_rfl) (x6_105 H423) ?_)
        rintro v428 H429 k431 le430 ⟨q432, rfl, pf433⟩
        refine Ok.dropL ?_
        refine Ok.withS (idx := [0, 1, 2, 3]) (SLe.trans le414 (SLe.trans le420 (SLe.trans le424 le430))) rfl ?_
        refine Ok.one (i := 6) (fuel' := 2) (l' := [true, true, true, true, true, true, true, false, false]) (by kernel_rfl) rfl rfl (Eff.op (.g [.N]) (fun b434 => [(0, bF), (1, pt b2 0), (5, bT), (6, bT), (7, bT), (124, sl b418 0 1 1), (129, sl b434 0 4 4)]) (fun b434 => [.blk b2 [iw 3, iw 1, iw 10] 24, .blk (b2 + 1) [iw 3, iw 1, iw 2] 24, .blk b3 [iw 5, iw 1, iw 0] 24, .blk (b4 + 1) [sl b4 0 2 2, iw 3] 37, .blk b434 [sl q416 0 1 1, sl q426 0 1 1, sl q432 0 1 1, n0] 30]) (fun b434 => []) (fun b434 => []) [0, 1, 5, 6, 7, 124, 129] (fun b434 => by kernel_rfl) (fun b434 => trivial) (fun b434 => ?_))
        refine Ok.pubP 4 rfl [.blk b2 [iw 3, iw 1, iw 10] 24, .blk (b2 + 1) [iw 3, iw 1, iw 2] 24, .blk b3 [iw 5, iw 1, iw 0] 24, .blk (b4 + 1) [sl b4 0 2 2, iw 3] 37] rfl ?_
        intro H435 le436 pf437
        refine Ok.withS (idx := [0, 1, 2, 3]) (SLe.trans le414 (SLe.trans le420 (SLe.trans le424 (SLe.trans le430 le436)))) rfl ?_
        refine Ok.restr [0, 1, 5, 6, 7, 124, 129] [(0, bF), (1, pt b2 0), (5, bT), (6, bT), (7, bT), (124, sl b418 0 1 1), (129, sl b434 0 4 4)] rfl ?_
        exact J194 _ (b418, b434, q416, q426, q432) (SLe.trans le414 (SLe.trans le420 (SLe.trans le424 (SLe.trans le430 le436)))) ⟨(Pre.mono (SLe.trans le424 (SLe.trans le430 le436)) pf421), pf437, (Pre.mono (SLe.trans le420 (SLe.trans le424 (SLe.trans le430 le436))) pf417), (Pre.mono (SLe.trans le430 le436) pf427), (Pre.mono le436 pf433)⟩
      · refine (Eff.call0 (d := some 126) (by kernel_rfl) (x6_104 H413) ?_)
        rintro v438 H439 k441 le440 ⟨q442, rfl, pf443⟩
        refine Ok.dropL ?_
        refine Ok.withS (idx := [0, 1, 2, 3]) (SLe.trans le414 le440) rfl ?_
        refine Ok.two (fuel' := 4) (i := 1) (li := [true, true, true, true, false, true, false, false, false]) (j := 4) (lj := [true, false, true, true, true, true, false, false, false]) (by kernel_rfl) rfl rfl rfl ?_ ?_
        · refine (Eff.op (.g [.N]) (fun b444 => [(0, bF), (1, pt b2 0), (5, bT), (6, bT), (7, bT), (124, sl b444 0 1 1), (125, .agg #[sl q416 0 1 1]), (126, .agg #[sl q442 0 1 1]), (128, .agg #[n0])]) (fun b444 => [.blk b2 [iw 3, iw 1, iw 10] 24, .blk (b2 + 1) [iw 3, iw 1, iw 2] 24, .blk b3 [iw 5, iw 1, iw 0] 24, .blk (b4 + 1) [sl b4 0 2 2, iw 3] 37, .blk b444 [iw 3, iw 1, iw 10] 24]) (fun b444 => []) (fun b444 => []) [0, 1, 5, 6, 7, 124, 125, 126, 128] (fun b444 => by kernel_rfl) (fun b444 => trivial) (fun b444 => ?_))
          refine Ok.pubP 4 rfl [.blk b2 [iw 3, iw 1, iw 10] 24, .blk (b2 + 1) [iw 3, iw 1, iw 2] 24, .blk b3 [iw 5, iw 1, iw 0] 24, .blk (b4 + 1) [sl b4 0 2 2, iw 3] 37] rfl ?_
          intro H445 le446 pf447
          refine Ok.withS (idx := [0, 1, 2, 3]) (SLe.trans le414 (SLe.trans le440 le446)) rfl ?_
          refine Ok.one (i := 4) (fuel' := 3) (l' := [true, true, true, true, true, true, false, false, false]) (by kernel_rfl) rfl rfl (Eff.call0 (d := some 127) (by kernel_rfl) (x6_105 H445) ?_)
          rintro v448 H449 k451 le450 ⟨q452, rfl, pf453⟩
          refine Ok.dropL ?_
          refine Ok.withS (idx := [0, 1, 2, 3]) (SLe.trans le414 (SLe.trans le440 (SLe.trans le446 le450))) rfl ?_
          refine Ok.one (i := 6) (fuel' := 2) (l' := [true, true, true, true, true, true, true, false, false]) (by kernel_rfl) rfl rfl (Eff.op (.g [.N]) (fun b454 => [(0, bF), (1, pt b2 0), (5, bT), (6, bT), (7, bT), (124, sl b444 0 1 1), (129, sl b454 0 4 4)]) (fun b454 => [.blk b2 [iw 3, iw 1, iw 10] 24, .blk (b2 + 1) [iw 3, iw 1, iw 2] 24, .blk b3 [iw 5, iw 1, iw 0] 24, .blk (b4 + 1) [sl b4 0 2 2, iw 3] 37, .blk b454 [sl q416 0 1 1, sl q442 0 1 1, sl q452 0 1 1, n0] 30]) (fun b454 => []) (fun b454 => []) [0, 1, 5, 6, 7, 124, 129] (fun b454 => by kernel_rfl) (fun b454 => trivial) (fun b454 => ?_))
          refine Ok.pubP 4 rfl [.blk b2 [iw 3, iw 1, iw 10] 24, .blk (b2 + 1) [iw 3, iw 1, iw 2] 24, .blk b3 [iw 5, iw 1, iw 0] 24, .blk (b4 + 1) [sl b4 0 2 2, iw 3] 37] rfl ?_
          intro H455 le456 pf457
          refine Ok.withS (idx := [0, 1, 2, 3]) (SLe.trans le414 (SLe.trans le440 (SLe.trans le446 (SLe.trans le450 le456)))) rfl ?_
          refine Ok.restr [0, 1, 5, 6, 7, 124, 129] [(0, bF), (1, pt b2 0), (5, bT), (6, bT), (7, bT), (124, sl b444 0 1 1), (129, sl b454 0 4 4)] rfl ?_
          exact J194 _ (b444, b454, q416, q442, q452) (SLe.trans le414 (SLe.trans le440 (SLe.trans le446 (SLe.trans le450 le456)))) ⟨(Pre.mono (SLe.trans le450 le456) pf447), pf457, (Pre.mono (SLe.trans le440 (SLe.trans le446 (SLe.trans le450 le456))) pf417), (Pre.mono (SLe.trans le446 (SLe.trans le450 le456)) pf443), (Pre.mono le456 pf453)⟩
        · refine (Eff.call0 (d := some 127) (by kernel_rfl) (x6_105 H439) ?_)
          rintro v458 H459 k461 le460 ⟨q462, rfl, pf463⟩
          refine Ok.dropL ?_
          refine Ok.withS (idx := [0, 1, 2, 3]) (SLe.trans le414 (SLe.trans le440 le460)) rfl ?_
          refine Ok.two (fuel' := 3) (i := 1) (li := [true, true, true, true, true, true, false, false, false]) (j := 6) (lj := [true, false, true, true, true, true, true, false, false]) (by kernel_rfl) rfl rfl rfl ?_ ?_
          · refine (Eff.op (.g [.N]) (fun b464 => [(0, bF), (1, pt b2 0), (5, bT), (6, bT), (7, bT), (124, sl b464 0 1 1), (125, .agg #[sl q416 0 1 1]), (126, .agg #[sl q442 0 1 1]), (127, .agg #[sl q462 0 1 1]), (128, .agg #[n0])]) (fun b464 => [.blk b2 [iw 3, iw 1, iw 10] 24, .blk (b2 + 1) [iw 3, iw 1, iw 2] 24, .blk b3 [iw 5, iw 1, iw 0] 24, .blk (b4 + 1) [sl b4 0 2 2, iw 3] 37, .blk b464 [iw 3, iw 1, iw 10] 24]) (fun b464 => []) (fun b464 => []) [0, 1, 5, 6, 7, 124, 125, 126, 127, 128] (fun b464 => by kernel_rfl) (fun b464 => trivial) (fun b464 => ?_))
            refine Ok.pubP 4 rfl [.blk b2 [iw 3, iw 1, iw 10] 24, .blk (b2 + 1) [iw 3, iw 1, iw 2] 24, .blk b3 [iw 5, iw 1, iw 0] 24, .blk (b4 + 1) [sl b4 0 2 2, iw 3] 37] rfl ?_
            intro H465 le466 pf467
            refine Ok.withS (idx := [0, 1, 2, 3]) (SLe.trans le414 (SLe.trans le440 (SLe.trans le460 le466))) rfl ?_
            refine Ok.one (i := 6) (fuel' := 2) (l' := [true, true, true, true, true, true, true, false, false]) (by kernel_rfl) rfl rfl (Eff.op (.g [.N]) (fun b468 => [(0, bF), (1, pt b2 0), (5, bT), (6, bT), (7, bT), (124, sl b464 0 1 1), (129, sl b468 0 4 4)]) (fun b468 => [.blk b2 [iw 3, iw 1, iw 10] 24, .blk (b2 + 1) [iw 3, iw 1, iw 2] 24, .blk b3 [iw 5, iw 1, iw 0] 24, .blk (b4 + 1) [sl b4 0 2 2, iw 3] 37, .blk b468 [sl q416 0 1 1, sl q442 0 1 1, sl q462 0 1 1, n0] 30]) (fun b468 => []) (fun b468 => []) [0, 1, 5, 6, 7, 124, 129] (fun b468 => by kernel_rfl) (fun b468 => trivial) (fun b468 => ?_))
            refine Ok.pubP 4 rfl [.blk b2 [iw 3, iw 1, iw 10] 24, .blk (b2 + 1) [iw 3, iw 1, iw 2] 24, .blk b3 [iw 5, iw 1, iw 0] 24, .blk (b4 + 1) [sl b4 0 2 2, iw 3] 37] rfl ?_
            intro H469 le470 pf471
            refine Ok.withS (idx := [0, 1, 2, 3]) (SLe.trans le414 (SLe.trans le440 (SLe.trans le460 (SLe.trans le466 le470)))) rfl ?_
            refine Ok.restr [0, 1, 5, 6, 7, 124, 129] [(0, bF), (1, pt b2 0), (5, bT), (6, bT), (7, bT), (124, sl b464 0 1 1), (129, sl b468 0 4 4)] rfl ?_
            exact J194 _ (b464, b468, q416, q442, q462) (SLe.trans le414 (SLe.trans le440 (SLe.trans le460 (SLe.trans le466 le470)))) ⟨(Pre.mono le470 pf467), pf471, (Pre.mono (SLe.trans le440 (SLe.trans le460 (SLe.trans le466 le470))) pf417), (Pre.mono (SLe.trans le460 (SLe.trans le466 le470)) pf443), (Pre.mono (SLe.trans le466 le470) pf463)⟩
          · refine (Eff.op (.g [.N]) (fun b472 => [(0, bF), (1, pt b2 0), (5, bT), (6, bT), (7, bT), (123, .agg #[iw 3, iw 1, iw 10]), (129, sl b472 0 4 4)]) (fun b472 => [.blk b2 [iw 3, iw 1, iw 10] 24, .blk (b2 + 1) [iw 3, iw 1, iw 2] 24, .blk b3 [iw 5, iw 1, iw 0] 24, .blk (b4 + 1) [sl b4 0 2 2, iw 3] 37, .blk b472 [sl q416 0 1 1, sl q442 0 1 1, sl q462 0 1 1, n0] 30]) (fun b472 => []) (fun b472 => []) [0, 1, 5, 6, 7, 123, 129] (fun b472 => by kernel_rfl) (fun b472 => trivial) (fun b472 => ?_))
            refine Ok.pubP 4 rfl [.blk b2 [iw 3, iw 1, iw 10] 24, .blk (b2 + 1) [iw 3, iw 1, iw 2] 24, .blk b3 [iw 5, iw 1, iw 0] 24, .blk (b4 + 1) [sl b4 0 2 2, iw 3] 37] rfl ?_
            intro H473 le474 pf475
            refine Ok.withS (idx := [0, 1, 2, 3]) (SLe.trans le414 (SLe.trans le440 (SLe.trans le460 le474))) rfl ?_
            refine Ok.one (i := 1) (fuel' := 2) (l' := [true, true, true, true, true, true, true, false, false]) (by kernel_rfl) rfl rfl (Eff.op (.g [.N]) (fun b476 => [(0, bF), (1, pt b2 0), (5, bT), (6, bT), (7, bT), (124, sl b476 0 1 1), (129, sl b472 0 4 4)]) (fun b476 => [.blk b2 [iw 3, iw 1, iw 10] 24, .blk (b2 + 1) [iw 3, iw 1, iw 2] 24, .blk b3 [iw 5, iw 1, iw 0] 24, .blk (b4 + 1) [sl b4 0 2 2, iw 3] 37, .blk b476 [iw 3, iw 1, iw 10] 24]) (fun b476 => []) (fun b476 => []) [0, 1, 5, 6, 7, 124, 129] (fun b476 => by kernel_rfl) (fun b476 => trivial) (fun b476 => ?_))
            refine Ok.pubP 4 rfl [.blk b2 [iw 3, iw 1, iw 10] 24, .blk (b2 + 1) [iw 3, iw 1, iw 2] 24, .blk b3 [iw 5, iw 1, iw 0] 24, .blk (b4 + 1) [sl b4 0 2 2, iw 3] 37] rfl ?_
            intro H477 le478 pf479
            refine Ok.withS (idx := [0, 1, 2, 3]) (SLe.trans le414 (SLe.trans le440 (SLe.trans le460 (SLe.trans le474 le478)))) rfl ?_
            refine Ok.restr [0, 1, 5, 6, 7, 124, 129] [(0, bF), (1, pt b2 0), (5, bT), (6, bT), (7, bT), (124, sl b476 0 1 1), (129, sl b472 0 4 4)] rfl ?_
            exact J194 _ (b476, b472, q416, q442, q462) (SLe.trans le414 (SLe.trans le440 (SLe.trans le460 (SLe.trans le474 le478)))) ⟨pf479, (Pre.mono le478 pf475), (Pre.mono (SLe.trans le440 (SLe.trans le460 (SLe.trans le474 le478))) pf417), (Pre.mono (SLe.trans le460 (SLe.trans le474 le478)) pf443), (Pre.mono (SLe.trans le474 le478) pf463)⟩
end Go.Proofs.YtldanodmjilfaaaDoor
