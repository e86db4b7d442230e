/- Contracts of functions at the arguments that the fixed examples meet: printed by a program of this claim's author. -/
import Derived.Test.YtldanodmjilfaaaDoorProg
import Derived.Test.YtldanodmjilfaaaDoorSn2
set_option linter.unusedVariables false
set_option maxHeartbeats 4000000
namespace Go.Proofs.YtldanodmjilfaaaDoor
open Go Go.RowKit Sx
set_option maxRecDepth 100000 in
theorem x7_81 (H : Snap) : Does Tryd.prog 7 [.agg #[iw 6, iw 0, iw 0, iw 0, n0, s0, n0], .agg #[iw 6, iw 0, iw 0, iw 0, n0, s0, n0]] H [] (fun v H' kp => v = bT) := by
  refine Does.of Tryd.func7 rfl rfl rfl rfl (fun w0 H0 kx => ?_)
  refine Ok.seq ?_
  refine Ok.reg ?_
  refine Ok.seg (j := 3) (fun b1 => [(2, pt b1 0), (3, pt (b1 + 1) 0), (4, bF)]) (fun b1 => [.blk b1 [iw 6, iw 0, iw 0, iw 0, n0, s0, n0] 44, .blk (b1 + 1) [iw 6, iw 0, iw 0, iw 0, n0, s0, n0] 44]) (fun b1 => []) (fun b1 => []) [.g [.N], .g [.N], .g []] [2, 3, 4] rfl (fun b1 => by kernel_rfl) (fun b1 => trivial) (fun b1 => ?_)
  refine Ok.segEnd rfl ?_
  refine Ok.thenN ?_
  refine Ok.seq ?_
  refine Ok.seq ?_
  refine Ok.reg ?_
  refine Ok.seg (j := 38) (fun _ => [(2, pt b1 0), (3, pt (b1 + 1) 0), (4, bF), (39, bF), (41, n0), (43, n0)]) (fun _ => [.blk b1 [iw 6, iw 0, iw 0, iw 0, n0, s0, n0] 44, .blk (b1 + 1) [iw 6, iw 0, iw 0, iw 0, n0, s0, n0] 44]) (fun _ => [b1, b1 + 1, b1, b1 + 1, b1, b1 + 1, b1, b1 + 1, b1, b1 + 1, b1, b1 + 1]) (fun _ => []) [.g [], .g [.K 0 0], .g [], .g [.K 1 0], .g [], .g [], .g [], .g [.K 0 1], .g [], .g [.K 1 1], .g [], .g [], .g [], .g [], .g [.K 0 2], .g [], .g [.K 1 2], .g [], .g [], .g [], .g [], .g [.K 0 3], .g [], .g [.K 1 3], .g [], .g [], .g [], .g [], .g [.K 0 5], .g [], .g [.K 1 5], .g [], .g [], .g [], .g [], .g [.K 0 4], .g [], .g [.K 1 4]] [2, 3, 4, 39, 41, 43] rfl (fun _ => by kernel_rfl) (fun _ => trivial) (fun _ => ?_)
  refine Ok.eff (j := 39) rfl (Eff.call0 (d := some 44) (by kernel_rfl) (x16_43 H) ?_)
  rintro v3 H4 k6 le5 rfl
  refine Ok.dropL ?_
  refine Ok.seg (j := 50) (fun _ => [(2, pt b1 0), (3, pt (b1 + 1) 0), (4, bF), (55, bF)]) (fun _ => [.blk b1 [iw 6, iw 0, iw 0, iw 0, n0, s0, n0] 44, .blk (b1 + 1) [iw 6, iw 0, iw 0, iw 0, n0, s0, n0] 44]) (fun _ => [b1, b1 + 1]) (fun _ => []) [.g [], .g [], .g [], .g [], .g [.K 0 6], .g [], .g [], .g [.K 1 6], .g [], .g [], .g []] [2, 3, 4, 55] rfl (fun _ => by kernel_rfl) (fun _ => trivial) (fun _ => ?_)
  refine Ok.segEnd rfl ?_
  refine Ok.thenN ?_
  refine Ok.condF rfl ?_
  refine Ok.skip_ ?_
  refine Ok.thenN ?_
  refine Ok.seq ?_
  refine Ok.seq ?_
  refine Ok.reg ?_
  refine Ok.seg (j := 1) (fun _ => [(2, pt b1 0), (3, pt (b1 + 1) 0), (4, bF), (5, iw 0)]) (fun _ => [.blk b1 [iw 6, iw 0, iw 0, iw 0, n0, s0, n0] 44, .blk (b1 + 1) [iw 6, iw 0, iw 0, iw 0, n0, s0, n0] 44]) (fun _ => []) (fun _ => []) [.g []] [2, 3, 4, 5] rfl (fun _ => by kernel_rfl) (fun _ => trivial) (fun _ => ?_)
  refine Ok.segEnd rfl ?_
  refine Ok.thenN ?_
  refine Ok.blk ?_
  refine Ok.loopN 1 ?_
  refine Ok.round ?_
  refine Ok.seq ?_
  refine Ok.seq ?_
  refine Ok.reg ?_
  refine Ok.seg (j := 5) (fun _ => [(2, pt b1 0), (3, pt (b1 + 1) 0), (4, bF), (5, iw 0), (56, iw 0), (57, pt b1 6), (58, n0), (59, iw 0), (60, bF)]) (fun _ => [.blk b1 [iw 6, iw 0, iw 0, iw 0, n0, s0, n0] 44, .blk (b1 + 1) [iw 6, iw 0, iw 0, iw 0, n0, s0, n0] 44]) (fun _ => [b1]) (fun _ => []) [.g [], .g [], .g [.K 0 6], .g [], .g []] [2, 3, 4, 5, 56, 57, 58, 59, 60] rfl (fun _ => by kernel_rfl) (fun _ => trivial) (fun _ => ?_)
  refine Ok.segEnd rfl ?_
  refine Ok.thenN ?_
  refine Ok.condF rfl ?_
  refine Ok.exit_ ?_
  refine Ok.thenE ?_
  refine Ok.thenE ?_
  refine Ok.blkE ?_
  refine Ok.thenN ?_
  refine Ok.seq ?_
  refine Ok.reg ?_
  refine Ok.seg (j := 1) (fun _ => [(4, bT)]) (fun _ => [.blk b1 [iw 6, iw 0, iw 0, iw 0, n0, s0, n0] 44, .blk (b1 + 1) [iw 6, iw 0, iw 0, iw 0, n0, s0, n0] 44]) (fun _ => []) (fun _ => []) [.g []] [4] rfl (fun _ => by kernel_rfl) (fun _ => trivial) (fun _ => ?_)
  refine Ok.mask [false, false] [] rfl ?_
  refine Ok.segEnd rfl ?_
  refine Ok.thenN ?_
  refine Ok.ret_ ?_
  exact Ok.ret1 (v := bT) le5 rfl rfl rfl
set_option maxRecDepth 100000 in
theorem x60_86 (H : Snap) (p0 : Nat) (hp0 : Pre H p0 [iw 1]) : Does Tryd.prog 60 [.agg #[iw 1, .string ⟨#[97]⟩, iw 3, iw 0], pt p0 0] H [] (fun v H' kp => v = bT) := by
  refine Does.of Tryd.func60 rfl rfl rfl rfl (fun w0 H0 kx => ?_)
  refine Ok.seq ?_
  refine Ok.reg ?_
  refine Ok.seg (j := 2) (fun b1 => [(1, pt p0 0), (2, pt b1 0), (3, bF)]) (fun b1 => [.blk b1 [iw 1, .string ⟨#[97]⟩, iw 3, iw 0] 34]) (fun b1 => []) (fun b1 => []) [.g [.N], .g []] [1, 2, 3] rfl (fun b1 => by kernel_rfl) (fun b1 => trivial) (fun b1 => ?_)
  refine Ok.segEnd rfl ?_
  refine Ok.thenN ?_
  refine Ok.seq ?_
  refine Ok.reg ?_
  refine Ok.seg (j := 5) (fun _ => [(3, bT)]) (fun _ => [.blk b1 [iw 1, .string ⟨#[97]⟩, iw 3, iw 0] 34]) (fun _ => [b1]) (fun _ => [HasCell H ⟨p0, 0, none⟩ (iw 1)]) [.g [], .g [.K 0 0], .g [.X (iw 1)], .g [], .g []] [3] rfl (fun _ => by kernel_rfl) (fun _ => ⟨Pre.cell hp0 0 rfl, trivial⟩) (fun _ => ?_)
  refine Ok.segEnd rfl ?_
  refine Ok.thenN ?_
  refine Ok.ret_ ?_
  refine Ok.dropAll ?_
  exact Ok.ret1 (v := bT) (SLe.refl _) rfl rfl rfl
set_option maxRecDepth 100000 in
theorem x59_85 (H : Snap) (p0 p1 : Nat) (hp0 : Pre H p0 [iw 1, .string ⟨#[97]⟩, iw 3, iw 0, iw 2, .string ⟨#[98]⟩, iw 5, iw 0]) (hp1 : Pre H p1 [iw 1]) : Does Tryd.prog 59 [sl p0 0 2 2, .func (.func 60) #[] #[pt p1 0]] H [] (fun v H' kp => v = iw 0) := by
  refine Does.of Tryd.func59 rfl rfl rfl rfl (fun w0 H0 kx => ?_)
  refine Ok.seq ?_
  refine Ok.reg ?_
  refine Ok.seg (j := 1) (fun _ => [(0, sl p0 0 2 2), (1, .func (.func 60) #[] #[pt p1 0]), (4, iw 0)]) (fun _ => []) (fun _ => []) (fun _ => []) [.g []] [0, 1, 4] rfl (fun _ => by kernel_rfl) (fun _ => trivial) (fun _ => ?_)
  refine Ok.segEnd rfl ?_
  refine Ok.thenN ?_
  refine Ok.seq ?_
  refine Ok.seq ?_
  refine Ok.reg ?_
  refine Ok.seg (j := 3) (fun _ => [(0, sl p0 0 2 2), (1, .func (.func 60) #[] #[pt p1 0]), (4, iw 0), (7, iw 2), (8, iw 0)]) (fun _ => []) (fun _ => []) (fun _ => []) [.g [], .g [], .g []] [0, 1, 4, 7, 8] rfl (fun _ => by kernel_rfl) (fun _ => trivial) (fun _ => ?_)
  refine Ok.segEnd rfl ?_
  refine Ok.thenN ?_
  refine Ok.blk ?_
  refine Ok.loopN 1 ?_
  refine Ok.round ?_
  refine Ok.seq ?_
  refine Ok.reg ?_
  refine Ok.seg (j := 1) (fun _ => [(0, sl p0 0 2 2), (1, .func (.func 60) #[] #[pt p1 0]), (4, iw 0), (7, iw 2), (8, iw 0), (9, bT)]) (fun _ => []) (fun _ => []) (fun _ => []) [.g []] [0, 1, 4, 7, 8, 9] rfl (fun _ => by kernel_rfl) (fun _ => trivial) (fun _ => ?_)
  refine Ok.segEnd rfl ?_
  refine Ok.thenN ?_
  refine Ok.seq ?_
  refine Ok.condT rfl ?_
  refine Ok.skip_ ?_
  refine Ok.thenN ?_
  refine Ok.seq ?_
  refine Ok.blk ?_
  refine Ok.seq ?_
  refine Ok.reg ?_
  refine Ok.seg (j := 2) (fun _ => [(0, sl p0 0 2 2), (1, .func (.func 60) #[] #[pt p1 0]), (4, iw 0), (5, iw 0), (7, iw 2), (8, iw 0), (9, bT), (10, iw 0)]) (fun _ => []) (fun _ => []) (fun _ => []) [.g [], .g []] [0, 1, 4, 5, 7, 8, 9, 10] rfl (fun _ => by kernel_rfl) (fun _ => trivial) (fun _ => ?_)
  refine Ok.segEnd rfl ?_
  refine Ok.thenN ?_
  refine Ok.seq ?_
  refine Ok.reg ?_
  refine Ok.seg (j := 5) (fun _ => [(0, sl p0 0 2 2), (1, .func (.func 60) #[] #[pt p1 0]), (4, iw 0), (5, iw 0), (7, iw 2), (8, iw 0), (9, bT), (10, iw 0), (11, .func (.func 60) #[] #[pt p1 0]), (12, sl p0 0 2 2), (13, iw 0), (14, pt p0 0), (15, .agg #[iw 1, .string ⟨#[97]⟩, iw 3, iw 0])]) (fun _ => []) (fun _ => []) (fun _ => [HasCell H ⟨p0, 0, none⟩ (iw 1), HasCell H ⟨p0, 1, none⟩ (.string ⟨#[97]⟩), HasCell H ⟨p0, 2, none⟩ (iw 3), HasCell H ⟨p0, 3, none⟩ (iw 0)]) [.g [], .g [], .g [], .g [], .g [.X (iw 1), .X (.string ⟨#[97]⟩), .X (iw 3), .X (iw 0)]] [0, 1, 4, 5, 7, 8, 9, 10, 11, 12, 13, 14, 15] rfl (fun _ => by kernel_rfl) (fun _ => ⟨Pre.cell hp0 0 rfl, Pre.cell hp0 1 rfl, Pre.cell hp0 2 rfl, Pre.cell hp0 3 rfl, trivial⟩) (fun _ => ?_)
  refine Ok.eff (j := 6) rfl (Eff.call0 (d := some 16) (by kernel_rfl) (x60_86 H p1 hp1) ?_)
  rintro v6 H7 k9 le8 rfl
  refine Ok.dropL ?_
  refine Ok.segEnd rfl ?_
  refine Ok.thenN ?_
  refine Ok.condT rfl ?_
  refine Ok.seq ?_
  refine Ok.reg ?_
  refine Ok.seg (j := 2) (fun _ => [(0, sl p0 0 2 2), (1, .func (.func 60) #[] #[pt p1 0]), (4, iw 0), (5, iw 0), (7, iw 2), (8, iw 0), (9, bT), (10, iw 0), (11, .func (.func 60) #[] #[pt p1 0]), (12, sl p0 0 2 2), (13, iw 0), (14, pt p0 0), (15, .agg #[iw 1, .string ⟨#[97]⟩, iw 3, iw 0]), (16, bT), (17, iw 0)]) (fun _ => []) (fun _ => []) (fun _ => []) [.g [], .g []] [0, 1, 4, 5, 7, 8, 9, 10, 11, 12, 13, 14, 15, 16, 17] rfl (fun _ => by kernel_rfl) (fun _ => trivial) (fun _ => ?_)
  refine Ok.segEnd rfl ?_
  refine Ok.thenN ?_
  refine Ok.ret_ ?_
  refine Ok.blkR ?_
  refine Ok.thenR ?_
  refine Ok.thenR ?_
  refine Ok.blkR ?_
  refine Ok.thenR ?_
  exact Ok.ret1 (v := iw 0) le8 rfl rfl rfl
set_option maxRecDepth 100000 in
theorem x38_84 (H : Snap) (p0 : Nat) (hp0 : Pre H p0 [iw 1, .string ⟨#[97]⟩, iw 3, iw 0, iw 2, .string ⟨#[98]⟩, iw 5, iw 0]) : Does Tryd.prog 38 [.agg #[sl p0 0 2 2, iw 3], iw 1] H [] (fun v H' kp => v = iw 0) := by
  refine Does.of Tryd.func38 rfl rfl rfl rfl (fun w0 H0 kx => ?_)
  refine Ok.seq ?_
  refine Ok.reg ?_
  refine Ok.seg (j := 3) (fun b1 => [(2, pt b1 0), (3, pt (b1 + 1) 0), (4, iw 0)]) (fun b1 => [.blk b1 [sl p0 0 2 2, iw 3] 37, .blk (b1 + 1) [iw 1] 3]) (fun b1 => []) (fun b1 => []) [.g [.N], .g [.N], .g []] [2, 3, 4] rfl (fun b1 => by kernel_rfl) (fun b1 => trivial) (fun b1 => ?_)
  refine Ok.segEnd rfl ?_
  refine Ok.thenN ?_
  refine Ok.seq ?_
  refine Ok.reg ?_
  refine Ok.seg (j := 3) (fun _ => [(4, iw 0), (6, sl p0 0 2 2), (7, .func (.func 60) #[] #[pt (b1 + 1) 0])]) (fun _ => [.blk b1 [sl p0 0 2 2, iw 3] 37, .blk (b1 + 1) [iw 1] 3]) (fun _ => [b1]) (fun _ => []) [.g [], .g [.K 0 0], .g []] [4, 6, 7] rfl (fun _ => by kernel_rfl) (fun _ => trivial) (fun _ => ?_)
  refine Ok.pubP 1 rfl [.blk b1 [sl p0 0 2 2, iw 3] 37] rfl ?_
  intro H3 le4 pf5
  refine Ok.eff (j := 4) rfl (Eff.call0 (d := some 8) (by kernel_rfl) (x59_85 H3 p0 (b1 + 1) (Pre.mono le4 hp0) pf5) ?_)
  rintro v6 H7 k9 le8 rfl
  refine Ok.dropL ?_
  refine Ok.seg (j := 5) (fun _ => [(4, iw 0)]) (fun _ => [.blk b1 [sl p0 0 2 2, iw 3] 37]) (fun _ => []) (fun _ => []) [.g []] [4] rfl (fun _ => by kernel_rfl) (fun _ => trivial) (fun _ => ?_)
  refine Ok.segEnd rfl ?_
  refine Ok.thenN ?_
  refine Ok.ret_ ?_
  refine Ok.dropAll ?_
  exact Ok.ret1 (v := iw 0) (SLe.trans le4 le8) rfl rfl rfl
set_option maxRecDepth 100000 in
theorem x19_83 (H : Snap) (p0 : Nat) (hp0 : Pre H p0 [iw 1, .string ⟨#[97]⟩, iw 3, iw 0, iw 2, .string ⟨#[98]⟩, iw 5, iw 0]) : Does Tryd.prog 19 [.agg #[sl p0 0 2 2, iw 3], iw 1] H [] (fun v H' kp => v = .tuple #[.agg #[iw 1, .string ⟨#[97]⟩, iw 3, iw 0], bT]) := by
  refine Does.of Tryd.func19 rfl rfl rfl rfl (fun w0 H0 kx => ?_)
  refine Ok.seq ?_
  refine Ok.reg ?_
  refine Ok.seg (j := 3) (fun b1 => [(1, iw 1), (2, pt b1 0), (4, pt (b1 + 1) 0), (5, bF)]) (fun b1 => [.blk b1 [sl p0 0 2 2, iw 3] 37, .blk (b1 + 1) [iw 0, s0, iw 0, iw 0] 34]) (fun b1 => []) (fun b1 => []) [.g [.N], .g [.N], .g []] [1, 2, 4, 5] rfl (fun b1 => by kernel_rfl) (fun b1 => trivial) (fun b1 => ?_)
  refine Ok.segEnd rfl ?_
  refine Ok.thenN ?_
  refine Ok.seq ?_
  refine Ok.seq ?_
  refine Ok.reg ?_
  refine Ok.seg (j := 2) (fun _ => [(2, pt b1 0), (4, pt (b1 + 1) 0), (5, bF), (7, .agg #[sl p0 0 2 2, iw 3]), (8, iw 1)]) (fun _ => [.blk b1 [sl p0 0 2 2, iw 3] 37, .blk (b1 + 1) [iw 0, s0, iw 0, iw 0] 34]) (fun _ => [b1, b1]) (fun _ => []) [.g [.K 0 0, .K 0 1], .g []] [2, 4, 5, 7, 8] rfl (fun _ => by kernel_rfl) (fun _ => trivial) (fun _ => ?_)
  refine Ok.eff (j := 3) rfl (Eff.call0 (d := some 9) (by kernel_rfl) (x38_84 H p0 hp0) ?_)
  rintro v3 H4 k6 le5 rfl
  refine Ok.dropL ?_
  refine Ok.seg (j := 4) (fun _ => [(2, pt b1 0), (4, pt (b1 + 1) 0), (5, bF), (6, iw 0)]) (fun _ => [.blk b1 [sl p0 0 2 2, iw 3] 37, .blk (b1 + 1) [iw 0, s0, iw 0, iw 0] 34]) (fun _ => []) (fun _ => []) [.g []] [2, 4, 5, 6] rfl (fun _ => by kernel_rfl) (fun _ => trivial) (fun _ => ?_)
  refine Ok.segEnd rfl ?_
  refine Ok.thenN ?_
  refine Ok.seq ?_
  refine Ok.reg ?_
  refine Ok.seg (j := 2) (fun _ => [(2, pt b1 0), (4, pt (b1 + 1) 0), (5, bF), (6, iw 0), (11, bT)]) (fun _ => [.blk b1 [sl p0 0 2 2, iw 3] 37, .blk (b1 + 1) [iw 0, s0, iw 0, iw 0] 34]) (fun _ => []) (fun _ => []) [.g [], .g []] [2, 4, 5, 6, 11] rfl (fun _ => by kernel_rfl) (fun _ => trivial) (fun _ => ?_)
  refine Ok.segEnd rfl ?_
  refine Ok.thenN ?_
  refine Ok.condT rfl ?_
  refine Ok.seq ?_
  refine Ok.reg ?_
  refine Ok.seg (j := 7) (fun _ => [(4, pt (b1 + 1) 0), (5, bT)]) (fun _ => [.blk b1 [sl p0 0 2 2, iw 3] 37, .blk (b1 + 1) [iw 1, .string ⟨#[97]⟩, iw 3, iw 0] 34]) (fun _ => [b1, b1 + 1, b1 + 1, b1 + 1, b1 + 1]) (fun _ => [HasCell H4 ⟨p0, 0, none⟩ (iw 1), HasCell H4 ⟨p0, 1, none⟩ (.string ⟨#[97]⟩), HasCell H4 ⟨p0, 2, none⟩ (iw 3), HasCell H4 ⟨p0, 3, none⟩ (iw 0)]) [.g [], .g [.K 0 0], .g [], .g [], .g [.X (iw 1), .X (.string ⟨#[97]⟩), .X (iw 3), .X (iw 0)], .g [.K 1 0, .K 1 1, .K 1 2, .K 1 3], .g []] [4, 5] rfl (fun _ => by kernel_rfl) (fun _ => ⟨Pre.cell (Pre.mono le5 hp0) 0 rfl, Pre.cell (Pre.mono le5 hp0) 1 rfl, Pre.cell (Pre.mono le5 hp0) 2 rfl, Pre.cell (Pre.mono le5 hp0) 3 rfl, trivial⟩) (fun _ => ?_)
  refine Ok.segEnd rfl ?_
  refine Ok.thenN ?_
  refine Ok.ret_ ?_
  refine Ok.thenR ?_
  exact Ok.ret2c le5 [.K 1 0, .K 1 1, .K 1 2, .K 1 3] (.agg #[iw 1, .string ⟨#[97]⟩, iw 3, iw 0]) (bT) [b1 + 1, b1 + 1, b1 + 1, b1 + 1] rfl (by kernel_rfl) rfl rfl
set_option maxRecDepth 100000 in
theorem x20_87 (H : Snap) : Does Tryd.prog 20 [.agg #[iw 3, iw 1, iw 10], .agg #[iw 1, .string ⟨#[97]⟩, iw 3, iw 0]] H [] (fun v H' kp => v = bT) := by
  refine Does.of Tryd.func20 rfl rfl rfl rfl (fun w0 H0 kx => ?_)
  refine Ok.seq ?_
  refine Ok.reg ?_
  refine Ok.seg (j := 3) (fun b1 => [(2, pt b1 0), (3, pt (b1 + 1) 0), (4, bF)]) (fun b1 => [.blk b1 [iw 3, iw 1, iw 10] 24, .blk (b1 + 1) [iw 1, .string ⟨#[97]⟩, iw 3, iw 0] 34]) (fun b1 => []) (fun b1 => []) [.g [.N], .g [.N], .g []] [2, 3, 4] rfl (fun b1 => by kernel_rfl) (fun b1 => trivial) (fun b1 => ?_)
  refine Ok.segEnd rfl ?_
  refine Ok.thenN ?_
  refine Ok.seq ?_
  refine Ok.seq ?_
  refine Ok.reg ?_
  refine Ok.seg (j := 2) (fun _ => [(2, pt b1 0), (3, pt (b1 + 1) 0), (4, bF), (6, iw 3)]) (fun _ => [.blk b1 [iw 3, iw 1, iw 10] 24, .blk (b1 + 1) [iw 1, .string ⟨#[97]⟩, iw 3, iw 0] 34]) (fun _ => [b1]) (fun _ => []) [.g [], .g [.K 0 0]] [2, 3, 4, 6] rfl (fun _ => by kernel_rfl) (fun _ => trivial) (fun _ => ?_)
  refine Ok.segEnd rfl ?_
  refine Ok.thenN ?_
  refine Ok.blk ?_
  refine Ok.seq ?_
  refine Ok.reg ?_
  refine Ok.seg (j := 2) (fun _ => [(2, pt b1 0), (3, pt (b1 + 1) 0), (4, bF), (6, iw 3), (7, bF)]) (fun _ => [.blk b1 [iw 3, iw 1, iw 10] 24, .blk (b1 + 1) [iw 1, .string ⟨#[97]⟩, iw 3, iw 0] 34]) (fun _ => []) (fun _ => []) [.g [], .g []] [2, 3, 4, 6, 7] rfl (fun _ => by kernel_rfl) (fun _ => trivial) (fun _ => ?_)
  refine Ok.segEnd rfl ?_
  refine Ok.thenN ?_
  refine Ok.condF rfl ?_
  refine Ok.seq ?_
  refine Ok.reg ?_
  refine Ok.seg (j := 2) (fun _ => [(2, pt b1 0), (3, pt (b1 + 1) 0), (4, bF), (6, iw 3), (12, bF)]) (fun _ => [.blk b1 [iw 3, iw 1, iw 10] 24, .blk (b1 + 1) [iw 1, .string ⟨#[97]⟩, iw 3, iw 0] 34]) (fun _ => []) (fun _ => []) [.g [], .g []] [2, 3, 4, 6, 12] rfl (fun _ => by kernel_rfl) (fun _ => trivial) (fun _ => ?_)
  refine Ok.segEnd rfl ?_
  refine Ok.thenN ?_
  refine Ok.condF rfl ?_
  refine Ok.seq ?_
  refine Ok.reg ?_
  refine Ok.seg (j := 2) (fun _ => [(2, pt b1 0), (3, pt (b1 + 1) 0), (4, bF), (6, iw 3), (22, bT)]) (fun _ => [.blk b1 [iw 3, iw 1, iw 10] 24, .blk (b1 + 1) [iw 1, .string ⟨#[97]⟩, iw 3, iw 0] 34]) (fun _ => []) (fun _ => []) [.g [], .g []] [2, 3, 4, 6, 22] rfl (fun _ => by kernel_rfl) (fun _ => trivial) (fun _ => ?_)
  refine Ok.segEnd rfl ?_
  refine Ok.thenN ?_
  refine Ok.condT rfl ?_
  refine Ok.seq ?_
  refine Ok.reg ?_
  refine Ok.seg (j := 2) (fun _ => [(2, pt b1 0), (4, bF), (25, iw 3)]) (fun _ => [.blk b1 [iw 3, iw 1, iw 10] 24, .blk (b1 + 1) [iw 1, .string ⟨#[97]⟩, iw 3, iw 0] 34]) (fun _ => [b1 + 1]) (fun _ => []) [.g [], .g [.K 1 2]] [2, 4, 25] rfl (fun _ => by kernel_rfl) (fun _ => trivial) (fun _ => ?_)
  refine Ok.segEnd rfl ?_
  refine Ok.thenN ?_
  refine Ok.blk ?_
  refine Ok.seq ?_
  refine Ok.reg ?_
  refine Ok.seg (j := 2) (fun _ => [(2, pt b1 0), (4, bF), (25, iw 3), (26, bF)]) (fun _ => [.blk b1 [iw 3, iw 1, iw 10] 24, .blk (b1 + 1) [iw 1, .string ⟨#[97]⟩, iw 3, iw 0] 34]) (fun _ => []) (fun _ => []) [.g [], .g []] [2, 4, 25, 26] rfl (fun _ => by kernel_rfl) (fun _ => trivial) (fun _ => ?_)
  refine Ok.segEnd rfl ?_
  refine Ok.thenN ?_
  refine Ok.condF rfl ?_
  refine Ok.seq ?_
  refine Ok.seq ?_
  refine Ok.reg ?_
  refine Ok.seg (j := 2) (fun _ => [(2, pt b1 0), (4, bF), (25, iw 3), (36, bF)]) (fun _ => [.blk b1 [iw 3, iw 1, iw 10] 24, .blk (b1 + 1) [iw 1, .string ⟨#[97]⟩, iw 3, iw 0] 34]) (fun _ => []) (fun _ => []) [.g [], .g []] [2, 4, 25, 36] rfl (fun _ => by kernel_rfl) (fun _ => trivial) (fun _ => ?_)
  refine Ok.segEnd rfl ?_
  refine Ok.thenN ?_
  refine Ok.condF rfl ?_
  refine Ok.reg ?_
  refine Ok.seg (j := 2) (fun _ => [(2, pt b1 0), (4, bF), (36, bT)]) (fun _ => [.blk b1 [iw 3, iw 1, iw 10] 24, .blk (b1 + 1) [iw 1, .string ⟨#[97]⟩, iw 3, iw 0] 34]) (fun _ => []) (fun _ => []) [.g [], .g []] [2, 4, 36] rfl (fun _ => by kernel_rfl) (fun _ => trivial) (fun _ => ?_)
  refine Ok.segEnd rfl ?_
  refine Ok.thenN ?_
  refine Ok.condT rfl ?_
  refine Ok.seq ?_
  refine Ok.reg ?_
  refine Ok.seg (j := 9) (fun _ => [(4, bT)]) (fun _ => [.blk b1 [iw 3, iw 1, iw 10] 24, .blk (b1 + 1) [iw 1, .string ⟨#[97]⟩, iw 3, iw 0] 34]) (fun _ => [b1, b1]) (fun _ => []) [.g [], .g [.K 0 2], .g [], .g [], .g [], .g [.K 0 2], .g [], .g [], .g []] [4] rfl (fun _ => by kernel_rfl) (fun _ => trivial) (fun _ => ?_)
  refine Ok.mask [false, false] [] rfl ?_
  refine Ok.segEnd rfl ?_
  refine Ok.thenN ?_
  refine Ok.ret_ ?_
  refine Ok.blkR ?_
  refine Ok.blkR ?_
  refine Ok.thenR ?_
  exact Ok.ret1 (v := bT) (SLe.refl _) rfl rfl rfl
set_option maxRecDepth 100000 in
theorem x60_91 (H : Snap) (p0 : Nat) (hp0 : Pre H p0 [iw 2]) : Does Tryd.prog 60 [.agg #[iw 1, .string ⟨#[97]⟩, iw 3, iw 0], pt p0 0] H [] (fun v H' kp => v = bF) := by
  refine Does.of Tryd.func60 rfl rfl rfl rfl (fun w0 H0 kx => ?_)
  refine Ok.seq ?_
  refine Ok.reg ?_
  refine Ok.seg (j := 2) (fun b1 => [(1, pt p0 0), (2, pt b1 0), (3, bF)]) (fun b1 => [.blk b1 [iw 1, .string ⟨#[97]⟩, iw 3, iw 0] 34]) (fun b1 => []) (fun b1 => []) [.g [.N], .g []] [1, 2, 3] rfl (fun b1 => by kernel_rfl) (fun b1 => trivial) (fun b1 => ?_)
  refine Ok.segEnd rfl ?_
  refine Ok.thenN ?_
  refine Ok.seq ?_
  refine Ok.reg ?_
  refine Ok.seg (j := 5) (fun _ => [(3, bF)]) (fun _ => [.blk b1 [iw 1, .string ⟨#[97]⟩, iw 3, iw 0] 34]) (fun _ => [b1]) (fun _ => [HasCell H ⟨p0, 0, none⟩ (iw 2)]) [.g [], .g [.K 0 0], .g [.X (iw 2)], .g [], .g []] [3] rfl (fun _ => by kernel_rfl) (fun _ => ⟨Pre.cell hp0 0 rfl, trivial⟩) (fun _ => ?_)
  refine Ok.segEnd rfl ?_
  refine Ok.thenN ?_
  refine Ok.ret_ ?_
  refine Ok.dropAll ?_
  exact Ok.ret1 (v := bF) (SLe.refl _) rfl rfl rfl
set_option maxRecDepth 100000 in
theorem x60_92 (H : Snap) (p0 : Nat) (hp0 : Pre H p0 [iw 2]) : Does Tryd.prog 60 [.agg #[iw 2, .string ⟨#[98]⟩, iw 5, iw 0], pt p0 0] H [] (fun v H' kp => v = bT) := by
  refine Does.of Tryd.func60 rfl rfl rfl rfl (fun w0 H0 kx => ?_)
  refine Ok.seq ?_
  refine Ok.reg ?_
  refine Ok.seg (j := 2) (fun b1 => [(1, pt p0 0), (2, pt b1 0), (3, bF)]) (fun b1 => [.blk b1 [iw 2, .string ⟨#[98]⟩, iw 5, iw 0] 34]) (fun b1 => []) (fun b1 => []) [.g [.N], .g []] [1, 2, 3] rfl (fun b1 => by kernel_rfl) (fun b1 => trivial) (fun b1 => ?_)
  refine Ok.segEnd rfl ?_
  refine Ok.thenN ?_
  refine Ok.seq ?_
  refine Ok.reg ?_
  refine Ok.seg (j := 5) (fun _ => [(3, bT)]) (fun _ => [.blk b1 [iw 2, .string ⟨#[98]⟩, iw 5, iw 0] 34]) (fun _ => [b1]) (fun _ => [HasCell H ⟨p0, 0, none⟩ (iw 2)]) [.g [], .g [.K 0 0], .g [.X (iw 2)], .g [], .g []] [3] rfl (fun _ => by kernel_rfl) (fun _ => ⟨Pre.cell hp0 0 rfl, trivial⟩) (fun _ => ?_)
  refine Ok.segEnd rfl ?_
  refine Ok.thenN ?_
  refine Ok.ret_ ?_
  refine Ok.dropAll ?_
  exact Ok.ret1 (v := bT) (SLe.refl _) rfl rfl rfl
set_option maxRecDepth 100000 in
theorem x59_90 (H : Snap) (p0 p1 : Nat) (hp0 : Pre H p0 [iw 1, .string ⟨#[97]⟩, iw 3, iw 0, iw 2, .string ⟨#[98]⟩, iw 5, iw 0]) (hp1 : Pre H p1 [iw 2]) : Does Tryd.prog 59 [sl p0 0 2 2, .func (.func 60) #[] #[pt p1 0]] H [] (fun v H' kp => v = iw 1) := by
  refine Does.of Tryd.func59 rfl rfl rfl rfl (fun w0 H0 kx => ?_)
  refine Ok.seq ?_
  refine Ok.reg ?_
  refine Ok.seg (j := 1) (fun _ => [(0, sl p0 0 2 2), (1, .func (.func 60) #[] #[pt p1 0]), (4, iw 0)]) (fun _ => []) (fun _ => []) (fun _ => []) [.g []] [0, 1, 4] rfl (fun _ => by kernel_rfl) (fun _ => trivial) (fun _ => ?_)
  refine Ok.segEnd rfl ?_
  refine Ok.thenN ?_
  refine Ok.seq ?_
  refine Ok.seq ?_
  refine Ok.reg ?_
  refine Ok.seg (j := 3) (fun _ => [(0, sl p0 0 2 2), (1, .func (.func 60) #[] #[pt p1 0]), (4, iw 0), (7, iw 2), (8, iw 0)]) (fun _ => []) (fun _ => []) (fun _ => []) [.g [], .g [], .g []] [0, 1, 4, 7, 8] rfl (fun _ => by kernel_rfl) (fun _ => trivial) (fun _ => ?_)
  refine Ok.segEnd rfl ?_
  refine Ok.thenN ?_
  refine Ok.blk ?_
  refine Ok.loopN 2 ?_
  refine Ok.round ?_
  refine Ok.seq ?_
  refine Ok.reg ?_
  refine Ok.seg (j := 1) (fun _ => [(0, sl p0 0 2 2), (1, .func (.func 60) #[] #[pt p1 0]), (4, iw 0), (7, iw 2), (8, iw 0), (9, bT)]) (fun _ => []) (fun _ => []) (fun _ => []) [.g []] [0, 1, 4, 7, 8, 9] rfl (fun _ => by kernel_rfl) (fun _ => trivial) (fun _ => ?_)
  refine Ok.segEnd rfl ?_
  refine Ok.thenN ?_
  refine Ok.seq ?_
  refine Ok.condT rfl ?_
  refine Ok.skip_ ?_
  refine Ok.thenN ?_
  refine Ok.seq ?_
  refine Ok.blk ?_
  refine Ok.seq ?_
  refine Ok.reg ?_
  refine Ok.seg (j := 2) (fun _ => [(0, sl p0 0 2 2), (1, .func (.func 60) #[] #[pt p1 0]), (4, iw 0), (5, iw 0), (7, iw 2), (8, iw 0), (9, bT), (10, iw 0)]) (fun _ => []) (fun _ => []) (fun _ => []) [.g [], .g []] [0, 1, 4, 5, 7, 8, 9, 10] rfl (fun _ => by kernel_rfl) (fun _ => trivial) (fun _ => ?_)
  refine Ok.segEnd rfl ?_
  refine Ok.thenN ?_
  refine Ok.seq ?_
  refine Ok.reg ?_
  refine Ok.seg (j := 5) (fun _ => [(0, sl p0 0 2 2), (1, .func (.func 60) #[] #[pt p1 0]), (4, iw 0), (5, iw 0), (7, iw 2), (8, iw 0), (9, bT), (10, iw 0), (11, .func (.func 60) #[] #[pt p1 0]), (12, sl p0 0 2 2), (13, iw 0), (14, pt p0 0), (15, .agg #[iw 1, .string ⟨#[97]⟩, iw 3, iw 0])]) (fun _ => []) (fun _ => []) (fun _ => [HasCell H ⟨p0, 0, none⟩ (iw 1), HasCell H ⟨p0, 1, none⟩ (.string ⟨#[97]⟩), HasCell H ⟨p0, 2, none⟩ (iw 3), HasCell H ⟨p0, 3, none⟩ (iw 0)]) [.g [], .g [], .g [], .g [], .g [.X (iw 1), .X (.string ⟨#[97]⟩), .X (iw 3), .X (iw 0)]] [0, 1, 4, 5, 7, 8, 9, 10, 11, 12, 13, 14, 15] rfl (fun _ => by kernel_rfl) (fun _ => ⟨Pre.cell hp0 0 rfl, Pre.cell hp0 1 rfl, Pre.cell hp0 2 rfl, Pre.cell hp0 3 rfl, trivial⟩) (fun _ => ?_)
  refine Ok.eff (j := 6) rfl (Eff.call0 (d := some 16) (by kernel_rfl) (x60_91 H p1 hp1) ?_)
  rintro v6 H7 k9 le8 rfl
  refine Ok.dropL ?_
  refine Ok.segEnd rfl ?_
  refine Ok.thenN ?_
  refine Ok.condF rfl ?_
  refine Ok.skip_ ?_
  refine Ok.blkN ?_
  refine Ok.thenN ?_
  refine Ok.reg ?_
  refine Ok.seg (j := 2) (fun _ => [(0, sl p0 0 2 2), (1, .func (.func 60) #[] #[pt p1 0]), (4, iw 0), (5, iw 0), (7, iw 2), (8, iw 1), (9, bT), (10, iw 0), (11, .func (.func 60) #[] #[pt p1 0]), (12, sl p0 0 2 2), (13, iw 0), (14, pt p0 0), (15, .agg #[iw 1, .string ⟨#[97]⟩, iw 3, iw 0]), (16, bF), (18, iw 1)]) (fun _ => []) (fun _ => []) (fun _ => []) [.g [], .g []] [0, 1, 4, 5, 7, 8, 9, 10, 11, 12, 13, 14, 15, 16, 18] rfl (fun _ => by kernel_rfl) (fun _ => trivial) (fun _ => ?_)
  refine Ok.segEnd rfl ?_
  refine Ok.thenN ?_
  refine Ok.round ?_
  refine Ok.seq ?_
  refine Ok.reg ?_
  refine Ok.seg (j := 1) (fun _ => [(0, sl p0 0 2 2), (1, .func (.func 60) #[] #[pt p1 0]), (4, iw 0), (5, iw 0), (7, iw 2), (8, iw 1), (9, bT), (10, iw 0), (11, .func (.func 60) #[] #[pt p1 0]), (12, sl p0 0 2 2), (13, iw 0), (14, pt p0 0), (15, .agg #[iw 1, .string ⟨#[97]⟩, iw 3, iw 0]), (16, bF), (18, iw 1)]) (fun _ => []) (fun _ => []) (fun _ => []) [.g []] [0, 1, 4, 5, 7, 8, 9, 10, 11, 12, 13, 14, 15, 16, 18] rfl (fun _ => by kernel_rfl) (fun _ => trivial) (fun _ => ?_)
  refine Ok.segEnd rfl ?_
  refine Ok.thenN ?_
  refine Ok.seq ?_
  refine Ok.condT rfl ?_
  refine Ok.skip_ ?_
  refine Ok.thenN ?_
  refine Ok.seq ?_
  refine Ok.blk ?_
  refine Ok.seq ?_
  refine Ok.reg ?_
  refine Ok.seg (j := 2) (fun _ => [(0, sl p0 0 2 2), (1, .func (.func 60) #[] #[pt p1 0]), (4, iw 0), (5, iw 1), (7, iw 2), (8, iw 1), (9, bT), (10, iw 1), (11, .func (.func 60) #[] #[pt p1 0]), (12, sl p0 0 2 2), (13, iw 0), (14, pt p0 0), (15, .agg #[iw 1, .string ⟨#[97]⟩, iw 3, iw 0]), (16, bF), (18, iw 1)]) (fun _ => []) (fun _ => []) (fun _ => []) [.g [], .g []] [0, 1, 4, 5, 7, 8, 9, 10, 11, 12, 13, 14, 15, 16, 18] rfl (fun _ => by kernel_rfl) (fun _ => trivial) (fun _ => ?_)
  refine Ok.segEnd rfl ?_
  refine Ok.thenN ?_
  refine Ok.seq ?_
  refine Ok.reg ?_
  refine Ok.seg (j := 5) (fun _ => [(0, sl p0 0 2 2), (1, .func (.func 60) #[] #[pt p1 0]), (4, iw 0), (5, iw 1), (7, iw 2), (8, iw 1), (9, bT), (10, iw 1), (11, .func (.func 60) #[] #[pt p1 0]), (12, sl p0 0 2 2), (13, iw 1), (14, pt p0 4), (15, .agg #[iw 2, .string ⟨#[98]⟩, iw 5, iw 0]), (16, bF), (18, iw 1)]) (fun _ => []) (fun _ => []) (fun _ => [HasCell H7 ⟨p0, 4, none⟩ (iw 2), HasCell H7 ⟨p0, 5, none⟩ (.string ⟨#[98]⟩), HasCell H7 ⟨p0, 6, none⟩ (iw 5), HasCell H7 ⟨p0, 7, none⟩ (iw 0)]) [.g [], .g [], .g [], .g [], .g [.X (iw 2), .X (.string ⟨#[98]⟩), .X (iw 5), .X (iw 0)]] [0, 1, 4, 5, 7, 8, 9, 10, 11, 12, 13, 14, 15, 16, 18] rfl (fun _ => by kernel_rfl) (fun _ => ⟨Pre.cell (Pre.mono le8 hp0) 4 rfl, Pre.cell (Pre.mono le8 hp0) 5 rfl, Pre.cell (Pre.mono le8 hp0) 6 rfl, Pre.cell (Pre.mono le8 hp0) 7 rfl, trivial⟩) (fun _ => ?_)
  refine Ok.eff (j := 6) rfl (Eff.call0 (d := some 16) (by kernel_rfl) (x60_92 H7 p1 (Pre.mono le8 hp1)) ?_)
  rintro v15 H16 k18 le17 rfl
  refine Ok.dropL ?_
  refine Ok.segEnd rfl ?_
  refine Ok.thenN ?_
  refine Ok.condT rfl ?_
  refine Ok.seq ?_
  refine Ok.reg ?_
  refine Ok.seg (j := 2) (fun _ => [(0, sl p0 0 2 2), (1, .func (.func 60) #[] #[pt p1 0]), (4, iw 1), (5, iw 1), (7, iw 2), (8, iw 1), (9, bT), (10, iw 1), (11, .func (.func 60) #[] #[pt p1 0]), (12, sl p0 0 2 2), (13, iw 1), (14, pt p0 4), (15, .agg #[iw 2, .string ⟨#[98]⟩, iw 5, iw 0]), (16, bT), (17, iw 1), (18, iw 1)]) (fun _ => []) (fun _ => []) (fun _ => []) [.g [], .g []] [0, 1, 4, 5, 7, 8, 9, 10, 11, 12, 13, 14, 15, 16, 17, 18] rfl (fun _ => by kernel_rfl) (fun _ => trivial) (fun _ => ?_)
  refine Ok.segEnd rfl ?_
  refine Ok.thenN ?_
  refine Ok.ret_ ?_
  refine Ok.blkR ?_
  refine Ok.thenR ?_
  refine Ok.thenR ?_
  refine Ok.blkR ?_
  refine Ok.thenR ?_
  exact Ok.ret1 (v := iw 1) (SLe.trans le8 le17) rfl rfl rfl
set_option maxRecDepth 100000 in
theorem x38_89 (H : Snap) (p0 : Nat) (hp0 : Pre H p0 [iw 1, .string ⟨#[97]⟩, iw 3, iw 0, iw 2, .string ⟨#[98]⟩, iw 5, iw 0]) : Does Tryd.prog 38 [.agg #[sl p0 0 2 2, iw 3], iw 2] H [] (fun v H' kp => v = iw 1) := by
  refine Does.of Tryd.func38 rfl rfl rfl rfl (fun w0 H0 kx => ?_)
  refine Ok.seq ?_
  refine Ok.reg ?_
  refine Ok.seg (j := 3) (fun b1 => [(2, pt b1 0), (3, pt (b1 + 1) 0), (4, iw 0)]) (fun b1 => [.blk b1 [sl p0 0 2 2, iw 3] 37, .blk (b1 + 1) [iw 2] 3]) (fun b1 => []) (fun b1 => []) [.g [.N], .g [.N], .g []] [2, 3, 4] rfl (fun b1 => by kernel_rfl) (fun b1 => trivial) (fun b1 => ?_)
  refine Ok.segEnd rfl ?_
  refine Ok.thenN ?_
  refine Ok.seq ?_
  refine Ok.reg ?_
  refine Ok.seg (j := 3) (fun _ => [(4, iw 0), (6, sl p0 0 2 2), (7, .func (.func 60) #[] #[pt (b1 + 1) 0])]) (fun _ => [.blk b1 [sl p0 0 2 2, iw 3] 37, .blk (b1 + 1) [iw 2] 3]) (fun _ => [b1]) (fun _ => []) [.g [], .g [.K 0 0], .g []] [4, 6, 7] rfl (fun _ => by kernel_rfl) (fun _ => trivial) (fun _ => ?_)
  refine Ok.pubP 1 rfl [.blk b1 [sl p0 0 2 2, iw 3] 37] rfl ?_
  intro H3 le4 pf5
  refine Ok.eff (j := 4) rfl (Eff.call0 (d := some 8) (by kernel_rfl) (x59_90 H3 p0 (b1 + 1) (Pre.mono le4 hp0) pf5) ?_)
  rintro v6 H7 k9 le8 rfl
  refine Ok.dropL ?_
  refine Ok.seg (j := 5) (fun _ => [(4, iw 1)]) (fun _ => [.blk b1 [sl p0 0 2 2, iw 3] 37]) (fun _ => []) (fun _ => []) [.g []] [4] rfl (fun _ => by kernel_rfl) (fun _ => trivial) (fun _ => ?_)
  refine Ok.segEnd rfl ?_
  refine Ok.thenN ?_
  refine Ok.ret_ ?_
  refine Ok.dropAll ?_
  exact Ok.ret1 (v := iw 1) (SLe.trans le4 le8) rfl rfl rfl
set_option maxRecDepth 100000 in
theorem x19_88 (H : Snap) (p0 : Nat) (hp0 : Pre H p0 [iw 1, .string ⟨#[97]⟩, iw 3, iw 0, iw 2, .string ⟨#[98]⟩, iw 5, iw 0]) : Does Tryd.prog 19 [.agg #[sl p0 0 2 2, iw 3], iw 2] H [] (fun v H' kp => v = .tuple #[.agg #[iw 2, .string ⟨#[98]⟩, iw 5, iw 0], bT]) := by
  refine Does.of Tryd.func19 rfl rfl rfl rfl (fun w0 H0 kx => ?_)
  refine Ok.seq ?_
  refine Ok.reg ?_
  refine Ok.seg (j := 3) (fun b1 => [(1, iw 2), (2, pt b1 0), (4, pt (b1 + 1) 0), (5, bF)]) (fun b1 => [.blk b1 [sl p0 0 2 2, iw 3] 37, .blk (b1 + 1) [iw 0, s0, iw 0, iw 0] 34]) (fun b1 => []) (fun b1 => []) [.g [.N], .g [.N], .g []] [1, 2, 4, 5] rfl (fun b1 => by kernel_rfl) (fun b1 => trivial) (fun b1 => ?_)
  refine Ok.segEnd rfl ?_
  refine Ok.thenN ?_
  refine Ok.seq ?_
  refine Ok.seq ?_
  refine Ok.reg ?_
  refine Ok.seg (j := 2) (fun _ => [(2, pt b1 0), (4, pt (b1 + 1) 0), (5, bF), (7, .agg #[sl p0 0 2 2, iw 3]), (8, iw 2)]) (fun _ => [.blk b1 [sl p0 0 2 2, iw 3] 37, .blk (b1 + 1) [iw 0, s0, iw 0, iw 0] 34]) (fun _ => [b1, b1]) (fun _ => []) [.g [.K 0 0, .K 0 1], .g []] [2, 4, 5, 7, 8] rfl (fun _ => by kernel_rfl) (fun _ => trivial) (fun _ => ?_)
  refine Ok.eff (j := 3) rfl (Eff.call0 (d := some 9) (by kernel_rfl) (x38_89 H p0 hp0) ?_)
  rintro v3 H4 k6 le5 rfl
  refine Ok.dropL ?_
  refine Ok.seg (j := 4) (fun _ => [(2, pt b1 0), (4, pt (b1 + 1) 0), (5, bF), (6, iw 1)]) (fun _ => [.blk b1 [sl p0 0 2 2, iw 3] 37, .blk (b1 + 1) [iw 0, s0, iw 0, iw 0] 34]) (fun _ => []) (fun _ => []) [.g []] [2, 4, 5, 6] rfl (fun _ => by kernel_rfl) (fun _ => trivial) (fun _ => ?_)
  refine Ok.segEnd rfl ?_
  refine Ok.thenN ?_
  refine Ok.seq ?_
  refine Ok.reg ?_
  refine Ok.seg (j := 2) (fun _ => [(2, pt b1 0), (4, pt (b1 + 1) 0), (5, bF), (6, iw 1), (11, bT)]) (fun _ => [.blk b1 [sl p0 0 2 2, iw 3] 37, .blk (b1 + 1) [iw 0, s0, iw 0, iw 0] 34]) (fun _ => []) (fun _ => []) [.g [], .g []] [2, 4, 5, 6, 11] rfl (fun _ => by kernel_rfl) (fun _ => trivial) (fun _ => ?_)
  refine Ok.segEnd rfl ?_
  refine Ok.thenN ?_
  refine Ok.condT rfl ?_
  refine Ok.seq ?_
  refine Ok.reg ?_
  refine Ok.seg (j := 7) (fun _ => [(4, pt (b1 + 1) 0), (5, bT)]) (fun _ => [.blk b1 [sl p0 0 2 2, iw 3] 37, .blk (b1 + 1) [iw 2, .string ⟨#[98]⟩, iw 5, iw 0] 34]) (fun _ => [b1, b1 + 1, b1 + 1, b1 + 1, b1 + 1]) (fun _ => [HasCell H4 ⟨p0, 4, none⟩ (iw 2), HasCell H4 ⟨p0, 5, none⟩ (.string ⟨#[98]⟩), HasCell H4 ⟨p0, 6, none⟩ (iw 5), HasCell H4 ⟨p0, 7, none⟩ (iw 0)]) [.g [], .g [.K 0 0], .g [], .g [], .g [.X (iw 2), .X (.string ⟨#[98]⟩), .X (iw 5), .X (iw 0)], .g [.K 1 0, .K 1 1, .K 1 2, .K 1 3], .g []] [4, 5] rfl (fun _ => by kernel_rfl) (fun _ => ⟨Pre.cell (Pre.mono le5 hp0) 4 rfl, Pre.cell (Pre.mono le5 hp0) 5 rfl, Pre.cell (Pre.mono le5 hp0) 6 rfl, Pre.cell (Pre.mono le5 hp0) 7 rfl, trivial⟩) (fun _ => ?_)
  refine Ok.segEnd rfl ?_
  refine Ok.thenN ?_
  refine Ok.ret_ ?_
  refine Ok.thenR ?_
  exact Ok.ret2c le5 [.K 1 0, .K 1 1, .K 1 2, .K 1 3] (.agg #[iw 2, .string ⟨#[98]⟩, iw 5, iw 0]) (bT) [b1 + 1, b1 + 1, b1 + 1, b1 + 1] rfl (by kernel_rfl) rfl rfl
set_option maxRecDepth 100000 in
theorem x20_93 (H : Snap) : Does Tryd.prog 20 [.agg #[iw 5, iw 2, iw 0], .agg #[iw 2, .string ⟨#[98]⟩, iw 5, iw 0]] H [] (fun v H' kp => v = bT) := by
  refine Does.of Tryd.func20 rfl rfl rfl rfl (fun w0 H0 kx => ?_)
  refine Ok.seq ?_
  refine Ok.reg ?_
  refine Ok.seg (j := 3) (fun b1 => [(2, pt b1 0), (3, pt (b1 + 1) 0), (4, bF)]) (fun b1 => [.blk b1 [iw 5, iw 2, iw 0] 24, .blk (b1 + 1) [iw 2, .string ⟨#[98]⟩, iw 5, iw 0] 34]) (fun b1 => []) (fun b1 => []) [.g [.N], .g [.N], .g []] [2, 3, 4] rfl (fun b1 => by kernel_rfl) (fun b1 => trivial) (fun b1 => ?_)
  refine Ok.segEnd rfl ?_
  refine Ok.thenN ?_
  refine Ok.seq ?_
  refine Ok.seq ?_
  refine Ok.reg ?_
  refine Ok.seg (j := 2) (fun _ => [(2, pt b1 0), (3, pt (b1 + 1) 0), (4, bF), (6, iw 5)]) (fun _ => [.blk b1 [iw 5, iw 2, iw 0] 24, .blk (b1 + 1) [iw 2, .string ⟨#[98]⟩, iw 5, iw 0] 34]) (fun _ => [b1]) (fun _ => []) [.g [], .g [.K 0 0]] [2, 3, 4, 6] rfl (fun _ => by kernel_rfl) (fun _ => trivial) (fun _ => ?_)
  refine Ok.segEnd rfl ?_
  refine Ok.thenN ?_
  refine Ok.blk ?_
  refine Ok.seq ?_
  refine Ok.reg ?_
  refine Ok.seg (j := 2) (fun _ => [(2, pt b1 0), (3, pt (b1 + 1) 0), (4, bF), (6, iw 5), (7, bF)]) (fun _ => [.blk b1 [iw 5, iw 2, iw 0] 24, .blk (b1 + 1) [iw 2, .string ⟨#[98]⟩, iw 5, iw 0] 34]) (fun _ => []) (fun _ => []) [.g [], .g []] [2, 3, 4, 6, 7] rfl (fun _ => by kernel_rfl) (fun _ => trivial) (fun _ => ?_)
  refine Ok.segEnd rfl ?_
  refine Ok.thenN ?_
  refine Ok.condF rfl ?_
  refine Ok.seq ?_
  refine Ok.reg ?_
  refine Ok.seg (j := 2) (fun _ => [(2, pt b1 0), (3, pt (b1 + 1) 0), (4, bF), (6, iw 5), (12, bF)]) (fun _ => [.blk b1 [iw 5, iw 2, iw 0] 24, .blk (b1 + 1) [iw 2, .string ⟨#[98]⟩, iw 5, iw 0] 34]) (fun _ => []) (fun _ => []) [.g [], .g []] [2, 3, 4, 6, 12] rfl (fun _ => by kernel_rfl) (fun _ => trivial) (fun _ => ?_)
  refine Ok.segEnd rfl ?_
  refine Ok.thenN ?_
  refine Ok.condF rfl ?_
  refine Ok.seq ?_
  refine Ok.reg ?_
  refine Ok.seg (j := 2) (fun _ => [(2, pt b1 0), (3, pt (b1 + 1) 0), (4, bF), (6, iw 5), (22, bF)]) (fun _ => [.blk b1 [iw 5, iw 2, iw 0] 24, .blk (b1 + 1) [iw 2, .string ⟨#[98]⟩, iw 5, iw 0] 34]) (fun _ => []) (fun _ => []) [.g [], .g []] [2, 3, 4, 6, 22] rfl (fun _ => by kernel_rfl) (fun _ => trivial) (fun _ => ?_)
  refine Ok.segEnd rfl ?_
  refine Ok.thenN ?_
  refine Ok.condF rfl ?_
  refine Ok.seq ?_
  refine Ok.seq ?_
  refine Ok.reg ?_
  refine Ok.seg (j := 2) (fun _ => [(2, pt b1 0), (3, pt (b1 + 1) 0), (4, bF), (6, iw 5), (47, bF)]) (fun _ => [.blk b1 [iw 5, iw 2, iw 0] 24, .blk (b1 + 1) [iw 2, .string ⟨#[98]⟩, iw 5, iw 0] 34]) (fun _ => []) (fun _ => []) [.g [], .g []] [2, 3, 4, 6, 47] rfl (fun _ => by kernel_rfl) (fun _ => trivial) (fun _ => ?_)
  refine Ok.segEnd rfl ?_
  refine Ok.thenN ?_
  refine Ok.condF rfl ?_
  refine Ok.reg ?_
  refine Ok.seg (j := 2) (fun _ => [(2, pt b1 0), (3, pt (b1 + 1) 0), (4, bF), (47, bT)]) (fun _ => [.blk b1 [iw 5, iw 2, iw 0] 24, .blk (b1 + 1) [iw 2, .string ⟨#[98]⟩, iw 5, iw 0] 34]) (fun _ => []) (fun _ => []) [.g [], .g []] [2, 3, 4, 47] rfl (fun _ => by kernel_rfl) (fun _ => trivial) (fun _ => ?_)
  refine Ok.segEnd rfl ?_
  refine Ok.thenN ?_
  refine Ok.condT rfl ?_
  refine Ok.seq ?_
  refine Ok.reg ?_
  refine Ok.seg (j := 9) (fun _ => [(4, bT)]) (fun _ => [.blk b1 [iw 5, iw 2, iw 0] 24, .blk (b1 + 1) [iw 2, .string ⟨#[98]⟩, iw 5, iw 0] 34]) (fun _ => [b1 + 1, b1]) (fun _ => []) [.g [], .g [.K 1 2], .g [], .g [], .g [], .g [.K 0 2], .g [], .g [], .g []] [4] rfl (fun _ => by kernel_rfl) (fun _ => trivial) (fun _ => ?_)
  refine Ok.mask [false, false] [] rfl ?_
  refine Ok.segEnd rfl ?_
  refine Ok.thenN ?_
  refine Ok.ret_ ?_
  refine Ok.blkR ?_
  refine Ok.thenR ?_
  exact Ok.ret1 (v := bT) (SLe.refl _) rfl rfl rfl
set_option maxRecDepth 100000 in
theorem x11_82 (H : Snap) (p0 p1 : Nat) (hp0 : Pre H p0 [iw 1, .string ⟨#[97]⟩, iw 3, iw 0, iw 2, .string ⟨#[98]⟩, iw 5, iw 0]) (hp1 : Pre H p1 [iw 3, iw 1, iw 10, iw 5, iw 2, iw 0]) : Does Tryd.prog 11 [.agg #[sl p0 0 2 2, iw 3], sl p1 0 2 2] H [] (fun v H' kp => v = bT) := by
  refine Does.of Tryd.func11 rfl rfl rfl rfl (fun w0 H0 kx => ?_)
  refine Ok.seq ?_
  refine Ok.reg ?_
  refine Ok.seg (j := 2) (fun b1 => [(1, sl p1 0 2 2), (2, pt b1 0), (4, bF)]) (fun b1 => [.blk b1 [sl p0 0 2 2, iw 3] 37]) (fun b1 => []) (fun b1 => []) [.g [.N], .g []] [1, 2, 4] rfl (fun b1 => by kernel_rfl) (fun b1 => trivial) (fun b1 => ?_)
  refine Ok.segEnd rfl ?_
  refine Ok.thenN ?_
  refine Ok.seq ?_
  refine Ok.seq ?_
  refine Ok.reg ?_
  refine Ok.seg (j := 3) (fun _ => [(1, sl p1 0 2 2), (2, pt b1 0), (4, bF), (9, sl p1 0 2 2), (10, iw 2), (11, iw 0)]) (fun _ => [.blk b1 [sl p0 0 2 2, iw 3] 37]) (fun _ => []) (fun _ => []) [.g [], .g [], .g []] [1, 2, 4, 9, 10, 11] rfl (fun _ => by kernel_rfl) (fun _ => trivial) (fun _ => ?_)
  refine Ok.segEnd rfl ?_
  refine Ok.thenN ?_
  refine Ok.blk ?_
  refine Ok.loopN 3 ?_
  refine Ok.round ?_
  refine Ok.seq ?_
  refine Ok.reg ?_
  refine Ok.seg (j := 1) (fun _ => [(1, sl p1 0 2 2), (2, pt b1 0), (4, bF), (9, sl p1 0 2 2), (10, iw 2), (11, iw 0), (12, bT)]) (fun _ => [.blk b1 [sl p0 0 2 2, iw 3] 37]) (fun _ => []) (fun _ => []) [.g []] [1, 2, 4, 9, 10, 11, 12] rfl (fun _ => by kernel_rfl) (fun _ => trivial) (fun _ => ?_)
  refine Ok.segEnd rfl ?_
  refine Ok.thenN ?_
  refine Ok.seq ?_
  refine Ok.condT rfl ?_
  refine Ok.skip_ ?_
  refine Ok.thenN ?_
  refine Ok.seq ?_
  refine Ok.blk ?_
  refine Ok.seq ?_
  refine Ok.reg ?_
  refine Ok.seg (j := 4) (fun b4 => [(1, sl p1 0 2 2), (2, pt b1 0), (4, bF), (6, pt b4 0), (9, sl p1 0 2 2), (10, iw 2), (11, iw 0), (12, bT), (13, pt p1 0), (14, .agg #[iw 3, iw 1, iw 10])]) (fun b4 => [.blk b1 [sl p0 0 2 2, iw 3] 37, .blk b4 [iw 3, iw 1, iw 10] 24]) (fun b4 => [b4, b4, b4]) (fun b4 => [HasCell H ⟨p1, 0, none⟩ (iw 3), HasCell H ⟨p1, 1, none⟩ (iw 1), HasCell H ⟨p1, 2, none⟩ (iw 10)]) [.g [], .g [.X (iw 3), .X (iw 1), .X (iw 10)], .g [.N], .g [.K 1 0, .K 1 1, .K 1 2]] [1, 2, 4, 6, 9, 10, 11, 12, 13, 14] rfl (fun b4 => by kernel_rfl) (fun b4 => ⟨Pre.cell hp1 0 rfl, Pre.cell hp1 1 rfl, Pre.cell hp1 2 rfl, trivial⟩) (fun b4 => ?_)
  refine Ok.segEnd rfl ?_
  refine Ok.thenN ?_
  refine Ok.seq ?_
  refine Ok.reg ?_
  refine Ok.seg (j := 3) (fun _ => [(1, sl p1 0 2 2), (2, pt b1 0), (4, bF), (6, pt b4 0), (9, sl p1 0 2 2), (10, iw 2), (11, iw 0), (12, bT), (13, pt p1 0), (14, .agg #[iw 3, iw 1, iw 10]), (16, .agg #[sl p0 0 2 2, iw 3]), (17, pt b4 1), (18, iw 1)]) (fun _ => [.blk b1 [sl p0 0 2 2, iw 3] 37, .blk b4 [iw 3, iw 1, iw 10] 24]) (fun _ => [b1, b1, b4]) (fun _ => []) [.g [.K 0 0, .K 0 1], .g [], .g [.K 1 1]] [1, 2, 4, 6, 9, 10, 11, 12, 13, 14, 16, 17, 18] rfl (fun _ => by kernel_rfl) (fun _ => trivial) (fun _ => ?_)
  refine Ok.eff (j := 4) rfl (Eff.call0 (d := some 19) (by kernel_rfl) (x19_83 H p0 hp0) ?_)
  rintro v6 H7 k9 le8 rfl
  refine Ok.dropL ?_
  refine Ok.seg (j := 10) (fun b10 => [(1, sl p1 0 2 2), (2, pt b1 0), (4, bF), (6, pt b4 0), (7, pt b10 0), (8, bT), (9, sl p1 0 2 2), (10, iw 2), (11, iw 0), (12, bT), (13, pt p1 0), (14, .agg #[iw 3, iw 1, iw 10]), (15, .tuple #[.agg #[iw 1, .string ⟨#[97]⟩, iw 3, iw 0], bT]), (16, .agg #[sl p0 0 2 2, iw 3]), (17, pt b4 1), (18, iw 1), (19, .tuple #[.agg #[iw 1, .string ⟨#[97]⟩, iw 3, iw 0], bT]), (20, .agg #[iw 1, .string ⟨#[97]⟩, iw 3, iw 0]), (21, bT)]) (fun b10 => [.blk b1 [sl p0 0 2 2, iw 3] 37, .blk b4 [iw 3, iw 1, iw 10] 24, .blk b10 [iw 1, .string ⟨#[97]⟩, iw 3, iw 0] 34]) (fun b10 => [b10, b10, b10, b10]) (fun b10 => []) [.g [], .g [], .g [], .g [.N], .g [.K 2 0, .K 2 1, .K 2 2, .K 2 3], .g []] [1, 2, 4, 6, 7, 8, 9, 10, 11, 12, 13, 14, 15, 16, 17, 18, 19, 20, 21] rfl (fun b10 => by kernel_rfl) (fun b10 => trivial) (fun b10 => ?_)
  refine Ok.segEnd rfl ?_
  refine Ok.thenN ?_
  refine Ok.seq ?_
  refine Ok.reg ?_
  refine Ok.seg (j := 10) (fun _ => [(1, sl p1 0 2 2), (2, pt b1 0), (4, bF), (6, pt b4 0), (7, pt b10 0), (8, bT), (9, sl p1 0 2 2), (10, iw 2), (11, iw 0), (12, bT), (13, pt p1 0), (14, .agg #[iw 3, iw 1, iw 10]), (15, .tuple #[.agg #[iw 1, .string ⟨#[97]⟩, iw 3, iw 0], bT]), (16, .agg #[sl p0 0 2 2, iw 3]), (17, pt b4 1), (18, iw 1), (19, .tuple #[.agg #[iw 1, .string ⟨#[97]⟩, iw 3, iw 0], bT]), (20, .agg #[iw 1, .string ⟨#[97]⟩, iw 3, iw 0]), (21, bT), (22, bT), (23, bF), (24, bF), (25, pt b10 2), (26, iw 3), (27, bF), (28, bF), (29, bF), (30, .agg #[iw 3, iw 1, iw 10]), (31, .agg #[iw 1, .string ⟨#[97]⟩, iw 3, iw 0])]) (fun _ => [.blk b1 [sl p0 0 2 2, iw 3] 37, .blk b4 [iw 3, iw 1, iw 10] 24, .blk b10 [iw 1, .string ⟨#[97]⟩, iw 3, iw 0] 34]) (fun _ => [b10, b4, b4, b4, b10, b10, b10, b10]) (fun _ => []) [.g [], .g [], .g [], .g [], .g [.K 2 2], .g [], .g [], .g [], .g [.K 1 0, .K 1 1, .K 1 2], .g [.K 2 0, .K 2 1, .K 2 2, .K 2 3]] [1, 2, 4, 6, 7, 8, 9, 10, 11, 12, 13, 14, 15, 16, 17, 18, 19, 20, 21, 22, 23, 24, 25, 26, 27, 28, 29, 30, 31] rfl (fun _ => by kernel_rfl) (fun _ => trivial) (fun _ => ?_)
  refine Ok.eff (j := 11) rfl (Eff.call0 (d := some 32) (by kernel_rfl) (x20_87 H7) ?_)
  rintro v12 H13 k15 le14 rfl
  refine Ok.dropL ?_
  refine Ok.seg (j := 13) (fun _ => [(1, sl p1 0 2 2), (2, pt b1 0), (4, bF), (6, pt b4 0), (7, pt b10 0), (8, bT), (9, sl p1 0 2 2), (10, iw 2), (11, iw 0), (12, bT), (13, pt p1 0), (14, .agg #[iw 3, iw 1, iw 10]), (15, .tuple #[.agg #[iw 1, .string ⟨#[97]⟩, iw 3, iw 0], bT]), (16, .agg #[sl p0 0 2 2, iw 3]), (17, pt b4 1), (18, iw 1), (19, .tuple #[.agg #[iw 1, .string ⟨#[97]⟩, iw 3, iw 0], bT]), (20, .agg #[iw 1, .string ⟨#[97]⟩, iw 3, iw 0]), (21, bT), (22, bT), (23, bF), (24, bF), (25, pt b10 2), (26, iw 3), (27, bF), (28, bF), (29, bF), (30, .agg #[iw 3, iw 1, iw 10]), (31, .agg #[iw 1, .string ⟨#[97]⟩, iw 3, iw 0]), (32, bT), (33, bF), (34, bF)]) (fun _ => [.blk b1 [sl p0 0 2 2, iw 3] 37, .blk b4 [iw 3, iw 1, iw 10] 24, .blk b10 [iw 1, .string ⟨#[97]⟩, iw 3, iw 0] 34]) (fun _ => []) (fun _ => []) [.g [], .g []] [1, 2, 4, 6, 7, 8, 9, 10, 11, 12, 13, 14, 15, 16, 17, 18, 19, 20, 21, 22, 23, 24, 25, 26, 27, 28, 29, 30, 31, 32, 33, 34] rfl (fun _ => by kernel_rfl) (fun _ => trivial) (fun _ => ?_)
  refine Ok.segEnd rfl ?_
  refine Ok.thenN ?_
  refine Ok.condF rfl ?_
  refine Ok.skip_ ?_
  refine Ok.blkN ?_
  refine Ok.thenN ?_
  refine Ok.reg ?_
  refine Ok.seg (j := 2) (fun _ => [(1, sl p1 0 2 2), (2, pt b1 0), (4, bF), (6, pt b4 0), (7, pt b10 0), (8, bT), (9, sl p1 0 2 2), (10, iw 2), (11, iw 1), (12, bT), (13, pt p1 0), (14, .agg #[iw 3, iw 1, iw 10]), (15, .tuple #[.agg #[iw 1, .string ⟨#[97]⟩, iw 3, iw 0], bT]), (16, .agg #[sl p0 0 2 2, iw 3]), (17, pt b4 1), (18, iw 1), (19, .tuple #[.agg #[iw 1, .string ⟨#[97]⟩, iw 3, iw 0], bT]), (20, .agg #[iw 1, .string ⟨#[97]⟩, iw 3, iw 0]), (21, bT), (22, bT), (23, bF), (24, bF), (25, pt b10 2), (26, iw 3), (27, bF), (28, bF), (29, bF), (30, .agg #[iw 3, iw 1, iw 10]), (31, .agg #[iw 1, .string ⟨#[97]⟩, iw 3, iw 0]), (32, bT), (33, bF), (34, bF), (35, iw 1)]) (fun _ => [.blk b1 [sl p0 0 2 2, iw 3] 37, .blk b4 [iw 3, iw 1, iw 10] 24, .blk b10 [iw 1, .string ⟨#[97]⟩, iw 3, iw 0] 34]) (fun _ => []) (fun _ => []) [.g [], .g []] [1, 2, 4, 6, 7, 8, 9, 10, 11, 12, 13, 14, 15, 16, 17, 18, 19, 20, 21, 22, 23, 24, 25, 26, 27, 28, 29, 30, 31, 32, 33, 34, 35] rfl (fun _ => by kernel_rfl) (fun _ => trivial) (fun _ => ?_)
  refine Ok.segEnd rfl ?_
  refine Ok.thenN ?_
  refine Ok.round ?_
  refine Ok.seq ?_
  refine Ok.reg ?_
  refine Ok.seg (j := 1) (fun _ => [(1, sl p1 0 2 2), (2, pt b1 0), (4, bF), (6, pt b4 0), (7, pt b10 0), (8, bT), (9, sl p1 0 2 2), (10, iw 2), (11, iw 1), (12, bT), (13, pt p1 0), (14, .agg #[iw 3, iw 1, iw 10]), (15, .tuple #[.agg #[iw 1, .string ⟨#[97]⟩, iw 3, iw 0], bT]), (16, .agg #[sl p0 0 2 2, iw 3]), (17, pt b4 1), (18, iw 1), (19, .tuple #[.agg #[iw 1, .string ⟨#[97]⟩, iw 3, iw 0], bT]), (20, .agg #[iw 1, .string ⟨#[97]⟩, iw 3, iw 0]), (21, bT), (22, bT), (23, bF), (24, bF), (25, pt b10 2), (26, iw 3), (27, bF), (28, bF), (29, bF), (30, .agg #[iw 3, iw 1, iw 10]), (31, .agg #[iw 1, .string ⟨#[97]⟩, iw 3, iw 0]), (32, bT), (33, bF), (34, bF), (35, iw 1)]) (fun _ => [.blk b1 [sl p0 0 2 2, iw 3] 37, .blk b4 [iw 3, iw 1, iw 10] 24, .blk b10 [iw 1, .string ⟨#[97]⟩, iw 3, iw 0] 34]) (fun _ => []) (fun _ => []) [.g []] [1, 2, 4, 6, 7, 8, 9, 10, 11, 12, 13, 14, 15, 16, 17, 18, 19, 20, 21, 22, 23, 24, 25, 26, 27, 28, 29, 30, 31, 32, 33, 34, 35] rfl (fun _ => by kernel_rfl) (fun _ => trivial) (fun _ => ?_)
  refine Ok.segEnd rfl ?_
  refine Ok.thenN ?_
  refine Ok.seq ?_
  refine Ok.condT rfl ?_
  refine Ok.skip_ ?_
  refine Ok.thenN ?_
  refine Ok.seq ?_
  refine Ok.blk ?_
  refine Ok.seq ?_
  refine Ok.reg ?_
  refine Ok.seg (j := 4) (fun b19 => [(1, sl p1 0 2 2), (2, pt b1 0), (4, bF), (6, pt b19 0), (7, pt b10 0), (8, bT), (9, sl p1 0 2 2), (10, iw 2), (11, iw 1), (12, bT), (13, pt p1 3), (14, .agg #[iw 5, iw 2, iw 0]), (15, .tuple #[.agg #[iw 1, .string ⟨#[97]⟩, iw 3, iw 0], bT]), (16, .agg #[sl p0 0 2 2, iw 3]), (17, pt b4 1), (18, iw 1), (19, .tuple #[.agg #[iw 1, .string ⟨#[97]⟩, iw 3, iw 0], bT]), (20, .agg #[iw 1, .string ⟨#[97]⟩, iw 3, iw 0]), (21, bT), (22, bT), (23, bF), (24, bF), (25, pt b10 2), (26, iw 3), (27, bF), (28, bF), (29, bF), (30, .agg #[iw 3, iw 1, iw 10]), (31, .agg #[iw 1, .string ⟨#[97]⟩, iw 3, iw 0]), (32, bT), (33, bF), (34, bF), (35, iw 1)]) (fun b19 => [.blk b1 [sl p0 0 2 2, iw 3] 37, .blk b4 [iw 3, iw 1, iw 10] 24, .blk b10 [iw 1, .string ⟨#[97]⟩, iw 3, iw 0] 34, .blk b19 [iw 5, iw 2, iw 0] 24]) (fun b19 => [b19, b19, b19]) (fun b19 => [HasCell H13 ⟨p1, 3, none⟩ (iw 5), HasCell H13 ⟨p1, 4, none⟩ (iw 2), HasCell H13 ⟨p1, 5, none⟩ (iw 0)]) [.g [], .g [.X (iw 5), .X (iw 2), .X (iw 0)], .g [.N], .g [.K 3 0, .K 3 1, .K 3 2]] [1, 2, 4, 6, 7, 8, 9, 10, 11, 12, 13, 14, 15, 16, 17, 18, 19, 20, 21, 22, 23, 24, 25, 26, 27, 28, 29, 30, 31, 32, 33, 34, 35] rfl (fun b19 => by kernel_rfl) (fun b19 => ⟨Pre.cell (Pre.mono (SLe.trans le8 le14) hp1) 3 rfl, Pre.cell (Pre.mono (SLe.trans le8 le14) hp1) 4 rfl, Pre.cell (Pre.mono (SLe.trans le8 le14) hp1) 5 rfl, trivial⟩) (fun b19 => ?_)
  refine Ok.segEnd rfl ?_
  refine Ok.thenN ?_
  refine Ok.seq ?_
  refine Ok.reg ?_
  refine Ok.seg (j := 3) (fun _ => [(1, sl p1 0 2 2), (2, pt b1 0), (4, bF), (6, pt b19 0), (7, pt b10 0), (8, bT), (9, sl p1 0 2 2), (10, iw 2), (11, iw 1), (12, bT), (13, pt p1 3), (14, .agg #[iw 5, iw 2, iw 0]), (15, .tuple #[.agg #[iw 1, .string ⟨#[97]⟩, iw 3, iw 0], bT]), (16, .agg #[sl p0 0 2 2, iw 3]), (17, pt b19 1), (18, iw 2), (19, .tuple #[.agg #[iw 1, .string ⟨#[97]⟩, iw 3, iw 0], bT]), (20, .agg #[iw 1, .string ⟨#[97]⟩, iw 3, iw 0]), (21, bT), (22, bT), (23, bF), (24, bF), (25, pt b10 2), (26, iw 3), (27, bF), (28, bF), (29, bF), (30, .agg #[iw 3, iw 1, iw 10]), (31, .agg #[iw 1, .string ⟨#[97]⟩, iw 3, iw 0]), (32, bT), (33, bF), (34, bF), (35, iw 1)]) (fun _ => [.blk b1 [sl p0 0 2 2, iw 3] 37, .blk b4 [iw 3, iw 1, iw 10] 24, .blk b10 [iw 1, .string ⟨#[97]⟩, iw 3, iw 0] 34, .blk b19 [iw 5, iw 2, iw 0] 24]) (fun _ => [b1, b1, b19]) (fun _ => []) [.g [.K 0 0, .K 0 1], .g [], .g [.K 3 1]] [1, 2, 4, 6, 7, 8, 9, 10, 11, 12, 13, 14, 15, 16, 17, 18, 19, 20, 21, 22, 23, 24, 25, 26, 27, 28, 29, 30, 31, 32, 33, 34, 35] rfl (fun _ => by kernel_rfl) (fun _ => trivial) (fun _ => ?_)
  refine Ok.eff (j := 4) rfl (Eff.call0 (d := some 19) (by kernel_rfl) (x19_88 H13 p0 (Pre.mono (SLe.trans le8 le14) hp0)) ?_)
  rintro v21 H22 k24 le23 rfl
  refine Ok.dropL ?_
  refine Ok.seg (j := 10) (fun b25 => [(1, sl p1 0 2 2), (2, pt b1 0), (4, bF), (6, pt b19 0), (7, pt b25 0), (8, bT), (9, sl p1 0 2 2), (10, iw 2), (11, iw 1), (12, bT), (13, pt p1 3), (14, .agg #[iw 5, iw 2, iw 0]), (15, .tuple #[.agg #[iw 2, .string ⟨#[98]⟩, iw 5, iw 0], bT]), (16, .agg #[sl p0 0 2 2, iw 3]), (17, pt b19 1), (18, iw 2), (19, .tuple #[.agg #[iw 2, .string ⟨#[98]⟩, iw 5, iw 0], bT]), (20, .agg #[iw 2, .string ⟨#[98]⟩, iw 5, iw 0]), (21, bT), (22, bT), (23, bF), (24, bF), (25, pt b10 2), (26, iw 3), (27, bF), (28, bF), (29, bF), (30, .agg #[iw 3, iw 1, iw 10]), (31, .agg #[iw 1, .string ⟨#[97]⟩, iw 3, iw 0]), (32, bT), (33, bF), (34, bF), (35, iw 1)]) (fun b25 => [.blk b1 [sl p0 0 2 2, iw 3] 37, .blk b4 [iw 3, iw 1, iw 10] 24, .blk b10 [iw 1, .string ⟨#[97]⟩, iw 3, iw 0] 34, .blk b19 [iw 5, iw 2, iw 0] 24, .blk b25 [iw 2, .string ⟨#[98]⟩, iw 5, iw 0] 34]) (fun b25 => [b25, b25, b25, b25]) (fun b25 => []) [.g [], .g [], .g [], .g [.N], .g [.K 4 0, .K 4 1, .K 4 2, .K 4 3], .g []] [1, 2, 4, 6, 7, 8, 9, 10, 11, 12, 13, 14, 15, 16, 17, 18, 19, 20, 21, 22, 23, 24, 25, 26, 27, 28, 29, 30, 31, 32, 33, 34, 35] rfl (fun b25 => by kernel_rfl) (fun b25 => trivial) (fun b25 => ?_)
  refine Ok.segEnd rfl ?_
  refine Ok.thenN ?_
  refine Ok.seq ?_
  refine Ok.reg ?_
  refine Ok.seg (j := 10) (fun _ => [(1, sl p1 0 2 2), (2, pt b1 0), (4, bF), (6, pt b19 0), (7, pt b25 0), (8, bT), (9, sl p1 0 2 2), (10, iw 2), (11, iw 1), (12, bT), (13, pt p1 3), (14, .agg #[iw 5, iw 2, iw 0]), (15, .tuple #[.agg #[iw 2, .string ⟨#[98]⟩, iw 5, iw 0], bT]), (16, .agg #[sl p0 0 2 2, iw 3]), (17, pt b19 1), (18, iw 2), (19, .tuple #[.agg #[iw 2, .string ⟨#[98]⟩, iw 5, iw 0], bT]), (20, .agg #[iw 2, .string ⟨#[98]⟩, iw 5, iw 0]), (21, bT), (22, bT), (23, bF), (24, bF), (25, pt b25 2), (26, iw 5), (27, bF), (28, bF), (29, bF), (30, .agg #[iw 5, iw 2, iw 0]), (31, .agg #[iw 2, .string ⟨#[98]⟩, iw 5, iw 0]), (32, bT), (33, bF), (34, bF), (35, iw 1)]) (fun _ => [.blk b1 [sl p0 0 2 2, iw 3] 37, .blk b4 [iw 3, iw 1, iw 10] 24, .blk b10 [iw 1, .string ⟨#[97]⟩, iw 3, iw 0] 34, .blk b19 [iw 5, iw 2, iw 0] 24, .blk b25 [iw 2, .string ⟨#[98]⟩, iw 5, iw 0] 34]) (fun _ => [b25, b19, b19, b19, b25, b25, b25, b25]) (fun _ => []) [.g [], .g [], .g [], .g [], .g [.K 4 2], .g [], .g [], .g [], .g [.K 3 0, .K 3 1, .K 3 2], .g [.K 4 0, .K 4 1, .K 4 2, .K 4 3]] [1, 2, 4, 6, 7, 8, 9, 10, 11, 12, 13, 14, 15, 16, 17, 18, 19, 20, 21, 22, 23, 24, 25, 26, 27, 28, 29, 30, 31, 32, 33, 34, 35] rfl (fun _ => by kernel_rfl) (fun _ => trivial) (fun _ => ?_)
  refine Ok.mask [true, false, false, true, true] [.blk b1 [sl p0 0 2 2, iw 3] 37, .blk b19 [iw 5, iw 2, iw 0] 24, .blk b25 [iw 2, .string ⟨#[98]⟩, iw 5, iw 0] 34] rfl ?_
  refine Ok.eff (j := 11) rfl (Eff.call0 (d := some 32) (by kernel_rfl) (x20_93 H22) ?_)
  rintro v27 H28 k30 le29 rfl
  refine Ok.dropL ?_
  refine Ok.seg (j := 13) (fun _ => [(1, sl p1 0 2 2), (2, pt b1 0), (4, bF), (6, pt b19 0), (7, pt b25 0), (8, bT), (9, sl p1 0 2 2), (10, iw 2), (11, iw 1), (12, bT), (13, pt p1 3), (14, .agg #[iw 5, iw 2, iw 0]), (15, .tuple #[.agg #[iw 2, .string ⟨#[98]⟩, iw 5, iw 0], bT]), (16, .agg #[sl p0 0 2 2, iw 3]), (17, pt b19 1), (18, iw 2), (19, .tuple #[.agg #[iw 2, .string ⟨#[98]⟩, iw 5, iw 0], bT]), (20, .agg #[iw 2, .string ⟨#[98]⟩, iw 5, iw 0]), (21, bT), (22, bT), (23, bF), (24, bF), (25, pt b25 2), (26, iw 5), (27, bF), (28, bF), (29, bF), (30, .agg #[iw 5, iw 2, iw 0]), (31, .agg #[iw 2, .string ⟨#[98]⟩, iw 5, iw 0]), (32, bT), (33, bF), (34, bF), (35, iw 1)]) (fun _ => [.blk b1 [sl p0 0 2 2, iw 3] 37, .blk b19 [iw 5, iw 2, iw 0] 24, .blk b25 [iw 2, .string ⟨#[98]⟩, iw 5, iw 0] 34]) (fun _ => []) (fun _ => []) [.g [], .g []] [1, 2, 4, 6, 7, 8, 9, 10, 11, 12, 13, 14, 15, 16, 17, 18, 19, 20, 21, 22, 23, 24, 25, 26, 27, 28, 29, 30, 31, 32, 33, 34, 35] rfl (fun _ => by kernel_rfl) (fun _ => trivial) (fun _ => ?_)
  refine Ok.segEnd rfl ?_
  refine Ok.thenN ?_
  refine Ok.condF rfl ?_
  refine Ok.skip_ ?_
  refine Ok.blkN ?_
  refine Ok.thenN ?_
  refine Ok.reg ?_
  refine Ok.seg (j := 2) (fun _ => [(1, sl p1 0 2 2), (2, pt b1 0), (4, bF), (6, pt b19 0), (7, pt b25 0), (8, bT), (9, sl p1 0 2 2), (10, iw 2), (11, iw 2), (12, bT), (13, pt p1 3), (14, .agg #[iw 5, iw 2, iw 0]), (15, .tuple #[.agg #[iw 2, .string ⟨#[98]⟩, iw 5, iw 0], bT]), (16, .agg #[sl p0 0 2 2, iw 3]), (17, pt b19 1), (18, iw 2), (19, .tuple #[.agg #[iw 2, .string ⟨#[98]⟩, iw 5, iw 0], bT]), (20, .agg #[iw 2, .string ⟨#[98]⟩, iw 5, iw 0]), (21, bT), (22, bT), (23, bF), (24, bF), (25, pt b25 2), (26, iw 5), (27, bF), (28, bF), (29, bF), (30, .agg #[iw 5, iw 2, iw 0]), (31, .agg #[iw 2, .string ⟨#[98]⟩, iw 5, iw 0]), (32, bT), (33, bF), (34, bF), (35, iw 2)]) (fun _ => [.blk b1 [sl p0 0 2 2, iw 3] 37, .blk b19 [iw 5, iw 2, iw 0] 24, .blk b25 [iw 2, .string ⟨#[98]⟩, iw 5, iw 0] 34]) (fun _ => []) (fun _ => []) [.g [], .g []] [1, 2, 4, 6, 7, 8, 9, 10, 11, 12, 13, 14, 15, 16, 17, 18, 19, 20, 21, 22, 23, 24, 25, 26, 27, 28, 29, 30, 31, 32, 33, 34, 35] rfl (fun _ => by kernel_rfl) (fun _ => trivial) (fun _ => ?_)
  refine Ok.segEnd rfl ?_
  refine Ok.thenN ?_
  refine Ok.round ?_
  refine Ok.seq ?_
  refine Ok.reg ?_
  refine Ok.seg (j := 1) (fun _ => [(1, sl p1 0 2 2), (2, pt b1 0), (4, bF), (6, pt b19 0), (7, pt b25 0), (8, bT), (9, sl p1 0 2 2), (10, iw 2), (11, iw 2), (12, bF), (13, pt p1 3), (14, .agg #[iw 5, iw 2, iw 0]), (15, .tuple #[.agg #[iw 2, .string ⟨#[98]⟩, iw 5, iw 0], bT]), (16, .agg #[sl p0 0 2 2, iw 3]), (17, pt b19 1), (18, iw 2), (19, .tuple #[.agg #[iw 2, .string ⟨#[98]⟩, iw 5, iw 0], bT]), (20, .agg #[iw 2, .string ⟨#[98]⟩, iw 5, iw 0]), (21, bT), (22, bT), (23, bF), (24, bF), (25, pt b25 2), (26, iw 5), (27, bF), (28, bF), (29, bF), (30, .agg #[iw 5, iw 2, iw 0]), (31, .agg #[iw 2, .string ⟨#[98]⟩, iw 5, iw 0]), (32, bT), (33, bF), (34, bF), (35, iw 2)]) (fun _ => [.blk b1 [sl p0 0 2 2, iw 3] 37, .blk b19 [iw 5, iw 2, iw 0] 24, .blk b25 [iw 2, .string ⟨#[98]⟩, iw 5, iw 0] 34]) (fun _ => []) (fun _ => []) [.g []] [1, 2, 4, 6, 7, 8, 9, 10, 11, 12, 13, 14, 15, 16, 17, 18, 19, 20, 21, 22, 23, 24, 25, 26, 27, 28, 29, 30, 31, 32, 33, 34, 35] rfl (fun _ => by kernel_rfl) (fun _ => trivial) (fun _ => ?_)
  refine Ok.segEnd rfl ?_
  refine Ok.thenN ?_
  refine Ok.seq ?_
  refine Ok.condF rfl ?_
  refine Ok.exit_ ?_
  refine Ok.thenE ?_
  refine Ok.thenE ?_
  refine Ok.blkE ?_
  refine Ok.thenN ?_
  refine Ok.seq ?_
  refine Ok.reg ?_
  refine Ok.seg (j := 4) (fun _ => [(4, bT)]) (fun _ => [.blk b1 [sl p0 0 2 2, iw 3] 37, .blk b19 [iw 5, iw 2, iw 0] 24, .blk b25 [iw 2, .string ⟨#[98]⟩, iw 5, iw 0] 34]) (fun _ => []) (fun _ => []) [.g [], .g [], .g [], .g []] [4] rfl (fun _ => by kernel_rfl) (fun _ => trivial) (fun _ => ?_)
  refine Ok.mask [false, false, false] [] rfl ?_
  refine Ok.segEnd rfl ?_
  refine Ok.thenN ?_
  refine Ok.ret_ ?_
  exact Ok.ret1 (v := bT) (SLe.trans le8 (SLe.trans le14 (SLe.trans le23 le29))) rfl rfl rfl
set_option maxRecDepth 100000 in
theorem x20_95 (H : Snap) : Does Tryd.prog 20 [.agg #[iw 5, iw 1, iw 0], .agg #[iw 1, .string ⟨#[97]⟩, iw 3, iw 0]] H [] (fun v H' kp => v = bF) := by
  refine Does.of Tryd.func20 rfl rfl rfl rfl (fun w0 H0 kx => ?_)
  refine Ok.seq ?_
  refine Ok.reg ?_
  refine Ok.seg (j := 3) (fun b1 => [(2, pt b1 0), (3, pt (b1 + 1) 0), (4, bF)]) (fun b1 => [.blk b1 [iw 5, iw 1, iw 0] 24, .blk (b1 + 1) [iw 1, .string ⟨#[97]⟩, iw 3, iw 0] 34]) (fun b1 => []) (fun b1 => []) [.g [.N], .g [.N], .g []] [2, 3, 4] rfl (fun b1 => by kernel_rfl) (fun b1 => trivial) (fun b1 => ?_)
  refine Ok.segEnd rfl ?_
  refine Ok.thenN ?_
  refine Ok.seq ?_
  refine Ok.seq ?_
  refine Ok.reg ?_
  refine Ok.seg (j := 2) (fun _ => [(2, pt b1 0), (3, pt (b1 + 1) 0), (4, bF), (6, iw 5)]) (fun _ => [.blk b1 [iw 5, iw 1, iw 0] 24, .blk (b1 + 1) [iw 1, .string ⟨#[97]⟩, iw 3, iw 0] 34]) (fun _ => [b1]) (fun _ => []) [.g [], .g [.K 0 0]] [2, 3, 4, 6] rfl (fun _ => by kernel_rfl) (fun _ => trivial) (fun _ => ?_)
  refine Ok.segEnd rfl ?_
  refine Ok.thenN ?_
  refine Ok.blk ?_
  refine Ok.seq ?_
  refine Ok.reg ?_
  refine Ok.seg (j := 2) (fun _ => [(2, pt b1 0), (3, pt (b1 + 1) 0), (4, bF), (6, iw 5), (7, bF)]) (fun _ => [.blk b1 [iw 5, iw 1, iw 0] 24, .blk (b1 + 1) [iw 1, .string ⟨#[97]⟩, iw 3, iw 0] 34]) (fun _ => []) (fun _ => []) [.g [], .g []] [2, 3, 4, 6, 7] rfl (fun _ => by kernel_rfl) (fun _ => trivial) (fun _ => ?_)
  refine Ok.segEnd rfl ?_
  refine Ok.thenN ?_
  refine Ok.condF rfl ?_
  refine Ok.seq ?_
  refine Ok.reg ?_
  refine Ok.seg (j := 2) (fun _ => [(2, pt b1 0), (3, pt (b1 + 1) 0), (4, bF), (6, iw 5), (12, bF)]) (fun _ => [.blk b1 [iw 5, iw 1, iw 0] 24, .blk (b1 + 1) [iw 1, .string ⟨#[97]⟩, iw 3, iw 0] 34]) (fun _ => []) (fun _ => []) [.g [], .g []] [2, 3, 4, 6, 12] rfl (fun _ => by kernel_rfl) (fun _ => trivial) (fun _ => ?_)
  refine Ok.segEnd rfl ?_
  refine Ok.thenN ?_
  refine Ok.condF rfl ?_
  refine Ok.seq ?_
  refine Ok.reg ?_
  refine Ok.seg (j := 2) (fun _ => [(2, pt b1 0), (3, pt (b1 + 1) 0), (4, bF), (6, iw 5), (22, bF)]) (fun _ => [.blk b1 [iw 5, iw 1, iw 0] 24, .blk (b1 + 1) [iw 1, .string ⟨#[97]⟩, iw 3, iw 0] 34]) (fun _ => []) (fun _ => []) [.g [], .g []] [2, 3, 4, 6, 22] rfl (fun _ => by kernel_rfl) (fun _ => trivial) (fun _ => ?_)
  refine Ok.segEnd rfl ?_
  refine Ok.thenN ?_
  refine Ok.condF rfl ?_
  refine Ok.seq ?_
  refine Ok.seq ?_
  refine Ok.reg ?_
  refine Ok.seg (j := 2) (fun _ => [(2, pt b1 0), (3, pt (b1 + 1) 0), (4, bF), (6, iw 5), (47, bF)]) (fun _ => [.blk b1 [iw 5, iw 1, iw 0] 24, .blk (b1 + 1) [iw 1, .string ⟨#[97]⟩, iw 3, iw 0] 34]) (fun _ => []) (fun _ => []) [.g [], .g []] [2, 3, 4, 6, 47] rfl (fun _ => by kernel_rfl) (fun _ => trivial) (fun _ => ?_)
  refine Ok.segEnd rfl ?_
  refine Ok.thenN ?_
  refine Ok.condF rfl ?_
  refine Ok.reg ?_
  refine Ok.seg (j := 2) (fun _ => [(2, pt b1 0), (3, pt (b1 + 1) 0), (4, bF), (47, bT)]) (fun _ => [.blk b1 [iw 5, iw 1, iw 0] 24, .blk (b1 + 1) [iw 1, .string ⟨#[97]⟩, iw 3, iw 0] 34]) (fun _ => []) (fun _ => []) [.g [], .g []] [2, 3, 4, 47] rfl (fun _ => by kernel_rfl) (fun _ => trivial) (fun _ => ?_)
  refine Ok.segEnd rfl ?_
  refine Ok.thenN ?_
  refine Ok.condT rfl ?_
  refine Ok.seq ?_
  refine Ok.reg ?_
  refine Ok.seg (j := 9) (fun _ => [(4, bF)]) (fun _ => [.blk b1 [iw 5, iw 1, iw 0] 24, .blk (b1 + 1) [iw 1, .string ⟨#[97]⟩, iw 3, iw 0] 34]) (fun _ => [b1 + 1]) (fun _ => []) [.g [], .g [.K 1 2], .g [], .g [], .g [], .g [], .g [], .g [], .g []] [4] rfl (fun _ => by kernel_rfl) (fun _ => trivial) (fun _ => ?_)
  refine Ok.mask [false, false] [] rfl ?_
  refine Ok.segEnd rfl ?_
  refine Ok.thenN ?_
  refine Ok.ret_ ?_
  refine Ok.blkR ?_
  refine Ok.thenR ?_
  exact Ok.ret1 (v := bF) (SLe.refl _) rfl rfl rfl
set_option maxRecDepth 100000 in
theorem x11_94 (H : Snap) (p0 p1 : Nat) (hp0 : Pre H p0 [iw 1, .string ⟨#[97]⟩, iw 3, iw 0, iw 2, .string ⟨#[98]⟩, iw 5, iw 0]) (hp1 : Pre H p1 [iw 5, iw 1, iw 0]) : Does Tryd.prog 11 [.agg #[sl p0 0 2 2, iw 3], sl p1 0 1 1] H [] (fun v H' kp => v = bF) := by
  refine Does.of Tryd.func11 rfl rfl rfl rfl (fun w0 H0 kx => ?_)
  refine Ok.seq ?_
  refine Ok.reg ?_
  refine Ok.seg (j := 2) (fun b1 => [(1, sl p1 0 1 1), (2, pt b1 0), (4, bF)]) (fun b1 => [.blk b1 [sl p0 0 2 2, iw 3] 37]) (fun b1 => []) (fun b1 => []) [.g [.N], .g []] [1, 2, 4] rfl (fun b1 => by kernel_rfl) (fun b1 => trivial) (fun b1 => ?_)
  refine Ok.segEnd rfl ?_
  refine Ok.thenN ?_
  refine Ok.seq ?_
  refine Ok.seq ?_
  refine Ok.reg ?_
  refine Ok.seg (j := 3) (fun _ => [(1, sl p1 0 1 1), (2, pt b1 0), (4, bF), (9, sl p1 0 1 1), (10, iw 1), (11, iw 0)]) (fun _ => [.blk b1 [sl p0 0 2 2, iw 3] 37]) (fun _ => []) (fun _ => []) [.g [], .g [], .g []] [1, 2, 4, 9, 10, 11] rfl (fun _ => by kernel_rfl) (fun _ => trivial) (fun _ => ?_)
  refine Ok.segEnd rfl ?_
  refine Ok.thenN ?_
  refine Ok.blk ?_
  refine Ok.loopN 1 ?_
  refine Ok.round ?_
  refine Ok.seq ?_
  refine Ok.reg ?_
  refine Ok.seg (j := 1) (fun _ => [(1, sl p1 0 1 1), (2, pt b1 0), (4, bF), (9, sl p1 0 1 1), (10, iw 1), (11, iw 0), (12, bT)]) (fun _ => [.blk b1 [sl p0 0 2 2, iw 3] 37]) (fun _ => []) (fun _ => []) [.g []] [1, 2, 4, 9, 10, 11, 12] rfl (fun _ => by kernel_rfl) (fun _ => trivial) (fun _ => ?_)
  refine Ok.segEnd rfl ?_
  refine Ok.thenN ?_
  refine Ok.seq ?_
  refine Ok.condT rfl ?_
  refine Ok.skip_ ?_
  refine Ok.thenN ?_
  refine Ok.seq ?_
  refine Ok.blk ?_
  refine Ok.seq ?_
  refine Ok.reg ?_
  refine Ok.seg (j := 4) (fun b4 => [(1, sl p1 0 1 1), (2, pt b1 0), (4, bF), (6, pt b4 0), (9, sl p1 0 1 1), (10, iw 1), (11, iw 0), (12, bT), (13, pt p1 0), (14, .agg #[iw 5, iw 1, iw 0])]) (fun b4 => [.blk b1 [sl p0 0 2 2, iw 3] 37, .blk b4 [iw 5, iw 1, iw 0] 24]) (fun b4 => [b4, b4, b4]) (fun b4 => [HasCell H ⟨p1, 0, none⟩ (iw 5), HasCell H ⟨p1, 1, none⟩ (iw 1), HasCell H ⟨p1, 2, none⟩ (iw 0)]) [.g [], .g [.X (iw 5), .X (iw 1), .X (iw 0)], .g [.N], .g [.K 1 0, .K 1 1, .K 1 2]] [1, 2, 4, 6, 9, 10, 11, 12, 13, 14] rfl (fun b4 => by kernel_rfl) (fun b4 => ⟨Pre.cell hp1 0 rfl, Pre.cell hp1 1 rfl, Pre.cell hp1 2 rfl, trivial⟩) (fun b4 => ?_)
  refine Ok.segEnd rfl ?_
  refine Ok.thenN ?_
  refine Ok.seq ?_
  refine Ok.reg ?_
  refine Ok.seg (j := 3) (fun _ => [(1, sl p1 0 1 1), (2, pt b1 0), (4, bF), (6, pt b4 0), (9, sl p1 0 1 1), (10, iw 1), (11, iw 0), (12, bT), (13, pt p1 0), (14, .agg #[iw 5, iw 1, iw 0]), (16, .agg #[sl p0 0 2 2, iw 3]), (17, pt b4 1), (18, iw 1)]) (fun _ => [.blk b1 [sl p0 0 2 2, iw 3] 37, .blk b4 [iw 5, iw 1, iw 0] 24]) (fun _ => [b1, b1, b4]) (fun _ => []) [.g [.K 0 0, .K 0 1], .g [], .g [.K 1 1]] [1, 2, 4, 6, 9, 10, 11, 12, 13, 14, 16, 17, 18] rfl (fun _ => by kernel_rfl) (fun _ => trivial) (fun _ => ?_)
  refine Ok.eff (j := 4) rfl (Eff.call0 (d := some 19) (by kernel_rfl) (x19_83 H p0 hp0) ?_)
  rintro v6 H7 k9 le8 rfl
  refine Ok.dropL ?_
  refine Ok.seg (j := 10) (fun b10 => [(1, sl p1 0 1 1), (2, pt b1 0), (4, bF), (6, pt b4 0), (7, pt b10 0), (8, bT), (9, sl p1 0 1 1), (10, iw 1), (11, iw 0), (12, bT), (13, pt p1 0), (14, .agg #[iw 5, iw 1, iw 0]), (15, .tuple #[.agg #[iw 1, .string ⟨#[97]⟩, iw 3, iw 0], bT]), (16, .agg #[sl p0 0 2 2, iw 3]), (17, pt b4 1), (18, iw 1), (19, .tuple #[.agg #[iw 1, .string ⟨#[97]⟩, iw 3, iw 0], bT]), (20, .agg #[iw 1, .string ⟨#[97]⟩, iw 3, iw 0]), (21, bT)]) (fun b10 => [.blk b1 [sl p0 0 2 2, iw 3] 37, .blk b4 [iw 5, iw 1, iw 0] 24, .blk b10 [iw 1, .string ⟨#[97]⟩, iw 3, iw 0] 34]) (fun b10 => [b10, b10, b10, b10]) (fun b10 => []) [.g [], .g [], .g [], .g [.N], .g [.K 2 0, .K 2 1, .K 2 2, .K 2 3], .g []] [1, 2, 4, 6, 7, 8, 9, 10, 11, 12, 13, 14, 15, 16, 17, 18, 19, 20, 21] rfl (fun b10 => by kernel_rfl) (fun b10 => trivial) (fun b10 => ?_)
  refine Ok.segEnd rfl ?_
  refine Ok.thenN ?_
  refine Ok.seq ?_
  refine Ok.reg ?_
  refine Ok.seg (j := 10) (fun _ => [(1, sl p1 0 1 1), (2, pt b1 0), (4, bF), (6, pt b4 0), (7, pt b10 0), (8, bT), (9, sl p1 0 1 1), (10, iw 1), (11, iw 0), (12, bT), (13, pt p1 0), (14, .agg #[iw 5, iw 1, iw 0]), (15, .tuple #[.agg #[iw 1, .string ⟨#[97]⟩, iw 3, iw 0], bT]), (16, .agg #[sl p0 0 2 2, iw 3]), (17, pt b4 1), (18, iw 1), (19, .tuple #[.agg #[iw 1, .string ⟨#[97]⟩, iw 3, iw 0], bT]), (20, .agg #[iw 1, .string ⟨#[97]⟩, iw 3, iw 0]), (21, bT), (22, bT), (23, bF), (24, bF), (25, pt b10 2), (26, iw 3), (27, bF), (28, bF), (29, bF), (30, .agg #[iw 5, iw 1, iw 0]), (31, .agg #[iw 1, .string ⟨#[97]⟩, iw 3, iw 0])]) (fun _ => [.blk b1 [sl p0 0 2 2, iw 3] 37, .blk b4 [iw 5, iw 1, iw 0] 24, .blk b10 [iw 1, .string ⟨#[97]⟩, iw 3, iw 0] 34]) (fun _ => [b10, b4, b4, b4, b10, b10, b10, b10]) (fun _ => []) [.g [], .g [], .g [], .g [], .g [.K 2 2], .g [], .g [], .g [], .g [.K 1 0, .K 1 1, .K 1 2], .g [.K 2 0, .K 2 1, .K 2 2, .K 2 3]] [1, 2, 4, 6, 7, 8, 9, 10, 11, 12, 13, 14, 15, 16, 17, 18, 19, 20, 21, 22, 23, 24, 25, 26, 27, 28, 29, 30, 31] rfl (fun _ => by kernel_rfl) (fun _ => trivial) (fun _ => ?_)
  refine Ok.eff (j := 11) rfl (Eff.call0 (d := some 32) (by kernel_rfl) (x20_95 H7) ?_)
  rintro v12 H13 k15 le14 rfl
  refine Ok.dropL ?_
  refine Ok.seg (j := 13) (fun _ => [(1, sl p1 0 1 1), (2, pt b1 0), (4, bF), (6, pt b4 0), (7, pt b10 0), (8, bT), (9, sl p1 0 1 1), (10, iw 1), (11, iw 0), (12, bT), (13, pt p1 0), (14, .agg #[iw 5, iw 1, iw 0]), (15, .tuple #[.agg #[iw 1, .string ⟨#[97]⟩, iw 3, iw 0], bT]), (16, .agg #[sl p0 0 2 2, iw 3]), (17, pt b4 1), (18, iw 1), (19, .tuple #[.agg #[iw 1, .string ⟨#[97]⟩, iw 3, iw 0], bT]), (20, .agg #[iw 1, .string ⟨#[97]⟩, iw 3, iw 0]), (21, bT), (22, bT), (23, bF), (24, bF), (25, pt b10 2), (26, iw 3), (27, bF), (28, bF), (29, bF), (30, .agg #[iw 5, iw 1, iw 0]), (31, .agg #[iw 1, .string ⟨#[97]⟩, iw 3, iw 0]), (32, bF), (33, bT), (34, bT)]) (fun _ => [.blk b1 [sl p0 0 2 2, iw 3] 37, .blk b4 [iw 5, iw 1, iw 0] 24, .blk b10 [iw 1, .string ⟨#[97]⟩, iw 3, iw 0] 34]) (fun _ => []) (fun _ => []) [.g [], .g []] [1, 2, 4, 6, 7, 8, 9, 10, 11, 12, 13, 14, 15, 16, 17, 18, 19, 20, 21, 22, 23, 24, 25, 26, 27, 28, 29, 30, 31, 32, 33, 34] rfl (fun _ => by kernel_rfl) (fun _ => trivial) (fun _ => ?_)
  refine Ok.segEnd rfl ?_
  refine Ok.thenN ?_
  refine Ok.condT rfl ?_
  refine Ok.seq ?_
  refine Ok.reg ?_
  refine Ok.seg (j := 1) (fun _ => [(1, sl p1 0 1 1), (2, pt b1 0), (4, bF), (6, pt b4 0), (7, pt b10 0), (8, bT), (9, sl p1 0 1 1), (10, iw 1), (11, iw 0), (12, bT), (13, pt p1 0), (14, .agg #[iw 5, iw 1, iw 0]), (15, .tuple #[.agg #[iw 1, .string ⟨#[97]⟩, iw 3, iw 0], bT]), (16, .agg #[sl p0 0 2 2, iw 3]), (17, pt b4 1), (18, iw 1), (19, .tuple #[.agg #[iw 1, .string ⟨#[97]⟩, iw 3, iw 0], bT]), (20, .agg #[iw 1, .string ⟨#[97]⟩, iw 3, iw 0]), (21, bT), (22, bT), (23, bF), (24, bF), (25, pt b10 2), (26, iw 3), (27, bF), (28, bF), (29, bF), (30, .agg #[iw 5, iw 1, iw 0]), (31, .agg #[iw 1, .string ⟨#[97]⟩, iw 3, iw 0]), (32, bF), (33, bT), (34, bT)]) (fun _ => [.blk b1 [sl p0 0 2 2, iw 3] 37, .blk b4 [iw 5, iw 1, iw 0] 24, .blk b10 [iw 1, .string ⟨#[97]⟩, iw 3, iw 0] 34]) (fun _ => []) (fun _ => []) [.g []] [1, 2, 4, 6, 7, 8, 9, 10, 11, 12, 13, 14, 15, 16, 17, 18, 19, 20, 21, 22, 23, 24, 25, 26, 27, 28, 29, 30, 31, 32, 33, 34] rfl (fun _ => by kernel_rfl) (fun _ => trivial) (fun _ => ?_)
  refine Ok.segEnd rfl ?_
  refine Ok.thenN ?_
  refine Ok.ret_ ?_
  refine Ok.blkR ?_
  refine Ok.thenR ?_
  refine Ok.thenR ?_
  refine Ok.blkR ?_
  refine Ok.thenR ?_
  refine Ok.dropAll ?_
  exact Ok.ret1 (v := bF) (SLe.trans le8 le14) rfl rfl rfl
set_option maxRecDepth 100000 in
theorem x20_97 (H : Snap) : Does Tryd.prog 20 [.agg #[iw 2, iw 1, iw 0], .agg #[iw 1, .string ⟨#[97]⟩, iw 3, iw 0]] H [] (fun v H' kp => v = bF) := by
  refine Does.of Tryd.func20 rfl rfl rfl rfl (fun w0 H0 kx => ?_)
  refine Ok.seq ?_
  refine Ok.reg ?_
  refine Ok.seg (j := 3) (fun b1 => [(2, pt b1 0), (3, pt (b1 + 1) 0), (4, bF)]) (fun b1 => [.blk b1 [iw 2, iw 1, iw 0] 24, .blk (b1 + 1) [iw 1, .string ⟨#[97]⟩, iw 3, iw 0] 34]) (fun b1 => []) (fun b1 => []) [.g [.N], .g [.N], .g []] [2, 3, 4] rfl (fun b1 => by kernel_rfl) (fun b1 => trivial) (fun b1 => ?_)
  refine Ok.segEnd rfl ?_
  refine Ok.thenN ?_
  refine Ok.seq ?_
  refine Ok.seq ?_
  refine Ok.reg ?_
  refine Ok.seg (j := 2) (fun _ => [(2, pt b1 0), (3, pt (b1 + 1) 0), (4, bF), (6, iw 2)]) (fun _ => [.blk b1 [iw 2, iw 1, iw 0] 24, .blk (b1 + 1) [iw 1, .string ⟨#[97]⟩, iw 3, iw 0] 34]) (fun _ => [b1]) (fun _ => []) [.g [], .g [.K 0 0]] [2, 3, 4, 6] rfl (fun _ => by kernel_rfl) (fun _ => trivial) (fun _ => ?_)
  refine Ok.segEnd rfl ?_
  refine Ok.thenN ?_
  refine Ok.blk ?_
  refine Ok.seq ?_
  refine Ok.reg ?_
  refine Ok.seg (j := 2) (fun _ => [(2, pt b1 0), (3, pt (b1 + 1) 0), (4, bF), (6, iw 2), (7, bF)]) (fun _ => [.blk b1 [iw 2, iw 1, iw 0] 24, .blk (b1 + 1) [iw 1, .string ⟨#[97]⟩, iw 3, iw 0] 34]) (fun _ => []) (fun _ => []) [.g [], .g []] [2, 3, 4, 6, 7] rfl (fun _ => by kernel_rfl) (fun _ => trivial) (fun _ => ?_)
  refine Ok.segEnd rfl ?_
  refine Ok.thenN ?_
  refine Ok.condF rfl ?_
  refine Ok.seq ?_
  refine Ok.reg ?_
  refine Ok.seg (j := 2) (fun _ => [(2, pt b1 0), (3, pt (b1 + 1) 0), (4, bF), (6, iw 2), (12, bT)]) (fun _ => [.blk b1 [iw 2, iw 1, iw 0] 24, .blk (b1 + 1) [iw 1, .string ⟨#[97]⟩, iw 3, iw 0] 34]) (fun _ => []) (fun _ => []) [.g [], .g []] [2, 3, 4, 6, 12] rfl (fun _ => by kernel_rfl) (fun _ => trivial) (fun _ => ?_)
  refine Ok.segEnd rfl ?_
  refine Ok.thenN ?_
  refine Ok.condT rfl ?_
  refine Ok.seq ?_
  refine Ok.reg ?_
  refine Ok.seg (j := 9) (fun _ => [(4, bF)]) (fun _ => [.blk b1 [iw 2, iw 1, iw 0] 24, .blk (b1 + 1) [iw 1, .string ⟨#[97]⟩, iw 3, iw 0] 34]) (fun _ => [b1]) (fun _ => []) [.g [], .g [.K 0 2], .g [], .g [], .g [], .g [], .g [], .g [], .g []] [4] rfl (fun _ => by kernel_rfl) (fun _ => trivial) (fun _ => ?_)
  refine Ok.mask [false, false] [] rfl ?_
  refine Ok.segEnd rfl ?_
  refine Ok.thenN ?_
  refine Ok.ret_ ?_
  refine Ok.blkR ?_
  refine Ok.thenR ?_
  exact Ok.ret1 (v := bF) (SLe.refl _) rfl rfl rfl
set_option maxRecDepth 100000 in
theorem x11_96 (H : Snap) (p0 p1 : Nat) (hp0 : Pre H p0 [iw 1, .string ⟨#[97]⟩, iw 3, iw 0, iw 2, .string ⟨#[98]⟩, iw 5, iw 0]) (hp1 : Pre H p1 [iw 2, iw 1, iw 0]) : Does Tryd.prog 11 [.agg #[sl p0 0 2 2, iw 3], sl p1 0 1 1] H [] (fun v H' kp => v = bF) := by
  refine Does.of Tryd.func11 rfl rfl rfl rfl (fun w0 H0 kx => ?_)
  refine Ok.seq ?_
  refine Ok.reg ?_
  refine Ok.seg (j := 2) (fun b1 => [(1, sl p1 0 1 1), (2, pt b1 0), (4, bF)]) (fun b1 => [.blk b1 [sl p0 0 2 2, iw 3] 37]) (fun b1 => []) (fun b1 => []) [.g [.N], .g []] [1, 2, 4] rfl (fun b1 => by kernel_rfl) (fun b1 => trivial) (fun b1 => ?_)
  refine Ok.segEnd rfl ?_
  refine Ok.thenN ?_
  refine Ok.seq ?_
  refine Ok.seq ?_
  refine Ok.reg ?_
  refine Ok.seg (j := 3) (fun _ => [(1, sl p1 0 1 1), (2, pt b1 0), (4, bF), (9, sl p1 0 1 1), (10, iw 1), (11, iw 0)]) (fun _ => [.blk b1 [sl p0 0 2 2, iw 3] 37]) (fun _ => []) (fun _ => []) [.g [], .g [], .g []] [1, 2, 4, 9, 10, 11] rfl (fun _ => by kernel_rfl) (fun _ => trivial) (fun _ => ?_)
  refine Ok.segEnd rfl ?_
  refine Ok.thenN ?_
  refine Ok.blk ?_
  refine Ok.loopN 1 ?_
  refine Ok.round ?_
  refine Ok.seq ?_
  refine Ok.reg ?_
  refine Ok.seg (j := 1) (fun _ => [(1, sl p1 0 1 1), (2, pt b1 0), (4, bF), (9, sl p1 0 1 1), (10, iw 1), (11, iw 0), (12, bT)]) (fun _ => [.blk b1 [sl p0 0 2 2, iw 3] 37]) (fun _ => []) (fun _ => []) [.g []] [1, 2, 4, 9, 10, 11, 12] rfl (fun _ => by kernel_rfl) (fun _ => trivial) (fun _ => ?_)
  refine Ok.segEnd rfl ?_
  refine Ok.thenN ?_
  refine Ok.seq ?_
  refine Ok.condT rfl ?_
  refine Ok.skip_ ?_
  refine Ok.thenN ?_
  refine Ok.seq ?_
  refine Ok.blk ?_
  refine Ok.seq ?_
  refine Ok.reg ?_
  refine Ok.seg (j := 4) (fun b4 => [(1, sl p1 0 1 1), (2, pt b1 0), (4, bF), (6, pt b4 0), (9, sl p1 0 1 1), (10, iw 1), (11, iw 0), (12, bT), (13, pt p1 0), (14, .agg #[iw 2, iw 1, iw 0])]) (fun b4 => [.blk b1 [sl p0 0 2 2, iw 3] 37, .blk b4 [iw 2, iw 1, iw 0] 24]) (fun b4 => [b4, b4, b4]) (fun b4 => [HasCell H ⟨p1, 0, none⟩ (iw 2), HasCell H ⟨p1, 1, none⟩ (iw 1), HasCell H ⟨p1, 2, none⟩ (iw 0)]) [.g [], .g [.X (iw 2), .X (iw 1), .X (iw 0)], .g [.N], .g [.K 1 0, .K 1 1, .K 1 2]] [1, 2, 4, 6, 9, 10, 11, 12, 13, 14] rfl (fun b4 => by kernel_rfl) (fun b4 => ⟨Pre.cell hp1 0 rfl, Pre.cell hp1 1 rfl, Pre.cell hp1 2 rfl, trivial⟩) (fun b4 => ?_)
  refine Ok.segEnd rfl ?_
  refine Ok.thenN ?_
  refine Ok.seq ?_
  refine Ok.reg ?_
  refine Ok.seg (j := 3) (fun _ => [(1, sl p1 0 1 1), (2, pt b1 0), (4, bF), (6, pt b4 0), (9, sl p1 0 1 1), (10, iw 1), (11, iw 0), (12, bT), (13, pt p1 0), (14, .agg #[iw 2, iw 1, iw 0]), (16, .agg #[sl p0 0 2 2, iw 3]), (17, pt b4 1), (18, iw 1)]) (fun _ => [.blk b1 [sl p0 0 2 2, iw 3] 37, .blk b4 [iw 2, iw 1, iw 0] 24]) (fun _ => [b1, b1, b4]) (fun _ => []) [.g [.K 0 0, .K 0 1], .g [], .g [.K 1 1]] [1, 2, 4, 6, 9, 10, 11, 12, 13, 14, 16, 17, 18] rfl (fun _ => by kernel_rfl) (fun _ => trivial) (fun _ => ?_)
  refine Ok.eff (j := 4) rfl (Eff.call0 (d := some 19) (by kernel_rfl) (x19_83 H p0 hp0) ?_)
  rintro v6 H7 k9 le8 rfl
  refine Ok.dropL ?_
  refine Ok.seg (j := 10) (fun b10 => [(1, sl p1 0 1 1), (2, pt b1 0), (4, bF), (6, pt b4 0), (7, pt b10 0), (8, bT), (9, sl p1 0 1 1), (10, iw 1), (11, iw 0), (12, bT), (13, pt p1 0), (14, .agg #[iw 2, iw 1, iw 0]), (15, .tuple #[.agg #[iw 1, .string ⟨#[97]⟩, iw 3, iw 0], bT]), (16, .agg #[sl p0 0 2 2, iw 3]), (17, pt b4 1), (18, iw 1), (19, .tuple #[.agg #[iw 1, .string ⟨#[97]⟩, iw 3, iw 0], bT]), (20, .agg #[iw 1, .string ⟨#[97]⟩, iw 3, iw 0]), (21, bT)]) (fun b10 => [.blk b1 [sl p0 0 2 2, iw 3] 37, .blk b4 [iw 2, iw 1, iw 0] 24, .blk b10 [iw 1, .string ⟨#[97]⟩, iw 3, iw 0] 34]) (fun b10 => [b10, b10, b10, b10]) (fun b10 => []) [.g [], .g [], .g [], .g [.N], .g [.K 2 0, .K 2 1, .K 2 2, .K 2 3], .g []] [1, 2, 4, 6, 7, 8, 9, 10, 11, 12, 13, 14, 15, 16, 17, 18, 19, 20, 21] rfl (fun b10 => by kernel_rfl) (fun b10 => trivial) (fun b10 => ?_)
  refine Ok.segEnd rfl ?_
  refine Ok.thenN ?_
  refine Ok.seq ?_
  refine Ok.reg ?_
  refine Ok.seg (j := 10) (fun _ => [(1, sl p1 0 1 1), (2, pt b1 0), (4, bF), (6, pt b4 0), (7, pt b10 0), (8, bT), (9, sl p1 0 1 1), (10, iw 1), (11, iw 0), (12, bT), (13, pt p1 0), (14, .agg #[iw 2, iw 1, iw 0]), (15, .tuple #[.agg #[iw 1, .string ⟨#[97]⟩, iw 3, iw 0], bT]), (16, .agg #[sl p0 0 2 2, iw 3]), (17, pt b4 1), (18, iw 1), (19, .tuple #[.agg #[iw 1, .string ⟨#[97]⟩, iw 3, iw 0], bT]), (20, .agg #[iw 1, .string ⟨#[97]⟩, iw 3, iw 0]), (21, bT), (22, bT), (23, bF), (24, bF), (25, pt b10 2), (26, iw 3), (27, bF), (28, bF), (29, bF), (30, .agg #[iw 2, iw 1, iw 0]), (31, .agg #[iw 1, .string ⟨#[97]⟩, iw 3, iw 0])]) (fun _ => [.blk b1 [sl p0 0 2 2, iw 3] 37, .blk b4 [iw 2, iw 1, iw 0] 24, .blk b10 [iw 1, .string ⟨#[97]⟩, iw 3, iw 0] 34]) (fun _ => [b10, b4, b4, b4, b10, b10, b10, b10]) (fun _ => []) [.g [], .g [], .g [], .g [], .g [.K 2 2], .g [], .g [], .g [], .g [.K 1 0, .K 1 1, .K 1 2], .g [.K 2 0, .K 2 1, .K 2 2, .K 2 3]] [1, 2, 4, 6, 7, 8, 9, 10, 11, 12, 13, 14, 15, 16, 17, 18, 19, 20, 21, 22, 23, 24, 25, 26, 27, 28, 29, 30, 31] rfl (fun _ => by kernel_rfl) (fun _ => trivial) (fun _ => ?_)
  refine Ok.eff (j := 11) rfl (Eff.call0 (d := some 32) (by kernel_rfl) (x20_97 H7) ?_)
  rintro v12 H13 k15 le14 rfl
  refine Ok.dropL ?_
  refine Ok.seg (j := 13) (fun _ => [(1, sl p1 0 1 1), (2, pt b1 0), (4, bF), (6, pt b4 0), (7, pt b10 0), (8, bT), (9, sl p1 0 1 1), (10, iw 1), (11, iw 0), (12, bT), (13, pt p1 0), (14, .agg #[iw 2, iw 1, iw 0]), (15, .tuple #[.agg #[iw 1, .string ⟨#[97]⟩, iw 3, iw 0], bT]), (16, .agg #[sl p0 0 2 2, iw 3]), (17, pt b4 1), (18, iw 1), (19, .tuple #[.agg #[iw 1, .string ⟨#[97]⟩, iw 3, iw 0], bT]), (20, .agg #[iw 1, .string ⟨#[97]⟩, iw 3, iw 0]), (21, bT), (22, bT), (23, bF), (24, bF), (25, pt b10 2), (26, iw 3), (27, bF), (28, bF), (29, bF), (30, .agg #[iw 2, iw 1, iw 0]), (31, .agg #[iw 1, .string ⟨#[97]⟩, iw 3, iw 0]), (32, bF), (33, bT), (34, bT)]) (fun _ => [.blk b1 [sl p0 0 2 2, iw 3] 37, .blk b4 [iw 2, iw 1, iw 0] 24, .blk b10 [iw 1, .string ⟨#[97]⟩, iw 3, iw 0] 34]) (fun _ => []) (fun _ => []) [.g [], .g []] [1, 2, 4, 6, 7, 8, 9, 10, 11, 12, 13, 14, 15, 16, 17, 18, 19, 20, 21, 22, 23, 24, 25, 26, 27, 28, 29, 30, 31, 32, 33, 34] rfl (fun _ => by kernel_rfl) (fun _ => trivial) (fun _ => ?_)
  refine Ok.segEnd rfl ?_
  refine Ok.thenN ?_
  refine Ok.condT rfl ?_
  refine Ok.seq ?_
  refine Ok.reg ?_
  refine Ok.seg (j := 1) (fun _ => [(1, sl p1 0 1 1), (2, pt b1 0), (4, bF), (6, pt b4 0), (7, pt b10 0), (8, bT), (9, sl p1 0 1 1), (10, iw 1), (11, iw 0), (12, bT), (13, pt p1 0), (14, .agg #[iw 2, iw 1, iw 0]), (15, .tuple #[.agg #[iw 1, .string ⟨#[97]⟩, iw 3, iw 0], bT]), (16, .agg #[sl p0 0 2 2, iw 3]), (17, pt b4 1), (18, iw 1), (19, .tuple #[.agg #[iw 1, .string ⟨#[97]⟩, iw 3, iw 0], bT]), (20, .agg #[iw 1, .string ⟨#[97]⟩, iw 3, iw 0]), (21, bT), (22, bT), (23, bF), (24, bF), (25, pt b10 2), (26, iw 3), (27, bF), (28, bF), (29, bF), (30, .agg #[iw 2, iw 1, iw 0]), (31, .agg #[iw 1, .string ⟨#[97]⟩, iw 3, iw 0]), (32, bF), (33, bT), (34, bT)]) (fun _ => [.blk b1 [sl p0 0 2 2, iw 3] 37, .blk b4 [iw 2, iw 1, iw 0] 24, .blk b10 [iw 1, .string ⟨#[97]⟩, iw 3, iw 0] 34]) (fun _ => []) (fun _ => []) [.g []] [1, 2, 4, 6, 7, 8, 9, 10, 11, 12, 13, 14, 15, 16, 17, 18, 19, 20, 21, 22, 23, 24, 25, 26, 27, 28, 29, 30, 31, 32, 33, 34] rfl (fun _ => by kernel_rfl) (fun _ => trivial) (fun _ => ?_)
  refine Ok.segEnd rfl ?_
  refine Ok.thenN ?_
  refine Ok.ret_ ?_
  refine Ok.blkR ?_
  refine Ok.thenR ?_
  refine Ok.thenR ?_
  refine Ok.blkR ?_
  refine Ok.thenR ?_
  refine Ok.dropAll ?_
  exact Ok.ret1 (v := bF) (SLe.trans le8 le14) rfl rfl rfl
set_option maxRecDepth 100000 in
theorem x60_102 (H : Snap) (p0 : Nat) (hp0 : Pre H p0 [iw 0]) : Does Tryd.prog 60 [.agg #[iw 1, .string ⟨#[97]⟩, iw 3, iw 0], pt p0 0] H [] (fun v H' kp => v = bF) := by
  refine Does.of Tryd.func60 rfl rfl rfl rfl (fun w0 H0 kx => ?_)
  refine Ok.seq ?_
  refine Ok.reg ?_
  refine Ok.seg (j := 2) (fun b1 => [(1, pt p0 0), (2, pt b1 0), (3, bF)]) (fun b1 => [.blk b1 [iw 1, .string ⟨#[97]⟩, iw 3, iw 0] 34]) (fun b1 => []) (fun b1 => []) [.g [.N], .g []] [1, 2, 3] rfl (fun b1 => by kernel_rfl) (fun b1 => trivial) (fun b1 => ?_)
  refine Ok.segEnd rfl ?_
  refine Ok.thenN ?_
  refine Ok.seq ?_
  refine Ok.reg ?_
  refine Ok.seg (j := 5) (fun _ => [(3, bF)]) (fun _ => [.blk b1 [iw 1, .string ⟨#[97]⟩, iw 3, iw 0] 34]) (fun _ => [b1]) (fun _ => [HasCell H ⟨p0, 0, none⟩ (iw 0)]) [.g [], .g [.K 0 0], .g [.X (iw 0)], .g [], .g []] [3] rfl (fun _ => by kernel_rfl) (fun _ => ⟨Pre.cell hp0 0 rfl, trivial⟩) (fun _ => ?_)
  refine Ok.segEnd rfl ?_
  refine Ok.thenN ?_
  refine Ok.ret_ ?_
  refine Ok.dropAll ?_
  exact Ok.ret1 (v := bF) (SLe.refl _) rfl rfl rfl
set_option maxRecDepth 100000 in
theorem x60_103 (H : Snap) (p0 : Nat) (hp0 : Pre H p0 [iw 0]) : Does Tryd.prog 60 [.agg #[iw 2, .string ⟨#[98]⟩, iw 5, iw 0], pt p0 0] H [] (fun v H' kp => v = bF) := by
  refine Does.of Tryd.func60 rfl rfl rfl rfl (fun w0 H0 kx => ?_)
  refine Ok.seq ?_
  refine Ok.reg ?_
  refine Ok.seg (j := 2) (fun b1 => [(1, pt p0 0), (2, pt b1 0), (3, bF)]) (fun b1 => [.blk b1 [iw 2, .string ⟨#[98]⟩, iw 5, iw 0] 34]) (fun b1 => []) (fun b1 => []) [.g [.N], .g []] [1, 2, 3] rfl (fun b1 => by kernel_rfl) (fun b1 => trivial) (fun b1 => ?_)
  refine Ok.segEnd rfl ?_
  refine Ok.thenN ?_
  refine Ok.seq ?_
  refine Ok.reg ?_
  refine Ok.seg (j := 5) (fun _ => [(3, bF)]) (fun _ => [.blk b1 [iw 2, .string ⟨#[98]⟩, iw 5, iw 0] 34]) (fun _ => [b1]) (fun _ => [HasCell H ⟨p0, 0, none⟩ (iw 0)]) [.g [], .g [.K 0 0], .g [.X (iw 0)], .g [], .g []] [3] rfl (fun _ => by kernel_rfl) (fun _ => ⟨Pre.cell hp0 0 rfl, trivial⟩) (fun _ => ?_)
  refine Ok.segEnd rfl ?_
  refine Ok.thenN ?_
  refine Ok.ret_ ?_
  refine Ok.dropAll ?_
  exact Ok.ret1 (v := bF) (SLe.refl _) rfl rfl rfl
set_option maxRecDepth 100000 in
theorem x59_101 (H : Snap) (p0 p1 : Nat) (hp0 : Pre H p0 [iw 1, .string ⟨#[97]⟩, iw 3, iw 0, iw 2, .string ⟨#[98]⟩, iw 5, iw 0]) (hp1 : Pre H p1 [iw 0]) : Does Tryd.prog 59 [sl p0 0 2 2, .func (.func 60) #[] #[pt p1 0]] H [] (fun v H' kp => v = iw (-1)) := by
  refine Does.of Tryd.func59 rfl rfl rfl rfl (fun w0 H0 kx => ?_)
  refine Ok.seq ?_
  refine Ok.reg ?_
  refine Ok.seg (j := 1) (fun _ => [(0, sl p0 0 2 2), (1, .func (.func 60) #[] #[pt p1 0]), (4, iw 0)]) (fun _ => []) (fun _ => []) (fun _ => []) [.g []] [0, 1, 4] rfl (fun _ => by kernel_rfl) (fun _ => trivial) (fun _ => ?_)
  refine Ok.segEnd rfl ?_
  refine Ok.thenN ?_
  refine Ok.seq ?_
  refine Ok.seq ?_
  refine Ok.reg ?_
  refine Ok.seg (j := 3) (fun _ => [(0, sl p0 0 2 2), (1, .func (.func 60) #[] #[pt p1 0]), (4, iw 0), (7, iw 2), (8, iw 0)]) (fun _ => []) (fun _ => []) (fun _ => []) [.g [], .g [], .g []] [0, 1, 4, 7, 8] rfl (fun _ => by kernel_rfl) (fun _ => trivial) (fun _ => ?_)
  refine Ok.segEnd rfl ?_
  refine Ok.thenN ?_
  refine Ok.blk ?_
  refine Ok.loopN 3 ?_
  refine Ok.round ?_
  refine Ok.seq ?_
  refine Ok.reg ?_
  refine Ok.seg (j := 1) (fun _ => [(0, sl p0 0 2 2), (1, .func (.func 60) #[] #[pt p1 0]), (4, iw 0), (7, iw 2), (8, iw 0), (9, bT)]) (fun _ => []) (fun _ => []) (fun _ => []) [.g []] [0, 1, 4, 7, 8, 9] rfl (fun _ => by kernel_rfl) (fun _ => trivial) (fun _ => ?_)
  refine Ok.segEnd rfl ?_
  refine Ok.thenN ?_
  refine Ok.seq ?_
  refine Ok.condT rfl ?_
  refine Ok.skip_ ?_
  refine Ok.thenN ?_
  refine Ok.seq ?_
  refine Ok.blk ?_
  refine Ok.seq ?_
  refine Ok.reg ?_
  refine Ok.seg (j := 2) (fun _ => [(0, sl p0 0 2 2), (1, .func (.func 60) #[] #[pt p1 0]), (4, iw 0), (5, iw 0), (7, iw 2), (8, iw 0), (9, bT), (10, iw 0)]) (fun _ => []) (fun _ => []) (fun _ => []) [.g [], .g []] [0, 1, 4, 5, 7, 8, 9, 10] rfl (fun _ => by kernel_rfl) (fun _ => trivial) (fun _ => ?_)
  refine Ok.segEnd rfl ?_
  refine Ok.thenN ?_
  refine Ok.seq ?_
  refine Ok.reg ?_
  refine Ok.seg (j := 5) (fun _ => [(0, sl p0 0 2 2), (1, .func (.func 60) #[] #[pt p1 0]), (4, iw 0), (5, iw 0), (7, iw 2), (8, iw 0), (9, bT), (10, iw 0), (11, .func (.func 60) #[] #[pt p1 0]), (12, sl p0 0 2 2), (13, iw 0), (14, pt p0 0), (15, .agg #[iw 1, .string ⟨#[97]⟩, iw 3, iw 0])]) (fun _ => []) (fun _ => []) (fun _ => [HasCell H ⟨p0, 0, none⟩ (iw 1), HasCell H ⟨p0, 1, none⟩ (.string ⟨#[97]⟩), HasCell H ⟨p0, 2, none⟩ (iw 3), HasCell H ⟨p0, 3, none⟩ (iw 0)]) [.g [], .g [], .g [], .g [], .g [.X (iw 1), .X (.string ⟨#[97]⟩), .X (iw 3), .X (iw 0)]] [0, 1, 4, 5, 7, 8, 9, 10, 11, 12, 13, 14, 15] rfl (fun _ => by kernel_rfl) (fun _ => ⟨Pre.cell hp0 0 rfl, Pre.cell hp0 1 rfl, Pre.cell hp0 2 rfl, Pre.cell hp0 3 rfl, trivial⟩) (fun _ => ?_)
  refine Ok.eff (j := 6) rfl (Eff.call0 (d := some 16) (by kernel_rfl) (x60_102 H p1 hp1) ?_)
  rintro v6 H7 k9 le8 rfl
  refine Ok.dropL ?_
  refine Ok.segEnd rfl ?_
  refine Ok.thenN ?_
  refine Ok.condF rfl ?_
  refine Ok.skip_ ?_
  refine Ok.blkN ?_
  refine Ok.thenN ?_
  refine Ok.reg ?_
  refine Ok.seg (j := 2) (fun _ => [(0, sl p0 0 2 2), (1, .func (.func 60) #[] #[pt p1 0]), (4, iw 0), (5, iw 0), (7, iw 2), (8, iw 1), (9, bT), (10, iw 0), (11, .func (.func 60) #[] #[pt p1 0]), (12, sl p0 0 2 2), (13, iw 0), (14, pt p0 0), (15, .agg #[iw 1, .string ⟨#[97]⟩, iw 3, iw 0]), (16, bF), (18, iw 1)]) (fun _ => []) (fun _ => []) (fun _ => []) [.g [], .g []] [0, 1, 4, 5, 7, 8, 9, 10, 11, 12, 13, 14, 15, 16, 18] rfl (fun _ => by kernel_rfl) (fun _ => trivial) (fun _ => ?_)
  refine Ok.segEnd rfl ?_
  refine Ok.thenN ?_
  refine Ok.round ?_
  refine Ok.seq ?_
  refine Ok.reg ?_
  refine Ok.seg (j := 1) (fun _ => [(0, sl p0 0 2 2), (1, .func (.func 60) #[] #[pt p1 0]), (4, iw 0), (5, iw 0), (7, iw 2), (8, iw 1), (9, bT), (10, iw 0), (11, .func (.func 60) #[] #[pt p1 0]), (12, sl p0 0 2 2), (13, iw 0), (14, pt p0 0), (15, .agg #[iw 1, .string ⟨#[97]⟩, iw 3, iw 0]), (16, bF), (18, iw 1)]) (fun _ => []) (fun _ => []) (fun _ => []) [.g []] [0, 1, 4, 5, 7, 8, 9, 10, 11, 12, 13, 14, 15, 16, 18] rfl (fun _ => by kernel_rfl) (fun _ => trivial) (fun _ => ?_)
  refine Ok.segEnd rfl ?_
  refine Ok.thenN ?_
  refine Ok.seq ?_
  refine Ok.condT rfl ?_
  refine Ok.skip_ ?_
  refine Ok.thenN ?_
  refine Ok.seq ?_
  refine Ok.blk ?_
  refine Ok.seq ?_
  refine Ok.reg ?_
  refine Ok.seg (j := 2) (fun _ => [(0, sl p0 0 2 2), (1, .func (.func 60) #[] #[pt p1 0]), (4, iw 0), (5, iw 1), (7, iw 2), (8, iw 1), (9, bT), (10, iw 1), (11, .func (.func 60) #[] #[pt p1 0]), (12, sl p0 0 2 2), (13, iw 0), (14, pt p0 0), (15, .agg #[iw 1, .string ⟨#[97]⟩, iw 3, iw 0]), (16, bF), (18, iw 1)]) (fun _ => []) (fun _ => []) (fun _ => []) [.g [], .g []] [0, 1, 4, 5, 7, 8, 9, 10, 11, 12, 13, 14, 15, 16, 18] rfl (fun _ => by kernel_rfl) (fun _ => trivial) (fun _ => ?_)
  refine Ok.segEnd rfl ?_
  refine Ok.thenN ?_
  refine Ok.seq ?_
  refine Ok.reg ?_
  refine Ok.seg (j := 5) (fun _ => [(0, sl p0 0 2 2), (1, .func (.func 60) #[] #[pt p1 0]), (4, iw 0), (5, iw 1), (7, iw 2), (8, iw 1), (9, bT), (10, iw 1), (11, .func (.func 60) #[] #[pt p1 0]), (12, sl p0 0 2 2), (13, iw 1), (14, pt p0 4), (15, .agg #[iw 2, .string ⟨#[98]⟩, iw 5, iw 0]), (16, bF), (18, iw 1)]) (fun _ => []) (fun _ => []) (fun _ => [HasCell H7 ⟨p0, 4, none⟩ (iw 2), HasCell H7 ⟨p0, 5, none⟩ (.string ⟨#[98]⟩), HasCell H7 ⟨p0, 6, none⟩ (iw 5), HasCell H7 ⟨p0, 7, none⟩ (iw 0)]) [.g [], .g [], .g [], .g [], .g [.X (iw 2), .X (.string ⟨#[98]⟩), .X (iw 5), .X (iw 0)]] [0, 1, 4, 5, 7, 8, 9, 10, 11, 12, 13, 14, 15, 16, 18] rfl (fun _ => by kernel_rfl) (fun _ => ⟨Pre.cell (Pre.mono le8 hp0) 4 rfl, Pre.cell (Pre.mono le8 hp0) 5 rfl, Pre.cell (Pre.mono le8 hp0) 6 rfl, Pre.cell (Pre.mono le8 hp0) 7 rfl, trivial⟩) (fun _ => ?_)
  refine Ok.eff (j := 6) rfl (Eff.call0 (d := some 16) (by kernel_rfl) (x60_103 H7 p1 (Pre.mono le8 hp1)) ?_)
  rintro v15 H16 k18 le17 rfl
  refine Ok.dropL ?_
  refine Ok.segEnd rfl ?_
  refine Ok.thenN ?_
  refine Ok.condF rfl ?_
  refine Ok.skip_ ?_
  refine Ok.blkN ?_
  refine Ok.thenN ?_
  refine Ok.reg ?_
  refine Ok.seg (j := 2) (fun _ => [(0, sl p0 0 2 2), (1, .func (.func 60) #[] #[pt p1 0]), (4, iw 0), (5, iw 1), (7, iw 2), (8, iw 2), (9, bT), (10, iw 1), (11, .func (.func 60) #[] #[pt p1 0]), (12, sl p0 0 2 2), (13, iw 1), (14, pt p0 4), (15, .agg #[iw 2, .string ⟨#[98]⟩, iw 5, iw 0]), (16, bF), (18, iw 2)]) (fun _ => []) (fun _ => []) (fun _ => []) [.g [], .g []] [0, 1, 4, 5, 7, 8, 9, 10, 11, 12, 13, 14, 15, 16, 18] rfl (fun _ => by kernel_rfl) (fun _ => trivial) (fun _ => ?_)
  refine Ok.segEnd rfl ?_
  refine Ok.thenN ?_
  refine Ok.round ?_
  refine Ok.seq ?_
  refine Ok.reg ?_
  refine Ok.seg (j := 1) (fun _ => [(0, sl p0 0 2 2), (1, .func (.func 60) #[] #[pt p1 0]), (4, iw 0), (5, iw 1), (7, iw 2), (8, iw 2), (9, bF), (10, iw 1), (11, .func (.func 60) #[] #[pt p1 0]), (12, sl p0 0 2 2), (13, iw 1), (14, pt p0 4), (15, .agg #[iw 2, .string ⟨#[98]⟩, iw 5, iw 0]), (16, bF), (18, iw 2)]) (fun _ => []) (fun _ => []) (fun _ => []) [.g []] [0, 1, 4, 5, 7, 8, 9, 10, 11, 12, 13, 14, 15, 16, 18] rfl (fun _ => by kernel_rfl) (fun _ => trivial) (fun _ => ?_)
  refine Ok.segEnd rfl ?_
  refine Ok.thenN ?_
  refine Ok.seq ?_
  refine Ok.condF rfl ?_
  refine Ok.exit_ ?_
  refine Ok.thenE ?_
  refine Ok.thenE ?_
  refine Ok.blkE ?_
  refine Ok.thenN ?_
  refine Ok.seq ?_
  refine Ok.reg ?_
  refine Ok.seg (j := 1) (fun _ => [(4, iw (-1))]) (fun _ => []) (fun _ => []) (fun _ => []) [.g []] [4] rfl (fun _ => by kernel_rfl) (fun _ => trivial) (fun _ => ?_)
  refine Ok.segEnd rfl ?_
  refine Ok.thenN ?_
  refine Ok.ret_ ?_
  exact Ok.ret1 (v := iw (-1)) (SLe.trans le8 le17) rfl rfl rfl
set_option maxRecDepth 100000 in
theorem x38_100 (H : Snap) (p0 : Nat) (hp0 : Pre H p0 [iw 1, .string ⟨#[97]⟩, iw 3, iw 0, iw 2, .string ⟨#[98]⟩, iw 5, iw 0]) : Does Tryd.prog 38 [.agg #[sl p0 0 2 2, iw 3], iw 0] H [] (fun v H' kp => v = iw (-1)) := by
  refine Does.of Tryd.func38 rfl rfl rfl rfl (fun w0 H0 kx => ?_)
  refine Ok.seq ?_
  refine Ok.reg ?_
  refine Ok.seg (j := 3) (fun b1 => [(2, pt b1 0), (3, pt (b1 + 1) 0), (4, iw 0)]) (fun b1 => [.blk b1 [sl p0 0 2 2, iw 3] 37, .blk (b1 + 1) [iw 0] 3]) (fun b1 => []) (fun b1 => []) [.g [.N], .g [.N], .g []] [2, 3, 4] rfl (fun b1 => by kernel_rfl) (fun b1 => trivial) (fun b1 => ?_)
  refine Ok.segEnd rfl ?_
  refine Ok.thenN ?_
  refine Ok.seq ?_
  refine Ok.reg ?_
  refine Ok.seg (j := 3) (fun _ => [(4, iw 0), (6, sl p0 0 2 2), (7, .func (.func 60) #[] #[pt (b1 + 1) 0])]) (fun _ => [.blk b1 [sl p0 0 2 2, iw 3] 37, .blk (b1 + 1) [iw 0] 3]) (fun _ => [b1]) (fun _ => []) [.g [], .g [.K 0 0], .g []] [4, 6, 7] rfl (fun _ => by kernel_rfl) (fun _ => trivial) (fun _ => ?_)
  refine Ok.pubP 1 rfl [.blk b1 [sl p0 0 2 2, iw 3] 37] rfl ?_
  intro H3 le4 pf5
  refine Ok.eff (j := 4) rfl (Eff.call0 (d := some 8) (by kernel_rfl) (x59_101 H3 p0 (b1 + 1) (Pre.mono le4 hp0) pf5) ?_)
  rintro v6 H7 k9 le8 rfl
  refine Ok.dropL ?_
  refine Ok.seg (j := 5) (fun _ => [(4, iw (-1))]) (fun _ => [.blk b1 [sl p0 0 2 2, iw 3] 37]) (fun _ => []) (fun _ => []) [.g []] [4] rfl (fun _ => by kernel_rfl) (fun _ => trivial) (fun _ => ?_)
  refine Ok.segEnd rfl ?_
  refine Ok.thenN ?_
  refine Ok.ret_ ?_
  refine Ok.dropAll ?_
  exact Ok.ret1 (v := iw (-1)) (SLe.trans le4 le8) rfl rfl rfl
set_option maxRecDepth 100000 in
theorem x19_99 (H : Snap) (p0 : Nat) (hp0 : Pre H p0 [iw 1, .string ⟨#[97]⟩, iw 3, iw 0, iw 2, .string ⟨#[98]⟩, iw 5, iw 0]) : Does Tryd.prog 19 [.agg #[sl p0 0 2 2, iw 3], iw 0] H [] (fun v H' kp => v = .tuple #[.agg #[iw 0, s0, iw 0, iw 0], bF]) := by
  refine Does.of Tryd.func19 rfl rfl rfl rfl (fun w0 H0 kx => ?_)
  refine Ok.seq ?_
  refine Ok.reg ?_
  refine Ok.seg (j := 3) (fun b1 => [(1, iw 0), (2, pt b1 0), (4, pt (b1 + 1) 0), (5, bF)]) (fun b1 => [.blk b1 [sl p0 0 2 2, iw 3] 37, .blk (b1 + 1) [iw 0, s0, iw 0, iw 0] 34]) (fun b1 => []) (fun b1 => []) [.g [.N], .g [.N], .g []] [1, 2, 4, 5] rfl (fun b1 => by kernel_rfl) (fun b1 => trivial) (fun b1 => ?_)
  refine Ok.segEnd rfl ?_
  refine Ok.thenN ?_
  refine Ok.seq ?_
  refine Ok.seq ?_
  refine Ok.reg ?_
  refine Ok.seg (j := 2) (fun _ => [(2, pt b1 0), (4, pt (b1 + 1) 0), (5, bF), (7, .agg #[sl p0 0 2 2, iw 3]), (8, iw 0)]) (fun _ => [.blk b1 [sl p0 0 2 2, iw 3] 37, .blk (b1 + 1) [iw 0, s0, iw 0, iw 0] 34]) (fun _ => [b1, b1]) (fun _ => []) [.g [.K 0 0, .K 0 1], .g []] [2, 4, 5, 7, 8] rfl (fun _ => by kernel_rfl) (fun _ => trivial) (fun _ => ?_)
  refine Ok.eff (j := 3) rfl (Eff.call0 (d := some 9) (by kernel_rfl) (x38_100 H p0 hp0) ?_)
  rintro v3 H4 k6 le5 rfl
  refine Ok.dropL ?_
  refine Ok.seg (j := 4) (fun _ => [(2, pt b1 0), (4, pt (b1 + 1) 0), (5, bF), (6, iw (-1))]) (fun _ => [.blk b1 [sl p0 0 2 2, iw 3] 37, .blk (b1 + 1) [iw 0, s0, iw 0, iw 0] 34]) (fun _ => []) (fun _ => []) [.g []] [2, 4, 5, 6] rfl (fun _ => by kernel_rfl) (fun _ => trivial) (fun _ => ?_)
  refine Ok.segEnd rfl ?_
  refine Ok.thenN ?_
  refine Ok.seq ?_
  refine Ok.reg ?_
  refine Ok.seg (j := 2) (fun _ => [(2, pt b1 0), (4, pt (b1 + 1) 0), (5, bF), (6, iw (-1)), (11, bF)]) (fun _ => [.blk b1 [sl p0 0 2 2, iw 3] 37, .blk (b1 + 1) [iw 0, s0, iw 0, iw 0] 34]) (fun _ => []) (fun _ => []) [.g [], .g []] [2, 4, 5, 6, 11] rfl (fun _ => by kernel_rfl) (fun _ => trivial) (fun _ => ?_)
  refine Ok.segEnd rfl ?_
  refine Ok.thenN ?_
  refine Ok.condF rfl ?_
  refine Ok.skip_ ?_
  refine Ok.thenN ?_
  refine Ok.seq ?_
  refine Ok.reg ?_
  refine Ok.seg (j := 3) (fun _ => [(4, pt (b1 + 1) 0), (5, bF)]) (fun _ => [.blk b1 [sl p0 0 2 2, iw 3] 37, .blk (b1 + 1) [iw 0, s0, iw 0, iw 0] 34]) (fun _ => [b1 + 1, b1 + 1, b1 + 1, b1 + 1]) (fun _ => []) [.g [], .g [.K 1 0, .K 1 1, .K 1 2, .K 1 3], .g []] [4, 5] rfl (fun _ => by kernel_rfl) (fun _ => trivial) (fun _ => ?_)
  refine Ok.segEnd rfl ?_
  refine Ok.thenN ?_
  refine Ok.ret_ ?_
  exact Ok.ret2c le5 [.K 1 0, .K 1 1, .K 1 2, .K 1 3] (.agg #[iw 0, s0, iw 0, iw 0]) (bF) [b1 + 1, b1 + 1, b1 + 1, b1 + 1] rfl (by kernel_rfl) rfl rfl
set_option maxRecDepth 100000 in
theorem x11_98 (H : Snap) (p0 p1 : Nat) (hp0 : Pre H p0 [iw 1, .string ⟨#[97]⟩, iw 3, iw 0, iw 2, .string ⟨#[98]⟩, iw 5, iw 0]) (hp1 : Pre H p1 [iw 0, iw 0, iw 0, iw 0, iw 0, iw 0, iw 0, iw 0, iw 0, iw 0, iw 0, iw 0, iw 0, iw 0, iw 0, iw 0, iw 0, iw 0, iw 0, iw 0, iw 0, iw 0, iw 0, iw 0, iw 0, iw 0, iw 0]) : Does Tryd.prog 11 [.agg #[sl p0 0 2 2, iw 3], sl p1 0 9 9] H [] (fun v H' kp => v = bF) := by
  refine Does.of Tryd.func11 rfl rfl rfl rfl (fun w0 H0 kx => ?_)
  refine Ok.seq ?_
  refine Ok.reg ?_
  refine Ok.seg (j := 2) (fun b1 => [(1, sl p1 0 9 9), (2, pt b1 0), (4, bF)]) (fun b1 => [.blk b1 [sl p0 0 2 2, iw 3] 37]) (fun b1 => []) (fun b1 => []) [.g [.N], .g []] [1, 2, 4] rfl (fun b1 => by kernel_rfl) (fun b1 => trivial) (fun b1 => ?_)
  refine Ok.segEnd rfl ?_
  refine Ok.thenN ?_
  refine Ok.seq ?_
  refine Ok.seq ?_
  refine Ok.reg ?_
  refine Ok.seg (j := 3) (fun _ => [(1, sl p1 0 9 9), (2, pt b1 0), (4, bF), (9, sl p1 0 9 9), (10, iw 9), (11, iw 0)]) (fun _ => [.blk b1 [sl p0 0 2 2, iw 3] 37]) (fun _ => []) (fun _ => []) [.g [], .g [], .g []] [1, 2, 4, 9, 10, 11] rfl (fun _ => by kernel_rfl) (fun _ => trivial) (fun _ => ?_)
  refine Ok.segEnd rfl ?_
  refine Ok.thenN ?_
  refine Ok.blk ?_
  refine Ok.loopN 1 ?_
  refine Ok.round ?_
  refine Ok.seq ?_
  refine Ok.reg ?_
  refine Ok.seg (j := 1) (fun _ => [(1, sl p1 0 9 9), (2, pt b1 0), (4, bF), (9, sl p1 0 9 9), (10, iw 9), (11, iw 0), (12, bT)]) (fun _ => [.blk b1 [sl p0 0 2 2, iw 3] 37]) (fun _ => []) (fun _ => []) [.g []] [1, 2, 4, 9, 10, 11, 12] rfl (fun _ => by kernel_rfl) (fun _ => trivial) (fun _ => ?_)
  refine Ok.segEnd rfl ?_
  refine Ok.thenN ?_
  refine Ok.seq ?_
  refine Ok.condT rfl ?_
  refine Ok.skip_ ?_
  refine Ok.thenN ?_
  refine Ok.seq ?_
  refine Ok.blk ?_
  refine Ok.seq ?_
  refine Ok.reg ?_
  refine Ok.seg (j := 4) (fun b4 => [(1, sl p1 0 9 9), (2, pt b1 0), (4, bF), (6, pt b4 0), (9, sl p1 0 9 9), (10, iw 9), (11, iw 0), (12, bT), (13, pt p1 0), (14, .agg #[iw 0, iw 0, iw 0])]) (fun b4 => [.blk b1 [sl p0 0 2 2, iw 3] 37, .blk b4 [iw 0, iw 0, iw 0] 24]) (fun b4 => [b4, b4, b4]) (fun b4 => [HasCell H ⟨p1, 0, none⟩ (iw 0), HasCell H ⟨p1, 1, none⟩ (iw 0), HasCell H ⟨p1, 2, none⟩ (iw 0)]) [.g [], .g [.X (iw 0), .X (iw 0), .X (iw 0)], .g [.N], .g [.K 1 0, .K 1 1, .K 1 2]] [1, 2, 4, 6, 9, 10, 11, 12, 13, 14] rfl (fun b4 => by kernel_rfl) (fun b4 => ⟨Pre.cell hp1 0 rfl, Pre.cell hp1 1 rfl, Pre.cell hp1 2 rfl, trivial⟩) (fun b4 => ?_)
  refine Ok.segEnd rfl ?_
  refine Ok.thenN ?_
  refine Ok.seq ?_
  refine Ok.reg ?_
  refine Ok.seg (j := 3) (fun _ => [(1, sl p1 0 9 9), (2, pt b1 0), (4, bF), (6, pt b4 0), (9, sl p1 0 9 9), (10, iw 9), (11, iw 0), (12, bT), (13, pt p1 0), (14, .agg #[iw 0, iw 0, iw 0]), (16, .agg #[sl p0 0 2 2, iw 3]), (17, pt b4 1), (18, iw 0)]) (fun _ => [.blk b1 [sl p0 0 2 2, iw 3] 37, .blk b4 [iw 0, iw 0, iw 0] 24]) (fun _ => [b1, b1, b4]) (fun _ => []) [.g [.K 0 0, .K 0 1], .g [], .g [.K 1 1]] [1, 2, 4, 6, 9, 10, 11, 12, 13, 14, 16, 17, 18] rfl (fun _ => by kernel_rfl) (fun _ => trivial) (fun _ => ?_)
  refine Ok.eff (j := 4) rfl (Eff.call0 (d := some 19) (by kernel_rfl) (x19_99 H p0 hp0) ?_)
  rintro v6 H7 k9 le8 rfl
  refine Ok.dropL ?_
  refine Ok.seg (j := 10) (fun b10 => [(1, sl p1 0 9 9), (2, pt b1 0), (4, bF), (6, pt b4 0), (7, pt b10 0), (8, bF), (9, sl p1 0 9 9), (10, iw 9), (11, iw 0), (12, bT), (13, pt p1 0), (14, .agg #[iw 0, iw 0, iw 0]), (15, .tuple #[.agg #[iw 0, s0, iw 0, iw 0], bF]), (16, .agg #[sl p0 0 2 2, iw 3]), (17, pt b4 1), (18, iw 0), (19, .tuple #[.agg #[iw 0, s0, iw 0, iw 0], bF]), (20, .agg #[iw 0, s0, iw 0, iw 0]), (21, bF)]) (fun b10 => [.blk b1 [sl p0 0 2 2, iw 3] 37, .blk b4 [iw 0, iw 0, iw 0] 24, .blk b10 [iw 0, s0, iw 0, iw 0] 34]) (fun b10 => [b10, b10, b10, b10]) (fun b10 => []) [.g [], .g [], .g [], .g [.N], .g [.K 2 0, .K 2 1, .K 2 2, .K 2 3], .g []] [1, 2, 4, 6, 7, 8, 9, 10, 11, 12, 13, 14, 15, 16, 17, 18, 19, 20, 21] rfl (fun b10 => by kernel_rfl) (fun b10 => trivial) (fun b10 => ?_)
  refine Ok.segEnd rfl ?_
  refine Ok.thenN ?_
  refine Ok.seq ?_
  refine Ok.reg ?_
  refine Ok.seg (j := 13) (fun _ => [(1, sl p1 0 9 9), (2, pt b1 0), (4, bF), (6, pt b4 0), (7, pt b10 0), (8, bF), (9, sl p1 0 9 9), (10, iw 9), (11, iw 0), (12, bT), (13, pt p1 0), (14, .agg #[iw 0, iw 0, iw 0]), (15, .tuple #[.agg #[iw 0, s0, iw 0, iw 0], bF]), (16, .agg #[sl p0 0 2 2, iw 3]), (17, pt b4 1), (18, iw 0), (19, .tuple #[.agg #[iw 0, s0, iw 0, iw 0], bF]), (20, .agg #[iw 0, s0, iw 0, iw 0]), (21, bF), (22, bF), (23, bT), (24, bT), (25, undef), (26, undef), (27, undef), (28, bT), (29, bT), (30, undef), (31, undef), (32, undef), (33, undef), (34, bT)]) (fun _ => [.blk b1 [sl p0 0 2 2, iw 3] 37, .blk b4 [iw 0, iw 0, iw 0] 24, .blk b10 [iw 0, s0, iw 0, iw 0] 34]) (fun _ => []) (fun _ => []) [.g [], .g [], .g [], .g [], .g [], .g [], .g [], .g [], .g [], .g [], .g [], .g [], .g []] [1, 2, 4, 6, 7, 8, 9, 10, 11, 12, 13, 14, 15, 16, 17, 18, 19, 20, 21, 22, 23, 24, 25, 26, 27, 28, 29, 30, 31, 32, 33, 34] rfl (fun _ => by kernel_rfl) (fun _ => trivial) (fun _ => ?_)
  refine Ok.segEnd rfl ?_
  refine Ok.thenN ?_
  refine Ok.condT rfl ?_
  refine Ok.seq ?_
  refine Ok.reg ?_
  refine Ok.seg (j := 1) (fun _ => [(1, sl p1 0 9 9), (2, pt b1 0), (4, bF), (6, pt b4 0), (7, pt b10 0), (8, bF), (9, sl p1 0 9 9), (10, iw 9), (11, iw 0), (12, bT), (13, pt p1 0), (14, .agg #[iw 0, iw 0, iw 0]), (15, .tuple #[.agg #[iw 0, s0, iw 0, iw 0], bF]), (16, .agg #[sl p0 0 2 2, iw 3]), (17, pt b4 1), (18, iw 0), (19, .tuple #[.agg #[iw 0, s0, iw 0, iw 0], bF]), (20, .agg #[iw 0, s0, iw 0, iw 0]), (21, bF), (22, bF), (23, bT), (24, bT), (25, undef), (26, undef), (27, undef), (28, bT), (29, bT), (30, undef), (31, undef), (32, undef), (33, undef), (34, bT)]) (fun _ => [.blk b1 [sl p0 0 2 2, iw 3] 37, .blk b4 [iw 0, iw 0, iw 0] 24, .blk b10 [iw 0, s0, iw 0, iw 0] 34]) (fun _ => []) (fun _ => []) [.g []] [1, 2, 4, 6, 7, 8, 9, 10, 11, 12, 13, 14, 15, 16, 17, 18, 19, 20, 21, 22, 23, 24, 25, 26, 27, 28, 29, 30, 31, 32, 33, 34] rfl (fun _ => by kernel_rfl) (fun _ => trivial) (fun _ => ?_)
  refine Ok.segEnd rfl ?_
  refine Ok.thenN ?_
  refine Ok.ret_ ?_
  refine Ok.blkR ?_
  refine Ok.thenR ?_
  refine Ok.thenR ?_
  refine Ok.blkR ?_
  refine Ok.thenR ?_
  refine Ok.dropAll ?_
  exact Ok.ret1 (v := bF) le8 rfl rfl rfl
set_option maxRecDepth 100000 in
theorem x6_104 (H : Snap) : Does Tryd.prog 6 [iw 5] H [] (fun v H' kp => ∃ r0 : Nat, v = .agg #[sl r0 0 1 1] ∧ Pre H' r0 [iw 1, bF, iw 5, s0]) := by
  refine Does.of Tryd.func6 rfl rfl rfl rfl (fun w0 H0 kx => ?_)
  refine Ok.seq ?_
  refine Ok.reg ?_
  refine Ok.seg (j := 1) (fun b1 => [(0, iw 5), (2, pt b1 0)]) (fun b1 => [.blk b1 [n0] 30]) (fun b1 => []) (fun b1 => []) [.g [.N]] [0, 2] rfl (fun b1 => by kernel_rfl) (fun b1 => trivial) (fun b1 => ?_)
  refine Ok.segEnd rfl ?_
  refine Ok.thenN ?_
  refine Ok.seq ?_
  refine Ok.reg ?_
  refine Ok.seg (j := 6) (fun b2 => [(2, pt b1 0)]) (fun b2 => [.blk b1 [sl b2 0 1 1] 30, .blk b2 [iw 1, bF, iw 5, s0] 39]) (fun b2 => [b1]) (fun b2 => []) [.g [], .g [], .g [], .g [.N], .g [], .g [.K 0 0]] [2] rfl (fun b2 => by kernel_rfl) (fun b2 => trivial) (fun b2 => ?_)
  refine Ok.segEnd rfl ?_
  refine Ok.thenN ?_
  refine Ok.ret_ ?_
  refine Ok.pubP 1 rfl [.blk b1 [sl b2 0 1 1] 30] rfl ?_
  intro H3 le4 pf5
  exact Ok.ret1c le4 [.K 0 0] (.agg #[sl b2 0 1 1]) [b1] rfl (by kernel_rfl) ⟨b2, rfl, pf5⟩
set_option maxRecDepth 100000 in
theorem x6_105 (H : Snap) : Does Tryd.prog 6 [iw 12] H [] (fun v H' kp => ∃ r0 : Nat, v = .agg #[sl r0 0 1 1] ∧ Pre H' r0 [iw 1, bF, iw 12, s0]) := by
  refine Does.of Tryd.func6 rfl rfl rfl rfl (fun w0 H0 kx => ?_)
  refine Ok.seq ?_
  refine Ok.reg ?_
  refine Ok.seg (j := 1) (fun b1 => [(0, iw 12), (2, pt b1 0)]) (fun b1 => [.blk b1 [n0] 30]) (fun b1 => []) (fun b1 => []) [.g [.N]] [0, 2] rfl (fun b1 => by kernel_rfl) (fun b1 => trivial) (fun b1 => ?_)
  refine Ok.segEnd rfl ?_
  refine Ok.thenN ?_
  refine Ok.seq ?_
  refine Ok.reg ?_
  refine Ok.seg (j := 6) (fun b2 => [(2, pt b1 0)]) (fun b2 => [.blk b1 [sl b2 0 1 1] 30, .blk b2 [iw 1, bF, iw 12, s0] 39]) (fun b2 => [b1]) (fun b2 => []) [.g [], .g [], .g [], .g [.N], .g [], .g [.K 0 0]] [2] rfl (fun b2 => by kernel_rfl) (fun b2 => trivial) (fun b2 => ?_)
  refine Ok.segEnd rfl ?_
  refine Ok.thenN ?_
  refine Ok.ret_ ?_
  refine Ok.pubP 1 rfl [.blk b1 [sl b2 0 1 1] 30] rfl ?_
  intro H3 le4 pf5
  exact Ok.ret1c le4 [.K 0 0] (.agg #[sl b2 0 1 1]) [b1] rfl (by kernel_rfl) ⟨b2, rfl, pf5⟩
set_option maxRecDepth 100000 in
theorem x62_109 (H : Snap) (p0 : Nat) (c0 : Nat) (hp0 : Pre H p0 [.int .u8 1]) : Does Tryd.prog 62 [sl p0 0 1 c0, iw 10] H [] (fun v H' kp => ∃ o0 : Nat, v = sl o0 0 1 11 ∧ kp = [.blk o0 [.int .u8 1, .int .u8 0, .int .u8 0, .int .u8 0, .int .u8 0, .int .u8 0, .int .u8 0, .int .u8 0, .int .u8 0, .int .u8 0, .int .u8 0] 5]) := by
  refine Does.of Tryd.func62 rfl rfl rfl rfl (fun w0 H0 kx => ?_)
  refine Ok.seq ?_
  refine Ok.reg ?_
  refine Ok.seg (j := 1) (fun _ => [(0, sl p0 0 1 c0), (1, iw 10), (4, n0)]) (fun _ => []) (fun _ => []) (fun _ => []) [.g []] [0, 1, 4] rfl (fun _ => by kernel_rfl) (fun _ => trivial) (fun _ => ?_)
  refine Ok.segEnd rfl ?_
  refine Ok.thenN ?_
  refine Ok.seq ?_
  refine Ok.reg ?_
  refine Ok.seg (j := 8) (fun b2 => [(0, sl p0 0 1 c0), (4, n0), (5, sl b2 0 1 11)]) (fun b2 => [.blk b2 [.int .u8 0, .int .u8 0, .int .u8 0, .int .u8 0, .int .u8 0, .int .u8 0, .int .u8 0, .int .u8 0, .int .u8 0, .int .u8 0, .int .u8 0] 5]) (fun b2 => []) (fun b2 => []) [.g [], .g [], .g [], .g [], .g [], .g [], .g [.N], .g []] [0, 4, 5] rfl (fun b2 => by kernel_rfl) (fun b2 => trivial) (fun b2 => ?_)
  refine Ok.segEnd rfl ?_
  refine Ok.thenN ?_
  refine Ok.seq ?_
  refine Ok.reg ?_
  refine Ok.seg (j := 3) (fun _ => [(4, n0), (5, sl b2 0 1 11)]) (fun _ => [.blk b2 [.int .u8 1, .int .u8 0, .int .u8 0, .int .u8 0, .int .u8 0, .int .u8 0, .int .u8 0, .int .u8 0, .int .u8 0, .int .u8 0, .int .u8 0] 5]) (fun _ => [b2]) (fun _ => [HasCell H ⟨p0, 0, none⟩ (.int .u8 1)]) [.g [], .g [], .g [.X (.int .u8 1), .K 0 0]] [4, 5] rfl (fun _ => by kernel_rfl) (fun _ => ⟨Pre.cell hp0 0 rfl, trivial⟩) (fun _ => ?_)
  refine Ok.segEnd rfl ?_
  refine Ok.thenN ?_
  refine Ok.seq ?_
  refine Ok.reg ?_
  refine Ok.seg (j := 2) (fun _ => [(4, sl b2 0 1 11)]) (fun _ => [.blk b2 [.int .u8 1, .int .u8 0, .int .u8 0, .int .u8 0, .int .u8 0, .int .u8 0, .int .u8 0, .int .u8 0, .int .u8 0, .int .u8 0, .int .u8 0] 5]) (fun _ => []) (fun _ => []) [.g [], .g []] [4] rfl (fun _ => by kernel_rfl) (fun _ => trivial) (fun _ => ?_)
  refine Ok.segEnd rfl ?_
  refine Ok.thenN ?_
  refine Ok.ret_ ?_
  exact Ok.ret1 (v := sl b2 0 1 11) (SLe.refl _) rfl rfl ⟨b2, rfl, rfl⟩
set_option maxRecDepth 100000 in
theorem x61_110 (H : Snap) (p0 : Nat) : Does Tryd.prog 61 [sl p0 0 1 11, .int .u64 20] H [.blk p0 [.int .u8 1, .int .u8 0, .int .u8 0, .int .u8 0, .int .u8 0, .int .u8 0, .int .u8 0, .int .u8 0, .int .u8 0, .int .u8 0, .int .u8 0] 5] (fun v H' kp => v = sl p0 0 2 11 ∧ kp = [.blk p0 [.int .u8 1, .int .u8 20, .int .u8 0, .int .u8 0, .int .u8 0, .int .u8 0, .int .u8 0, .int .u8 0, .int .u8 0, .int .u8 0, .int .u8 0] 5]) := by
  refine Does.of Tryd.func61 rfl rfl rfl rfl (fun w0 H0 kx => ?_)
  refine Ok.seq ?_
  refine Ok.reg ?_
  refine Ok.seg (j := 1) (fun _ => [(0, sl p0 0 1 11), (1, .int .u64 20), (4, n0)]) (fun _ => [.blk p0 [.int .u8 1, .int .u8 0, .int .u8 0, .int .u8 0, .int .u8 0, .int .u8 0, .int .u8 0, .int .u8 0, .int .u8 0, .int .u8 0, .int .u8 0] 5]) (fun _ => []) (fun _ => []) [.g []] [0, 1, 4] rfl (fun _ => by kernel_rfl) (fun _ => trivial) (fun _ => ?_)
  refine Ok.segEnd rfl ?_
  refine Ok.thenN ?_
  refine Ok.seq ?_
  refine Ok.blk ?_
  refine Ok.loopN 1 ?_
  refine Ok.round ?_
  refine Ok.seq ?_
  refine Ok.seq ?_
  refine Ok.reg ?_
  refine Ok.seg (j := 2) (fun _ => [(0, sl p0 0 1 11), (1, .int .u64 20), (4, n0), (5, .int .u64 20), (6, bF)]) (fun _ => [.blk p0 [.int .u8 1, .int .u8 0, .int .u8 0, .int .u8 0, .int .u8 0, .int .u8 0, .int .u8 0, .int .u8 0, .int .u8 0, .int .u8 0, .int .u8 0] 5]) (fun _ => []) (fun _ => []) [.g [], .g []] [0, 1, 4, 5, 6] rfl (fun _ => by kernel_rfl) (fun _ => trivial) (fun _ => ?_)
  refine Ok.segEnd rfl ?_
  refine Ok.thenN ?_
  refine Ok.condF rfl ?_
  refine Ok.exit_ ?_
  refine Ok.thenE ?_
  refine Ok.thenE ?_
  refine Ok.blkE ?_
  refine Ok.thenN ?_
  refine Ok.seq ?_
  refine Ok.reg ?_
  refine Ok.seg (j := 6) (fun b3 => [(4, sl p0 0 2 11)]) (fun b3 => [.blk p0 [.int .u8 1, .int .u8 20, .int .u8 0, .int .u8 0, .int .u8 0, .int .u8 0, .int .u8 0, .int .u8 0, .int .u8 0, .int .u8 0, .int .u8 0] 5, .blk b3 [.int .u8 20] 5]) (fun b3 => [b3, p0]) (fun b3 => []) [.g [], .g [], .g [], .g [.N], .g [.K 1 0, .K 0 1], .g []] [4] rfl (fun b3 => by kernel_rfl) (fun b3 => trivial) (fun b3 => ?_)
  refine Ok.segEnd rfl ?_
  refine Ok.thenN ?_
  refine Ok.ret_ ?_
  refine Ok.drop 1 rfl [.blk p0 [.int .u8 1, .int .u8 20, .int .u8 0, .int .u8 0, .int .u8 0, .int .u8 0, .int .u8 0, .int .u8 0, .int .u8 0, .int .u8 0, .int .u8 0] 5] rfl ?_
  exact Ok.ret1 (v := sl p0 0 2 11) (SLe.refl _) rfl rfl ⟨rfl, rfl⟩
end Go.Proofs.YtldanodmjilfaaaDoor
