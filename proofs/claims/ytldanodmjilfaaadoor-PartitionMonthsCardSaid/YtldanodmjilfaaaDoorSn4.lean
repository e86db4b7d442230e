/- Contracts of functions at the arguments that the fixed examples meet: printed by a program of this claim's author. -/
import Derived.Test.YtldanodmjilfaaaDoorProg
import Derived.Test.YtldanodmjilfaaaDoorSn3
set_option linter.unusedVariables false
set_option maxHeartbeats 4000000
namespace Go.Proofs.YtldanodmjilfaaaDoor
open Go Go.RowKit Sx
set_option maxRecDepth 100000 in
theorem x40_108 (H : Snap) (p0 : Nat) (c0 : Nat) (hp0 : Pre H p0 [.int .u8 1]) : Does Tryd.prog 40 [sl p0 0 1 c0, .int .u64 20] H [] (fun v H' kp => ∃ o0 : Nat, v = sl o0 0 2 11 ∧ kp = [.blk o0 [.int .u8 1, .int .u8 20, .int .u8 0, .int .u8 0, .int .u8 0, .int .u8 0, .int .u8 0, .int .u8 0, .int .u8 0, .int .u8 0, .int .u8 0] 5]) := by
  refine Does.of Tryd.func40 rfl rfl rfl rfl (fun w0 H0 kx => ?_)
  refine Ok.seq ?_
  refine Ok.reg ?_
  refine Ok.seg (j := 1) (fun _ => [(0, sl p0 0 1 c0), (1, .int .u64 20), (4, n0)]) (fun _ => []) (fun _ => []) (fun _ => []) [.g []] [0, 1, 4] rfl (fun _ => by kernel_rfl) (fun _ => trivial) (fun _ => ?_)
  refine Ok.segEnd rfl ?_
  refine Ok.thenN ?_
  refine Ok.seq ?_
  refine Ok.reg ?_
  refine Ok.seg (j := 1) (fun _ => [(1, .int .u64 20), (4, n0), (5, sl p0 0 1 c0)]) (fun _ => []) (fun _ => []) (fun _ => []) [.g []] [1, 4, 5] rfl (fun _ => by kernel_rfl) (fun _ => trivial) (fun _ => ?_)
  refine Ok.eff (j := 2) rfl (Eff.call0 (d := some 6) (by kernel_rfl) (x62_109 H p0 c0 hp0) ?_)
  rintro v3 H4 k6 le5 ⟨q7, rfl, rfl⟩
  refine Ok.seg (j := 3) (fun _ => [(4, n0), (6, sl q7 0 1 11), (7, .int .u64 20)]) (fun _ => [.blk q7 [.int .u8 1, .int .u8 0, .int .u8 0, .int .u8 0, .int .u8 0, .int .u8 0, .int .u8 0, .int .u8 0, .int .u8 0, .int .u8 0, .int .u8 0] 5]) (fun _ => []) (fun _ => []) [.g []] [4, 6, 7] rfl (fun _ => by kernel_rfl) (fun _ => trivial) (fun _ => ?_)
  refine Ok.eff (j := 4) rfl (Eff.call (d := some 8) (kp := [.blk q7 [.int .u8 1, .int .u8 0, .int .u8 0, .int .u8 0, .int .u8 0, .int .u8 0, .int .u8 0, .int .u8 0, .int .u8 0, .int .u8 0, .int .u8 0] 5]) (kr := []) (by kernel_rfl) (perm1 0 rfl rfl) (x61_110 H4 q7) ?_)
  rintro v9 H10 k12 le11 ⟨rfl, rfl⟩
  refine Ok.seg (j := 5) (fun _ => [(4, sl q7 0 2 11)]) (fun _ => [.blk q7 [.int .u8 1, .int .u8 20, .int .u8 0, .int .u8 0, .int .u8 0, .int .u8 0, .int .u8 0, .int .u8 0, .int .u8 0, .int .u8 0, .int .u8 0] 5]) (fun _ => []) (fun _ => []) [.g []] [4] rfl (fun _ => by kernel_rfl) (fun _ => trivial) (fun _ => ?_)
  refine Ok.segEnd rfl ?_
  refine Ok.thenN ?_
  refine Ok.ret_ ?_
  exact Ok.ret1 (v := sl q7 0 2 11) (SLe.trans le5 le11) rfl rfl ⟨q7, rfl, rfl⟩
set_option maxRecDepth 100000 in
theorem x22_107 (H : Snap) (p0 : Nat) (c0 : Nat) (hp0 : Pre H p0 [.int .u8 1]) : Does Tryd.prog 22 [sl p0 0 1 c0, iw 10] H [] (fun v H' kp => ∃ o0 : Nat, v = sl o0 0 2 11 ∧ kp = [.blk o0 [.int .u8 1, .int .u8 20, .int .u8 0, .int .u8 0, .int .u8 0, .int .u8 0, .int .u8 0, .int .u8 0, .int .u8 0, .int .u8 0, .int .u8 0] 5]) := by
  refine Does.of Tryd.func22 rfl rfl rfl rfl (fun w0 H0 kx => ?_)
  refine Ok.seq ?_
  refine Ok.reg ?_
  refine Ok.seg (j := 1) (fun _ => [(0, sl p0 0 1 c0), (1, iw 10), (4, n0)]) (fun _ => []) (fun _ => []) (fun _ => []) [.g []] [0, 1, 4] rfl (fun _ => by kernel_rfl) (fun _ => trivial) (fun _ => ?_)
  refine Ok.segEnd rfl ?_
  refine Ok.thenN ?_
  refine Ok.seq ?_
  refine Ok.reg ?_
  refine Ok.seg (j := 8) (fun _ => [(4, n0), (5, sl p0 0 1 c0), (12, .int .u64 20)]) (fun _ => []) (fun _ => []) (fun _ => []) [.g [], .g [], .g [], .g [], .g [], .g [], .g [], .g []] [4, 5, 12] rfl (fun _ => by kernel_rfl) (fun _ => trivial) (fun _ => ?_)
  refine Ok.eff (j := 9) rfl (Eff.call0 (d := some 13) (by kernel_rfl) (x40_108 H p0 c0 hp0) ?_)
  rintro v3 H4 k6 le5 ⟨q7, rfl, rfl⟩
  refine Ok.seg (j := 10) (fun _ => [(4, sl q7 0 2 11)]) (fun _ => [.blk q7 [.int .u8 1, .int .u8 20, .int .u8 0, .int .u8 0, .int .u8 0, .int .u8 0, .int .u8 0, .int .u8 0, .int .u8 0, .int .u8 0, .int .u8 0] 5]) (fun _ => []) (fun _ => []) [.g []] [4] rfl (fun _ => by kernel_rfl) (fun _ => trivial) (fun _ => ?_)
  refine Ok.segEnd rfl ?_
  refine Ok.thenN ?_
  refine Ok.ret_ ?_
  exact Ok.ret1 (v := sl q7 0 2 11) le5 rfl rfl ⟨q7, rfl, rfl⟩
set_option maxRecDepth 100000 in
theorem x62_113 (H : Snap) (p0 : Nat) (hp0 : Pre H p0 [.int .u8 1, .int .u8 20, .int .u8 0, .int .u8 0, .int .u8 0, .int .u8 0, .int .u8 0, .int .u8 0, .int .u8 0, .int .u8 0, .int .u8 0]) : Does Tryd.prog 62 [sl p0 0 2 11, iw 10] H [] (fun v H' kp => ∃ o0 : Nat, v = sl o0 0 2 12 ∧ kp = [.blk o0 [.int .u8 1, .int .u8 20, .int .u8 0, .int .u8 0, .int .u8 0, .int .u8 0, .int .u8 0, .int .u8 0, .int .u8 0, .int .u8 0, .int .u8 0, .int .u8 0] 5]) := by
  refine Does.of Tryd.func62 rfl rfl rfl rfl (fun w0 H0 kx => ?_)
  refine Ok.seq ?_
  refine Ok.reg ?_
  refine Ok.seg (j := 1) (fun _ => [(0, sl p0 0 2 11), (1, iw 10), (4, n0)]) (fun _ => []) (fun _ => []) (fun _ => []) [.g []] [0, 1, 4] rfl (fun _ => by kernel_rfl) (fun _ => trivial) (fun _ => ?_)
  refine Ok.segEnd rfl ?_
  refine Ok.thenN ?_
  refine Ok.seq ?_
  refine Ok.reg ?_
  refine Ok.seg (j := 8) (fun b2 => [(0, sl p0 0 2 11), (4, n0), (5, sl b2 0 2 12)]) (fun b2 => [.blk b2 [.int .u8 0, .int .u8 0, .int .u8 0, .int .u8 0, .int .u8 0, .int .u8 0, .int .u8 0, .int .u8 0, .int .u8 0, .int .u8 0, .int .u8 0, .int .u8 0] 5]) (fun b2 => []) (fun b2 => []) [.g [], .g [], .g [], .g [], .g [], .g [], .g [.N], .g []] [0, 4, 5] rfl (fun b2 => by kernel_rfl) (fun b2 => trivial) (fun b2 => ?_)
  refine Ok.segEnd rfl ?_
  refine Ok.thenN ?_
  refine Ok.seq ?_
  refine Ok.reg ?_
  refine Ok.seg (j := 3) (fun _ => [(4, n0), (5, sl b2 0 2 12)]) (fun _ => [.blk b2 [.int .u8 1, .int .u8 20, .int .u8 0, .int .u8 0, .int .u8 0, .int .u8 0, .int .u8 0, .int .u8 0, .int .u8 0, .int .u8 0, .int .u8 0, .int .u8 0] 5]) (fun _ => [b2, b2]) (fun _ => [HasCell H ⟨p0, 0, none⟩ (.int .u8 1), HasCell H ⟨p0, 1, none⟩ (.int .u8 20)]) [.g [], .g [], .g [.X (.int .u8 1), .X (.int .u8 20), .K 0 0, .K 0 1]] [4, 5] rfl (fun _ => by kernel_rfl) (fun _ => ⟨Pre.cell hp0 0 rfl, Pre.cell hp0 1 rfl, trivial⟩) (fun _ => ?_)
  refine Ok.segEnd rfl ?_
  refine Ok.thenN ?_
  refine Ok.seq ?_
  refine Ok.reg ?_
  refine Ok.seg (j := 2) (fun _ => [(4, sl b2 0 2 12)]) (fun _ => [.blk b2 [.int .u8 1, .int .u8 20, .int .u8 0, .int .u8 0, .int .u8 0, .int .u8 0, .int .u8 0, .int .u8 0, .int .u8 0, .int .u8 0, .int .u8 0, .int .u8 0] 5]) (fun _ => []) (fun _ => []) [.g [], .g []] [4] rfl (fun _ => by kernel_rfl) (fun _ => trivial) (fun _ => ?_)
  refine Ok.segEnd rfl ?_
  refine Ok.thenN ?_
  refine Ok.ret_ ?_
  exact Ok.ret1 (v := sl b2 0 2 12) (SLe.refl _) rfl rfl ⟨b2, rfl, rfl⟩
set_option maxRecDepth 100000 in
theorem x61_114 (H : Snap) (p0 : Nat) : Does Tryd.prog 61 [sl p0 0 2 12, .int .u64 0] H [.blk p0 [.int .u8 1, .int .u8 20, .int .u8 0, .int .u8 0, .int .u8 0, .int .u8 0, .int .u8 0, .int .u8 0, .int .u8 0, .int .u8 0, .int .u8 0, .int .u8 0] 5] (fun v H' kp => v = sl p0 0 3 12 ∧ kp = [.blk p0 [.int .u8 1, .int .u8 20, .int .u8 0, .int .u8 0, .int .u8 0, .int .u8 0, .int .u8 0, .int .u8 0, .int .u8 0, .int .u8 0, .int .u8 0, .int .u8 0] 5]) := by
  refine Does.of Tryd.func61 rfl rfl rfl rfl (fun w0 H0 kx => ?_)
  refine Ok.seq ?_
  refine Ok.reg ?_
  refine Ok.seg (j := 1) (fun _ => [(0, sl p0 0 2 12), (1, .int .u64 0), (4, n0)]) (fun _ => [.blk p0 [.int .u8 1, .int .u8 20, .int .u8 0, .int .u8 0, .int .u8 0, .int .u8 0, .int .u8 0, .int .u8 0, .int .u8 0, .int .u8 0, .int .u8 0, .int .u8 0] 5]) (fun _ => []) (fun _ => []) [.g []] [0, 1, 4] rfl (fun _ => by kernel_rfl) (fun _ => trivial) (fun _ => ?_)
  refine Ok.segEnd rfl ?_
  refine Ok.thenN ?_
  refine Ok.seq ?_
  refine Ok.blk ?_
  refine Ok.loopN 1 ?_
  refine Ok.round ?_
  refine Ok.seq ?_
  refine Ok.seq ?_
  refine Ok.reg ?_
  refine Ok.seg (j := 2) (fun _ => [(0, sl p0 0 2 12), (1, .int .u64 0), (4, n0), (5, .int .u64 0), (6, bF)]) (fun _ => [.blk p0 [.int .u8 1, .int .u8 20, .int .u8 0, .int .u8 0, .int .u8 0, .int .u8 0, .int .u8 0, .int .u8 0, .int .u8 0, .int .u8 0, .int .u8 0, .int .u8 0] 5]) (fun _ => []) (fun _ => []) [.g [], .g []] [0, 1, 4, 5, 6] rfl (fun _ => by kernel_rfl) (fun _ => trivial) (fun _ => ?_)
  refine Ok.segEnd rfl ?_
  refine Ok.thenN ?_
  refine Ok.condF rfl ?_
  refine Ok.exit_ ?_
  refine Ok.thenE ?_
  refine Ok.thenE ?_
  refine Ok.blkE ?_
  refine Ok.thenN ?_
  refine Ok.seq ?_
  refine Ok.reg ?_
  refine Ok.seg (j := 6) (fun b3 => [(4, sl p0 0 3 12)]) (fun b3 => [.blk p0 [.int .u8 1, .int .u8 20, .int .u8 0, .int .u8 0, .int .u8 0, .int .u8 0, .int .u8 0, .int .u8 0, .int .u8 0, .int .u8 0, .int .u8 0, .int .u8 0] 5, .blk b3 [.int .u8 0] 5]) (fun b3 => [b3, p0]) (fun b3 => []) [.g [], .g [], .g [], .g [.N], .g [.K 1 0, .K 0 2], .g []] [4] rfl (fun b3 => by kernel_rfl) (fun b3 => trivial) (fun b3 => ?_)
  refine Ok.segEnd rfl ?_
  refine Ok.thenN ?_
  refine Ok.ret_ ?_
  refine Ok.drop 1 rfl [.blk p0 [.int .u8 1, .int .u8 20, .int .u8 0, .int .u8 0, .int .u8 0, .int .u8 0, .int .u8 0, .int .u8 0, .int .u8 0, .int .u8 0, .int .u8 0, .int .u8 0] 5] rfl ?_
  exact Ok.ret1 (v := sl p0 0 3 12) (SLe.refl _) rfl rfl ⟨rfl, rfl⟩
set_option maxRecDepth 100000 in
theorem x39_112 (H : Snap) (p0 : Nat) (hp0 : Pre H p0 [.int .u8 1, .int .u8 20, .int .u8 0, .int .u8 0, .int .u8 0, .int .u8 0, .int .u8 0, .int .u8 0, .int .u8 0, .int .u8 0, .int .u8 0]) : Does Tryd.prog 39 [sl p0 0 2 11, s0] H [] (fun v H' kp => ∃ o0 : Nat, v = sl o0 0 3 12 ∧ kp = [.blk o0 [.int .u8 1, .int .u8 20, .int .u8 0, .int .u8 0, .int .u8 0, .int .u8 0, .int .u8 0, .int .u8 0, .int .u8 0, .int .u8 0, .int .u8 0, .int .u8 0] 5]) := by
  refine Does.of Tryd.func39 rfl rfl rfl rfl (fun w0 H0 kx => ?_)
  refine Ok.seq ?_
  refine Ok.reg ?_
  refine Ok.seg (j := 1) (fun _ => [(0, sl p0 0 2 11), (1, s0), (4, n0)]) (fun _ => []) (fun _ => []) (fun _ => []) [.g []] [0, 1, 4] rfl (fun _ => by kernel_rfl) (fun _ => trivial) (fun _ => ?_)
  refine Ok.segEnd rfl ?_
  refine Ok.thenN ?_
  refine Ok.seq ?_
  refine Ok.reg ?_
  refine Ok.seg (j := 4) (fun _ => [(1, s0), (4, n0), (6, sl p0 0 2 11), (9, iw 10)]) (fun _ => []) (fun _ => []) (fun _ => []) [.g [], .g [], .g [], .g []] [1, 4, 6, 9] rfl (fun _ => by kernel_rfl) (fun _ => trivial) (fun _ => ?_)
  refine Ok.eff (j := 5) rfl (Eff.call0 (d := some 10) (by kernel_rfl) (x62_113 H p0 hp0) ?_)
  rintro v3 H4 k6 le5 ⟨q7, rfl, rfl⟩
  refine Ok.seg (j := 8) (fun _ => [(1, s0), (4, n0), (10, sl q7 0 2 12), (13, .int .u64 0)]) (fun _ => [.blk q7 [.int .u8 1, .int .u8 20, .int .u8 0, .int .u8 0, .int .u8 0, .int .u8 0, .int .u8 0, .int .u8 0, .int .u8 0, .int .u8 0, .int .u8 0, .int .u8 0] 5]) (fun _ => []) (fun _ => []) [.g [], .g [], .g []] [1, 4, 10, 13] rfl (fun _ => by kernel_rfl) (fun _ => trivial) (fun _ => ?_)
  refine Ok.eff (j := 9) rfl (Eff.call (d := some 14) (kp := [.blk q7 [.int .u8 1, .int .u8 20, .int .u8 0, .int .u8 0, .int .u8 0, .int .u8 0, .int .u8 0, .int .u8 0, .int .u8 0, .int .u8 0, .int .u8 0, .int .u8 0] 5]) (kr := []) (by kernel_rfl) (perm1 0 rfl rfl) (x61_114 H4 q7) ?_)
  rintro v9 H10 k12 le11 ⟨rfl, rfl⟩
  refine Ok.seg (j := 10) (fun _ => [(1, s0), (4, n0), (5, sl q7 0 3 12)]) (fun _ => [.blk q7 [.int .u8 1, .int .u8 20, .int .u8 0, .int .u8 0, .int .u8 0, .int .u8 0, .int .u8 0, .int .u8 0, .int .u8 0, .int .u8 0, .int .u8 0, .int .u8 0] 5]) (fun _ => []) (fun _ => []) [.g []] [1, 4, 5] rfl (fun _ => by kernel_rfl) (fun _ => trivial) (fun _ => ?_)
  refine Ok.segEnd rfl ?_
  refine Ok.thenN ?_
  refine Ok.seq ?_
  refine Ok.reg ?_
  refine Ok.seg (j := 4) (fun _ => [(4, sl q7 0 3 12)]) (fun _ => [.blk q7 [.int .u8 1, .int .u8 20, .int .u8 0, .int .u8 0, .int .u8 0, .int .u8 0, .int .u8 0, .int .u8 0, .int .u8 0, .int .u8 0, .int .u8 0, .int .u8 0] 5]) (fun _ => []) (fun _ => []) [.g [], .g [], .g [], .g []] [4] rfl (fun _ => by kernel_rfl) (fun _ => trivial) (fun _ => ?_)
  refine Ok.segEnd rfl ?_
  refine Ok.thenN ?_
  refine Ok.ret_ ?_
  exact Ok.ret1 (v := sl q7 0 3 12) (SLe.trans le5 le11) rfl rfl ⟨q7, rfl, rfl⟩
set_option maxRecDepth 100000 in
theorem x21_111 (H : Snap) (p0 : Nat) (hp0 : Pre H p0 [.int .u8 1, .int .u8 20, .int .u8 0, .int .u8 0, .int .u8 0, .int .u8 0, .int .u8 0, .int .u8 0, .int .u8 0, .int .u8 0, .int .u8 0]) : Does Tryd.prog 21 [sl p0 0 2 11, s0] H [] (fun v H' kp => ∃ o0 : Nat, v = sl o0 0 3 12 ∧ kp = [.blk o0 [.int .u8 1, .int .u8 20, .int .u8 0, .int .u8 0, .int .u8 0, .int .u8 0, .int .u8 0, .int .u8 0, .int .u8 0, .int .u8 0, .int .u8 0, .int .u8 0] 5]) := by
  refine Does.of Tryd.func21 rfl rfl rfl rfl (fun w0 H0 kx => ?_)
  refine Ok.seq ?_
  refine Ok.reg ?_
  refine Ok.seg (j := 1) (fun _ => [(0, sl p0 0 2 11), (1, s0), (4, n0)]) (fun _ => []) (fun _ => []) (fun _ => []) [.g []] [0, 1, 4] rfl (fun _ => by kernel_rfl) (fun _ => trivial) (fun _ => ?_)
  refine Ok.segEnd rfl ?_
  refine Ok.thenN ?_
  refine Ok.seq ?_
  refine Ok.reg ?_
  refine Ok.seg (j := 2) (fun _ => [(4, n0), (5, sl p0 0 2 11), (6, s0)]) (fun _ => []) (fun _ => []) (fun _ => []) [.g [], .g []] [4, 5, 6] rfl (fun _ => by kernel_rfl) (fun _ => trivial) (fun _ => ?_)
  refine Ok.eff (j := 3) rfl (Eff.call0 (d := some 7) (by kernel_rfl) (x39_112 H p0 hp0) ?_)
  rintro v3 H4 k6 le5 ⟨q7, rfl, rfl⟩
  refine Ok.seg (j := 4) (fun _ => [(4, sl q7 0 3 12)]) (fun _ => [.blk q7 [.int .u8 1, .int .u8 20, .int .u8 0, .int .u8 0, .int .u8 0, .int .u8 0, .int .u8 0, .int .u8 0, .int .u8 0, .int .u8 0, .int .u8 0, .int .u8 0] 5]) (fun _ => []) (fun _ => []) [.g []] [4] rfl (fun _ => by kernel_rfl) (fun _ => trivial) (fun _ => ?_)
  refine Ok.segEnd rfl ?_
  refine Ok.thenN ?_
  refine Ok.ret_ ?_
  exact Ok.ret1 (v := sl q7 0 3 12) le5 rfl rfl ⟨q7, rfl, rfl⟩
set_option maxRecDepth 100000 in
theorem x30_116 (H : Snap) (p0 : Nat) (hp0 : Pre H p0 [iw 1, bF, iw 5, s0]) : Does Tryd.prog 30 [.agg #[sl p0 0 1 1], iw 1] H [] (fun v H' kp => v = .agg #[bF, iw 5, s0]) := by
  refine Does.of Tryd.func30 rfl rfl rfl rfl (fun w0 H0 kx => ?_)
  refine Ok.seq ?_
  refine Ok.reg ?_
  refine Ok.seg (j := 2) (fun b1 => [(1, iw 1), (2, pt b1 0), (4, pt (b1 + 1) 0)]) (fun b1 => [.blk b1 [sl p0 0 1 1] 30, .blk (b1 + 1) [bF, iw 0, s0] 26]) (fun b1 => []) (fun b1 => []) [.g [.N], .g [.N]] [1, 2, 4] rfl (fun b1 => by kernel_rfl) (fun b1 => trivial) (fun b1 => ?_)
  refine Ok.segEnd rfl ?_
  refine Ok.thenN ?_
  refine Ok.seq ?_
  refine Ok.seq ?_
  refine Ok.reg ?_
  refine Ok.seg (j := 4) (fun _ => [(1, iw 1), (4, pt (b1 + 1) 0), (8, sl p0 0 1 1), (9, iw 1), (10, iw 0)]) (fun _ => [.blk b1 [sl p0 0 1 1] 30, .blk (b1 + 1) [bF, iw 0, s0] 26]) (fun _ => [b1]) (fun _ => []) [.g [], .g [.K 0 0], .g [], .g []] [1, 4, 8, 9, 10] rfl (fun _ => by kernel_rfl) (fun _ => trivial) (fun _ => ?_)
  refine Ok.segEnd rfl ?_
  refine Ok.thenN ?_
  refine Ok.blk ?_
  refine Ok.loopN 1 ?_
  refine Ok.round ?_
  refine Ok.seq ?_
  refine Ok.reg ?_
  refine Ok.seg (j := 1) (fun _ => [(1, iw 1), (4, pt (b1 + 1) 0), (8, sl p0 0 1 1), (9, iw 1), (10, iw 0), (11, bT)]) (fun _ => [.blk b1 [sl p0 0 1 1] 30, .blk (b1 + 1) [bF, iw 0, s0] 26]) (fun _ => []) (fun _ => []) [.g []] [1, 4, 8, 9, 10, 11] rfl (fun _ => by kernel_rfl) (fun _ => trivial) (fun _ => ?_)
  refine Ok.segEnd rfl ?_
  refine Ok.thenN ?_
  refine Ok.seq ?_
  refine Ok.condT rfl ?_
  refine Ok.skip_ ?_
  refine Ok.thenN ?_
  refine Ok.seq ?_
  refine Ok.blk ?_
  refine Ok.seq ?_
  refine Ok.reg ?_
  refine Ok.seg (j := 4) (fun b4 => [(1, iw 1), (4, pt (b1 + 1) 0), (6, pt b4 0), (8, sl p0 0 1 1), (9, iw 1), (10, iw 0), (11, bT), (12, pt p0 0), (13, .agg #[iw 1, bF, iw 5, s0])]) (fun b4 => [.blk b1 [sl p0 0 1 1] 30, .blk (b1 + 1) [bF, iw 0, s0] 26, .blk b4 [iw 1, bF, iw 5, s0] 39]) (fun b4 => [b4, b4, b4, b4]) (fun b4 => [HasCell H ⟨p0, 0, none⟩ (iw 1), HasCell H ⟨p0, 1, none⟩ (bF), HasCell H ⟨p0, 2, none⟩ (iw 5), HasCell H ⟨p0, 3, none⟩ (s0)]) [.g [], .g [.X (iw 1), .X (bF), .X (iw 5), .X (s0)], .g [.N], .g [.K 2 0, .K 2 1, .K 2 2, .K 2 3]] [1, 4, 6, 8, 9, 10, 11, 12, 13] rfl (fun b4 => by kernel_rfl) (fun b4 => ⟨Pre.cell hp0 0 rfl, Pre.cell hp0 1 rfl, Pre.cell hp0 2 rfl, Pre.cell hp0 3 rfl, trivial⟩) (fun b4 => ?_)
  refine Ok.segEnd rfl ?_
  refine Ok.thenN ?_
  refine Ok.seq ?_
  refine Ok.reg ?_
  refine Ok.seg (j := 4) (fun _ => [(1, iw 1), (4, pt (b1 + 1) 0), (6, pt b4 0), (8, sl p0 0 1 1), (9, iw 1), (10, iw 0), (11, bT), (12, pt p0 0), (13, .agg #[iw 1, bF, iw 5, s0]), (14, pt b4 0), (15, iw 1), (16, iw 1), (17, bT)]) (fun _ => [.blk b1 [sl p0 0 1 1] 30, .blk (b1 + 1) [bF, iw 0, s0] 26, .blk b4 [iw 1, bF, iw 5, s0] 39]) (fun _ => [b4]) (fun _ => []) [.g [], .g [.K 2 0], .g [], .g []] [1, 4, 6, 8, 9, 10, 11, 12, 13, 14, 15, 16, 17] rfl (fun _ => by kernel_rfl) (fun _ => trivial) (fun _ => ?_)
  refine Ok.segEnd rfl ?_
  refine Ok.thenN ?_
  refine Ok.condT rfl ?_
  refine Ok.seq ?_
  refine Ok.reg ?_
  refine Ok.seg (j := 3) (fun _ => [(1, iw 1), (4, pt (b1 + 1) 0), (6, pt b4 0), (8, sl p0 0 1 1), (9, iw 1), (10, iw 0), (11, bT), (12, pt p0 0), (13, .agg #[iw 1, bF, iw 5, s0]), (14, pt b4 0), (15, iw 1), (16, iw 1), (17, bT), (18, pt b4 1), (19, .agg #[bF, iw 5, s0])]) (fun _ => [.blk b1 [sl p0 0 1 1] 30, .blk (b1 + 1) [bF, iw 5, s0] 26, .blk b4 [iw 1, bF, iw 5, s0] 39]) (fun _ => [b4, b4, b4, b1 + 1, b1 + 1, b1 + 1]) (fun _ => []) [.g [], .g [.K 2 1, .K 2 2, .K 2 3], .g [.K 1 0, .K 1 1, .K 1 2]] [1, 4, 6, 8, 9, 10, 11, 12, 13, 14, 15, 16, 17, 18, 19] rfl (fun _ => by kernel_rfl) (fun _ => trivial) (fun _ => ?_)
  refine Ok.segEnd rfl ?_
  refine Ok.thenN ?_
  refine Ok.ret_ ?_
  refine Ok.blkR ?_
  refine Ok.thenR ?_
  refine Ok.thenR ?_
  refine Ok.blkR ?_
  refine Ok.thenR ?_
  exact Ok.ret1c (SLe.refl _) [.K 1 0, .K 1 1, .K 1 2] (.agg #[bF, iw 5, s0]) [b1 + 1, b1 + 1, b1 + 1] rfl (by kernel_rfl) rfl
set_option maxRecDepth 100000 in
theorem x54_118 (H : Snap) : Does Tryd.prog 54 [iw 5, iw 10] H [] (fun v H' kp => v = iw 0) := by
  refine Does.of Tryd.func54 rfl rfl rfl rfl (fun w0 H0 kx => ?_)
  refine Ok.seq ?_
  refine Ok.reg ?_
  refine Ok.seg (j := 1) (fun _ => [(0, iw 5), (1, iw 10), (4, iw 0)]) (fun _ => []) (fun _ => []) (fun _ => []) [.g []] [0, 1, 4] rfl (fun _ => by kernel_rfl) (fun _ => trivial) (fun _ => ?_)
  refine Ok.segEnd rfl ?_
  refine Ok.thenN ?_
  refine Ok.seq ?_
  refine Ok.reg ?_
  refine Ok.seg (j := 4) (fun _ => [(0, iw 5), (1, iw 10), (4, iw 0), (5, iw 5)]) (fun _ => []) (fun _ => []) (fun _ => []) [.g [], .g [], .g [], .g []] [0, 1, 4, 5] rfl (fun _ => by kernel_rfl) (fun _ => trivial) (fun _ => ?_)
  refine Ok.segEnd rfl ?_
  refine Ok.thenN ?_
  refine Ok.seq ?_
  refine Ok.seq ?_
  refine Ok.reg ?_
  refine Ok.seg (j := 2) (fun _ => [(0, iw 5), (1, iw 10), (4, iw 0), (5, iw 5), (10, bF)]) (fun _ => []) (fun _ => []) (fun _ => []) [.g [], .g []] [0, 1, 4, 5, 10] rfl (fun _ => by kernel_rfl) (fun _ => trivial) (fun _ => ?_)
  refine Ok.segEnd rfl ?_
  refine Ok.thenN ?_
  refine Ok.condF rfl ?_
  refine Ok.skip_ ?_
  refine Ok.thenN ?_
  refine Ok.seq ?_
  refine Ok.seq ?_
  refine Ok.reg ?_
  refine Ok.seg (j := 4) (fun _ => [(0, iw 5), (4, iw 0), (5, iw 5), (17, bF)]) (fun _ => []) (fun _ => []) (fun _ => []) [.g [], .g [], .g [], .g []] [0, 4, 5, 17] rfl (fun _ => by kernel_rfl) (fun _ => trivial) (fun _ => ?_)
  refine Ok.segEnd rfl ?_
  refine Ok.thenN ?_
  refine Ok.condF rfl ?_
  refine Ok.skip_ ?_
  refine Ok.thenN ?_
  refine Ok.seq ?_
  refine Ok.reg ?_
  refine Ok.seg (j := 4) (fun _ => [(4, iw 0)]) (fun _ => []) (fun _ => []) (fun _ => []) [.g [], .g [], .g [], .g []] [4] rfl (fun _ => by kernel_rfl) (fun _ => trivial) (fun _ => ?_)
  refine Ok.segEnd rfl ?_
  refine Ok.thenN ?_
  refine Ok.ret_ ?_
  exact Ok.ret1 (v := iw 0) (SLe.refl _) rfl rfl rfl
set_option maxRecDepth 100000 in
theorem x29_117 (H : Snap) : Does Tryd.prog 29 [.agg #[iw 3, iw 1, iw 10], .agg #[bF, iw 5, s0]] H [] (fun v H' kp => v = .agg #[bF, iw 0, s0]) := by
  refine Does.of Tryd.func29 rfl rfl rfl rfl (fun w0 H0 kx => ?_)
  refine Ok.seq ?_
  refine Ok.reg ?_
  refine Ok.seg (j := 3) (fun b1 => [(2, pt b1 0), (3, pt (b1 + 1) 0), (4, pt (b1 + 1 + 1) 0)]) (fun b1 => [.blk b1 [iw 3, iw 1, iw 10] 24, .blk (b1 + 1) [bF, iw 5, s0] 26, .blk (b1 + 1 + 1) [bF, iw 0, s0] 26]) (fun b1 => []) (fun b1 => []) [.g [.N], .g [.N], .g [.N]] [2, 3, 4] rfl (fun b1 => by kernel_rfl) (fun b1 => trivial) (fun b1 => ?_)
  refine Ok.segEnd rfl ?_
  refine Ok.thenN ?_
  refine Ok.seq ?_
  refine Ok.seq ?_
  refine Ok.reg ?_
  refine Ok.seg (j := 2) (fun _ => [(2, pt b1 0), (3, pt (b1 + 1) 0), (4, pt (b1 + 1 + 1) 0), (10, bF)]) (fun _ => [.blk b1 [iw 3, iw 1, iw 10] 24, .blk (b1 + 1) [bF, iw 5, s0] 26, .blk (b1 + 1 + 1) [bF, iw 0, s0] 26]) (fun _ => [b1 + 1]) (fun _ => []) [.g [], .g [.K 1 0]] [2, 3, 4, 10] rfl (fun _ => by kernel_rfl) (fun _ => trivial) (fun _ => ?_)
  refine Ok.segEnd rfl ?_
  refine Ok.thenN ?_
  refine Ok.condF rfl ?_
  refine Ok.skip_ ?_
  refine Ok.thenN ?_
  refine Ok.seq ?_
  refine Ok.seq ?_
  refine Ok.reg ?_
  refine Ok.seg (j := 2) (fun _ => [(2, pt b1 0), (3, pt (b1 + 1) 0), (4, pt (b1 + 1 + 1) 0), (13, iw 3)]) (fun _ => [.blk b1 [iw 3, iw 1, iw 10] 24, .blk (b1 + 1) [bF, iw 5, s0] 26, .blk (b1 + 1 + 1) [bF, iw 0, s0] 26]) (fun _ => [b1]) (fun _ => []) [.g [], .g [.K 0 0]] [2, 3, 4, 13] rfl (fun _ => by kernel_rfl) (fun _ => trivial) (fun _ => ?_)
  refine Ok.segEnd rfl ?_
  refine Ok.thenN ?_
  refine Ok.blk ?_
  refine Ok.seq ?_
  refine Ok.reg ?_
  refine Ok.seg (j := 2) (fun _ => [(2, pt b1 0), (3, pt (b1 + 1) 0), (4, pt (b1 + 1 + 1) 0), (13, iw 3), (14, bF)]) (fun _ => [.blk b1 [iw 3, iw 1, iw 10] 24, .blk (b1 + 1) [bF, iw 5, s0] 26, .blk (b1 + 1 + 1) [bF, iw 0, s0] 26]) (fun _ => []) (fun _ => []) [.g [], .g []] [2, 3, 4, 13, 14] rfl (fun _ => by kernel_rfl) (fun _ => trivial) (fun _ => ?_)
  refine Ok.segEnd rfl ?_
  refine Ok.thenN ?_
  refine Ok.condF rfl ?_
  refine Ok.seq ?_
  refine Ok.reg ?_
  refine Ok.seg (j := 2) (fun _ => [(2, pt b1 0), (3, pt (b1 + 1) 0), (4, pt (b1 + 1 + 1) 0), (13, iw 3), (45, bT)]) (fun _ => [.blk b1 [iw 3, iw 1, iw 10] 24, .blk (b1 + 1) [bF, iw 5, s0] 26, .blk (b1 + 1 + 1) [bF, iw 0, s0] 26]) (fun _ => []) (fun _ => []) [.g [], .g []] [2, 3, 4, 13, 45] rfl (fun _ => by kernel_rfl) (fun _ => trivial) (fun _ => ?_)
  refine Ok.segEnd rfl ?_
  refine Ok.thenN ?_
  refine Ok.condT rfl ?_
  refine Ok.seq ?_
  refine Ok.start (idx := [0, 1]) [] [.blk b1 [iw 3, iw 1, iw 10] 24, .blk (b1 + 1) [bF, iw 5, s0] 26] (by kernel_rfl) rfl rfl rfl ?_
  refine Ok.take (fuel' := 3) (l' := [true, true, true, true, false, true, true, true, true, true, true, true, true, true, false, false]) (qs := [(0, .g []), (1, .g [.K 1 1]), (2, .g []), (3, .g [.K 0 2]), (5, .g []), (6, .g [.K 1 2]), (7, .g []), (8, .g [.K 0 2]), (9, .g []), (10, .g [.K 1 2]), (11, .g []), (12, .g []), (13, .g [])]) [(3, pt (b1 + 1) 0), (4, pt (b1 + 1 + 1) 0), (48, iw 5), (50, iw 10), (60, s0)] [b1 + 1, b1, b1 + 1, b1, b1 + 1] [] [3, 4, 48, 50, 60] (by intro c a w d v h; cases d <;> exact h) (by kernel_rfl) rfl trivial ?_
  refine Ok.one (i := 4) (fuel' := 2) (l' := [true, true, true, true, true, true, true, true, true, true, true, true, true, true, false, false]) (by kernel_rfl) rfl rfl (Eff.call0 (d := some 51) (by kernel_rfl) (x54_118 H) ?_)
  rintro v6 H7 k9 le8 rfl
  refine Ok.dropL ?_
  refine Ok.withS (idx := [0, 1]) le8 rfl ?_
  refine Ok.take (fuel' := 1) (l' := [true, true, true, true, true, true, true, true, true, true, true, true, true, true, true, false]) (qs := [(14, .g [])]) [(3, pt (b1 + 1) 0), (4, pt (b1 + 1 + 1) 0), (61, .agg #[bF, iw 0, s0])] [] [] [3, 4, 61] (by intro c a w d v h; cases d <;> exact h) (by kernel_rfl) rfl trivial ?_
  refine Ok.one (i := 15) (fuel' := 0) (l' := [true, true, true, true, true, true, true, true, true, true, true, true, true, true, true, true]) (by kernel_rfl) rfl rfl (Eff.op (.g [.K 2 0, .K 2 1, .K 2 2]) (fun _ => [(3, pt (b1 + 1) 0), (4, pt (b1 + 1 + 1) 0)]) (fun _ => [.blk b1 [iw 3, iw 1, iw 10] 24, .blk (b1 + 1) [bF, iw 5, s0] 26, .blk (b1 + 1 + 1) [bF, iw 0, s0] 26]) (fun _ => [b1 + 1 + 1, b1 + 1 + 1, b1 + 1 + 1]) (fun _ => []) [3, 4] (fun _ => by kernel_rfl) (fun _ => trivial) (fun _ => ?_))
  refine Ok.withS (idx := [0, 1]) le8 rfl ?_
  refine Ok.done (by kernel_rfl) ?_
  refine Ok.thenN ?_
  refine Ok.ret_ ?_
  refine Ok.blkR ?_
  refine Ok.thenR ?_
  exact Ok.ret1c le8 [.K 2 0, .K 2 1, .K 2 2] (.agg #[bF, iw 0, s0]) [b1 + 1 + 1, b1 + 1 + 1, b1 + 1 + 1] rfl (by kernel_rfl) rfl
set_option maxRecDepth 100000 in
theorem x15_115 (H : Snap) (p0 p1 : Nat) (hp0 : Pre H p0 [iw 3, iw 1, iw 10]) (hp1 : Pre H p1 [iw 1, bF, iw 5, s0]) : Does Tryd.prog 15 [sl p0 0 1 1, .agg #[sl p1 0 1 1]] H [] (fun v H' kp => ∃ r0 : Nat, v = sl r0 0 1 1 ∧ Pre H' r0 [bF, iw 0, s0]) := by
  refine Does.of Tryd.func15 rfl rfl rfl rfl (fun w0 H0 kx => ?_)
  refine Ok.seq ?_
  refine Ok.reg ?_
  refine Ok.seg (j := 2) (fun b1 => [(0, sl p0 0 1 1), (3, pt b1 0), (4, n0)]) (fun b1 => [.blk b1 [sl p1 0 1 1] 30]) (fun b1 => []) (fun b1 => []) [.g [.N], .g []] [0, 3, 4] rfl (fun b1 => by kernel_rfl) (fun b1 => trivial) (fun b1 => ?_)
  refine Ok.segEnd rfl ?_
  refine Ok.thenN ?_
  refine Ok.seq ?_
  refine Ok.reg ?_
  refine Ok.seg (j := 4) (fun b2 => [(0, sl p0 0 1 1), (3, pt b1 0), (4, n0), (5, sl b2 0 1 1)]) (fun b2 => [.blk b1 [sl p1 0 1 1] 30, .blk b2 [bF, iw 0, s0] 26]) (fun b2 => []) (fun b2 => []) [.g [], .g [], .g [.N], .g []] [0, 3, 4, 5] rfl (fun b2 => by kernel_rfl) (fun b2 => trivial) (fun b2 => ?_)
  refine Ok.segEnd rfl ?_
  refine Ok.thenN ?_
  refine Ok.seq ?_
  refine Ok.seq ?_
  refine Ok.reg ?_
  refine Ok.seg (j := 3) (fun _ => [(3, pt b1 0), (4, n0), (5, sl b2 0 1 1), (11, sl p0 0 1 1), (12, iw 1), (13, iw 0)]) (fun _ => [.blk b1 [sl p1 0 1 1] 30, .blk b2 [bF, iw 0, s0] 26]) (fun _ => []) (fun _ => []) [.g [], .g [], .g []] [3, 4, 5, 11, 12, 13] rfl (fun _ => by kernel_rfl) (fun _ => trivial) (fun _ => ?_)
  refine Ok.segEnd rfl ?_
  refine Ok.thenN ?_
  refine Ok.blk ?_
  refine Ok.loopN 2 ?_
  refine Ok.round ?_
  refine Ok.seq ?_
  refine Ok.reg ?_
  refine Ok.seg (j := 1) (fun _ => [(3, pt b1 0), (4, n0), (5, sl b2 0 1 1), (11, sl p0 0 1 1), (12, iw 1), (13, iw 0), (14, bT)]) (fun _ => [.blk b1 [sl p1 0 1 1] 30, .blk b2 [bF, iw 0, s0] 26]) (fun _ => []) (fun _ => []) [.g []] [3, 4, 5, 11, 12, 13, 14] rfl (fun _ => by kernel_rfl) (fun _ => trivial) (fun _ => ?_)
  refine Ok.segEnd rfl ?_
  refine Ok.thenN ?_
  refine Ok.seq ?_
  refine Ok.condT rfl ?_
  refine Ok.skip_ ?_
  refine Ok.thenN ?_
  refine Ok.seq ?_
  refine Ok.blk ?_
  refine Ok.seq ?_
  refine Ok.reg ?_
  refine Ok.seg (j := 6) (fun b5 => [(3, pt b1 0), (4, n0), (5, sl b2 0 1 1), (6, iw 0), (7, pt b5 0), (11, sl p0 0 1 1), (12, iw 1), (13, iw 0), (14, bT), (15, iw 0), (16, pt p0 0), (17, .agg #[iw 3, iw 1, iw 10])]) (fun b5 => [.blk b1 [sl p1 0 1 1] 30, .blk b2 [bF, iw 0, s0] 26, .blk b5 [iw 3, iw 1, iw 10] 24]) (fun b5 => [b5, b5, b5]) (fun b5 => [HasCell H ⟨p0, 0, none⟩ (iw 3), HasCell H ⟨p0, 1, none⟩ (iw 1), HasCell H ⟨p0, 2, none⟩ (iw 10)]) [.g [], .g [], .g [.X (iw 3), .X (iw 1), .X (iw 10)], .g [.N], .g [], .g [.K 2 0, .K 2 1, .K 2 2]] [3, 4, 5, 6, 7, 11, 12, 13, 14, 15, 16, 17] rfl (fun b5 => by kernel_rfl) (fun b5 => ⟨Pre.cell hp0 0 rfl, Pre.cell hp0 1 rfl, Pre.cell hp0 2 rfl, trivial⟩) (fun b5 => ?_)
  refine Ok.segEnd rfl ?_
  refine Ok.thenN ?_
  refine Ok.start (idx := [0, 2]) [] [.blk b1 [sl p1 0 1 1] 30, .blk b5 [iw 3, iw 1, iw 10] 24] (by kernel_rfl) rfl rfl rfl ?_
  refine Ok.take (fuel' := 4) (l' := [true, true, true, true, true, true, false, false, false, false]) (qs := [(0, .g []), (1, .g []), (2, .g [.K 1 0, .K 1 1, .K 1 2]), (3, .g [.K 0 0]), (4, .g []), (5, .g [.K 1 1])]) [(3, pt b1 0), (4, n0), (5, sl b2 0 1 1), (6, iw 0), (7, pt b5 0), (11, sl p0 0 1 1), (12, iw 1), (13, iw 0), (14, bT), (15, iw 0), (16, pt p0 0), (17, .agg #[iw 3, iw 1, iw 10]), (18, sl b2 0 1 1), (19, iw 0), (20, .agg #[iw 3, iw 1, iw 10]), (21, .agg #[sl p1 0 1 1]), (22, pt b5 1), (23, iw 1)] [b5, b5, b5, b1, b5] [] [3, 4, 5, 6, 7, 11, 12, 13, 14, 15, 16, 17, 18, 19, 20, 21, 22, 23] (by intro c a w d v h; cases d <;> exact h) (by kernel_rfl) rfl trivial ?_
  refine Ok.one (i := 6) (fuel' := 3) (l' := [true, true, true, true, true, true, true, false, false, false]) (by kernel_rfl) rfl rfl (Eff.call0 (d := some 24) (by kernel_rfl) (x30_116 H p1 hp1) ?_)
  rintro v6 H7 k9 le8 rfl
  refine Ok.dropL ?_
  refine Ok.withS (idx := [0, 2]) le8 rfl ?_
  refine Ok.one (i := 7) (fuel' := 2) (l' := [true, true, true, true, true, true, true, true, false, false]) (by kernel_rfl) rfl rfl (Eff.call0 (d := some 25) (by kernel_rfl) (x29_117 H7) ?_)
  rintro v10 H11 k13 le12 rfl
  refine Ok.dropL ?_
  refine Ok.withS (idx := [0, 2]) (SLe.trans le8 le12) rfl ?_
  refine Ok.take (fuel' := 1) (l' := [true, true, true, true, true, true, true, true, true, false]) (qs := [(8, .g [])]) [(3, pt b1 0), (4, n0), (5, sl b2 0 1 1), (6, iw 0), (7, pt b5 0), (11, sl p0 0 1 1), (12, iw 1), (13, iw 0), (14, bT), (15, iw 0), (16, pt p0 0), (17, .agg #[iw 3, iw 1, iw 10]), (18, sl b2 0 1 1), (19, iw 0), (20, .agg #[iw 3, iw 1, iw 10]), (21, .agg #[sl p1 0 1 1]), (22, pt b5 1), (23, iw 1), (24, .agg #[bF, iw 5, s0]), (25, .agg #[bF, iw 0, s0]), (26, pt b2 0)] [] [] [3, 4, 5, 6, 7, 11, 12, 13, 14, 15, 16, 17, 18, 19, 20, 21, 22, 23, 24, 25, 26] (by intro c a w d v h; cases d <;> exact h) (by kernel_rfl) rfl trivial ?_
  refine Ok.one (i := 9) (fuel' := 0) (l' := [true, true, true, true, true, true, true, true, true, true]) (by kernel_rfl) rfl rfl (Eff.op (.g [.K 1 0, .K 1 1, .K 1 2]) (fun _ => [(3, pt b1 0), (4, n0), (5, sl b2 0 1 1), (6, iw 0), (7, pt b5 0), (11, sl p0 0 1 1), (12, iw 1), (13, iw 0), (14, bT), (15, iw 0), (16, pt p0 0), (17, .agg #[iw 3, iw 1, iw 10]), (18, sl b2 0 1 1), (19, iw 0), (20, .agg #[iw 3, iw 1, iw 10]), (21, .agg #[sl p1 0 1 1]), (22, pt b5 1), (23, iw 1), (24, .agg #[bF, iw 5, s0]), (25, .agg #[bF, iw 0, s0]), (26, pt b2 0)]) (fun _ => [.blk b1 [sl p1 0 1 1] 30, .blk b2 [bF, iw 0, s0] 26, .blk b5 [iw 3, iw 1, iw 10] 24]) (fun _ => [b2, b2, b2]) (fun _ => []) [3, 4, 5, 6, 7, 11, 12, 13, 14, 15, 16, 17, 18, 19, 20, 21, 22, 23, 24, 25, 26] (fun _ => by kernel_rfl) (fun _ => trivial) (fun _ => ?_))
  refine Ok.withS (idx := [0, 2]) (SLe.trans le8 le12) rfl ?_
  refine Ok.done (by kernel_rfl) ?_
  refine Ok.blkN ?_
  refine Ok.thenN ?_
  refine Ok.reg ?_
  refine Ok.seg (j := 2) (fun _ => [(3, pt b1 0), (4, n0), (5, sl b2 0 1 1), (6, iw 0), (7, pt b5 0), (11, sl p0 0 1 1), (12, iw 1), (13, iw 1), (14, bT), (15, iw 0), (16, pt p0 0), (17, .agg #[iw 3, iw 1, iw 10]), (18, sl b2 0 1 1), (19, iw 0), (20, .agg #[iw 3, iw 1, iw 10]), (21, .agg #[sl p1 0 1 1]), (22, pt b5 1), (23, iw 1), (24, .agg #[bF, iw 5, s0]), (25, .agg #[bF, iw 0, s0]), (26, pt b2 0), (27, iw 1)]) (fun _ => [.blk b1 [sl p1 0 1 1] 30, .blk b2 [bF, iw 0, s0] 26, .blk b5 [iw 3, iw 1, iw 10] 24]) (fun _ => []) (fun _ => []) [.g [], .g []] [3, 4, 5, 6, 7, 11, 12, 13, 14, 15, 16, 17, 18, 19, 20, 21, 22, 23, 24, 25, 26, 27] rfl (fun _ => by kernel_rfl) (fun _ => trivial) (fun _ => ?_)
  refine Ok.segEnd rfl ?_
  refine Ok.thenN ?_
  refine Ok.round ?_
  refine Ok.seq ?_
  refine Ok.reg ?_
  refine Ok.seg (j := 1) (fun _ => [(3, pt b1 0), (4, n0), (5, sl b2 0 1 1), (6, iw 0), (7, pt b5 0), (11, sl p0 0 1 1), (12, iw 1), (13, iw 1), (14, bF), (15, iw 0), (16, pt p0 0), (17, .agg #[iw 3, iw 1, iw 10]), (18, sl b2 0 1 1), (19, iw 0), (20, .agg #[iw 3, iw 1, iw 10]), (21, .agg #[sl p1 0 1 1]), (22, pt b5 1), (23, iw 1), (24, .agg #[bF, iw 5, s0]), (25, .agg #[bF, iw 0, s0]), (26, pt b2 0), (27, iw 1)]) (fun _ => [.blk b1 [sl p1 0 1 1] 30, .blk b2 [bF, iw 0, s0] 26, .blk b5 [iw 3, iw 1, iw 10] 24]) (fun _ => []) (fun _ => []) [.g []] [3, 4, 5, 6, 7, 11, 12, 13, 14, 15, 16, 17, 18, 19, 20, 21, 22, 23, 24, 25, 26, 27] rfl (fun _ => by kernel_rfl) (fun _ => trivial) (fun _ => ?_)
  refine Ok.segEnd rfl ?_
  refine Ok.thenN ?_
  refine Ok.seq ?_
  refine Ok.condF rfl ?_
  refine Ok.exit_ ?_
  refine Ok.thenE ?_
  refine Ok.thenE ?_
  refine Ok.blkE ?_
  refine Ok.thenN ?_
  refine Ok.seq ?_
  refine Ok.reg ?_
  refine Ok.seg (j := 2) (fun _ => [(4, sl b2 0 1 1)]) (fun _ => [.blk b1 [sl p1 0 1 1] 30, .blk b2 [bF, iw 0, s0] 26, .blk b5 [iw 3, iw 1, iw 10] 24]) (fun _ => []) (fun _ => []) [.g [], .g []] [4] rfl (fun _ => by kernel_rfl) (fun _ => trivial) (fun _ => ?_)
  refine Ok.mask [false, true, false] [.blk b2 [bF, iw 0, s0] 26] rfl ?_
  refine Ok.segEnd rfl ?_
  refine Ok.thenN ?_
  refine Ok.ret_ ?_
  refine Ok.pubP 0 rfl [] rfl ?_
  intro H18 le19 pf20
  exact Ok.ret1 (v := sl b2 0 1 1) (SLe.trans le8 (SLe.trans le12 le19)) rfl rfl ⟨b2, rfl, pf20⟩
set_option maxRecDepth 100000 in
theorem x61_121 (H : Snap) (p0 : Nat) : Does Tryd.prog 61 [sl p0 0 1 11, .int .u64 0] H [.blk p0 [.int .u8 1, .int .u8 0, .int .u8 0, .int .u8 0, .int .u8 0, .int .u8 0, .int .u8 0, .int .u8 0, .int .u8 0, .int .u8 0, .int .u8 0] 5] (fun v H' kp => v = sl p0 0 2 11 ∧ kp = [.blk p0 [.int .u8 1, .int .u8 0, .int .u8 0, .int .u8 0, .int .u8 0, .int .u8 0, .int .u8 0, .int .u8 0, .int .u8 0, .int .u8 0, .int .u8 0] 5]) := by
  refine Does.of Tryd.func61 rfl rfl rfl rfl (fun w0 H0 kx => ?_)
  refine Ok.seq ?_
  refine Ok.reg ?_
  refine Ok.seg (j := 1) (fun _ => [(0, sl p0 0 1 11), (1, .int .u64 0), (4, n0)]) (fun _ => [.blk p0 [.int .u8 1, .int .u8 0, .int .u8 0, .int .u8 0, .int .u8 0, .int .u8 0, .int .u8 0, .int .u8 0, .int .u8 0, .int .u8 0, .int .u8 0] 5]) (fun _ => []) (fun _ => []) [.g []] [0, 1, 4] rfl (fun _ => by kernel_rfl) (fun _ => trivial) (fun _ => ?_)
  refine Ok.segEnd rfl ?_
  refine Ok.thenN ?_
  refine Ok.seq ?_
  refine Ok.blk ?_
  refine Ok.loopN 1 ?_
  refine Ok.round ?_
  refine Ok.seq ?_
  refine Ok.seq ?_
  refine Ok.reg ?_
  refine Ok.seg (j := 2) (fun _ => [(0, sl p0 0 1 11), (1, .int .u64 0), (4, n0), (5, .int .u64 0), (6, bF)]) (fun _ => [.blk p0 [.int .u8 1, .int .u8 0, .int .u8 0, .int .u8 0, .int .u8 0, .int .u8 0, .int .u8 0, .int .u8 0, .int .u8 0, .int .u8 0, .int .u8 0] 5]) (fun _ => []) (fun _ => []) [.g [], .g []] [0, 1, 4, 5, 6] rfl (fun _ => by kernel_rfl) (fun _ => trivial) (fun _ => ?_)
  refine Ok.segEnd rfl ?_
  refine Ok.thenN ?_
  refine Ok.condF rfl ?_
  refine Ok.exit_ ?_
  refine Ok.thenE ?_
  refine Ok.thenE ?_
  refine Ok.blkE ?_
  refine Ok.thenN ?_
  refine Ok.seq ?_
  refine Ok.reg ?_
  refine Ok.seg (j := 6) (fun b3 => [(4, sl p0 0 2 11)]) (fun b3 => [.blk p0 [.int .u8 1, .int .u8 0, .int .u8 0, .int .u8 0, .int .u8 0, .int .u8 0, .int .u8 0, .int .u8 0, .int .u8 0, .int .u8 0, .int .u8 0] 5, .blk b3 [.int .u8 0] 5]) (fun b3 => [b3, p0]) (fun b3 => []) [.g [], .g [], .g [], .g [.N], .g [.K 1 0, .K 0 1], .g []] [4] rfl (fun b3 => by kernel_rfl) (fun b3 => trivial) (fun b3 => ?_)
  refine Ok.segEnd rfl ?_
  refine Ok.thenN ?_
  refine Ok.ret_ ?_
  refine Ok.drop 1 rfl [.blk p0 [.int .u8 1, .int .u8 0, .int .u8 0, .int .u8 0, .int .u8 0, .int .u8 0, .int .u8 0, .int .u8 0, .int .u8 0, .int .u8 0, .int .u8 0] 5] rfl ?_
  exact Ok.ret1 (v := sl p0 0 2 11) (SLe.refl _) rfl rfl ⟨rfl, rfl⟩
set_option maxRecDepth 100000 in
theorem x40_120 (H : Snap) (p0 : Nat) (c0 : Nat) (hp0 : Pre H p0 [.int .u8 1]) : Does Tryd.prog 40 [sl p0 0 1 c0, .int .u64 0] H [] (fun v H' kp => ∃ o0 : Nat, v = sl o0 0 2 11 ∧ kp = [.blk o0 [.int .u8 1, .int .u8 0, .int .u8 0, .int .u8 0, .int .u8 0, .int .u8 0, .int .u8 0, .int .u8 0, .int .u8 0, .int .u8 0, .int .u8 0] 5]) := by
  refine Does.of Tryd.func40 rfl rfl rfl rfl (fun w0 H0 kx => ?_)
  refine Ok.seq ?_
  refine Ok.reg ?_
  refine Ok.seg (j := 1) (fun _ => [(0, sl p0 0 1 c0), (1, .int .u64 0), (4, n0)]) (fun _ => []) (fun _ => []) (fun _ => []) [.g []] [0, 1, 4] rfl (fun _ => by kernel_rfl) (fun _ => trivial) (fun _ => ?_)
  refine Ok.segEnd rfl ?_
  refine Ok.thenN ?_
  refine Ok.seq ?_
  refine Ok.reg ?_
  refine Ok.seg (j := 1) (fun _ => [(1, .int .u64 0), (4, n0), (5, sl p0 0 1 c0)]) (fun _ => []) (fun _ => []) (fun _ => []) [.g []] [1, 4, 5] rfl (fun _ => by kernel_rfl) (fun _ => trivial) (fun _ => ?_)
  refine Ok.eff (j := 2) rfl (Eff.call0 (d := some 6) (by kernel_rfl) (x62_109 H p0 c0 hp0) ?_)
  rintro v3 H4 k6 le5 ⟨q7, rfl, rfl⟩
  refine Ok.seg (j := 3) (fun _ => [(4, n0), (6, sl q7 0 1 11), (7, .int .u64 0)]) (fun _ => [.blk q7 [.int .u8 1, .int .u8 0, .int .u8 0, .int .u8 0, .int .u8 0, .int .u8 0, .int .u8 0, .int .u8 0, .int .u8 0, .int .u8 0, .int .u8 0] 5]) (fun _ => []) (fun _ => []) [.g []] [4, 6, 7] rfl (fun _ => by kernel_rfl) (fun _ => trivial) (fun _ => ?_)
  refine Ok.eff (j := 4) rfl (Eff.call (d := some 8) (kp := [.blk q7 [.int .u8 1, .int .u8 0, .int .u8 0, .int .u8 0, .int .u8 0, .int .u8 0, .int .u8 0, .int .u8 0, .int .u8 0, .int .u8 0, .int .u8 0] 5]) (kr := []) (by kernel_rfl) (perm1 0 rfl rfl) (x61_121 H4 q7) ?_)
  rintro v9 H10 k12 le11 ⟨rfl, rfl⟩
  refine Ok.seg (j := 5) (fun _ => [(4, sl q7 0 2 11)]) (fun _ => [.blk q7 [.int .u8 1, .int .u8 0, .int .u8 0, .int .u8 0, .int .u8 0, .int .u8 0, .int .u8 0, .int .u8 0, .int .u8 0, .int .u8 0, .int .u8 0] 5]) (fun _ => []) (fun _ => []) [.g []] [4] rfl (fun _ => by kernel_rfl) (fun _ => trivial) (fun _ => ?_)
  refine Ok.segEnd rfl ?_
  refine Ok.thenN ?_
  refine Ok.ret_ ?_
  exact Ok.ret1 (v := sl q7 0 2 11) (SLe.trans le5 le11) rfl rfl ⟨q7, rfl, rfl⟩
set_option maxRecDepth 100000 in
theorem x22_119 (H : Snap) (p0 : Nat) (c0 : Nat) (hp0 : Pre H p0 [.int .u8 1]) : Does Tryd.prog 22 [sl p0 0 1 c0, iw 0] H [] (fun v H' kp => ∃ o0 : Nat, v = sl o0 0 2 11 ∧ kp = [.blk o0 [.int .u8 1, .int .u8 0, .int .u8 0, .int .u8 0, .int .u8 0, .int .u8 0, .int .u8 0, .int .u8 0, .int .u8 0, .int .u8 0, .int .u8 0] 5]) := by
  refine Does.of Tryd.func22 rfl rfl rfl rfl (fun w0 H0 kx => ?_)
  refine Ok.seq ?_
  refine Ok.reg ?_
  refine Ok.seg (j := 1) (fun _ => [(0, sl p0 0 1 c0), (1, iw 0), (4, n0)]) (fun _ => []) (fun _ => []) (fun _ => []) [.g []] [0, 1, 4] rfl (fun _ => by kernel_rfl) (fun _ => trivial) (fun _ => ?_)
  refine Ok.segEnd rfl ?_
  refine Ok.thenN ?_
  refine Ok.seq ?_
  refine Ok.reg ?_
  refine Ok.seg (j := 8) (fun _ => [(4, n0), (5, sl p0 0 1 c0), (12, .int .u64 0)]) (fun _ => []) (fun _ => []) (fun _ => []) [.g [], .g [], .g [], .g [], .g [], .g [], .g [], .g []] [4, 5, 12] rfl (fun _ => by kernel_rfl) (fun _ => trivial) (fun _ => ?_)
  refine Ok.eff (j := 9) rfl (Eff.call0 (d := some 13) (by kernel_rfl) (x40_120 H p0 c0 hp0) ?_)
  rintro v3 H4 k6 le5 ⟨q7, rfl, rfl⟩
  refine Ok.seg (j := 10) (fun _ => [(4, sl q7 0 2 11)]) (fun _ => [.blk q7 [.int .u8 1, .int .u8 0, .int .u8 0, .int .u8 0, .int .u8 0, .int .u8 0, .int .u8 0, .int .u8 0, .int .u8 0, .int .u8 0, .int .u8 0] 5]) (fun _ => []) (fun _ => []) [.g []] [4] rfl (fun _ => by kernel_rfl) (fun _ => trivial) (fun _ => ?_)
  refine Ok.segEnd rfl ?_
  refine Ok.thenN ?_
  refine Ok.ret_ ?_
  exact Ok.ret1 (v := sl q7 0 2 11) le5 rfl rfl ⟨q7, rfl, rfl⟩
set_option maxRecDepth 100000 in
theorem x62_124 (H : Snap) (p0 : Nat) (hp0 : Pre H p0 [.int .u8 1, .int .u8 0, .int .u8 0, .int .u8 0, .int .u8 0, .int .u8 0, .int .u8 0, .int .u8 0, .int .u8 0, .int .u8 0, .int .u8 0]) : Does Tryd.prog 62 [sl p0 0 2 11, iw 10] H [] (fun v H' kp => ∃ o0 : Nat, v = sl o0 0 2 12 ∧ kp = [.blk o0 [.int .u8 1, .int .u8 0, .int .u8 0, .int .u8 0, .int .u8 0, .int .u8 0, .int .u8 0, .int .u8 0, .int .u8 0, .int .u8 0, .int .u8 0, .int .u8 0] 5]) := by
  refine Does.of Tryd.func62 rfl rfl rfl rfl (fun w0 H0 kx => ?_)
  refine Ok.seq ?_
  refine Ok.reg ?_
  refine Ok.seg (j := 1) (fun _ => [(0, sl p0 0 2 11), (1, iw 10), (4, n0)]) (fun _ => []) (fun _ => []) (fun _ => []) [.g []] [0, 1, 4] rfl (fun _ => by kernel_rfl) (fun _ => trivial) (fun _ => ?_)
  refine Ok.segEnd rfl ?_
  refine Ok.thenN ?_
  refine Ok.seq ?_
  refine Ok.reg ?_
  refine Ok.seg (j := 8) (fun b2 => [(0, sl p0 0 2 11), (4, n0), (5, sl b2 0 2 12)]) (fun b2 => [.blk b2 [.int .u8 0, .int .u8 0, .int .u8 0, .int .u8 0, .int .u8 0, .int .u8 0, .int .u8 0, .int .u8 0, .int .u8 0, .int .u8 0, .int .u8 0, .int .u8 0] 5]) (fun b2 => []) (fun b2 => []) [.g [], .g [], .g [], .g [], .g [], .g [], .g [.N], .g []] [0, 4, 5] rfl (fun b2 => by kernel_rfl) (fun b2 => trivial) (fun b2 => ?_)
  refine Ok.segEnd rfl ?_
  refine Ok.thenN ?_
  refine Ok.seq ?_
  refine Ok.reg ?_
  refine Ok.seg (j := 3) (fun _ => [(4, n0), (5, sl b2 0 2 12)]) (fun _ => [.blk b2 [.int .u8 1, .int .u8 0, .int .u8 0, .int .u8 0, .int .u8 0, .int .u8 0, .int .u8 0, .int .u8 0, .int .u8 0, .int .u8 0, .int .u8 0, .int .u8 0] 5]) (fun _ => [b2, b2]) (fun _ => [HasCell H ⟨p0, 0, none⟩ (.int .u8 1), HasCell H ⟨p0, 1, none⟩ (.int .u8 0)]) [.g [], .g [], .g [.X (.int .u8 1), .X (.int .u8 0), .K 0 0, .K 0 1]] [4, 5] rfl (fun _ => by kernel_rfl) (fun _ => ⟨Pre.cell hp0 0 rfl, Pre.cell hp0 1 rfl, trivial⟩) (fun _ => ?_)
  refine Ok.segEnd rfl ?_
  refine Ok.thenN ?_
  refine Ok.seq ?_
  refine Ok.reg ?_
  refine Ok.seg (j := 2) (fun _ => [(4, sl b2 0 2 12)]) (fun _ => [.blk b2 [.int .u8 1, .int .u8 0, .int .u8 0, .int .u8 0, .int .u8 0, .int .u8 0, .int .u8 0, .int .u8 0, .int .u8 0, .int .u8 0, .int .u8 0, .int .u8 0] 5]) (fun _ => []) (fun _ => []) [.g [], .g []] [4] rfl (fun _ => by kernel_rfl) (fun _ => trivial) (fun _ => ?_)
  refine Ok.segEnd rfl ?_
  refine Ok.thenN ?_
  refine Ok.ret_ ?_
  exact Ok.ret1 (v := sl b2 0 2 12) (SLe.refl _) rfl rfl ⟨b2, rfl, rfl⟩
set_option maxRecDepth 100000 in
theorem x61_125 (H : Snap) (p0 : Nat) : Does Tryd.prog 61 [sl p0 0 2 12, .int .u64 0] H [.blk p0 [.int .u8 1, .int .u8 0, .int .u8 0, .int .u8 0, .int .u8 0, .int .u8 0, .int .u8 0, .int .u8 0, .int .u8 0, .int .u8 0, .int .u8 0, .int .u8 0] 5] (fun v H' kp => v = sl p0 0 3 12 ∧ kp = [.blk p0 [.int .u8 1, .int .u8 0, .int .u8 0, .int .u8 0, .int .u8 0, .int .u8 0, .int .u8 0, .int .u8 0, .int .u8 0, .int .u8 0, .int .u8 0, .int .u8 0] 5]) := by
  refine Does.of Tryd.func61 rfl rfl rfl rfl (fun w0 H0 kx => ?_)
  refine Ok.seq ?_
  refine Ok.reg ?_
  refine Ok.seg (j := 1) (fun _ => [(0, sl p0 0 2 12), (1, .int .u64 0), (4, n0)]) (fun _ => [.blk p0 [.int .u8 1, .int .u8 0, .int .u8 0, .int .u8 0, .int .u8 0, .int .u8 0, .int .u8 0, .int .u8 0, .int .u8 0, .int .u8 0, .int .u8 0, .int .u8 0] 5]) (fun _ => []) (fun _ => []) [.g []] [0, 1, 4] rfl (fun _ => by kernel_rfl) (fun _ => trivial) (fun _ => ?_)
  refine Ok.segEnd rfl ?_
  refine Ok.thenN ?_
  refine Ok.seq ?_
  refine Ok.blk ?_
  refine Ok.loopN 1 ?_
  refine Ok.round ?_
  refine Ok.seq ?_
  refine Ok.seq ?_
  refine Ok.reg ?_
  refine Ok.seg (j := 2) (fun _ => [(0, sl p0 0 2 12), (1, .int .u64 0), (4, n0), (5, .int .u64 0), (6, bF)]) (fun _ => [.blk p0 [.int .u8 1, .int .u8 0, .int .u8 0, .int .u8 0, .int .u8 0, .int .u8 0, .int .u8 0, .int .u8 0, .int .u8 0, .int .u8 0, .int .u8 0, .int .u8 0] 5]) (fun _ => []) (fun _ => []) [.g [], .g []] [0, 1, 4, 5, 6] rfl (fun _ => by kernel_rfl) (fun _ => trivial) (fun _ => ?_)
  refine Ok.segEnd rfl ?_
  refine Ok.thenN ?_
  refine Ok.condF rfl ?_
  refine Ok.exit_ ?_
  refine Ok.thenE ?_
  refine Ok.thenE ?_
  refine Ok.blkE ?_
  refine Ok.thenN ?_
  refine Ok.seq ?_
  refine Ok.reg ?_
  refine Ok.seg (j := 6) (fun b3 => [(4, sl p0 0 3 12)]) (fun b3 => [.blk p0 [.int .u8 1, .int .u8 0, .int .u8 0, .int .u8 0, .int .u8 0, .int .u8 0, .int .u8 0, .int .u8 0, .int .u8 0, .int .u8 0, .int .u8 0, .int .u8 0] 5, .blk b3 [.int .u8 0] 5]) (fun b3 => [b3, p0]) (fun b3 => []) [.g [], .g [], .g [], .g [.N], .g [.K 1 0, .K 0 2], .g []] [4] rfl (fun b3 => by kernel_rfl) (fun b3 => trivial) (fun b3 => ?_)
  refine Ok.segEnd rfl ?_
  refine Ok.thenN ?_
  refine Ok.ret_ ?_
  refine Ok.drop 1 rfl [.blk p0 [.int .u8 1, .int .u8 0, .int .u8 0, .int .u8 0, .int .u8 0, .int .u8 0, .int .u8 0, .int .u8 0, .int .u8 0, .int .u8 0, .int .u8 0, .int .u8 0] 5] rfl ?_
  exact Ok.ret1 (v := sl p0 0 3 12) (SLe.refl _) rfl rfl ⟨rfl, rfl⟩
set_option maxRecDepth 100000 in
theorem x39_123 (H : Snap) (p0 : Nat) (hp0 : Pre H p0 [.int .u8 1, .int .u8 0, .int .u8 0, .int .u8 0, .int .u8 0, .int .u8 0, .int .u8 0, .int .u8 0, .int .u8 0, .int .u8 0, .int .u8 0]) : Does Tryd.prog 39 [sl p0 0 2 11, s0] H [] (fun v H' kp => ∃ o0 : Nat, v = sl o0 0 3 12 ∧ kp = [.blk o0 [.int .u8 1, .int .u8 0, .int .u8 0, .int .u8 0, .int .u8 0, .int .u8 0, .int .u8 0, .int .u8 0, .int .u8 0, .int .u8 0, .int .u8 0, .int .u8 0] 5]) := by
  refine Does.of Tryd.func39 rfl rfl rfl rfl (fun w0 H0 kx => ?_)
  refine Ok.seq ?_
  refine Ok.reg ?_
  refine Ok.seg (j := 1) (fun _ => [(0, sl p0 0 2 11), (1, s0), (4, n0)]) (fun _ => []) (fun _ => []) (fun _ => []) [.g []] [0, 1, 4] rfl (fun _ => by kernel_rfl) (fun _ => trivial) (fun _ => ?_)
  refine Ok.segEnd rfl ?_
  refine Ok.thenN ?_
  refine Ok.seq ?_
  refine Ok.reg ?_
  refine Ok.seg (j := 4) (fun _ => [(1, s0), (4, n0), (6, sl p0 0 2 11), (9, iw 10)]) (fun _ => []) (fun _ => []) (fun _ => []) [.g [], .g [], .g [], .g []] [1, 4, 6, 9] rfl (fun _ => by kernel_rfl) (fun _ => trivial) (fun _ => ?_)
  refine Ok.eff (j := 5) rfl (Eff.call0 (d := some 10) (by kernel_rfl) (x62_124 H p0 hp0) ?_)
  rintro v3 H4 k6 le5 ⟨q7, rfl, rfl⟩
  refine Ok.seg (j := 8) (fun _ => [(1, s0), (4, n0), (10, sl q7 0 2 12), (13, .int .u64 0)]) (fun _ => [.blk q7 [.int .u8 1, .int .u8 0, .int .u8 0, .int .u8 0, .int .u8 0, .int .u8 0, .int .u8 0, .int .u8 0, .int .u8 0, .int .u8 0, .int .u8 0, .int .u8 0] 5]) (fun _ => []) (fun _ => []) [.g [], .g [], .g []] [1, 4, 10, 13] rfl (fun _ => by kernel_rfl) (fun _ => trivial) (fun _ => ?_)
  refine Ok.eff (j := 9) rfl (Eff.call (d := some 14) (kp := [.blk q7 [.int .u8 1, .int .u8 0, .int .u8 0, .int .u8 0, .int .u8 0, .int .u8 0, .int .u8 0, .int .u8 0, .int .u8 0, .int .u8 0, .int .u8 0, .int .u8 0] 5]) (kr := []) (by kernel_rfl) (perm1 0 rfl rfl) (x61_125 H4 q7) ?_)
  rintro v9 H10 k12 le11 ⟨rfl, rfl⟩
  refine Ok.seg (j := 10) (fun _ => [(1, s0), (4, n0), (5, sl q7 0 3 12)]) (fun _ => [.blk q7 [.int .u8 1, .int .u8 0, .int .u8 0, .int .u8 0, .int .u8 0, .int .u8 0, .int .u8 0, .int .u8 0, .int .u8 0, .int .u8 0, .int .u8 0, .int .u8 0] 5]) (fun _ => []) (fun _ => []) [.g []] [1, 4, 5] rfl (fun _ => by kernel_rfl) (fun _ => trivial) (fun _ => ?_)
  refine Ok.segEnd rfl ?_
  refine Ok.thenN ?_
  refine Ok.seq ?_
  refine Ok.reg ?_
  refine Ok.seg (j := 4) (fun _ => [(4, sl q7 0 3 12)]) (fun _ => [.blk q7 [.int .u8 1, .int .u8 0, .int .u8 0, .int .u8 0, .int .u8 0, .int .u8 0, .int .u8 0, .int .u8 0, .int .u8 0, .int .u8 0, .int .u8 0, .int .u8 0] 5]) (fun _ => []) (fun _ => []) [.g [], .g [], .g [], .g []] [4] rfl (fun _ => by kernel_rfl) (fun _ => trivial) (fun _ => ?_)
  refine Ok.segEnd rfl ?_
  refine Ok.thenN ?_
  refine Ok.ret_ ?_
  exact Ok.ret1 (v := sl q7 0 3 12) (SLe.trans le5 le11) rfl rfl ⟨q7, rfl, rfl⟩
set_option maxRecDepth 100000 in
theorem x21_122 (H : Snap) (p0 : Nat) (hp0 : Pre H p0 [.int .u8 1, .int .u8 0, .int .u8 0, .int .u8 0, .int .u8 0, .int .u8 0, .int .u8 0, .int .u8 0, .int .u8 0, .int .u8 0, .int .u8 0]) : Does Tryd.prog 21 [sl p0 0 2 11, s0] H [] (fun v H' kp => ∃ o0 : Nat, v = sl o0 0 3 12 ∧ kp = [.blk o0 [.int .u8 1, .int .u8 0, .int .u8 0, .int .u8 0, .int .u8 0, .int .u8 0, .int .u8 0, .int .u8 0, .int .u8 0, .int .u8 0, .int .u8 0, .int .u8 0] 5]) := by
  refine Does.of Tryd.func21 rfl rfl rfl rfl (fun w0 H0 kx => ?_)
  refine Ok.seq ?_
  refine Ok.reg ?_
  refine Ok.seg (j := 1) (fun _ => [(0, sl p0 0 2 11), (1, s0), (4, n0)]) (fun _ => []) (fun _ => []) (fun _ => []) [.g []] [0, 1, 4] rfl (fun _ => by kernel_rfl) (fun _ => trivial) (fun _ => ?_)
  refine Ok.segEnd rfl ?_
  refine Ok.thenN ?_
  refine Ok.seq ?_
  refine Ok.reg ?_
  refine Ok.seg (j := 2) (fun _ => [(4, n0), (5, sl p0 0 2 11), (6, s0)]) (fun _ => []) (fun _ => []) (fun _ => []) [.g [], .g []] [4, 5, 6] rfl (fun _ => by kernel_rfl) (fun _ => trivial) (fun _ => ?_)
  refine Ok.eff (j := 3) rfl (Eff.call0 (d := some 7) (by kernel_rfl) (x39_123 H p0 hp0) ?_)
  rintro v3 H4 k6 le5 ⟨q7, rfl, rfl⟩
  refine Ok.seg (j := 4) (fun _ => [(4, sl q7 0 3 12)]) (fun _ => [.blk q7 [.int .u8 1, .int .u8 0, .int .u8 0, .int .u8 0, .int .u8 0, .int .u8 0, .int .u8 0, .int .u8 0, .int .u8 0, .int .u8 0, .int .u8 0, .int .u8 0] 5]) (fun _ => []) (fun _ => []) [.g []] [4] rfl (fun _ => by kernel_rfl) (fun _ => trivial) (fun _ => ?_)
  refine Ok.segEnd rfl ?_
  refine Ok.thenN ?_
  refine Ok.ret_ ?_
  exact Ok.ret1 (v := sl q7 0 3 12) le5 rfl rfl ⟨q7, rfl, rfl⟩
set_option maxRecDepth 100000 in
theorem x30_127 (H : Snap) (p0 : Nat) (hp0 : Pre H p0 [iw 1, bF, iw 12, s0]) : Does Tryd.prog 30 [.agg #[sl p0 0 1 1], iw 1] H [] (fun v H' kp => v = .agg #[bF, iw 12, s0]) := by
  refine Does.of Tryd.func30 rfl rfl rfl rfl (fun w0 H0 kx => ?_)
  refine Ok.seq ?_
  refine Ok.reg ?_
  refine Ok.seg (j := 2) (fun b1 => [(1, iw 1), (2, pt b1 0), (4, pt (b1 + 1) 0)]) (fun b1 => [.blk b1 [sl p0 0 1 1] 30, .blk (b1 + 1) [bF, iw 0, s0] 26]) (fun b1 => []) (fun b1 => []) [.g [.N], .g [.N]] [1, 2, 4] rfl (fun b1 => by kernel_rfl) (fun b1 => trivial) (fun b1 => ?_)
  refine Ok.segEnd rfl ?_
  refine Ok.thenN ?_
  refine Ok.seq ?_
  refine Ok.seq ?_
  refine Ok.reg ?_
  refine Ok.seg (j := 4) (fun _ => [(1, iw 1), (4, pt (b1 + 1) 0), (8, sl p0 0 1 1), (9, iw 1), (10, iw 0)]) (fun _ => [.blk b1 [sl p0 0 1 1] 30, .blk (b1 + 1) [bF, iw 0, s0] 26]) (fun _ => [b1]) (fun _ => []) [.g [], .g [.K 0 0], .g [], .g []] [1, 4, 8, 9, 10] rfl (fun _ => by kernel_rfl) (fun _ => trivial) (fun _ => ?_)
  refine Ok.segEnd rfl ?_
  refine Ok.thenN ?_
  refine Ok.blk ?_
  refine Ok.loopN 1 ?_
  refine Ok.round ?_
  refine Ok.seq ?_
  refine Ok.reg ?_
  refine Ok.seg (j := 1) (fun _ => [(1, iw 1), (4, pt (b1 + 1) 0), (8, sl p0 0 1 1), (9, iw 1), (10, iw 0), (11, bT)]) (fun _ => [.blk b1 [sl p0 0 1 1] 30, .blk (b1 + 1) [bF, iw 0, s0] 26]) (fun _ => []) (fun _ => []) [.g []] [1, 4, 8, 9, 10, 11] rfl (fun _ => by kernel_rfl) (fun _ => trivial) (fun _ => ?_)
  refine Ok.segEnd rfl ?_
  refine Ok.thenN ?_
  refine Ok.seq ?_
  refine Ok.condT rfl ?_
  refine Ok.skip_ ?_
  refine Ok.thenN ?_
  refine Ok.seq ?_
  refine Ok.blk ?_
  refine Ok.seq ?_
  refine Ok.reg ?_
  refine Ok.seg (j := 4) (fun b4 => [(1, iw 1), (4, pt (b1 + 1) 0), (6, pt b4 0), (8, sl p0 0 1 1), (9, iw 1), (10, iw 0), (11, bT), (12, pt p0 0), (13, .agg #[iw 1, bF, iw 12, s0])]) (fun b4 => [.blk b1 [sl p0 0 1 1] 30, .blk (b1 + 1) [bF, iw 0, s0] 26, .blk b4 [iw 1, bF, iw 12, s0] 39]) (fun b4 => [b4, b4, b4, b4]) (fun b4 => [HasCell H ⟨p0, 0, none⟩ (iw 1), HasCell H ⟨p0, 1, none⟩ (bF), HasCell H ⟨p0, 2, none⟩ (iw 12), HasCell H ⟨p0, 3, none⟩ (s0)]) [.g [], .g [.X (iw 1), .X (bF), .X (iw 12), .X (s0)], .g [.N], .g [.K 2 0, .K 2 1, .K 2 2, .K 2 3]] [1, 4, 6, 8, 9, 10, 11, 12, 13] rfl (fun b4 => by kernel_rfl) (fun b4 => ⟨Pre.cell hp0 0 rfl, Pre.cell hp0 1 rfl, Pre.cell hp0 2 rfl, Pre.cell hp0 3 rfl, trivial⟩) (fun b4 => ?_)
  refine Ok.segEnd rfl ?_
  refine Ok.thenN ?_
  refine Ok.seq ?_
  refine Ok.reg ?_
  refine Ok.seg (j := 4) (fun _ => [(1, iw 1), (4, pt (b1 + 1) 0), (6, pt b4 0), (8, sl p0 0 1 1), (9, iw 1), (10, iw 0), (11, bT), (12, pt p0 0), (13, .agg #[iw 1, bF, iw 12, s0]), (14, pt b4 0), (15, iw 1), (16, iw 1), (17, bT)]) (fun _ => [.blk b1 [sl p0 0 1 1] 30, .blk (b1 + 1) [bF, iw 0, s0] 26, .blk b4 [iw 1, bF, iw 12, s0] 39]) (fun _ => [b4]) (fun _ => []) [.g [], .g [.K 2 0], .g [], .g []] [1, 4, 6, 8, 9, 10, 11, 12, 13, 14, 15, 16, 17] rfl (fun _ => by kernel_rfl) (fun _ => trivial) (fun _ => ?_)
  refine Ok.segEnd rfl ?_
  refine Ok.thenN ?_
  refine Ok.condT rfl ?_
  refine Ok.seq ?_
  refine Ok.reg ?_
  refine Ok.seg (j := 3) (fun _ => [(1, iw 1), (4, pt (b1 + 1) 0), (6, pt b4 0), (8, sl p0 0 1 1), (9, iw 1), (10, iw 0), (11, bT), (12, pt p0 0), (13, .agg #[iw 1, bF, iw 12, s0]), (14, pt b4 0), (15, iw 1), (16, iw 1), (17, bT), (18, pt b4 1), (19, .agg #[bF, iw 12, s0])]) (fun _ => [.blk b1 [sl p0 0 1 1] 30, .blk (b1 + 1) [bF, iw 12, s0] 26, .blk b4 [iw 1, bF, iw 12, s0] 39]) (fun _ => [b4, b4, b4, b1 + 1, b1 + 1, b1 + 1]) (fun _ => []) [.g [], .g [.K 2 1, .K 2 2, .K 2 3], .g [.K 1 0, .K 1 1, .K 1 2]] [1, 4, 6, 8, 9, 10, 11, 12, 13, 14, 15, 16, 17, 18, 19] rfl (fun _ => by kernel_rfl) (fun _ => trivial) (fun _ => ?_)
  refine Ok.segEnd rfl ?_
  refine Ok.thenN ?_
  refine Ok.ret_ ?_
  refine Ok.blkR ?_
  refine Ok.thenR ?_
  refine Ok.thenR ?_
  refine Ok.blkR ?_
  refine Ok.thenR ?_
  exact Ok.ret1c (SLe.refl _) [.K 1 0, .K 1 1, .K 1 2] (.agg #[bF, iw 12, s0]) [b1 + 1, b1 + 1, b1 + 1] rfl (by kernel_rfl) rfl
set_option maxRecDepth 100000 in
theorem x54_129 (H : Snap) : Does Tryd.prog 54 [iw 12, iw 10] H [] (fun v H' kp => v = iw 10) := by
  refine Does.of Tryd.func54 rfl rfl rfl rfl (fun w0 H0 kx => ?_)
  refine Ok.seq ?_
  refine Ok.reg ?_
  refine Ok.seg (j := 1) (fun _ => [(0, iw 12), (1, iw 10), (4, iw 0)]) (fun _ => []) (fun _ => []) (fun _ => []) [.g []] [0, 1, 4] rfl (fun _ => by kernel_rfl) (fun _ => trivial) (fun _ => ?_)
  refine Ok.segEnd rfl ?_
  refine Ok.thenN ?_
  refine Ok.seq ?_
  refine Ok.reg ?_
  refine Ok.seg (j := 4) (fun _ => [(0, iw 12), (1, iw 10), (4, iw 0), (5, iw 2)]) (fun _ => []) (fun _ => []) (fun _ => []) [.g [], .g [], .g [], .g []] [0, 1, 4, 5] rfl (fun _ => by kernel_rfl) (fun _ => trivial) (fun _ => ?_)
  refine Ok.segEnd rfl ?_
  refine Ok.thenN ?_
  refine Ok.seq ?_
  refine Ok.seq ?_
  refine Ok.reg ?_
  refine Ok.seg (j := 2) (fun _ => [(0, iw 12), (1, iw 10), (4, iw 0), (5, iw 2), (10, bF)]) (fun _ => []) (fun _ => []) (fun _ => []) [.g [], .g []] [0, 1, 4, 5, 10] rfl (fun _ => by kernel_rfl) (fun _ => trivial) (fun _ => ?_)
  refine Ok.segEnd rfl ?_
  refine Ok.thenN ?_
  refine Ok.condF rfl ?_
  refine Ok.skip_ ?_
  refine Ok.thenN ?_
  refine Ok.seq ?_
  refine Ok.seq ?_
  refine Ok.reg ?_
  refine Ok.seg (j := 4) (fun _ => [(0, iw 12), (4, iw 0), (5, iw 2), (17, bF)]) (fun _ => []) (fun _ => []) (fun _ => []) [.g [], .g [], .g [], .g []] [0, 4, 5, 17] rfl (fun _ => by kernel_rfl) (fun _ => trivial) (fun _ => ?_)
  refine Ok.segEnd rfl ?_
  refine Ok.thenN ?_
  refine Ok.condF rfl ?_
  refine Ok.skip_ ?_
  refine Ok.thenN ?_
  refine Ok.seq ?_
  refine Ok.reg ?_
  refine Ok.seg (j := 4) (fun _ => [(4, iw 10)]) (fun _ => []) (fun _ => []) (fun _ => []) [.g [], .g [], .g [], .g []] [4] rfl (fun _ => by kernel_rfl) (fun _ => trivial) (fun _ => ?_)
  refine Ok.segEnd rfl ?_
  refine Ok.thenN ?_
  refine Ok.ret_ ?_
  exact Ok.ret1 (v := iw 10) (SLe.refl _) rfl rfl rfl
set_option maxRecDepth 100000 in
theorem x29_128 (H : Snap) : Does Tryd.prog 29 [.agg #[iw 3, iw 1, iw 10], .agg #[bF, iw 12, s0]] H [] (fun v H' kp => v = .agg #[bF, iw 10, s0]) := by
  refine Does.of Tryd.func29 rfl rfl rfl rfl (fun w0 H0 kx => ?_)
  refine Ok.seq ?_
  refine Ok.reg ?_
  refine Ok.seg (j := 3) (fun b1 => [(2, pt b1 0), (3, pt (b1 + 1) 0), (4, pt (b1 + 1 + 1) 0)]) (fun b1 => [.blk b1 [iw 3, iw 1, iw 10] 24, .blk (b1 + 1) [bF, iw 12, s0] 26, .blk (b1 + 1 + 1) [bF, iw 0, s0] 26]) (fun b1 => []) (fun b1 => []) [.g [.N], .g [.N], .g [.N]] [2, 3, 4] rfl (fun b1 => by kernel_rfl) (fun b1 => trivial) (fun b1 => ?_)
  refine Ok.segEnd rfl ?_
  refine Ok.thenN ?_
  refine Ok.seq ?_
  refine Ok.seq ?_
  refine Ok.reg ?_
  refine Ok.seg (j := 2) (fun _ => [(2, pt b1 0), (3, pt (b1 + 1) 0), (4, pt (b1 + 1 + 1) 0), (10, bF)]) (fun _ => [.blk b1 [iw 3, iw 1, iw 10] 24, .blk (b1 + 1) [bF, iw 12, s0] 26, .blk (b1 + 1 + 1) [bF, iw 0, s0] 26]) (fun _ => [b1 + 1]) (fun _ => []) [.g [], .g [.K 1 0]] [2, 3, 4, 10] rfl (fun _ => by kernel_rfl) (fun _ => trivial) (fun _ => ?_)
  refine Ok.segEnd rfl ?_
  refine Ok.thenN ?_
  refine Ok.condF rfl ?_
  refine Ok.skip_ ?_
  refine Ok.thenN ?_
  refine Ok.seq ?_
  refine Ok.seq ?_
  refine Ok.reg ?_
  refine Ok.seg (j := 2) (fun _ => [(2, pt b1 0), (3, pt (b1 + 1) 0), (4, pt (b1 + 1 + 1) 0), (13, iw 3)]) (fun _ => [.blk b1 [iw 3, iw 1, iw 10] 24, .blk (b1 + 1) [bF, iw 12, s0] 26, .blk (b1 + 1 + 1) [bF, iw 0, s0] 26]) (fun _ => [b1]) (fun _ => []) [.g [], .g [.K 0 0]] [2, 3, 4, 13] rfl (fun _ => by kernel_rfl) (fun _ => trivial) (fun _ => ?_)
  refine Ok.segEnd rfl ?_
  refine Ok.thenN ?_
  refine Ok.blk ?_
  refine Ok.seq ?_
  refine Ok.reg ?_
  refine Ok.seg (j := 2) (fun _ => [(2, pt b1 0), (3, pt (b1 + 1) 0), (4, pt (b1 + 1 + 1) 0), (13, iw 3), (14, bF)]) (fun _ => [.blk b1 [iw 3, iw 1, iw 10] 24, .blk (b1 + 1) [bF, iw 12, s0] 26, .blk (b1 + 1 + 1) [bF, iw 0, s0] 26]) (fun _ => []) (fun _ => []) [.g [], .g []] [2, 3, 4, 13, 14] rfl (fun _ => by kernel_rfl) (fun _ => trivial) (fun _ => ?_)
  refine Ok.segEnd rfl ?_
  refine Ok.thenN ?_
  refine Ok.condF rfl ?_
  refine Ok.seq ?_
  refine Ok.reg ?_
  refine Ok.seg (j := 2) (fun _ => [(2, pt b1 0), (3, pt (b1 + 1) 0), (4, pt (b1 + 1 + 1) 0), (13, iw 3), (45, bT)]) (fun _ => [.blk b1 [iw 3, iw 1, iw 10] 24, .blk (b1 + 1) [bF, iw 12, s0] 26, .blk (b1 + 1 + 1) [bF, iw 0, s0] 26]) (fun _ => []) (fun _ => []) [.g [], .g []] [2, 3, 4, 13, 45] rfl (fun _ => by kernel_rfl) (fun _ => trivial) (fun _ => ?_)
  refine Ok.segEnd rfl ?_
  refine Ok.thenN ?_
  refine Ok.condT rfl ?_
  refine Ok.seq ?_
  refine Ok.start (idx := [0, 1]) [] [.blk b1 [iw 3, iw 1, iw 10] 24, .blk (b1 + 1) [bF, iw 12, s0] 26] (by kernel_rfl) rfl rfl rfl ?_
  refine Ok.take (fuel' := 3) (l' := [true, true, true, true, false, true, true, true, true, true, true, true, true, true, false, false]) (qs := [(0, .g []), (1, .g [.K 1 1]), (2, .g []), (3, .g [.K 0 2]), (5, .g []), (6, .g [.K 1 2]), (7, .g []), (8, .g [.K 0 2]), (9, .g []), (10, .g [.K 1 2]), (11, .g []), (12, .g []), (13, .g [])]) [(3, pt (b1 + 1) 0), (4, pt (b1 + 1 + 1) 0), (48, iw 12), (50, iw 10), (60, s0)] [b1 + 1, b1, b1 + 1, b1, b1 + 1] [] [3, 4, 48, 50, 60] (by intro c a w d v h; cases d <;> exact h) (by kernel_rfl) rfl trivial ?_
  refine Ok.one (i := 4) (fuel' := 2) (l' := [true, true, true, true, true, true, true, true, true, true, true, true, true, true, false, false]) (by kernel_rfl) rfl rfl (Eff.call0 (d := some 51) (by kernel_rfl) (x54_129 H) ?_)
  rintro v6 H7 k9 le8 rfl
  refine Ok.dropL ?_
  refine Ok.withS (idx := [0, 1]) le8 rfl ?_
  refine Ok.take (fuel' := 1) (l' := [true, true, true, true, true, true, true, true, true, true, true, true, true, true, true, false]) (qs := [(14, .g [])]) [(3, pt (b1 + 1) 0), (4, pt (b1 + 1 + 1) 0), (61, .agg #[bF, iw 10, s0])] [] [] [3, 4, 61] (by intro c a w d v h; cases d <;> exact h) (by kernel_rfl) rfl trivial ?_
  refine Ok.one (i := 15) (fuel' := 0) (l' := [true, true, true, true, true, true, true, true, true, true, true, true, true, true, true, true]) (by kernel_rfl) rfl rfl (Eff.op (.g [.K 2 0, .K 2 1, .K 2 2]) (fun _ => [(3, pt (b1 + 1) 0), (4, pt (b1 + 1 + 1) 0)]) (fun _ => [.blk b1 [iw 3, iw 1, iw 10] 24, .blk (b1 + 1) [bF, iw 12, s0] 26, .blk (b1 + 1 + 1) [bF, iw 10, s0] 26]) (fun _ => [b1 + 1 + 1, b1 + 1 + 1, b1 + 1 + 1]) (fun _ => []) [3, 4] (fun _ => by kernel_rfl) (fun _ => trivial) (fun _ => ?_))
  refine Ok.withS (idx := [0, 1]) le8 rfl ?_
  refine Ok.done (by kernel_rfl) ?_
  refine Ok.thenN ?_
  refine Ok.ret_ ?_
  refine Ok.blkR ?_
  refine Ok.thenR ?_
  exact Ok.ret1c le8 [.K 2 0, .K 2 1, .K 2 2] (.agg #[bF, iw 10, s0]) [b1 + 1 + 1, b1 + 1 + 1, b1 + 1 + 1] rfl (by kernel_rfl) rfl
set_option maxRecDepth 100000 in
theorem x15_126 (H : Snap) (p0 p1 : Nat) (hp0 : Pre H p0 [iw 3, iw 1, iw 10]) (hp1 : Pre H p1 [iw 1, bF, iw 12, s0]) : Does Tryd.prog 15 [sl p0 0 1 1, .agg #[sl p1 0 1 1]] H [] (fun v H' kp => ∃ r0 : Nat, v = sl r0 0 1 1 ∧ Pre H' r0 [bF, iw 10, s0]) := by
  refine Does.of Tryd.func15 rfl rfl rfl rfl (fun w0 H0 kx => ?_)
  refine Ok.seq ?_
  refine Ok.reg ?_
  refine Ok.seg (j := 2) (fun b1 => [(0, sl p0 0 1 1), (3, pt b1 0), (4, n0)]) (fun b1 => [.blk b1 [sl p1 0 1 1] 30]) (fun b1 => []) (fun b1 => []) [.g [.N], .g []] [0, 3, 4] rfl (fun b1 => by kernel_rfl) (fun b1 => trivial) (fun b1 => ?_)
  refine Ok.segEnd rfl ?_
  refine Ok.thenN ?_
  refine Ok.seq ?_
  refine Ok.reg ?_
  refine Ok.seg (j := 4) (fun b2 => [(0, sl p0 0 1 1), (3, pt b1 0), (4, n0), (5, sl b2 0 1 1)]) (fun b2 => [.blk b1 [sl p1 0 1 1] 30, .blk b2 [bF, iw 0, s0] 26]) (fun b2 => []) (fun b2 => []) [.g [], .g [], .g [.N], .g []] [0, 3, 4, 5] rfl (fun b2 => by kernel_rfl) (fun b2 => trivial) (fun b2 => ?_)
  refine Ok.segEnd rfl ?_
  refine Ok.thenN ?_
  refine Ok.seq ?_
  refine Ok.seq ?_
  refine Ok.reg ?_
  refine Ok.seg (j := 3) (fun _ => [(3, pt b1 0), (4, n0), (5, sl b2 0 1 1), (11, sl p0 0 1 1), (12, iw 1), (13, iw 0)]) (fun _ => [.blk b1 [sl p1 0 1 1] 30, .blk b2 [bF, iw 0, s0] 26]) (fun _ => []) (fun _ => []) [.g [], .g [], .g []] [3, 4, 5, 11, 12, 13] rfl (fun _ => by kernel_rfl) (fun _ => trivial) (fun _ => ?_)
  refine Ok.segEnd rfl ?_
  refine Ok.thenN ?_
  refine Ok.blk ?_
  refine Ok.loopN 2 ?_
  refine Ok.round ?_
  refine Ok.seq ?_
  refine Ok.reg ?_
  refine Ok.seg (j := 1) (fun _ => [(3, pt b1 0), (4, n0), (5, sl b2 0 1 1), (11, sl p0 0 1 1), (12, iw 1), (13, iw 0), (14, bT)]) (fun _ => [.blk b1 [sl p1 0 1 1] 30, .blk b2 [bF, iw 0, s0] 26]) (fun _ => []) (fun _ => []) [.g []] [3, 4, 5, 11, 12, 13, 14] rfl (fun _ => by kernel_rfl) (fun _ => trivial) (fun _ => ?_)
  refine Ok.segEnd rfl ?_
  refine Ok.thenN ?_
  refine Ok.seq ?_
  refine Ok.condT rfl ?_
  refine Ok.skip_ ?_
  refine Ok.thenN ?_
  refine Ok.seq ?_
  refine Ok.blk ?_
  refine Ok.seq ?_
  refine Ok.reg ?_
  refine Ok.seg (j := 6) (fun b5 => [(3, pt b1 0), (4, n0), (5, sl b2 0 1 1), (6, iw 0), (7, pt b5 0), (11, sl p0 0 1 1), (12, iw 1), (13, iw 0), (14, bT), (15, iw 0), (16, pt p0 0), (17, .agg #[iw 3, iw 1, iw 10])]) (fun b5 => [.blk b1 [sl p1 0 1 1] 30, .blk b2 [bF, iw 0, s0] 26, .blk b5 [iw 3, iw 1, iw 10] 24]) (fun b5 => [b5, b5, b5]) (fun b5 => [HasCell H ⟨p0, 0, none⟩ (iw 3), HasCell H ⟨p0, 1, none⟩ (iw 1), HasCell H ⟨p0, 2, none⟩ (iw 10)]) [.g [], .g [], .g [.X (iw 3), .X (iw 1), .X (iw 10)], .g [.N], .g [], .g [.K 2 0, .K 2 1, .K 2 2]] [3, 4, 5, 6, 7, 11, 12, 13, 14, 15, 16, 17] rfl (fun b5 => by kernel_rfl) (fun b5 => ⟨Pre.cell hp0 0 rfl, Pre.cell hp0 1 rfl, Pre.cell hp0 2 rfl, trivial⟩) (fun b5 => ?_)
  refine Ok.segEnd rfl ?_
  refine Ok.thenN ?_
  refine Ok.start (idx := [0, 2]) [] [.blk b1 [sl p1 0 1 1] 30, .blk b5 [iw 3, iw 1, iw 10] 24] (by kernel_rfl) rfl rfl rfl ?_
  refine Ok.take (fuel' := 4) (l' := [true, true, true, true, true, true, false, false, false, false]) (qs := [(0, .g []), (1, .g []), (2, .g [.K 1 0, .K 1 1, .K 1 2]), (3, .g [.K 0 0]), (4, .g []), (5, .g [.K 1 1])]) [(3, pt b1 0), (4, n0), (5, sl b2 0 1 1), (6, iw 0), (7, pt b5 0), (11, sl p0 0 1 1), (12, iw 1), (13, iw 0), (14, bT), (15, iw 0), (16, pt p0 0), (17, .agg #[iw 3, iw 1, iw 10]), (18, sl b2 0 1 1), (19, iw 0), (20, .agg #[iw 3, iw 1, iw 10]), (21, .agg #[sl p1 0 1 1]), (22, pt b5 1), (23, iw 1)] [b5, b5, b5, b1, b5] [] [3, 4, 5, 6, 7, 11, 12, 13, 14, 15, 16, 17, 18, 19, 20, 21, 22, 23] (by intro c a w d v h; cases d <;> exact h) (by kernel_rfl) rfl trivial ?_
  refine Ok.one (i := 6) (fuel' := 3) (l' := [true, true, true, true, true, true, true, false, false, false]) (by kernel_rfl) rfl rfl (Eff.call0 (d := some 24) (by kernel_rfl) (x30_127 H p1 hp1) ?_)
  rintro v6 H7 k9 le8 rfl
  refine Ok.dropL ?_
  refine Ok.withS (idx := [0, 2]) le8 rfl ?_
  refine Ok.one (i := 7) (fuel' := 2) (l' := [true, true, true, true, true, true, true, true, false, false]) (by kernel_rfl) rfl rfl (Eff.call0 (d := some 25) (by kernel_rfl) (x29_128 H7) ?_)
  rintro v10 H11 k13 le12 rfl
  refine Ok.dropL ?_
  refine Ok.withS (idx := [0, 2]) (SLe.trans le8 le12) rfl ?_
  refine Ok.take (fuel' := 1) (l' := [true, true, true, true, true, true, true, true, true, false]) (qs := [(8, .g [])]) [(3, pt b1 0), (4, n0), (5, sl b2 0 1 1), (6, iw 0), (7, pt b5 0), (11, sl p0 0 1 1), (12, iw 1), (13, iw 0), (14, bT), (15, iw 0), (16, pt p0 0), (17, .agg #[iw 3, iw 1, iw 10]), (18, sl b2 0 1 1), (19, iw 0), (20, .agg #[iw 3, iw 1, iw 10]), (21, .agg #[sl p1 0 1 1]), (22, pt b5 1), (23, iw 1), (24, .agg #[bF, iw 12, s0]), (25, .agg #[bF, iw 10, s0]), (26, pt b2 0)] [] [] [3, 4, 5, 6, 7, 11, 12, 13, 14, 15, 16, 17, 18, 19, 20, 21, 22, 23, 24, 25, 26] (by intro c a w d v h; cases d <;> exact h) (by kernel_rfl) rfl trivial ?_
  refine Ok.one (i := 9) (fuel' := 0) (l' := [true, true, true, true, true, true, true, true, true, true]) (by kernel_rfl) rfl rfl (Eff.op (.g [.K 1 0, .K 1 1, .K 1 2]) (fun _ => [(3, pt b1 0), (4, n0), (5, sl b2 0 1 1), (6, iw 0), (7, pt b5 0), (11, sl p0 0 1 1), (12, iw 1), (13, iw 0), (14, bT), (15, iw 0), (16, pt p0 0), (17, .agg #[iw 3, iw 1, iw 10]), (18, sl b2 0 1 1), (19, iw 0), (20, .agg #[iw 3, iw 1, iw 10]), (21, .agg #[sl p1 0 1 1]), (22, pt b5 1), (23, iw 1), (24, .agg #[bF, iw 12, s0]), (25, .agg #[bF, iw 10, s0]), (26, pt b2 0)]) (fun _ => [.blk b1 [sl p1 0 1 1] 30, .blk b2 [bF, iw 10, s0] 26, .blk b5 [iw 3, iw 1, iw 10] 24]) (fun _ => [b2, b2, b2]) (fun _ => []) [3, 4, 5, 6, 7, 11, 12, 13, 14, 15, 16, 17, 18, 19, 20, 21, 22, 23, 24, 25, 26] (fun _ => by kernel_rfl) (fun _ => trivial) (fun _ => ?_))
  refine Ok.withS (idx := [0, 2]) (SLe.trans le8 le12) rfl ?_
  refine Ok.done (by kernel_rfl) ?_
  refine Ok.blkN ?_
  refine Ok.thenN ?_
  refine Ok.reg ?_
  refine Ok.seg (j := 2) (fun _ => [(3, pt b1 0), (4, n0), (5, sl b2 0 1 1), (6, iw 0), (7, pt b5 0), (11, sl p0 0 1 1), (12, iw 1), (13, iw 1), (14, bT), (15, iw 0), (16, pt p0 0), (17, .agg #[iw 3, iw 1, iw 10]), (18, sl b2 0 1 1), (19, iw 0), (20, .agg #[iw 3, iw 1, iw 10]), (21, .agg #[sl p1 0 1 1]), (22, pt b5 1), (23, iw 1), (24, .agg #[bF, iw 12, s0]), (25, .agg #[bF, iw 10, s0]), (26, pt b2 0), (27, iw 1)]) (fun _ => [.blk b1 [sl p1 0 1 1] 30, .blk b2 [bF, iw 10, s0] 26, .blk b5 [iw 3, iw 1, iw 10] 24]) (fun _ => []) (fun _ => []) [.g [], .g []] [3, 4, 5, 6, 7, 11, 12, 13, 14, 15, 16, 17, 18, 19, 20, 21, 22, 23, 24, 25, 26, 27] rfl (fun _ => by kernel_rfl) (fun _ => trivial) (fun _ => ?_)
  refine Ok.segEnd rfl ?_
  refine Ok.thenN ?_
  refine Ok.round ?_
  refine Ok.seq ?_
  refine Ok.reg ?_
  refine Ok.seg (j := 1) (fun _ => [(3, pt b1 0), (4, n0), (5, sl b2 0 1 1), (6, iw 0), (7, pt b5 0), (11, sl p0 0 1 1), (12, iw 1), (13, iw 1), (14, bF), (15, iw 0), (16, pt p0 0), (17, .agg #[iw 3, iw 1, iw 10]), (18, sl b2 0 1 1), (19, iw 0), (20, .agg #[iw 3, iw 1, iw 10]), (21, .agg #[sl p1 0 1 1]), (22, pt b5 1), (23, iw 1), (24, .agg #[bF, iw 12, s0]), (25, .agg #[bF, iw 10, s0]), (26, pt b2 0), (27, iw 1)]) (fun _ => [.blk b1 [sl p1 0 1 1] 30, .blk b2 [bF, iw 10, s0] 26, .blk b5 [iw 3, iw 1, iw 10] 24]) (fun _ => []) (fun _ => []) [.g []] [3, 4, 5, 6, 7, 11, 12, 13, 14, 15, 16, 17, 18, 19, 20, 21, 22, 23, 24, 25, 26, 27] rfl (fun _ => by kernel_rfl) (fun _ => trivial) (fun _ => ?_)
  refine Ok.segEnd rfl ?_
  refine Ok.thenN ?_
  refine Ok.seq ?_
  refine Ok.condF rfl ?_
  refine Ok.exit_ ?_
  refine Ok.thenE ?_
  refine Ok.thenE ?_
  refine Ok.blkE ?_
  refine Ok.thenN ?_
  refine Ok.seq ?_
  refine Ok.reg ?_
  refine Ok.seg (j := 2) (fun _ => [(4, sl b2 0 1 1)]) (fun _ => [.blk b1 [sl p1 0 1 1] 30, .blk b2 [bF, iw 10, s0] 26, .blk b5 [iw 3, iw 1, iw 10] 24]) (fun _ => []) (fun _ => []) [.g [], .g []] [4] rfl (fun _ => by kernel_rfl) (fun _ => trivial) (fun _ => ?_)
  refine Ok.mask [false, true, false] [.blk b2 [bF, iw 10, s0] 26] rfl ?_
  refine Ok.segEnd rfl ?_
  refine Ok.thenN ?_
  refine Ok.ret_ ?_
  refine Ok.pubP 0 rfl [] rfl ?_
  intro H18 le19 pf20
  exact Ok.ret1 (v := sl b2 0 1 1) (SLe.trans le8 (SLe.trans le12 le19)) rfl rfl ⟨b2, rfl, pf20⟩
set_option maxRecDepth 100000 in
theorem x72_132 (H : Snap) : Does Tryd.prog 72 [.int .u64 3] H [] (fun v H' kp => v = iw 2) := by
  refine Does.of Tryd.func72 rfl rfl rfl rfl (fun w0 H0 kx => ?_)
  refine Ok.seq ?_
  refine Ok.reg ?_
  refine Ok.seg (j := 1) (fun _ => [(0, .int .u64 3), (2, iw 0)]) (fun _ => []) (fun _ => []) (fun _ => []) [.g []] [0, 2] rfl (fun _ => by kernel_rfl) (fun _ => trivial) (fun _ => ?_)
  refine Ok.segEnd rfl ?_
  refine Ok.thenN ?_
  refine Ok.seq ?_
  refine Ok.seq ?_
  refine Ok.reg ?_
  refine Ok.seg (j := 2) (fun _ => [(0, .int .u64 3), (2, iw 0), (4, bF)]) (fun _ => []) (fun _ => []) (fun _ => []) [.g [], .g []] [0, 2, 4] rfl (fun _ => by kernel_rfl) (fun _ => trivial) (fun _ => ?_)
  refine Ok.segEnd rfl ?_
  refine Ok.thenN ?_
  refine Ok.condF rfl ?_
  refine Ok.skip_ ?_
  refine Ok.thenN ?_
  refine Ok.seq ?_
  refine Ok.seq ?_
  refine Ok.reg ?_
  refine Ok.seg (j := 2) (fun _ => [(0, .int .u64 3), (2, iw 0), (8, bF)]) (fun _ => []) (fun _ => []) (fun _ => []) [.g [], .g []] [0, 2, 8] rfl (fun _ => by kernel_rfl) (fun _ => trivial) (fun _ => ?_)
  refine Ok.segEnd rfl ?_
  refine Ok.thenN ?_
  refine Ok.condF rfl ?_
  refine Ok.skip_ ?_
  refine Ok.thenN ?_
  refine Ok.seq ?_
  refine Ok.seq ?_
  refine Ok.reg ?_
  refine Ok.seg (j := 2) (fun _ => [(0, .int .u64 3), (2, iw 0), (14, bF)]) (fun _ => []) (fun _ => []) (fun _ => []) [.g [], .g []] [0, 2, 14] rfl (fun _ => by kernel_rfl) (fun _ => trivial) (fun _ => ?_)
  refine Ok.segEnd rfl ?_
  refine Ok.thenN ?_
  refine Ok.condF rfl ?_
  refine Ok.skip_ ?_
  refine Ok.thenN ?_
  refine Ok.seq ?_
  refine Ok.reg ?_
  refine Ok.seg (j := 7) (fun _ => [(2, iw 2)]) (fun _ => []) (fun _ => []) (fun _ => []) [.g [], .g [], .g [], .g [], .g [], .g [], .g []] [2] rfl (fun _ => by kernel_rfl) (fun _ => trivial) (fun _ => ?_)
  refine Ok.segEnd rfl ?_
  refine Ok.thenN ?_
  refine Ok.ret_ ?_
  exact Ok.ret1 (v := iw 2) (SLe.refl _) rfl rfl rfl
set_option maxRecDepth 100000 in
theorem x42_131 (H : Snap) : Does Tryd.prog 42 [.int .u64 3] H [] (fun v H' kp => v = iw 2) := by
  refine Does.of Tryd.func42 rfl rfl rfl rfl (fun w0 H0 kx => ?_)
  refine Ok.seq ?_
  refine Ok.reg ?_
  refine Ok.seg (j := 1) (fun _ => [(0, .int .u64 3), (2, iw 0)]) (fun _ => []) (fun _ => []) (fun _ => []) [.g []] [0, 2] rfl (fun _ => by kernel_rfl) (fun _ => trivial) (fun _ => ?_)
  refine Ok.segEnd rfl ?_
  refine Ok.thenN ?_
  refine Ok.seq ?_
  refine Ok.condF rfl ?_
  refine Ok.skip_ ?_
  refine Ok.thenN ?_
  refine Ok.seq ?_
  refine Ok.reg ?_
  refine Ok.seg (j := 1) (fun _ => [(2, iw 0), (6, .int .u64 3)]) (fun _ => []) (fun _ => []) (fun _ => []) [.g []] [2, 6] rfl (fun _ => by kernel_rfl) (fun _ => trivial) (fun _ => ?_)
  refine Ok.eff (j := 2) rfl (Eff.call0 (d := some 7) (by kernel_rfl) (x72_132 H) ?_)
  rintro v3 H4 k6 le5 rfl
  refine Ok.dropL ?_
  refine Ok.seg (j := 3) (fun _ => [(2, iw 2)]) (fun _ => []) (fun _ => []) (fun _ => []) [.g []] [2] rfl (fun _ => by kernel_rfl) (fun _ => trivial) (fun _ => ?_)
  refine Ok.segEnd rfl ?_
  refine Ok.thenN ?_
  refine Ok.ret_ ?_
  exact Ok.ret1 (v := iw 2) le5 rfl rfl rfl
set_option maxRecDepth 100000 in
theorem x73_139 (H : Snap) : Does Tryd.prog 73 [iw 0] H [] (fun v H' kp => v = bF) := by
  refine Does.of Tryd.func73 rfl rfl rfl rfl (fun w0 H0 kx => ?_)
  refine Ok.seq ?_
  refine Ok.reg ?_
  refine Ok.seg (j := 1) (fun _ => [(0, iw 0), (2, bF)]) (fun _ => []) (fun _ => []) (fun _ => []) [.g []] [0, 2] rfl (fun _ => by kernel_rfl) (fun _ => trivial) (fun _ => ?_)
  refine Ok.segEnd rfl ?_
  refine Ok.thenN ?_
  refine Ok.seq ?_
  refine Ok.reg ?_
  refine Ok.seg (j := 4) (fun _ => [(2, bF)]) (fun _ => []) (fun _ => []) (fun _ => []) [.g [], .g [], .g [], .g []] [2] rfl (fun _ => by kernel_rfl) (fun _ => trivial) (fun _ => ?_)
  refine Ok.segEnd rfl ?_
  refine Ok.thenN ?_
  refine Ok.ret_ ?_
  exact Ok.ret1 (v := bF) (SLe.refl _) rfl rfl rfl
set_option maxRecDepth 100000 in
theorem x73_140 (H : Snap) : Does Tryd.prog 73 [iw 10] H [] (fun v H' kp => v = bF) := by
  refine Does.of Tryd.func73 rfl rfl rfl rfl (fun w0 H0 kx => ?_)
  refine Ok.seq ?_
  refine Ok.reg ?_
  refine Ok.seg (j := 1) (fun _ => [(0, iw 10), (2, bF)]) (fun _ => []) (fun _ => []) (fun _ => []) [.g []] [0, 2] rfl (fun _ => by kernel_rfl) (fun _ => trivial) (fun _ => ?_)
  refine Ok.segEnd rfl ?_
  refine Ok.thenN ?_
  refine Ok.seq ?_
  refine Ok.reg ?_
  refine Ok.seg (j := 4) (fun _ => [(2, bF)]) (fun _ => []) (fun _ => []) (fun _ => []) [.g [], .g [], .g [], .g []] [2] rfl (fun _ => by kernel_rfl) (fun _ => trivial) (fun _ => ?_)
  refine Ok.segEnd rfl ?_
  refine Ok.thenN ?_
  refine Ok.ret_ ?_
  exact Ok.ret1 (v := bF) (SLe.refl _) rfl rfl rfl
set_option maxRecDepth 100000 in
theorem x44_138 (H : Snap) : Does Tryd.prog 44 [iw 0, iw 10] H [] (fun v H' kp => v = iw (-1)) := by
  refine Does.of Tryd.func44 rfl rfl rfl rfl (fun w0 H0 kx => ?_)
  refine Ok.seq ?_
  refine Ok.reg ?_
  refine Ok.seg (j := 1) (fun _ => [(0, iw 0), (1, iw 10), (4, iw 0)]) (fun _ => []) (fun _ => []) (fun _ => []) [.g []] [0, 1, 4] rfl (fun _ => by kernel_rfl) (fun _ => trivial) (fun _ => ?_)
  refine Ok.segEnd rfl ?_
  refine Ok.thenN ?_
  refine Ok.seq ?_
  refine Ok.reg ?_
  refine Ok.seg (j := 1) (fun _ => [(0, iw 0), (1, iw 10), (4, iw 0), (7, iw 0)]) (fun _ => []) (fun _ => []) (fun _ => []) [.g []] [0, 1, 4, 7] rfl (fun _ => by kernel_rfl) (fun _ => trivial) (fun _ => ?_)
  refine Ok.eff (j := 2) rfl (Eff.call0 (d := some 8) (by kernel_rfl) (x73_139 H) ?_)
  rintro v3 H4 k6 le5 rfl
  refine Ok.dropL ?_
  refine Ok.seg (j := 3) (fun _ => [(0, iw 0), (1, iw 10), (4, iw 0), (5, bF)]) (fun _ => []) (fun _ => []) (fun _ => []) [.g []] [0, 1, 4, 5] rfl (fun _ => by kernel_rfl) (fun _ => trivial) (fun _ => ?_)
  refine Ok.segEnd rfl ?_
  refine Ok.thenN ?_
  refine Ok.seq ?_
  refine Ok.reg ?_
  refine Ok.seg (j := 1) (fun _ => [(0, iw 0), (1, iw 10), (4, iw 0), (5, bF), (9, iw 10)]) (fun _ => []) (fun _ => []) (fun _ => []) [.g []] [0, 1, 4, 5, 9] rfl (fun _ => by kernel_rfl) (fun _ => trivial) (fun _ => ?_)
  refine Ok.eff (j := 2) rfl (Eff.call0 (d := some 10) (by kernel_rfl) (x73_140 H4) ?_)
  rintro v9 H10 k12 le11 rfl
  refine Ok.dropL ?_
  refine Ok.seg (j := 3) (fun _ => [(0, iw 0), (1, iw 10), (4, iw 0), (5, bF), (6, bF)]) (fun _ => []) (fun _ => []) (fun _ => []) [.g []] [0, 1, 4, 5, 6] rfl (fun _ => by kernel_rfl) (fun _ => trivial) (fun _ => ?_)
  refine Ok.segEnd rfl ?_
  refine Ok.thenN ?_
  refine Ok.seq ?_
  refine Ok.seq ?_
  refine Ok.reg ?_
  refine Ok.seg (j := 1) (fun _ => [(0, iw 0), (1, iw 10), (4, iw 0), (6, bF), (11, bF)]) (fun _ => []) (fun _ => []) (fun _ => []) [.g []] [0, 1, 4, 6, 11] rfl (fun _ => by kernel_rfl) (fun _ => trivial) (fun _ => ?_)
  refine Ok.segEnd rfl ?_
  refine Ok.thenN ?_
  refine Ok.condF rfl ?_
  refine Ok.skip_ ?_
  refine Ok.thenN ?_
  refine Ok.seq ?_
  refine Ok.seq ?_
  refine Ok.reg ?_
  refine Ok.seg (j := 1) (fun _ => [(0, iw 0), (1, iw 10), (4, iw 0), (13, bF)]) (fun _ => []) (fun _ => []) (fun _ => []) [.g []] [0, 1, 4, 13] rfl (fun _ => by kernel_rfl) (fun _ => trivial) (fun _ => ?_)
  refine Ok.segEnd rfl ?_
  refine Ok.thenN ?_
  refine Ok.condF rfl ?_
  refine Ok.skip_ ?_
  refine Ok.thenN ?_
  refine Ok.seq ?_
  refine Ok.seq ?_
  refine Ok.reg ?_
  refine Ok.seg (j := 3) (fun _ => [(0, iw 0), (1, iw 10), (4, iw 0), (16, bT)]) (fun _ => []) (fun _ => []) (fun _ => []) [.g [], .g [], .g []] [0, 1, 4, 16] rfl (fun _ => by kernel_rfl) (fun _ => trivial) (fun _ => ?_)
  refine Ok.segEnd rfl ?_
  refine Ok.thenN ?_
  refine Ok.condT rfl ?_
  refine Ok.seq ?_
  refine Ok.reg ?_
  refine Ok.seg (j := 1) (fun _ => [(0, iw 0), (1, iw 10), (4, iw (-1))]) (fun _ => []) (fun _ => []) (fun _ => []) [.g []] [0, 1, 4] rfl (fun _ => by kernel_rfl) (fun _ => trivial) (fun _ => ?_)
  refine Ok.segEnd rfl ?_
  refine Ok.thenN ?_
  refine Ok.ret_ ?_
  refine Ok.thenR ?_
  exact Ok.ret1 (v := iw (-1)) (SLe.trans le5 le11) rfl rfl rfl
set_option maxRecDepth 100000 in
theorem x74_142 (H : Snap) : Does Tryd.prog 74 [s0, s0] H [] (fun v H' kp => v = iw 0) := by
  refine Does.of Tryd.func74 rfl rfl rfl rfl (fun w0 H0 kx => ?_)
  refine Ok.seq ?_
  refine Ok.reg ?_
  refine Ok.seg (j := 1) (fun _ => [(0, s0), (1, s0), (4, iw 0)]) (fun _ => []) (fun _ => []) (fun _ => []) [.g []] [0, 1, 4] rfl (fun _ => by kernel_rfl) (fun _ => trivial) (fun _ => ?_)
  refine Ok.segEnd rfl ?_
  refine Ok.thenN ?_
  refine Ok.seq ?_
  refine Ok.reg ?_
  refine Ok.seg (j := 4) (fun _ => [(4, iw 0)]) (fun _ => []) (fun _ => []) (fun _ => []) [.g [], .g [], .g [], .g []] [4] rfl (fun _ => by kernel_rfl) (fun _ => trivial) (fun _ => ?_)
  refine Ok.segEnd rfl ?_
  refine Ok.thenN ?_
  refine Ok.ret_ ?_
  exact Ok.ret1 (v := iw 0) (SLe.refl _) rfl rfl rfl
set_option maxRecDepth 100000 in
theorem x45_141 (H : Snap) : Does Tryd.prog 45 [s0, s0] H [] (fun v H' kp => v = iw 0) := by
  refine Does.of Tryd.func45 rfl rfl rfl rfl (fun w0 H0 kx => ?_)
  refine Ok.seq ?_
  refine Ok.reg ?_
  refine Ok.seg (j := 1) (fun _ => [(0, s0), (1, s0), (4, iw 0)]) (fun _ => []) (fun _ => []) (fun _ => []) [.g []] [0, 1, 4] rfl (fun _ => by kernel_rfl) (fun _ => trivial) (fun _ => ?_)
  refine Ok.segEnd rfl ?_
  refine Ok.thenN ?_
  refine Ok.seq ?_
  refine Ok.reg ?_
  refine Ok.seg (j := 2) (fun _ => [(4, iw 0), (5, s0), (6, s0)]) (fun _ => []) (fun _ => []) (fun _ => []) [.g [], .g []] [4, 5, 6] rfl (fun _ => by kernel_rfl) (fun _ => trivial) (fun _ => ?_)
  refine Ok.eff (j := 3) rfl (Eff.call0 (d := some 7) (by kernel_rfl) (x74_142 H) ?_)
  rintro v3 H4 k6 le5 rfl
  refine Ok.dropL ?_
  refine Ok.seg (j := 4) (fun _ => [(4, iw 0)]) (fun _ => []) (fun _ => []) (fun _ => []) [.g []] [4] rfl (fun _ => by kernel_rfl) (fun _ => trivial) (fun _ => ?_)
  refine Ok.segEnd rfl ?_
  refine Ok.thenN ?_
  refine Ok.ret_ ?_
  exact Ok.ret1 (v := iw 0) le5 rfl rfl rfl
set_option maxRecDepth 100000 in
theorem x43_143 (H : Snap) (p0 : Nat) (hp0 : Pre H p0 [iw (-1), iw 0]) : Does Tryd.prog 43 [sl p0 0 2 2] H [] (fun v H' kp => v = iw (-1)) := by
  refine Does.of Tryd.func43 rfl rfl rfl rfl (fun w0 H0 kx => ?_)
  refine Ok.seq ?_
  refine Ok.reg ?_
  refine Ok.seg (j := 1) (fun _ => [(0, sl p0 0 2 2), (2, iw 0)]) (fun _ => []) (fun _ => []) (fun _ => []) [.g []] [0, 2] rfl (fun _ => by kernel_rfl) (fun _ => trivial) (fun _ => ?_)
  refine Ok.segEnd rfl ?_
  refine Ok.thenN ?_
  refine Ok.seq ?_
  refine Ok.reg ?_
  refine Ok.seg (j := 1) (fun _ => [(0, sl p0 0 2 2), (2, iw 0), (3, iw 0)]) (fun _ => []) (fun _ => []) (fun _ => []) [.g []] [0, 2, 3] rfl (fun _ => by kernel_rfl) (fun _ => trivial) (fun _ => ?_)
  refine Ok.segEnd rfl ?_
  refine Ok.thenN ?_
  refine Ok.seq ?_
  refine Ok.seq ?_
  refine Ok.reg ?_
  refine Ok.seg (j := 3) (fun _ => [(2, iw 0), (3, iw 0), (6, sl p0 0 2 2), (7, iw 2), (8, iw 0)]) (fun _ => []) (fun _ => []) (fun _ => []) [.g [], .g [], .g []] [2, 3, 6, 7, 8] rfl (fun _ => by kernel_rfl) (fun _ => trivial) (fun _ => ?_)
  refine Ok.segEnd rfl ?_
  refine Ok.thenN ?_
  refine Ok.blk ?_
  refine Ok.loopN 1 ?_
  refine Ok.round ?_
  refine Ok.seq ?_
  refine Ok.reg ?_
  refine Ok.seg (j := 1) (fun _ => [(2, iw 0), (3, iw 0), (6, sl p0 0 2 2), (7, iw 2), (8, iw 0), (9, bT)]) (fun _ => []) (fun _ => []) (fun _ => []) [.g []] [2, 3, 6, 7, 8, 9] rfl (fun _ => by kernel_rfl) (fun _ => trivial) (fun _ => ?_)
  refine Ok.segEnd rfl ?_
  refine Ok.thenN ?_
  refine Ok.seq ?_
  refine Ok.condT rfl ?_
  refine Ok.skip_ ?_
  refine Ok.thenN ?_
  refine Ok.seq ?_
  refine Ok.blk ?_
  refine Ok.seq ?_
  refine Ok.reg ?_
  refine Ok.seg (j := 3) (fun _ => [(2, iw 0), (3, iw 0), (5, iw (-1)), (6, sl p0 0 2 2), (7, iw 2), (8, iw 0), (9, bT), (10, pt p0 0), (11, iw (-1))]) (fun _ => []) (fun _ => []) (fun _ => [HasCell H ⟨p0, 0, none⟩ (iw (-1))]) [.g [], .g [.X (iw (-1))], .g []] [2, 3, 5, 6, 7, 8, 9, 10, 11] rfl (fun _ => by kernel_rfl) (fun _ => ⟨Pre.cell hp0 0 rfl, trivial⟩) (fun _ => ?_)
  refine Ok.segEnd rfl ?_
  refine Ok.thenN ?_
  refine Ok.seq ?_
  refine Ok.reg ?_
  refine Ok.seg (j := 3) (fun _ => [(2, iw 0), (3, iw 0), (5, iw (-1)), (6, sl p0 0 2 2), (7, iw 2), (8, iw 0), (9, bT), (10, pt p0 0), (11, iw (-1)), (12, iw (-1)), (13, iw 0), (14, bT)]) (fun _ => []) (fun _ => []) (fun _ => []) [.g [], .g [], .g []] [2, 3, 5, 6, 7, 8, 9, 10, 11, 12, 13, 14] rfl (fun _ => by kernel_rfl) (fun _ => trivial) (fun _ => ?_)
  refine Ok.segEnd rfl ?_
  refine Ok.thenN ?_
  refine Ok.condT rfl ?_
  refine Ok.seq ?_
  refine Ok.reg ?_
  refine Ok.seg (j := 2) (fun _ => [(2, iw (-1)), (3, iw 0), (5, iw (-1)), (6, sl p0 0 2 2), (7, iw 2), (8, iw 0), (9, bT), (10, pt p0 0), (11, iw (-1)), (12, iw (-1)), (13, iw 0), (14, bT), (15, iw (-1))]) (fun _ => []) (fun _ => []) (fun _ => []) [.g [], .g []] [2, 3, 5, 6, 7, 8, 9, 10, 11, 12, 13, 14, 15] rfl (fun _ => by kernel_rfl) (fun _ => trivial) (fun _ => ?_)
  refine Ok.segEnd rfl ?_
  refine Ok.thenN ?_
  refine Ok.ret_ ?_
  refine Ok.blkR ?_
  refine Ok.thenR ?_
  refine Ok.thenR ?_
  refine Ok.blkR ?_
  refine Ok.thenR ?_
  exact Ok.ret1 (v := iw (-1)) (SLe.refl _) rfl rfl rfl
set_option maxRecDepth 100000 in
theorem x26_137 (H : Snap) : Does Tryd.prog 26 [.agg #[bF, iw 0, s0], .agg #[bF, iw 10, s0]] H [] (fun v H' kp => v = iw (-1)) := by
  refine Does.of Tryd.func26 rfl rfl rfl rfl (fun w0 H0 kx => ?_)
  refine Ok.seq ?_
  refine Ok.reg ?_
  refine Ok.seg (j := 3) (fun b1 => [(2, pt b1 0), (3, pt (b1 + 1) 0), (4, iw 0)]) (fun b1 => [.blk b1 [bF, iw 0, s0] 26, .blk (b1 + 1) [bF, iw 10, s0] 26]) (fun b1 => []) (fun b1 => []) [.g [.N], .g [.N], .g []] [2, 3, 4] rfl (fun b1 => by kernel_rfl) (fun b1 => trivial) (fun b1 => ?_)
  refine Ok.segEnd rfl ?_
  refine Ok.thenN ?_
  refine Ok.seq ?_
  refine Ok.seq ?_
  refine Ok.reg ?_
  refine Ok.seg (j := 5) (fun _ => [(2, pt b1 0), (3, pt (b1 + 1) 0), (4, iw 0), (9, bF)]) (fun _ => [.blk b1 [bF, iw 0, s0] 26, .blk (b1 + 1) [bF, iw 10, s0] 26]) (fun _ => [b1, b1 + 1]) (fun _ => []) [.g [], .g [.K 0 0], .g [], .g [.K 1 0], .g []] [2, 3, 4, 9] rfl (fun _ => by kernel_rfl) (fun _ => trivial) (fun _ => ?_)
  refine Ok.segEnd rfl ?_
  refine Ok.thenN ?_
  refine Ok.condF rfl ?_
  refine Ok.skip_ ?_
  refine Ok.thenN ?_
  refine Ok.seq ?_
  refine Ok.start (idx := [0, 1]) [] [.blk b1 [bF, iw 0, s0] 26, .blk (b1 + 1) [bF, iw 10, s0] 26] (by kernel_rfl) rfl rfl rfl ?_
  refine Ok.take (fuel' := 5) (l' := [true, true, true, true, false, true, true, true, true, false, false, false, false]) (qs := [(0, .g []), (1, .g [.K 0 1]), (2, .g []), (3, .g [.K 1 1]), (5, .g []), (6, .g [.K 0 2]), (7, .g []), (8, .g [.K 1 2])]) [(4, iw 0), (13, iw 0), (15, iw 10), (18, s0), (20, s0)] [b1, b1 + 1, b1, b1 + 1] [] [4, 13, 15, 18, 20] (by intro c a w d v h; cases d <;> exact h) (by kernel_rfl) rfl trivial ?_
  refine Ok.one (i := 4) (fuel' := 4) (l' := [true, true, true, true, true, true, true, true, true, false, false, false, false]) (by kernel_rfl) rfl rfl (Eff.call0 (d := some 16) (by kernel_rfl) (x44_138 H) ?_)
  rintro v3 H4 k6 le5 rfl
  refine Ok.dropL ?_
  refine Ok.withS (idx := [0, 1]) le5 rfl ?_
  refine Ok.one (i := 9) (fuel' := 3) (l' := [true, true, true, true, true, true, true, true, true, true, false, false, false]) (by kernel_rfl) rfl rfl (Eff.call0 (d := some 21) (by kernel_rfl) (x45_141 H4) ?_)
  rintro v7 H8 k10 le9 rfl
  refine Ok.dropL ?_
  refine Ok.withS (idx := [0, 1]) (SLe.trans le5 le9) rfl ?_
  refine Ok.one (i := 10) (fuel' := 2) (l' := [true, true, true, true, true, true, true, true, true, true, true, false, false]) (by kernel_rfl) rfl rfl (Eff.op (.g [.N]) (fun b11 => [(4, iw 0), (22, sl b11 0 2 2)]) (fun b11 => [.blk b1 [bF, iw 0, s0] 26, .blk (b1 + 1) [bF, iw 10, s0] 26, .blk b11 [iw (-1), iw 0] 3]) (fun b11 => []) (fun b11 => []) [4, 22] (fun b11 => by kernel_rfl) (fun b11 => trivial) (fun b11 => ?_))
  refine Ok.withS (idx := [0, 1]) (SLe.trans le5 le9) rfl ?_
  refine Ok.pubP 2 rfl [.blk b1 [bF, iw 0, s0] 26, .blk (b1 + 1) [bF, iw 10, s0] 26] rfl ?_
  intro H12 le13 pf14
  refine Ok.one (i := 11) (fuel' := 1) (l' := [true, true, true, true, true, true, true, true, true, true, true, true, false]) (by kernel_rfl) rfl rfl (Eff.call0 (d := some 23) (by kernel_rfl) (x43_143 H12 b11 pf14) ?_)
  rintro v15 H16 k18 le17 rfl
  refine Ok.dropL ?_
  refine Ok.withS (idx := [0, 1]) (SLe.trans le5 (SLe.trans le9 (SLe.trans le13 le17))) rfl ?_
  refine Ok.one (i := 12) (fuel' := 0) (l' := [true, true, true, true, true, true, true, true, true, true, true, true, true]) (by kernel_rfl) rfl rfl (Eff.op (.g []) (fun _ => [(4, iw (-1))]) (fun _ => [.blk b1 [bF, iw 0, s0] 26, .blk (b1 + 1) [bF, iw 10, s0] 26]) (fun _ => []) (fun _ => []) [4] (fun _ => by kernel_rfl) (fun _ => trivial) (fun _ => ?_))
  refine Ok.withS (idx := [0, 1]) (SLe.trans le5 (SLe.trans le9 (SLe.trans le13 le17))) rfl ?_
  refine Ok.done (by kernel_rfl) ?_
  refine Ok.thenN ?_
  refine Ok.ret_ ?_
  refine Ok.dropAll ?_
  exact Ok.ret1 (v := iw (-1)) (SLe.trans le5 (SLe.trans le9 (SLe.trans le13 le17))) rfl rfl rfl
set_option maxRecDepth 100000 in
theorem x25_136 (H : Snap) (p0 p1 : Nat) (hp0 : Pre H p0 [bF, iw 0, s0]) (hp1 : Pre H p1 [bF, iw 10, s0]) : Does Tryd.prog 25 [sl p0 0 1 1, sl p1 0 1 1, .func (.func 26) #[] #[]] H [] (fun v H' kp => v = iw (-1)) := by
  refine Does.of Tryd.func25 rfl rfl rfl rfl (fun w0 H0 kx => ?_)
  refine Ok.seq ?_
  refine Ok.reg ?_
  refine Ok.seg (j := 1) (fun _ => [(0, sl p0 0 1 1), (1, sl p1 0 1 1), (2, .func (.func 26) #[] #[]), (6, iw 0)]) (fun _ => []) (fun _ => []) (fun _ => []) [.g []] [0, 1, 2, 6] rfl (fun _ => by kernel_rfl) (fun _ => trivial) (fun _ => ?_)
  refine Ok.segEnd rfl ?_
  refine Ok.thenN ?_
  refine Ok.seq ?_
  refine Ok.seq ?_
  refine Ok.reg ?_
  refine Ok.seg (j := 3) (fun _ => [(0, sl p0 0 1 1), (1, sl p1 0 1 1), (2, .func (.func 26) #[] #[]), (6, iw 0), (11, sl p0 0 1 1), (12, iw 1), (13, iw 0)]) (fun _ => []) (fun _ => []) (fun _ => []) [.g [], .g [], .g []] [0, 1, 2, 6, 11, 12, 13] rfl (fun _ => by kernel_rfl) (fun _ => trivial) (fun _ => ?_)
  refine Ok.segEnd rfl ?_
  refine Ok.thenN ?_
  refine Ok.blk ?_
  refine Ok.loopN 1 ?_
  refine Ok.round ?_
  refine Ok.seq ?_
  refine Ok.reg ?_
  refine Ok.seg (j := 1) (fun _ => [(0, sl p0 0 1 1), (1, sl p1 0 1 1), (2, .func (.func 26) #[] #[]), (6, iw 0), (11, sl p0 0 1 1), (12, iw 1), (13, iw 0), (14, bT)]) (fun _ => []) (fun _ => []) (fun _ => []) [.g []] [0, 1, 2, 6, 11, 12, 13, 14] rfl (fun _ => by kernel_rfl) (fun _ => trivial) (fun _ => ?_)
  refine Ok.segEnd rfl ?_
  refine Ok.thenN ?_
  refine Ok.seq ?_
  refine Ok.condT rfl ?_
  refine Ok.skip_ ?_
  refine Ok.thenN ?_
  refine Ok.seq ?_
  refine Ok.blk ?_
  refine Ok.seq ?_
  refine Ok.reg ?_
  refine Ok.seg (j := 6) (fun b4 => [(0, sl p0 0 1 1), (1, sl p1 0 1 1), (2, .func (.func 26) #[] #[]), (6, iw 0), (7, iw 0), (8, pt b4 0), (11, sl p0 0 1 1), (12, iw 1), (13, iw 0), (14, bT), (15, iw 0), (16, pt p0 0), (17, .agg #[bF, iw 0, s0])]) (fun b4 => [.blk b4 [bF, iw 0, s0] 26]) (fun b4 => [b4, b4, b4]) (fun b4 => [HasCell H ⟨p0, 0, none⟩ (bF), HasCell H ⟨p0, 1, none⟩ (iw 0), HasCell H ⟨p0, 2, none⟩ (s0)]) [.g [], .g [], .g [.X (bF), .X (iw 0), .X (s0)], .g [.N], .g [], .g [.K 0 0, .K 0 1, .K 0 2]] [0, 1, 2, 6, 7, 8, 11, 12, 13, 14, 15, 16, 17] rfl (fun b4 => by kernel_rfl) (fun b4 => ⟨Pre.cell hp0 0 rfl, Pre.cell hp0 1 rfl, Pre.cell hp0 2 rfl, trivial⟩) (fun b4 => ?_)
  refine Ok.segEnd rfl ?_
  refine Ok.thenN ?_
  refine Ok.seq ?_
  refine Ok.seq ?_
  refine Ok.reg ?_
  refine Ok.seg (j := 4) (fun _ => [(0, sl p0 0 1 1), (1, sl p1 0 1 1), (2, .func (.func 26) #[] #[]), (6, iw 0), (7, iw 0), (8, pt b4 0), (11, sl p0 0 1 1), (12, iw 1), (13, iw 0), (14, bT), (15, iw 0), (16, pt p0 0), (17, .agg #[bF, iw 0, s0]), (18, iw 0), (19, sl p1 0 1 1), (20, iw 1), (21, bF)]) (fun _ => [.blk b4 [bF, iw 0, s0] 26]) (fun _ => []) (fun _ => []) [.g [], .g [], .g [], .g []] [0, 1, 2, 6, 7, 8, 11, 12, 13, 14, 15, 16, 17, 18, 19, 20, 21] rfl (fun _ => by kernel_rfl) (fun _ => trivial) (fun _ => ?_)
  refine Ok.segEnd rfl ?_
  refine Ok.thenN ?_
  refine Ok.condF rfl ?_
  refine Ok.skip_ ?_
  refine Ok.thenN ?_
  refine Ok.seq ?_
  refine Ok.reg ?_
  refine Ok.seg (j := 6) (fun b6 => [(0, sl p0 0 1 1), (1, sl p1 0 1 1), (2, .func (.func 26) #[] #[]), (6, iw 0), (7, iw 0), (8, pt b4 0), (9, pt b6 0), (11, sl p0 0 1 1), (12, iw 1), (13, iw 0), (14, bT), (15, iw 0), (16, pt p0 0), (17, .agg #[bF, iw 0, s0]), (18, iw 0), (19, sl p1 0 1 1), (20, iw 1), (21, bF), (22, sl p1 0 1 1), (23, iw 0), (24, pt p1 0), (25, .agg #[bF, iw 10, s0])]) (fun b6 => [.blk b4 [bF, iw 0, s0] 26, .blk b6 [bF, iw 10, s0] 26]) (fun b6 => [b6, b6, b6]) (fun b6 => [HasCell H ⟨p1, 0, none⟩ (bF), HasCell H ⟨p1, 1, none⟩ (iw 10), HasCell H ⟨p1, 2, none⟩ (s0)]) [.g [], .g [], .g [], .g [.X (bF), .X (iw 10), .X (s0)], .g [.N], .g [.K 1 0, .K 1 1, .K 1 2]] [0, 1, 2, 6, 7, 8, 9, 11, 12, 13, 14, 15, 16, 17, 18, 19, 20, 21, 22, 23, 24, 25] rfl (fun b6 => by kernel_rfl) (fun b6 => ⟨Pre.cell hp1 0 rfl, Pre.cell hp1 1 rfl, Pre.cell hp1 2 rfl, trivial⟩) (fun b6 => ?_)
  refine Ok.segEnd rfl ?_
  refine Ok.thenN ?_
  refine Ok.seq ?_
  refine Ok.reg ?_
  refine Ok.seg (j := 3) (fun _ => [(0, sl p0 0 1 1), (1, sl p1 0 1 1), (2, .func (.func 26) #[] #[]), (6, iw 0), (7, iw 0), (8, pt b4 0), (9, pt b6 0), (11, sl p0 0 1 1), (12, iw 1), (13, iw 0), (14, bT), (15, iw 0), (16, pt p0 0), (17, .agg #[bF, iw 0, s0]), (18, iw 0), (19, sl p1 0 1 1), (20, iw 1), (21, bF), (22, sl p1 0 1 1), (23, iw 0), (24, pt p1 0), (25, .agg #[bF, iw 10, s0]), (26, .func (.func 26) #[] #[]), (27, .agg #[bF, iw 0, s0]), (28, .agg #[bF, iw 10, s0])]) (fun _ => [.blk b4 [bF, iw 0, s0] 26, .blk b6 [bF, iw 10, s0] 26]) (fun _ => [b4, b4, b4, b6, b6, b6]) (fun _ => []) [.g [], .g [.K 0 0, .K 0 1, .K 0 2], .g [.K 1 0, .K 1 1, .K 1 2]] [0, 1, 2, 6, 7, 8, 9, 11, 12, 13, 14, 15, 16, 17, 18, 19, 20, 21, 22, 23, 24, 25, 26, 27, 28] rfl (fun _ => by kernel_rfl) (fun _ => trivial) (fun _ => ?_)
  refine Ok.eff (j := 4) rfl (Eff.call0 (d := some 29) (by kernel_rfl) (x26_137 H) ?_)
  rintro v8 H9 k11 le10 rfl
  refine Ok.dropL ?_
  refine Ok.seg (j := 5) (fun _ => [(0, sl p0 0 1 1), (1, sl p1 0 1 1), (2, .func (.func 26) #[] #[]), (6, iw 0), (7, iw 0), (8, pt b4 0), (9, pt b6 0), (10, iw (-1)), (11, sl p0 0 1 1), (12, iw 1), (13, iw 0), (14, bT), (15, iw 0), (16, pt p0 0), (17, .agg #[bF, iw 0, s0]), (18, iw 0), (19, sl p1 0 1 1), (20, iw 1), (21, bF), (22, sl p1 0 1 1), (23, iw 0), (24, pt p1 0), (25, .agg #[bF, iw 10, s0]), (26, .func (.func 26) #[] #[]), (27, .agg #[bF, iw 0, s0]), (28, .agg #[bF, iw 10, s0]), (29, iw (-1))]) (fun _ => [.blk b4 [bF, iw 0, s0] 26, .blk b6 [bF, iw 10, s0] 26]) (fun _ => []) (fun _ => []) [.g []] [0, 1, 2, 6, 7, 8, 9, 10, 11, 12, 13, 14, 15, 16, 17, 18, 19, 20, 21, 22, 23, 24, 25, 26, 27, 28, 29] rfl (fun _ => by kernel_rfl) (fun _ => trivial) (fun _ => ?_)
  refine Ok.segEnd rfl ?_
  refine Ok.thenN ?_
  refine Ok.seq ?_
  refine Ok.reg ?_
  refine Ok.seg (j := 2) (fun _ => [(0, sl p0 0 1 1), (1, sl p1 0 1 1), (2, .func (.func 26) #[] #[]), (6, iw 0), (7, iw 0), (8, pt b4 0), (9, pt b6 0), (10, iw (-1)), (11, sl p0 0 1 1), (12, iw 1), (13, iw 0), (14, bT), (15, iw 0), (16, pt p0 0), (17, .agg #[bF, iw 0, s0]), (18, iw 0), (19, sl p1 0 1 1), (20, iw 1), (21, bF), (22, sl p1 0 1 1), (23, iw 0), (24, pt p1 0), (25, .agg #[bF, iw 10, s0]), (26, .func (.func 26) #[] #[]), (27, .agg #[bF, iw 0, s0]), (28, .agg #[bF, iw 10, s0]), (29, iw (-1)), (30, iw (-1)), (31, bT)]) (fun _ => [.blk b4 [bF, iw 0, s0] 26, .blk b6 [bF, iw 10, s0] 26]) (fun _ => []) (fun _ => []) [.g [], .g []] [0, 1, 2, 6, 7, 8, 9, 10, 11, 12, 13, 14, 15, 16, 17, 18, 19, 20, 21, 22, 23, 24, 25, 26, 27, 28, 29, 30, 31] rfl (fun _ => by kernel_rfl) (fun _ => trivial) (fun _ => ?_)
  refine Ok.segEnd rfl ?_
  refine Ok.thenN ?_
  refine Ok.condT rfl ?_
  refine Ok.seq ?_
  refine Ok.reg ?_
  refine Ok.seg (j := 2) (fun _ => [(0, sl p0 0 1 1), (1, sl p1 0 1 1), (2, .func (.func 26) #[] #[]), (6, iw (-1)), (7, iw 0), (8, pt b4 0), (9, pt b6 0), (10, iw (-1)), (11, sl p0 0 1 1), (12, iw 1), (13, iw 0), (14, bT), (15, iw 0), (16, pt p0 0), (17, .agg #[bF, iw 0, s0]), (18, iw 0), (19, sl p1 0 1 1), (20, iw 1), (21, bF), (22, sl p1 0 1 1), (23, iw 0), (24, pt p1 0), (25, .agg #[bF, iw 10, s0]), (26, .func (.func 26) #[] #[]), (27, .agg #[bF, iw 0, s0]), (28, .agg #[bF, iw 10, s0]), (29, iw (-1)), (30, iw (-1)), (31, bT), (32, iw (-1))]) (fun _ => [.blk b4 [bF, iw 0, s0] 26, .blk b6 [bF, iw 10, s0] 26]) (fun _ => []) (fun _ => []) [.g [], .g []] [0, 1, 2, 6, 7, 8, 9, 10, 11, 12, 13, 14, 15, 16, 17, 18, 19, 20, 21, 22, 23, 24, 25, 26, 27, 28, 29, 30, 31, 32] rfl (fun _ => by kernel_rfl) (fun _ => trivial) (fun _ => ?_)
  refine Ok.segEnd rfl ?_
  refine Ok.thenN ?_
  refine Ok.ret_ ?_
  refine Ok.blkR ?_
  refine Ok.thenR ?_
  refine Ok.thenR ?_
  refine Ok.blkR ?_
  refine Ok.thenR ?_
  refine Ok.dropAll ?_
  exact Ok.ret1 (v := iw (-1)) le10 rfl rfl rfl
set_option maxRecDepth 100000 in
theorem x24_135 (H : Snap) (p0 p1 p2 p3 : Nat) (c0 c1 : Nat) (hp0 : Pre H p0 [bF, iw 0, s0]) (hp1 : Pre H p1 [iw 1]) (hp2 : Pre H p2 [bF, iw 10, s0]) (hp3 : Pre H p3 [iw 0, iw 2]) : Does Tryd.prog 24 [.agg #[sl p0 0 1 1, sl p1 0 1 c0], .agg #[sl p2 0 1 1, sl p3 0 2 c1]] H [] (fun v H' kp => v = iw (-1)) := by
  refine Does.of Tryd.func24 rfl rfl rfl rfl (fun w0 H0 kx => ?_)
  refine Ok.seq ?_
  refine Ok.reg ?_
  refine Ok.seg (j := 3) (fun b1 => [(2, pt b1 0), (3, pt (b1 + 1) 0), (4, iw 0)]) (fun b1 => [.blk b1 [sl p0 0 1 1, sl p1 0 1 c0] 71, .blk (b1 + 1) [sl p2 0 1 1, sl p3 0 2 c1] 71]) (fun b1 => []) (fun b1 => []) [.g [.N], .g [.N], .g []] [2, 3, 4] rfl (fun b1 => by kernel_rfl) (fun b1 => trivial) (fun b1 => ?_)
  refine Ok.segEnd rfl ?_
  refine Ok.thenN ?_
  refine Ok.seq ?_
  refine Ok.reg ?_
  refine Ok.seg (j := 4) (fun _ => [(4, iw 0), (6, sl p0 0 1 1), (8, sl p2 0 1 1)]) (fun _ => [.blk b1 [sl p0 0 1 1, sl p1 0 1 c0] 71, .blk (b1 + 1) [sl p2 0 1 1, sl p3 0 2 c1] 71]) (fun _ => [b1, b1 + 1]) (fun _ => []) [.g [], .g [.K 0 0], .g [], .g [.K 1 0]] [4, 6, 8] rfl (fun _ => by kernel_rfl) (fun _ => trivial) (fun _ => ?_)
  refine Ok.mask [false, false] [] rfl ?_
  refine Ok.eff (j := 5) rfl (Eff.call0 (d := some 9) (by kernel_rfl) (x25_136 H p0 p2 hp0 hp2) ?_)
  rintro v3 H4 k6 le5 rfl
  refine Ok.dropL ?_
  refine Ok.seg (j := 6) (fun _ => [(4, iw (-1))]) (fun _ => []) (fun _ => []) (fun _ => []) [.g []] [4] rfl (fun _ => by kernel_rfl) (fun _ => trivial) (fun _ => ?_)
  refine Ok.segEnd rfl ?_
  refine Ok.thenN ?_
  refine Ok.ret_ ?_
  exact Ok.ret1 (v := iw (-1)) le5 rfl rfl rfl
set_option maxRecDepth 100000 in
theorem x26_146 (H : Snap) : Does Tryd.prog 26 [.agg #[bT, iw 0, s0], .agg #[bF, iw 10, s0]] H [] (fun v H' kp => v = iw (-1)) := by
  refine Does.of Tryd.func26 rfl rfl rfl rfl (fun w0 H0 kx => ?_)
  refine Ok.seq ?_
  refine Ok.reg ?_
  refine Ok.seg (j := 3) (fun b1 => [(2, pt b1 0), (3, pt (b1 + 1) 0), (4, iw 0)]) (fun b1 => [.blk b1 [bT, iw 0, s0] 26, .blk (b1 + 1) [bF, iw 10, s0] 26]) (fun b1 => []) (fun b1 => []) [.g [.N], .g [.N], .g []] [2, 3, 4] rfl (fun b1 => by kernel_rfl) (fun b1 => trivial) (fun b1 => ?_)
  refine Ok.segEnd rfl ?_
  refine Ok.thenN ?_
  refine Ok.seq ?_
  refine Ok.seq ?_
  refine Ok.reg ?_
  refine Ok.seg (j := 5) (fun _ => [(2, pt b1 0), (3, pt (b1 + 1) 0), (4, iw 0), (9, bT)]) (fun _ => [.blk b1 [bT, iw 0, s0] 26, .blk (b1 + 1) [bF, iw 10, s0] 26]) (fun _ => [b1, b1 + 1]) (fun _ => []) [.g [], .g [.K 0 0], .g [], .g [.K 1 0], .g []] [2, 3, 4, 9] rfl (fun _ => by kernel_rfl) (fun _ => trivial) (fun _ => ?_)
  refine Ok.segEnd rfl ?_
  refine Ok.thenN ?_
  refine Ok.condT rfl ?_
  refine Ok.seq ?_
  refine Ok.seq ?_
  refine Ok.reg ?_
  refine Ok.seg (j := 2) (fun _ => [(2, pt b1 0), (3, pt (b1 + 1) 0), (4, iw 0), (11, bT)]) (fun _ => [.blk b1 [bT, iw 0, s0] 26, .blk (b1 + 1) [bF, iw 10, s0] 26]) (fun _ => [b1]) (fun _ => []) [.g [], .g [.K 0 0]] [2, 3, 4, 11] rfl (fun _ => by kernel_rfl) (fun _ => trivial) (fun _ => ?_)
  refine Ok.segEnd rfl ?_
  refine Ok.thenN ?_
  refine Ok.condT rfl ?_
  refine Ok.seq ?_
  refine Ok.reg ?_
  refine Ok.seg (j := 1) (fun _ => [(2, pt b1 0), (3, pt (b1 + 1) 0), (4, iw (-1))]) (fun _ => [.blk b1 [bT, iw 0, s0] 26, .blk (b1 + 1) [bF, iw 10, s0] 26]) (fun _ => []) (fun _ => []) [.g []] [2, 3, 4] rfl (fun _ => by kernel_rfl) (fun _ => trivial) (fun _ => ?_)
  refine Ok.segEnd rfl ?_
  refine Ok.thenN ?_
  refine Ok.ret_ ?_
  refine Ok.thenR ?_
  refine Ok.thenR ?_
  refine Ok.dropAll ?_
  exact Ok.ret1 (v := iw (-1)) (SLe.refl _) rfl rfl rfl
set_option maxRecDepth 100000 in
theorem x25_145 (H : Snap) (p0 p1 : Nat) (hp0 : Pre H p0 [bT, iw 0, s0]) (hp1 : Pre H p1 [bF, iw 10, s0]) : Does Tryd.prog 25 [sl p0 0 1 1, sl p1 0 1 1, .func (.func 26) #[] #[]] H [] (fun v H' kp => v = iw (-1)) := by
  refine Does.of Tryd.func25 rfl rfl rfl rfl (fun w0 H0 kx => ?_)
  refine Ok.seq ?_
  refine Ok.reg ?_
  refine Ok.seg (j := 1) (fun _ => [(0, sl p0 0 1 1), (1, sl p1 0 1 1), (2, .func (.func 26) #[] #[]), (6, iw 0)]) (fun _ => []) (fun _ => []) (fun _ => []) [.g []] [0, 1, 2, 6] rfl (fun _ => by kernel_rfl) (fun _ => trivial) (fun _ => ?_)
  refine Ok.segEnd rfl ?_
  refine Ok.thenN ?_
  refine Ok.seq ?_
  refine Ok.seq ?_
  refine Ok.reg ?_
  refine Ok.seg (j := 3) (fun _ => [(0, sl p0 0 1 1), (1, sl p1 0 1 1), (2, .func (.func 26) #[] #[]), (6, iw 0), (11, sl p0 0 1 1), (12, iw 1), (13, iw 0)]) (fun _ => []) (fun _ => []) (fun _ => []) [.g [], .g [], .g []] [0, 1, 2, 6, 11, 12, 13] rfl (fun _ => by kernel_rfl) (fun _ => trivial) (fun _ => ?_)
  refine Ok.segEnd rfl ?_
  refine Ok.thenN ?_
  refine Ok.blk ?_
  refine Ok.loopN 1 ?_
  refine Ok.round ?_
  refine Ok.seq ?_
  refine Ok.reg ?_
  refine Ok.seg (j := 1) (fun _ => [(0, sl p0 0 1 1), (1, sl p1 0 1 1), (2, .func (.func 26) #[] #[]), (6, iw 0), (11, sl p0 0 1 1), (12, iw 1), (13, iw 0), (14, bT)]) (fun _ => []) (fun _ => []) (fun _ => []) [.g []] [0, 1, 2, 6, 11, 12, 13, 14] rfl (fun _ => by kernel_rfl) (fun _ => trivial) (fun _ => ?_)
  refine Ok.segEnd rfl ?_
  refine Ok.thenN ?_
  refine Ok.seq ?_
  refine Ok.condT rfl ?_
  refine Ok.skip_ ?_
  refine Ok.thenN ?_
  refine Ok.seq ?_
  refine Ok.blk ?_
  refine Ok.seq ?_
  refine Ok.reg ?_
  refine Ok.seg (j := 6) (fun b4 => [(0, sl p0 0 1 1), (1, sl p1 0 1 1), (2, .func (.func 26) #[] #[]), (6, iw 0), (7, iw 0), (8, pt b4 0), (11, sl p0 0 1 1), (12, iw 1), (13, iw 0), (14, bT), (15, iw 0), (16, pt p0 0), (17, .agg #[bT, iw 0, s0])]) (fun b4 => [.blk b4 [bT, iw 0, s0] 26]) (fun b4 => [b4, b4, b4]) (fun b4 => [HasCell H ⟨p0, 0, none⟩ (bT), HasCell H ⟨p0, 1, none⟩ (iw 0), HasCell H ⟨p0, 2, none⟩ (s0)]) [.g [], .g [], .g [.X (bT), .X (iw 0), .X (s0)], .g [.N], .g [], .g [.K 0 0, .K 0 1, .K 0 2]] [0, 1, 2, 6, 7, 8, 11, 12, 13, 14, 15, 16, 17] rfl (fun b4 => by kernel_rfl) (fun b4 => ⟨Pre.cell hp0 0 rfl, Pre.cell hp0 1 rfl, Pre.cell hp0 2 rfl, trivial⟩) (fun b4 => ?_)
  refine Ok.segEnd rfl ?_
  refine Ok.thenN ?_
  refine Ok.seq ?_
  refine Ok.seq ?_
  refine Ok.reg ?_
  refine Ok.seg (j := 4) (fun _ => [(0, sl p0 0 1 1), (1, sl p1 0 1 1), (2, .func (.func 26) #[] #[]), (6, iw 0), (7, iw 0), (8, pt b4 0), (11, sl p0 0 1 1), (12, iw 1), (13, iw 0), (14, bT), (15, iw 0), (16, pt p0 0), (17, .agg #[bT, iw 0, s0]), (18, iw 0), (19, sl p1 0 1 1), (20, iw 1), (21, bF)]) (fun _ => [.blk b4 [bT, iw 0, s0] 26]) (fun _ => []) (fun _ => []) [.g [], .g [], .g [], .g []] [0, 1, 2, 6, 7, 8, 11, 12, 13, 14, 15, 16, 17, 18, 19, 20, 21] rfl (fun _ => by kernel_rfl) (fun _ => trivial) (fun _ => ?_)
  refine Ok.segEnd rfl ?_
  refine Ok.thenN ?_
  refine Ok.condF rfl ?_
  refine Ok.skip_ ?_
  refine Ok.thenN ?_
  refine Ok.seq ?_
  refine Ok.reg ?_
  refine Ok.seg (j := 6) (fun b6 => [(0, sl p0 0 1 1), (1, sl p1 0 1 1), (2, .func (.func 26) #[] #[]), (6, iw 0), (7, iw 0), (8, pt b4 0), (9, pt b6 0), (11, sl p0 0 1 1), (12, iw 1), (13, iw 0), (14, bT), (15, iw 0), (16, pt p0 0), (17, .agg #[bT, iw 0, s0]), (18, iw 0), (19, sl p1 0 1 1), (20, iw 1), (21, bF), (22, sl p1 0 1 1), (23, iw 0), (24, pt p1 0), (25, .agg #[bF, iw 10, s0])]) (fun b6 => [.blk b4 [bT, iw 0, s0] 26, .blk b6 [bF, iw 10, s0] 26]) (fun b6 => [b6, b6, b6]) (fun b6 => [HasCell H ⟨p1, 0, none⟩ (bF), HasCell H ⟨p1, 1, none⟩ (iw 10), HasCell H ⟨p1, 2, none⟩ (s0)]) [.g [], .g [], .g [], .g [.X (bF), .X (iw 10), .X (s0)], .g [.N], .g [.K 1 0, .K 1 1, .K 1 2]] [0, 1, 2, 6, 7, 8, 9, 11, 12, 13, 14, 15, 16, 17, 18, 19, 20, 21, 22, 23, 24, 25] rfl (fun b6 => by kernel_rfl) (fun b6 => ⟨Pre.cell hp1 0 rfl, Pre.cell hp1 1 rfl, Pre.cell hp1 2 rfl, trivial⟩) (fun b6 => ?_)
  refine Ok.segEnd rfl ?_
  refine Ok.thenN ?_
  refine Ok.seq ?_
  refine Ok.reg ?_
  refine Ok.seg (j := 3) (fun _ => [(0, sl p0 0 1 1), (1, sl p1 0 1 1), (2, .func (.func 26) #[] #[]), (6, iw 0), (7, iw 0), (8, pt b4 0), (9, pt b6 0), (11, sl p0 0 1 1), (12, iw 1), (13, iw 0), (14, bT), (15, iw 0), (16, pt p0 0), (17, .agg #[bT, iw 0, s0]), (18, iw 0), (19, sl p1 0 1 1), (20, iw 1), (21, bF), (22, sl p1 0 1 1), (23, iw 0), (24, pt p1 0), (25, .agg #[bF, iw 10, s0]), (26, .func (.func 26) #[] #[]), (27, .agg #[bT, iw 0, s0]), (28, .agg #[bF, iw 10, s0])]) (fun _ => [.blk b4 [bT, iw 0, s0] 26, .blk b6 [bF, iw 10, s0] 26]) (fun _ => [b4, b4, b4, b6, b6, b6]) (fun _ => []) [.g [], .g [.K 0 0, .K 0 1, .K 0 2], .g [.K 1 0, .K 1 1, .K 1 2]] [0, 1, 2, 6, 7, 8, 9, 11, 12, 13, 14, 15, 16, 17, 18, 19, 20, 21, 22, 23, 24, 25, 26, 27, 28] rfl (fun _ => by kernel_rfl) (fun _ => trivial) (fun _ => ?_)
  refine Ok.eff (j := 4) rfl (Eff.call0 (d := some 29) (by kernel_rfl) (x26_146 H) ?_)
  rintro v8 H9 k11 le10 rfl
  refine Ok.dropL ?_
  refine Ok.seg (j := 5) (fun _ => [(0, sl p0 0 1 1), (1, sl p1 0 1 1), (2, .func (.func 26) #[] #[]), (6, iw 0), (7, iw 0), (8, pt b4 0), (9, pt b6 0), (10, iw (-1)), (11, sl p0 0 1 1), (12, iw 1), (13, iw 0), (14, bT), (15, iw 0), (16, pt p0 0), (17, .agg #[bT, iw 0, s0]), (18, iw 0), (19, sl p1 0 1 1), (20, iw 1), (21, bF), (22, sl p1 0 1 1), (23, iw 0), (24, pt p1 0), (25, .agg #[bF, iw 10, s0]), (26, .func (.func 26) #[] #[]), (27, .agg #[bT, iw 0, s0]), (28, .agg #[bF, iw 10, s0]), (29, iw (-1))]) (fun _ => [.blk b4 [bT, iw 0, s0] 26, .blk b6 [bF, iw 10, s0] 26]) (fun _ => []) (fun _ => []) [.g []] [0, 1, 2, 6, 7, 8, 9, 10, 11, 12, 13, 14, 15, 16, 17, 18, 19, 20, 21, 22, 23, 24, 25, 26, 27, 28, 29] rfl (fun _ => by kernel_rfl) (fun _ => trivial) (fun _ => ?_)
  refine Ok.segEnd rfl ?_
  refine Ok.thenN ?_
  refine Ok.seq ?_
  refine Ok.reg ?_
  refine Ok.seg (j := 2) (fun _ => [(0, sl p0 0 1 1), (1, sl p1 0 1 1), (2, .func (.func 26) #[] #[]), (6, iw 0), (7, iw 0), (8, pt b4 0), (9, pt b6 0), (10, iw (-1)), (11, sl p0 0 1 1), (12, iw 1), (13, iw 0), (14, bT), (15, iw 0), (16, pt p0 0), (17, .agg #[bT, iw 0, s0]), (18, iw 0), (19, sl p1 0 1 1), (20, iw 1), (21, bF), (22, sl p1 0 1 1), (23, iw 0), (24, pt p1 0), (25, .agg #[bF, iw 10, s0]), (26, .func (.func 26) #[] #[]), (27, .agg #[bT, iw 0, s0]), (28, .agg #[bF, iw 10, s0]), (29, iw (-1)), (30, iw (-1)), (31, bT)]) (fun _ => [.blk b4 [bT, iw 0, s0] 26, .blk b6 [bF, iw 10, s0] 26]) (fun _ => []) (fun _ => []) [.g [], .g []] [0, 1, 2, 6, 7, 8, 9, 10, 11, 12, 13, 14, 15, 16, 17, 18, 19, 20, 21, 22, 23, 24, 25, 26, 27, 28, 29, 30, 31] rfl (fun _ => by kernel_rfl) (fun _ => trivial) (fun _ => ?_)
  refine Ok.segEnd rfl ?_
  refine Ok.thenN ?_
  refine Ok.condT rfl ?_
  refine Ok.seq ?_
  refine Ok.reg ?_
  refine Ok.seg (j := 2) (fun _ => [(0, sl p0 0 1 1), (1, sl p1 0 1 1), (2, .func (.func 26) #[] #[]), (6, iw (-1)), (7, iw 0), (8, pt b4 0), (9, pt b6 0), (10, iw (-1)), (11, sl p0 0 1 1), (12, iw 1), (13, iw 0), (14, bT), (15, iw 0), (16, pt p0 0), (17, .agg #[bT, iw 0, s0]), (18, iw 0), (19, sl p1 0 1 1), (20, iw 1), (21, bF), (22, sl p1 0 1 1), (23, iw 0), (24, pt p1 0), (25, .agg #[bF, iw 10, s0]), (26, .func (.func 26) #[] #[]), (27, .agg #[bT, iw 0, s0]), (28, .agg #[bF, iw 10, s0]), (29, iw (-1)), (30, iw (-1)), (31, bT), (32, iw (-1))]) (fun _ => [.blk b4 [bT, iw 0, s0] 26, .blk b6 [bF, iw 10, s0] 26]) (fun _ => []) (fun _ => []) [.g [], .g []] [0, 1, 2, 6, 7, 8, 9, 10, 11, 12, 13, 14, 15, 16, 17, 18, 19, 20, 21, 22, 23, 24, 25, 26, 27, 28, 29, 30, 31, 32] rfl (fun _ => by kernel_rfl) (fun _ => trivial) (fun _ => ?_)
  refine Ok.segEnd rfl ?_
  refine Ok.thenN ?_
  refine Ok.ret_ ?_
  refine Ok.blkR ?_
  refine Ok.thenR ?_
  refine Ok.thenR ?_
  refine Ok.blkR ?_
  refine Ok.thenR ?_
  refine Ok.dropAll ?_
  exact Ok.ret1 (v := iw (-1)) le10 rfl rfl rfl
end Go.Proofs.YtldanodmjilfaaaDoor
