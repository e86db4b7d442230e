/- Contracts of functions at the arguments that the fixed examples meet: printed by a program of this claim's author. -/
import Derived.Test.YtdifenljfklolaaGreatDoorProg
import Derived.Test.YtdifenljfklolaaGreatDoorSxG
set_option linter.unusedVariables false
set_option maxHeartbeats 4000000
set_option maxRecDepth 100000
namespace Go.Proofs.YtdifenljfklolaaGreatDoor
open Go Go.RowKit Sx
theorem x12_2 (H : Snap) : Does Tryz.prog 12 [iw 17] H [] (fun v H' kp => ∃ r0 : Nat,v = .agg #[sl r0 0 1 1] ∧ Pre H' r0 [iw 1,bF,iw 17,s0]) := by
  refine Does.of Tryz.func12 rfl rfl rfl rfl (fun w0 H0 kx => ?_)
  refine sr (g4 1 (fun b1 => [(0,iw 17),(2,pt b1 0)]) (fun b1 => [.blk b1 [n0] 50]) [.g [.N]] rfl (fun b1 => (en rfl ?_)))
  refine sr (g4 6 (fun b2 => [(2,pt b1 0)]) (fun b2 => [.blk b1 [sl b2 0 1 1] 50,.blk b2 [iw 1,bF,iw 17,s0] 59]) [gz,gz,gz,.g [.N],gz,.g [.K 0 0]] rfl (fun b2 => (en rfl ?_)))
  refine Ok.ret_ (Ok.pubP 1 rfl [.blk b1 [sl b2 0 1 1] 50] rfl ?_)
  intro H3 le4 pf5
  exact Ok.ret1c le4 [.K 0 0] (.agg #[sl b2 0 1 1]) [b1] rfl (by kernel_rfl) ⟨b2,rfl,pf5⟩
theorem x64_5 (H : Snap) (p0 : Nat) (hp0 : Pre H p0 [iw 1,bF,iw 17,s0]) : Does Tryz.prog 64 [.agg #[sl p0 0 1 1],iw 1] H [] (fun v H' kp => v = .agg #[bF,iw 17,s0]) := by
  refine Does.of Tryz.func64 rfl rfl rfl rfl (fun w0 H0 kx => ?_)
  refine sr (g4 2 (fun b1 => [(1,iw 1),(2,pt b1 0),(4,pt (b1+1) 0)]) (fun b1 => [.blk b1 [sl p0 0 1 1] 50,.blk (b1+1) [bF,iw 0,s0] 54]) [.g [.N],.g [.N]] rfl (fun b1 => (en rfl ?_)))
  refine Ok.seq (sr (g0 4 [(1,iw 1),(4,pt (b1+1) 0),(8,sl p0 0 1 1),(9,iw 1),(10,iw 0)] [gz,.g [.K 0 0],gz,gz] rfl (en rfl (Ok.blk (Ok.loopN 1 (Ok.round (sr (g0 1 [(1,iw 1),(4,pt (b1+1) 0),(8,sl p0 0 1 1),(9,iw 1),(10,iw 0),(11,bT)] [gz] rfl (en rfl (Ok.seq (cT (skn (Ok.seq (Ok.blk (sr (g5 4 (fun b4 => [(1,iw 1),(4,pt (b1+1) 0),(6,pt b4 0),(8,sl p0 0 1 1),(9,iw 1),(10,iw 0)]) (fun b4 => [.blk b1 [sl p0 0 1 1] 50,.blk (b1+1) [bF,iw 0,s0] 54,.blk b4 [iw 1,bF,iw 17,s0] 59]) [gz,.g [.X (iw 1),.X (bF),.X (iw 17),.X (s0)],.g [.N],.g [.K 2 0,.K 2 1,.K 2 2,.K 2 3]] (fun b4 => (ex1 (Pre.cell hp0 0 rfl) (ex1 (Pre.cell hp0 1 rfl) (ex1 (Pre.cell hp0 2 rfl) (ex1 (Pre.cell hp0 3 rfl) ex0))))) rfl (fun b4 => (en rfl (sr (g0 4 [(1,iw 1),(4,pt (b1+1) 0),(6,pt b4 0),(8,sl p0 0 1 1),(9,iw 1),(10,iw 0),(17,bT)] [gz,.g [.K 2 0],gz,gz] rfl (en rfl (cT (sr (g1 3 [(4,pt (b1+1) 0)] [.blk b1 [sl p0 0 1 1] 50,.blk (b1+1) [bF,iw 17,s0] 54,.blk b4 [iw 1,bF,iw 17,s0] 59] [gz,.g [.K 2 1,.K 2 2,.K 2 3],.g [.K 1 0,.K 1 1,.K 1 2]] rfl (Ok.mask [false,true,false] [.blk (b1+1) [bF,iw 17,s0] 54] rfl (en rfl (Ok.ret_ (Ok.blkR (Ok.thenR (Ok.thenR (Ok.blkR (Ok.thenR ?_))))))))))))))))))))))))))))))))
  exact Ok.ret1c (SLe.refl _) [.K 0 0,.K 0 1,.K 0 2] (.agg #[bF,iw 17,s0]) [b1+1,b1+1,b1+1] rfl (by kernel_rfl) rfl
theorem x94_7 (H : Snap) : Does Tryz.prog 94 [iw 17,iw 10] H [] (fun v H' kp => v = iw 10) := by
  refine Does.of Tryz.func94 rfl rfl rfl rfl (fun w0 H0 kx => ?_)
  refine sr (g0 1 [(0,iw 17),(1,iw 10)] [gz] rfl (en rfl (sr (g0 4 [(0,iw 17),(1,iw 10),(5,iw 7)] [gz,gz,gz,gz] rfl (en rfl (Ok.seq (sr (g0 2 [(0,iw 17),(1,iw 10),(5,iw 7),(10,bF)] [gz,gz] rfl (en rfl (cF (skn (Ok.seq (sr (g0 4 [(0,iw 17),(5,iw 7),(17,bF)] [gz,gz,gz,gz] rfl (en rfl (cF (skn (sr (g0 4 [(4,iw 10)] [gz,gz,gz,gz] rfl (en rfl (Ok.ret_ ?_)))))))))))))))))))))
  exact Ok.ret1 (v := iw 10) (SLe.refl _) rfl rfl rfl
theorem x63_6 (H : Snap) : Does Tryz.prog 63 [.agg #[iw 3,iw 1,iw 10],.agg #[bF,iw 17,s0]] H [] (fun v H' kp => v = .agg #[bF,iw 10,s0]) := by
  refine Does.of Tryz.func63 rfl rfl rfl rfl (fun w0 H0 kx => ?_)
  refine sr (g4 3 (fun b1 => [(2,pt b1 0),(3,pt (b1+1) 0),(4,pt (b1+1+1) 0)]) (fun b1 => [.blk b1 [iw 3,iw 1,iw 10] 45,.blk (b1+1) [bF,iw 17,s0] 54,.blk (b1+1+1) [bF,iw 0,s0] 54]) [.g [.N],.g [.N],.g [.N]] rfl (fun b1 => (en rfl ?_)))
  refine Ok.seq (sr (g0 2 [(2,pt b1 0),(3,pt (b1+1) 0),(4,pt (b1+1+1) 0),(10,bF)] [gz,.g [.K 1 0]] rfl (en rfl (cF (skn (Ok.seq (sr (g0 2 [(2,pt b1 0),(3,pt (b1+1) 0),(4,pt (b1+1+1) 0),(13,iw 3)] [gz,.g [.K 0 0]] rfl (en rfl (Ok.blk (sr (g0 2 [(2,pt b1 0),(3,pt (b1+1) 0),(4,pt (b1+1+1) 0),(13,iw 3),(14,bF)] [gz,gz] rfl (en rfl (cF (sr (g0 2 [(2,pt b1 0),(3,pt (b1+1) 0),(4,pt (b1+1+1) 0),(13,iw 3),(45,bT)] [gz,gz] rfl (en rfl (cT (Ok.seq (st [0,1] [] 16 (tk 3 [(0,gz),(1,.g [.K 1 1]),(2,gz),(3,.g [.K 0 2]),(5,gz),(6,.g [.K 1 2]),(7,gz),(8,.g [.K 0 2]),(9,gz),(10,.g [.K 1 2]),(11,gz),(12,gz),(13,gz)] [(4,pt (b1+1+1) 0),(48,iw 17),(50,iw 10),(60,s0)] rfl (on 4 2 rfl (ca (some 51) (x94_7 H) ?_)))))))))))))))))))))))
  rintro v6 H7 k9 le8 rfl
  refine ws [0,1] le8 ?_
  refine tk 1 [(14,gz)] [(4,pt (b1+1+1) 0),(61,.agg #[bF,iw 10,s0])] rfl ?_
  refine on 15 0 rfl (e1 (.g [.K 2 0,.K 2 1,.K 2 2]) [(4,pt (b1+1+1) 0)] [.blk b1 [iw 3,iw 1,iw 10] 45,.blk (b1+1) [bF,iw 17,s0] 54,.blk (b1+1+1) [bF,iw 10,s0] 54] ?_)
  refine ws [0,1] le8 ?_
  refine dn (Ok.ret_ (Ok.blkR (Ok.thenR ?_)))
  exact Ok.ret1c le8 [.K 2 0,.K 2 1,.K 2 2] (.agg #[bF,iw 10,s0]) [b1+1+1,b1+1+1,b1+1+1] rfl (by kernel_rfl) rfl
theorem x32_4 (H : Snap) (p0 p1 : Nat) (hp0 : Pre H p0 [iw 3,iw 1,iw 10]) (hp1 : Pre H p1 [iw 1,bF,iw 17,s0]) : Does Tryz.prog 32 [sl p0 0 1 1,.agg #[sl p1 0 1 1]] H [] (fun v H' kp => ∃ r0 : Nat,v = sl r0 0 1 1 ∧ Pre H' r0 [bF,iw 10,s0]) := by
  refine Does.of Tryz.func32 rfl rfl rfl rfl (fun w0 H0 kx => ?_)
  refine sr (g4 2 (fun b1 => [(0,sl p0 0 1 1),(3,pt b1 0)]) (fun b1 => [.blk b1 [sl p1 0 1 1] 50]) [.g [.N],gz] rfl (fun b1 => (en rfl ?_)))
  refine sr (g4 4 (fun b2 => [(0,sl p0 0 1 1),(3,pt b1 0),(5,sl b2 0 1 1)]) (fun b2 => [.blk b1 [sl p1 0 1 1] 50,.blk b2 [bF,iw 0,s0] 54]) [gz,gz,.g [.N],gz] rfl (fun b2 => (en rfl ?_)))
  refine Ok.seq (sr (g0 3 [(3,pt b1 0),(5,sl b2 0 1 1),(11,sl p0 0 1 1),(12,iw 1),(13,iw 0)] [gz,gz,gz] rfl (en rfl (Ok.blk (Ok.loopN 2 (Ok.round (sr (g0 1 [(3,pt b1 0),(5,sl b2 0 1 1),(11,sl p0 0 1 1),(12,iw 1),(13,iw 0),(14,bT)] [gz] rfl (en rfl (Ok.seq (cT (skn (Ok.seq (Ok.blk (sr (g5 6 (fun b5 => [(3,pt b1 0),(5,sl b2 0 1 1),(6,iw 0),(7,pt b5 0),(11,sl p0 0 1 1),(12,iw 1),(13,iw 0)]) (fun b5 => [.blk b1 [sl p1 0 1 1] 50,.blk b2 [bF,iw 0,s0] 54,.blk b5 [iw 3,iw 1,iw 10] 45]) [gz,gz,.g [.X (iw 3),.X (iw 1),.X (iw 10)],.g [.N],gz,.g [.K 2 0,.K 2 1,.K 2 2]] (fun b5 => (ex1 (Pre.cell hp0 0 rfl) (ex1 (Pre.cell hp0 1 rfl) (ex1 (Pre.cell hp0 2 rfl) ex0)))) rfl (fun b5 => (en rfl (st [0,2] [] 10 (tk 4 [(0,gz),(1,gz),(2,.g [.K 1 0,.K 1 1,.K 1 2]),(3,.g [.K 0 0]),(4,gz),(5,.g [.K 1 1])] [(3,pt b1 0),(5,sl b2 0 1 1),(11,sl p0 0 1 1),(12,iw 1),(13,iw 0),(18,sl b2 0 1 1),(19,iw 0),(20,.agg #[iw 3,iw 1,iw 10]),(21,.agg #[sl p1 0 1 1]),(23,iw 1)] rfl (on 6 3 rfl (ca (some 24) (x64_5 H p1 hp1) ?_))))))))))))))))))))))
  rintro v6 H7 k9 le8 rfl
  refine ws [0,2] le8 ?_
  refine on 7 2 rfl (ca (some 25) (x63_6 H7) ?_)
  rintro v10 H11 k13 le12 rfl
  refine ws [0,2] (tr le8 le12) ?_
  refine tk 1 [(8,gz)] [(3,pt b1 0),(5,sl b2 0 1 1),(11,sl p0 0 1 1),(12,iw 1),(13,iw 0),(25,.agg #[bF,iw 10,s0]),(26,pt b2 0)] rfl ?_
  refine on 9 0 rfl (e1 (.g [.K 1 0,.K 1 1,.K 1 2]) [(3,pt b1 0),(5,sl b2 0 1 1),(11,sl p0 0 1 1),(12,iw 1),(13,iw 0)] [.blk b1 [sl p1 0 1 1] 50,.blk b2 [bF,iw 10,s0] 54,.blk b5 [iw 3,iw 1,iw 10] 45] ?_)
  refine ws [0,2] (tr le8 le12) ?_
  refine Ok.done (by kernel_rfl) ?_
  refine Ok.blkN (Ok.thenN (Ok.reg (g0 2 [(3,pt b1 0),(5,sl b2 0 1 1),(11,sl p0 0 1 1),(12,iw 1),(13,iw 1)] [gz,gz] rfl (en rfl (Ok.round (sr (g0 1 [(3,pt b1 0),(5,sl b2 0 1 1),(11,sl p0 0 1 1),(12,iw 1),(13,iw 1),(14,bF)] [gz] rfl (en rfl (Ok.seq (cF (Ok.exit_ (Ok.thenE (Ok.thenE (Ok.blkE (Ok.thenN (sr (g0 2 [(4,sl b2 0 1 1)] [gz,gz] rfl (Ok.mask [false,true,false] [.blk b2 [bF,iw 10,s0] 54] rfl (en rfl (Ok.ret_ (Ok.pubP 0 rfl [] rfl ?_)))))))))))))))))))))
  intro H18 le19 pf20
  exact Ok.ret1 (v := sl b2 0 1 1) (tr le8 (tr le12 le19)) rfl rfl ⟨b2,rfl,pf20⟩
theorem x11_3 (H : Snap) (p0 : Nat) (hp0 : Pre H p0 [iw 1,bF,iw 17,s0]) : Does Tryz.prog 11 [.agg #[iw 3,iw 1,iw 10],.agg #[sl p0 0 1 1]] H [] (fun v H' kp => v = .agg #[bF,iw 10,s0]) := by
  refine Does.of Tryz.func11 rfl rfl rfl rfl (fun w0 H0 kx => ?_)
  refine sr (g4 3 (fun b1 => [(2,pt b1 0),(3,pt (b1+1) 0),(4,pt (b1+1+1) 0)]) (fun b1 => [.blk b1 [iw 3,iw 1,iw 10] 45,.blk (b1+1) [sl p0 0 1 1] 50,.blk (b1+1+1) [bF,iw 0,s0] 54]) [.g [.N],.g [.N],.g [.N]] rfl (fun b1 => (en rfl ?_)))
  refine sr (g4 3 (fun b2 => [(4,pt (b1+1+1) 0),(7,sl b2 0 1 1),(8,.agg #[sl p0 0 1 1])]) (fun b2 => [.blk b1 [iw 3,iw 1,iw 10] 45,.blk (b1+1) [sl p0 0 1 1] 50,.blk (b1+1+1) [bF,iw 0,s0] 54,.blk b2 [iw 3,iw 1,iw 10] 45]) [.g [.K 0 0,.K 0 1,.K 0 2],.g [.N],.g [.K 1 0]] rfl (fun b2 => (Ok.mask [false,false,true,true] [.blk (b1+1+1) [bF,iw 0,s0] 54,.blk b2 [iw 3,iw 1,iw 10] 45] rfl ?_)))
  refine Ok.pubP 1 rfl [.blk (b1+1+1) [bF,iw 0,s0] 54] rfl ?_
  intro H3 le4 pf5
  refine ef 4 rfl (ca (some 9) (x32_4 H3 b2 p0 pf5 (Pre.mono le4 hp0)) ?_)
  rintro v6 H7 k9 le8 ⟨q10,rfl,pf11⟩
  refine g0 5 [(4,pt (b1+1+1) 0),(5,sl q10 0 1 1)] [gz] rfl (en rfl (Ok.seq (sr (g0 3 [(4,pt (b1+1+1) 0),(5,sl q10 0 1 1),(12,bF)] [gz,gz,gz] rfl (en rfl (cF (skn (sr (g3 4 [(4,pt (b1+1+1) 0)] [.blk (b1+1+1) [bF,iw 10,s0] 54] [gz,gz,.g [.X (bF),.X (iw 10),.X (s0)],.g [.K 0 0,.K 0 1,.K 0 2]] (ex1 (Pre.cell pf11 0 rfl) (ex1 (Pre.cell pf11 1 rfl) (ex1 (Pre.cell pf11 2 rfl) ex0))) rfl (en rfl (Ok.ret_ ?_)))))))))))
  exact Ok.ret1c (tr le4 le8) [.K 0 0,.K 0 1,.K 0 2] (.agg #[bF,iw 10,s0]) [b1+1+1,b1+1+1,b1+1+1] rfl (by kernel_rfl) rfl
theorem x12_8 (H : Snap) : Does Tryz.prog 12 [iw (-1)] H [] (fun v H' kp => ∃ r0 : Nat,v = .agg #[sl r0 0 1 1] ∧ Pre H' r0 [iw 1,bF,iw (-1),s0]) := by
  refine Does.of Tryz.func12 rfl rfl rfl rfl (fun w0 H0 kx => ?_)
  refine sr (g4 1 (fun b1 => [(0,iw (-1)),(2,pt b1 0)]) (fun b1 => [.blk b1 [n0] 50]) [.g [.N]] rfl (fun b1 => (en rfl ?_)))
  refine sr (g4 6 (fun b2 => [(2,pt b1 0)]) (fun b2 => [.blk b1 [sl b2 0 1 1] 50,.blk b2 [iw 1,bF,iw (-1),s0] 59]) [gz,gz,gz,.g [.N],gz,.g [.K 0 0]] rfl (fun b2 => (en rfl ?_)))
  refine Ok.ret_ (Ok.pubP 1 rfl [.blk b1 [sl b2 0 1 1] 50] rfl ?_)
  intro H3 le4 pf5
  exact Ok.ret1c le4 [.K 0 0] (.agg #[sl b2 0 1 1]) [b1] rfl (by kernel_rfl) ⟨b2,rfl,pf5⟩
theorem x64_11 (H : Snap) (p0 : Nat) (hp0 : Pre H p0 [iw 1,bF,iw (-1),s0]) : Does Tryz.prog 64 [.agg #[sl p0 0 1 1],iw 1] H [] (fun v H' kp => v = .agg #[bF,iw (-1),s0]) := by
  refine Does.of Tryz.func64 rfl rfl rfl rfl (fun w0 H0 kx => ?_)
  refine sr (g4 2 (fun b1 => [(1,iw 1),(2,pt b1 0),(4,pt (b1+1) 0)]) (fun b1 => [.blk b1 [sl p0 0 1 1] 50,.blk (b1+1) [bF,iw 0,s0] 54]) [.g [.N],.g [.N]] rfl (fun b1 => (en rfl ?_)))
  refine Ok.seq (sr (g0 4 [(1,iw 1),(4,pt (b1+1) 0),(8,sl p0 0 1 1),(9,iw 1),(10,iw 0)] [gz,.g [.K 0 0],gz,gz] rfl (en rfl (Ok.blk (Ok.loopN 1 (Ok.round (sr (g0 1 [(1,iw 1),(4,pt (b1+1) 0),(8,sl p0 0 1 1),(9,iw 1),(10,iw 0),(11,bT)] [gz] rfl (en rfl (Ok.seq (cT (skn (Ok.seq (Ok.blk (sr (g5 4 (fun b4 => [(1,iw 1),(4,pt (b1+1) 0),(6,pt b4 0),(8,sl p0 0 1 1),(9,iw 1),(10,iw 0)]) (fun b4 => [.blk b1 [sl p0 0 1 1] 50,.blk (b1+1) [bF,iw 0,s0] 54,.blk b4 [iw 1,bF,iw (-1),s0] 59]) [gz,.g [.X (iw 1),.X (bF),.X (iw (-1)),.X (s0)],.g [.N],.g [.K 2 0,.K 2 1,.K 2 2,.K 2 3]] (fun b4 => (ex1 (Pre.cell hp0 0 rfl) (ex1 (Pre.cell hp0 1 rfl) (ex1 (Pre.cell hp0 2 rfl) (ex1 (Pre.cell hp0 3 rfl) ex0))))) rfl (fun b4 => (en rfl (sr (g0 4 [(1,iw 1),(4,pt (b1+1) 0),(6,pt b4 0),(8,sl p0 0 1 1),(9,iw 1),(10,iw 0),(17,bT)] [gz,.g [.K 2 0],gz,gz] rfl (en rfl (cT (sr (g1 3 [(4,pt (b1+1) 0)] [.blk b1 [sl p0 0 1 1] 50,.blk (b1+1) [bF,iw (-1),s0] 54,.blk b4 [iw 1,bF,iw (-1),s0] 59] [gz,.g [.K 2 1,.K 2 2,.K 2 3],.g [.K 1 0,.K 1 1,.K 1 2]] rfl (Ok.mask [false,true,false] [.blk (b1+1) [bF,iw (-1),s0] 54] rfl (en rfl (Ok.ret_ (Ok.blkR (Ok.thenR (Ok.thenR (Ok.blkR (Ok.thenR ?_))))))))))))))))))))))))))))))))
  exact Ok.ret1c (SLe.refl _) [.K 0 0,.K 0 1,.K 0 2] (.agg #[bF,iw (-1),s0]) [b1+1,b1+1,b1+1] rfl (by kernel_rfl) rfl
theorem x94_13 (H : Snap) : Does Tryz.prog 94 [iw (-1),iw 10] H [] (fun v H' kp => v = iw (-10)) := by
  refine Does.of Tryz.func94 rfl rfl rfl rfl (fun w0 H0 kx => ?_)
  refine sr (g0 1 [(0,iw (-1)),(1,iw 10)] [gz] rfl (en rfl (sr (g0 4 [(0,iw (-1)),(1,iw 10),(5,iw (-1))] [gz,gz,gz,gz] rfl (en rfl (Ok.seq (sr (g0 2 [(0,iw (-1)),(1,iw 10),(5,iw (-1)),(10,bT)] [gz,gz] rfl (en rfl (cT (Ok.reg (g0 4 [(0,iw (-1)),(5,iw 9)] [gz,gz,gz,gz] rfl (en rfl (Ok.seq (sr (g0 4 [(0,iw (-1)),(5,iw 9),(17,bF)] [gz,gz,gz,gz] rfl (en rfl (cF (skn (sr (g0 4 [(4,iw (-10))] [gz,gz,gz,gz] rfl (en rfl (Ok.ret_ ?_)))))))))))))))))))))))
  exact Ok.ret1 (v := iw (-10)) (SLe.refl _) rfl rfl rfl
theorem x63_12 (H : Snap) : Does Tryz.prog 63 [.agg #[iw 3,iw 1,iw 10],.agg #[bF,iw (-1),s0]] H [] (fun v H' kp => v = .agg #[bF,iw (-10),s0]) := by
  refine Does.of Tryz.func63 rfl rfl rfl rfl (fun w0 H0 kx => ?_)
  refine sr (g4 3 (fun b1 => [(2,pt b1 0),(3,pt (b1+1) 0),(4,pt (b1+1+1) 0)]) (fun b1 => [.blk b1 [iw 3,iw 1,iw 10] 45,.blk (b1+1) [bF,iw (-1),s0] 54,.blk (b1+1+1) [bF,iw 0,s0] 54]) [.g [.N],.g [.N],.g [.N]] rfl (fun b1 => (en rfl ?_)))
  refine Ok.seq (sr (g0 2 [(2,pt b1 0),(3,pt (b1+1) 0),(4,pt (b1+1+1) 0),(10,bF)] [gz,.g [.K 1 0]] rfl (en rfl (cF (skn (Ok.seq (sr (g0 2 [(2,pt b1 0),(3,pt (b1+1) 0),(4,pt (b1+1+1) 0),(13,iw 3)] [gz,.g [.K 0 0]] rfl (en rfl (Ok.blk (sr (g0 2 [(2,pt b1 0),(3,pt (b1+1) 0),(4,pt (b1+1+1) 0),(13,iw 3),(14,bF)] [gz,gz] rfl (en rfl (cF (sr (g0 2 [(2,pt b1 0),(3,pt (b1+1) 0),(4,pt (b1+1+1) 0),(13,iw 3),(45,bT)] [gz,gz] rfl (en rfl (cT (Ok.seq (st [0,1] [] 16 (tk 3 [(0,gz),(1,.g [.K 1 1]),(2,gz),(3,.g [.K 0 2]),(5,gz),(6,.g [.K 1 2]),(7,gz),(8,.g [.K 0 2]),(9,gz),(10,.g [.K 1 2]),(11,gz),(12,gz),(13,gz)] [(4,pt (b1+1+1) 0),(48,iw (-1)),(50,iw 10),(60,s0)] rfl (on 4 2 rfl (ca (some 51) (x94_13 H) ?_)))))))))))))))))))))))
  rintro v6 H7 k9 le8 rfl
  refine ws [0,1] le8 ?_
  refine tk 1 [(14,gz)] [(4,pt (b1+1+1) 0),(61,.agg #[bF,iw (-10),s0])] rfl ?_
  refine on 15 0 rfl (e1 (.g [.K 2 0,.K 2 1,.K 2 2]) [(4,pt (b1+1+1) 0)] [.blk b1 [iw 3,iw 1,iw 10] 45,.blk (b1+1) [bF,iw (-1),s0] 54,.blk (b1+1+1) [bF,iw (-10),s0] 54] ?_)
  refine ws [0,1] le8 ?_
  refine dn (Ok.ret_ (Ok.blkR (Ok.thenR ?_)))
  exact Ok.ret1c le8 [.K 2 0,.K 2 1,.K 2 2] (.agg #[bF,iw (-10),s0]) [b1+1+1,b1+1+1,b1+1+1] rfl (by kernel_rfl) rfl
theorem x32_10 (H : Snap) (p0 p1 : Nat) (hp0 : Pre H p0 [iw 3,iw 1,iw 10]) (hp1 : Pre H p1 [iw 1,bF,iw (-1),s0]) : Does Tryz.prog 32 [sl p0 0 1 1,.agg #[sl p1 0 1 1]] H [] (fun v H' kp => ∃ r0 : Nat,v = sl r0 0 1 1 ∧ Pre H' r0 [bF,iw (-10),s0]) := by
  refine Does.of Tryz.func32 rfl rfl rfl rfl (fun w0 H0 kx => ?_)
  refine sr (g4 2 (fun b1 => [(0,sl p0 0 1 1),(3,pt b1 0)]) (fun b1 => [.blk b1 [sl p1 0 1 1] 50]) [.g [.N],gz] rfl (fun b1 => (en rfl ?_)))
  refine sr (g4 4 (fun b2 => [(0,sl p0 0 1 1),(3,pt b1 0),(5,sl b2 0 1 1)]) (fun b2 => [.blk b1 [sl p1 0 1 1] 50,.blk b2 [bF,iw 0,s0] 54]) [gz,gz,.g [.N],gz] rfl (fun b2 => (en rfl ?_)))
  refine Ok.seq (sr (g0 3 [(3,pt b1 0),(5,sl b2 0 1 1),(11,sl p0 0 1 1),(12,iw 1),(13,iw 0)] [gz,gz,gz] rfl (en rfl (Ok.blk (Ok.loopN 2 (Ok.round (sr (g0 1 [(3,pt b1 0),(5,sl b2 0 1 1),(11,sl p0 0 1 1),(12,iw 1),(13,iw 0),(14,bT)] [gz] rfl (en rfl (Ok.seq (cT (skn (Ok.seq (Ok.blk (sr (g5 6 (fun b5 => [(3,pt b1 0),(5,sl b2 0 1 1),(6,iw 0),(7,pt b5 0),(11,sl p0 0 1 1),(12,iw 1),(13,iw 0)]) (fun b5 => [.blk b1 [sl p1 0 1 1] 50,.blk b2 [bF,iw 0,s0] 54,.blk b5 [iw 3,iw 1,iw 10] 45]) [gz,gz,.g [.X (iw 3),.X (iw 1),.X (iw 10)],.g [.N],gz,.g [.K 2 0,.K 2 1,.K 2 2]] (fun b5 => (ex1 (Pre.cell hp0 0 rfl) (ex1 (Pre.cell hp0 1 rfl) (ex1 (Pre.cell hp0 2 rfl) ex0)))) rfl (fun b5 => (en rfl (st [0,2] [] 10 (tk 4 [(0,gz),(1,gz),(2,.g [.K 1 0,.K 1 1,.K 1 2]),(3,.g [.K 0 0]),(4,gz),(5,.g [.K 1 1])] [(3,pt b1 0),(5,sl b2 0 1 1),(11,sl p0 0 1 1),(12,iw 1),(13,iw 0),(18,sl b2 0 1 1),(19,iw 0),(20,.agg #[iw 3,iw 1,iw 10]),(21,.agg #[sl p1 0 1 1]),(23,iw 1)] rfl (on 6 3 rfl (ca (some 24) (x64_11 H p1 hp1) ?_))))))))))))))))))))))
  rintro v6 H7 k9 le8 rfl
  refine ws [0,2] le8 ?_
  refine on 7 2 rfl (ca (some 25) (x63_12 H7) ?_)
  rintro v10 H11 k13 le12 rfl
  refine ws [0,2] (tr le8 le12) ?_
  refine tk 1 [(8,gz)] [(3,pt b1 0),(5,sl b2 0 1 1),(11,sl p0 0 1 1),(12,iw 1),(13,iw 0),(25,.agg #[bF,iw (-10),s0]),(26,pt b2 0)] rfl ?_
  refine on 9 0 rfl (e1 (.g [.K 1 0,.K 1 1,.K 1 2]) [(3,pt b1 0),(5,sl b2 0 1 1),(11,sl p0 0 1 1),(12,iw 1),(13,iw 0)] [.blk b1 [sl p1 0 1 1] 50,.blk b2 [bF,iw (-10),s0] 54,.blk b5 [iw 3,iw 1,iw 10] 45] ?_)
  refine ws [0,2] (tr le8 le12) ?_
  refine Ok.done (by kernel_rfl) ?_
  refine Ok.blkN (Ok.thenN (Ok.reg (g0 2 [(3,pt b1 0),(5,sl b2 0 1 1),(11,sl p0 0 1 1),(12,iw 1),(13,iw 1)] [gz,gz] rfl (en rfl (Ok.round (sr (g0 1 [(3,pt b1 0),(5,sl b2 0 1 1),(11,sl p0 0 1 1),(12,iw 1),(13,iw 1),(14,bF)] [gz] rfl (en rfl (Ok.seq (cF (Ok.exit_ (Ok.thenE (Ok.thenE (Ok.blkE (Ok.thenN (sr (g0 2 [(4,sl b2 0 1 1)] [gz,gz] rfl (Ok.mask [false,true,false] [.blk b2 [bF,iw (-10),s0] 54] rfl (en rfl (Ok.ret_ (Ok.pubP 0 rfl [] rfl ?_)))))))))))))))))))))
  intro H18 le19 pf20
  exact Ok.ret1 (v := sl b2 0 1 1) (tr le8 (tr le12 le19)) rfl rfl ⟨b2,rfl,pf20⟩
theorem x11_9 (H : Snap) (p0 : Nat) (hp0 : Pre H p0 [iw 1,bF,iw (-1),s0]) : Does Tryz.prog 11 [.agg #[iw 3,iw 1,iw 10],.agg #[sl p0 0 1 1]] H [] (fun v H' kp => v = .agg #[bF,iw (-10),s0]) := by
  refine Does.of Tryz.func11 rfl rfl rfl rfl (fun w0 H0 kx => ?_)
  refine sr (g4 3 (fun b1 => [(2,pt b1 0),(3,pt (b1+1) 0),(4,pt (b1+1+1) 0)]) (fun b1 => [.blk b1 [iw 3,iw 1,iw 10] 45,.blk (b1+1) [sl p0 0 1 1] 50,.blk (b1+1+1) [bF,iw 0,s0] 54]) [.g [.N],.g [.N],.g [.N]] rfl (fun b1 => (en rfl ?_)))
  refine sr (g4 3 (fun b2 => [(4,pt (b1+1+1) 0),(7,sl b2 0 1 1),(8,.agg #[sl p0 0 1 1])]) (fun b2 => [.blk b1 [iw 3,iw 1,iw 10] 45,.blk (b1+1) [sl p0 0 1 1] 50,.blk (b1+1+1) [bF,iw 0,s0] 54,.blk b2 [iw 3,iw 1,iw 10] 45]) [.g [.K 0 0,.K 0 1,.K 0 2],.g [.N],.g [.K 1 0]] rfl (fun b2 => (Ok.mask [false,false,true,true] [.blk (b1+1+1) [bF,iw 0,s0] 54,.blk b2 [iw 3,iw 1,iw 10] 45] rfl ?_)))
  refine Ok.pubP 1 rfl [.blk (b1+1+1) [bF,iw 0,s0] 54] rfl ?_
  intro H3 le4 pf5
  refine ef 4 rfl (ca (some 9) (x32_10 H3 b2 p0 pf5 (Pre.mono le4 hp0)) ?_)
  rintro v6 H7 k9 le8 ⟨q10,rfl,pf11⟩
  refine g0 5 [(4,pt (b1+1+1) 0),(5,sl q10 0 1 1)] [gz] rfl (en rfl (Ok.seq (sr (g0 3 [(4,pt (b1+1+1) 0),(5,sl q10 0 1 1),(12,bF)] [gz,gz,gz] rfl (en rfl (cF (skn (sr (g3 4 [(4,pt (b1+1+1) 0)] [.blk (b1+1+1) [bF,iw (-10),s0] 54] [gz,gz,.g [.X (bF),.X (iw (-10)),.X (s0)],.g [.K 0 0,.K 0 1,.K 0 2]] (ex1 (Pre.cell pf11 0 rfl) (ex1 (Pre.cell pf11 1 rfl) (ex1 (Pre.cell pf11 2 rfl) ex0))) rfl (en rfl (Ok.ret_ ?_)))))))))))
  exact Ok.ret1c (tr le4 le8) [.K 0 0,.K 0 1,.K 0 2] (.agg #[bF,iw (-10),s0]) [b1+1+1,b1+1+1,b1+1+1] rfl (by kernel_rfl) rfl
theorem x64_16 (H : Snap) (p0 : Nat) (hp0 : Pre H p0 [iw 1,bF,iw 0,.string ⟨#[97,98,99,100]⟩]) : Does Tryz.prog 64 [.agg #[sl p0 0 1 1],iw 1] H [] (fun v H' kp => v = .agg #[bF,iw 0,.string ⟨#[97,98,99,100]⟩]) := by
  refine Does.of Tryz.func64 rfl rfl rfl rfl (fun w0 H0 kx => ?_)
  refine sr (g4 2 (fun b1 => [(1,iw 1),(2,pt b1 0),(4,pt (b1+1) 0)]) (fun b1 => [.blk b1 [sl p0 0 1 1] 50,.blk (b1+1) [bF,iw 0,s0] 54]) [.g [.N],.g [.N]] rfl (fun b1 => (en rfl ?_)))
  refine Ok.seq (sr (g0 4 [(1,iw 1),(4,pt (b1+1) 0),(8,sl p0 0 1 1),(9,iw 1),(10,iw 0)] [gz,.g [.K 0 0],gz,gz] rfl (en rfl (Ok.blk (Ok.loopN 1 (Ok.round (sr (g0 1 [(1,iw 1),(4,pt (b1+1) 0),(8,sl p0 0 1 1),(9,iw 1),(10,iw 0),(11,bT)] [gz] rfl (en rfl (Ok.seq (cT (skn (Ok.seq (Ok.blk (sr (g5 4 (fun b4 => [(1,iw 1),(4,pt (b1+1) 0),(6,pt b4 0),(8,sl p0 0 1 1),(9,iw 1),(10,iw 0)]) (fun b4 => [.blk b1 [sl p0 0 1 1] 50,.blk (b1+1) [bF,iw 0,s0] 54,.blk b4 [iw 1,bF,iw 0,.string ⟨#[97,98,99,100]⟩] 59]) [gz,.g [.X (iw 1),.X (bF),.X (iw 0),.X (.string ⟨#[97,98,99,100]⟩)],.g [.N],.g [.K 2 0,.K 2 1,.K 2 2,.K 2 3]] (fun b4 => (ex1 (Pre.cell hp0 0 rfl) (ex1 (Pre.cell hp0 1 rfl) (ex1 (Pre.cell hp0 2 rfl) (ex1 (Pre.cell hp0 3 rfl) ex0))))) rfl (fun b4 => (en rfl (sr (g0 4 [(1,iw 1),(4,pt (b1+1) 0),(6,pt b4 0),(8,sl p0 0 1 1),(9,iw 1),(10,iw 0),(17,bT)] [gz,.g [.K 2 0],gz,gz] rfl (en rfl (cT (sr (g1 3 [(4,pt (b1+1) 0)] [.blk b1 [sl p0 0 1 1] 50,.blk (b1+1) [bF,iw 0,.string ⟨#[97,98,99,100]⟩] 54,.blk b4 [iw 1,bF,iw 0,.string ⟨#[97,98,99,100]⟩] 59] [gz,.g [.K 2 1,.K 2 2,.K 2 3],.g [.K 1 0,.K 1 1,.K 1 2]] rfl (Ok.mask [false,true,false] [.blk (b1+1) [bF,iw 0,.string ⟨#[97,98,99,100]⟩] 54] rfl (en rfl (Ok.ret_ (Ok.blkR (Ok.thenR (Ok.thenR (Ok.blkR (Ok.thenR ?_))))))))))))))))))))))))))))))))
  exact Ok.ret1c (SLe.refl _) [.K 0 0,.K 0 1,.K 0 2] (.agg #[bF,iw 0,.string ⟨#[97,98,99,100]⟩]) [b1+1,b1+1,b1+1] rfl (by kernel_rfl) rfl
theorem x94_18 (H : Snap) : Does Tryz.prog 94 [iw 0,iw 2] H [] (fun v H' kp => v = iw 0) := by
  refine Does.of Tryz.func94 rfl rfl rfl rfl (fun w0 H0 kx => ?_)
  refine sr (g0 1 [(0,iw 0),(1,iw 2)] [gz] rfl (en rfl (sr (g0 4 [(0,iw 0),(1,iw 2),(5,iw 0)] [gz,gz,gz,gz] rfl (en rfl (Ok.seq (sr (g0 2 [(0,iw 0),(1,iw 2),(5,iw 0),(10,bF)] [gz,gz] rfl (en rfl (cF (skn (Ok.seq (sr (g0 4 [(0,iw 0),(5,iw 0),(17,bF)] [gz,gz,gz,gz] rfl (en rfl (cF (skn (sr (g0 4 [(4,iw 0)] [gz,gz,gz,gz] rfl (en rfl (Ok.ret_ ?_)))))))))))))))))))))
  exact Ok.ret1 (v := iw 0) (SLe.refl _) rfl rfl rfl
theorem x63_17 (H : Snap) : Does Tryz.prog 63 [.agg #[iw 3,iw 1,iw 2],.agg #[bF,iw 0,.string ⟨#[97,98,99,100]⟩]] H [] (fun v H' kp => v = .agg #[bF,iw 0,.string ⟨#[97,98]⟩]) := by
  refine Does.of Tryz.func63 rfl rfl rfl rfl (fun w0 H0 kx => ?_)
  refine sr (g4 3 (fun b1 => [(2,pt b1 0),(3,pt (b1+1) 0),(4,pt (b1+1+1) 0)]) (fun b1 => [.blk b1 [iw 3,iw 1,iw 2] 45,.blk (b1+1) [bF,iw 0,.string ⟨#[97,98,99,100]⟩] 54,.blk (b1+1+1) [bF,iw 0,s0] 54]) [.g [.N],.g [.N],.g [.N]] rfl (fun b1 => (en rfl ?_)))
  refine Ok.seq (sr (g0 2 [(2,pt b1 0),(3,pt (b1+1) 0),(4,pt (b1+1+1) 0),(10,bF)] [gz,.g [.K 1 0]] rfl (en rfl (cF (skn (Ok.seq (sr (g0 2 [(2,pt b1 0),(3,pt (b1+1) 0),(4,pt (b1+1+1) 0),(13,iw 3)] [gz,.g [.K 0 0]] rfl (en rfl (Ok.blk (sr (g0 2 [(2,pt b1 0),(3,pt (b1+1) 0),(4,pt (b1+1+1) 0),(13,iw 3),(14,bF)] [gz,gz] rfl (en rfl (cF (sr (g0 2 [(2,pt b1 0),(3,pt (b1+1) 0),(4,pt (b1+1+1) 0),(13,iw 3),(45,bT)] [gz,gz] rfl (en rfl (cT (Ok.seq (st [0,1] [] 16 (tk 3 [(0,gz),(1,.g [.K 1 1]),(2,gz),(3,.g [.K 0 2]),(5,gz),(6,.g [.K 1 2]),(7,gz),(8,.g [.K 0 2]),(9,gz),(10,.g [.K 1 2]),(11,gz),(12,gz),(13,gz)] [(4,pt (b1+1+1) 0),(48,iw 0),(50,iw 2),(60,.string ⟨#[97,98]⟩)] rfl (on 4 2 rfl (ca (some 51) (x94_18 H) ?_)))))))))))))))))))))))
  rintro v6 H7 k9 le8 rfl
  refine ws [0,1] le8 ?_
  refine tk 1 [(14,gz)] [(4,pt (b1+1+1) 0),(61,.agg #[bF,iw 0,.string ⟨#[97,98]⟩])] rfl ?_
  refine on 15 0 rfl (e1 (.g [.K 2 0,.K 2 1,.K 2 2]) [(4,pt (b1+1+1) 0)] [.blk b1 [iw 3,iw 1,iw 2] 45,.blk (b1+1) [bF,iw 0,.string ⟨#[97,98,99,100]⟩] 54,.blk (b1+1+1) [bF,iw 0,.string ⟨#[97,98]⟩] 54] ?_)
  refine ws [0,1] le8 ?_
  refine dn (Ok.ret_ (Ok.blkR (Ok.thenR ?_)))
  exact Ok.ret1c le8 [.K 2 0,.K 2 1,.K 2 2] (.agg #[bF,iw 0,.string ⟨#[97,98]⟩]) [b1+1+1,b1+1+1,b1+1+1] rfl (by kernel_rfl) rfl
theorem x32_15 (H : Snap) (p0 p1 : Nat) (hp0 : Pre H p0 [iw 3,iw 1,iw 2]) (hp1 : Pre H p1 [iw 1,bF,iw 0,.string ⟨#[97,98,99,100]⟩]) : Does Tryz.prog 32 [sl p0 0 1 1,.agg #[sl p1 0 1 1]] H [] (fun v H' kp => ∃ r0 : Nat,v = sl r0 0 1 1 ∧ Pre H' r0 [bF,iw 0,.string ⟨#[97,98]⟩]) := by
  refine Does.of Tryz.func32 rfl rfl rfl rfl (fun w0 H0 kx => ?_)
  refine sr (g4 2 (fun b1 => [(0,sl p0 0 1 1),(3,pt b1 0)]) (fun b1 => [.blk b1 [sl p1 0 1 1] 50]) [.g [.N],gz] rfl (fun b1 => (en rfl ?_)))
  refine sr (g4 4 (fun b2 => [(0,sl p0 0 1 1),(3,pt b1 0),(5,sl b2 0 1 1)]) (fun b2 => [.blk b1 [sl p1 0 1 1] 50,.blk b2 [bF,iw 0,s0] 54]) [gz,gz,.g [.N],gz] rfl (fun b2 => (en rfl ?_)))
  refine Ok.seq (sr (g0 3 [(3,pt b1 0),(5,sl b2 0 1 1),(11,sl p0 0 1 1),(12,iw 1),(13,iw 0)] [gz,gz,gz] rfl (en rfl (Ok.blk (Ok.loopN 2 (Ok.round (sr (g0 1 [(3,pt b1 0),(5,sl b2 0 1 1),(11,sl p0 0 1 1),(12,iw 1),(13,iw 0),(14,bT)] [gz] rfl (en rfl (Ok.seq (cT (skn (Ok.seq (Ok.blk (sr (g5 6 (fun b5 => [(3,pt b1 0),(5,sl b2 0 1 1),(6,iw 0),(7,pt b5 0),(11,sl p0 0 1 1),(12,iw 1),(13,iw 0)]) (fun b5 => [.blk b1 [sl p1 0 1 1] 50,.blk b2 [bF,iw 0,s0] 54,.blk b5 [iw 3,iw 1,iw 2] 45]) [gz,gz,.g [.X (iw 3),.X (iw 1),.X (iw 2)],.g [.N],gz,.g [.K 2 0,.K 2 1,.K 2 2]] (fun b5 => (ex1 (Pre.cell hp0 0 rfl) (ex1 (Pre.cell hp0 1 rfl) (ex1 (Pre.cell hp0 2 rfl) ex0)))) rfl (fun b5 => (en rfl (st [0,2] [] 10 (tk 4 [(0,gz),(1,gz),(2,.g [.K 1 0,.K 1 1,.K 1 2]),(3,.g [.K 0 0]),(4,gz),(5,.g [.K 1 1])] [(3,pt b1 0),(5,sl b2 0 1 1),(11,sl p0 0 1 1),(12,iw 1),(13,iw 0),(18,sl b2 0 1 1),(19,iw 0),(20,.agg #[iw 3,iw 1,iw 2]),(21,.agg #[sl p1 0 1 1]),(23,iw 1)] rfl (on 6 3 rfl (ca (some 24) (x64_16 H p1 hp1) ?_))))))))))))))))))))))
  rintro v6 H7 k9 le8 rfl
  refine ws [0,2] le8 ?_
  refine on 7 2 rfl (ca (some 25) (x63_17 H7) ?_)
  rintro v10 H11 k13 le12 rfl
  refine ws [0,2] (tr le8 le12) ?_
  refine tk 1 [(8,gz)] [(3,pt b1 0),(5,sl b2 0 1 1),(11,sl p0 0 1 1),(12,iw 1),(13,iw 0),(25,.agg #[bF,iw 0,.string ⟨#[97,98]⟩]),(26,pt b2 0)] rfl ?_
  refine on 9 0 rfl (e1 (.g [.K 1 0,.K 1 1,.K 1 2]) [(3,pt b1 0),(5,sl b2 0 1 1),(11,sl p0 0 1 1),(12,iw 1),(13,iw 0)] [.blk b1 [sl p1 0 1 1] 50,.blk b2 [bF,iw 0,.string ⟨#[97,98]⟩] 54,.blk b5 [iw 3,iw 1,iw 2] 45] ?_)
  refine ws [0,2] (tr le8 le12) ?_
  refine Ok.done (by kernel_rfl) ?_
  refine Ok.blkN (Ok.thenN (Ok.reg (g0 2 [(3,pt b1 0),(5,sl b2 0 1 1),(11,sl p0 0 1 1),(12,iw 1),(13,iw 1)] [gz,gz] rfl (en rfl (Ok.round (sr (g0 1 [(3,pt b1 0),(5,sl b2 0 1 1),(11,sl p0 0 1 1),(12,iw 1),(13,iw 1),(14,bF)] [gz] rfl (en rfl (Ok.seq (cF (Ok.exit_ (Ok.thenE (Ok.thenE (Ok.blkE (Ok.thenN (sr (g0 2 [(4,sl b2 0 1 1)] [gz,gz] rfl (Ok.mask [false,true,false] [.blk b2 [bF,iw 0,.string ⟨#[97,98]⟩] 54] rfl (en rfl (Ok.ret_ (Ok.pubP 0 rfl [] rfl ?_)))))))))))))))))))))
  intro H18 le19 pf20
  exact Ok.ret1 (v := sl b2 0 1 1) (tr le8 (tr le12 le19)) rfl rfl ⟨b2,rfl,pf20⟩
theorem x11_14 (H : Snap) (p0 : Nat) (hp0 : Pre H p0 [iw 1,bF,iw 0,.string ⟨#[97,98,99,100]⟩]) : Does Tryz.prog 11 [.agg #[iw 3,iw 1,iw 2],.agg #[sl p0 0 1 1]] H [] (fun v H' kp => v = .agg #[bF,iw 0,.string ⟨#[97,98]⟩]) := by
  refine Does.of Tryz.func11 rfl rfl rfl rfl (fun w0 H0 kx => ?_)
  refine sr (g4 3 (fun b1 => [(2,pt b1 0),(3,pt (b1+1) 0),(4,pt (b1+1+1) 0)]) (fun b1 => [.blk b1 [iw 3,iw 1,iw 2] 45,.blk (b1+1) [sl p0 0 1 1] 50,.blk (b1+1+1) [bF,iw 0,s0] 54]) [.g [.N],.g [.N],.g [.N]] rfl (fun b1 => (en rfl ?_)))
  refine sr (g4 3 (fun b2 => [(4,pt (b1+1+1) 0),(7,sl b2 0 1 1),(8,.agg #[sl p0 0 1 1])]) (fun b2 => [.blk b1 [iw 3,iw 1,iw 2] 45,.blk (b1+1) [sl p0 0 1 1] 50,.blk (b1+1+1) [bF,iw 0,s0] 54,.blk b2 [iw 3,iw 1,iw 2] 45]) [.g [.K 0 0,.K 0 1,.K 0 2],.g [.N],.g [.K 1 0]] rfl (fun b2 => (Ok.mask [false,false,true,true] [.blk (b1+1+1) [bF,iw 0,s0] 54,.blk b2 [iw 3,iw 1,iw 2] 45] rfl ?_)))
  refine Ok.pubP 1 rfl [.blk (b1+1+1) [bF,iw 0,s0] 54] rfl ?_
  intro H3 le4 pf5
  refine ef 4 rfl (ca (some 9) (x32_15 H3 b2 p0 pf5 (Pre.mono le4 hp0)) ?_)
  rintro v6 H7 k9 le8 ⟨q10,rfl,pf11⟩
  refine g0 5 [(4,pt (b1+1+1) 0),(5,sl q10 0 1 1)] [gz] rfl (en rfl (Ok.seq (sr (g0 3 [(4,pt (b1+1+1) 0),(5,sl q10 0 1 1),(12,bF)] [gz,gz,gz] rfl (en rfl (cF (skn (sr (g3 4 [(4,pt (b1+1+1) 0)] [.blk (b1+1+1) [bF,iw 0,.string ⟨#[97,98]⟩] 54] [gz,gz,.g [.X (bF),.X (iw 0),.X (.string ⟨#[97,98]⟩)],.g [.K 0 0,.K 0 1,.K 0 2]] (ex1 (Pre.cell pf11 0 rfl) (ex1 (Pre.cell pf11 1 rfl) (ex1 (Pre.cell pf11 2 rfl) ex0))) rfl (en rfl (Ok.ret_ ?_)))))))))))
  exact Ok.ret1c (tr le4 le8) [.K 0 0,.K 0 1,.K 0 2] (.agg #[bF,iw 0,.string ⟨#[97,98]⟩]) [b1+1+1,b1+1+1,b1+1+1] rfl (by kernel_rfl) rfl
theorem x12_19 (H : Snap) : Does Tryz.prog 12 [iw 31] H [] (fun v H' kp => ∃ r0 : Nat,v = .agg #[sl r0 0 1 1] ∧ Pre H' r0 [iw 1,bF,iw 31,s0]) := by
  refine Does.of Tryz.func12 rfl rfl rfl rfl (fun w0 H0 kx => ?_)
  refine sr (g4 1 (fun b1 => [(0,iw 31),(2,pt b1 0)]) (fun b1 => [.blk b1 [n0] 50]) [.g [.N]] rfl (fun b1 => (en rfl ?_)))
  refine sr (g4 6 (fun b2 => [(2,pt b1 0)]) (fun b2 => [.blk b1 [sl b2 0 1 1] 50,.blk b2 [iw 1,bF,iw 31,s0] 59]) [gz,gz,gz,.g [.N],gz,.g [.K 0 0]] rfl (fun b2 => (en rfl ?_)))
  refine Ok.ret_ (Ok.pubP 1 rfl [.blk b1 [sl b2 0 1 1] 50] rfl ?_)
  intro H3 le4 pf5
  exact Ok.ret1c le4 [.K 0 0] (.agg #[sl b2 0 1 1]) [b1] rfl (by kernel_rfl) ⟨b2,rfl,pf5⟩
theorem x64_22 (H : Snap) (p0 : Nat) (hp0 : Pre H p0 [iw 1,bF,iw 31,s0]) : Does Tryz.prog 64 [.agg #[sl p0 0 1 1],iw 1] H [] (fun v H' kp => v = .agg #[bF,iw 31,s0]) := by
  refine Does.of Tryz.func64 rfl rfl rfl rfl (fun w0 H0 kx => ?_)
  refine sr (g4 2 (fun b1 => [(1,iw 1),(2,pt b1 0),(4,pt (b1+1) 0)]) (fun b1 => [.blk b1 [sl p0 0 1 1] 50,.blk (b1+1) [bF,iw 0,s0] 54]) [.g [.N],.g [.N]] rfl (fun b1 => (en rfl ?_)))
  refine Ok.seq (sr (g0 4 [(1,iw 1),(4,pt (b1+1) 0),(8,sl p0 0 1 1),(9,iw 1),(10,iw 0)] [gz,.g [.K 0 0],gz,gz] rfl (en rfl (Ok.blk (Ok.loopN 1 (Ok.round (sr (g0 1 [(1,iw 1),(4,pt (b1+1) 0),(8,sl p0 0 1 1),(9,iw 1),(10,iw 0),(11,bT)] [gz] rfl (en rfl (Ok.seq (cT (skn (Ok.seq (Ok.blk (sr (g5 4 (fun b4 => [(1,iw 1),(4,pt (b1+1) 0),(6,pt b4 0),(8,sl p0 0 1 1),(9,iw 1),(10,iw 0)]) (fun b4 => [.blk b1 [sl p0 0 1 1] 50,.blk (b1+1) [bF,iw 0,s0] 54,.blk b4 [iw 1,bF,iw 31,s0] 59]) [gz,.g [.X (iw 1),.X (bF),.X (iw 31),.X (s0)],.g [.N],.g [.K 2 0,.K 2 1,.K 2 2,.K 2 3]] (fun b4 => (ex1 (Pre.cell hp0 0 rfl) (ex1 (Pre.cell hp0 1 rfl) (ex1 (Pre.cell hp0 2 rfl) (ex1 (Pre.cell hp0 3 rfl) ex0))))) rfl (fun b4 => (en rfl (sr (g0 4 [(1,iw 1),(4,pt (b1+1) 0),(6,pt b4 0),(8,sl p0 0 1 1),(9,iw 1),(10,iw 0),(17,bT)] [gz,.g [.K 2 0],gz,gz] rfl (en rfl (cT (sr (g1 3 [(4,pt (b1+1) 0)] [.blk b1 [sl p0 0 1 1] 50,.blk (b1+1) [bF,iw 31,s0] 54,.blk b4 [iw 1,bF,iw 31,s0] 59] [gz,.g [.K 2 1,.K 2 2,.K 2 3],.g [.K 1 0,.K 1 1,.K 1 2]] rfl (Ok.mask [false,true,false] [.blk (b1+1) [bF,iw 31,s0] 54] rfl (en rfl (Ok.ret_ (Ok.blkR (Ok.thenR (Ok.thenR (Ok.blkR (Ok.thenR ?_))))))))))))))))))))))))))))))))
  exact Ok.ret1c (SLe.refl _) [.K 0 0,.K 0 1,.K 0 2] (.agg #[bF,iw 31,s0]) [b1+1,b1+1,b1+1] rfl (by kernel_rfl) rfl
theorem x95_24 (H : Snap) : Does Tryz.prog 95 [iw 31] H [] (fun v H' kp => v = iw 1) := by
  refine Does.of Tryz.func95 rfl rfl rfl rfl (fun w0 H0 kx => ?_)
  refine sr (g0 1 [(0,iw 31)] [gz] rfl (en rfl (sr (g0 4 [(0,iw 31)] [gz,gz,gz,gz] rfl (en rfl (sr (g0 3 [(0,iw 719499)] [gz,gz,gz] rfl (en rfl (sr (g0 3 [(0,iw 719499),(3,iw 4)] [gz,gz,gz] rfl (en rfl (Ok.seq (sr (g0 2 [(0,iw 719499),(3,iw 4),(16,bF)] [gz,gz] rfl (en rfl (cF (skn (sr (g0 5 [(3,iw 4),(4,iw 135111)] [gz,gz,gz,gz,gz] rfl (en rfl (sr (g0 12 [(3,iw 4),(4,iw 135111),(5,iw 369)] [gz,gz,gz,gz,gz,gz,gz,gz,gz,gz,gz,gz] rfl (en rfl (sr (g0 11 [(3,iw 4),(5,iw 369),(6,iw 337)] [gz,gz,gz,gz,gz,gz,gz,gz,gz,gz,gz] rfl (en rfl (sr (g0 5 [(3,iw 4),(5,iw 369),(7,iw 11)] [gz,gz,gz,gz,gz] rfl (en rfl (sr (g0 10 [(2,iw 1)] [gz,gz,gz,gz,gz,gz,gz,gz,gz,gz] rfl (en rfl (Ok.ret_ ?_)))))))))))))))))))))))))))))))))
  exact Ok.ret1 (v := iw 1) (SLe.refl _) rfl rfl rfl
theorem x63_23 (H : Snap) : Does Tryz.prog 63 [.agg #[iw 5,iw 1,iw 0],.agg #[bF,iw 31,s0]] H [] (fun v H' kp => v = .agg #[bF,iw 1,s0]) := by
  refine Does.of Tryz.func63 rfl rfl rfl rfl (fun w0 H0 kx => ?_)
  refine sr (g4 3 (fun b1 => [(2,pt b1 0),(3,pt (b1+1) 0),(4,pt (b1+1+1) 0)]) (fun b1 => [.blk b1 [iw 5,iw 1,iw 0] 45,.blk (b1+1) [bF,iw 31,s0] 54,.blk (b1+1+1) [bF,iw 0,s0] 54]) [.g [.N],.g [.N],.g [.N]] rfl (fun b1 => (en rfl ?_)))
  refine Ok.seq (sr (g0 2 [(2,pt b1 0),(3,pt (b1+1) 0),(4,pt (b1+1+1) 0),(10,bF)] [gz,.g [.K 1 0]] rfl (en rfl (cF (skn (Ok.seq (sr (g0 2 [(2,pt b1 0),(3,pt (b1+1) 0),(4,pt (b1+1+1) 0),(13,iw 5)] [gz,.g [.K 0 0]] rfl (en rfl (Ok.blk (sr (g0 2 [(2,pt b1 0),(3,pt (b1+1) 0),(4,pt (b1+1+1) 0),(13,iw 5),(14,bF)] [gz,gz] rfl (en rfl (cF (sr (g0 2 [(2,pt b1 0),(3,pt (b1+1) 0),(4,pt (b1+1+1) 0),(13,iw 5),(45,bF)] [gz,gz] rfl (en rfl (cF (sr (g0 2 [(3,pt (b1+1) 0),(4,pt (b1+1+1) 0),(62,bT)] [gz,gz] rfl (en rfl (cT (sr (g0 2 [(4,pt (b1+1+1) 0),(65,iw 31)] [gz,.g [.K 1 1]] rfl (Ok.mask [false,false,true] [.blk (b1+1+1) [bF,iw 0,s0] 54] rfl (ef 3 rfl (ca (some 66) (x95_24 H) ?_)))))))))))))))))))))))))))
  rintro v8 H9 k11 le10 rfl
  refine g1 5 [(4,pt (b1+1+1) 0)] [.blk (b1+1+1) [bF,iw 1,s0] 54] [gz,.g [.K 0 0,.K 0 1,.K 0 2]] rfl (en rfl (Ok.ret_ (Ok.blkR (Ok.thenR ?_))))
  exact Ok.ret1c le10 [.K 0 0,.K 0 1,.K 0 2] (.agg #[bF,iw 1,s0]) [b1+1+1,b1+1+1,b1+1+1] rfl (by kernel_rfl) rfl
theorem x32_21 (H : Snap) (p0 p1 : Nat) (hp0 : Pre H p0 [iw 5,iw 1,iw 0]) (hp1 : Pre H p1 [iw 1,bF,iw 31,s0]) : Does Tryz.prog 32 [sl p0 0 1 1,.agg #[sl p1 0 1 1]] H [] (fun v H' kp => ∃ r0 : Nat,v = sl r0 0 1 1 ∧ Pre H' r0 [bF,iw 1,s0]) := by
  refine Does.of Tryz.func32 rfl rfl rfl rfl (fun w0 H0 kx => ?_)
  refine sr (g4 2 (fun b1 => [(0,sl p0 0 1 1),(3,pt b1 0)]) (fun b1 => [.blk b1 [sl p1 0 1 1] 50]) [.g [.N],gz] rfl (fun b1 => (en rfl ?_)))
  refine sr (g4 4 (fun b2 => [(0,sl p0 0 1 1),(3,pt b1 0),(5,sl b2 0 1 1)]) (fun b2 => [.blk b1 [sl p1 0 1 1] 50,.blk b2 [bF,iw 0,s0] 54]) [gz,gz,.g [.N],gz] rfl (fun b2 => (en rfl ?_)))
  refine Ok.seq (sr (g0 3 [(3,pt b1 0),(5,sl b2 0 1 1),(11,sl p0 0 1 1),(12,iw 1),(13,iw 0)] [gz,gz,gz] rfl (en rfl (Ok.blk (Ok.loopN 2 (Ok.round (sr (g0 1 [(3,pt b1 0),(5,sl b2 0 1 1),(11,sl p0 0 1 1),(12,iw 1),(13,iw 0),(14,bT)] [gz] rfl (en rfl (Ok.seq (cT (skn (Ok.seq (Ok.blk (sr (g5 6 (fun b5 => [(3,pt b1 0),(5,sl b2 0 1 1),(6,iw 0),(7,pt b5 0),(11,sl p0 0 1 1),(12,iw 1),(13,iw 0)]) (fun b5 => [.blk b1 [sl p1 0 1 1] 50,.blk b2 [bF,iw 0,s0] 54,.blk b5 [iw 5,iw 1,iw 0] 45]) [gz,gz,.g [.X (iw 5),.X (iw 1),.X (iw 0)],.g [.N],gz,.g [.K 2 0,.K 2 1,.K 2 2]] (fun b5 => (ex1 (Pre.cell hp0 0 rfl) (ex1 (Pre.cell hp0 1 rfl) (ex1 (Pre.cell hp0 2 rfl) ex0)))) rfl (fun b5 => (en rfl (st [0,2] [] 10 (tk 4 [(0,gz),(1,gz),(2,.g [.K 1 0,.K 1 1,.K 1 2]),(3,.g [.K 0 0]),(4,gz),(5,.g [.K 1 1])] [(3,pt b1 0),(5,sl b2 0 1 1),(11,sl p0 0 1 1),(12,iw 1),(13,iw 0),(18,sl b2 0 1 1),(19,iw 0),(20,.agg #[iw 5,iw 1,iw 0]),(21,.agg #[sl p1 0 1 1]),(23,iw 1)] rfl (on 6 3 rfl (ca (some 24) (x64_22 H p1 hp1) ?_))))))))))))))))))))))
  rintro v6 H7 k9 le8 rfl
  refine ws [0,2] le8 ?_
  refine on 7 2 rfl (ca (some 25) (x63_23 H7) ?_)
  rintro v10 H11 k13 le12 rfl
  refine ws [0,2] (tr le8 le12) ?_
  refine tk 1 [(8,gz)] [(3,pt b1 0),(5,sl b2 0 1 1),(11,sl p0 0 1 1),(12,iw 1),(13,iw 0),(25,.agg #[bF,iw 1,s0]),(26,pt b2 0)] rfl ?_
  refine on 9 0 rfl (e1 (.g [.K 1 0,.K 1 1,.K 1 2]) [(3,pt b1 0),(5,sl b2 0 1 1),(11,sl p0 0 1 1),(12,iw 1),(13,iw 0)] [.blk b1 [sl p1 0 1 1] 50,.blk b2 [bF,iw 1,s0] 54,.blk b5 [iw 5,iw 1,iw 0] 45] ?_)
  refine ws [0,2] (tr le8 le12) ?_
  refine Ok.done (by kernel_rfl) ?_
  refine Ok.blkN (Ok.thenN (Ok.reg (g0 2 [(3,pt b1 0),(5,sl b2 0 1 1),(11,sl p0 0 1 1),(12,iw 1),(13,iw 1)] [gz,gz] rfl (en rfl (Ok.round (sr (g0 1 [(3,pt b1 0),(5,sl b2 0 1 1),(11,sl p0 0 1 1),(12,iw 1),(13,iw 1),(14,bF)] [gz] rfl (en rfl (Ok.seq (cF (Ok.exit_ (Ok.thenE (Ok.thenE (Ok.blkE (Ok.thenN (sr (g0 2 [(4,sl b2 0 1 1)] [gz,gz] rfl (Ok.mask [false,true,false] [.blk b2 [bF,iw 1,s0] 54] rfl (en rfl (Ok.ret_ (Ok.pubP 0 rfl [] rfl ?_)))))))))))))))))))))
  intro H18 le19 pf20
  exact Ok.ret1 (v := sl b2 0 1 1) (tr le8 (tr le12 le19)) rfl rfl ⟨b2,rfl,pf20⟩
theorem x11_20 (H : Snap) (p0 : Nat) (hp0 : Pre H p0 [iw 1,bF,iw 31,s0]) : Does Tryz.prog 11 [.agg #[iw 5,iw 1,iw 0],.agg #[sl p0 0 1 1]] H [] (fun v H' kp => v = .agg #[bF,iw 1,s0]) := by
  refine Does.of Tryz.func11 rfl rfl rfl rfl (fun w0 H0 kx => ?_)
  refine sr (g4 3 (fun b1 => [(2,pt b1 0),(3,pt (b1+1) 0),(4,pt (b1+1+1) 0)]) (fun b1 => [.blk b1 [iw 5,iw 1,iw 0] 45,.blk (b1+1) [sl p0 0 1 1] 50,.blk (b1+1+1) [bF,iw 0,s0] 54]) [.g [.N],.g [.N],.g [.N]] rfl (fun b1 => (en rfl ?_)))
  refine sr (g4 3 (fun b2 => [(4,pt (b1+1+1) 0),(7,sl b2 0 1 1),(8,.agg #[sl p0 0 1 1])]) (fun b2 => [.blk b1 [iw 5,iw 1,iw 0] 45,.blk (b1+1) [sl p0 0 1 1] 50,.blk (b1+1+1) [bF,iw 0,s0] 54,.blk b2 [iw 5,iw 1,iw 0] 45]) [.g [.K 0 0,.K 0 1,.K 0 2],.g [.N],.g [.K 1 0]] rfl (fun b2 => (Ok.mask [false,false,true,true] [.blk (b1+1+1) [bF,iw 0,s0] 54,.blk b2 [iw 5,iw 1,iw 0] 45] rfl ?_)))
  refine Ok.pubP 1 rfl [.blk (b1+1+1) [bF,iw 0,s0] 54] rfl ?_
  intro H3 le4 pf5
  refine ef 4 rfl (ca (some 9) (x32_21 H3 b2 p0 pf5 (Pre.mono le4 hp0)) ?_)
  rintro v6 H7 k9 le8 ⟨q10,rfl,pf11⟩
  refine g0 5 [(4,pt (b1+1+1) 0),(5,sl q10 0 1 1)] [gz] rfl (en rfl (Ok.seq (sr (g0 3 [(4,pt (b1+1+1) 0),(5,sl q10 0 1 1),(12,bF)] [gz,gz,gz] rfl (en rfl (cF (skn (sr (g3 4 [(4,pt (b1+1+1) 0)] [.blk (b1+1+1) [bF,iw 1,s0] 54] [gz,gz,.g [.X (bF),.X (iw 1),.X (s0)],.g [.K 0 0,.K 0 1,.K 0 2]] (ex1 (Pre.cell pf11 0 rfl) (ex1 (Pre.cell pf11 1 rfl) (ex1 (Pre.cell pf11 2 rfl) ex0))) rfl (en rfl (Ok.ret_ ?_)))))))))))
  exact Ok.ret1c (tr le4 le8) [.K 0 0,.K 0 1,.K 0 2] (.agg #[bF,iw 1,s0]) [b1+1+1,b1+1+1,b1+1+1] rfl (by kernel_rfl) rfl
theorem x95_28 (H : Snap) : Does Tryz.prog 95 [iw (-1)] H [] (fun v H' kp => v = iw (-1)) := by
  refine Does.of Tryz.func95 rfl rfl rfl rfl (fun w0 H0 kx => ?_)
  refine sr (g0 1 [(0,iw (-1))] [gz] rfl (en rfl (sr (g0 4 [(0,iw (-1))] [gz,gz,gz,gz] rfl (en rfl (sr (g0 3 [(0,iw 719467)] [gz,gz,gz] rfl (en rfl (sr (g0 3 [(0,iw 719467),(3,iw 4)] [gz,gz,gz] rfl (en rfl (Ok.seq (sr (g0 2 [(0,iw 719467),(3,iw 4),(16,bF)] [gz,gz] rfl (en rfl (cF (skn (sr (g0 5 [(3,iw 4),(4,iw 135079)] [gz,gz,gz,gz,gz] rfl (en rfl (sr (g0 12 [(3,iw 4),(4,iw 135079),(5,iw 369)] [gz,gz,gz,gz,gz,gz,gz,gz,gz,gz,gz,gz] rfl (en rfl (sr (g0 11 [(3,iw 4),(5,iw 369),(6,iw 305)] [gz,gz,gz,gz,gz,gz,gz,gz,gz,gz,gz] rfl (en rfl (sr (g0 5 [(3,iw 4),(5,iw 369),(7,iw 9)] [gz,gz,gz,gz,gz] rfl (en rfl (sr (g0 10 [(2,iw (-1))] [gz,gz,gz,gz,gz,gz,gz,gz,gz,gz] rfl (en rfl (Ok.ret_ ?_)))))))))))))))))))))))))))))))))
  exact Ok.ret1 (v := iw (-1)) (SLe.refl _) rfl rfl rfl
theorem x63_27 (H : Snap) : Does Tryz.prog 63 [.agg #[iw 5,iw 1,iw 0],.agg #[bF,iw (-1),s0]] H [] (fun v H' kp => v = .agg #[bF,iw (-1),s0]) := by
  refine Does.of Tryz.func63 rfl rfl rfl rfl (fun w0 H0 kx => ?_)
  refine sr (g4 3 (fun b1 => [(2,pt b1 0),(3,pt (b1+1) 0),(4,pt (b1+1+1) 0)]) (fun b1 => [.blk b1 [iw 5,iw 1,iw 0] 45,.blk (b1+1) [bF,iw (-1),s0] 54,.blk (b1+1+1) [bF,iw 0,s0] 54]) [.g [.N],.g [.N],.g [.N]] rfl (fun b1 => (en rfl ?_)))
  refine Ok.seq (sr (g0 2 [(2,pt b1 0),(3,pt (b1+1) 0),(4,pt (b1+1+1) 0),(10,bF)] [gz,.g [.K 1 0]] rfl (en rfl (cF (skn (Ok.seq (sr (g0 2 [(2,pt b1 0),(3,pt (b1+1) 0),(4,pt (b1+1+1) 0),(13,iw 5)] [gz,.g [.K 0 0]] rfl (en rfl (Ok.blk (sr (g0 2 [(2,pt b1 0),(3,pt (b1+1) 0),(4,pt (b1+1+1) 0),(13,iw 5),(14,bF)] [gz,gz] rfl (en rfl (cF (sr (g0 2 [(2,pt b1 0),(3,pt (b1+1) 0),(4,pt (b1+1+1) 0),(13,iw 5),(45,bF)] [gz,gz] rfl (en rfl (cF (sr (g0 2 [(3,pt (b1+1) 0),(4,pt (b1+1+1) 0),(62,bT)] [gz,gz] rfl (en rfl (cT (sr (g0 2 [(4,pt (b1+1+1) 0),(65,iw (-1))] [gz,.g [.K 1 1]] rfl (Ok.mask [false,false,true] [.blk (b1+1+1) [bF,iw 0,s0] 54] rfl (ef 3 rfl (ca (some 66) (x95_28 H) ?_)))))))))))))))))))))))))))
  rintro v8 H9 k11 le10 rfl
  refine g1 5 [(4,pt (b1+1+1) 0)] [.blk (b1+1+1) [bF,iw (-1),s0] 54] [gz,.g [.K 0 0,.K 0 1,.K 0 2]] rfl (en rfl (Ok.ret_ (Ok.blkR (Ok.thenR ?_))))
  exact Ok.ret1c le10 [.K 0 0,.K 0 1,.K 0 2] (.agg #[bF,iw (-1),s0]) [b1+1+1,b1+1+1,b1+1+1] rfl (by kernel_rfl) rfl
theorem x32_26 (H : Snap) (p0 p1 : Nat) (hp0 : Pre H p0 [iw 5,iw 1,iw 0]) (hp1 : Pre H p1 [iw 1,bF,iw (-1),s0]) : Does Tryz.prog 32 [sl p0 0 1 1,.agg #[sl p1 0 1 1]] H [] (fun v H' kp => ∃ r0 : Nat,v = sl r0 0 1 1 ∧ Pre H' r0 [bF,iw (-1),s0]) := by
  refine Does.of Tryz.func32 rfl rfl rfl rfl (fun w0 H0 kx => ?_)
  refine sr (g4 2 (fun b1 => [(0,sl p0 0 1 1),(3,pt b1 0)]) (fun b1 => [.blk b1 [sl p1 0 1 1] 50]) [.g [.N],gz] rfl (fun b1 => (en rfl ?_)))
  refine sr (g4 4 (fun b2 => [(0,sl p0 0 1 1),(3,pt b1 0),(5,sl b2 0 1 1)]) (fun b2 => [.blk b1 [sl p1 0 1 1] 50,.blk b2 [bF,iw 0,s0] 54]) [gz,gz,.g [.N],gz] rfl (fun b2 => (en rfl ?_)))
  refine Ok.seq (sr (g0 3 [(3,pt b1 0),(5,sl b2 0 1 1),(11,sl p0 0 1 1),(12,iw 1),(13,iw 0)] [gz,gz,gz] rfl (en rfl (Ok.blk (Ok.loopN 2 (Ok.round (sr (g0 1 [(3,pt b1 0),(5,sl b2 0 1 1),(11,sl p0 0 1 1),(12,iw 1),(13,iw 0),(14,bT)] [gz] rfl (en rfl (Ok.seq (cT (skn (Ok.seq (Ok.blk (sr (g5 6 (fun b5 => [(3,pt b1 0),(5,sl b2 0 1 1),(6,iw 0),(7,pt b5 0),(11,sl p0 0 1 1),(12,iw 1),(13,iw 0)]) (fun b5 => [.blk b1 [sl p1 0 1 1] 50,.blk b2 [bF,iw 0,s0] 54,.blk b5 [iw 5,iw 1,iw 0] 45]) [gz,gz,.g [.X (iw 5),.X (iw 1),.X (iw 0)],.g [.N],gz,.g [.K 2 0,.K 2 1,.K 2 2]] (fun b5 => (ex1 (Pre.cell hp0 0 rfl) (ex1 (Pre.cell hp0 1 rfl) (ex1 (Pre.cell hp0 2 rfl) ex0)))) rfl (fun b5 => (en rfl (st [0,2] [] 10 (tk 4 [(0,gz),(1,gz),(2,.g [.K 1 0,.K 1 1,.K 1 2]),(3,.g [.K 0 0]),(4,gz),(5,.g [.K 1 1])] [(3,pt b1 0),(5,sl b2 0 1 1),(11,sl p0 0 1 1),(12,iw 1),(13,iw 0),(18,sl b2 0 1 1),(19,iw 0),(20,.agg #[iw 5,iw 1,iw 0]),(21,.agg #[sl p1 0 1 1]),(23,iw 1)] rfl (on 6 3 rfl (ca (some 24) (x64_11 H p1 hp1) ?_))))))))))))))))))))))
  rintro v6 H7 k9 le8 rfl
  refine ws [0,2] le8 ?_
  refine on 7 2 rfl (ca (some 25) (x63_27 H7) ?_)
  rintro v10 H11 k13 le12 rfl
  refine ws [0,2] (tr le8 le12) ?_
  refine tk 1 [(8,gz)] [(3,pt b1 0),(5,sl b2 0 1 1),(11,sl p0 0 1 1),(12,iw 1),(13,iw 0),(25,.agg #[bF,iw (-1),s0]),(26,pt b2 0)] rfl ?_
  refine on 9 0 rfl (e1 (.g [.K 1 0,.K 1 1,.K 1 2]) [(3,pt b1 0),(5,sl b2 0 1 1),(11,sl p0 0 1 1),(12,iw 1),(13,iw 0)] [.blk b1 [sl p1 0 1 1] 50,.blk b2 [bF,iw (-1),s0] 54,.blk b5 [iw 5,iw 1,iw 0] 45] ?_)
  refine ws [0,2] (tr le8 le12) ?_
  refine Ok.done (by kernel_rfl) ?_
  refine Ok.blkN (Ok.thenN (Ok.reg (g0 2 [(3,pt b1 0),(5,sl b2 0 1 1),(11,sl p0 0 1 1),(12,iw 1),(13,iw 1)] [gz,gz] rfl (en rfl (Ok.round (sr (g0 1 [(3,pt b1 0),(5,sl b2 0 1 1),(11,sl p0 0 1 1),(12,iw 1),(13,iw 1),(14,bF)] [gz] rfl (en rfl (Ok.seq (cF (Ok.exit_ (Ok.thenE (Ok.thenE (Ok.blkE (Ok.thenN (sr (g0 2 [(4,sl b2 0 1 1)] [gz,gz] rfl (Ok.mask [false,true,false] [.blk b2 [bF,iw (-1),s0] 54] rfl (en rfl (Ok.ret_ (Ok.pubP 0 rfl [] rfl ?_)))))))))))))))))))))
  intro H18 le19 pf20
  exact Ok.ret1 (v := sl b2 0 1 1) (tr le8 (tr le12 le19)) rfl rfl ⟨b2,rfl,pf20⟩
theorem x11_25 (H : Snap) (p0 : Nat) (hp0 : Pre H p0 [iw 1,bF,iw (-1),s0]) : Does Tryz.prog 11 [.agg #[iw 5,iw 1,iw 0],.agg #[sl p0 0 1 1]] H [] (fun v H' kp => v = .agg #[bF,iw (-1),s0]) := by
  refine Does.of Tryz.func11 rfl rfl rfl rfl (fun w0 H0 kx => ?_)
  refine sr (g4 3 (fun b1 => [(2,pt b1 0),(3,pt (b1+1) 0),(4,pt (b1+1+1) 0)]) (fun b1 => [.blk b1 [iw 5,iw 1,iw 0] 45,.blk (b1+1) [sl p0 0 1 1] 50,.blk (b1+1+1) [bF,iw 0,s0] 54]) [.g [.N],.g [.N],.g [.N]] rfl (fun b1 => (en rfl ?_)))
  refine sr (g4 3 (fun b2 => [(4,pt (b1+1+1) 0),(7,sl b2 0 1 1),(8,.agg #[sl p0 0 1 1])]) (fun b2 => [.blk b1 [iw 5,iw 1,iw 0] 45,.blk (b1+1) [sl p0 0 1 1] 50,.blk (b1+1+1) [bF,iw 0,s0] 54,.blk b2 [iw 5,iw 1,iw 0] 45]) [.g [.K 0 0,.K 0 1,.K 0 2],.g [.N],.g [.K 1 0]] rfl (fun b2 => (Ok.mask [false,false,true,true] [.blk (b1+1+1) [bF,iw 0,s0] 54,.blk b2 [iw 5,iw 1,iw 0] 45] rfl ?_)))
  refine Ok.pubP 1 rfl [.blk (b1+1+1) [bF,iw 0,s0] 54] rfl ?_
  intro H3 le4 pf5
  refine ef 4 rfl (ca (some 9) (x32_26 H3 b2 p0 pf5 (Pre.mono le4 hp0)) ?_)
  rintro v6 H7 k9 le8 ⟨q10,rfl,pf11⟩
  refine g0 5 [(4,pt (b1+1+1) 0),(5,sl q10 0 1 1)] [gz] rfl (en rfl (Ok.seq (sr (g0 3 [(4,pt (b1+1+1) 0),(5,sl q10 0 1 1),(12,bF)] [gz,gz,gz] rfl (en rfl (cF (skn (sr (g3 4 [(4,pt (b1+1+1) 0)] [.blk (b1+1+1) [bF,iw (-1),s0] 54] [gz,gz,.g [.X (bF),.X (iw (-1)),.X (s0)],.g [.K 0 0,.K 0 1,.K 0 2]] (ex1 (Pre.cell pf11 0 rfl) (ex1 (Pre.cell pf11 1 rfl) (ex1 (Pre.cell pf11 2 rfl) ex0))) rfl (en rfl (Ok.ret_ ?_)))))))))))
  exact Ok.ret1c (tr le4 le8) [.K 0 0,.K 0 1,.K 0 2] (.agg #[bF,iw (-1),s0]) [b1+1+1,b1+1+1,b1+1+1] rfl (by kernel_rfl) rfl
theorem x64_31 (H : Snap) : Does Tryz.prog 64 [.agg #[n0],iw 1] H [] (fun v H' kp => v = .agg #[bT,iw 0,s0]) := by
  refine Does.of Tryz.func64 rfl rfl rfl rfl (fun w0 H0 kx => ?_)
  refine sr (g4 2 (fun b1 => [(1,iw 1),(2,pt b1 0),(4,pt (b1+1) 0)]) (fun b1 => [.blk b1 [n0] 50,.blk (b1+1) [bF,iw 0,s0] 54]) [.g [.N],.g [.N]] rfl (fun b1 => (en rfl ?_)))
  refine Ok.seq (sr (g0 4 [(1,iw 1),(4,pt (b1+1) 0),(8,n0),(9,iw 0),(10,iw 0)] [gz,.g [.K 0 0],gz,gz] rfl (en rfl (Ok.blk (Ok.loopN 1 (Ok.round (sr (g0 1 [(1,iw 1),(4,pt (b1+1) 0),(8,n0),(9,iw 0),(10,iw 0),(11,bF)] [gz] rfl (en rfl (Ok.seq (cF (Ok.exit_ (Ok.thenE (Ok.thenE (Ok.blkE (Ok.thenN (sr (g1 2 [(4,pt (b1+1) 0)] [.blk b1 [n0] 50,.blk (b1+1) [bT,iw 0,s0] 54] [gz,.g [.K 1 0,.K 1 1,.K 1 2]] rfl (en rfl (Ok.ret_ ?_))))))))))))))))))))
  exact Ok.ret1c (SLe.refl _) [.K 1 0,.K 1 1,.K 1 2] (.agg #[bT,iw 0,s0]) [b1+1,b1+1,b1+1] rfl (by kernel_rfl) rfl
theorem x63_32 (H : Snap) : Does Tryz.prog 63 [.agg #[iw 3,iw 1,iw 10],.agg #[bT,iw 0,s0]] H [] (fun v H' kp => v = .agg #[bT,iw 0,s0]) := by
  refine Does.of Tryz.func63 rfl rfl rfl rfl (fun w0 H0 kx => ?_)
  refine sr (g4 3 (fun b1 => [(2,pt b1 0),(3,pt (b1+1) 0),(4,pt (b1+1+1) 0)]) (fun b1 => [.blk b1 [iw 3,iw 1,iw 10] 45,.blk (b1+1) [bT,iw 0,s0] 54,.blk (b1+1+1) [bF,iw 0,s0] 54]) [.g [.N],.g [.N],.g [.N]] rfl (fun b1 => (en rfl ?_)))
  refine Ok.seq (sr (g0 2 [(2,pt b1 0),(3,pt (b1+1) 0),(4,pt (b1+1+1) 0),(10,bT)] [gz,.g [.K 1 0]] rfl (en rfl (cT (sr (g1 2 [(4,pt (b1+1+1) 0)] [.blk b1 [iw 3,iw 1,iw 10] 45,.blk (b1+1) [bT,iw 0,s0] 54,.blk (b1+1+1) [bT,iw 0,s0] 54] [gz,.g [.K 2 0,.K 2 1,.K 2 2]] rfl (Ok.mask [false,false,true] [.blk (b1+1+1) [bT,iw 0,s0] 54] rfl (en rfl (Ok.ret_ (Ok.thenR ?_))))))))))
  exact Ok.ret1c (SLe.refl _) [.K 0 0,.K 0 1,.K 0 2] (.agg #[bT,iw 0,s0]) [b1+1+1,b1+1+1,b1+1+1] rfl (by kernel_rfl) rfl
theorem x32_30 (H : Snap) (p0 : Nat) (hp0 : Pre H p0 [iw 3,iw 1,iw 10]) : Does Tryz.prog 32 [sl p0 0 1 1,.agg #[n0]] H [] (fun v H' kp => ∃ r0 : Nat,v = sl r0 0 1 1 ∧ Pre H' r0 [bT,iw 0,s0]) := by
  refine Does.of Tryz.func32 rfl rfl rfl rfl (fun w0 H0 kx => ?_)
  refine sr (g4 2 (fun b1 => [(0,sl p0 0 1 1),(3,pt b1 0)]) (fun b1 => [.blk b1 [n0] 50]) [.g [.N],gz] rfl (fun b1 => (en rfl ?_)))
  refine sr (g4 4 (fun b2 => [(0,sl p0 0 1 1),(3,pt b1 0),(5,sl b2 0 1 1)]) (fun b2 => [.blk b1 [n0] 50,.blk b2 [bF,iw 0,s0] 54]) [gz,gz,.g [.N],gz] rfl (fun b2 => (en rfl ?_)))
  refine Ok.seq (sr (g0 3 [(3,pt b1 0),(5,sl b2 0 1 1),(11,sl p0 0 1 1),(12,iw 1),(13,iw 0)] [gz,gz,gz] rfl (en rfl (Ok.blk (Ok.loopN 2 (Ok.round (sr (g0 1 [(3,pt b1 0),(5,sl b2 0 1 1),(11,sl p0 0 1 1),(12,iw 1),(13,iw 0),(14,bT)] [gz] rfl (en rfl (Ok.seq (cT (skn (Ok.seq (Ok.blk (sr (g5 6 (fun b5 => [(3,pt b1 0),(5,sl b2 0 1 1),(6,iw 0),(7,pt b5 0),(11,sl p0 0 1 1),(12,iw 1),(13,iw 0)]) (fun b5 => [.blk b1 [n0] 50,.blk b2 [bF,iw 0,s0] 54,.blk b5 [iw 3,iw 1,iw 10] 45]) [gz,gz,.g [.X (iw 3),.X (iw 1),.X (iw 10)],.g [.N],gz,.g [.K 2 0,.K 2 1,.K 2 2]] (fun b5 => (ex1 (Pre.cell hp0 0 rfl) (ex1 (Pre.cell hp0 1 rfl) (ex1 (Pre.cell hp0 2 rfl) ex0)))) rfl (fun b5 => (en rfl (st [0,2] [] 10 (tk 4 [(0,gz),(1,gz),(2,.g [.K 1 0,.K 1 1,.K 1 2]),(3,.g [.K 0 0]),(4,gz),(5,.g [.K 1 1])] [(3,pt b1 0),(5,sl b2 0 1 1),(11,sl p0 0 1 1),(12,iw 1),(13,iw 0),(18,sl b2 0 1 1),(19,iw 0),(20,.agg #[iw 3,iw 1,iw 10]),(21,.agg #[n0]),(23,iw 1)] rfl (on 6 3 rfl (ca (some 24) (x64_31 H) ?_))))))))))))))))))))))
  rintro v6 H7 k9 le8 rfl
  refine ws [0,2] le8 ?_
  refine on 7 2 rfl (ca (some 25) (x63_32 H7) ?_)
  rintro v10 H11 k13 le12 rfl
  refine ws [0,2] (tr le8 le12) ?_
  refine tk 1 [(8,gz)] [(3,pt b1 0),(5,sl b2 0 1 1),(11,sl p0 0 1 1),(12,iw 1),(13,iw 0),(25,.agg #[bT,iw 0,s0]),(26,pt b2 0)] rfl ?_
  refine on 9 0 rfl (e1 (.g [.K 1 0,.K 1 1,.K 1 2]) [(3,pt b1 0),(5,sl b2 0 1 1),(11,sl p0 0 1 1),(12,iw 1),(13,iw 0)] [.blk b1 [n0] 50,.blk b2 [bT,iw 0,s0] 54,.blk b5 [iw 3,iw 1,iw 10] 45] ?_)
  refine ws [0,2] (tr le8 le12) ?_
  refine Ok.done (by kernel_rfl) ?_
  refine Ok.blkN (Ok.thenN (Ok.reg (g0 2 [(3,pt b1 0),(5,sl b2 0 1 1),(11,sl p0 0 1 1),(12,iw 1),(13,iw 1)] [gz,gz] rfl (en rfl (Ok.round (sr (g0 1 [(3,pt b1 0),(5,sl b2 0 1 1),(11,sl p0 0 1 1),(12,iw 1),(13,iw 1),(14,bF)] [gz] rfl (en rfl (Ok.seq (cF (Ok.exit_ (Ok.thenE (Ok.thenE (Ok.blkE (Ok.thenN (sr (g0 2 [(4,sl b2 0 1 1)] [gz,gz] rfl (Ok.mask [false,true,false] [.blk b2 [bT,iw 0,s0] 54] rfl (en rfl (Ok.ret_ (Ok.pubP 0 rfl [] rfl ?_)))))))))))))))))))))
  intro H18 le19 pf20
  exact Ok.ret1 (v := sl b2 0 1 1) (tr le8 (tr le12 le19)) rfl rfl ⟨b2,rfl,pf20⟩
theorem x11_29 (H : Snap) : Does Tryz.prog 11 [.agg #[iw 3,iw 1,iw 10],.agg #[n0]] H [] (fun v H' kp => v = .agg #[bT,iw 0,s0]) := by
  refine Does.of Tryz.func11 rfl rfl rfl rfl (fun w0 H0 kx => ?_)
  refine sr (g4 3 (fun b1 => [(2,pt b1 0),(3,pt (b1+1) 0),(4,pt (b1+1+1) 0)]) (fun b1 => [.blk b1 [iw 3,iw 1,iw 10] 45,.blk (b1+1) [n0] 50,.blk (b1+1+1) [bF,iw 0,s0] 54]) [.g [.N],.g [.N],.g [.N]] rfl (fun b1 => (en rfl ?_)))
  refine sr (g4 3 (fun b2 => [(4,pt (b1+1+1) 0),(7,sl b2 0 1 1),(8,.agg #[n0])]) (fun b2 => [.blk b1 [iw 3,iw 1,iw 10] 45,.blk (b1+1) [n0] 50,.blk (b1+1+1) [bF,iw 0,s0] 54,.blk b2 [iw 3,iw 1,iw 10] 45]) [.g [.K 0 0,.K 0 1,.K 0 2],.g [.N],.g [.K 1 0]] rfl (fun b2 => (Ok.mask [false,false,true,true] [.blk (b1+1+1) [bF,iw 0,s0] 54,.blk b2 [iw 3,iw 1,iw 10] 45] rfl ?_)))
  refine Ok.pubP 1 rfl [.blk (b1+1+1) [bF,iw 0,s0] 54] rfl ?_
  intro H3 le4 pf5
  refine ef 4 rfl (ca (some 9) (x32_30 H3 b2 pf5) ?_)
  rintro v6 H7 k9 le8 ⟨q10,rfl,pf11⟩
  refine g0 5 [(4,pt (b1+1+1) 0),(5,sl q10 0 1 1)] [gz] rfl (en rfl (Ok.seq (sr (g0 3 [(4,pt (b1+1+1) 0),(5,sl q10 0 1 1),(12,bF)] [gz,gz,gz] rfl (en rfl (cF (skn (sr (g3 4 [(4,pt (b1+1+1) 0)] [.blk (b1+1+1) [bT,iw 0,s0] 54] [gz,gz,.g [.X (bT),.X (iw 0),.X (s0)],.g [.K 0 0,.K 0 1,.K 0 2]] (ex1 (Pre.cell pf11 0 rfl) (ex1 (Pre.cell pf11 1 rfl) (ex1 (Pre.cell pf11 2 rfl) ex0))) rfl (en rfl (Ok.ret_ ?_)))))))))))
  exact Ok.ret1c (tr le4 le8) [.K 0 0,.K 0 1,.K 0 2] (.agg #[bT,iw 0,s0]) [b1+1+1,b1+1+1,b1+1+1] rfl (by kernel_rfl) rfl
theorem x14_33 (H : Snap) : Does Tryz.prog 14 [iw 17,iw 42] H [] (fun v H' kp => v = .agg #[iw 1,iw 1,iw 17,iw 42,n0,s0,n0]) := by
  refine Does.of Tryz.func14 rfl rfl rfl rfl (fun w0 H0 kx => ?_)
  refine sr (g4 1 (fun b1 => [(0,iw 17),(1,iw 42),(4,pt b1 0)]) (fun b1 => [.blk b1 [iw 0,iw 0,iw 0,iw 0,n0,s0,n0] 27]) [.g [.N]] rfl (fun b1 => (en rfl ?_)))
  refine sr (g1 4 [(4,pt b1 0)] [.blk b1 [iw 1,iw 1,iw 17,iw 42,n0,s0,n0] 27] [gz,gz,gz,.g [.K 0 0,.K 0 1,.K 0 2,.K 0 3,.K 0 4,.K 0 5,.K 0 6]] rfl (en rfl (Ok.ret_ ?_)))
  exact Ok.ret1c (SLe.refl _) [.K 0 0,.K 0 1,.K 0 2,.K 0 3,.K 0 4,.K 0 5,.K 0 6] (.agg #[iw 1,iw 1,iw 17,iw 42,n0,s0,n0]) [b1,b1,b1,b1,b1,b1,b1] rfl (by kernel_rfl) rfl
theorem x30_35 (H : Snap) : Does Tryz.prog 30 [.agg #[iw 3,iw 1,iw 10]] H [] (fun v H' kp => ∃ r0 : Nat,v = .tuple #[.func (.func 58) #[] #[pt r0 0],.func (.func 61) #[] #[pt r0 0]] ∧ Pre H' r0 [iw 3,iw 1,iw 10]) := by
  refine Does.of Tryz.func30 rfl rfl rfl rfl (fun w0 H0 kx => ?_)
  refine sr (g4 3 (fun b1 => [(1,pt b1 0)]) (fun b1 => [.blk b1 [iw 3,iw 1,iw 10] 45]) [.g [.N],gz,gz] rfl (fun b1 => (en rfl ?_)))
  refine sr (g0 1 [(1,pt b1 0),(2,.func (.func 56) #[] #[])] [gz] rfl (en rfl (Ok.seq (sr (g0 8 [(1,pt b1 0),(2,.func (.func 56) #[] #[]),(11,bF)] [gz,.g [.K 0 0],gz,gz,gz,.g [.K 0 0],gz,gz] rfl (en rfl (cF (skn (sr (g0 2 [(1,pt b1 0),(2,.func (.func 58) #[] #[pt b1 0])] [gz,gz] rfl (en rfl (sr (g0 2 [(2,.func (.func 58) #[] #[pt b1 0]),(3,.func (.func 61) #[] #[pt b1 0])] [gz,gz] rfl (en rfl (sr (g0 4 [(2,.func (.func 58) #[] #[pt b1 0]),(3,.func (.func 61) #[] #[pt b1 0])] [gz,gz,gz,gz] rfl (en rfl (Ok.ret_ (Ok.pubP 0 rfl [] rfl ?_)))))))))))))))))))
  intro H7 le8 pf9
  exact Ok.ret2 (v := .func (.func 58) #[] #[pt b1 0]) (x := .func (.func 61) #[] #[pt b1 0]) le8 rfl rfl rfl ⟨b1,rfl,pf9⟩
theorem x94_39 (H : Snap) : Does Tryz.prog 94 [iw 42,iw 10] H [] (fun v H' kp => v = iw 40) := by
  refine Does.of Tryz.func94 rfl rfl rfl rfl (fun w0 H0 kx => ?_)
  refine sr (g0 1 [(0,iw 42),(1,iw 10)] [gz] rfl (en rfl (sr (g0 4 [(0,iw 42),(1,iw 10),(5,iw 2)] [gz,gz,gz,gz] rfl (en rfl (Ok.seq (sr (g0 2 [(0,iw 42),(1,iw 10),(5,iw 2),(10,bF)] [gz,gz] rfl (en rfl (cF (skn (Ok.seq (sr (g0 4 [(0,iw 42),(5,iw 2),(17,bF)] [gz,gz,gz,gz] rfl (en rfl (cF (skn (sr (g0 4 [(4,iw 40)] [gz,gz,gz,gz] rfl (en rfl (Ok.ret_ ?_)))))))))))))))))))))
  exact Ok.ret1 (v := iw 40) (SLe.refl _) rfl rfl rfl
theorem x93_40 (H : Snap) : Does Tryz.prog 93 [iw 1,iw 10,iw 40] H [] (fun v H' kp => v = .agg #[iw 1,iw 1,iw 10,iw 40,n0,s0,n0]) := by
  refine Does.of Tryz.func93 rfl rfl rfl rfl (fun w0 H0 kx => ?_)
  refine sr (g4 1 (fun b1 => [(0,iw 1),(1,iw 10),(2,iw 40),(6,pt b1 0)]) (fun b1 => [.blk b1 [iw 0,iw 0,iw 0,iw 0,n0,s0,n0] 27]) [.g [.N]] rfl (fun b1 => (en rfl ?_)))
  refine sr (g1 5 [(6,pt b1 0)] [.blk b1 [iw 1,iw 1,iw 10,iw 40,n0,s0,n0] 27] [gz,gz,gz,gz,.g [.K 0 0,.K 0 1,.K 0 2,.K 0 3,.K 0 4,.K 0 5,.K 0 6]] rfl (en rfl (Ok.ret_ ?_)))
  exact Ok.ret1c (SLe.refl _) [.K 0 0,.K 0 1,.K 0 2,.K 0 3,.K 0 4,.K 0 5,.K 0 6] (.agg #[iw 1,iw 1,iw 10,iw 40,n0,s0,n0]) [b1,b1,b1,b1,b1,b1,b1] rfl (by kernel_rfl) rfl
theorem x60_38 (H : Snap) : Does Tryz.prog 60 [.agg #[iw 3,iw 1,iw 10],.agg #[iw 1,iw 1,iw 17,iw 42,n0,s0,n0]] H [] (fun v H' kp => v = .agg #[iw 1,iw 1,iw 10,iw 40,n0,s0,n0]) := by
  refine Does.of Tryz.func60 rfl rfl rfl rfl (fun w0 H0 kx => ?_)
  refine sr (g4 3 (fun b1 => [(2,pt b1 0),(3,pt (b1+1) 0),(4,pt (b1+1+1) 0)]) (fun b1 => [.blk b1 [iw 3,iw 1,iw 10] 45,.blk (b1+1) [iw 1,iw 1,iw 17,iw 42,n0,s0,n0] 27,.blk (b1+1+1) [iw 0,iw 0,iw 0,iw 0,n0,s0,n0] 27]) [.g [.N],.g [.N],.g [.N]] rfl (fun b1 => (en rfl ?_)))
  refine Ok.seq (sr (g0 5 [(2,pt b1 0),(3,pt (b1+1) 0),(4,pt (b1+1+1) 0),(11,bF)] [gz,.g [.K 1 2],gz,.g [.K 1 3],gz] rfl (en rfl (cF (skn (Ok.seq (sr (g0 2 [(2,pt b1 0),(3,pt (b1+1) 0),(4,pt (b1+1+1) 0),(14,iw 3)] [gz,.g [.K 0 0]] rfl (en rfl (Ok.blk (sr (g0 2 [(2,pt b1 0),(3,pt (b1+1) 0),(4,pt (b1+1+1) 0),(14,iw 3),(15,bT)] [gz,gz] rfl (en rfl (cT (Ok.seq (st [0,1] [] 14 (tk 4 [(0,gz),(1,.g [.K 0 1]),(2,gz),(3,.g [.K 1 2]),(4,gz),(5,.g [.K 0 2]),(7,gz),(8,.g [.K 1 3]),(9,gz),(10,.g [.K 0 2])] [(4,pt (b1+1+1) 0),(18,iw 1),(20,iw 17),(22,iw 10),(25,iw 42),(27,iw 10)] rfl (on 6 3 rfl (ca (some 23) (x94_7 H) ?_)))))))))))))))))))
  rintro v5 H6 k8 le7 rfl
  refine ws [0,1] le7 ?_
  refine on 11 2 rfl (ca (some 28) (x94_39 H6) ?_)
  rintro v9 H10 k12 le11 rfl
  refine ws [0,1] (tr le7 le11) ?_
  refine on 12 1 rfl (ca (some 29) (x93_40 H10) ?_)
  rintro v13 H14 k16 le15 rfl
  refine ws [0,1] (tr le7 (tr le11 le15)) ?_
  refine on 13 0 rfl (e1 (.g [.K 2 0,.K 2 1,.K 2 2,.K 2 3,.K 2 4,.K 2 5,.K 2 6]) [(4,pt (b1+1+1) 0)] [.blk b1 [iw 3,iw 1,iw 10] 45,.blk (b1+1) [iw 1,iw 1,iw 17,iw 42,n0,s0,n0] 27,.blk (b1+1+1) [iw 1,iw 1,iw 10,iw 40,n0,s0,n0] 27] ?_)
  refine ws [0,1] (tr le7 (tr le11 le15)) ?_
  refine dn (Ok.ret_ (Ok.blkR (Ok.thenR ?_)))
  exact Ok.ret1c (tr le7 (tr le11 le15)) [.K 2 0,.K 2 1,.K 2 2,.K 2 3,.K 2 4,.K 2 5,.K 2 6] (.agg #[iw 1,iw 1,iw 10,iw 40,n0,s0,n0]) [b1+1+1,b1+1+1,b1+1+1,b1+1+1,b1+1+1,b1+1+1,b1+1+1] rfl (by kernel_rfl) rfl
theorem x58_37 (H : Snap) (p0 : Nat) (hp0 : Pre H p0 [iw 3,iw 1,iw 10]) : Does Tryz.prog 58 [.agg #[iw 1,iw 1,iw 17,iw 42,n0,s0,n0],pt p0 0] H [] (fun v H' kp => v = .agg #[iw 1,iw 1,iw 10,iw 40,n0,s0,n0]) := by
  refine Does.of Tryz.func58 rfl rfl rfl rfl (fun w0 H0 kx => ?_)
  refine sr (g4 2 (fun b1 => [(1,pt p0 0),(2,pt b1 0),(3,pt (b1+1) 0)]) (fun b1 => [.blk b1 [iw 1,iw 1,iw 17,iw 42,n0,s0,n0] 27,.blk (b1+1) [iw 0,iw 0,iw 0,iw 0,n0,s0,n0] 27]) [.g [.N],.g [.N]] rfl (fun b1 => (en rfl ?_)))
  refine Ok.seq (sr (g0 2 [(1,pt p0 0),(2,pt b1 0),(3,pt (b1+1) 0),(5,iw 1)] [gz,.g [.K 0 0]] rfl (en rfl (Ok.blk (sr (g0 2 [(1,pt p0 0),(2,pt b1 0),(3,pt (b1+1) 0),(5,iw 1),(6,bF)] [gz,gz] rfl (en rfl (cF (sr (g0 2 [(1,pt p0 0),(2,pt b1 0),(3,pt (b1+1) 0),(5,iw 1),(9,bF)] [gz,gz] rfl (en rfl (cF (sr (g0 2 [(1,pt p0 0),(2,pt b1 0),(3,pt (b1+1) 0),(15,bF)] [gz,gz] rfl (en rfl (cF (Ok.skip_ (Ok.blkN (Ok.thenN (sr (g2 2 [(3,pt (b1+1) 0),(33,.agg #[iw 3,iw 1,iw 10]),(34,.agg #[iw 1,iw 1,iw 17,iw 42,n0,s0,n0])] [.g [.X (iw 3),.X (iw 1),.X (iw 10)],.g [.K 0 0,.K 0 1,.K 0 2,.K 0 3,.K 0 4,.K 0 5,.K 0 6]] (ex1 (Pre.cell hp0 0 rfl) (ex1 (Pre.cell hp0 1 rfl) (ex1 (Pre.cell hp0 2 rfl) ex0))) rfl (ef 3 rfl (ca (some 35) (x60_38 H) ?_)))))))))))))))))))))))
  rintro v7 H8 k10 le9 rfl
  refine g1 4 [(3,pt (b1+1) 0)] [.blk b1 [iw 1,iw 1,iw 17,iw 42,n0,s0,n0] 27,.blk (b1+1) [iw 1,iw 1,iw 10,iw 40,n0,s0,n0] 27] [.g [.K 1 0,.K 1 1,.K 1 2,.K 1 3,.K 1 4,.K 1 5,.K 1 6]] rfl (en rfl (Ok.ret_ ?_))
  exact Ok.ret1c le9 [.K 1 0,.K 1 1,.K 1 2,.K 1 3,.K 1 4,.K 1 5,.K 1 6] (.agg #[iw 1,iw 1,iw 10,iw 40,n0,s0,n0]) [b1+1,b1+1,b1+1,b1+1,b1+1,b1+1,b1+1] rfl (by kernel_rfl) rfl
theorem x31_36 (H : Snap) (p0 p1 p2 p3 p4 : Nat) (hp0 : Pre H p0 [iw 3,iw 1,iw 10]) (hp1 : Pre H p1 [.func (.func 58) #[] #[pt p2 0]]) (hp2 : Pre H p2 [iw 3,iw 1,iw 10]) (hp3 : Pre H p3 [.func (.func 61) #[] #[pt p2 0]]) (hp4 : Pre H p4 [.func (.func 31) #[] #[pt p0 0,pt p1 0,pt p3 0,pt p4 0]]) : Does Tryz.prog 31 [.agg #[iw 1,iw 1,iw 17,iw 42,n0,s0,n0],bT,pt p0 0,pt p1 0,pt p3 0,pt p4 0] H [] (fun v H' kp => v = .agg #[iw 1,iw 1,iw 10,iw 40,n0,s0,n0]) := by
  refine Does.of Tryz.func31 rfl rfl rfl rfl (fun w0 H0 kx => ?_)
  refine sr (g4 2 (fun b1 => [(1,bT),(2,pt p0 0),(3,pt p1 0),(4,pt p3 0),(5,pt p4 0),(6,pt b1 0),(8,pt (b1+1) 0)]) (fun b1 => [.blk b1 [iw 1,iw 1,iw 17,iw 42,n0,s0,n0] 27,.blk (b1+1) [iw 0,iw 0,iw 0,iw 0,n0,s0,n0] 27]) [.g [.N],.g [.N]] rfl (fun b1 => (en rfl ?_)))
  refine Ok.seq (sr (g0 2 [(1,bT),(2,pt p0 0),(3,pt p1 0),(4,pt p3 0),(5,pt p4 0),(6,pt b1 0),(8,pt (b1+1) 0),(13,iw 1)] [gz,.g [.K 0 0]] rfl (en rfl (Ok.blk (sr (g0 2 [(1,bT),(2,pt p0 0),(3,pt p1 0),(4,pt p3 0),(5,pt p4 0),(6,pt b1 0),(8,pt (b1+1) 0),(13,iw 1),(14,bF)] [gz,gz] rfl (en rfl (cF (Ok.seq (sr (g0 2 [(1,bT),(2,pt p0 0),(3,pt p1 0),(4,pt p3 0),(5,pt p4 0),(6,pt b1 0),(8,pt (b1+1) 0),(13,iw 1),(19,bT)] [gz,gz] rfl (en rfl (cT (skn (cT (Ok.seq (sr (g2 8 [(2,pt p0 0),(3,pt p1 0),(4,pt p3 0),(6,pt b1 0),(8,pt (b1+1) 0),(31,bT)] [gz,.g [.K 0 1],gz,.g [.X (iw 1)],gz,gz,gz,gz] (ex1 (Pre.cell hp0 1 rfl) ex0) rfl (en rfl (cT (sr (g2 2 [(8,pt (b1+1) 0),(32,.func (.func 58) #[] #[pt p2 0]),(33,.agg #[iw 1,iw 1,iw 17,iw 42,n0,s0,n0])] [.g [.X (.func (.func 58) #[] #[pt p2 0])],.g [.K 0 0,.K 0 1,.K 0 2,.K 0 3,.K 0 4,.K 0 5,.K 0 6]] (ex1 (Pre.cell hp1 0 rfl) ex0) rfl (ef 3 rfl (ca (some 34) (x58_37 H p2 hp2) ?_))))))))))))))))))))))))
  rintro v7 H8 k10 le9 rfl
  refine g1 4 [(8,pt (b1+1) 0)] [.blk b1 [iw 1,iw 1,iw 17,iw 42,n0,s0,n0] 27,.blk (b1+1) [iw 1,iw 1,iw 10,iw 40,n0,s0,n0] 27] [.g [.K 1 0,.K 1 1,.K 1 2,.K 1 3,.K 1 4,.K 1 5,.K 1 6]] rfl (en rfl (Ok.ret_ (Ok.thenR (Ok.blkR (Ok.thenR ?_)))))
  exact Ok.ret1c le9 [.K 1 0,.K 1 1,.K 1 2,.K 1 3,.K 1 4,.K 1 5,.K 1 6] (.agg #[iw 1,iw 1,iw 10,iw 40,n0,s0,n0]) [b1+1,b1+1,b1+1,b1+1,b1+1,b1+1,b1+1] rfl (by kernel_rfl) rfl
theorem x9_34 (H : Snap) : Does Tryz.prog 9 [.agg #[iw 3,iw 1,iw 10],.agg #[iw 1,iw 1,iw 17,iw 42,n0,s0,n0]] H [] (fun v H' kp => v = .agg #[iw 1,iw 1,iw 10,iw 40,n0,s0,n0]) := by
  refine Does.of Tryz.func9 rfl rfl rfl rfl (fun w0 H0 kx => ?_)
  refine sr (g4 3 (fun b1 => [(2,pt b1 0),(3,pt (b1+1) 0),(4,pt (b1+1+1) 0)]) (fun b1 => [.blk b1 [iw 3,iw 1,iw 10] 45,.blk (b1+1) [iw 1,iw 1,iw 17,iw 42,n0,s0,n0] 27,.blk (b1+1+1) [iw 0,iw 0,iw 0,iw 0,n0,s0,n0] 27]) [.g [.N],.g [.N],.g [.N]] rfl (fun b1 => (en rfl ?_)))
  refine sr (g0 1 [(2,pt b1 0),(3,pt (b1+1) 0),(4,pt (b1+1+1) 0),(9,.agg #[iw 3,iw 1,iw 10])] [.g [.K 0 0,.K 0 1,.K 0 2]] rfl (ef 2 rfl (ca (some 10) (x30_35 H) ?_)))
  rintro v3 H4 k6 le5 ⟨q7,rfl,pf8⟩
  refine g4 9 (fun b9 => [(2,pt b1 0),(3,pt (b1+1) 0),(4,pt (b1+1+1) 0),(5,pt b9 0),(6,pt (b9+1) 0)]) (fun b9 => [.blk b1 [iw 3,iw 1,iw 10] 45,.blk (b1+1) [iw 1,iw 1,iw 17,iw 42,n0,s0,n0] 27,.blk (b1+1+1) [iw 0,iw 0,iw 0,iw 0,n0,s0,n0] 27,.blk b9 [.func (.func 58) #[] #[pt q7 0]] 62,.blk (b9+1) [.func (.func 61) #[] #[pt q7 0]] 62]) [gz,gz,gz,.g [.N],.g [.N],.g [.K 3 0],.g [.K 4 0]] rfl (fun b9 => (en rfl ?_))
  refine sr (g4 1 (fun b10 => [(2,pt b1 0),(3,pt (b1+1) 0),(4,pt (b1+1+1) 0),(5,pt b9 0),(6,pt (b9+1) 0),(7,pt b10 0)]) (fun b10 => [.blk b1 [iw 3,iw 1,iw 10] 45,.blk (b1+1) [iw 1,iw 1,iw 17,iw 42,n0,s0,n0] 27,.blk (b1+1+1) [iw 0,iw 0,iw 0,iw 0,n0,s0,n0] 27,.blk b9 [.func (.func 58) #[] #[pt q7 0]] 62,.blk (b9+1) [.func (.func 61) #[] #[pt q7 0]] 62,.blk b10 [.nilFunc] 83]) [.g [.N]] rfl (fun b10 => (en rfl ?_)))
  refine sr (g1 2 [(3,pt (b1+1) 0),(4,pt (b1+1+1) 0),(7,pt b10 0)] [.blk b1 [iw 3,iw 1,iw 10] 45,.blk (b1+1) [iw 1,iw 1,iw 17,iw 42,n0,s0,n0] 27,.blk (b1+1+1) [iw 0,iw 0,iw 0,iw 0,n0,s0,n0] 27,.blk b9 [.func (.func 58) #[] #[pt q7 0]] 62,.blk (b9+1) [.func (.func 61) #[] #[pt q7 0]] 62,.blk b10 [.func (.func 31) #[] #[pt b1 0,pt b9 0,pt (b9+1) 0,pt b10 0]] 83] [gz,.g [.K 5 0]] rfl (en rfl (sr (g0 2 [(4,pt (b1+1+1) 0),(14,.func (.func 31) #[] #[pt b1 0,pt b9 0,pt (b9+1) 0,pt b10 0]),(15,.agg #[iw 1,iw 1,iw 17,iw 42,n0,s0,n0])] [.g [.K 5 0],.g [.K 1 0,.K 1 1,.K 1 2,.K 1 3,.K 1 4,.K 1 5,.K 1 6]] rfl (Ok.pubP 0 rfl [.blk (b1+1) [iw 1,iw 1,iw 17,iw 42,n0,s0,n0] 27,.blk (b1+1+1) [iw 0,iw 0,iw 0,iw 0,n0,s0,n0] 27,.blk b9 [.func (.func 58) #[] #[pt q7 0]] 62,.blk (b9+1) [.func (.func 61) #[] #[pt q7 0]] 62,.blk b10 [.func (.func 31) #[] #[pt b1 0,pt b9 0,pt (b9+1) 0,pt b10 0]] 83] rfl ?_)))))
  intro H13 le14 pf15
  refine Ok.pubP 2 rfl [.blk (b1+1) [iw 1,iw 1,iw 17,iw 42,n0,s0,n0] 27,.blk (b1+1+1) [iw 0,iw 0,iw 0,iw 0,n0,s0,n0] 27,.blk (b9+1) [.func (.func 61) #[] #[pt q7 0]] 62,.blk b10 [.func (.func 31) #[] #[pt b1 0,pt b9 0,pt (b9+1) 0,pt b10 0]] 83] rfl ?_
  intro H16 le17 pf18
  refine Ok.pubP 2 rfl [.blk (b1+1) [iw 1,iw 1,iw 17,iw 42,n0,s0,n0] 27,.blk (b1+1+1) [iw 0,iw 0,iw 0,iw 0,n0,s0,n0] 27,.blk b10 [.func (.func 31) #[] #[pt b1 0,pt b9 0,pt (b9+1) 0,pt b10 0]] 83] rfl ?_
  intro H19 le20 pf21
  refine Ok.pubP 2 rfl [.blk (b1+1) [iw 1,iw 1,iw 17,iw 42,n0,s0,n0] 27,.blk (b1+1+1) [iw 0,iw 0,iw 0,iw 0,n0,s0,n0] 27] rfl ?_
  intro H22 le23 pf24
  refine ef 3 rfl (ca (some 16) (x31_36 H22 b1 b9 q7 (b9+1) b10 (Pre.mono (tr le17 (tr le20 le23)) pf15) (Pre.mono (tr le20 le23) pf18) (Pre.mono (tr le14 (tr le17 (tr le20 le23))) pf8) (Pre.mono le23 pf21) pf24) ?_)
  rintro v25 H26 k28 le27 rfl
  refine g1 4 [(4,pt (b1+1+1) 0)] [.blk (b1+1) [iw 1,iw 1,iw 17,iw 42,n0,s0,n0] 27,.blk (b1+1+1) [iw 1,iw 1,iw 10,iw 40,n0,s0,n0] 27] [.g [.K 1 0,.K 1 1,.K 1 2,.K 1 3,.K 1 4,.K 1 5,.K 1 6]] rfl (en rfl (Ok.ret_ ?_))
  exact Ok.ret1c (tr le5 (tr le14 (tr le17 (tr le20 (tr le23 le27))))) [.K 1 0,.K 1 1,.K 1 2,.K 1 3,.K 1 4,.K 1 5,.K 1 6] (.agg #[iw 1,iw 1,iw 10,iw 40,n0,s0,n0]) [b1+1+1,b1+1+1,b1+1+1,b1+1+1,b1+1+1,b1+1+1,b1+1+1] rfl (by kernel_rfl) rfl
theorem x14_41 (H : Snap) : Does Tryz.prog 14 [iw 10,iw 40] H [] (fun v H' kp => v = .agg #[iw 1,iw 1,iw 10,iw 40,n0,s0,n0]) := by
  refine Does.of Tryz.func14 rfl rfl rfl rfl (fun w0 H0 kx => ?_)
  refine sr (g4 1 (fun b1 => [(0,iw 10),(1,iw 40),(4,pt b1 0)]) (fun b1 => [.blk b1 [iw 0,iw 0,iw 0,iw 0,n0,s0,n0] 27]) [.g [.N]] rfl (fun b1 => (en rfl ?_)))
  refine sr (g1 4 [(4,pt b1 0)] [.blk b1 [iw 1,iw 1,iw 10,iw 40,n0,s0,n0] 27] [gz,gz,gz,.g [.K 0 0,.K 0 1,.K 0 2,.K 0 3,.K 0 4,.K 0 5,.K 0 6]] rfl (en rfl (Ok.ret_ ?_)))
  exact Ok.ret1c (SLe.refl _) [.K 0 0,.K 0 1,.K 0 2,.K 0 3,.K 0 4,.K 0 5,.K 0 6] (.agg #[iw 1,iw 1,iw 10,iw 40,n0,s0,n0]) [b1,b1,b1,b1,b1,b1,b1] rfl (by kernel_rfl) rfl
theorem x33_43 (H : Snap) : Does Tryz.prog 33 [n0,n0] H [] (fun v H' kp => v = bT) := by
  refine Does.of Tryz.func33 rfl rfl rfl rfl (fun w0 H0 kx => ?_)
  refine sr (g0 1 [(0,n0),(1,n0)] [gz] rfl (en rfl (Ok.seq (sr (g0 5 [(0,n0),(1,n0),(10,bF)] [gz,gz,gz,gz,gz] rfl (en rfl (cF (skn (Ok.seq (sr (g0 1 [(0,n0),(1,n0),(5,iw 0)] [gz] rfl (en rfl (Ok.blk (Ok.loopN 1 (Ok.round (Ok.seq (sr (g0 4 [(0,n0),(1,n0),(5,iw 0),(14,bF)] [gz,gz,gz,gz] rfl (en rfl (cF (Ok.exit_ (Ok.thenE (Ok.thenE (Ok.blkE (Ok.thenN (sr (g0 1 [(4,bT)] [gz] rfl (en rfl (Ok.ret_ ?_)))))))))))))))))))))))))))))
  exact Ok.ret1 (v := bT) (SLe.refl _) rfl rfl rfl
theorem x13_42 (H : Snap) : Does Tryz.prog 13 [.agg #[iw 1,iw 1,iw 10,iw 40,n0,s0,n0],.agg #[iw 1,iw 1,iw 10,iw 40,n0,s0,n0]] H [] (fun v H' kp => v = bT) := by
  refine Does.of Tryz.func13 rfl rfl rfl rfl (fun w0 H0 kx => ?_)
  refine sr (g4 3 (fun b1 => [(2,pt b1 0),(3,pt (b1+1) 0)]) (fun b1 => [.blk b1 [iw 1,iw 1,iw 10,iw 40,n0,s0,n0] 27,.blk (b1+1) [iw 1,iw 1,iw 10,iw 40,n0,s0,n0] 27]) [.g [.N],.g [.N],gz] rfl (fun b1 => (en rfl ?_)))
  refine Ok.seq (sr (g0 38 [(2,pt b1 0),(3,pt (b1+1) 0),(39,bF),(41,n0),(43,n0)] [gz,.g [.K 0 0],gz,.g [.K 1 0],gz,gz,gz,.g [.K 0 1],gz,.g [.K 1 1],gz,gz,gz,gz,.g [.K 0 2],gz,.g [.K 1 2],gz,gz,gz,gz,.g [.K 0 3],gz,.g [.K 1 3],gz,gz,gz,gz,.g [.K 0 5],gz,.g [.K 1 5],gz,gz,gz,gz,.g [.K 0 4],gz,.g [.K 1 4]] rfl (ef 39 rfl (ca (some 44) (x33_43 H) ?_))))
  rintro v3 H4 k6 le5 rfl
  refine g0 50 [(2,pt b1 0),(3,pt (b1+1) 0),(55,bF)] [gz,gz,gz,gz,.g [.K 0 6],gz,gz,.g [.K 1 6],gz,gz,gz] rfl (en rfl (cF (skn (Ok.seq (sr (g0 1 [(2,pt b1 0),(3,pt (b1+1) 0),(5,iw 0)] [gz] rfl (en rfl (Ok.blk (Ok.loopN 1 (Ok.round (Ok.seq (sr (g0 5 [(2,pt b1 0),(3,pt (b1+1) 0),(5,iw 0),(60,bF)] [gz,gz,.g [.K 0 6],gz,gz] rfl (en rfl (cF (Ok.exit_ (Ok.thenE (Ok.thenE (Ok.blkE (Ok.thenN (sr (g0 1 [(4,bT)] [gz] rfl (Ok.mask [false,false] [] rfl (en rfl (Ok.ret_ ?_)))))))))))))))))))))))))
  exact Ok.ret1 (v := bT) le5 rfl rfl rfl
theorem x15_44 (H : Snap) : Does Tryz.prog 15 [.agg #[iw 1,iw 1,iw 17,iw 42,n0,s0,n0]] H [] (fun v H' kp => ∃ r0 : Nat,v = .agg #[iw 7,iw 0,iw 0,iw 0,n0,s0,sl r0 0 1 1] ∧ Pre H' r0 [iw 1,iw 1,iw 17,iw 42,n0,s0,n0]) := by
  refine Does.of Tryz.func15 rfl rfl rfl rfl (fun w0 H0 kx => ?_)
  refine sr (g4 2 (fun b1 => [(1,pt b1 0),(2,pt (b1+1) 0)]) (fun b1 => [.blk b1 [iw 1,iw 1,iw 17,iw 42,n0,s0,n0] 27,.blk (b1+1) [iw 0,iw 0,iw 0,iw 0,n0,s0,n0] 27]) [.g [.N],.g [.N]] rfl (fun b1 => (en rfl ?_)))
  refine sr (g4 4 (fun b2 => [(2,pt (b1+1) 0)]) (fun b2 => [.blk b1 [iw 1,iw 1,iw 17,iw 42,n0,s0,n0] 27,.blk (b1+1) [iw 7,iw 0,iw 0,iw 0,n0,s0,sl b2 0 1 1] 27,.blk b2 [iw 1,iw 1,iw 17,iw 42,n0,s0,n0] 27]) [.g [.K 0 0,.K 0 1,.K 0 2,.K 0 3,.K 0 4,.K 0 5,.K 0 6],.g [.N],gz,.g [.K 1 0,.K 1 1,.K 1 2,.K 1 3,.K 1 4,.K 1 5,.K 1 6]] rfl (fun b2 => (en rfl ?_)))
  refine Ok.ret_ (Ok.pubP 2 rfl [.blk b1 [iw 1,iw 1,iw 17,iw 42,n0,s0,n0] 27,.blk (b1+1) [iw 7,iw 0,iw 0,iw 0,n0,s0,sl b2 0 1 1] 27] rfl ?_)
  intro H3 le4 pf5
  exact Ok.ret1c le4 [.K 1 0,.K 1 1,.K 1 2,.K 1 3,.K 1 4,.K 1 5,.K 1 6] (.agg #[iw 7,iw 0,iw 0,iw 0,n0,s0,sl b2 0 1 1]) [b1+1,b1+1,b1+1,b1+1,b1+1,b1+1,b1+1] rfl (by kernel_rfl) ⟨b2,rfl,pf5⟩
theorem x93_50 (H : Snap) : Does Tryz.prog 93 [iw 1,iw 17,iw 33] H [] (fun v H' kp => v = .agg #[iw 1,iw 1,iw 17,iw 33,n0,s0,n0]) := by
  refine Does.of Tryz.func93 rfl rfl rfl rfl (fun w0 H0 kx => ?_)
  refine sr (g4 1 (fun b1 => [(0,iw 1),(1,iw 17),(2,iw 33),(6,pt b1 0)]) (fun b1 => [.blk b1 [iw 0,iw 0,iw 0,iw 0,n0,s0,n0] 27]) [.g [.N]] rfl (fun b1 => (en rfl ?_)))
  refine sr (g1 5 [(6,pt b1 0)] [.blk b1 [iw 1,iw 1,iw 17,iw 33,n0,s0,n0] 27] [gz,gz,gz,gz,.g [.K 0 0,.K 0 1,.K 0 2,.K 0 3,.K 0 4,.K 0 5,.K 0 6]] rfl (en rfl (Ok.ret_ ?_)))
  exact Ok.ret1c (SLe.refl _) [.K 0 0,.K 0 1,.K 0 2,.K 0 3,.K 0 4,.K 0 5,.K 0 6] (.agg #[iw 1,iw 1,iw 17,iw 33,n0,s0,n0]) [b1,b1,b1,b1,b1,b1,b1] rfl (by kernel_rfl) rfl
theorem x57_51 (H : Snap) : Does Tryz.prog 57 [.agg #[iw 1,iw 1,iw 17,iw 33,n0,s0,n0]] H [] (fun v H' kp => ∃ r0 : Nat,v = .agg #[iw 7,iw 0,iw 0,iw 0,n0,s0,sl r0 0 1 1] ∧ Pre H' r0 [iw 1,iw 1,iw 17,iw 33,n0,s0,n0]) := by
  refine Does.of Tryz.func57 rfl rfl rfl rfl (fun w0 H0 kx => ?_)
  refine sr (g4 2 (fun b1 => [(1,pt b1 0),(2,pt (b1+1) 0)]) (fun b1 => [.blk b1 [iw 1,iw 1,iw 17,iw 33,n0,s0,n0] 27,.blk (b1+1) [iw 0,iw 0,iw 0,iw 0,n0,s0,n0] 27]) [.g [.N],.g [.N]] rfl (fun b1 => (en rfl ?_)))
  refine sr (g4 4 (fun b2 => [(2,pt (b1+1) 0)]) (fun b2 => [.blk b1 [iw 1,iw 1,iw 17,iw 33,n0,s0,n0] 27,.blk (b1+1) [iw 7,iw 0,iw 0,iw 0,n0,s0,sl b2 0 1 1] 27,.blk b2 [iw 1,iw 1,iw 17,iw 33,n0,s0,n0] 27]) [.g [.K 0 0,.K 0 1,.K 0 2,.K 0 3,.K 0 4,.K 0 5,.K 0 6],.g [.N],gz,.g [.K 1 0,.K 1 1,.K 1 2,.K 1 3,.K 1 4,.K 1 5,.K 1 6]] rfl (fun b2 => (en rfl ?_)))
  refine Ok.ret_ (Ok.pubP 2 rfl [.blk b1 [iw 1,iw 1,iw 17,iw 33,n0,s0,n0] 27,.blk (b1+1) [iw 7,iw 0,iw 0,iw 0,n0,s0,sl b2 0 1 1] 27] rfl ?_)
  intro H3 le4 pf5
  exact Ok.ret1c le4 [.K 1 0,.K 1 1,.K 1 2,.K 1 3,.K 1 4,.K 1 5,.K 1 6] (.agg #[iw 7,iw 0,iw 0,iw 0,n0,s0,sl b2 0 1 1]) [b1+1,b1+1,b1+1,b1+1,b1+1,b1+1,b1+1] rfl (by kernel_rfl) ⟨b2,rfl,pf5⟩
theorem x62_49 (H : Snap) : Does Tryz.prog 62 [.agg #[iw 3,iw 1,iw 10],.agg #[iw 1,iw 1,iw 17,iw 42,n0,s0,n0]] H [] (fun v H' kp => ∃ r0 : Nat,v = .agg #[iw 7,iw 0,iw 0,iw 0,n0,s0,sl r0 0 1 1] ∧ Pre H' r0 [iw 1,iw 1,iw 17,iw 33,n0,s0,n0]) := by
  refine Does.of Tryz.func62 rfl rfl rfl rfl (fun w0 H0 kx => ?_)
  refine sr (g4 3 (fun b1 => [(2,pt b1 0),(3,pt (b1+1) 0),(4,pt (b1+1+1) 0)]) (fun b1 => [.blk b1 [iw 3,iw 1,iw 10] 45,.blk (b1+1) [iw 1,iw 1,iw 17,iw 42,n0,s0,n0] 27,.blk (b1+1+1) [iw 0,iw 0,iw 0,iw 0,n0,s0,n0] 27]) [.g [.N],.g [.N],.g [.N]] rfl (fun b1 => (en rfl ?_)))
  refine Ok.seq (sr (g0 2 [(2,pt b1 0),(3,pt (b1+1) 0),(4,pt (b1+1+1) 0),(8,iw 3)] [gz,.g [.K 0 0]] rfl (en rfl (Ok.blk (sr (g0 2 [(2,pt b1 0),(3,pt (b1+1) 0),(4,pt (b1+1+1) 0),(8,iw 3),(9,bT)] [gz,gz] rfl (en rfl (cT (Ok.seq (sr (g0 7 [(2,pt b1 0),(3,pt (b1+1) 0),(4,pt (b1+1+1) 0),(17,bF)] [gz,.g [.K 1 3],gz,.g [.K 0 2],gz,gz,gz] rfl (en rfl (cF (skn (sr (g0 10 [(4,pt (b1+1+1) 0),(20,iw 1),(22,iw 17),(28,iw 33)] [gz,.g [.K 0 1],gz,.g [.K 1 2],gz,.g [.K 1 3],gz,.g [.K 0 2],gz,gz] rfl (Ok.mask [false,false,true] [.blk (b1+1+1) [iw 0,iw 0,iw 0,iw 0,n0,s0,n0] 27] rfl (ef 11 rfl (ca (some 29) (x93_50 H) ?_)))))))))))))))))))
  rintro v6 H7 k9 le8 rfl
  refine ef 12 rfl (ca (some 30) (x57_51 H7) ?_)
  rintro v11 H12 k14 le13 ⟨q15,rfl,pf16⟩
  refine g1 13 [(4,pt (b1+1+1) 0)] [.blk (b1+1+1) [iw 7,iw 0,iw 0,iw 0,n0,s0,sl q15 0 1 1] 27] [.g [.K 0 0,.K 0 1,.K 0 2,.K 0 3,.K 0 4,.K 0 5,.K 0 6]] rfl (en rfl (Ok.ret_ (Ok.blkR (Ok.thenR ?_))))
  exact Ok.ret1c (tr le8 le13) [.K 0 0,.K 0 1,.K 0 2,.K 0 3,.K 0 4,.K 0 5,.K 0 6] (.agg #[iw 7,iw 0,iw 0,iw 0,n0,s0,sl q15 0 1 1]) [b1+1+1,b1+1+1,b1+1+1,b1+1+1,b1+1+1,b1+1+1,b1+1+1] rfl (by kernel_rfl) ⟨q15,rfl,pf16⟩
theorem x61_48 (H : Snap) (p0 : Nat) (hp0 : Pre H p0 [iw 3,iw 1,iw 10]) : Does Tryz.prog 61 [.agg #[iw 1,iw 1,iw 17,iw 42,n0,s0,n0],pt p0 0] H [] (fun v H' kp => ∃ r0 : Nat,v = .agg #[iw 7,iw 0,iw 0,iw 0,n0,s0,sl r0 0 1 1] ∧ Pre H' r0 [iw 1,iw 1,iw 17,iw 33,n0,s0,n0]) := by
  refine Does.of Tryz.func61 rfl rfl rfl rfl (fun w0 H0 kx => ?_)
  refine sr (g4 2 (fun b1 => [(1,pt p0 0),(2,pt b1 0),(3,pt (b1+1) 0)]) (fun b1 => [.blk b1 [iw 1,iw 1,iw 17,iw 42,n0,s0,n0] 27,.blk (b1+1) [iw 0,iw 0,iw 0,iw 0,n0,s0,n0] 27]) [.g [.N],.g [.N]] rfl (fun b1 => (en rfl ?_)))
  refine Ok.seq (Ok.blk (sr (g0 4 [(1,pt p0 0),(2,pt b1 0),(3,pt (b1+1) 0),(4,bF)] [gz,.g [.K 0 0],gz,gz] rfl (en rfl (cF (sr (g0 4 [(1,pt p0 0),(2,pt b1 0),(3,pt (b1+1) 0),(10,bT)] [gz,.g [.K 0 0],gz,gz] rfl (en rfl (cT (sr (g2 2 [(3,pt (b1+1) 0),(14,.agg #[iw 3,iw 1,iw 10]),(15,.agg #[iw 1,iw 1,iw 17,iw 42,n0,s0,n0])] [.g [.X (iw 3),.X (iw 1),.X (iw 10)],.g [.K 0 0,.K 0 1,.K 0 2,.K 0 3,.K 0 4,.K 0 5,.K 0 6]] (ex1 (Pre.cell hp0 0 rfl) (ex1 (Pre.cell hp0 1 rfl) (ex1 (Pre.cell hp0 2 rfl) ex0))) rfl (ef 3 rfl (ca (some 16) (x62_49 H) ?_)))))))))))))
  rintro v5 H6 k8 le7 ⟨q9,rfl,pf10⟩
  refine g1 4 [(3,pt (b1+1) 0)] [.blk b1 [iw 1,iw 1,iw 17,iw 42,n0,s0,n0] 27,.blk (b1+1) [iw 7,iw 0,iw 0,iw 0,n0,s0,sl q9 0 1 1] 27] [.g [.K 1 0,.K 1 1,.K 1 2,.K 1 3,.K 1 4,.K 1 5,.K 1 6]] rfl (en rfl (Ok.ret_ (Ok.blkR (Ok.thenR ?_))))
  exact Ok.ret1c le7 [.K 1 0,.K 1 1,.K 1 2,.K 1 3,.K 1 4,.K 1 5,.K 1 6] (.agg #[iw 7,iw 0,iw 0,iw 0,n0,s0,sl q9 0 1 1]) [b1+1,b1+1,b1+1,b1+1,b1+1,b1+1,b1+1] rfl (by kernel_rfl) ⟨q9,rfl,pf10⟩
theorem x31_47 (H : Snap) (p0 p1 p2 p3 p4 : Nat) (hp0 : Pre H p0 [iw 3,iw 1,iw 10]) (hp1 : Pre H p1 [.func (.func 58) #[] #[pt p2 0]]) (hp2 : Pre H p2 [iw 3,iw 1,iw 10]) (hp3 : Pre H p3 [.func (.func 61) #[] #[pt p2 0]]) (hp4 : Pre H p4 [.func (.func 31) #[] #[pt p0 0,pt p1 0,pt p3 0,pt p4 0]]) : Does Tryz.prog 31 [.agg #[iw 1,iw 1,iw 17,iw 42,n0,s0,n0],bF,pt p0 0,pt p1 0,pt p3 0,pt p4 0] H [] (fun v H' kp => ∃ r0 : Nat,v = .agg #[iw 7,iw 0,iw 0,iw 0,n0,s0,sl r0 0 1 1] ∧ Pre H' r0 [iw 1,iw 1,iw 17,iw 33,n0,s0,n0]) := by
  refine Does.of Tryz.func31 rfl rfl rfl rfl (fun w0 H0 kx => ?_)
  refine sr (g4 2 (fun b1 => [(1,bF),(2,pt p0 0),(3,pt p1 0),(4,pt p3 0),(5,pt p4 0),(6,pt b1 0),(8,pt (b1+1) 0)]) (fun b1 => [.blk b1 [iw 1,iw 1,iw 17,iw 42,n0,s0,n0] 27,.blk (b1+1) [iw 0,iw 0,iw 0,iw 0,n0,s0,n0] 27]) [.g [.N],.g [.N]] rfl (fun b1 => (en rfl ?_)))
  refine Ok.seq (sr (g0 2 [(1,bF),(2,pt p0 0),(3,pt p1 0),(4,pt p3 0),(5,pt p4 0),(6,pt b1 0),(8,pt (b1+1) 0),(13,iw 1)] [gz,.g [.K 0 0]] rfl (en rfl (Ok.blk (sr (g0 2 [(1,bF),(2,pt p0 0),(3,pt p1 0),(4,pt p3 0),(5,pt p4 0),(6,pt b1 0),(8,pt (b1+1) 0),(13,iw 1),(14,bF)] [gz,gz] rfl (en rfl (cF (Ok.seq (sr (g0 2 [(1,bF),(2,pt p0 0),(3,pt p1 0),(4,pt p3 0),(5,pt p4 0),(6,pt b1 0),(8,pt (b1+1) 0),(13,iw 1),(19,bT)] [gz,gz] rfl (en rfl (cT (skn (cT (Ok.seq (sr (g2 8 [(2,pt p0 0),(3,pt p1 0),(4,pt p3 0),(6,pt b1 0),(8,pt (b1+1) 0),(31,bF)] [gz,.g [.K 0 1],gz,.g [.X (iw 1)],gz,gz,gz,gz] (ex1 (Pre.cell hp0 1 rfl) ex0) rfl (en rfl (cF (skn (sr (g2 5 [(4,pt p3 0),(6,pt b1 0),(8,pt (b1+1) 0),(39,bT)] [gz,.g [.K 0 1],gz,.g [.X (iw 1)],gz] (ex1 (Pre.cell hp0 1 rfl) ex0) rfl (en rfl (cT (sr (g2 2 [(8,pt (b1+1) 0),(40,.func (.func 61) #[] #[pt p2 0]),(41,.agg #[iw 1,iw 1,iw 17,iw 42,n0,s0,n0])] [.g [.X (.func (.func 61) #[] #[pt p2 0])],.g [.K 0 0,.K 0 1,.K 0 2,.K 0 3,.K 0 4,.K 0 5,.K 0 6]] (ex1 (Pre.cell hp3 0 rfl) ex0) rfl (ef 3 rfl (ca (some 42) (x61_48 H p2 hp2) ?_)))))))))))))))))))))))))))))
  rintro v8 H9 k11 le10 ⟨q12,rfl,pf13⟩
  refine g1 4 [(8,pt (b1+1) 0)] [.blk b1 [iw 1,iw 1,iw 17,iw 42,n0,s0,n0] 27,.blk (b1+1) [iw 7,iw 0,iw 0,iw 0,n0,s0,sl q12 0 1 1] 27] [.g [.K 1 0,.K 1 1,.K 1 2,.K 1 3,.K 1 4,.K 1 5,.K 1 6]] rfl (en rfl (Ok.ret_ (Ok.blkR (Ok.thenR ?_))))
  exact Ok.ret1c le10 [.K 1 0,.K 1 1,.K 1 2,.K 1 3,.K 1 4,.K 1 5,.K 1 6] (.agg #[iw 7,iw 0,iw 0,iw 0,n0,s0,sl q12 0 1 1]) [b1+1,b1+1,b1+1,b1+1,b1+1,b1+1,b1+1] rfl (by kernel_rfl) ⟨q12,rfl,pf13⟩
theorem x31_46 (H : Snap) (p0 p1 p2 p3 p4 p5 : Nat) (hp0 : Pre H p0 [iw 1,iw 1,iw 17,iw 42,n0,s0,n0]) (hp1 : Pre H p1 [iw 3,iw 1,iw 10]) (hp2 : Pre H p2 [.func (.func 58) #[] #[pt p3 0]]) (hp3 : Pre H p3 [iw 3,iw 1,iw 10]) (hp4 : Pre H p4 [.func (.func 61) #[] #[pt p3 0]]) (hp5 : Pre H p5 [.func (.func 31) #[] #[pt p1 0,pt p2 0,pt p4 0,pt p5 0]]) : Does Tryz.prog 31 [.agg #[iw 7,iw 0,iw 0,iw 0,n0,s0,sl p0 0 1 1],bT,pt p1 0,pt p2 0,pt p4 0,pt p5 0] H [] (fun v H' kp => ∃ r0 : Nat,v = .agg #[iw 7,iw 0,iw 0,iw 0,n0,s0,sl r0 0 1 1] ∧ Pre H' r0 [iw 1,iw 1,iw 17,iw 33,n0,s0,n0]) := by
  refine Does.of Tryz.func31 rfl rfl rfl rfl (fun w0 H0 kx => ?_)
  refine sr (g4 2 (fun b1 => [(1,bT),(2,pt p1 0),(3,pt p2 0),(4,pt p4 0),(5,pt p5 0),(6,pt b1 0),(8,pt (b1+1) 0)]) (fun b1 => [.blk b1 [iw 7,iw 0,iw 0,iw 0,n0,s0,sl p0 0 1 1] 27,.blk (b1+1) [iw 0,iw 0,iw 0,iw 0,n0,s0,n0] 27]) [.g [.N],.g [.N]] rfl (fun b1 => (en rfl ?_)))
  refine Ok.seq (sr (g0 2 [(1,bT),(2,pt p1 0),(3,pt p2 0),(4,pt p4 0),(5,pt p5 0),(6,pt b1 0),(8,pt (b1+1) 0),(13,iw 7)] [gz,.g [.K 0 0]] rfl (en rfl (Ok.blk (sr (g0 2 [(1,bT),(2,pt p1 0),(3,pt p2 0),(4,pt p4 0),(5,pt p5 0),(6,pt b1 0),(8,pt (b1+1) 0),(13,iw 7),(14,bF)] [gz,gz] rfl (en rfl (cF (Ok.seq (sr (g0 2 [(1,bT),(2,pt p1 0),(3,pt p2 0),(4,pt p4 0),(5,pt p5 0),(6,pt b1 0),(8,pt (b1+1) 0),(13,iw 7),(19,bF)] [gz,gz] rfl (en rfl (cF (sr (g0 2 [(1,bT),(2,pt p1 0),(3,pt p2 0),(4,pt p4 0),(5,pt p5 0),(6,pt b1 0),(8,pt (b1+1) 0),(13,iw 7),(19,bF)] [gz,gz] rfl (en rfl (cF (sr (g0 2 [(1,bT),(2,pt p1 0),(3,pt p2 0),(4,pt p4 0),(5,pt p5 0),(6,pt b1 0),(8,pt (b1+1) 0),(13,iw 7),(19,bF)] [gz,gz] rfl (en rfl (cF (Ok.reg (g0 2 [(1,bT),(2,pt p1 0),(3,pt p2 0),(4,pt p4 0),(5,pt p5 0),(6,pt b1 0),(8,pt (b1+1) 0),(13,iw 7),(19,bF)] [gz,gz] rfl (en rfl (cF (sr (g0 2 [(1,bT),(5,pt p5 0),(6,pt b1 0),(8,pt (b1+1) 0),(13,iw 7),(43,bT)] [gz,gz] rfl (en rfl (cT (sr (g0 4 [(1,bT),(5,pt p5 0),(6,pt b1 0),(8,pt (b1+1) 0),(48,bT)] [gz,.g [.K 0 6],gz,gz] rfl (en rfl (cT (Ok.seq (st [0] [] 9 (tx 2 [(0,.g [.X (.func (.func 31) #[] #[pt p1 0,pt p2 0,pt p4 0,pt p5 0])]),(1,gz),(2,.g [.K 0 6]),(3,gz),(4,.g [.X (iw 1),.X (iw 1),.X (iw 17),.X (iw 42),.X (n0),.X (s0),.X (n0)]),(5,gz),(6,gz)] [(8,pt (b1+1) 0),(49,.func (.func 31) #[] #[pt p1 0,pt p2 0,pt p4 0,pt p5 0]),(53,.agg #[iw 1,iw 1,iw 17,iw 42,n0,s0,n0]),(55,bF)] (ex1 (Pre.cell hp5 0 rfl) (ex1 (Pre.cell hp0 0 rfl) (ex1 (Pre.cell hp0 1 rfl) (ex1 (Pre.cell hp0 2 rfl) (ex1 (Pre.cell hp0 3 rfl) (ex1 (Pre.cell hp0 4 rfl) (ex1 (Pre.cell hp0 5 rfl) (ex1 (Pre.cell hp0 6 rfl) ex0)))))))) rfl (on 7 1 rfl (ca (some 56) (x31_47 H p1 p2 p3 p4 p5 hp1 hp2 hp3 hp4 hp5) ?_))))))))))))))))))))))))))))))))))))))
  rintro v10 H11 k13 le12 ⟨q14,rfl,pf15⟩
  refine ws [0] le12 ?_
  refine on 8 0 rfl (e1 (.g [.K 1 0,.K 1 1,.K 1 2,.K 1 3,.K 1 4,.K 1 5,.K 1 6]) [(8,pt (b1+1) 0)] [.blk b1 [iw 7,iw 0,iw 0,iw 0,n0,s0,sl p0 0 1 1] 27,.blk (b1+1) [iw 7,iw 0,iw 0,iw 0,n0,s0,sl q14 0 1 1] 27] ?_)
  refine ws [0] le12 ?_
  refine dn (Ok.ret_ (Ok.blkR (Ok.thenR ?_)))
  exact Ok.ret1c le12 [.K 1 0,.K 1 1,.K 1 2,.K 1 3,.K 1 4,.K 1 5,.K 1 6] (.agg #[iw 7,iw 0,iw 0,iw 0,n0,s0,sl q14 0 1 1]) [b1+1,b1+1,b1+1,b1+1,b1+1,b1+1,b1+1] rfl (by kernel_rfl) ⟨q14,rfl,pf15⟩
theorem x9_45 (H : Snap) (p0 : Nat) (hp0 : Pre H p0 [iw 1,iw 1,iw 17,iw 42,n0,s0,n0]) : Does Tryz.prog 9 [.agg #[iw 3,iw 1,iw 10],.agg #[iw 7,iw 0,iw 0,iw 0,n0,s0,sl p0 0 1 1]] H [] (fun v H' kp => ∃ r0 : Nat,v = .agg #[iw 7,iw 0,iw 0,iw 0,n0,s0,sl r0 0 1 1] ∧ Pre H' r0 [iw 1,iw 1,iw 17,iw 33,n0,s0,n0]) := by
  refine Does.of Tryz.func9 rfl rfl rfl rfl (fun w0 H0 kx => ?_)
  refine sr (g4 3 (fun b1 => [(2,pt b1 0),(3,pt (b1+1) 0),(4,pt (b1+1+1) 0)]) (fun b1 => [.blk b1 [iw 3,iw 1,iw 10] 45,.blk (b1+1) [iw 7,iw 0,iw 0,iw 0,n0,s0,sl p0 0 1 1] 27,.blk (b1+1+1) [iw 0,iw 0,iw 0,iw 0,n0,s0,n0] 27]) [.g [.N],.g [.N],.g [.N]] rfl (fun b1 => (en rfl ?_)))
  refine sr (g0 1 [(2,pt b1 0),(3,pt (b1+1) 0),(4,pt (b1+1+1) 0),(9,.agg #[iw 3,iw 1,iw 10])] [.g [.K 0 0,.K 0 1,.K 0 2]] rfl (ef 2 rfl (ca (some 10) (x30_35 H) ?_)))
  rintro v3 H4 k6 le5 ⟨q7,rfl,pf8⟩
  refine g4 9 (fun b9 => [(2,pt b1 0),(3,pt (b1+1) 0),(4,pt (b1+1+1) 0),(5,pt b9 0),(6,pt (b9+1) 0)]) (fun b9 => [.blk b1 [iw 3,iw 1,iw 10] 45,.blk (b1+1) [iw 7,iw 0,iw 0,iw 0,n0,s0,sl p0 0 1 1] 27,.blk (b1+1+1) [iw 0,iw 0,iw 0,iw 0,n0,s0,n0] 27,.blk b9 [.func (.func 58) #[] #[pt q7 0]] 62,.blk (b9+1) [.func (.func 61) #[] #[pt q7 0]] 62]) [gz,gz,gz,.g [.N],.g [.N],.g [.K 3 0],.g [.K 4 0]] rfl (fun b9 => (en rfl ?_))
  refine sr (g4 1 (fun b10 => [(2,pt b1 0),(3,pt (b1+1) 0),(4,pt (b1+1+1) 0),(5,pt b9 0),(6,pt (b9+1) 0),(7,pt b10 0)]) (fun b10 => [.blk b1 [iw 3,iw 1,iw 10] 45,.blk (b1+1) [iw 7,iw 0,iw 0,iw 0,n0,s0,sl p0 0 1 1] 27,.blk (b1+1+1) [iw 0,iw 0,iw 0,iw 0,n0,s0,n0] 27,.blk b9 [.func (.func 58) #[] #[pt q7 0]] 62,.blk (b9+1) [.func (.func 61) #[] #[pt q7 0]] 62,.blk b10 [.nilFunc] 83]) [.g [.N]] rfl (fun b10 => (en rfl ?_)))
  refine sr (g1 2 [(3,pt (b1+1) 0),(4,pt (b1+1+1) 0),(7,pt b10 0)] [.blk b1 [iw 3,iw 1,iw 10] 45,.blk (b1+1) [iw 7,iw 0,iw 0,iw 0,n0,s0,sl p0 0 1 1] 27,.blk (b1+1+1) [iw 0,iw 0,iw 0,iw 0,n0,s0,n0] 27,.blk b9 [.func (.func 58) #[] #[pt q7 0]] 62,.blk (b9+1) [.func (.func 61) #[] #[pt q7 0]] 62,.blk b10 [.func (.func 31) #[] #[pt b1 0,pt b9 0,pt (b9+1) 0,pt b10 0]] 83] [gz,.g [.K 5 0]] rfl (en rfl (sr (g0 2 [(4,pt (b1+1+1) 0),(14,.func (.func 31) #[] #[pt b1 0,pt b9 0,pt (b9+1) 0,pt b10 0]),(15,.agg #[iw 7,iw 0,iw 0,iw 0,n0,s0,sl p0 0 1 1])] [.g [.K 5 0],.g [.K 1 0,.K 1 1,.K 1 2,.K 1 3,.K 1 4,.K 1 5,.K 1 6]] rfl (Ok.pubP 0 rfl [.blk (b1+1) [iw 7,iw 0,iw 0,iw 0,n0,s0,sl p0 0 1 1] 27,.blk (b1+1+1) [iw 0,iw 0,iw 0,iw 0,n0,s0,n0] 27,.blk b9 [.func (.func 58) #[] #[pt q7 0]] 62,.blk (b9+1) [.func (.func 61) #[] #[pt q7 0]] 62,.blk b10 [.func (.func 31) #[] #[pt b1 0,pt b9 0,pt (b9+1) 0,pt b10 0]] 83] rfl ?_)))))
  intro H13 le14 pf15
  refine Ok.pubP 2 rfl [.blk (b1+1) [iw 7,iw 0,iw 0,iw 0,n0,s0,sl p0 0 1 1] 27,.blk (b1+1+1) [iw 0,iw 0,iw 0,iw 0,n0,s0,n0] 27,.blk (b9+1) [.func (.func 61) #[] #[pt q7 0]] 62,.blk b10 [.func (.func 31) #[] #[pt b1 0,pt b9 0,pt (b9+1) 0,pt b10 0]] 83] rfl ?_
  intro H16 le17 pf18
  refine Ok.pubP 2 rfl [.blk (b1+1) [iw 7,iw 0,iw 0,iw 0,n0,s0,sl p0 0 1 1] 27,.blk (b1+1+1) [iw 0,iw 0,iw 0,iw 0,n0,s0,n0] 27,.blk b10 [.func (.func 31) #[] #[pt b1 0,pt b9 0,pt (b9+1) 0,pt b10 0]] 83] rfl ?_
  intro H19 le20 pf21
  refine Ok.pubP 2 rfl [.blk (b1+1) [iw 7,iw 0,iw 0,iw 0,n0,s0,sl p0 0 1 1] 27,.blk (b1+1+1) [iw 0,iw 0,iw 0,iw 0,n0,s0,n0] 27] rfl ?_
  intro H22 le23 pf24
  refine ef 3 rfl (ca (some 16) (x31_46 H22 p0 b1 b9 q7 (b9+1) b10 (Pre.mono (tr le5 (tr le14 (tr le17 (tr le20 le23)))) hp0) (Pre.mono (tr le17 (tr le20 le23)) pf15) (Pre.mono (tr le20 le23) pf18) (Pre.mono (tr le14 (tr le17 (tr le20 le23))) pf8) (Pre.mono le23 pf21) pf24) ?_)
  rintro v25 H26 k28 le27 ⟨q29,rfl,pf30⟩
  refine g1 4 [(4,pt (b1+1+1) 0)] [.blk (b1+1) [iw 7,iw 0,iw 0,iw 0,n0,s0,sl p0 0 1 1] 27,.blk (b1+1+1) [iw 7,iw 0,iw 0,iw 0,n0,s0,sl q29 0 1 1] 27] [.g [.K 1 0,.K 1 1,.K 1 2,.K 1 3,.K 1 4,.K 1 5,.K 1 6]] rfl (en rfl (Ok.ret_ ?_))
  exact Ok.ret1c (tr le5 (tr le14 (tr le17 (tr le20 (tr le23 le27))))) [.K 1 0,.K 1 1,.K 1 2,.K 1 3,.K 1 4,.K 1 5,.K 1 6] (.agg #[iw 7,iw 0,iw 0,iw 0,n0,s0,sl q29 0 1 1]) [b1+1+1,b1+1+1,b1+1+1,b1+1+1,b1+1+1,b1+1+1,b1+1+1] rfl (by kernel_rfl) ⟨q29,rfl,pf30⟩
theorem x14_52 (H : Snap) : Does Tryz.prog 14 [iw 17,iw 33] H [] (fun v H' kp => v = .agg #[iw 1,iw 1,iw 17,iw 33,n0,s0,n0]) := by
  refine Does.of Tryz.func14 rfl rfl rfl rfl (fun w0 H0 kx => ?_)
  refine sr (g4 1 (fun b1 => [(0,iw 17),(1,iw 33),(4,pt b1 0)]) (fun b1 => [.blk b1 [iw 0,iw 0,iw 0,iw 0,n0,s0,n0] 27]) [.g [.N]] rfl (fun b1 => (en rfl ?_)))
  refine sr (g1 4 [(4,pt b1 0)] [.blk b1 [iw 1,iw 1,iw 17,iw 33,n0,s0,n0] 27] [gz,gz,gz,.g [.K 0 0,.K 0 1,.K 0 2,.K 0 3,.K 0 4,.K 0 5,.K 0 6]] rfl (en rfl (Ok.ret_ ?_)))
  exact Ok.ret1c (SLe.refl _) [.K 0 0,.K 0 1,.K 0 2,.K 0 3,.K 0 4,.K 0 5,.K 0 6] (.agg #[iw 1,iw 1,iw 17,iw 33,n0,s0,n0]) [b1,b1,b1,b1,b1,b1,b1] rfl (by kernel_rfl) rfl
theorem x15_53 (H : Snap) : Does Tryz.prog 15 [.agg #[iw 1,iw 1,iw 17,iw 33,n0,s0,n0]] H [] (fun v H' kp => ∃ r0 : Nat,v = .agg #[iw 7,iw 0,iw 0,iw 0,n0,s0,sl r0 0 1 1] ∧ Pre H' r0 [iw 1,iw 1,iw 17,iw 33,n0,s0,n0]) := by
  refine Does.of Tryz.func15 rfl rfl rfl rfl (fun w0 H0 kx => ?_)
  refine sr (g4 2 (fun b1 => [(1,pt b1 0),(2,pt (b1+1) 0)]) (fun b1 => [.blk b1 [iw 1,iw 1,iw 17,iw 33,n0,s0,n0] 27,.blk (b1+1) [iw 0,iw 0,iw 0,iw 0,n0,s0,n0] 27]) [.g [.N],.g [.N]] rfl (fun b1 => (en rfl ?_)))
  refine sr (g4 4 (fun b2 => [(2,pt (b1+1) 0)]) (fun b2 => [.blk b1 [iw 1,iw 1,iw 17,iw 33,n0,s0,n0] 27,.blk (b1+1) [iw 7,iw 0,iw 0,iw 0,n0,s0,sl b2 0 1 1] 27,.blk b2 [iw 1,iw 1,iw 17,iw 33,n0,s0,n0] 27]) [.g [.K 0 0,.K 0 1,.K 0 2,.K 0 3,.K 0 4,.K 0 5,.K 0 6],.g [.N],gz,.g [.K 1 0,.K 1 1,.K 1 2,.K 1 3,.K 1 4,.K 1 5,.K 1 6]] rfl (fun b2 => (en rfl ?_)))
  refine Ok.ret_ (Ok.pubP 2 rfl [.blk b1 [iw 1,iw 1,iw 17,iw 33,n0,s0,n0] 27,.blk (b1+1) [iw 7,iw 0,iw 0,iw 0,n0,s0,sl b2 0 1 1] 27] rfl ?_)
  intro H3 le4 pf5
  exact Ok.ret1c le4 [.K 1 0,.K 1 1,.K 1 2,.K 1 3,.K 1 4,.K 1 5,.K 1 6] (.agg #[iw 7,iw 0,iw 0,iw 0,n0,s0,sl b2 0 1 1]) [b1+1,b1+1,b1+1,b1+1,b1+1,b1+1,b1+1] rfl (by kernel_rfl) ⟨b2,rfl,pf5⟩
theorem x13_55 (H : Snap) : Does Tryz.prog 13 [.agg #[iw 1,iw 1,iw 17,iw 33,n0,s0,n0],.agg #[iw 1,iw 1,iw 17,iw 33,n0,s0,n0]] H [] (fun v H' kp => v = bT) := by
  refine Does.of Tryz.func13 rfl rfl rfl rfl (fun w0 H0 kx => ?_)
  refine sr (g4 3 (fun b1 => [(2,pt b1 0),(3,pt (b1+1) 0)]) (fun b1 => [.blk b1 [iw 1,iw 1,iw 17,iw 33,n0,s0,n0] 27,.blk (b1+1) [iw 1,iw 1,iw 17,iw 33,n0,s0,n0] 27]) [.g [.N],.g [.N],gz] rfl (fun b1 => (en rfl ?_)))
  refine Ok.seq (sr (g0 38 [(2,pt b1 0),(3,pt (b1+1) 0),(39,bF),(41,n0),(43,n0)] [gz,.g [.K 0 0],gz,.g [.K 1 0],gz,gz,gz,.g [.K 0 1],gz,.g [.K 1 1],gz,gz,gz,gz,.g [.K 0 2],gz,.g [.K 1 2],gz,gz,gz,gz,.g [.K 0 3],gz,.g [.K 1 3],gz,gz,gz,gz,.g [.K 0 5],gz,.g [.K 1 5],gz,gz,gz,gz,.g [.K 0 4],gz,.g [.K 1 4]] rfl (ef 39 rfl (ca (some 44) (x33_43 H) ?_))))
  rintro v3 H4 k6 le5 rfl
  refine g0 50 [(2,pt b1 0),(3,pt (b1+1) 0),(55,bF)] [gz,gz,gz,gz,.g [.K 0 6],gz,gz,.g [.K 1 6],gz,gz,gz] rfl (en rfl (cF (skn (Ok.seq (sr (g0 1 [(2,pt b1 0),(3,pt (b1+1) 0),(5,iw 0)] [gz] rfl (en rfl (Ok.blk (Ok.loopN 1 (Ok.round (Ok.seq (sr (g0 5 [(2,pt b1 0),(3,pt (b1+1) 0),(5,iw 0),(60,bF)] [gz,gz,.g [.K 0 6],gz,gz] rfl (en rfl (cF (Ok.exit_ (Ok.thenE (Ok.thenE (Ok.blkE (Ok.thenN (sr (g0 1 [(4,bT)] [gz] rfl (Ok.mask [false,false] [] rfl (en rfl (Ok.ret_ ?_)))))))))))))))))))))))))
  exact Ok.ret1 (v := bT) le5 rfl rfl rfl
theorem x13_54 (H : Snap) (p0 p1 : Nat) (hp0 : Pre H p0 [iw 1,iw 1,iw 17,iw 33,n0,s0,n0]) (hp1 : Pre H p1 [iw 1,iw 1,iw 17,iw 33,n0,s0,n0]) : Does Tryz.prog 13 [.agg #[iw 7,iw 0,iw 0,iw 0,n0,s0,sl p0 0 1 1],.agg #[iw 7,iw 0,iw 0,iw 0,n0,s0,sl p1 0 1 1]] H [] (fun v H' kp => v = bT) := by
  refine Does.of Tryz.func13 rfl rfl rfl rfl (fun w0 H0 kx => ?_)
  refine sr (g4 3 (fun b1 => [(2,pt b1 0),(3,pt (b1+1) 0)]) (fun b1 => [.blk b1 [iw 7,iw 0,iw 0,iw 0,n0,s0,sl p0 0 1 1] 27,.blk (b1+1) [iw 7,iw 0,iw 0,iw 0,n0,s0,sl p1 0 1 1] 27]) [.g [.N],.g [.N],gz] rfl (fun b1 => (en rfl ?_)))
  refine Ok.seq (sr (g0 38 [(2,pt b1 0),(3,pt (b1+1) 0),(39,bF),(41,n0),(43,n0)] [gz,.g [.K 0 0],gz,.g [.K 1 0],gz,gz,gz,.g [.K 0 1],gz,.g [.K 1 1],gz,gz,gz,gz,.g [.K 0 2],gz,.g [.K 1 2],gz,gz,gz,gz,.g [.K 0 3],gz,.g [.K 1 3],gz,gz,gz,gz,.g [.K 0 5],gz,.g [.K 1 5],gz,gz,gz,gz,.g [.K 0 4],gz,.g [.K 1 4]] rfl (ef 39 rfl (ca (some 44) (x33_43 H) ?_))))
  rintro v3 H4 k6 le5 rfl
  refine g0 50 [(2,pt b1 0),(3,pt (b1+1) 0),(55,bF)] [gz,gz,gz,gz,.g [.K 0 6],gz,gz,.g [.K 1 6],gz,gz,gz] rfl (en rfl (cF (skn (Ok.seq (sr (g0 1 [(2,pt b1 0),(3,pt (b1+1) 0),(5,iw 0)] [gz] rfl (en rfl (Ok.blk (Ok.loopN 2 (Ok.round (Ok.seq (sr (g0 5 [(2,pt b1 0),(3,pt (b1+1) 0),(5,iw 0),(60,bT)] [gz,gz,.g [.K 0 6],gz,gz] rfl (en rfl (cT (skn (Ok.seq (Ok.blk (Ok.seq (st [0,1] [] 12 (tx 2 [(0,gz),(1,.g [.K 0 6]),(2,gz),(3,gz),(4,.g [.X (iw 1),.X (iw 1),.X (iw 17),.X (iw 33),.X (n0),.X (s0),.X (n0)]),(5,gz),(6,.g [.K 1 6]),(7,gz),(8,gz),(9,.g [.X (iw 1),.X (iw 1),.X (iw 17),.X (iw 33),.X (n0),.X (s0),.X (n0)])] [(2,pt b1 0),(3,pt (b1+1) 0),(5,iw 0),(67,.agg #[iw 1,iw 1,iw 17,iw 33,n0,s0,n0]),(72,.agg #[iw 1,iw 1,iw 17,iw 33,n0,s0,n0])] (ex1 (Pre.cell (Pre.mono le5 hp0) 0 rfl) (ex1 (Pre.cell (Pre.mono le5 hp0) 1 rfl) (ex1 (Pre.cell (Pre.mono le5 hp0) 2 rfl) (ex1 (Pre.cell (Pre.mono le5 hp0) 3 rfl) (ex1 (Pre.cell (Pre.mono le5 hp0) 4 rfl) (ex1 (Pre.cell (Pre.mono le5 hp0) 5 rfl) (ex1 (Pre.cell (Pre.mono le5 hp0) 6 rfl) (ex1 (Pre.cell (Pre.mono le5 hp1) 0 rfl) (ex1 (Pre.cell (Pre.mono le5 hp1) 1 rfl) (ex1 (Pre.cell (Pre.mono le5 hp1) 2 rfl) (ex1 (Pre.cell (Pre.mono le5 hp1) 3 rfl) (ex1 (Pre.cell (Pre.mono le5 hp1) 4 rfl) (ex1 (Pre.cell (Pre.mono le5 hp1) 5 rfl) (ex1 (Pre.cell (Pre.mono le5 hp1) 6 rfl) ex0)))))))))))))) rfl (on 10 1 rfl (ca (some 73) (x13_55 H4) ?_)))))))))))))))))))))))
  rintro v10 H11 k13 le12 rfl
  refine ws [0,1] le12 ?_
  refine tk 0 [(11,gz)] [(2,pt b1 0),(3,pt (b1+1) 0),(5,iw 0),(74,bF)] rfl ?_
  refine dn (cF (Ok.skip_ (Ok.blkN (Ok.thenN (Ok.reg (g0 3 [(2,pt b1 0),(3,pt (b1+1) 0),(5,iw 1)] [gz,gz,gz] rfl (en rfl (Ok.round (Ok.seq (sr (g0 5 [(2,pt b1 0),(3,pt (b1+1) 0),(5,iw 1),(60,bF)] [gz,gz,.g [.K 0 6],gz,gz] rfl (en rfl (cF (Ok.exit_ (Ok.thenE (Ok.thenE (Ok.blkE (Ok.thenN (sr (g0 1 [(4,bT)] [gz] rfl (Ok.mask [false,false] [] rfl (en rfl (Ok.ret_ ?_)))))))))))))))))))))))
  exact Ok.ret1 (v := bT) (tr le5 le12) rfl rfl rfl
theorem x14_56 (H : Snap) : Does Tryz.prog 14 [iw 1,iw 58] H [] (fun v H' kp => v = .agg #[iw 1,iw 1,iw 1,iw 58,n0,s0,n0]) := by
  refine Does.of Tryz.func14 rfl rfl rfl rfl (fun w0 H0 kx => ?_)
  refine sr (g4 1 (fun b1 => [(0,iw 1),(1,iw 58),(4,pt b1 0)]) (fun b1 => [.blk b1 [iw 0,iw 0,iw 0,iw 0,n0,s0,n0] 27]) [.g [.N]] rfl (fun b1 => (en rfl ?_)))
  refine sr (g1 4 [(4,pt b1 0)] [.blk b1 [iw 1,iw 1,iw 1,iw 58,n0,s0,n0] 27] [gz,gz,gz,.g [.K 0 0,.K 0 1,.K 0 2,.K 0 3,.K 0 4,.K 0 5,.K 0 6]] rfl (en rfl (Ok.ret_ ?_)))
  exact Ok.ret1c (SLe.refl _) [.K 0 0,.K 0 1,.K 0 2,.K 0 3,.K 0 4,.K 0 5,.K 0 6] (.agg #[iw 1,iw 1,iw 1,iw 58,n0,s0,n0]) [b1,b1,b1,b1,b1,b1,b1] rfl (by kernel_rfl) rfl
theorem x15_57 (H : Snap) : Does Tryz.prog 15 [.agg #[iw 1,iw 1,iw 1,iw 58,n0,s0,n0]] H [] (fun v H' kp => ∃ r0 : Nat,v = .agg #[iw 7,iw 0,iw 0,iw 0,n0,s0,sl r0 0 1 1] ∧ Pre H' r0 [iw 1,iw 1,iw 1,iw 58,n0,s0,n0]) := by
  refine Does.of Tryz.func15 rfl rfl rfl rfl (fun w0 H0 kx => ?_)
  refine sr (g4 2 (fun b1 => [(1,pt b1 0),(2,pt (b1+1) 0)]) (fun b1 => [.blk b1 [iw 1,iw 1,iw 1,iw 58,n0,s0,n0] 27,.blk (b1+1) [iw 0,iw 0,iw 0,iw 0,n0,s0,n0] 27]) [.g [.N],.g [.N]] rfl (fun b1 => (en rfl ?_)))
  refine sr (g4 4 (fun b2 => [(2,pt (b1+1) 0)]) (fun b2 => [.blk b1 [iw 1,iw 1,iw 1,iw 58,n0,s0,n0] 27,.blk (b1+1) [iw 7,iw 0,iw 0,iw 0,n0,s0,sl b2 0 1 1] 27,.blk b2 [iw 1,iw 1,iw 1,iw 58,n0,s0,n0] 27]) [.g [.K 0 0,.K 0 1,.K 0 2,.K 0 3,.K 0 4,.K 0 5,.K 0 6],.g [.N],gz,.g [.K 1 0,.K 1 1,.K 1 2,.K 1 3,.K 1 4,.K 1 5,.K 1 6]] rfl (fun b2 => (en rfl ?_)))
  refine Ok.ret_ (Ok.pubP 2 rfl [.blk b1 [iw 1,iw 1,iw 1,iw 58,n0,s0,n0] 27,.blk (b1+1) [iw 7,iw 0,iw 0,iw 0,n0,s0,sl b2 0 1 1] 27] rfl ?_)
  intro H3 le4 pf5
  exact Ok.ret1c le4 [.K 1 0,.K 1 1,.K 1 2,.K 1 3,.K 1 4,.K 1 5,.K 1 6] (.agg #[iw 7,iw 0,iw 0,iw 0,n0,s0,sl b2 0 1 1]) [b1+1,b1+1,b1+1,b1+1,b1+1,b1+1,b1+1] rfl (by kernel_rfl) ⟨b2,rfl,pf5⟩
theorem x30_59 (H : Snap) : Does Tryz.prog 30 [.agg #[iw 5,iw 1,iw 0]] H [] (fun v H' kp => ∃ r0 : Nat,v = .tuple #[.func (.func 58) #[] #[pt r0 0],.func (.func 61) #[] #[pt r0 0]] ∧ Pre H' r0 [iw 5,iw 1,iw 0]) := by
  refine Does.of Tryz.func30 rfl rfl rfl rfl (fun w0 H0 kx => ?_)
  refine sr (g4 3 (fun b1 => [(1,pt b1 0)]) (fun b1 => [.blk b1 [iw 5,iw 1,iw 0] 45]) [.g [.N],gz,gz] rfl (fun b1 => (en rfl ?_)))
  refine sr (g0 1 [(1,pt b1 0),(2,.func (.func 56) #[] #[])] [gz] rfl (en rfl (Ok.seq (sr (g0 8 [(1,pt b1 0),(2,.func (.func 56) #[] #[]),(11,bF)] [gz,.g [.K 0 0],gz,gz,gz,.g [.K 0 0],gz,gz] rfl (en rfl (cF (skn (sr (g0 2 [(1,pt b1 0),(2,.func (.func 58) #[] #[pt b1 0])] [gz,gz] rfl (en rfl (sr (g0 2 [(2,.func (.func 58) #[] #[pt b1 0]),(3,.func (.func 61) #[] #[pt b1 0])] [gz,gz] rfl (en rfl (sr (g0 4 [(2,.func (.func 58) #[] #[pt b1 0]),(3,.func (.func 61) #[] #[pt b1 0])] [gz,gz,gz,gz] rfl (en rfl (Ok.ret_ (Ok.pubP 0 rfl [] rfl ?_)))))))))))))))))))
  intro H7 le8 pf9
  exact Ok.ret2 (v := .func (.func 58) #[] #[pt b1 0]) (x := .func (.func 61) #[] #[pt b1 0]) le8 rfl rfl rfl ⟨b1,rfl,pf9⟩
theorem x95_64 (H : Snap) : Does Tryz.prog 95 [iw 1] H [] (fun v H' kp => v = iw 0) := by
  refine Does.of Tryz.func95 rfl rfl rfl rfl (fun w0 H0 kx => ?_)
  refine sr (g0 1 [(0,iw 1)] [gz] rfl (en rfl (sr (g0 4 [(0,iw 1)] [gz,gz,gz,gz] rfl (en rfl (sr (g0 3 [(0,iw 719469)] [gz,gz,gz] rfl (en rfl (sr (g0 3 [(0,iw 719469),(3,iw 4)] [gz,gz,gz] rfl (en rfl (Ok.seq (sr (g0 2 [(0,iw 719469),(3,iw 4),(16,bF)] [gz,gz] rfl (en rfl (cF (skn (sr (g0 5 [(3,iw 4),(4,iw 135081)] [gz,gz,gz,gz,gz] rfl (en rfl (sr (g0 12 [(3,iw 4),(4,iw 135081),(5,iw 369)] [gz,gz,gz,gz,gz,gz,gz,gz,gz,gz,gz,gz] rfl (en rfl (sr (g0 11 [(3,iw 4),(5,iw 369),(6,iw 307)] [gz,gz,gz,gz,gz,gz,gz,gz,gz,gz,gz] rfl (en rfl (sr (g0 5 [(3,iw 4),(5,iw 369),(7,iw 10)] [gz,gz,gz,gz,gz] rfl (en rfl (sr (g0 10 [(2,iw 0)] [gz,gz,gz,gz,gz,gz,gz,gz,gz,gz] rfl (en rfl (Ok.ret_ ?_)))))))))))))))))))))))))))))))))
  exact Ok.ret1 (v := iw 0) (SLe.refl _) rfl rfl rfl
theorem x95_65 (H : Snap) : Does Tryz.prog 95 [iw 58] H [] (fun v H' kp => v = iw 1) := by
  refine Does.of Tryz.func95 rfl rfl rfl rfl (fun w0 H0 kx => ?_)
  refine sr (g0 1 [(0,iw 58)] [gz] rfl (en rfl (sr (g0 4 [(0,iw 58)] [gz,gz,gz,gz] rfl (en rfl (sr (g0 3 [(0,iw 719526)] [gz,gz,gz] rfl (en rfl (sr (g0 3 [(0,iw 719526),(3,iw 4)] [gz,gz,gz] rfl (en rfl (Ok.seq (sr (g0 2 [(0,iw 719526),(3,iw 4),(16,bF)] [gz,gz] rfl (en rfl (cF (skn (sr (g0 5 [(3,iw 4),(4,iw 135138)] [gz,gz,gz,gz,gz] rfl (en rfl (sr (g0 12 [(3,iw 4),(4,iw 135138),(5,iw 369)] [gz,gz,gz,gz,gz,gz,gz,gz,gz,gz,gz,gz] rfl (en rfl (sr (g0 11 [(3,iw 4),(5,iw 369),(6,iw 364)] [gz,gz,gz,gz,gz,gz,gz,gz,gz,gz,gz] rfl (en rfl (sr (g0 5 [(3,iw 4),(5,iw 369),(7,iw 11)] [gz,gz,gz,gz,gz] rfl (en rfl (sr (g0 10 [(2,iw 1)] [gz,gz,gz,gz,gz,gz,gz,gz,gz,gz] rfl (en rfl (Ok.ret_ ?_)))))))))))))))))))))))))))))))))
  exact Ok.ret1 (v := iw 1) (SLe.refl _) rfl rfl rfl
theorem x95_66 (H : Snap) : Does Tryz.prog 95 [iw 0] H [] (fun v H' kp => v = iw 0) := by
  refine Does.of Tryz.func95 rfl rfl rfl rfl (fun w0 H0 kx => ?_)
  refine sr (g0 1 [(0,iw 0)] [gz] rfl (en rfl (sr (g0 4 [(0,iw 0)] [gz,gz,gz,gz] rfl (en rfl (sr (g0 3 [(0,iw 719468)] [gz,gz,gz] rfl (en rfl (sr (g0 3 [(0,iw 719468),(3,iw 4)] [gz,gz,gz] rfl (en rfl (Ok.seq (sr (g0 2 [(0,iw 719468),(3,iw 4),(16,bF)] [gz,gz] rfl (en rfl (cF (skn (sr (g0 5 [(3,iw 4),(4,iw 135080)] [gz,gz,gz,gz,gz] rfl (en rfl (sr (g0 12 [(3,iw 4),(4,iw 135080),(5,iw 369)] [gz,gz,gz,gz,gz,gz,gz,gz,gz,gz,gz,gz] rfl (en rfl (sr (g0 11 [(3,iw 4),(5,iw 369),(6,iw 306)] [gz,gz,gz,gz,gz,gz,gz,gz,gz,gz,gz] rfl (en rfl (sr (g0 5 [(3,iw 4),(5,iw 369),(7,iw 10)] [gz,gz,gz,gz,gz] rfl (en rfl (sr (g0 10 [(2,iw 0)] [gz,gz,gz,gz,gz,gz,gz,gz,gz,gz] rfl (en rfl (Ok.ret_ ?_)))))))))))))))))))))))))))))))))
  exact Ok.ret1 (v := iw 0) (SLe.refl _) rfl rfl rfl
theorem x95_67 (H : Snap) : Does Tryz.prog 95 [iw 59] H [] (fun v H' kp => v = iw 2) := by
  refine Does.of Tryz.func95 rfl rfl rfl rfl (fun w0 H0 kx => ?_)
  refine sr (g0 1 [(0,iw 59)] [gz] rfl (en rfl (sr (g0 4 [(0,iw 59)] [gz,gz,gz,gz] rfl (en rfl (sr (g0 3 [(0,iw 719527)] [gz,gz,gz] rfl (en rfl (sr (g0 3 [(0,iw 719527),(3,iw 4)] [gz,gz,gz] rfl (en rfl (Ok.seq (sr (g0 2 [(0,iw 719527),(3,iw 4),(16,bF)] [gz,gz] rfl (en rfl (cF (skn (sr (g0 5 [(3,iw 4),(4,iw 135139)] [gz,gz,gz,gz,gz] rfl (en rfl (sr (g0 12 [(3,iw 4),(4,iw 135139),(5,iw 370)] [gz,gz,gz,gz,gz,gz,gz,gz,gz,gz,gz,gz] rfl (en rfl (sr (g0 11 [(3,iw 4),(5,iw 370),(6,iw 0)] [gz,gz,gz,gz,gz,gz,gz,gz,gz,gz,gz] rfl (en rfl (sr (g0 5 [(3,iw 4),(5,iw 370),(7,iw 0)] [gz,gz,gz,gz,gz] rfl (en rfl (sr (g0 10 [(2,iw 2)] [gz,gz,gz,gz,gz,gz,gz,gz,gz,gz] rfl (en rfl (Ok.ret_ ?_)))))))))))))))))))))))))))))))))
  exact Ok.ret1 (v := iw 2) (SLe.refl _) rfl rfl rfl
theorem x93_68 (H : Snap) : Does Tryz.prog 93 [iw 1,iw 1,iw 1] H [] (fun v H' kp => v = .agg #[iw 1,iw 1,iw 1,iw 1,n0,s0,n0]) := by
  refine Does.of Tryz.func93 rfl rfl rfl rfl (fun w0 H0 kx => ?_)
  refine sr (g4 1 (fun b1 => [(0,iw 1),(1,iw 1),(2,iw 1),(6,pt b1 0)]) (fun b1 => [.blk b1 [iw 0,iw 0,iw 0,iw 0,n0,s0,n0] 27]) [.g [.N]] rfl (fun b1 => (en rfl ?_)))
  refine sr (g1 5 [(6,pt b1 0)] [.blk b1 [iw 1,iw 1,iw 1,iw 1,n0,s0,n0] 27] [gz,gz,gz,gz,.g [.K 0 0,.K 0 1,.K 0 2,.K 0 3,.K 0 4,.K 0 5,.K 0 6]] rfl (en rfl (Ok.ret_ ?_)))
  exact Ok.ret1c (SLe.refl _) [.K 0 0,.K 0 1,.K 0 2,.K 0 3,.K 0 4,.K 0 5,.K 0 6] (.agg #[iw 1,iw 1,iw 1,iw 1,n0,s0,n0]) [b1,b1,b1,b1,b1,b1,b1] rfl (by kernel_rfl) rfl
theorem x57_69 (H : Snap) : Does Tryz.prog 57 [.agg #[iw 1,iw 1,iw 1,iw 1,n0,s0,n0]] H [] (fun v H' kp => ∃ r0 : Nat,v = .agg #[iw 7,iw 0,iw 0,iw 0,n0,s0,sl r0 0 1 1] ∧ Pre H' r0 [iw 1,iw 1,iw 1,iw 1,n0,s0,n0]) := by
  refine Does.of Tryz.func57 rfl rfl rfl rfl (fun w0 H0 kx => ?_)
  refine sr (g4 2 (fun b1 => [(1,pt b1 0),(2,pt (b1+1) 0)]) (fun b1 => [.blk b1 [iw 1,iw 1,iw 1,iw 1,n0,s0,n0] 27,.blk (b1+1) [iw 0,iw 0,iw 0,iw 0,n0,s0,n0] 27]) [.g [.N],.g [.N]] rfl (fun b1 => (en rfl ?_)))
  refine sr (g4 4 (fun b2 => [(2,pt (b1+1) 0)]) (fun b2 => [.blk b1 [iw 1,iw 1,iw 1,iw 1,n0,s0,n0] 27,.blk (b1+1) [iw 7,iw 0,iw 0,iw 0,n0,s0,sl b2 0 1 1] 27,.blk b2 [iw 1,iw 1,iw 1,iw 1,n0,s0,n0] 27]) [.g [.K 0 0,.K 0 1,.K 0 2,.K 0 3,.K 0 4,.K 0 5,.K 0 6],.g [.N],gz,.g [.K 1 0,.K 1 1,.K 1 2,.K 1 3,.K 1 4,.K 1 5,.K 1 6]] rfl (fun b2 => (en rfl ?_)))
  refine Ok.ret_ (Ok.pubP 2 rfl [.blk b1 [iw 1,iw 1,iw 1,iw 1,n0,s0,n0] 27,.blk (b1+1) [iw 7,iw 0,iw 0,iw 0,n0,s0,sl b2 0 1 1] 27] rfl ?_)
  intro H3 le4 pf5
  exact Ok.ret1c le4 [.K 1 0,.K 1 1,.K 1 2,.K 1 3,.K 1 4,.K 1 5,.K 1 6] (.agg #[iw 7,iw 0,iw 0,iw 0,n0,s0,sl b2 0 1 1]) [b1+1,b1+1,b1+1,b1+1,b1+1,b1+1,b1+1] rfl (by kernel_rfl) ⟨b2,rfl,pf5⟩
theorem x62_63 (H : Snap) : Does Tryz.prog 62 [.agg #[iw 5,iw 1,iw 0],.agg #[iw 1,iw 1,iw 1,iw 58,n0,s0,n0]] H [] (fun v H' kp => ∃ r0 : Nat,v = .agg #[iw 7,iw 0,iw 0,iw 0,n0,s0,sl r0 0 1 1] ∧ Pre H' r0 [iw 1,iw 1,iw 1,iw 1,n0,s0,n0]) := by
  refine Does.of Tryz.func62 rfl rfl rfl rfl (fun w0 H0 kx => ?_)
  refine sr (g4 3 (fun b1 => [(2,pt b1 0),(3,pt (b1+1) 0),(4,pt (b1+1+1) 0)]) (fun b1 => [.blk b1 [iw 5,iw 1,iw 0] 45,.blk (b1+1) [iw 1,iw 1,iw 1,iw 58,n0,s0,n0] 27,.blk (b1+1+1) [iw 0,iw 0,iw 0,iw 0,n0,s0,n0] 27]) [.g [.N],.g [.N],.g [.N]] rfl (fun b1 => (en rfl ?_)))
  refine Ok.seq (sr (g0 2 [(2,pt b1 0),(3,pt (b1+1) 0),(4,pt (b1+1+1) 0),(8,iw 5)] [gz,.g [.K 0 0]] rfl (en rfl (Ok.blk (sr (g0 2 [(2,pt b1 0),(3,pt (b1+1) 0),(4,pt (b1+1+1) 0),(8,iw 5),(9,bF)] [gz,gz] rfl (en rfl (cF (sr (g0 2 [(2,pt b1 0),(3,pt (b1+1) 0),(4,pt (b1+1+1) 0),(31,bT)] [gz,gz] rfl (en rfl (cT (Ok.seq (st [0,1,2] [] 8 (tk 4 [(0,gz),(1,.g [.K 1 2]),(3,gz),(4,.g [.K 1 3])] [(2,pt b1 0),(3,pt (b1+1) 0),(4,pt (b1+1+1) 0),(34,iw 1),(37,iw 58)] rfl (on 2 3 rfl (ca (some 35) (x95_64 H) ?_)))))))))))))))))
  rintro v5 H6 k8 le7 rfl
  refine ws [0,1,2] le7 ?_
  refine on 5 2 rfl (ca (some 38) (x95_65 H6) ?_)
  rintro v9 H10 k12 le11 rfl
  refine ws [0,1,2] (tr le7 le11) ?_
  refine on 6 1 rfl (e0 (gz) [(2,pt b1 0),(3,pt (b1+1) 0),(4,pt (b1+1+1) 0),(5,iw 0),(38,iw 1)] ?_)
  refine ws [0,1,2] (tr le7 le11) ?_
  refine on 7 0 rfl (e0 (gz) [(2,pt b1 0),(3,pt (b1+1) 0),(4,pt (b1+1+1) 0),(5,iw 0),(6,iw 1)] ?_)
  refine ws [0,1,2] (tr le7 le11) ?_
  refine dn (Ok.seq (sr (g0 3 [(2,pt b1 0),(3,pt (b1+1) 0),(4,pt (b1+1+1) 0),(5,iw 0),(6,iw 1),(41,bT)] [gz,.g [.K 1 2],gz] rfl (en rfl (cT (Ok.reg (g0 3 [(2,pt b1 0),(3,pt (b1+1) 0),(4,pt (b1+1+1) 0),(6,iw 1),(44,iw 0)] [gz,.g [.K 1 2],gz] rfl (ef 4 rfl (ca (some 45) (x95_66 H10) ?_)))))))))
  rintro v17 H18 k20 le19 rfl
  refine g0 6 [(2,pt b1 0),(3,pt (b1+1) 0),(4,pt (b1+1+1) 0),(5,iw 1),(6,iw 1)] [gz,gz] rfl (en rfl (Ok.seq (sr (g0 3 [(2,pt b1 0),(3,pt (b1+1) 0),(4,pt (b1+1+1) 0),(5,iw 1),(6,iw 1),(49,bT)] [gz,.g [.K 1 3],gz] rfl (en rfl (cT (Ok.reg (g0 3 [(2,pt b1 0),(4,pt (b1+1+1) 0),(5,iw 1),(52,iw 59)] [gz,.g [.K 1 3],gz] rfl (ef 4 rfl (ca (some 53) (x95_67 H18) ?_))))))))))
  rintro v24 H25 k27 le26 rfl
  refine g0 6 [(2,pt b1 0),(4,pt (b1+1+1) 0),(5,iw 1),(6,iw 1)] [gz,gz] rfl (en rfl (sr (g0 4 [(4,pt (b1+1+1) 0),(56,iw 1),(57,iw 1),(58,iw 1)] [gz,.g [.K 0 1],gz,gz] rfl (Ok.mask [false,false,true] [.blk (b1+1+1) [iw 0,iw 0,iw 0,iw 0,n0,s0,n0] 27] rfl (ef 5 rfl (ca (some 59) (x93_68 H25) ?_))))))
  rintro v30 H31 k33 le32 rfl
  refine ef 6 rfl (ca (some 60) (x57_69 H31) ?_)
  rintro v35 H36 k38 le37 ⟨q39,rfl,pf40⟩
  refine g1 7 [(4,pt (b1+1+1) 0)] [.blk (b1+1+1) [iw 7,iw 0,iw 0,iw 0,n0,s0,sl q39 0 1 1] 27] [.g [.K 0 0,.K 0 1,.K 0 2,.K 0 3,.K 0 4,.K 0 5,.K 0 6]] rfl (en rfl (Ok.ret_ (Ok.blkR (Ok.thenR ?_))))
  exact Ok.ret1c (tr le7 (tr le11 (tr le19 (tr le26 (tr le32 le37))))) [.K 0 0,.K 0 1,.K 0 2,.K 0 3,.K 0 4,.K 0 5,.K 0 6] (.agg #[iw 7,iw 0,iw 0,iw 0,n0,s0,sl q39 0 1 1]) [b1+1+1,b1+1+1,b1+1+1,b1+1+1,b1+1+1,b1+1+1,b1+1+1] rfl (by kernel_rfl) ⟨q39,rfl,pf40⟩
theorem x61_62 (H : Snap) (p0 : Nat) (hp0 : Pre H p0 [iw 5,iw 1,iw 0]) : Does Tryz.prog 61 [.agg #[iw 1,iw 1,iw 1,iw 58,n0,s0,n0],pt p0 0] H [] (fun v H' kp => ∃ r0 : Nat,v = .agg #[iw 7,iw 0,iw 0,iw 0,n0,s0,sl r0 0 1 1] ∧ Pre H' r0 [iw 1,iw 1,iw 1,iw 1,n0,s0,n0]) := by
  refine Does.of Tryz.func61 rfl rfl rfl rfl (fun w0 H0 kx => ?_)
  refine sr (g4 2 (fun b1 => [(1,pt p0 0),(2,pt b1 0),(3,pt (b1+1) 0)]) (fun b1 => [.blk b1 [iw 1,iw 1,iw 1,iw 58,n0,s0,n0] 27,.blk (b1+1) [iw 0,iw 0,iw 0,iw 0,n0,s0,n0] 27]) [.g [.N],.g [.N]] rfl (fun b1 => (en rfl ?_)))
  refine Ok.seq (Ok.blk (sr (g0 4 [(1,pt p0 0),(2,pt b1 0),(3,pt (b1+1) 0),(4,bF)] [gz,.g [.K 0 0],gz,gz] rfl (en rfl (cF (sr (g0 4 [(1,pt p0 0),(2,pt b1 0),(3,pt (b1+1) 0),(10,bT)] [gz,.g [.K 0 0],gz,gz] rfl (en rfl (cT (sr (g2 2 [(3,pt (b1+1) 0),(14,.agg #[iw 5,iw 1,iw 0]),(15,.agg #[iw 1,iw 1,iw 1,iw 58,n0,s0,n0])] [.g [.X (iw 5),.X (iw 1),.X (iw 0)],.g [.K 0 0,.K 0 1,.K 0 2,.K 0 3,.K 0 4,.K 0 5,.K 0 6]] (ex1 (Pre.cell hp0 0 rfl) (ex1 (Pre.cell hp0 1 rfl) (ex1 (Pre.cell hp0 2 rfl) ex0))) rfl (ef 3 rfl (ca (some 16) (x62_63 H) ?_)))))))))))))
  rintro v5 H6 k8 le7 ⟨q9,rfl,pf10⟩
  refine g1 4 [(3,pt (b1+1) 0)] [.blk b1 [iw 1,iw 1,iw 1,iw 58,n0,s0,n0] 27,.blk (b1+1) [iw 7,iw 0,iw 0,iw 0,n0,s0,sl q9 0 1 1] 27] [.g [.K 1 0,.K 1 1,.K 1 2,.K 1 3,.K 1 4,.K 1 5,.K 1 6]] rfl (en rfl (Ok.ret_ (Ok.blkR (Ok.thenR ?_))))
  exact Ok.ret1c le7 [.K 1 0,.K 1 1,.K 1 2,.K 1 3,.K 1 4,.K 1 5,.K 1 6] (.agg #[iw 7,iw 0,iw 0,iw 0,n0,s0,sl q9 0 1 1]) [b1+1,b1+1,b1+1,b1+1,b1+1,b1+1,b1+1] rfl (by kernel_rfl) ⟨q9,rfl,pf10⟩
theorem x31_61 (H : Snap) (p0 p1 p2 p3 p4 : Nat) (hp0 : Pre H p0 [iw 5,iw 1,iw 0]) (hp1 : Pre H p1 [.func (.func 58) #[] #[pt p2 0]]) (hp2 : Pre H p2 [iw 5,iw 1,iw 0]) (hp3 : Pre H p3 [.func (.func 61) #[] #[pt p2 0]]) (hp4 : Pre H p4 [.func (.func 31) #[] #[pt p0 0,pt p1 0,pt p3 0,pt p4 0]]) : Does Tryz.prog 31 [.agg #[iw 1,iw 1,iw 1,iw 58,n0,s0,n0],bF,pt p0 0,pt p1 0,pt p3 0,pt p4 0] H [] (fun v H' kp => ∃ r0 : Nat,v = .agg #[iw 7,iw 0,iw 0,iw 0,n0,s0,sl r0 0 1 1] ∧ Pre H' r0 [iw 1,iw 1,iw 1,iw 1,n0,s0,n0]) := by
  refine Does.of Tryz.func31 rfl rfl rfl rfl (fun w0 H0 kx => ?_)
  refine sr (g4 2 (fun b1 => [(1,bF),(2,pt p0 0),(3,pt p1 0),(4,pt p3 0),(5,pt p4 0),(6,pt b1 0),(8,pt (b1+1) 0)]) (fun b1 => [.blk b1 [iw 1,iw 1,iw 1,iw 58,n0,s0,n0] 27,.blk (b1+1) [iw 0,iw 0,iw 0,iw 0,n0,s0,n0] 27]) [.g [.N],.g [.N]] rfl (fun b1 => (en rfl ?_)))
  refine Ok.seq (sr (g0 2 [(1,bF),(2,pt p0 0),(3,pt p1 0),(4,pt p3 0),(5,pt p4 0),(6,pt b1 0),(8,pt (b1+1) 0),(13,iw 1)] [gz,.g [.K 0 0]] rfl (en rfl (Ok.blk (sr (g0 2 [(1,bF),(2,pt p0 0),(3,pt p1 0),(4,pt p3 0),(5,pt p4 0),(6,pt b1 0),(8,pt (b1+1) 0),(13,iw 1),(14,bF)] [gz,gz] rfl (en rfl (cF (Ok.seq (sr (g0 2 [(1,bF),(2,pt p0 0),(3,pt p1 0),(4,pt p3 0),(5,pt p4 0),(6,pt b1 0),(8,pt (b1+1) 0),(13,iw 1),(19,bT)] [gz,gz] rfl (en rfl (cT (skn (cT (Ok.seq (sr (g2 8 [(2,pt p0 0),(3,pt p1 0),(4,pt p3 0),(6,pt b1 0),(8,pt (b1+1) 0),(31,bF)] [gz,.g [.K 0 1],gz,.g [.X (iw 1)],gz,gz,gz,gz] (ex1 (Pre.cell hp0 1 rfl) ex0) rfl (en rfl (cF (skn (sr (g2 5 [(4,pt p3 0),(6,pt b1 0),(8,pt (b1+1) 0),(39,bT)] [gz,.g [.K 0 1],gz,.g [.X (iw 1)],gz] (ex1 (Pre.cell hp0 1 rfl) ex0) rfl (en rfl (cT (sr (g2 2 [(8,pt (b1+1) 0),(40,.func (.func 61) #[] #[pt p2 0]),(41,.agg #[iw 1,iw 1,iw 1,iw 58,n0,s0,n0])] [.g [.X (.func (.func 61) #[] #[pt p2 0])],.g [.K 0 0,.K 0 1,.K 0 2,.K 0 3,.K 0 4,.K 0 5,.K 0 6]] (ex1 (Pre.cell hp3 0 rfl) ex0) rfl (ef 3 rfl (ca (some 42) (x61_62 H p2 hp2) ?_)))))))))))))))))))))))))))))
  rintro v8 H9 k11 le10 ⟨q12,rfl,pf13⟩
  refine g1 4 [(8,pt (b1+1) 0)] [.blk b1 [iw 1,iw 1,iw 1,iw 58,n0,s0,n0] 27,.blk (b1+1) [iw 7,iw 0,iw 0,iw 0,n0,s0,sl q12 0 1 1] 27] [.g [.K 1 0,.K 1 1,.K 1 2,.K 1 3,.K 1 4,.K 1 5,.K 1 6]] rfl (en rfl (Ok.ret_ (Ok.blkR (Ok.thenR ?_))))
  exact Ok.ret1c le10 [.K 1 0,.K 1 1,.K 1 2,.K 1 3,.K 1 4,.K 1 5,.K 1 6] (.agg #[iw 7,iw 0,iw 0,iw 0,n0,s0,sl q12 0 1 1]) [b1+1,b1+1,b1+1,b1+1,b1+1,b1+1,b1+1] rfl (by kernel_rfl) ⟨q12,rfl,pf13⟩
theorem x31_60 (H : Snap) (p0 p1 p2 p3 p4 p5 : Nat) (hp0 : Pre H p0 [iw 1,iw 1,iw 1,iw 58,n0,s0,n0]) (hp1 : Pre H p1 [iw 5,iw 1,iw 0]) (hp2 : Pre H p2 [.func (.func 58) #[] #[pt p3 0]]) (hp3 : Pre H p3 [iw 5,iw 1,iw 0]) (hp4 : Pre H p4 [.func (.func 61) #[] #[pt p3 0]]) (hp5 : Pre H p5 [.func (.func 31) #[] #[pt p1 0,pt p2 0,pt p4 0,pt p5 0]]) : Does Tryz.prog 31 [.agg #[iw 7,iw 0,iw 0,iw 0,n0,s0,sl p0 0 1 1],bT,pt p1 0,pt p2 0,pt p4 0,pt p5 0] H [] (fun v H' kp => ∃ r0 : Nat,v = .agg #[iw 7,iw 0,iw 0,iw 0,n0,s0,sl r0 0 1 1] ∧ Pre H' r0 [iw 1,iw 1,iw 1,iw 1,n0,s0,n0]) := by
  refine Does.of Tryz.func31 rfl rfl rfl rfl (fun w0 H0 kx => ?_)
  refine sr (g4 2 (fun b1 => [(1,bT),(2,pt p1 0),(3,pt p2 0),(4,pt p4 0),(5,pt p5 0),(6,pt b1 0),(8,pt (b1+1) 0)]) (fun b1 => [.blk b1 [iw 7,iw 0,iw 0,iw 0,n0,s0,sl p0 0 1 1] 27,.blk (b1+1) [iw 0,iw 0,iw 0,iw 0,n0,s0,n0] 27]) [.g [.N],.g [.N]] rfl (fun b1 => (en rfl ?_)))
  refine Ok.seq (sr (g0 2 [(1,bT),(2,pt p1 0),(3,pt p2 0),(4,pt p4 0),(5,pt p5 0),(6,pt b1 0),(8,pt (b1+1) 0),(13,iw 7)] [gz,.g [.K 0 0]] rfl (en rfl (Ok.blk (sr (g0 2 [(1,bT),(2,pt p1 0),(3,pt p2 0),(4,pt p4 0),(5,pt p5 0),(6,pt b1 0),(8,pt (b1+1) 0),(13,iw 7),(14,bF)] [gz,gz] rfl (en rfl (cF (Ok.seq (sr (g0 2 [(1,bT),(2,pt p1 0),(3,pt p2 0),(4,pt p4 0),(5,pt p5 0),(6,pt b1 0),(8,pt (b1+1) 0),(13,iw 7),(19,bF)] [gz,gz] rfl (en rfl (cF (sr (g0 2 [(1,bT),(2,pt p1 0),(3,pt p2 0),(4,pt p4 0),(5,pt p5 0),(6,pt b1 0),(8,pt (b1+1) 0),(13,iw 7),(19,bF)] [gz,gz] rfl (en rfl (cF (sr (g0 2 [(1,bT),(2,pt p1 0),(3,pt p2 0),(4,pt p4 0),(5,pt p5 0),(6,pt b1 0),(8,pt (b1+1) 0),(13,iw 7),(19,bF)] [gz,gz] rfl (en rfl (cF (Ok.reg (g0 2 [(1,bT),(2,pt p1 0),(3,pt p2 0),(4,pt p4 0),(5,pt p5 0),(6,pt b1 0),(8,pt (b1+1) 0),(13,iw 7),(19,bF)] [gz,gz] rfl (en rfl (cF (sr (g0 2 [(1,bT),(5,pt p5 0),(6,pt b1 0),(8,pt (b1+1) 0),(13,iw 7),(43,bT)] [gz,gz] rfl (en rfl (cT (sr (g0 4 [(1,bT),(5,pt p5 0),(6,pt b1 0),(8,pt (b1+1) 0),(48,bT)] [gz,.g [.K 0 6],gz,gz] rfl (en rfl (cT (Ok.seq (st [0] [] 9 (tx 2 [(0,.g [.X (.func (.func 31) #[] #[pt p1 0,pt p2 0,pt p4 0,pt p5 0])]),(1,gz),(2,.g [.K 0 6]),(3,gz),(4,.g [.X (iw 1),.X (iw 1),.X (iw 1),.X (iw 58),.X (n0),.X (s0),.X (n0)]),(5,gz),(6,gz)] [(8,pt (b1+1) 0),(49,.func (.func 31) #[] #[pt p1 0,pt p2 0,pt p4 0,pt p5 0]),(53,.agg #[iw 1,iw 1,iw 1,iw 58,n0,s0,n0]),(55,bF)] (ex1 (Pre.cell hp5 0 rfl) (ex1 (Pre.cell hp0 0 rfl) (ex1 (Pre.cell hp0 1 rfl) (ex1 (Pre.cell hp0 2 rfl) (ex1 (Pre.cell hp0 3 rfl) (ex1 (Pre.cell hp0 4 rfl) (ex1 (Pre.cell hp0 5 rfl) (ex1 (Pre.cell hp0 6 rfl) ex0)))))))) rfl (on 7 1 rfl (ca (some 56) (x31_61 H p1 p2 p3 p4 p5 hp1 hp2 hp3 hp4 hp5) ?_))))))))))))))))))))))))))))))))))))))
  rintro v10 H11 k13 le12 ⟨q14,rfl,pf15⟩
  refine ws [0] le12 ?_
  refine on 8 0 rfl (e1 (.g [.K 1 0,.K 1 1,.K 1 2,.K 1 3,.K 1 4,.K 1 5,.K 1 6]) [(8,pt (b1+1) 0)] [.blk b1 [iw 7,iw 0,iw 0,iw 0,n0,s0,sl p0 0 1 1] 27,.blk (b1+1) [iw 7,iw 0,iw 0,iw 0,n0,s0,sl q14 0 1 1] 27] ?_)
  refine ws [0] le12 ?_
  refine dn (Ok.ret_ (Ok.blkR (Ok.thenR ?_)))
  exact Ok.ret1c le12 [.K 1 0,.K 1 1,.K 1 2,.K 1 3,.K 1 4,.K 1 5,.K 1 6] (.agg #[iw 7,iw 0,iw 0,iw 0,n0,s0,sl q14 0 1 1]) [b1+1,b1+1,b1+1,b1+1,b1+1,b1+1,b1+1] rfl (by kernel_rfl) ⟨q14,rfl,pf15⟩
theorem x9_58 (H : Snap) (p0 : Nat) (hp0 : Pre H p0 [iw 1,iw 1,iw 1,iw 58,n0,s0,n0]) : Does Tryz.prog 9 [.agg #[iw 5,iw 1,iw 0],.agg #[iw 7,iw 0,iw 0,iw 0,n0,s0,sl p0 0 1 1]] H [] (fun v H' kp => ∃ r0 : Nat,v = .agg #[iw 7,iw 0,iw 0,iw 0,n0,s0,sl r0 0 1 1] ∧ Pre H' r0 [iw 1,iw 1,iw 1,iw 1,n0,s0,n0]) := by
  refine Does.of Tryz.func9 rfl rfl rfl rfl (fun w0 H0 kx => ?_)
  refine sr (g4 3 (fun b1 => [(2,pt b1 0),(3,pt (b1+1) 0),(4,pt (b1+1+1) 0)]) (fun b1 => [.blk b1 [iw 5,iw 1,iw 0] 45,.blk (b1+1) [iw 7,iw 0,iw 0,iw 0,n0,s0,sl p0 0 1 1] 27,.blk (b1+1+1) [iw 0,iw 0,iw 0,iw 0,n0,s0,n0] 27]) [.g [.N],.g [.N],.g [.N]] rfl (fun b1 => (en rfl ?_)))
  refine sr (g0 1 [(2,pt b1 0),(3,pt (b1+1) 0),(4,pt (b1+1+1) 0),(9,.agg #[iw 5,iw 1,iw 0])] [.g [.K 0 0,.K 0 1,.K 0 2]] rfl (ef 2 rfl (ca (some 10) (x30_59 H) ?_)))
  rintro v3 H4 k6 le5 ⟨q7,rfl,pf8⟩
  refine g4 9 (fun b9 => [(2,pt b1 0),(3,pt (b1+1) 0),(4,pt (b1+1+1) 0),(5,pt b9 0),(6,pt (b9+1) 0)]) (fun b9 => [.blk b1 [iw 5,iw 1,iw 0] 45,.blk (b1+1) [iw 7,iw 0,iw 0,iw 0,n0,s0,sl p0 0 1 1] 27,.blk (b1+1+1) [iw 0,iw 0,iw 0,iw 0,n0,s0,n0] 27,.blk b9 [.func (.func 58) #[] #[pt q7 0]] 62,.blk (b9+1) [.func (.func 61) #[] #[pt q7 0]] 62]) [gz,gz,gz,.g [.N],.g [.N],.g [.K 3 0],.g [.K 4 0]] rfl (fun b9 => (en rfl ?_))
  refine sr (g4 1 (fun b10 => [(2,pt b1 0),(3,pt (b1+1) 0),(4,pt (b1+1+1) 0),(5,pt b9 0),(6,pt (b9+1) 0),(7,pt b10 0)]) (fun b10 => [.blk b1 [iw 5,iw 1,iw 0] 45,.blk (b1+1) [iw 7,iw 0,iw 0,iw 0,n0,s0,sl p0 0 1 1] 27,.blk (b1+1+1) [iw 0,iw 0,iw 0,iw 0,n0,s0,n0] 27,.blk b9 [.func (.func 58) #[] #[pt q7 0]] 62,.blk (b9+1) [.func (.func 61) #[] #[pt q7 0]] 62,.blk b10 [.nilFunc] 83]) [.g [.N]] rfl (fun b10 => (en rfl ?_)))
  refine sr (g1 2 [(3,pt (b1+1) 0),(4,pt (b1+1+1) 0),(7,pt b10 0)] [.blk b1 [iw 5,iw 1,iw 0] 45,.blk (b1+1) [iw 7,iw 0,iw 0,iw 0,n0,s0,sl p0 0 1 1] 27,.blk (b1+1+1) [iw 0,iw 0,iw 0,iw 0,n0,s0,n0] 27,.blk b9 [.func (.func 58) #[] #[pt q7 0]] 62,.blk (b9+1) [.func (.func 61) #[] #[pt q7 0]] 62,.blk b10 [.func (.func 31) #[] #[pt b1 0,pt b9 0,pt (b9+1) 0,pt b10 0]] 83] [gz,.g [.K 5 0]] rfl (en rfl (sr (g0 2 [(4,pt (b1+1+1) 0),(14,.func (.func 31) #[] #[pt b1 0,pt b9 0,pt (b9+1) 0,pt b10 0]),(15,.agg #[iw 7,iw 0,iw 0,iw 0,n0,s0,sl p0 0 1 1])] [.g [.K 5 0],.g [.K 1 0,.K 1 1,.K 1 2,.K 1 3,.K 1 4,.K 1 5,.K 1 6]] rfl (Ok.pubP 0 rfl [.blk (b1+1) [iw 7,iw 0,iw 0,iw 0,n0,s0,sl p0 0 1 1] 27,.blk (b1+1+1) [iw 0,iw 0,iw 0,iw 0,n0,s0,n0] 27,.blk b9 [.func (.func 58) #[] #[pt q7 0]] 62,.blk (b9+1) [.func (.func 61) #[] #[pt q7 0]] 62,.blk b10 [.func (.func 31) #[] #[pt b1 0,pt b9 0,pt (b9+1) 0,pt b10 0]] 83] rfl ?_)))))
  intro H13 le14 pf15
  refine Ok.pubP 2 rfl [.blk (b1+1) [iw 7,iw 0,iw 0,iw 0,n0,s0,sl p0 0 1 1] 27,.blk (b1+1+1) [iw 0,iw 0,iw 0,iw 0,n0,s0,n0] 27,.blk (b9+1) [.func (.func 61) #[] #[pt q7 0]] 62,.blk b10 [.func (.func 31) #[] #[pt b1 0,pt b9 0,pt (b9+1) 0,pt b10 0]] 83] rfl ?_
  intro H16 le17 pf18
  refine Ok.pubP 2 rfl [.blk (b1+1) [iw 7,iw 0,iw 0,iw 0,n0,s0,sl p0 0 1 1] 27,.blk (b1+1+1) [iw 0,iw 0,iw 0,iw 0,n0,s0,n0] 27,.blk b10 [.func (.func 31) #[] #[pt b1 0,pt b9 0,pt (b9+1) 0,pt b10 0]] 83] rfl ?_
  intro H19 le20 pf21
  refine Ok.pubP 2 rfl [.blk (b1+1) [iw 7,iw 0,iw 0,iw 0,n0,s0,sl p0 0 1 1] 27,.blk (b1+1+1) [iw 0,iw 0,iw 0,iw 0,n0,s0,n0] 27] rfl ?_
  intro H22 le23 pf24
  refine ef 3 rfl (ca (some 16) (x31_60 H22 p0 b1 b9 q7 (b9+1) b10 (Pre.mono (tr le5 (tr le14 (tr le17 (tr le20 le23)))) hp0) (Pre.mono (tr le17 (tr le20 le23)) pf15) (Pre.mono (tr le20 le23) pf18) (Pre.mono (tr le14 (tr le17 (tr le20 le23))) pf8) (Pre.mono le23 pf21) pf24) ?_)
  rintro v25 H26 k28 le27 ⟨q29,rfl,pf30⟩
  refine g1 4 [(4,pt (b1+1+1) 0)] [.blk (b1+1) [iw 7,iw 0,iw 0,iw 0,n0,s0,sl p0 0 1 1] 27,.blk (b1+1+1) [iw 7,iw 0,iw 0,iw 0,n0,s0,sl q29 0 1 1] 27] [.g [.K 1 0,.K 1 1,.K 1 2,.K 1 3,.K 1 4,.K 1 5,.K 1 6]] rfl (en rfl (Ok.ret_ ?_))
  exact Ok.ret1c (tr le5 (tr le14 (tr le17 (tr le20 (tr le23 le27))))) [.K 1 0,.K 1 1,.K 1 2,.K 1 3,.K 1 4,.K 1 5,.K 1 6] (.agg #[iw 7,iw 0,iw 0,iw 0,n0,s0,sl q29 0 1 1]) [b1+1+1,b1+1+1,b1+1+1,b1+1+1,b1+1+1,b1+1+1,b1+1+1] rfl (by kernel_rfl) ⟨q29,rfl,pf30⟩
theorem x14_70 (H : Snap) : Does Tryz.prog 14 [iw 1,iw 1] H [] (fun v H' kp => v = .agg #[iw 1,iw 1,iw 1,iw 1,n0,s0,n0]) := by
  refine Does.of Tryz.func14 rfl rfl rfl rfl (fun w0 H0 kx => ?_)
  refine sr (g4 1 (fun b1 => [(0,iw 1),(1,iw 1),(4,pt b1 0)]) (fun b1 => [.blk b1 [iw 0,iw 0,iw 0,iw 0,n0,s0,n0] 27]) [.g [.N]] rfl (fun b1 => (en rfl ?_)))
  refine sr (g1 4 [(4,pt b1 0)] [.blk b1 [iw 1,iw 1,iw 1,iw 1,n0,s0,n0] 27] [gz,gz,gz,.g [.K 0 0,.K 0 1,.K 0 2,.K 0 3,.K 0 4,.K 0 5,.K 0 6]] rfl (en rfl (Ok.ret_ ?_)))
  exact Ok.ret1c (SLe.refl _) [.K 0 0,.K 0 1,.K 0 2,.K 0 3,.K 0 4,.K 0 5,.K 0 6] (.agg #[iw 1,iw 1,iw 1,iw 1,n0,s0,n0]) [b1,b1,b1,b1,b1,b1,b1] rfl (by kernel_rfl) rfl
theorem x15_71 (H : Snap) : Does Tryz.prog 15 [.agg #[iw 1,iw 1,iw 1,iw 1,n0,s0,n0]] H [] (fun v H' kp => ∃ r0 : Nat,v = .agg #[iw 7,iw 0,iw 0,iw 0,n0,s0,sl r0 0 1 1] ∧ Pre H' r0 [iw 1,iw 1,iw 1,iw 1,n0,s0,n0]) := by
  refine Does.of Tryz.func15 rfl rfl rfl rfl (fun w0 H0 kx => ?_)
  refine sr (g4 2 (fun b1 => [(1,pt b1 0),(2,pt (b1+1) 0)]) (fun b1 => [.blk b1 [iw 1,iw 1,iw 1,iw 1,n0,s0,n0] 27,.blk (b1+1) [iw 0,iw 0,iw 0,iw 0,n0,s0,n0] 27]) [.g [.N],.g [.N]] rfl (fun b1 => (en rfl ?_)))
  refine sr (g4 4 (fun b2 => [(2,pt (b1+1) 0)]) (fun b2 => [.blk b1 [iw 1,iw 1,iw 1,iw 1,n0,s0,n0] 27,.blk (b1+1) [iw 7,iw 0,iw 0,iw 0,n0,s0,sl b2 0 1 1] 27,.blk b2 [iw 1,iw 1,iw 1,iw 1,n0,s0,n0] 27]) [.g [.K 0 0,.K 0 1,.K 0 2,.K 0 3,.K 0 4,.K 0 5,.K 0 6],.g [.N],gz,.g [.K 1 0,.K 1 1,.K 1 2,.K 1 3,.K 1 4,.K 1 5,.K 1 6]] rfl (fun b2 => (en rfl ?_)))
  refine Ok.ret_ (Ok.pubP 2 rfl [.blk b1 [iw 1,iw 1,iw 1,iw 1,n0,s0,n0] 27,.blk (b1+1) [iw 7,iw 0,iw 0,iw 0,n0,s0,sl b2 0 1 1] 27] rfl ?_)
  intro H3 le4 pf5
  exact Ok.ret1c le4 [.K 1 0,.K 1 1,.K 1 2,.K 1 3,.K 1 4,.K 1 5,.K 1 6] (.agg #[iw 7,iw 0,iw 0,iw 0,n0,s0,sl b2 0 1 1]) [b1+1,b1+1,b1+1,b1+1,b1+1,b1+1,b1+1] rfl (by kernel_rfl) ⟨b2,rfl,pf5⟩
theorem x13_73 (H : Snap) : Does Tryz.prog 13 [.agg #[iw 1,iw 1,iw 1,iw 1,n0,s0,n0],.agg #[iw 1,iw 1,iw 1,iw 1,n0,s0,n0]] H [] (fun v H' kp => v = bT) := by
  refine Does.of Tryz.func13 rfl rfl rfl rfl (fun w0 H0 kx => ?_)
  refine sr (g4 3 (fun b1 => [(2,pt b1 0),(3,pt (b1+1) 0)]) (fun b1 => [.blk b1 [iw 1,iw 1,iw 1,iw 1,n0,s0,n0] 27,.blk (b1+1) [iw 1,iw 1,iw 1,iw 1,n0,s0,n0] 27]) [.g [.N],.g [.N],gz] rfl (fun b1 => (en rfl ?_)))
  refine Ok.seq (sr (g0 38 [(2,pt b1 0),(3,pt (b1+1) 0),(39,bF),(41,n0),(43,n0)] [gz,.g [.K 0 0],gz,.g [.K 1 0],gz,gz,gz,.g [.K 0 1],gz,.g [.K 1 1],gz,gz,gz,gz,.g [.K 0 2],gz,.g [.K 1 2],gz,gz,gz,gz,.g [.K 0 3],gz,.g [.K 1 3],gz,gz,gz,gz,.g [.K 0 5],gz,.g [.K 1 5],gz,gz,gz,gz,.g [.K 0 4],gz,.g [.K 1 4]] rfl (ef 39 rfl (ca (some 44) (x33_43 H) ?_))))
  rintro v3 H4 k6 le5 rfl
  refine g0 50 [(2,pt b1 0),(3,pt (b1+1) 0),(55,bF)] [gz,gz,gz,gz,.g [.K 0 6],gz,gz,.g [.K 1 6],gz,gz,gz] rfl (en rfl (cF (skn (Ok.seq (sr (g0 1 [(2,pt b1 0),(3,pt (b1+1) 0),(5,iw 0)] [gz] rfl (en rfl (Ok.blk (Ok.loopN 1 (Ok.round (Ok.seq (sr (g0 5 [(2,pt b1 0),(3,pt (b1+1) 0),(5,iw 0),(60,bF)] [gz,gz,.g [.K 0 6],gz,gz] rfl (en rfl (cF (Ok.exit_ (Ok.thenE (Ok.thenE (Ok.blkE (Ok.thenN (sr (g0 1 [(4,bT)] [gz] rfl (Ok.mask [false,false] [] rfl (en rfl (Ok.ret_ ?_)))))))))))))))))))))))))
  exact Ok.ret1 (v := bT) le5 rfl rfl rfl
theorem x13_72 (H : Snap) (p0 p1 : Nat) (hp0 : Pre H p0 [iw 1,iw 1,iw 1,iw 1,n0,s0,n0]) (hp1 : Pre H p1 [iw 1,iw 1,iw 1,iw 1,n0,s0,n0]) : Does Tryz.prog 13 [.agg #[iw 7,iw 0,iw 0,iw 0,n0,s0,sl p0 0 1 1],.agg #[iw 7,iw 0,iw 0,iw 0,n0,s0,sl p1 0 1 1]] H [] (fun v H' kp => v = bT) := by
  refine Does.of Tryz.func13 rfl rfl rfl rfl (fun w0 H0 kx => ?_)
  refine sr (g4 3 (fun b1 => [(2,pt b1 0),(3,pt (b1+1) 0)]) (fun b1 => [.blk b1 [iw 7,iw 0,iw 0,iw 0,n0,s0,sl p0 0 1 1] 27,.blk (b1+1) [iw 7,iw 0,iw 0,iw 0,n0,s0,sl p1 0 1 1] 27]) [.g [.N],.g [.N],gz] rfl (fun b1 => (en rfl ?_)))
  refine Ok.seq (sr (g0 38 [(2,pt b1 0),(3,pt (b1+1) 0),(39,bF),(41,n0),(43,n0)] [gz,.g [.K 0 0],gz,.g [.K 1 0],gz,gz,gz,.g [.K 0 1],gz,.g [.K 1 1],gz,gz,gz,gz,.g [.K 0 2],gz,.g [.K 1 2],gz,gz,gz,gz,.g [.K 0 3],gz,.g [.K 1 3],gz,gz,gz,gz,.g [.K 0 5],gz,.g [.K 1 5],gz,gz,gz,gz,.g [.K 0 4],gz,.g [.K 1 4]] rfl (ef 39 rfl (ca (some 44) (x33_43 H) ?_))))
  rintro v3 H4 k6 le5 rfl
  refine g0 50 [(2,pt b1 0),(3,pt (b1+1) 0),(55,bF)] [gz,gz,gz,gz,.g [.K 0 6],gz,gz,.g [.K 1 6],gz,gz,gz] rfl (en rfl (cF (skn (Ok.seq (sr (g0 1 [(2,pt b1 0),(3,pt (b1+1) 0),(5,iw 0)] [gz] rfl (en rfl (Ok.blk (Ok.loopN 2 (Ok.round (Ok.seq (sr (g0 5 [(2,pt b1 0),(3,pt (b1+1) 0),(5,iw 0),(60,bT)] [gz,gz,.g [.K 0 6],gz,gz] rfl (en rfl (cT (skn (Ok.seq (Ok.blk (Ok.seq (st [0,1] [] 12 (tx 2 [(0,gz),(1,.g [.K 0 6]),(2,gz),(3,gz),(4,.g [.X (iw 1),.X (iw 1),.X (iw 1),.X (iw 1),.X (n0),.X (s0),.X (n0)]),(5,gz),(6,.g [.K 1 6]),(7,gz),(8,gz),(9,.g [.X (iw 1),.X (iw 1),.X (iw 1),.X (iw 1),.X (n0),.X (s0),.X (n0)])] [(2,pt b1 0),(3,pt (b1+1) 0),(5,iw 0),(67,.agg #[iw 1,iw 1,iw 1,iw 1,n0,s0,n0]),(72,.agg #[iw 1,iw 1,iw 1,iw 1,n0,s0,n0])] (ex1 (Pre.cell (Pre.mono le5 hp0) 0 rfl) (ex1 (Pre.cell (Pre.mono le5 hp0) 1 rfl) (ex1 (Pre.cell (Pre.mono le5 hp0) 2 rfl) (ex1 (Pre.cell (Pre.mono le5 hp0) 3 rfl) (ex1 (Pre.cell (Pre.mono le5 hp0) 4 rfl) (ex1 (Pre.cell (Pre.mono le5 hp0) 5 rfl) (ex1 (Pre.cell (Pre.mono le5 hp0) 6 rfl) (ex1 (Pre.cell (Pre.mono le5 hp1) 0 rfl) (ex1 (Pre.cell (Pre.mono le5 hp1) 1 rfl) (ex1 (Pre.cell (Pre.mono le5 hp1) 2 rfl) (ex1 (Pre.cell (Pre.mono le5 hp1) 3 rfl) (ex1 (Pre.cell (Pre.mono le5 hp1) 4 rfl) (ex1 (Pre.cell (Pre.mono le5 hp1) 5 rfl) (ex1 (Pre.cell (Pre.mono le5 hp1) 6 rfl) ex0)))))))))))))) rfl (on 10 1 rfl (ca (some 73) (x13_73 H4) ?_)))))))))))))))))))))))
  rintro v10 H11 k13 le12 rfl
  refine ws [0,1] le12 ?_
  refine tk 0 [(11,gz)] [(2,pt b1 0),(3,pt (b1+1) 0),(5,iw 0),(74,bF)] rfl ?_
  refine dn (cF (Ok.skip_ (Ok.blkN (Ok.thenN (Ok.reg (g0 3 [(2,pt b1 0),(3,pt (b1+1) 0),(5,iw 1)] [gz,gz,gz] rfl (en rfl (Ok.round (Ok.seq (sr (g0 5 [(2,pt b1 0),(3,pt (b1+1) 0),(5,iw 1),(60,bF)] [gz,gz,.g [.K 0 6],gz,gz] rfl (en rfl (cF (Ok.exit_ (Ok.thenE (Ok.thenE (Ok.blkE (Ok.thenN (sr (g0 1 [(4,bT)] [gz] rfl (Ok.mask [false,false] [] rfl (en rfl (Ok.ret_ ?_)))))))))))))))))))))))
  exact Ok.ret1 (v := bT) (tr le5 le12) rfl rfl rfl
theorem x31_75 (H : Snap) (p0 p1 p2 p3 p4 : Nat) (hp0 : Pre H p0 [iw 3,iw 1,iw 10]) (hp1 : Pre H p1 [.func (.func 58) #[] #[pt p2 0]]) (hp2 : Pre H p2 [iw 3,iw 1,iw 10]) (hp3 : Pre H p3 [.func (.func 61) #[] #[pt p2 0]]) (hp4 : Pre H p4 [.func (.func 31) #[] #[pt p0 0,pt p1 0,pt p3 0,pt p4 0]]) : Does Tryz.prog 31 [.agg #[iw 4,iw 2,iw 0,iw 0,n0,s0,n0],bT,pt p0 0,pt p1 0,pt p3 0,pt p4 0] H [] (fun v H' kp => v = .agg #[iw 0,iw 0,iw 0,iw 0,n0,s0,n0]) := by
  refine Does.of Tryz.func31 rfl rfl rfl rfl (fun w0 H0 kx => ?_)
  refine sr (g4 2 (fun b1 => [(1,bT),(2,pt p0 0),(3,pt p1 0),(4,pt p3 0),(5,pt p4 0),(6,pt b1 0),(8,pt (b1+1) 0)]) (fun b1 => [.blk b1 [iw 4,iw 2,iw 0,iw 0,n0,s0,n0] 27,.blk (b1+1) [iw 0,iw 0,iw 0,iw 0,n0,s0,n0] 27]) [.g [.N],.g [.N]] rfl (fun b1 => (en rfl ?_)))
  refine Ok.seq (sr (g0 2 [(1,bT),(2,pt p0 0),(3,pt p1 0),(4,pt p3 0),(5,pt p4 0),(6,pt b1 0),(8,pt (b1+1) 0),(13,iw 4)] [gz,.g [.K 0 0]] rfl (en rfl (Ok.blk (sr (g0 2 [(1,bT),(2,pt p0 0),(3,pt p1 0),(4,pt p3 0),(5,pt p4 0),(6,pt b1 0),(8,pt (b1+1) 0),(13,iw 4),(14,bF)] [gz,gz] rfl (en rfl (cF (Ok.seq (sr (g0 2 [(1,bT),(2,pt p0 0),(3,pt p1 0),(4,pt p3 0),(5,pt p4 0),(6,pt b1 0),(8,pt (b1+1) 0),(13,iw 4),(19,bF)] [gz,gz] rfl (en rfl (cF (sr (g0 2 [(1,bT),(2,pt p0 0),(3,pt p1 0),(4,pt p3 0),(5,pt p4 0),(6,pt b1 0),(8,pt (b1+1) 0),(13,iw 4),(19,bF)] [gz,gz] rfl (en rfl (cF (sr (g0 2 [(1,bT),(2,pt p0 0),(3,pt p1 0),(4,pt p3 0),(5,pt p4 0),(6,pt b1 0),(8,pt (b1+1) 0),(13,iw 4),(19,bF)] [gz,gz] rfl (en rfl (cF (Ok.reg (g0 2 [(1,bT),(2,pt p0 0),(3,pt p1 0),(4,pt p3 0),(5,pt p4 0),(6,pt b1 0),(8,pt (b1+1) 0),(13,iw 4),(19,bT)] [gz,gz] rfl (en rfl (cT (Ok.seq (sr (g2 8 [(2,pt p0 0),(3,pt p1 0),(4,pt p3 0),(6,pt b1 0),(8,pt (b1+1) 0),(31,bF)] [gz,.g [.K 0 1],gz,.g [.X (iw 1)],gz,gz,gz,gz] (ex1 (Pre.cell hp0 1 rfl) ex0) rfl (en rfl (cF (skn (sr (g2 5 [(4,pt p3 0),(6,pt b1 0),(8,pt (b1+1) 0),(39,bF)] [gz,.g [.K 0 1],gz,.g [.X (iw 1)],gz] (ex1 (Pre.cell hp0 1 rfl) ex0) rfl (en rfl (cF (Ok.skip_ (Ok.blkN (Ok.thenN (sr (g0 2 [(8,pt (b1+1) 0)] [gz,.g [.K 1 0,.K 1 1,.K 1 2,.K 1 3,.K 1 4,.K 1 5,.K 1 6]] rfl (en rfl (Ok.ret_ ?_))))))))))))))))))))))))))))))))))))))))))
  exact Ok.ret1c (SLe.refl _) [.K 1 0,.K 1 1,.K 1 2,.K 1 3,.K 1 4,.K 1 5,.K 1 6] (.agg #[iw 0,iw 0,iw 0,iw 0,n0,s0,n0]) [b1+1,b1+1,b1+1,b1+1,b1+1,b1+1,b1+1] rfl (by kernel_rfl) rfl
theorem x9_74 (H : Snap) : Does Tryz.prog 9 [.agg #[iw 3,iw 1,iw 10],.agg #[iw 4,iw 2,iw 0,iw 0,n0,s0,n0]] H [] (fun v H' kp => v = .agg #[iw 0,iw 0,iw 0,iw 0,n0,s0,n0]) := by
  refine Does.of Tryz.func9 rfl rfl rfl rfl (fun w0 H0 kx => ?_)
  refine sr (g4 3 (fun b1 => [(2,pt b1 0),(3,pt (b1+1) 0),(4,pt (b1+1+1) 0)]) (fun b1 => [.blk b1 [iw 3,iw 1,iw 10] 45,.blk (b1+1) [iw 4,iw 2,iw 0,iw 0,n0,s0,n0] 27,.blk (b1+1+1) [iw 0,iw 0,iw 0,iw 0,n0,s0,n0] 27]) [.g [.N],.g [.N],.g [.N]] rfl (fun b1 => (en rfl ?_)))
  refine sr (g0 1 [(2,pt b1 0),(3,pt (b1+1) 0),(4,pt (b1+1+1) 0),(9,.agg #[iw 3,iw 1,iw 10])] [.g [.K 0 0,.K 0 1,.K 0 2]] rfl (ef 2 rfl (ca (some 10) (x30_35 H) ?_)))
  rintro v3 H4 k6 le5 ⟨q7,rfl,pf8⟩
  refine g4 9 (fun b9 => [(2,pt b1 0),(3,pt (b1+1) 0),(4,pt (b1+1+1) 0),(5,pt b9 0),(6,pt (b9+1) 0)]) (fun b9 => [.blk b1 [iw 3,iw 1,iw 10] 45,.blk (b1+1) [iw 4,iw 2,iw 0,iw 0,n0,s0,n0] 27,.blk (b1+1+1) [iw 0,iw 0,iw 0,iw 0,n0,s0,n0] 27,.blk b9 [.func (.func 58) #[] #[pt q7 0]] 62,.blk (b9+1) [.func (.func 61) #[] #[pt q7 0]] 62]) [gz,gz,gz,.g [.N],.g [.N],.g [.K 3 0],.g [.K 4 0]] rfl (fun b9 => (en rfl ?_))
  refine sr (g4 1 (fun b10 => [(2,pt b1 0),(3,pt (b1+1) 0),(4,pt (b1+1+1) 0),(5,pt b9 0),(6,pt (b9+1) 0),(7,pt b10 0)]) (fun b10 => [.blk b1 [iw 3,iw 1,iw 10] 45,.blk (b1+1) [iw 4,iw 2,iw 0,iw 0,n0,s0,n0] 27,.blk (b1+1+1) [iw 0,iw 0,iw 0,iw 0,n0,s0,n0] 27,.blk b9 [.func (.func 58) #[] #[pt q7 0]] 62,.blk (b9+1) [.func (.func 61) #[] #[pt q7 0]] 62,.blk b10 [.nilFunc] 83]) [.g [.N]] rfl (fun b10 => (en rfl ?_)))
  refine sr (g1 2 [(3,pt (b1+1) 0),(4,pt (b1+1+1) 0),(7,pt b10 0)] [.blk b1 [iw 3,iw 1,iw 10] 45,.blk (b1+1) [iw 4,iw 2,iw 0,iw 0,n0,s0,n0] 27,.blk (b1+1+1) [iw 0,iw 0,iw 0,iw 0,n0,s0,n0] 27,.blk b9 [.func (.func 58) #[] #[pt q7 0]] 62,.blk (b9+1) [.func (.func 61) #[] #[pt q7 0]] 62,.blk b10 [.func (.func 31) #[] #[pt b1 0,pt b9 0,pt (b9+1) 0,pt b10 0]] 83] [gz,.g [.K 5 0]] rfl (en rfl (sr (g0 2 [(4,pt (b1+1+1) 0),(14,.func (.func 31) #[] #[pt b1 0,pt b9 0,pt (b9+1) 0,pt b10 0]),(15,.agg #[iw 4,iw 2,iw 0,iw 0,n0,s0,n0])] [.g [.K 5 0],.g [.K 1 0,.K 1 1,.K 1 2,.K 1 3,.K 1 4,.K 1 5,.K 1 6]] rfl (Ok.pubP 0 rfl [.blk (b1+1) [iw 4,iw 2,iw 0,iw 0,n0,s0,n0] 27,.blk (b1+1+1) [iw 0,iw 0,iw 0,iw 0,n0,s0,n0] 27,.blk b9 [.func (.func 58) #[] #[pt q7 0]] 62,.blk (b9+1) [.func (.func 61) #[] #[pt q7 0]] 62,.blk b10 [.func (.func 31) #[] #[pt b1 0,pt b9 0,pt (b9+1) 0,pt b10 0]] 83] rfl ?_)))))
  intro H13 le14 pf15
  refine Ok.pubP 2 rfl [.blk (b1+1) [iw 4,iw 2,iw 0,iw 0,n0,s0,n0] 27,.blk (b1+1+1) [iw 0,iw 0,iw 0,iw 0,n0,s0,n0] 27,.blk (b9+1) [.func (.func 61) #[] #[pt q7 0]] 62,.blk b10 [.func (.func 31) #[] #[pt b1 0,pt b9 0,pt (b9+1) 0,pt b10 0]] 83] rfl ?_
  intro H16 le17 pf18
  refine Ok.pubP 2 rfl [.blk (b1+1) [iw 4,iw 2,iw 0,iw 0,n0,s0,n0] 27,.blk (b1+1+1) [iw 0,iw 0,iw 0,iw 0,n0,s0,n0] 27,.blk b10 [.func (.func 31) #[] #[pt b1 0,pt b9 0,pt (b9+1) 0,pt b10 0]] 83] rfl ?_
  intro H19 le20 pf21
  refine Ok.pubP 2 rfl [.blk (b1+1) [iw 4,iw 2,iw 0,iw 0,n0,s0,n0] 27,.blk (b1+1+1) [iw 0,iw 0,iw 0,iw 0,n0,s0,n0] 27] rfl ?_
  intro H22 le23 pf24
  refine ef 3 rfl (ca (some 16) (x31_75 H22 b1 b9 q7 (b9+1) b10 (Pre.mono (tr le17 (tr le20 le23)) pf15) (Pre.mono (tr le20 le23) pf18) (Pre.mono (tr le14 (tr le17 (tr le20 le23))) pf8) (Pre.mono le23 pf21) pf24) ?_)
  rintro v25 H26 k28 le27 rfl
  refine g0 4 [(4,pt (b1+1+1) 0)] [.g [.K 1 0,.K 1 1,.K 1 2,.K 1 3,.K 1 4,.K 1 5,.K 1 6]] rfl (en rfl (Ok.ret_ ?_))
  exact Ok.ret1c (tr le5 (tr le14 (tr le17 (tr le20 (tr le23 le27))))) [.K 1 0,.K 1 1,.K 1 2,.K 1 3,.K 1 4,.K 1 5,.K 1 6] (.agg #[iw 0,iw 0,iw 0,iw 0,n0,s0,n0]) [b1+1+1,b1+1+1,b1+1+1,b1+1+1,b1+1+1,b1+1+1,b1+1+1] rfl (by kernel_rfl) rfl
theorem x13_76 (H : Snap) : Does Tryz.prog 13 [.agg #[iw 0,iw 0,iw 0,iw 0,n0,s0,n0],.agg #[iw 0,iw 0,iw 0,iw 0,n0,s0,n0]] H [] (fun v H' kp => v = bT) := by
  refine Does.of Tryz.func13 rfl rfl rfl rfl (fun w0 H0 kx => ?_)
  refine sr (g4 3 (fun b1 => [(2,pt b1 0),(3,pt (b1+1) 0)]) (fun b1 => [.blk b1 [iw 0,iw 0,iw 0,iw 0,n0,s0,n0] 27,.blk (b1+1) [iw 0,iw 0,iw 0,iw 0,n0,s0,n0] 27]) [.g [.N],.g [.N],gz] rfl (fun b1 => (en rfl ?_)))
  refine Ok.seq (sr (g0 38 [(2,pt b1 0),(3,pt (b1+1) 0),(39,bF),(41,n0),(43,n0)] [gz,.g [.K 0 0],gz,.g [.K 1 0],gz,gz,gz,.g [.K 0 1],gz,.g [.K 1 1],gz,gz,gz,gz,.g [.K 0 2],gz,.g [.K 1 2],gz,gz,gz,gz,.g [.K 0 3],gz,.g [.K 1 3],gz,gz,gz,gz,.g [.K 0 5],gz,.g [.K 1 5],gz,gz,gz,gz,.g [.K 0 4],gz,.g [.K 1 4]] rfl (ef 39 rfl (ca (some 44) (x33_43 H) ?_))))
  rintro v3 H4 k6 le5 rfl
  refine g0 50 [(2,pt b1 0),(3,pt (b1+1) 0),(55,bF)] [gz,gz,gz,gz,.g [.K 0 6],gz,gz,.g [.K 1 6],gz,gz,gz] rfl (en rfl (cF (skn (Ok.seq (sr (g0 1 [(2,pt b1 0),(3,pt (b1+1) 0),(5,iw 0)] [gz] rfl (en rfl (Ok.blk (Ok.loopN 1 (Ok.round (Ok.seq (sr (g0 5 [(2,pt b1 0),(3,pt (b1+1) 0),(5,iw 0),(60,bF)] [gz,gz,.g [.K 0 6],gz,gz] rfl (en rfl (cF (Ok.exit_ (Ok.thenE (Ok.thenE (Ok.blkE (Ok.thenN (sr (g0 1 [(4,bT)] [gz] rfl (Ok.mask [false,false] [] rfl (en rfl (Ok.ret_ ?_)))))))))))))))))))))))))
  exact Ok.ret1 (v := bT) le5 rfl rfl rfl
theorem x15_77 (H : Snap) : Does Tryz.prog 15 [.agg #[iw 0,iw 0,iw 0,iw 0,n0,s0,n0]] H [] (fun v H' kp => ∃ r0 : Nat,v = .agg #[iw 7,iw 0,iw 0,iw 0,n0,s0,sl r0 0 1 1] ∧ Pre H' r0 [iw 0,iw 0,iw 0,iw 0,n0,s0,n0]) := by
  refine Does.of Tryz.func15 rfl rfl rfl rfl (fun w0 H0 kx => ?_)
  refine sr (g4 2 (fun b1 => [(1,pt b1 0),(2,pt (b1+1) 0)]) (fun b1 => [.blk b1 [iw 0,iw 0,iw 0,iw 0,n0,s0,n0] 27,.blk (b1+1) [iw 0,iw 0,iw 0,iw 0,n0,s0,n0] 27]) [.g [.N],.g [.N]] rfl (fun b1 => (en rfl ?_)))
  refine sr (g4 4 (fun b2 => [(2,pt (b1+1) 0)]) (fun b2 => [.blk b1 [iw 0,iw 0,iw 0,iw 0,n0,s0,n0] 27,.blk (b1+1) [iw 7,iw 0,iw 0,iw 0,n0,s0,sl b2 0 1 1] 27,.blk b2 [iw 0,iw 0,iw 0,iw 0,n0,s0,n0] 27]) [.g [.K 0 0,.K 0 1,.K 0 2,.K 0 3,.K 0 4,.K 0 5,.K 0 6],.g [.N],gz,.g [.K 1 0,.K 1 1,.K 1 2,.K 1 3,.K 1 4,.K 1 5,.K 1 6]] rfl (fun b2 => (en rfl ?_)))
  refine Ok.ret_ (Ok.pubP 2 rfl [.blk b1 [iw 0,iw 0,iw 0,iw 0,n0,s0,n0] 27,.blk (b1+1) [iw 7,iw 0,iw 0,iw 0,n0,s0,sl b2 0 1 1] 27] rfl ?_)
  intro H3 le4 pf5
  exact Ok.ret1c le4 [.K 1 0,.K 1 1,.K 1 2,.K 1 3,.K 1 4,.K 1 5,.K 1 6] (.agg #[iw 7,iw 0,iw 0,iw 0,n0,s0,sl b2 0 1 1]) [b1+1,b1+1,b1+1,b1+1,b1+1,b1+1,b1+1] rfl (by kernel_rfl) ⟨b2,rfl,pf5⟩
theorem x31_80 (H : Snap) (p0 p1 p2 p3 p4 : Nat) (hp0 : Pre H p0 [iw 3,iw 1,iw 10]) (hp1 : Pre H p1 [.func (.func 58) #[] #[pt p2 0]]) (hp2 : Pre H p2 [iw 3,iw 1,iw 10]) (hp3 : Pre H p3 [.func (.func 61) #[] #[pt p2 0]]) (hp4 : Pre H p4 [.func (.func 31) #[] #[pt p0 0,pt p1 0,pt p3 0,pt p4 0]]) : Does Tryz.prog 31 [.agg #[iw 0,iw 0,iw 0,iw 0,n0,s0,n0],bF,pt p0 0,pt p1 0,pt p3 0,pt p4 0] H [] (fun v H' kp => v = .agg #[iw 6,iw 0,iw 0,iw 0,n0,s0,n0]) := by
  refine Does.of Tryz.func31 rfl rfl rfl rfl (fun w0 H0 kx => ?_)
  refine sr (g4 2 (fun b1 => [(1,bF),(2,pt p0 0),(3,pt p1 0),(4,pt p3 0),(5,pt p4 0),(6,pt b1 0),(8,pt (b1+1) 0)]) (fun b1 => [.blk b1 [iw 0,iw 0,iw 0,iw 0,n0,s0,n0] 27,.blk (b1+1) [iw 0,iw 0,iw 0,iw 0,n0,s0,n0] 27]) [.g [.N],.g [.N]] rfl (fun b1 => (en rfl ?_)))
  refine Ok.seq (sr (g0 2 [(1,bF),(2,pt p0 0),(3,pt p1 0),(4,pt p3 0),(5,pt p4 0),(6,pt b1 0),(8,pt (b1+1) 0),(13,iw 0)] [gz,.g [.K 0 0]] rfl (en rfl (Ok.blk (sr (g0 2 [(1,bF),(2,pt p0 0),(3,pt p1 0),(4,pt p3 0),(5,pt p4 0),(6,pt b1 0),(8,pt (b1+1) 0),(13,iw 0),(14,bT)] [gz,gz] rfl (en rfl (cT (sr (g0 2 [(8,pt (b1+1) 0),(17,bT)] [gz,gz] rfl (en rfl (cT (sr (g1 2 [(8,pt (b1+1) 0)] [.blk b1 [iw 0,iw 0,iw 0,iw 0,n0,s0,n0] 27,.blk (b1+1) [iw 6,iw 0,iw 0,iw 0,n0,s0,n0] 27] [gz,.g [.K 1 0,.K 1 1,.K 1 2,.K 1 3,.K 1 4,.K 1 5,.K 1 6]] rfl (en rfl (Ok.ret_ (Ok.blkR (Ok.thenR ?_))))))))))))))))))
  exact Ok.ret1c (SLe.refl _) [.K 1 0,.K 1 1,.K 1 2,.K 1 3,.K 1 4,.K 1 5,.K 1 6] (.agg #[iw 6,iw 0,iw 0,iw 0,n0,s0,n0]) [b1+1,b1+1,b1+1,b1+1,b1+1,b1+1,b1+1] rfl (by kernel_rfl) rfl
theorem x31_79 (H : Snap) (p0 p1 p2 p3 p4 p5 : Nat) (hp0 : Pre H p0 [iw 0,iw 0,iw 0,iw 0,n0,s0,n0]) (hp1 : Pre H p1 [iw 3,iw 1,iw 10]) (hp2 : Pre H p2 [.func (.func 58) #[] #[pt p3 0]]) (hp3 : Pre H p3 [iw 3,iw 1,iw 10]) (hp4 : Pre H p4 [.func (.func 61) #[] #[pt p3 0]]) (hp5 : Pre H p5 [.func (.func 31) #[] #[pt p1 0,pt p2 0,pt p4 0,pt p5 0]]) : Does Tryz.prog 31 [.agg #[iw 7,iw 0,iw 0,iw 0,n0,s0,sl p0 0 1 1],bT,pt p1 0,pt p2 0,pt p4 0,pt p5 0] H [] (fun v H' kp => v = .agg #[iw 6,iw 0,iw 0,iw 0,n0,s0,n0]) := by
  refine Does.of Tryz.func31 rfl rfl rfl rfl (fun w0 H0 kx => ?_)
  refine sr (g4 2 (fun b1 => [(1,bT),(2,pt p1 0),(3,pt p2 0),(4,pt p4 0),(5,pt p5 0),(6,pt b1 0),(8,pt (b1+1) 0)]) (fun b1 => [.blk b1 [iw 7,iw 0,iw 0,iw 0,n0,s0,sl p0 0 1 1] 27,.blk (b1+1) [iw 0,iw 0,iw 0,iw 0,n0,s0,n0] 27]) [.g [.N],.g [.N]] rfl (fun b1 => (en rfl ?_)))
  refine Ok.seq (sr (g0 2 [(1,bT),(2,pt p1 0),(3,pt p2 0),(4,pt p4 0),(5,pt p5 0),(6,pt b1 0),(8,pt (b1+1) 0),(13,iw 7)] [gz,.g [.K 0 0]] rfl (en rfl (Ok.blk (sr (g0 2 [(1,bT),(2,pt p1 0),(3,pt p2 0),(4,pt p4 0),(5,pt p5 0),(6,pt b1 0),(8,pt (b1+1) 0),(13,iw 7),(14,bF)] [gz,gz] rfl (en rfl (cF (Ok.seq (sr (g0 2 [(1,bT),(2,pt p1 0),(3,pt p2 0),(4,pt p4 0),(5,pt p5 0),(6,pt b1 0),(8,pt (b1+1) 0),(13,iw 7),(19,bF)] [gz,gz] rfl (en rfl (cF (sr (g0 2 [(1,bT),(2,pt p1 0),(3,pt p2 0),(4,pt p4 0),(5,pt p5 0),(6,pt b1 0),(8,pt (b1+1) 0),(13,iw 7),(19,bF)] [gz,gz] rfl (en rfl (cF (sr (g0 2 [(1,bT),(2,pt p1 0),(3,pt p2 0),(4,pt p4 0),(5,pt p5 0),(6,pt b1 0),(8,pt (b1+1) 0),(13,iw 7),(19,bF)] [gz,gz] rfl (en rfl (cF (Ok.reg (g0 2 [(1,bT),(2,pt p1 0),(3,pt p2 0),(4,pt p4 0),(5,pt p5 0),(6,pt b1 0),(8,pt (b1+1) 0),(13,iw 7),(19,bF)] [gz,gz] rfl (en rfl (cF (sr (g0 2 [(1,bT),(5,pt p5 0),(6,pt b1 0),(8,pt (b1+1) 0),(13,iw 7),(43,bT)] [gz,gz] rfl (en rfl (cT (sr (g0 4 [(1,bT),(5,pt p5 0),(6,pt b1 0),(8,pt (b1+1) 0),(48,bT)] [gz,.g [.K 0 6],gz,gz] rfl (en rfl (cT (Ok.seq (st [0] [] 9 (tx 2 [(0,.g [.X (.func (.func 31) #[] #[pt p1 0,pt p2 0,pt p4 0,pt p5 0])]),(1,gz),(2,.g [.K 0 6]),(3,gz),(4,.g [.X (iw 0),.X (iw 0),.X (iw 0),.X (iw 0),.X (n0),.X (s0),.X (n0)]),(5,gz),(6,gz)] [(8,pt (b1+1) 0),(49,.func (.func 31) #[] #[pt p1 0,pt p2 0,pt p4 0,pt p5 0]),(53,.agg #[iw 0,iw 0,iw 0,iw 0,n0,s0,n0]),(55,bF)] (ex1 (Pre.cell hp5 0 rfl) (ex1 (Pre.cell hp0 0 rfl) (ex1 (Pre.cell hp0 1 rfl) (ex1 (Pre.cell hp0 2 rfl) (ex1 (Pre.cell hp0 3 rfl) (ex1 (Pre.cell hp0 4 rfl) (ex1 (Pre.cell hp0 5 rfl) (ex1 (Pre.cell hp0 6 rfl) ex0)))))))) rfl (on 7 1 rfl (ca (some 56) (x31_80 H p1 p2 p3 p4 p5 hp1 hp2 hp3 hp4 hp5) ?_))))))))))))))))))))))))))))))))))))))
  rintro v10 H11 k13 le12 rfl
  refine ws [0] le12 ?_
  refine on 8 0 rfl (e1 (.g [.K 1 0,.K 1 1,.K 1 2,.K 1 3,.K 1 4,.K 1 5,.K 1 6]) [(8,pt (b1+1) 0)] [.blk b1 [iw 7,iw 0,iw 0,iw 0,n0,s0,sl p0 0 1 1] 27,.blk (b1+1) [iw 6,iw 0,iw 0,iw 0,n0,s0,n0] 27] ?_)
  refine ws [0] le12 ?_
  refine dn (Ok.ret_ (Ok.blkR (Ok.thenR ?_)))
  exact Ok.ret1c le12 [.K 1 0,.K 1 1,.K 1 2,.K 1 3,.K 1 4,.K 1 5,.K 1 6] (.agg #[iw 6,iw 0,iw 0,iw 0,n0,s0,n0]) [b1+1,b1+1,b1+1,b1+1,b1+1,b1+1,b1+1] rfl (by kernel_rfl) rfl
theorem x9_78 (H : Snap) (p0 : Nat) (hp0 : Pre H p0 [iw 0,iw 0,iw 0,iw 0,n0,s0,n0]) : Does Tryz.prog 9 [.agg #[iw 3,iw 1,iw 10],.agg #[iw 7,iw 0,iw 0,iw 0,n0,s0,sl p0 0 1 1]] H [] (fun v H' kp => v = .agg #[iw 6,iw 0,iw 0,iw 0,n0,s0,n0]) := by
  refine Does.of Tryz.func9 rfl rfl rfl rfl (fun w0 H0 kx => ?_)
  refine sr (g4 3 (fun b1 => [(2,pt b1 0),(3,pt (b1+1) 0),(4,pt (b1+1+1) 0)]) (fun b1 => [.blk b1 [iw 3,iw 1,iw 10] 45,.blk (b1+1) [iw 7,iw 0,iw 0,iw 0,n0,s0,sl p0 0 1 1] 27,.blk (b1+1+1) [iw 0,iw 0,iw 0,iw 0,n0,s0,n0] 27]) [.g [.N],.g [.N],.g [.N]] rfl (fun b1 => (en rfl ?_)))
  refine sr (g0 1 [(2,pt b1 0),(3,pt (b1+1) 0),(4,pt (b1+1+1) 0),(9,.agg #[iw 3,iw 1,iw 10])] [.g [.K 0 0,.K 0 1,.K 0 2]] rfl (ef 2 rfl (ca (some 10) (x30_35 H) ?_)))
  rintro v3 H4 k6 le5 ⟨q7,rfl,pf8⟩
  refine g4 9 (fun b9 => [(2,pt b1 0),(3,pt (b1+1) 0),(4,pt (b1+1+1) 0),(5,pt b9 0),(6,pt (b9+1) 0)]) (fun b9 => [.blk b1 [iw 3,iw 1,iw 10] 45,.blk (b1+1) [iw 7,iw 0,iw 0,iw 0,n0,s0,sl p0 0 1 1] 27,.blk (b1+1+1) [iw 0,iw 0,iw 0,iw 0,n0,s0,n0] 27,.blk b9 [.func (.func 58) #[] #[pt q7 0]] 62,.blk (b9+1) [.func (.func 61) #[] #[pt q7 0]] 62]) [gz,gz,gz,.g [.N],.g [.N],.g [.K 3 0],.g [.K 4 0]] rfl (fun b9 => (en rfl ?_))
  refine sr (g4 1 (fun b10 => [(2,pt b1 0),(3,pt (b1+1) 0),(4,pt (b1+1+1) 0),(5,pt b9 0),(6,pt (b9+1) 0),(7,pt b10 0)]) (fun b10 => [.blk b1 [iw 3,iw 1,iw 10] 45,.blk (b1+1) [iw 7,iw 0,iw 0,iw 0,n0,s0,sl p0 0 1 1] 27,.blk (b1+1+1) [iw 0,iw 0,iw 0,iw 0,n0,s0,n0] 27,.blk b9 [.func (.func 58) #[] #[pt q7 0]] 62,.blk (b9+1) [.func (.func 61) #[] #[pt q7 0]] 62,.blk b10 [.nilFunc] 83]) [.g [.N]] rfl (fun b10 => (en rfl ?_)))
  refine sr (g1 2 [(3,pt (b1+1) 0),(4,pt (b1+1+1) 0),(7,pt b10 0)] [.blk b1 [iw 3,iw 1,iw 10] 45,.blk (b1+1) [iw 7,iw 0,iw 0,iw 0,n0,s0,sl p0 0 1 1] 27,.blk (b1+1+1) [iw 0,iw 0,iw 0,iw 0,n0,s0,n0] 27,.blk b9 [.func (.func 58) #[] #[pt q7 0]] 62,.blk (b9+1) [.func (.func 61) #[] #[pt q7 0]] 62,.blk b10 [.func (.func 31) #[] #[pt b1 0,pt b9 0,pt (b9+1) 0,pt b10 0]] 83] [gz,.g [.K 5 0]] rfl (en rfl (sr (g0 2 [(4,pt (b1+1+1) 0),(14,.func (.func 31) #[] #[pt b1 0,pt b9 0,pt (b9+1) 0,pt b10 0]),(15,.agg #[iw 7,iw 0,iw 0,iw 0,n0,s0,sl p0 0 1 1])] [.g [.K 5 0],.g [.K 1 0,.K 1 1,.K 1 2,.K 1 3,.K 1 4,.K 1 5,.K 1 6]] rfl (Ok.pubP 0 rfl [.blk (b1+1) [iw 7,iw 0,iw 0,iw 0,n0,s0,sl p0 0 1 1] 27,.blk (b1+1+1) [iw 0,iw 0,iw 0,iw 0,n0,s0,n0] 27,.blk b9 [.func (.func 58) #[] #[pt q7 0]] 62,.blk (b9+1) [.func (.func 61) #[] #[pt q7 0]] 62,.blk b10 [.func (.func 31) #[] #[pt b1 0,pt b9 0,pt (b9+1) 0,pt b10 0]] 83] rfl ?_)))))
  intro H13 le14 pf15
  refine Ok.pubP 2 rfl [.blk (b1+1) [iw 7,iw 0,iw 0,iw 0,n0,s0,sl p0 0 1 1] 27,.blk (b1+1+1) [iw 0,iw 0,iw 0,iw 0,n0,s0,n0] 27,.blk (b9+1) [.func (.func 61) #[] #[pt q7 0]] 62,.blk b10 [.func (.func 31) #[] #[pt b1 0,pt b9 0,pt (b9+1) 0,pt b10 0]] 83] rfl ?_
  intro H16 le17 pf18
  refine Ok.pubP 2 rfl [.blk (b1+1) [iw 7,iw 0,iw 0,iw 0,n0,s0,sl p0 0 1 1] 27,.blk (b1+1+1) [iw 0,iw 0,iw 0,iw 0,n0,s0,n0] 27,.blk b10 [.func (.func 31) #[] #[pt b1 0,pt b9 0,pt (b9+1) 0,pt b10 0]] 83] rfl ?_
  intro H19 le20 pf21
  refine Ok.pubP 2 rfl [.blk (b1+1) [iw 7,iw 0,iw 0,iw 0,n0,s0,sl p0 0 1 1] 27,.blk (b1+1+1) [iw 0,iw 0,iw 0,iw 0,n0,s0,n0] 27] rfl ?_
  intro H22 le23 pf24
  refine ef 3 rfl (ca (some 16) (x31_79 H22 p0 b1 b9 q7 (b9+1) b10 (Pre.mono (tr le5 (tr le14 (tr le17 (tr le20 le23)))) hp0) (Pre.mono (tr le17 (tr le20 le23)) pf15) (Pre.mono (tr le20 le23) pf18) (Pre.mono (tr le14 (tr le17 (tr le20 le23))) pf8) (Pre.mono le23 pf21) pf24) ?_)
  rintro v25 H26 k28 le27 rfl
  refine g1 4 [(4,pt (b1+1+1) 0)] [.blk (b1+1) [iw 7,iw 0,iw 0,iw 0,n0,s0,sl p0 0 1 1] 27,.blk (b1+1+1) [iw 6,iw 0,iw 0,iw 0,n0,s0,n0] 27] [.g [.K 1 0,.K 1 1,.K 1 2,.K 1 3,.K 1 4,.K 1 5,.K 1 6]] rfl (en rfl (Ok.ret_ ?_))
  exact Ok.ret1c (tr le5 (tr le14 (tr le17 (tr le20 (tr le23 le27))))) [.K 1 0,.K 1 1,.K 1 2,.K 1 3,.K 1 4,.K 1 5,.K 1 6] (.agg #[iw 6,iw 0,iw 0,iw 0,n0,s0,n0]) [b1+1+1,b1+1+1,b1+1+1,b1+1+1,b1+1+1,b1+1+1,b1+1+1] rfl (by kernel_rfl) rfl
theorem x13_81 (H : Snap) : Does Tryz.prog 13 [.agg #[iw 6,iw 0,iw 0,iw 0,n0,s0,n0],.agg #[iw 6,iw 0,iw 0,iw 0,n0,s0,n0]] H [] (fun v H' kp => v = bT) := by
  refine Does.of Tryz.func13 rfl rfl rfl rfl (fun w0 H0 kx => ?_)
  refine sr (g4 3 (fun b1 => [(2,pt b1 0),(3,pt (b1+1) 0)]) (fun b1 => [.blk b1 [iw 6,iw 0,iw 0,iw 0,n0,s0,n0] 27,.blk (b1+1) [iw 6,iw 0,iw 0,iw 0,n0,s0,n0] 27]) [.g [.N],.g [.N],gz] rfl (fun b1 => (en rfl ?_)))
  refine Ok.seq (sr (g0 38 [(2,pt b1 0),(3,pt (b1+1) 0),(39,bF),(41,n0),(43,n0)] [gz,.g [.K 0 0],gz,.g [.K 1 0],gz,gz,gz,.g [.K 0 1],gz,.g [.K 1 1],gz,gz,gz,gz,.g [.K 0 2],gz,.g [.K 1 2],gz,gz,gz,gz,.g [.K 0 3],gz,.g [.K 1 3],gz,gz,gz,gz,.g [.K 0 5],gz,.g [.K 1 5],gz,gz,gz,gz,.g [.K 0 4],gz,.g [.K 1 4]] rfl (ef 39 rfl (ca (some 44) (x33_43 H) ?_))))
  rintro v3 H4 k6 le5 rfl
  refine g0 50 [(2,pt b1 0),(3,pt (b1+1) 0),(55,bF)] [gz,gz,gz,gz,.g [.K 0 6],gz,gz,.g [.K 1 6],gz,gz,gz] rfl (en rfl (cF (skn (Ok.seq (sr (g0 1 [(2,pt b1 0),(3,pt (b1+1) 0),(5,iw 0)] [gz] rfl (en rfl (Ok.blk (Ok.loopN 1 (Ok.round (Ok.seq (sr (g0 5 [(2,pt b1 0),(3,pt (b1+1) 0),(5,iw 0),(60,bF)] [gz,gz,.g [.K 0 6],gz,gz] rfl (en rfl (cF (Ok.exit_ (Ok.thenE (Ok.thenE (Ok.blkE (Ok.thenN (sr (g0 1 [(4,bT)] [gz] rfl (Ok.mask [false,false] [] rfl (en rfl (Ok.ret_ ?_)))))))))))))))))))))))))
  exact Ok.ret1 (v := bT) le5 rfl rfl rfl
theorem x98_86 (H : Snap) (p0 : Nat) (hp0 : Pre H p0 [iw 1]) : Does Tryz.prog 98 [.agg #[iw 1,.string ⟨#[97]⟩,iw 3,iw 0],pt p0 0] H [] (fun v H' kp => v = bT) := by
  refine Does.of Tryz.func98 rfl rfl rfl rfl (fun w0 H0 kx => ?_)
  refine sr (g4 2 (fun b1 => [(1,pt p0 0),(2,pt b1 0)]) (fun b1 => [.blk b1 [iw 1,.string ⟨#[97]⟩,iw 3,iw 0] 41]) [.g [.N],gz] rfl (fun b1 => (en rfl ?_)))
  refine sr (g2 5 [(3,bT)] [gz,.g [.K 0 0],.g [.X (iw 1)],gz,gz] (ex1 (Pre.cell hp0 0 rfl) ex0) rfl (en rfl (Ok.ret_ (Ok.dropAll ?_))))
  exact Ok.ret1 (v := bT) (SLe.refl _) rfl rfl rfl
theorem x97_85 (H : Snap) (p0 p1 : Nat) (hp0 : Pre H p0 [iw 1,.string ⟨#[97]⟩,iw 3,iw 0,iw 2,.string ⟨#[98]⟩,iw 5,iw 0]) (hp1 : Pre H p1 [iw 1]) : Does Tryz.prog 97 [sl p0 0 2 2,.func (.func 98) #[] #[pt p1 0]] H [] (fun v H' kp => v = iw 0) := by
  refine Does.of Tryz.func97 rfl rfl rfl rfl (fun w0 H0 kx => ?_)
  refine sr (g0 1 [(0,sl p0 0 2 2),(1,.func (.func 98) #[] #[pt p1 0])] [gz] rfl (en rfl (Ok.seq (sr (g0 3 [(0,sl p0 0 2 2),(1,.func (.func 98) #[] #[pt p1 0]),(7,iw 2),(8,iw 0)] [gz,gz,gz] rfl (en rfl (Ok.blk (Ok.loopN 1 (Ok.round (sr (g0 1 [(0,sl p0 0 2 2),(1,.func (.func 98) #[] #[pt p1 0]),(7,iw 2),(8,iw 0),(9,bT)] [gz] rfl (en rfl (Ok.seq (cT (skn (Ok.seq (Ok.blk (sr (g0 2 [(0,sl p0 0 2 2),(1,.func (.func 98) #[] #[pt p1 0]),(5,iw 0),(7,iw 2),(8,iw 0)] [gz,gz] rfl (en rfl (sr (g2 5 [(0,sl p0 0 2 2),(1,.func (.func 98) #[] #[pt p1 0]),(5,iw 0),(7,iw 2),(8,iw 0),(11,.func (.func 98) #[] #[pt p1 0]),(15,.agg #[iw 1,.string ⟨#[97]⟩,iw 3,iw 0])] [gz,gz,gz,gz,.g [.X (iw 1),.X (.string ⟨#[97]⟩),.X (iw 3),.X (iw 0)]] (ex1 (Pre.cell hp0 0 rfl) (ex1 (Pre.cell hp0 1 rfl) (ex1 (Pre.cell hp0 2 rfl) (ex1 (Pre.cell hp0 3 rfl) ex0)))) rfl (ef 6 rfl (ca (some 16) (x98_86 H p1 hp1) ?_))))))))))))))))))))))))
  rintro v6 H7 k9 le8 rfl
  refine en rfl (cT (sr (g0 2 [(4,iw 0)] [gz,gz] rfl (en rfl (Ok.ret_ (Ok.blkR (Ok.thenR (Ok.thenR (Ok.blkR (Ok.thenR ?_))))))))))
  exact Ok.ret1 (v := iw 0) le8 rfl rfl rfl
theorem x65_84 (H : Snap) (p0 : Nat) (hp0 : Pre H p0 [iw 1,.string ⟨#[97]⟩,iw 3,iw 0,iw 2,.string ⟨#[98]⟩,iw 5,iw 0]) : Does Tryz.prog 65 [.agg #[sl p0 0 2 2,iw 3],iw 1] H [] (fun v H' kp => v = iw 0) := by
  refine Does.of Tryz.func65 rfl rfl rfl rfl (fun w0 H0 kx => ?_)
  refine sr (g4 3 (fun b1 => [(2,pt b1 0),(3,pt (b1+1) 0)]) (fun b1 => [.blk b1 [sl p0 0 2 2,iw 3] 34,.blk (b1+1) [iw 1] 3]) [.g [.N],.g [.N],gz] rfl (fun b1 => (en rfl ?_)))
  refine sr (g0 3 [(6,sl p0 0 2 2),(7,.func (.func 98) #[] #[pt (b1+1) 0])] [gz,.g [.K 0 0],gz] rfl (Ok.pubP 1 rfl [.blk b1 [sl p0 0 2 2,iw 3] 34] rfl ?_))
  intro H3 le4 pf5
  refine ef 4 rfl (ca (some 8) (x97_85 H3 p0 (b1+1) (Pre.mono le4 hp0) pf5) ?_)
  rintro v6 H7 k9 le8 rfl
  refine g0 5 [(4,iw 0)] [gz] rfl (en rfl (Ok.ret_ (Ok.dropAll ?_)))
  exact Ok.ret1 (v := iw 0) (tr le4 le8) rfl rfl rfl
theorem x34_83 (H : Snap) (p0 : Nat) (hp0 : Pre H p0 [iw 1,.string ⟨#[97]⟩,iw 3,iw 0,iw 2,.string ⟨#[98]⟩,iw 5,iw 0]) : Does Tryz.prog 34 [.agg #[sl p0 0 2 2,iw 3],iw 1] H [] (fun v H' kp => v = .tuple #[.agg #[iw 1,.string ⟨#[97]⟩,iw 3,iw 0],bT]) := by
  refine Does.of Tryz.func34 rfl rfl rfl rfl (fun w0 H0 kx => ?_)
  refine sr (g4 3 (fun b1 => [(1,iw 1),(2,pt b1 0),(4,pt (b1+1) 0)]) (fun b1 => [.blk b1 [sl p0 0 2 2,iw 3] 34,.blk (b1+1) [iw 0,s0,iw 0,iw 0] 41]) [.g [.N],.g [.N],gz] rfl (fun b1 => (en rfl ?_)))
  refine Ok.seq (sr (g0 2 [(2,pt b1 0),(4,pt (b1+1) 0),(7,.agg #[sl p0 0 2 2,iw 3]),(8,iw 1)] [.g [.K 0 0,.K 0 1],gz] rfl (ef 3 rfl (ca (some 9) (x65_84 H p0 hp0) ?_))))
  rintro v3 H4 k6 le5 rfl
  refine g0 4 [(2,pt b1 0),(4,pt (b1+1) 0),(6,iw 0)] [gz] rfl (en rfl (sr (g0 2 [(2,pt b1 0),(4,pt (b1+1) 0),(6,iw 0),(11,bT)] [gz,gz] rfl (en rfl (cT (sr (g3 7 [(4,pt (b1+1) 0),(5,bT)] [.blk b1 [sl p0 0 2 2,iw 3] 34,.blk (b1+1) [iw 1,.string ⟨#[97]⟩,iw 3,iw 0] 41] [gz,.g [.K 0 0],gz,gz,.g [.X (iw 1),.X (.string ⟨#[97]⟩),.X (iw 3),.X (iw 0)],.g [.K 1 0,.K 1 1,.K 1 2,.K 1 3],gz] (ex1 (Pre.cell (Pre.mono le5 hp0) 0 rfl) (ex1 (Pre.cell (Pre.mono le5 hp0) 1 rfl) (ex1 (Pre.cell (Pre.mono le5 hp0) 2 rfl) (ex1 (Pre.cell (Pre.mono le5 hp0) 3 rfl) ex0)))) rfl (en rfl (Ok.ret_ (Ok.thenR ?_))))))))))
  exact Ok.ret2c le5 [.K 1 0,.K 1 1,.K 1 2,.K 1 3] (.agg #[iw 1,.string ⟨#[97]⟩,iw 3,iw 0]) (bT) [b1+1,b1+1,b1+1,b1+1] rfl (by kernel_rfl) rfl rfl
theorem x35_87 (H : Snap) : Does Tryz.prog 35 [.agg #[iw 3,iw 1,iw 10],.agg #[iw 1,.string ⟨#[97]⟩,iw 3,iw 0]] H [] (fun v H' kp => v = bT) := by
  refine Does.of Tryz.func35 rfl rfl rfl rfl (fun w0 H0 kx => ?_)
  refine sr (g4 3 (fun b1 => [(2,pt b1 0),(3,pt (b1+1) 0)]) (fun b1 => [.blk b1 [iw 3,iw 1,iw 10] 45,.blk (b1+1) [iw 1,.string ⟨#[97]⟩,iw 3,iw 0] 41]) [.g [.N],.g [.N],gz] rfl (fun b1 => (en rfl ?_)))
  refine Ok.seq (sr (g0 2 [(2,pt b1 0),(3,pt (b1+1) 0),(6,iw 3)] [gz,.g [.K 0 0]] rfl (en rfl (Ok.blk (sr (g0 2 [(2,pt b1 0),(3,pt (b1+1) 0),(6,iw 3),(7,bF)] [gz,gz] rfl (en rfl (cF (sr (g0 2 [(2,pt b1 0),(3,pt (b1+1) 0),(6,iw 3),(12,bF)] [gz,gz] rfl (en rfl (cF (sr (g0 2 [(2,pt b1 0),(3,pt (b1+1) 0),(6,iw 3),(22,bT)] [gz,gz] rfl (en rfl (cT (sr (g0 2 [(2,pt b1 0),(25,iw 3)] [gz,.g [.K 1 2]] rfl (en rfl (Ok.blk (sr (g0 2 [(2,pt b1 0),(25,iw 3),(26,bF)] [gz,gz] rfl (en rfl (cF (Ok.seq (sr (g0 2 [(2,pt b1 0),(25,iw 3),(36,bF)] [gz,gz] rfl (en rfl (cF (Ok.reg (g0 2 [(2,pt b1 0),(36,bT)] [gz,gz] rfl (en rfl (cT (sr (g0 9 [(4,bT)] [gz,.g [.K 0 2],gz,gz,gz,.g [.K 0 2],gz,gz,gz] rfl (Ok.mask [false,false] [] rfl (en rfl (Ok.ret_ (Ok.blkR (Ok.blkR (Ok.thenR ?_)))))))))))))))))))))))))))))))))))))))))
  exact Ok.ret1 (v := bT) (SLe.refl _) rfl rfl rfl
theorem x98_91 (H : Snap) (p0 : Nat) (hp0 : Pre H p0 [iw 2]) : Does Tryz.prog 98 [.agg #[iw 1,.string ⟨#[97]⟩,iw 3,iw 0],pt p0 0] H [] (fun v H' kp => v = bF) := by
  refine Does.of Tryz.func98 rfl rfl rfl rfl (fun w0 H0 kx => ?_)
  refine sr (g4 2 (fun b1 => [(1,pt p0 0),(2,pt b1 0)]) (fun b1 => [.blk b1 [iw 1,.string ⟨#[97]⟩,iw 3,iw 0] 41]) [.g [.N],gz] rfl (fun b1 => (en rfl ?_)))
  refine sr (g2 5 [(3,bF)] [gz,.g [.K 0 0],.g [.X (iw 2)],gz,gz] (ex1 (Pre.cell hp0 0 rfl) ex0) rfl (en rfl (Ok.ret_ (Ok.dropAll ?_))))
  exact Ok.ret1 (v := bF) (SLe.refl _) rfl rfl rfl
theorem x98_92 (H : Snap) (p0 : Nat) (hp0 : Pre H p0 [iw 2]) : Does Tryz.prog 98 [.agg #[iw 2,.string ⟨#[98]⟩,iw 5,iw 0],pt p0 0] H [] (fun v H' kp => v = bT) := by
  refine Does.of Tryz.func98 rfl rfl rfl rfl (fun w0 H0 kx => ?_)
  refine sr (g4 2 (fun b1 => [(1,pt p0 0),(2,pt b1 0)]) (fun b1 => [.blk b1 [iw 2,.string ⟨#[98]⟩,iw 5,iw 0] 41]) [.g [.N],gz] rfl (fun b1 => (en rfl ?_)))
  refine sr (g2 5 [(3,bT)] [gz,.g [.K 0 0],.g [.X (iw 2)],gz,gz] (ex1 (Pre.cell hp0 0 rfl) ex0) rfl (en rfl (Ok.ret_ (Ok.dropAll ?_))))
  exact Ok.ret1 (v := bT) (SLe.refl _) rfl rfl rfl
theorem x97_90 (H : Snap) (p0 p1 : Nat) (hp0 : Pre H p0 [iw 1,.string ⟨#[97]⟩,iw 3,iw 0,iw 2,.string ⟨#[98]⟩,iw 5,iw 0]) (hp1 : Pre H p1 [iw 2]) : Does Tryz.prog 97 [sl p0 0 2 2,.func (.func 98) #[] #[pt p1 0]] H [] (fun v H' kp => v = iw 1) := by
  refine Does.of Tryz.func97 rfl rfl rfl rfl (fun w0 H0 kx => ?_)
  refine sr (g0 1 [(0,sl p0 0 2 2),(1,.func (.func 98) #[] #[pt p1 0])] [gz] rfl (en rfl (Ok.seq (sr (g0 3 [(0,sl p0 0 2 2),(1,.func (.func 98) #[] #[pt p1 0]),(7,iw 2),(8,iw 0)] [gz,gz,gz] rfl (en rfl (Ok.blk (Ok.loopN 2 (Ok.round (sr (g0 1 [(0,sl p0 0 2 2),(1,.func (.func 98) #[] #[pt p1 0]),(7,iw 2),(8,iw 0),(9,bT)] [gz] rfl (en rfl (Ok.seq (cT (skn (Ok.seq (Ok.blk (sr (g0 2 [(0,sl p0 0 2 2),(1,.func (.func 98) #[] #[pt p1 0]),(5,iw 0),(7,iw 2),(8,iw 0)] [gz,gz] rfl (en rfl (sr (g2 5 [(0,sl p0 0 2 2),(1,.func (.func 98) #[] #[pt p1 0]),(5,iw 0),(7,iw 2),(8,iw 0),(11,.func (.func 98) #[] #[pt p1 0]),(15,.agg #[iw 1,.string ⟨#[97]⟩,iw 3,iw 0])] [gz,gz,gz,gz,.g [.X (iw 1),.X (.string ⟨#[97]⟩),.X (iw 3),.X (iw 0)]] (ex1 (Pre.cell hp0 0 rfl) (ex1 (Pre.cell hp0 1 rfl) (ex1 (Pre.cell hp0 2 rfl) (ex1 (Pre.cell hp0 3 rfl) ex0)))) rfl (ef 6 rfl (ca (some 16) (x98_91 H p1 hp1) ?_))))))))))))))))))))))))
  rintro v6 H7 k9 le8 rfl
  refine en rfl (cF (Ok.skip_ (Ok.blkN (Ok.thenN (Ok.reg (g0 2 [(0,sl p0 0 2 2),(1,.func (.func 98) #[] #[pt p1 0]),(7,iw 2),(8,iw 1)] [gz,gz] rfl (en rfl (Ok.round (sr (g0 1 [(0,sl p0 0 2 2),(1,.func (.func 98) #[] #[pt p1 0]),(7,iw 2),(8,iw 1),(9,bT)] [gz] rfl (en rfl (Ok.seq (cT (skn (Ok.seq (Ok.blk (sr (g0 2 [(0,sl p0 0 2 2),(1,.func (.func 98) #[] #[pt p1 0]),(5,iw 1),(7,iw 2),(8,iw 1)] [gz,gz] rfl (en rfl (sr (g2 5 [(0,sl p0 0 2 2),(1,.func (.func 98) #[] #[pt p1 0]),(5,iw 1),(7,iw 2),(8,iw 1),(11,.func (.func 98) #[] #[pt p1 0]),(15,.agg #[iw 2,.string ⟨#[98]⟩,iw 5,iw 0])] [gz,gz,gz,gz,.g [.X (iw 2),.X (.string ⟨#[98]⟩),.X (iw 5),.X (iw 0)]] (ex1 (Pre.cell (Pre.mono le8 hp0) 4 rfl) (ex1 (Pre.cell (Pre.mono le8 hp0) 5 rfl) (ex1 (Pre.cell (Pre.mono le8 hp0) 6 rfl) (ex1 (Pre.cell (Pre.mono le8 hp0) 7 rfl) ex0)))) rfl (ef 6 rfl (ca (some 16) (x98_92 H7 p1 (Pre.mono le8 hp1)) ?_)))))))))))))))))))))))
  rintro v15 H16 k18 le17 rfl
  refine en rfl (cT (sr (g0 2 [(4,iw 1)] [gz,gz] rfl (en rfl (Ok.ret_ (Ok.blkR (Ok.thenR (Ok.thenR (Ok.blkR (Ok.thenR ?_))))))))))
  exact Ok.ret1 (v := iw 1) (tr le8 le17) rfl rfl rfl
theorem x65_89 (H : Snap) (p0 : Nat) (hp0 : Pre H p0 [iw 1,.string ⟨#[97]⟩,iw 3,iw 0,iw 2,.string ⟨#[98]⟩,iw 5,iw 0]) : Does Tryz.prog 65 [.agg #[sl p0 0 2 2,iw 3],iw 2] H [] (fun v H' kp => v = iw 1) := by
  refine Does.of Tryz.func65 rfl rfl rfl rfl (fun w0 H0 kx => ?_)
  refine sr (g4 3 (fun b1 => [(2,pt b1 0),(3,pt (b1+1) 0)]) (fun b1 => [.blk b1 [sl p0 0 2 2,iw 3] 34,.blk (b1+1) [iw 2] 3]) [.g [.N],.g [.N],gz] rfl (fun b1 => (en rfl ?_)))
  refine sr (g0 3 [(6,sl p0 0 2 2),(7,.func (.func 98) #[] #[pt (b1+1) 0])] [gz,.g [.K 0 0],gz] rfl (Ok.pubP 1 rfl [.blk b1 [sl p0 0 2 2,iw 3] 34] rfl ?_))
  intro H3 le4 pf5
  refine ef 4 rfl (ca (some 8) (x97_90 H3 p0 (b1+1) (Pre.mono le4 hp0) pf5) ?_)
  rintro v6 H7 k9 le8 rfl
  refine g0 5 [(4,iw 1)] [gz] rfl (en rfl (Ok.ret_ (Ok.dropAll ?_)))
  exact Ok.ret1 (v := iw 1) (tr le4 le8) rfl rfl rfl
theorem x34_88 (H : Snap) (p0 : Nat) (hp0 : Pre H p0 [iw 1,.string ⟨#[97]⟩,iw 3,iw 0,iw 2,.string ⟨#[98]⟩,iw 5,iw 0]) : Does Tryz.prog 34 [.agg #[sl p0 0 2 2,iw 3],iw 2] H [] (fun v H' kp => v = .tuple #[.agg #[iw 2,.string ⟨#[98]⟩,iw 5,iw 0],bT]) := by
  refine Does.of Tryz.func34 rfl rfl rfl rfl (fun w0 H0 kx => ?_)
  refine sr (g4 3 (fun b1 => [(1,iw 2),(2,pt b1 0),(4,pt (b1+1) 0)]) (fun b1 => [.blk b1 [sl p0 0 2 2,iw 3] 34,.blk (b1+1) [iw 0,s0,iw 0,iw 0] 41]) [.g [.N],.g [.N],gz] rfl (fun b1 => (en rfl ?_)))
  refine Ok.seq (sr (g0 2 [(2,pt b1 0),(4,pt (b1+1) 0),(7,.agg #[sl p0 0 2 2,iw 3]),(8,iw 2)] [.g [.K 0 0,.K 0 1],gz] rfl (ef 3 rfl (ca (some 9) (x65_89 H p0 hp0) ?_))))
  rintro v3 H4 k6 le5 rfl
  refine g0 4 [(2,pt b1 0),(4,pt (b1+1) 0),(6,iw 1)] [gz] rfl (en rfl (sr (g0 2 [(2,pt b1 0),(4,pt (b1+1) 0),(6,iw 1),(11,bT)] [gz,gz] rfl (en rfl (cT (sr (g3 7 [(4,pt (b1+1) 0),(5,bT)] [.blk b1 [sl p0 0 2 2,iw 3] 34,.blk (b1+1) [iw 2,.string ⟨#[98]⟩,iw 5,iw 0] 41] [gz,.g [.K 0 0],gz,gz,.g [.X (iw 2),.X (.string ⟨#[98]⟩),.X (iw 5),.X (iw 0)],.g [.K 1 0,.K 1 1,.K 1 2,.K 1 3],gz] (ex1 (Pre.cell (Pre.mono le5 hp0) 4 rfl) (ex1 (Pre.cell (Pre.mono le5 hp0) 5 rfl) (ex1 (Pre.cell (Pre.mono le5 hp0) 6 rfl) (ex1 (Pre.cell (Pre.mono le5 hp0) 7 rfl) ex0)))) rfl (en rfl (Ok.ret_ (Ok.thenR ?_))))))))))
  exact Ok.ret2c le5 [.K 1 0,.K 1 1,.K 1 2,.K 1 3] (.agg #[iw 2,.string ⟨#[98]⟩,iw 5,iw 0]) (bT) [b1+1,b1+1,b1+1,b1+1] rfl (by kernel_rfl) rfl rfl
theorem x35_93 (H : Snap) : Does Tryz.prog 35 [.agg #[iw 5,iw 2,iw 0],.agg #[iw 2,.string ⟨#[98]⟩,iw 5,iw 0]] H [] (fun v H' kp => v = bT) := by
  refine Does.of Tryz.func35 rfl rfl rfl rfl (fun w0 H0 kx => ?_)
  refine sr (g4 3 (fun b1 => [(2,pt b1 0),(3,pt (b1+1) 0)]) (fun b1 => [.blk b1 [iw 5,iw 2,iw 0] 45,.blk (b1+1) [iw 2,.string ⟨#[98]⟩,iw 5,iw 0] 41]) [.g [.N],.g [.N],gz] rfl (fun b1 => (en rfl ?_)))
  refine Ok.seq (sr (g0 2 [(2,pt b1 0),(3,pt (b1+1) 0),(6,iw 5)] [gz,.g [.K 0 0]] rfl (en rfl (Ok.blk (sr (g0 2 [(2,pt b1 0),(3,pt (b1+1) 0),(6,iw 5),(7,bF)] [gz,gz] rfl (en rfl (cF (sr (g0 2 [(2,pt b1 0),(3,pt (b1+1) 0),(6,iw 5),(12,bF)] [gz,gz] rfl (en rfl (cF (sr (g0 2 [(2,pt b1 0),(3,pt (b1+1) 0),(6,iw 5),(22,bF)] [gz,gz] rfl (en rfl (cF (Ok.seq (sr (g0 2 [(2,pt b1 0),(3,pt (b1+1) 0),(6,iw 5),(47,bF)] [gz,gz] rfl (en rfl (cF (Ok.reg (g0 2 [(2,pt b1 0),(3,pt (b1+1) 0),(47,bT)] [gz,gz] rfl (en rfl (cT (sr (g0 9 [(4,bT)] [gz,.g [.K 1 2],gz,gz,gz,.g [.K 0 2],gz,gz,gz] rfl (Ok.mask [false,false] [] rfl (en rfl (Ok.ret_ (Ok.blkR (Ok.thenR ?_))))))))))))))))))))))))))))))))
  exact Ok.ret1 (v := bT) (SLe.refl _) rfl rfl rfl
theorem x16_82 (H : Snap) (p0 p1 : Nat) (hp0 : Pre H p0 [iw 1,.string ⟨#[97]⟩,iw 3,iw 0,iw 2,.string ⟨#[98]⟩,iw 5,iw 0]) (hp1 : Pre H p1 [iw 3,iw 1,iw 10,iw 5,iw 2,iw 0]) : Does Tryz.prog 16 [.agg #[sl p0 0 2 2,iw 3],sl p1 0 2 2] H [] (fun v H' kp => v = bT) := by
  refine Does.of Tryz.func16 rfl rfl rfl rfl (fun w0 H0 kx => ?_)
  refine sr (g4 2 (fun b1 => [(1,sl p1 0 2 2),(2,pt b1 0)]) (fun b1 => [.blk b1 [sl p0 0 2 2,iw 3] 34]) [.g [.N],gz] rfl (fun b1 => (en rfl ?_)))
  refine Ok.seq (sr (g0 3 [(1,sl p1 0 2 2),(2,pt b1 0),(9,sl p1 0 2 2),(10,iw 2),(11,iw 0)] [gz,gz,gz] rfl (en rfl (Ok.blk (Ok.loopN 3 (Ok.round (sr (g0 1 [(1,sl p1 0 2 2),(2,pt b1 0),(9,sl p1 0 2 2),(10,iw 2),(11,iw 0),(12,bT)] [gz] rfl (en rfl (Ok.seq (cT (skn (Ok.seq (Ok.blk (sr (g5 4 (fun b4 => [(1,sl p1 0 2 2),(2,pt b1 0),(6,pt b4 0),(9,sl p1 0 2 2),(10,iw 2),(11,iw 0)]) (fun b4 => [.blk b1 [sl p0 0 2 2,iw 3] 34,.blk b4 [iw 3,iw 1,iw 10] 45]) [gz,.g [.X (iw 3),.X (iw 1),.X (iw 10)],.g [.N],.g [.K 1 0,.K 1 1,.K 1 2]] (fun b4 => (ex1 (Pre.cell hp1 0 rfl) (ex1 (Pre.cell hp1 1 rfl) (ex1 (Pre.cell hp1 2 rfl) ex0)))) rfl (fun b4 => (en rfl (sr (g0 3 [(1,sl p1 0 2 2),(2,pt b1 0),(6,pt b4 0),(9,sl p1 0 2 2),(10,iw 2),(11,iw 0),(16,.agg #[sl p0 0 2 2,iw 3]),(18,iw 1)] [.g [.K 0 0,.K 0 1],gz,.g [.K 1 1]] rfl (ef 4 rfl (ca (some 19) (x34_83 H p0 hp0) ?_))))))))))))))))))))))
  rintro v6 H7 k9 le8 rfl
  refine g4 10 (fun b10 => [(1,sl p1 0 2 2),(2,pt b1 0),(6,pt b4 0),(7,pt b10 0),(8,bT),(9,sl p1 0 2 2),(10,iw 2),(11,iw 0)]) (fun b10 => [.blk b1 [sl p0 0 2 2,iw 3] 34,.blk b4 [iw 3,iw 1,iw 10] 45,.blk b10 [iw 1,.string ⟨#[97]⟩,iw 3,iw 0] 41]) [gz,gz,gz,.g [.N],.g [.K 2 0,.K 2 1,.K 2 2,.K 2 3],gz] rfl (fun b10 => (en rfl ?_))
  refine sr (g0 10 [(1,sl p1 0 2 2),(2,pt b1 0),(9,sl p1 0 2 2),(10,iw 2),(11,iw 0),(29,bF),(30,.agg #[iw 3,iw 1,iw 10]),(31,.agg #[iw 1,.string ⟨#[97]⟩,iw 3,iw 0])] [gz,gz,gz,gz,.g [.K 2 2],gz,gz,gz,.g [.K 1 0,.K 1 1,.K 1 2],.g [.K 2 0,.K 2 1,.K 2 2,.K 2 3]] rfl (Ok.mask [true,false,false] [.blk b1 [sl p0 0 2 2,iw 3] 34] rfl ?_))
  refine ef 11 rfl (ca (some 32) (x35_87 H7) ?_)
  rintro v12 H13 k15 le14 rfl
  refine g0 13 [(1,sl p1 0 2 2),(2,pt b1 0),(9,sl p1 0 2 2),(10,iw 2),(11,iw 0),(34,bF)] [gz,gz] rfl (en rfl (cF (Ok.skip_ (Ok.blkN (Ok.thenN (Ok.reg (g0 2 [(1,sl p1 0 2 2),(2,pt b1 0),(9,sl p1 0 2 2),(10,iw 2),(11,iw 1)] [gz,gz] rfl (en rfl (Ok.round (sr (g0 1 [(1,sl p1 0 2 2),(2,pt b1 0),(9,sl p1 0 2 2),(10,iw 2),(11,iw 1),(12,bT)] [gz] rfl (en rfl (Ok.seq (cT (skn (Ok.seq (Ok.blk (sr (g5 4 (fun b19 => [(1,sl p1 0 2 2),(2,pt b1 0),(6,pt b19 0),(9,sl p1 0 2 2),(10,iw 2),(11,iw 1)]) (fun b19 => [.blk b1 [sl p0 0 2 2,iw 3] 34,.blk b19 [iw 5,iw 2,iw 0] 45]) [gz,.g [.X (iw 5),.X (iw 2),.X (iw 0)],.g [.N],.g [.K 1 0,.K 1 1,.K 1 2]] (fun b19 => (ex1 (Pre.cell (Pre.mono (tr le8 le14) hp1) 3 rfl) (ex1 (Pre.cell (Pre.mono (tr le8 le14) hp1) 4 rfl) (ex1 (Pre.cell (Pre.mono (tr le8 le14) hp1) 5 rfl) ex0)))) rfl (fun b19 => (en rfl (sr (g0 3 [(1,sl p1 0 2 2),(2,pt b1 0),(6,pt b19 0),(9,sl p1 0 2 2),(10,iw 2),(11,iw 1),(16,.agg #[sl p0 0 2 2,iw 3]),(18,iw 2)] [.g [.K 0 0,.K 0 1],gz,.g [.K 1 1]] rfl (ef 4 rfl (ca (some 19) (x34_88 H13 p0 (Pre.mono (tr le8 le14) hp0)) ?_)))))))))))))))))))))))))
  rintro v21 H22 k24 le23 rfl
  refine g4 10 (fun b25 => [(1,sl p1 0 2 2),(2,pt b1 0),(6,pt b19 0),(7,pt b25 0),(8,bT),(9,sl p1 0 2 2),(10,iw 2),(11,iw 1)]) (fun b25 => [.blk b1 [sl p0 0 2 2,iw 3] 34,.blk b19 [iw 5,iw 2,iw 0] 45,.blk b25 [iw 2,.string ⟨#[98]⟩,iw 5,iw 0] 41]) [gz,gz,gz,.g [.N],.g [.K 2 0,.K 2 1,.K 2 2,.K 2 3],gz] rfl (fun b25 => (en rfl ?_))
  refine sr (g0 10 [(1,sl p1 0 2 2),(2,pt b1 0),(9,sl p1 0 2 2),(10,iw 2),(11,iw 1),(29,bF),(30,.agg #[iw 5,iw 2,iw 0]),(31,.agg #[iw 2,.string ⟨#[98]⟩,iw 5,iw 0])] [gz,gz,gz,gz,.g [.K 2 2],gz,gz,gz,.g [.K 1 0,.K 1 1,.K 1 2],.g [.K 2 0,.K 2 1,.K 2 2,.K 2 3]] rfl (Ok.mask [true,false,false] [.blk b1 [sl p0 0 2 2,iw 3] 34] rfl ?_))
  refine ef 11 rfl (ca (some 32) (x35_93 H22) ?_)
  rintro v27 H28 k30 le29 rfl
  refine g0 13 [(1,sl p1 0 2 2),(2,pt b1 0),(9,sl p1 0 2 2),(10,iw 2),(11,iw 1),(34,bF)] [gz,gz] rfl (en rfl (cF (Ok.skip_ (Ok.blkN (Ok.thenN (Ok.reg (g0 2 [(1,sl p1 0 2 2),(2,pt b1 0),(9,sl p1 0 2 2),(10,iw 2),(11,iw 2)] [gz,gz] rfl (en rfl (Ok.round (sr (g0 1 [(1,sl p1 0 2 2),(2,pt b1 0),(9,sl p1 0 2 2),(10,iw 2),(11,iw 2),(12,bF)] [gz] rfl (en rfl (Ok.seq (cF (Ok.exit_ (Ok.thenE (Ok.thenE (Ok.blkE (Ok.thenN (sr (g0 4 [(4,bT)] [gz,gz,gz,gz] rfl (en rfl (Ok.ret_ (Ok.dropAll ?_))))))))))))))))))))))))
  exact Ok.ret1 (v := bT) (tr le8 (tr le14 (tr le23 le29))) rfl rfl rfl
theorem x35_95 (H : Snap) : Does Tryz.prog 35 [.agg #[iw 5,iw 1,iw 0],.agg #[iw 1,.string ⟨#[97]⟩,iw 3,iw 0]] H [] (fun v H' kp => v = bF) := by
  refine Does.of Tryz.func35 rfl rfl rfl rfl (fun w0 H0 kx => ?_)
  refine sr (g4 3 (fun b1 => [(2,pt b1 0),(3,pt (b1+1) 0)]) (fun b1 => [.blk b1 [iw 5,iw 1,iw 0] 45,.blk (b1+1) [iw 1,.string ⟨#[97]⟩,iw 3,iw 0] 41]) [.g [.N],.g [.N],gz] rfl (fun b1 => (en rfl ?_)))
  refine Ok.seq (sr (g0 2 [(2,pt b1 0),(3,pt (b1+1) 0),(6,iw 5)] [gz,.g [.K 0 0]] rfl (en rfl (Ok.blk (sr (g0 2 [(2,pt b1 0),(3,pt (b1+1) 0),(6,iw 5),(7,bF)] [gz,gz] rfl (en rfl (cF (sr (g0 2 [(2,pt b1 0),(3,pt (b1+1) 0),(6,iw 5),(12,bF)] [gz,gz] rfl (en rfl (cF (sr (g0 2 [(2,pt b1 0),(3,pt (b1+1) 0),(6,iw 5),(22,bF)] [gz,gz] rfl (en rfl (cF (Ok.seq (sr (g0 2 [(2,pt b1 0),(3,pt (b1+1) 0),(6,iw 5),(47,bF)] [gz,gz] rfl (en rfl (cF (Ok.reg (g0 2 [(2,pt b1 0),(3,pt (b1+1) 0),(47,bT)] [gz,gz] rfl (en rfl (cT (sr (g0 9 [(4,bF)] [gz,.g [.K 1 2],gz,gz,gz,gz,gz,gz,gz] rfl (Ok.mask [false,false] [] rfl (en rfl (Ok.ret_ (Ok.blkR (Ok.thenR ?_))))))))))))))))))))))))))))))))
  exact Ok.ret1 (v := bF) (SLe.refl _) rfl rfl rfl
theorem x16_94 (H : Snap) (p0 p1 : Nat) (hp0 : Pre H p0 [iw 1,.string ⟨#[97]⟩,iw 3,iw 0,iw 2,.string ⟨#[98]⟩,iw 5,iw 0]) (hp1 : Pre H p1 [iw 5,iw 1,iw 0]) : Does Tryz.prog 16 [.agg #[sl p0 0 2 2,iw 3],sl p1 0 1 1] H [] (fun v H' kp => v = bF) := by
  refine Does.of Tryz.func16 rfl rfl rfl rfl (fun w0 H0 kx => ?_)
  refine sr (g4 2 (fun b1 => [(1,sl p1 0 1 1),(2,pt b1 0)]) (fun b1 => [.blk b1 [sl p0 0 2 2,iw 3] 34]) [.g [.N],gz] rfl (fun b1 => (en rfl ?_)))
  refine Ok.seq (sr (g0 3 [(1,sl p1 0 1 1),(2,pt b1 0),(9,sl p1 0 1 1),(10,iw 1),(11,iw 0)] [gz,gz,gz] rfl (en rfl (Ok.blk (Ok.loopN 1 (Ok.round (sr (g0 1 [(1,sl p1 0 1 1),(2,pt b1 0),(9,sl p1 0 1 1),(10,iw 1),(11,iw 0),(12,bT)] [gz] rfl (en rfl (Ok.seq (cT (skn (Ok.seq (Ok.blk (sr (g5 4 (fun b4 => [(1,sl p1 0 1 1),(2,pt b1 0),(6,pt b4 0),(9,sl p1 0 1 1),(10,iw 1),(11,iw 0)]) (fun b4 => [.blk b1 [sl p0 0 2 2,iw 3] 34,.blk b4 [iw 5,iw 1,iw 0] 45]) [gz,.g [.X (iw 5),.X (iw 1),.X (iw 0)],.g [.N],.g [.K 1 0,.K 1 1,.K 1 2]] (fun b4 => (ex1 (Pre.cell hp1 0 rfl) (ex1 (Pre.cell hp1 1 rfl) (ex1 (Pre.cell hp1 2 rfl) ex0)))) rfl (fun b4 => (en rfl (sr (g0 3 [(1,sl p1 0 1 1),(2,pt b1 0),(6,pt b4 0),(9,sl p1 0 1 1),(10,iw 1),(11,iw 0),(16,.agg #[sl p0 0 2 2,iw 3]),(18,iw 1)] [.g [.K 0 0,.K 0 1],gz,.g [.K 1 1]] rfl (ef 4 rfl (ca (some 19) (x34_83 H p0 hp0) ?_))))))))))))))))))))))
  rintro v6 H7 k9 le8 rfl
  refine g4 10 (fun b10 => [(1,sl p1 0 1 1),(2,pt b1 0),(6,pt b4 0),(7,pt b10 0),(8,bT),(9,sl p1 0 1 1),(10,iw 1),(11,iw 0)]) (fun b10 => [.blk b1 [sl p0 0 2 2,iw 3] 34,.blk b4 [iw 5,iw 1,iw 0] 45,.blk b10 [iw 1,.string ⟨#[97]⟩,iw 3,iw 0] 41]) [gz,gz,gz,.g [.N],.g [.K 2 0,.K 2 1,.K 2 2,.K 2 3],gz] rfl (fun b10 => (en rfl ?_))
  refine sr (g0 10 [(1,sl p1 0 1 1),(2,pt b1 0),(9,sl p1 0 1 1),(10,iw 1),(11,iw 0),(29,bF),(30,.agg #[iw 5,iw 1,iw 0]),(31,.agg #[iw 1,.string ⟨#[97]⟩,iw 3,iw 0])] [gz,gz,gz,gz,.g [.K 2 2],gz,gz,gz,.g [.K 1 0,.K 1 1,.K 1 2],.g [.K 2 0,.K 2 1,.K 2 2,.K 2 3]] rfl (Ok.mask [true,false,false] [.blk b1 [sl p0 0 2 2,iw 3] 34] rfl ?_))
  refine ef 11 rfl (ca (some 32) (x35_95 H7) ?_)
  rintro v12 H13 k15 le14 rfl
  refine g0 13 [(1,sl p1 0 1 1),(2,pt b1 0),(9,sl p1 0 1 1),(10,iw 1),(11,iw 0),(34,bT)] [gz,gz] rfl (en rfl (cT (sr (g0 1 [(4,bF)] [gz] rfl (en rfl (Ok.ret_ (Ok.blkR (Ok.thenR (Ok.thenR (Ok.blkR (Ok.thenR (Ok.dropAll ?_))))))))))))
  exact Ok.ret1 (v := bF) (tr le8 le14) rfl rfl rfl
theorem x35_97 (H : Snap) : Does Tryz.prog 35 [.agg #[iw 2,iw 1,iw 0],.agg #[iw 1,.string ⟨#[97]⟩,iw 3,iw 0]] H [] (fun v H' kp => v = bF) := by
  refine Does.of Tryz.func35 rfl rfl rfl rfl (fun w0 H0 kx => ?_)
  refine sr (g4 3 (fun b1 => [(2,pt b1 0),(3,pt (b1+1) 0)]) (fun b1 => [.blk b1 [iw 2,iw 1,iw 0] 45,.blk (b1+1) [iw 1,.string ⟨#[97]⟩,iw 3,iw 0] 41]) [.g [.N],.g [.N],gz] rfl (fun b1 => (en rfl ?_)))
  refine Ok.seq (sr (g0 2 [(2,pt b1 0),(3,pt (b1+1) 0),(6,iw 2)] [gz,.g [.K 0 0]] rfl (en rfl (Ok.blk (sr (g0 2 [(2,pt b1 0),(3,pt (b1+1) 0),(6,iw 2),(7,bF)] [gz,gz] rfl (en rfl (cF (sr (g0 2 [(2,pt b1 0),(3,pt (b1+1) 0),(6,iw 2),(12,bT)] [gz,gz] rfl (en rfl (cT (sr (g0 9 [(4,bF)] [gz,.g [.K 0 2],gz,gz,gz,gz,gz,gz,gz] rfl (Ok.mask [false,false] [] rfl (en rfl (Ok.ret_ (Ok.blkR (Ok.thenR ?_)))))))))))))))))))
  exact Ok.ret1 (v := bF) (SLe.refl _) rfl rfl rfl
theorem x16_96 (H : Snap) (p0 p1 : Nat) (hp0 : Pre H p0 [iw 1,.string ⟨#[97]⟩,iw 3,iw 0,iw 2,.string ⟨#[98]⟩,iw 5,iw 0]) (hp1 : Pre H p1 [iw 2,iw 1,iw 0]) : Does Tryz.prog 16 [.agg #[sl p0 0 2 2,iw 3],sl p1 0 1 1] H [] (fun v H' kp => v = bF) := by
  refine Does.of Tryz.func16 rfl rfl rfl rfl (fun w0 H0 kx => ?_)
  refine sr (g4 2 (fun b1 => [(1,sl p1 0 1 1),(2,pt b1 0)]) (fun b1 => [.blk b1 [sl p0 0 2 2,iw 3] 34]) [.g [.N],gz] rfl (fun b1 => (en rfl ?_)))
  refine Ok.seq (sr (g0 3 [(1,sl p1 0 1 1),(2,pt b1 0),(9,sl p1 0 1 1),(10,iw 1),(11,iw 0)] [gz,gz,gz] rfl (en rfl (Ok.blk (Ok.loopN 1 (Ok.round (sr (g0 1 [(1,sl p1 0 1 1),(2,pt b1 0),(9,sl p1 0 1 1),(10,iw 1),(11,iw 0),(12,bT)] [gz] rfl (en rfl (Ok.seq (cT (skn (Ok.seq (Ok.blk (sr (g5 4 (fun b4 => [(1,sl p1 0 1 1),(2,pt b1 0),(6,pt b4 0),(9,sl p1 0 1 1),(10,iw 1),(11,iw 0)]) (fun b4 => [.blk b1 [sl p0 0 2 2,iw 3] 34,.blk b4 [iw 2,iw 1,iw 0] 45]) [gz,.g [.X (iw 2),.X (iw 1),.X (iw 0)],.g [.N],.g [.K 1 0,.K 1 1,.K 1 2]] (fun b4 => (ex1 (Pre.cell hp1 0 rfl) (ex1 (Pre.cell hp1 1 rfl) (ex1 (Pre.cell hp1 2 rfl) ex0)))) rfl (fun b4 => (en rfl (sr (g0 3 [(1,sl p1 0 1 1),(2,pt b1 0),(6,pt b4 0),(9,sl p1 0 1 1),(10,iw 1),(11,iw 0),(16,.agg #[sl p0 0 2 2,iw 3]),(18,iw 1)] [.g [.K 0 0,.K 0 1],gz,.g [.K 1 1]] rfl (ef 4 rfl (ca (some 19) (x34_83 H p0 hp0) ?_))))))))))))))))))))))
  rintro v6 H7 k9 le8 rfl
  refine g4 10 (fun b10 => [(1,sl p1 0 1 1),(2,pt b1 0),(6,pt b4 0),(7,pt b10 0),(8,bT),(9,sl p1 0 1 1),(10,iw 1),(11,iw 0)]) (fun b10 => [.blk b1 [sl p0 0 2 2,iw 3] 34,.blk b4 [iw 2,iw 1,iw 0] 45,.blk b10 [iw 1,.string ⟨#[97]⟩,iw 3,iw 0] 41]) [gz,gz,gz,.g [.N],.g [.K 2 0,.K 2 1,.K 2 2,.K 2 3],gz] rfl (fun b10 => (en rfl ?_))
  refine sr (g0 10 [(1,sl p1 0 1 1),(2,pt b1 0),(9,sl p1 0 1 1),(10,iw 1),(11,iw 0),(29,bF),(30,.agg #[iw 2,iw 1,iw 0]),(31,.agg #[iw 1,.string ⟨#[97]⟩,iw 3,iw 0])] [gz,gz,gz,gz,.g [.K 2 2],gz,gz,gz,.g [.K 1 0,.K 1 1,.K 1 2],.g [.K 2 0,.K 2 1,.K 2 2,.K 2 3]] rfl (Ok.mask [true,false,false] [.blk b1 [sl p0 0 2 2,iw 3] 34] rfl ?_))
  refine ef 11 rfl (ca (some 32) (x35_97 H7) ?_)
  rintro v12 H13 k15 le14 rfl
  refine g0 13 [(1,sl p1 0 1 1),(2,pt b1 0),(9,sl p1 0 1 1),(10,iw 1),(11,iw 0),(34,bT)] [gz,gz] rfl (en rfl (cT (sr (g0 1 [(4,bF)] [gz] rfl (en rfl (Ok.ret_ (Ok.blkR (Ok.thenR (Ok.thenR (Ok.blkR (Ok.thenR (Ok.dropAll ?_))))))))))))
  exact Ok.ret1 (v := bF) (tr le8 le14) rfl rfl rfl
theorem x98_102 (H : Snap) (p0 : Nat) (hp0 : Pre H p0 [iw 0]) : Does Tryz.prog 98 [.agg #[iw 1,.string ⟨#[97]⟩,iw 3,iw 0],pt p0 0] H [] (fun v H' kp => v = bF) := by
  refine Does.of Tryz.func98 rfl rfl rfl rfl (fun w0 H0 kx => ?_)
  refine sr (g4 2 (fun b1 => [(1,pt p0 0),(2,pt b1 0)]) (fun b1 => [.blk b1 [iw 1,.string ⟨#[97]⟩,iw 3,iw 0] 41]) [.g [.N],gz] rfl (fun b1 => (en rfl ?_)))
  refine sr (g2 5 [(3,bF)] [gz,.g [.K 0 0],.g [.X (iw 0)],gz,gz] (ex1 (Pre.cell hp0 0 rfl) ex0) rfl (en rfl (Ok.ret_ (Ok.dropAll ?_))))
  exact Ok.ret1 (v := bF) (SLe.refl _) rfl rfl rfl
theorem x98_103 (H : Snap) (p0 : Nat) (hp0 : Pre H p0 [iw 0]) : Does Tryz.prog 98 [.agg #[iw 2,.string ⟨#[98]⟩,iw 5,iw 0],pt p0 0] H [] (fun v H' kp => v = bF) := by
  refine Does.of Tryz.func98 rfl rfl rfl rfl (fun w0 H0 kx => ?_)
  refine sr (g4 2 (fun b1 => [(1,pt p0 0),(2,pt b1 0)]) (fun b1 => [.blk b1 [iw 2,.string ⟨#[98]⟩,iw 5,iw 0] 41]) [.g [.N],gz] rfl (fun b1 => (en rfl ?_)))
  refine sr (g2 5 [(3,bF)] [gz,.g [.K 0 0],.g [.X (iw 0)],gz,gz] (ex1 (Pre.cell hp0 0 rfl) ex0) rfl (en rfl (Ok.ret_ (Ok.dropAll ?_))))
  exact Ok.ret1 (v := bF) (SLe.refl _) rfl rfl rfl
theorem x97_101 (H : Snap) (p0 p1 : Nat) (hp0 : Pre H p0 [iw 1,.string ⟨#[97]⟩,iw 3,iw 0,iw 2,.string ⟨#[98]⟩,iw 5,iw 0]) (hp1 : Pre H p1 [iw 0]) : Does Tryz.prog 97 [sl p0 0 2 2,.func (.func 98) #[] #[pt p1 0]] H [] (fun v H' kp => v = iw (-1)) := by
  refine Does.of Tryz.func97 rfl rfl rfl rfl (fun w0 H0 kx => ?_)
  refine sr (g0 1 [(0,sl p0 0 2 2),(1,.func (.func 98) #[] #[pt p1 0])] [gz] rfl (en rfl (Ok.seq (sr (g0 3 [(0,sl p0 0 2 2),(1,.func (.func 98) #[] #[pt p1 0]),(7,iw 2),(8,iw 0)] [gz,gz,gz] rfl (en rfl (Ok.blk (Ok.loopN 3 (Ok.round (sr (g0 1 [(0,sl p0 0 2 2),(1,.func (.func 98) #[] #[pt p1 0]),(7,iw 2),(8,iw 0),(9,bT)] [gz] rfl (en rfl (Ok.seq (cT (skn (Ok.seq (Ok.blk (sr (g0 2 [(0,sl p0 0 2 2),(1,.func (.func 98) #[] #[pt p1 0]),(5,iw 0),(7,iw 2),(8,iw 0)] [gz,gz] rfl (en rfl (sr (g2 5 [(0,sl p0 0 2 2),(1,.func (.func 98) #[] #[pt p1 0]),(5,iw 0),(7,iw 2),(8,iw 0),(11,.func (.func 98) #[] #[pt p1 0]),(15,.agg #[iw 1,.string ⟨#[97]⟩,iw 3,iw 0])] [gz,gz,gz,gz,.g [.X (iw 1),.X (.string ⟨#[97]⟩),.X (iw 3),.X (iw 0)]] (ex1 (Pre.cell hp0 0 rfl) (ex1 (Pre.cell hp0 1 rfl) (ex1 (Pre.cell hp0 2 rfl) (ex1 (Pre.cell hp0 3 rfl) ex0)))) rfl (ef 6 rfl (ca (some 16) (x98_102 H p1 hp1) ?_))))))))))))))))))))))))
  rintro v6 H7 k9 le8 rfl
  refine en rfl (cF (Ok.skip_ (Ok.blkN (Ok.thenN (Ok.reg (g0 2 [(0,sl p0 0 2 2),(1,.func (.func 98) #[] #[pt p1 0]),(7,iw 2),(8,iw 1)] [gz,gz] rfl (en rfl (Ok.round (sr (g0 1 [(0,sl p0 0 2 2),(1,.func (.func 98) #[] #[pt p1 0]),(7,iw 2),(8,iw 1),(9,bT)] [gz] rfl (en rfl (Ok.seq (cT (skn (Ok.seq (Ok.blk (sr (g0 2 [(0,sl p0 0 2 2),(1,.func (.func 98) #[] #[pt p1 0]),(5,iw 1),(7,iw 2),(8,iw 1)] [gz,gz] rfl (en rfl (sr (g2 5 [(0,sl p0 0 2 2),(1,.func (.func 98) #[] #[pt p1 0]),(5,iw 1),(7,iw 2),(8,iw 1),(11,.func (.func 98) #[] #[pt p1 0]),(15,.agg #[iw 2,.string ⟨#[98]⟩,iw 5,iw 0])] [gz,gz,gz,gz,.g [.X (iw 2),.X (.string ⟨#[98]⟩),.X (iw 5),.X (iw 0)]] (ex1 (Pre.cell (Pre.mono le8 hp0) 4 rfl) (ex1 (Pre.cell (Pre.mono le8 hp0) 5 rfl) (ex1 (Pre.cell (Pre.mono le8 hp0) 6 rfl) (ex1 (Pre.cell (Pre.mono le8 hp0) 7 rfl) ex0)))) rfl (ef 6 rfl (ca (some 16) (x98_103 H7 p1 (Pre.mono le8 hp1)) ?_)))))))))))))))))))))))
  rintro v15 H16 k18 le17 rfl
  refine en rfl (cF (Ok.skip_ (Ok.blkN (Ok.thenN (Ok.reg (g0 2 [(0,sl p0 0 2 2),(1,.func (.func 98) #[] #[pt p1 0]),(7,iw 2),(8,iw 2)] [gz,gz] rfl (en rfl (Ok.round (sr (g0 1 [(0,sl p0 0 2 2),(1,.func (.func 98) #[] #[pt p1 0]),(7,iw 2),(8,iw 2),(9,bF)] [gz] rfl (en rfl (Ok.seq (cF (Ok.exit_ (Ok.thenE (Ok.thenE (Ok.blkE (Ok.thenN (sr (g0 1 [(4,iw (-1))] [gz] rfl (en rfl (Ok.ret_ ?_))))))))))))))))))))))
  exact Ok.ret1 (v := iw (-1)) (tr le8 le17) rfl rfl rfl
theorem x65_100 (H : Snap) (p0 : Nat) (hp0 : Pre H p0 [iw 1,.string ⟨#[97]⟩,iw 3,iw 0,iw 2,.string ⟨#[98]⟩,iw 5,iw 0]) : Does Tryz.prog 65 [.agg #[sl p0 0 2 2,iw 3],iw 0] H [] (fun v H' kp => v = iw (-1)) := by
  refine Does.of Tryz.func65 rfl rfl rfl rfl (fun w0 H0 kx => ?_)
  refine sr (g4 3 (fun b1 => [(2,pt b1 0),(3,pt (b1+1) 0)]) (fun b1 => [.blk b1 [sl p0 0 2 2,iw 3] 34,.blk (b1+1) [iw 0] 3]) [.g [.N],.g [.N],gz] rfl (fun b1 => (en rfl ?_)))
  refine sr (g0 3 [(6,sl p0 0 2 2),(7,.func (.func 98) #[] #[pt (b1+1) 0])] [gz,.g [.K 0 0],gz] rfl (Ok.pubP 1 rfl [.blk b1 [sl p0 0 2 2,iw 3] 34] rfl ?_))
  intro H3 le4 pf5
  refine ef 4 rfl (ca (some 8) (x97_101 H3 p0 (b1+1) (Pre.mono le4 hp0) pf5) ?_)
  rintro v6 H7 k9 le8 rfl
  refine g0 5 [(4,iw (-1))] [gz] rfl (en rfl (Ok.ret_ (Ok.dropAll ?_)))
  exact Ok.ret1 (v := iw (-1)) (tr le4 le8) rfl rfl rfl
theorem x34_99 (H : Snap) (p0 : Nat) (hp0 : Pre H p0 [iw 1,.string ⟨#[97]⟩,iw 3,iw 0,iw 2,.string ⟨#[98]⟩,iw 5,iw 0]) : Does Tryz.prog 34 [.agg #[sl p0 0 2 2,iw 3],iw 0] H [] (fun v H' kp => v = .tuple #[.agg #[iw 0,s0,iw 0,iw 0],bF]) := by
  refine Does.of Tryz.func34 rfl rfl rfl rfl (fun w0 H0 kx => ?_)
  refine sr (g4 3 (fun b1 => [(1,iw 0),(2,pt b1 0),(4,pt (b1+1) 0)]) (fun b1 => [.blk b1 [sl p0 0 2 2,iw 3] 34,.blk (b1+1) [iw 0,s0,iw 0,iw 0] 41]) [.g [.N],.g [.N],gz] rfl (fun b1 => (en rfl ?_)))
  refine Ok.seq (sr (g0 2 [(2,pt b1 0),(4,pt (b1+1) 0),(7,.agg #[sl p0 0 2 2,iw 3]),(8,iw 0)] [.g [.K 0 0,.K 0 1],gz] rfl (ef 3 rfl (ca (some 9) (x65_100 H p0 hp0) ?_))))
  rintro v3 H4 k6 le5 rfl
  refine g0 4 [(2,pt b1 0),(4,pt (b1+1) 0),(6,iw (-1))] [gz] rfl (en rfl (sr (g0 2 [(2,pt b1 0),(4,pt (b1+1) 0),(6,iw (-1)),(11,bF)] [gz,gz] rfl (en rfl (cF (skn (sr (g0 3 [(4,pt (b1+1) 0),(5,bF)] [gz,.g [.K 1 0,.K 1 1,.K 1 2,.K 1 3],gz] rfl (en rfl (Ok.ret_ ?_))))))))))
  exact Ok.ret2c le5 [.K 1 0,.K 1 1,.K 1 2,.K 1 3] (.agg #[iw 0,s0,iw 0,iw 0]) (bF) [b1+1,b1+1,b1+1,b1+1] rfl (by kernel_rfl) rfl rfl
theorem x16_98 (H : Snap) (p0 p1 : Nat) (hp0 : Pre H p0 [iw 1,.string ⟨#[97]⟩,iw 3,iw 0,iw 2,.string ⟨#[98]⟩,iw 5,iw 0]) (hp1 : Pre H p1 [iw 0,iw 0,iw 0,iw 0,iw 0,iw 0,iw 0,iw 0,iw 0,iw 0,iw 0,iw 0,iw 0,iw 0,iw 0,iw 0,iw 0,iw 0,iw 0,iw 0,iw 0,iw 0,iw 0,iw 0,iw 0,iw 0,iw 0]) : Does Tryz.prog 16 [.agg #[sl p0 0 2 2,iw 3],sl p1 0 9 9] H [] (fun v H' kp => v = bF) := by
  refine Does.of Tryz.func16 rfl rfl rfl rfl (fun w0 H0 kx => ?_)
  refine sr (g4 2 (fun b1 => [(1,sl p1 0 9 9),(2,pt b1 0)]) (fun b1 => [.blk b1 [sl p0 0 2 2,iw 3] 34]) [.g [.N],gz] rfl (fun b1 => (en rfl ?_)))
  refine Ok.seq (sr (g0 3 [(1,sl p1 0 9 9),(2,pt b1 0),(9,sl p1 0 9 9),(10,iw 9),(11,iw 0)] [gz,gz,gz] rfl (en rfl (Ok.blk (Ok.loopN 1 (Ok.round (sr (g0 1 [(1,sl p1 0 9 9),(2,pt b1 0),(9,sl p1 0 9 9),(10,iw 9),(11,iw 0),(12,bT)] [gz] rfl (en rfl (Ok.seq (cT (skn (Ok.seq (Ok.blk (sr (g5 4 (fun b4 => [(1,sl p1 0 9 9),(2,pt b1 0),(6,pt b4 0),(9,sl p1 0 9 9),(10,iw 9),(11,iw 0)]) (fun b4 => [.blk b1 [sl p0 0 2 2,iw 3] 34,.blk b4 [iw 0,iw 0,iw 0] 45]) [gz,.g [.X (iw 0),.X (iw 0),.X (iw 0)],.g [.N],.g [.K 1 0,.K 1 1,.K 1 2]] (fun b4 => (ex1 (Pre.cell hp1 0 rfl) (ex1 (Pre.cell hp1 1 rfl) (ex1 (Pre.cell hp1 2 rfl) ex0)))) rfl (fun b4 => (en rfl (sr (g0 3 [(1,sl p1 0 9 9),(2,pt b1 0),(6,pt b4 0),(9,sl p1 0 9 9),(10,iw 9),(11,iw 0),(16,.agg #[sl p0 0 2 2,iw 3]),(18,iw 0)] [.g [.K 0 0,.K 0 1],gz,.g [.K 1 1]] rfl (ef 4 rfl (ca (some 19) (x34_99 H p0 hp0) ?_))))))))))))))))))))))
  rintro v6 H7 k9 le8 rfl
  refine g4 10 (fun b10 => [(1,sl p1 0 9 9),(2,pt b1 0),(6,pt b4 0),(7,pt b10 0),(8,bF),(9,sl p1 0 9 9),(10,iw 9),(11,iw 0)]) (fun b10 => [.blk b1 [sl p0 0 2 2,iw 3] 34,.blk b4 [iw 0,iw 0,iw 0] 45,.blk b10 [iw 0,s0,iw 0,iw 0] 41]) [gz,gz,gz,.g [.N],.g [.K 2 0,.K 2 1,.K 2 2,.K 2 3],gz] rfl (fun b10 => (en rfl ?_))
  refine sr (g0 13 [(1,sl p1 0 9 9),(2,pt b1 0),(9,sl p1 0 9 9),(10,iw 9),(11,iw 0),(34,bT)] [gz,gz,gz,gz,gz,gz,gz,gz,gz,gz,gz,gz,gz] rfl (Ok.mask [true,false,false] [.blk b1 [sl p0 0 2 2,iw 3] 34] rfl ?_))
  refine en rfl (cT (sr (g0 1 [(4,bF)] [gz] rfl (en rfl (Ok.ret_ (Ok.blkR (Ok.thenR (Ok.thenR (Ok.blkR (Ok.thenR (Ok.dropAll ?_)))))))))))
  exact Ok.ret1 (v := bF) le8 rfl rfl rfl
theorem x12_104 (H : Snap) : Does Tryz.prog 12 [iw 5] H [] (fun v H' kp => ∃ r0 : Nat,v = .agg #[sl r0 0 1 1] ∧ Pre H' r0 [iw 1,bF,iw 5,s0]) := by
  refine Does.of Tryz.func12 rfl rfl rfl rfl (fun w0 H0 kx => ?_)
  refine sr (g4 1 (fun b1 => [(0,iw 5),(2,pt b1 0)]) (fun b1 => [.blk b1 [n0] 50]) [.g [.N]] rfl (fun b1 => (en rfl ?_)))
  refine sr (g4 6 (fun b2 => [(2,pt b1 0)]) (fun b2 => [.blk b1 [sl b2 0 1 1] 50,.blk b2 [iw 1,bF,iw 5,s0] 59]) [gz,gz,gz,.g [.N],gz,.g [.K 0 0]] rfl (fun b2 => (en rfl ?_)))
  refine Ok.ret_ (Ok.pubP 1 rfl [.blk b1 [sl b2 0 1 1] 50] rfl ?_)
  intro H3 le4 pf5
  exact Ok.ret1c le4 [.K 0 0] (.agg #[sl b2 0 1 1]) [b1] rfl (by kernel_rfl) ⟨b2,rfl,pf5⟩
theorem x12_105 (H : Snap) : Does Tryz.prog 12 [iw 12] H [] (fun v H' kp => ∃ r0 : Nat,v = .agg #[sl r0 0 1 1] ∧ Pre H' r0 [iw 1,bF,iw 12,s0]) := by
  refine Does.of Tryz.func12 rfl rfl rfl rfl (fun w0 H0 kx => ?_)
  refine sr (g4 1 (fun b1 => [(0,iw 12),(2,pt b1 0)]) (fun b1 => [.blk b1 [n0] 50]) [.g [.N]] rfl (fun b1 => (en rfl ?_)))
  refine sr (g4 6 (fun b2 => [(2,pt b1 0)]) (fun b2 => [.blk b1 [sl b2 0 1 1] 50,.blk b2 [iw 1,bF,iw 12,s0] 59]) [gz,gz,gz,.g [.N],gz,.g [.K 0 0]] rfl (fun b2 => (en rfl ?_)))
  refine Ok.ret_ (Ok.pubP 1 rfl [.blk b1 [sl b2 0 1 1] 50] rfl ?_)
  intro H3 le4 pf5
  exact Ok.ret1c le4 [.K 0 0] (.agg #[sl b2 0 1 1]) [b1] rfl (by kernel_rfl) ⟨b2,rfl,pf5⟩
theorem x100_109 (H : Snap) (p0 : Nat) (c0 : Nat) (hp0 : Pre H p0 [.int .u8 1]) : Does Tryz.prog 100 [sl p0 0 1 c0,iw 10] H [] (fun v H' kp => ∃ o0 : Nat,v = sl o0 0 1 11 ∧ kp = [.blk o0 [.int .u8 1,.int .u8 0,.int .u8 0,.int .u8 0,.int .u8 0,.int .u8 0,.int .u8 0,.int .u8 0,.int .u8 0,.int .u8 0,.int .u8 0] 5]) := by
  refine Does.of Tryz.func100 rfl rfl rfl rfl (fun w0 H0 kx => ?_)
  refine sr (g0 1 [(0,sl p0 0 1 c0),(1,iw 10)] [gz] rfl (en rfl (sr (g4 8 (fun b2 => [(0,sl p0 0 1 c0),(5,sl b2 0 1 11)]) (fun b2 => [.blk b2 [.int .u8 0,.int .u8 0,.int .u8 0,.int .u8 0,.int .u8 0,.int .u8 0,.int .u8 0,.int .u8 0,.int .u8 0,.int .u8 0,.int .u8 0] 5]) [gz,gz,gz,gz,gz,gz,.g [.N],gz] rfl (fun b2 => (en rfl (sr (g3 3 [(5,sl b2 0 1 11)] [.blk b2 [.int .u8 1,.int .u8 0,.int .u8 0,.int .u8 0,.int .u8 0,.int .u8 0,.int .u8 0,.int .u8 0,.int .u8 0,.int .u8 0,.int .u8 0] 5] [gz,gz,.g [.X (.int .u8 1),.K 0 0]] (ex1 (Pre.cell hp0 0 rfl) ex0) rfl (en rfl (sr (g0 2 [(4,sl b2 0 1 11)] [gz,gz] rfl (en rfl (Ok.ret_ ?_)))))))))))))
  exact Ok.ret1 (v := sl b2 0 1 11) (SLe.refl _) rfl rfl ⟨b2,rfl,rfl⟩
theorem x99_110 (H : Snap) (p0 : Nat) : Does Tryz.prog 99 [sl p0 0 1 11,.int .u64 20] H [.blk p0 [.int .u8 1,.int .u8 0,.int .u8 0,.int .u8 0,.int .u8 0,.int .u8 0,.int .u8 0,.int .u8 0,.int .u8 0,.int .u8 0,.int .u8 0] 5] (fun v H' kp => v = sl p0 0 2 11 ∧ kp = [.blk p0 [.int .u8 1,.int .u8 20,.int .u8 0,.int .u8 0,.int .u8 0,.int .u8 0,.int .u8 0,.int .u8 0,.int .u8 0,.int .u8 0,.int .u8 0] 5]) := by
  refine Does.of Tryz.func99 rfl rfl rfl rfl (fun w0 H0 kx => ?_)
  refine sr (g0 1 [(0,sl p0 0 1 11),(1,.int .u64 20)] [gz] rfl (en rfl (Ok.seq (Ok.blk (Ok.loopN 1 (Ok.round (Ok.seq (sr (g0 2 [(0,sl p0 0 1 11),(1,.int .u64 20),(6,bF)] [gz,gz] rfl (en rfl (cF (Ok.exit_ (Ok.thenE (Ok.thenE (Ok.blkE (Ok.thenN (sr (g4 6 (fun b3 => [(4,sl p0 0 2 11)]) (fun b3 => [.blk p0 [.int .u8 1,.int .u8 20,.int .u8 0,.int .u8 0,.int .u8 0,.int .u8 0,.int .u8 0,.int .u8 0,.int .u8 0,.int .u8 0,.int .u8 0] 5,.blk b3 [.int .u8 20] 5]) [gz,gz,gz,.g [.N],.g [.K 1 0,.K 0 1],gz] rfl (fun b3 => (en rfl (Ok.ret_ (Ok.drop 1 rfl [.blk p0 [.int .u8 1,.int .u8 20,.int .u8 0,.int .u8 0,.int .u8 0,.int .u8 0,.int .u8 0,.int .u8 0,.int .u8 0,.int .u8 0,.int .u8 0] 5] rfl ?_))))))))))))))))))))))
  exact Ok.ret1 (v := sl p0 0 2 11) (SLe.refl _) rfl rfl ⟨rfl,rfl⟩
theorem x67_108 (H : Snap) (p0 : Nat) (c0 : Nat) (hp0 : Pre H p0 [.int .u8 1]) : Does Tryz.prog 67 [sl p0 0 1 c0,.int .u64 20] H [] (fun v H' kp => ∃ o0 : Nat,v = sl o0 0 2 11 ∧ kp = [.blk o0 [.int .u8 1,.int .u8 20,.int .u8 0,.int .u8 0,.int .u8 0,.int .u8 0,.int .u8 0,.int .u8 0,.int .u8 0,.int .u8 0,.int .u8 0] 5]) := by
  refine Does.of Tryz.func67 rfl rfl rfl rfl (fun w0 H0 kx => ?_)
  refine sr (g0 1 [(0,sl p0 0 1 c0),(1,.int .u64 20)] [gz] rfl (en rfl (sr (g0 1 [(1,.int .u64 20),(5,sl p0 0 1 c0)] [gz] rfl (ef 2 rfl (cb (some 6) (x100_109 H p0 c0 hp0) ?_))))))
  rintro v3 H4 k6 le5 ⟨q7,rfl,rfl⟩
  refine g0 3 [(6,sl q7 0 1 11),(7,.int .u64 20)] [gz] rfl (ef 4 rfl (Eff.call (d := some 8) (kp := [.blk q7 [.int .u8 1,.int .u8 0,.int .u8 0,.int .u8 0,.int .u8 0,.int .u8 0,.int .u8 0,.int .u8 0,.int .u8 0,.int .u8 0,.int .u8 0] 5]) (kr := []) (by kernel_rfl) (perm1 0 rfl rfl) (x99_110 H4 q7) ?_))
  rintro v9 H10 k12 le11 ⟨rfl,rfl⟩
  refine g0 5 [(4,sl q7 0 2 11)] [gz] rfl (en rfl (Ok.ret_ ?_))
  exact Ok.ret1 (v := sl q7 0 2 11) (tr le5 le11) rfl rfl ⟨q7,rfl,rfl⟩
theorem x37_107 (H : Snap) (p0 : Nat) (c0 : Nat) (hp0 : Pre H p0 [.int .u8 1]) : Does Tryz.prog 37 [sl p0 0 1 c0,iw 10] H [] (fun v H' kp => ∃ o0 : Nat,v = sl o0 0 2 11 ∧ kp = [.blk o0 [.int .u8 1,.int .u8 20,.int .u8 0,.int .u8 0,.int .u8 0,.int .u8 0,.int .u8 0,.int .u8 0,.int .u8 0,.int .u8 0,.int .u8 0] 5]) := by
  refine Does.of Tryz.func37 rfl rfl rfl rfl (fun w0 H0 kx => ?_)
  refine sr (g0 1 [(0,sl p0 0 1 c0),(1,iw 10)] [gz] rfl (en rfl (sr (g0 8 [(5,sl p0 0 1 c0),(12,.int .u64 20)] [gz,gz,gz,gz,gz,gz,gz,gz] rfl (ef 9 rfl (cb (some 13) (x67_108 H p0 c0 hp0) ?_))))))
  rintro v3 H4 k6 le5 ⟨q7,rfl,rfl⟩
  refine g0 10 [(4,sl q7 0 2 11)] [gz] rfl (en rfl (Ok.ret_ ?_))
  exact Ok.ret1 (v := sl q7 0 2 11) le5 rfl rfl ⟨q7,rfl,rfl⟩
theorem x100_113 (H : Snap) (p0 : Nat) (hp0 : Pre H p0 [.int .u8 1,.int .u8 20,.int .u8 0,.int .u8 0,.int .u8 0,.int .u8 0,.int .u8 0,.int .u8 0,.int .u8 0,.int .u8 0,.int .u8 0]) : Does Tryz.prog 100 [sl p0 0 2 11,iw 10] H [] (fun v H' kp => ∃ o0 : Nat,v = sl o0 0 2 12 ∧ kp = [.blk o0 [.int .u8 1,.int .u8 20,.int .u8 0,.int .u8 0,.int .u8 0,.int .u8 0,.int .u8 0,.int .u8 0,.int .u8 0,.int .u8 0,.int .u8 0,.int .u8 0] 5]) := by
  refine Does.of Tryz.func100 rfl rfl rfl rfl (fun w0 H0 kx => ?_)
  refine sr (g0 1 [(0,sl p0 0 2 11),(1,iw 10)] [gz] rfl (en rfl (sr (g4 8 (fun b2 => [(0,sl p0 0 2 11),(5,sl b2 0 2 12)]) (fun b2 => [.blk b2 [.int .u8 0,.int .u8 0,.int .u8 0,.int .u8 0,.int .u8 0,.int .u8 0,.int .u8 0,.int .u8 0,.int .u8 0,.int .u8 0,.int .u8 0,.int .u8 0] 5]) [gz,gz,gz,gz,gz,gz,.g [.N],gz] rfl (fun b2 => (en rfl (sr (g3 3 [(5,sl b2 0 2 12)] [.blk b2 [.int .u8 1,.int .u8 20,.int .u8 0,.int .u8 0,.int .u8 0,.int .u8 0,.int .u8 0,.int .u8 0,.int .u8 0,.int .u8 0,.int .u8 0,.int .u8 0] 5] [gz,gz,.g [.X (.int .u8 1),.X (.int .u8 20),.K 0 0,.K 0 1]] (ex1 (Pre.cell hp0 0 rfl) (ex1 (Pre.cell hp0 1 rfl) ex0)) rfl (en rfl (sr (g0 2 [(4,sl b2 0 2 12)] [gz,gz] rfl (en rfl (Ok.ret_ ?_)))))))))))))
  exact Ok.ret1 (v := sl b2 0 2 12) (SLe.refl _) rfl rfl ⟨b2,rfl,rfl⟩
theorem x99_114 (H : Snap) (p0 : Nat) : Does Tryz.prog 99 [sl p0 0 2 12,.int .u64 0] H [.blk p0 [.int .u8 1,.int .u8 20,.int .u8 0,.int .u8 0,.int .u8 0,.int .u8 0,.int .u8 0,.int .u8 0,.int .u8 0,.int .u8 0,.int .u8 0,.int .u8 0] 5] (fun v H' kp => v = sl p0 0 3 12 ∧ kp = [.blk p0 [.int .u8 1,.int .u8 20,.int .u8 0,.int .u8 0,.int .u8 0,.int .u8 0,.int .u8 0,.int .u8 0,.int .u8 0,.int .u8 0,.int .u8 0,.int .u8 0] 5]) := by
  refine Does.of Tryz.func99 rfl rfl rfl rfl (fun w0 H0 kx => ?_)
  refine sr (g0 1 [(0,sl p0 0 2 12),(1,.int .u64 0)] [gz] rfl (en rfl (Ok.seq (Ok.blk (Ok.loopN 1 (Ok.round (Ok.seq (sr (g0 2 [(0,sl p0 0 2 12),(1,.int .u64 0),(6,bF)] [gz,gz] rfl (en rfl (cF (Ok.exit_ (Ok.thenE (Ok.thenE (Ok.blkE (Ok.thenN (sr (g4 6 (fun b3 => [(4,sl p0 0 3 12)]) (fun b3 => [.blk p0 [.int .u8 1,.int .u8 20,.int .u8 0,.int .u8 0,.int .u8 0,.int .u8 0,.int .u8 0,.int .u8 0,.int .u8 0,.int .u8 0,.int .u8 0,.int .u8 0] 5,.blk b3 [.int .u8 0] 5]) [gz,gz,gz,.g [.N],.g [.K 1 0,.K 0 2],gz] rfl (fun b3 => (en rfl (Ok.ret_ (Ok.drop 1 rfl [.blk p0 [.int .u8 1,.int .u8 20,.int .u8 0,.int .u8 0,.int .u8 0,.int .u8 0,.int .u8 0,.int .u8 0,.int .u8 0,.int .u8 0,.int .u8 0,.int .u8 0] 5] rfl ?_))))))))))))))))))))))
  exact Ok.ret1 (v := sl p0 0 3 12) (SLe.refl _) rfl rfl ⟨rfl,rfl⟩
theorem x66_112 (H : Snap) (p0 : Nat) (hp0 : Pre H p0 [.int .u8 1,.int .u8 20,.int .u8 0,.int .u8 0,.int .u8 0,.int .u8 0,.int .u8 0,.int .u8 0,.int .u8 0,.int .u8 0,.int .u8 0]) : Does Tryz.prog 66 [sl p0 0 2 11,s0] H [] (fun v H' kp => ∃ o0 : Nat,v = sl o0 0 3 12 ∧ kp = [.blk o0 [.int .u8 1,.int .u8 20,.int .u8 0,.int .u8 0,.int .u8 0,.int .u8 0,.int .u8 0,.int .u8 0,.int .u8 0,.int .u8 0,.int .u8 0,.int .u8 0] 5]) := by
  refine Does.of Tryz.func66 rfl rfl rfl rfl (fun w0 H0 kx => ?_)
  refine sr (g0 1 [(0,sl p0 0 2 11),(1,s0)] [gz] rfl (en rfl (sr (g0 4 [(1,s0),(6,sl p0 0 2 11),(9,iw 10)] [gz,gz,gz,gz] rfl (ef 5 rfl (cb (some 10) (x100_113 H p0 hp0) ?_))))))
  rintro v3 H4 k6 le5 ⟨q7,rfl,rfl⟩
  refine g0 8 [(1,s0),(10,sl q7 0 2 12),(13,.int .u64 0)] [gz,gz,gz] rfl (ef 9 rfl (Eff.call (d := some 14) (kp := [.blk q7 [.int .u8 1,.int .u8 20,.int .u8 0,.int .u8 0,.int .u8 0,.int .u8 0,.int .u8 0,.int .u8 0,.int .u8 0,.int .u8 0,.int .u8 0,.int .u8 0] 5]) (kr := []) (by kernel_rfl) (perm1 0 rfl rfl) (x99_114 H4 q7) ?_))
  rintro v9 H10 k12 le11 ⟨rfl,rfl⟩
  refine g0 10 [(1,s0),(5,sl q7 0 3 12)] [gz] rfl (en rfl (sr (g0 4 [(4,sl q7 0 3 12)] [gz,gz,gz,gz] rfl (en rfl (Ok.ret_ ?_)))))
  exact Ok.ret1 (v := sl q7 0 3 12) (tr le5 le11) rfl rfl ⟨q7,rfl,rfl⟩
theorem x36_111 (H : Snap) (p0 : Nat) (hp0 : Pre H p0 [.int .u8 1,.int .u8 20,.int .u8 0,.int .u8 0,.int .u8 0,.int .u8 0,.int .u8 0,.int .u8 0,.int .u8 0,.int .u8 0,.int .u8 0]) : Does Tryz.prog 36 [sl p0 0 2 11,s0] H [] (fun v H' kp => ∃ o0 : Nat,v = sl o0 0 3 12 ∧ kp = [.blk o0 [.int .u8 1,.int .u8 20,.int .u8 0,.int .u8 0,.int .u8 0,.int .u8 0,.int .u8 0,.int .u8 0,.int .u8 0,.int .u8 0,.int .u8 0,.int .u8 0] 5]) := by
  refine Does.of Tryz.func36 rfl rfl rfl rfl (fun w0 H0 kx => ?_)
  refine sr (g0 1 [(0,sl p0 0 2 11),(1,s0)] [gz] rfl (en rfl (sr (g0 2 [(5,sl p0 0 2 11),(6,s0)] [gz,gz] rfl (ef 3 rfl (cb (some 7) (x66_112 H p0 hp0) ?_))))))
  rintro v3 H4 k6 le5 ⟨q7,rfl,rfl⟩
  refine g0 4 [(4,sl q7 0 3 12)] [gz] rfl (en rfl (Ok.ret_ ?_))
  exact Ok.ret1 (v := sl q7 0 3 12) le5 rfl rfl ⟨q7,rfl,rfl⟩
theorem x64_116 (H : Snap) (p0 : Nat) (hp0 : Pre H p0 [iw 1,bF,iw 5,s0]) : Does Tryz.prog 64 [.agg #[sl p0 0 1 1],iw 1] H [] (fun v H' kp => v = .agg #[bF,iw 5,s0]) := by
  refine Does.of Tryz.func64 rfl rfl rfl rfl (fun w0 H0 kx => ?_)
  refine sr (g4 2 (fun b1 => [(1,iw 1),(2,pt b1 0),(4,pt (b1+1) 0)]) (fun b1 => [.blk b1 [sl p0 0 1 1] 50,.blk (b1+1) [bF,iw 0,s0] 54]) [.g [.N],.g [.N]] rfl (fun b1 => (en rfl ?_)))
  refine Ok.seq (sr (g0 4 [(1,iw 1),(4,pt (b1+1) 0),(8,sl p0 0 1 1),(9,iw 1),(10,iw 0)] [gz,.g [.K 0 0],gz,gz] rfl (en rfl (Ok.blk (Ok.loopN 1 (Ok.round (sr (g0 1 [(1,iw 1),(4,pt (b1+1) 0),(8,sl p0 0 1 1),(9,iw 1),(10,iw 0),(11,bT)] [gz] rfl (en rfl (Ok.seq (cT (skn (Ok.seq (Ok.blk (sr (g5 4 (fun b4 => [(1,iw 1),(4,pt (b1+1) 0),(6,pt b4 0),(8,sl p0 0 1 1),(9,iw 1),(10,iw 0)]) (fun b4 => [.blk b1 [sl p0 0 1 1] 50,.blk (b1+1) [bF,iw 0,s0] 54,.blk b4 [iw 1,bF,iw 5,s0] 59]) [gz,.g [.X (iw 1),.X (bF),.X (iw 5),.X (s0)],.g [.N],.g [.K 2 0,.K 2 1,.K 2 2,.K 2 3]] (fun b4 => (ex1 (Pre.cell hp0 0 rfl) (ex1 (Pre.cell hp0 1 rfl) (ex1 (Pre.cell hp0 2 rfl) (ex1 (Pre.cell hp0 3 rfl) ex0))))) rfl (fun b4 => (en rfl (sr (g0 4 [(1,iw 1),(4,pt (b1+1) 0),(6,pt b4 0),(8,sl p0 0 1 1),(9,iw 1),(10,iw 0),(17,bT)] [gz,.g [.K 2 0],gz,gz] rfl (en rfl (cT (sr (g1 3 [(4,pt (b1+1) 0)] [.blk b1 [sl p0 0 1 1] 50,.blk (b1+1) [bF,iw 5,s0] 54,.blk b4 [iw 1,bF,iw 5,s0] 59] [gz,.g [.K 2 1,.K 2 2,.K 2 3],.g [.K 1 0,.K 1 1,.K 1 2]] rfl (Ok.mask [false,true,false] [.blk (b1+1) [bF,iw 5,s0] 54] rfl (en rfl (Ok.ret_ (Ok.blkR (Ok.thenR (Ok.thenR (Ok.blkR (Ok.thenR ?_))))))))))))))))))))))))))))))))
  exact Ok.ret1c (SLe.refl _) [.K 0 0,.K 0 1,.K 0 2] (.agg #[bF,iw 5,s0]) [b1+1,b1+1,b1+1] rfl (by kernel_rfl) rfl
end Go.Proofs.YtdifenljfklolaaGreatDoor
