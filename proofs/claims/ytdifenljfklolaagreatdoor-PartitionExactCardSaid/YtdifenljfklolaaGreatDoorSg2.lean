/- Contracts of functions at values that are not known: printed by a program of this claim's author. -/
import Derived.Test.YtdifenljfklolaaGreatDoorSg1
set_option linter.unusedVariables false
set_option linter.unusedSimpArgs false
set_option maxHeartbeats 4000000
set_option maxRecDepth 100000
namespace Go.Proofs.YtdifenljfklolaaGreatDoor
open Go Go.RowKit Sx
theorem c25 : ∀ (d : Nat) (H : Snap) (Aa_0 : Option Addr) (na_0 : Nat) (ca_0 : Nat) (zb_0 : Int) (zb_1 : Int) (zb_2 : Int) (zb_3 : Int) (Ab_4 : Option Addr) (nb_4 : Nat) (cb_4 : Nat) (gb_4 : List (List Value)) (sb_5 : ByteArray) (Ab_6 : Option Addr) (nb_6 : Nat) (cb_6 : Nat) (kb_6 : PTs) (zc_0 : Int) (ha_0 : WfS H el41 Aa_0 na_0) (hb_4 : LstIs H elV Ab_4 nb_4 gb_4) (tb_5 : sb_5.size < 9223372036854775808) (hb_6 : KidsIs H Ab_6 nb_6 kb_6) (hq0 : na_0 ≤ 1000),kb_6.depth ≤ d → Does Tryz.prog 25 [.slice Aa_0 na_0 ca_0,.agg #[iw zb_0,iw zb_1,iw zb_2,iw zb_3,.slice Ab_4 nb_4 cb_4,.string sb_5,.slice Ab_6 nb_6 cb_6],iw zc_0] H [] (fun v H' kp => ∃ (zra_0 : Int) (zra_1 : Int) (zra_2 : Int) (zra_3 : Int) (Ara_4 : Option Addr) (nra_4 : Nat) (cra_4 : Nat) (gra_4 : List (List Value)) (sra_5 : ByteArray) (Ara_6 : Option Addr) (nra_6 : Nat) (cra_6 : Nat) (kra_6 : PTs),v = .agg #[iw zra_0,iw zra_1,iw zra_2,iw zra_3,.slice Ara_4 nra_4 cra_4,.string sra_5,.slice Ara_6 nra_6 cra_6] ∧ LstIs H' elV Ara_4 nra_4 gra_4 ∧ sra_5.size < 9223372036854775808 ∧ KidsIs H' Ara_6 nra_6 kra_6 ∧ (∀ f,AllId H Aa_0 na_0 f → (PT.node zra_0 zra_1 zra_2 zra_3 gra_4 sra_5 kra_6).good f) ∧ (PT.node zra_0 zra_1 zra_2 zra_3 gra_4 sra_5 kra_6).bnd) := by
  intro d
  induction d using Nat.strongRecOn
  rename_i d ih
  intro H Aa_0 na_0 ca_0 zb_0 zb_1 zb_2 zb_3 Ab_4 nb_4 cb_4 gb_4 sb_5 Ab_6 nb_6 cb_6 kb_6 zc_0 ha_0 hb_4 tb_5 hb_6 hq0 hd
  have lha_0 := ha_0.1
  have lhb_4 := hb_4.2.1
  have mhb_4 := hb_4.1
  have lhb_6 := hb_6.2.1
  have mhb_6 := hb_6.1
  refine Does.of Tryz.func25 rfl rfl rfl rfl (fun w0 H0 kx => ?_)
  refine sr (g4 2 (fun b1 => [(0,.slice Aa_0 na_0 ca_0),(2,iw zc_0),(4,pt b1 0),(6,pt (b1+1) 0)]) (fun b1 => [.blk b1 [iw zb_0,iw zb_1,iw zb_2,iw zb_3,.slice Ab_4 nb_4 cb_4,.string sb_5,.slice Ab_6 nb_6 cb_6] 27,.blk (b1+1) [iw 0,iw 0,iw 0,iw 0,n0,s0,n0] 27]) [.g [.N],.g [.N]] rfl (fun b1 => (en rfl ?_)))
  refine sr (g0 2 [(0,.slice Aa_0 na_0 ca_0),(2,iw zc_0),(4,pt b1 0),(6,pt (b1+1) 0),(12,iw zb_0)] [gz,.g [.K 0 0]] rfl (ef 3 rfl (ca (some 13) (c50 H zb_0 8 (by omega)) ?_)))
  rintro v3 H4 k6 le5 ⟨zra_0y7,rfl,py7_0⟩
  refine g0 4 [(0,.slice Aa_0 na_0 ca_0),(2,iw zc_0),(4,pt b1 0),(6,pt (b1+1) 0),(7,iw zra_0y7)] [gz] rfl (en rfl (Ok.seq (sr (g0 3 [(0,.slice Aa_0 na_0 ca_0),(2,iw zc_0),(4,pt b1 0),(6,pt (b1+1) 0),(7,iw zra_0y7),(16,.bool (zra_0y7 == 0))] [gz,gz,gz] rfl (cs (zra_0y7 == 0) [16] (fun h10 => ?_) (fun h10 => ?_))))))
  · have h10 := eq_of_beq h10
    refine g0 19 [(0,.slice Aa_0 na_0 ca_0),(2,iw zc_0),(4,pt b1 0),(6,pt (b1+1) 0),(7,iw zra_0y7),(32,bT)] [gz,gz,gz,gz,gz,gz,gz,gz,gz,gz,gz,gz,gz,gz,gz,gz] rfl (en rfl (cT (sr (g0 2 [(6,pt (b1+1) 0)] [gz,.g [.K 1 0,.K 1 1,.K 1 2,.K 1 3,.K 1 4,.K 1 5,.K 1 6]] rfl (en rfl (Ok.ret_ (Ok.thenR ?_)))))))
    exact Ok.ret1c le5 [.K 1 0,.K 1 1,.K 1 2,.K 1 3,.K 1 4,.K 1 5,.K 1 6] (.agg #[iw 0,iw 0,iw 0,iw 0,n0,s0,n0]) [b1+1,b1+1,b1+1,b1+1,b1+1,b1+1,b1+1] rfl (by kernel_rfl) ⟨0,0,0,0,none,0,0,[],(⟨#[]⟩ : ByteArray),none,0,0,PTs.nil,rfl,(LstIs.nil _ _ _),(by decide),(KidsIs.nil _),(fun f hf => good_zero _ _ _ _ _ _ _),bnd_leaf⟩
  have h10 := ne_of_beq_false h10
  refine g0 6 [(0,.slice Aa_0 na_0 ca_0),(2,iw zc_0),(4,pt b1 0),(6,pt (b1+1) 0),(7,iw zra_0y7),(16,bF),(19,.bool (decide (zc_0 < 2)))] [gz,gz,gz] rfl (cs (decide (zc_0 < 2)) [19] (fun h14 => ?_) (fun h14 => ?_))
  · have h14 := of_decide_eq_true h14
    refine g0 11 [(0,.slice Aa_0 na_0 ca_0),(2,iw zc_0),(4,pt b1 0),(6,pt (b1+1) 0),(7,iw zra_0y7),(24,.bool (decide (zra_0y7 ≥ 5)))] [gz,gz,gz,gz,gz] rfl (cs (decide (zra_0y7 ≥ 5)) [24] (fun h16 => ?_) (fun h16 => ?_))
    · have h16 := of_decide_eq_true h16
      refine g0 19 [(0,.slice Aa_0 na_0 ca_0),(2,iw zc_0),(4,pt b1 0),(6,pt (b1+1) 0),(7,iw zra_0y7),(32,bT)] [gz,gz,gz,gz,gz,gz,gz,gz] rfl (en rfl (cT (sr (g0 2 [(6,pt (b1+1) 0)] [gz,.g [.K 1 0,.K 1 1,.K 1 2,.K 1 3,.K 1 4,.K 1 5,.K 1 6]] rfl (en rfl (Ok.ret_ (Ok.thenR ?_)))))))
      exact Ok.ret1c le5 [.K 1 0,.K 1 1,.K 1 2,.K 1 3,.K 1 4,.K 1 5,.K 1 6] (.agg #[iw 0,iw 0,iw 0,iw 0,n0,s0,n0]) [b1+1,b1+1,b1+1,b1+1,b1+1,b1+1,b1+1] rfl (by kernel_rfl) ⟨0,0,0,0,none,0,0,[],(⟨#[]⟩ : ByteArray),none,0,0,PTs.nil,rfl,(LstIs.nil _ _ _),(by decide),(KidsIs.nil _),(fun f hf => good_zero _ _ _ _ _ _ _),bnd_leaf⟩
    have h16 := of_decide_eq_false h16
    refine g0 15 [(0,.slice Aa_0 na_0 ca_0),(2,iw zc_0),(4,pt b1 0),(6,pt (b1+1) 0),(7,iw zra_0y7),(24,bF),(28,.bool (((na_0 : Nat) : Int) == 0))] [gz,gz,gz,gz] rfl (cs (((na_0 : Nat) : Int) == 0) [28] (fun h20 => ?_) (fun h20 => ?_))
    · have h20 := eq_of_beq h20
      refine g0 19 [(0,.slice Aa_0 na_0 ca_0),(2,iw zc_0),(4,pt b1 0),(6,pt (b1+1) 0),(7,iw zra_0y7),(32,.bool (decide (zra_0y7 < 5)))] [gz,gz,gz,gz] rfl (en rfl (cd (decide (zra_0y7 < 5)) (fun h22 => ?_) (fun h22 => ?_)))
      · have h22 := of_decide_eq_true h22
        refine sr (g0 2 [(6,pt (b1+1) 0)] [gz,.g [.K 1 0,.K 1 1,.K 1 2,.K 1 3,.K 1 4,.K 1 5,.K 1 6]] rfl (en rfl (Ok.ret_ (Ok.thenR ?_))))
        exact Ok.ret1c le5 [.K 1 0,.K 1 1,.K 1 2,.K 1 3,.K 1 4,.K 1 5,.K 1 6] (.agg #[iw 0,iw 0,iw 0,iw 0,n0,s0,n0]) [b1+1,b1+1,b1+1,b1+1,b1+1,b1+1,b1+1] rfl (by kernel_rfl) ⟨0,0,0,0,none,0,0,[],(⟨#[]⟩ : ByteArray),none,0,0,PTs.nil,rfl,(LstIs.nil _ _ _),(by decide),(KidsIs.nil _),(fun f hf => good_zero _ _ _ _ _ _ _),bnd_leaf⟩
      have h22 := of_decide_eq_false h22
      refine skn (Ok.seq (sr (g0 2 [(0,.slice Aa_0 na_0 ca_0),(2,iw zc_0),(4,pt b1 0),(6,pt (b1+1) 0),(7,iw zra_0y7),(35,.bool (decide (zra_0y7 < 5)))] [gz,gz] rfl (en rfl (cd (decide (zra_0y7 < 5)) (fun h25 => ?_) (fun h25 => ?_))))))
      · have h25 := of_decide_eq_true h25
        exact absurd h25 h22
      have h25 := of_decide_eq_false h25
      refine skn (sr (g4 4 (fun b26 => [(0,.slice Aa_0 na_0 ca_0),(2,iw zc_0),(4,pt b1 0),(6,pt (b1+1) 0),(7,iw zra_0y7),(9,pt b26 0)]) (fun b26 => [.blk b1 [iw zb_0,iw zb_1,iw zb_2,iw zb_3,.slice Ab_4 nb_4 cb_4,.string sb_5,.slice Ab_6 nb_6 cb_6] 27,.blk (b1+1) [iw 0,iw 0,iw 0,iw 0,n0,s0,n0] 27,.blk b26 [iw zra_0y7,iw 0,iw 0,iw 0,n0,s0,n0] 27]) [gz,gz,.g [.N],.g [.K 2 0,.K 2 1,.K 2 2,.K 2 3,.K 2 4,.K 2 5,.K 2 6]] rfl (fun b26 => (en rfl ?_))))
      refine Ok.seq (sr (g0 1 [(0,.slice Aa_0 na_0 ca_0),(2,iw zc_0),(4,pt b1 0),(6,pt (b1+1) 0),(7,iw zra_0y7),(9,pt b26 0),(10,iw 0)] [gz] rfl (en rfl (Ok.blk (Ok.nilRow 7 27 (Ok.restr [0,2,4,6,7,9,10] [(0,.slice Aa_0 na_0 ca_0),(2,iw zc_0),(4,pt b1 0),(6,pt (b1+1) 0),(7,iw zra_0y7),(9,pt b26 0),(10,iw 0)] rfl (Ok.loop (fun H' fr kb m => ∃ (zL28_10 : Int) (AL28r3 : Option Addr) (nL28r3 : Nat) (cL28r3 : Nat) (xL28r3 : List Value) (KL28r3 : PTs) (RL28 : PTs),fr = [(0,.slice Aa_0 na_0 ca_0),(2,iw zc_0),(4,pt b1 0),(6,pt (b1+1) 0),(7,iw zra_0y7),(9,pt b26 0),(10,iw zL28_10)] ∧ kb = [.blk b1 [iw zb_0,iw zb_1,iw zb_2,iw zb_3,.slice Ab_4 nb_4 cb_4,.string sb_5,.slice Ab_6 nb_6 cb_6] 27,.blk (b1+1) [iw 0,iw 0,iw 0,iw 0,n0,s0,n0] 27,.blk b26 [iw zra_0y7,iw 0,iw 0,iw 0,n0,s0,.slice AL28r3 nL28r3 cL28r3] 27,.row (.slice AL28r3 nL28r3 cL28r3) nL28r3 7 27 xL28r3] ∧ m = ((((nb_6 : Nat) : Int)) - zL28_10).toNat ∧ SLe H4 H' ∧ 0 ≤ zL28_10 ∧ zL28_10 ≤ ((nb_6 : Nat) : Int) ∧ (zra_0y7 ≠ 7 ∨ zL28_10 ≤ 1) ∧ (((nL28r3 : Nat) : Int) = zL28_10 ∧ zL28_10 ≤ 16) ∧ zL28_10 + ((RL28.len : Nat) : Int) = ((nb_6 : Nat) : Int) ∧ RL28.depth ≤ kb_6.depth ∧ RowPs H' KL28r3 xL28r3 ∧ nL28r3 = KL28r3.len ∧ KidsAt H' RL28 Ab_6 (zL28_10).toNat ∧ (∀ f,AllId H Aa_0 na_0 f → KL28r3.goods f) ∧ KL28r3.bnds) _ ⟨0,none,0,0,[],PTs.nil,kb_6,rfl,rfl,rfl,SLe.refl _,by decide,by omega,by omega,by omega,by omega,by omega,RowPs.nil,rfl,(KidsIs.mono le5 hb_6).2.2,(fun f _ => goods_nil f),bnds_nil⟩ ?_)))))))
      rintro H29 _ _ mL28 ⟨zL28_10,AL28r3,nL28r3,cL28r3,xL28r3,KL28r3,RL28,rfl,rfl,hmL28,le30,fL28_0,fL28_1,fL28_2,fL28_3,fL28_4,fL28_5,EL28r3,LL28r3,QL28,XL28_0,XL28_1⟩
      refine Ok.seq (sr (g0 6 [(0,.slice Aa_0 na_0 ca_0),(2,iw zc_0),(4,pt b1 0),(6,pt (b1+1) 0),(7,iw zra_0y7),(9,pt b26 0),(10,iw zL28_10),(56,.bool (decide (zL28_10 < ((nb_6 : Nat) : Int))))] [gz,gz,.g [.K 0 6],gz,gz,gz] rfl (cs (decide (zL28_10 < ((nb_6 : Nat) : Int))) [56] (fun h32 => ?_) (fun h32 => ?_))))
      · have h32 := of_decide_eq_true h32
        refine g0 9 [(0,.slice Aa_0 na_0 ca_0),(2,iw zc_0),(4,pt b1 0),(6,pt (b1+1) 0),(7,iw zra_0y7),(9,pt b26 0),(10,iw zL28_10),(59,.bool (decide (zL28_10 < 16)))] [gz,gz,gz] rfl (en rfl (cd (decide (zL28_10 < 16)) (fun h34 => ?_) (fun h34 => ?_)))
        · have h34 := of_decide_eq_true h34
          refine skn (Ok.seq (Ok.blk (Ok.seq (sr (g0 3 [(0,.slice Aa_0 na_0 ca_0),(2,iw zc_0),(4,pt b1 0),(6,pt (b1+1) 0),(7,iw zra_0y7),(9,pt b26 0),(10,iw zL28_10),(64,.bool (zra_0y7 == 7))] [gz,gz,gz] rfl (cs (zra_0y7 == 7) [64] (fun h36 => ?_) (fun h36 => ?_)))))))
          · have h36 := eq_of_beq h36
            refine g0 6 [(0,.slice Aa_0 na_0 ca_0),(2,iw zc_0),(4,pt b1 0),(6,pt (b1+1) 0),(7,iw zra_0y7),(9,pt b26 0),(10,iw zL28_10),(67,.bool (decide (zL28_10 > 0)))] [gz,gz,gz] rfl (en rfl (cd (decide (zL28_10 > 0)) (fun h38 => ?_) (fun h38 => ?_)))
            · have h38 := of_decide_eq_true h38
              refine Ok.exit_ (Ok.thenE (Ok.blkM rfl (Ok.thenE (Ok.thenE (Ok.blkE (Ok.thenN (Ok.seq (sr (g0 3 [(6,pt (b1+1) 0),(9,pt b26 0),(84,.bool (zra_0y7 == 7))] [gz,gz,gz] rfl (cs (zra_0y7 == 7) [84] (fun h40 => ?_) (fun h40 => ?_)))))))))))
              · have h40 := eq_of_beq h40
                refine g0 8 [(6,pt (b1+1) 0),(9,pt b26 0),(89,.bool (((nL28r3 : Nat) : Int) == 0))] [gz,.g [.K 2 6],gz,gz,gz] rfl (en rfl (cd (((nL28r3 : Nat) : Int) == 0) (fun h42 => ?_) (fun h42 => ?_)))
                · have h42 := eq_of_beq h42
                  refine Ok.reg (g4 4 (fun b43 => [(6,pt (b1+1) 0),(9,pt b26 0)]) (fun b43 => [.blk b1 [iw zb_0,iw zb_1,iw zb_2,iw zb_3,.slice Ab_4 nb_4 cb_4,.string sb_5,.slice Ab_6 nb_6 cb_6] 27,.blk (b1+1) [iw 0,iw 0,iw 0,iw 0,n0,s0,n0] 27,.blk b26 [iw zra_0y7,iw 0,iw 0,iw 0,n0,s0,sl b43 0 1 1] 27,.row (.slice AL28r3 nL28r3 cL28r3) nL28r3 7 27 xL28r3,.blk b43 [iw 0,iw 0,iw 0,iw 0,n0,s0,n0] 27]) [gz,.g [.N],gz,.g [.K 2 6]] rfl (fun b43 => (en rfl ?_)))
                  refine sr (g1 2 [(6,pt (b1+1) 0)] [.blk b1 [iw zb_0,iw zb_1,iw zb_2,iw zb_3,.slice Ab_4 nb_4 cb_4,.string sb_5,.slice Ab_6 nb_6 cb_6] 27,.blk (b1+1) [iw zra_0y7,iw 0,iw 0,iw 0,n0,s0,sl b43 0 1 1] 27,.blk b26 [iw zra_0y7,iw 0,iw 0,iw 0,n0,s0,sl b43 0 1 1] 27,.row (.slice AL28r3 nL28r3 cL28r3) nL28r3 7 27 xL28r3,.blk b43 [iw 0,iw 0,iw 0,iw 0,n0,s0,n0] 27] [.g [.K 2 0,.K 2 1,.K 2 2,.K 2 3,.K 2 4,.K 2 5,.K 2 6],.g [.K 1 0,.K 1 1,.K 1 2,.K 1 3,.K 1 4,.K 1 5,.K 1 6]] rfl (en rfl (Ok.ret_ (Ok.pubP 4 rfl [.blk b1 [iw zb_0,iw zb_1,iw zb_2,iw zb_3,.slice Ab_4 nb_4 cb_4,.string sb_5,.slice Ab_6 nb_6 cb_6] 27,.blk (b1+1) [iw zra_0y7,iw 0,iw 0,iw 0,n0,s0,sl b43 0 1 1] 27,.blk b26 [iw zra_0y7,iw 0,iw 0,iw 0,n0,s0,sl b43 0 1 1] 27,.row (.slice AL28r3 nL28r3 cL28r3) nL28r3 7 27 xL28r3] rfl ?_))))
                  intro H45 le46 pf47
                  exact Ok.ret1c (tr le5 (tr le30 le46)) [.K 1 0,.K 1 1,.K 1 2,.K 1 3,.K 1 4,.K 1 5,.K 1 6] (.agg #[iw zra_0y7,iw 0,iw 0,iw 0,n0,s0,sl b43 0 1 1]) [b1+1,b1+1,b1+1,b1+1,b1+1,b1+1,b1+1] rfl (by kernel_rfl) ⟨zra_0y7,0,0,0,none,0,0,[],(⟨#[]⟩ : ByteArray),(some ⟨b43,0,none⟩),1,1,(PTs.cons (PT.node 0 0 0 0 [] (⟨#[]⟩ : ByteArray) PTs.nil) PTs.nil),rfl,(LstIs.nil _ _ _),(by decide),(KidsIs.of_pre pf47 (RowPs.lit (PredIs.mk (LstIs.nil _ _ _) (by decide) (KidsIs.nil _))) rfl (by decide)),(fun f hf => good_op (.inr (.inr ⟨by omega,rfl⟩)) (goods_one (good_zero _ _ _ _ _ _ _))),(bnd_node (by decide) (bnds_one bnd_leaf))⟩
                have h42 := ne_of_beq_false h42
                refine skn (sr (g1 2 [(6,pt (b1+1) 0)] [.blk b1 [iw zb_0,iw zb_1,iw zb_2,iw zb_3,.slice Ab_4 nb_4 cb_4,.string sb_5,.slice Ab_6 nb_6 cb_6] 27,.blk (b1+1) [iw zra_0y7,iw 0,iw 0,iw 0,n0,s0,.slice AL28r3 nL28r3 cL28r3] 27,.blk b26 [iw zra_0y7,iw 0,iw 0,iw 0,n0,s0,.slice AL28r3 nL28r3 cL28r3] 27,.row (.slice AL28r3 nL28r3 cL28r3) nL28r3 7 27 xL28r3] [.g [.K 2 0,.K 2 1,.K 2 2,.K 2 3,.K 2 4,.K 2 5,.K 2 6],.g [.K 1 0,.K 1 1,.K 1 2,.K 1 3,.K 1 4,.K 1 5,.K 1 6]] rfl (en rfl (Ok.ret_ (Ok.pubK (ks := KL28r3) 3 rfl EL28r3 LL28r3 (by omega) [.blk b1 [iw zb_0,iw zb_1,iw zb_2,iw zb_3,.slice Ab_4 nb_4 cb_4,.string sb_5,.slice Ab_6 nb_6 cb_6] 27,.blk (b1+1) [iw zra_0y7,iw 0,iw 0,iw 0,n0,s0,.slice AL28r3 nL28r3 cL28r3] 27,.blk b26 [iw zra_0y7,iw 0,iw 0,iw 0,n0,s0,.slice AL28r3 nL28r3 cL28r3] 27] rfl ?_)))))
                intro H49 le50 f51
                have lf51 := f51.2.1
                have mf51 := f51.1
                exact Ok.ret1c (tr le5 (tr le30 le50)) [.K 1 0,.K 1 1,.K 1 2,.K 1 3,.K 1 4,.K 1 5,.K 1 6] (.agg #[iw zra_0y7,iw 0,iw 0,iw 0,n0,s0,.slice AL28r3 nL28r3 cL28r3]) [b1+1,b1+1,b1+1,b1+1,b1+1,b1+1,b1+1] rfl (by kernel_rfl) ⟨zra_0y7,0,0,0,none,0,0,[],(⟨#[]⟩ : ByteArray),AL28r3,nL28r3,cL28r3,KL28r3,rfl,(LstIs.nil _ _ _),(by decide),f51,(fun f hf => good_op (by omega) (XL28_0 f hf)),(bnd_node (by omega) XL28_1)⟩
              have h40 := ne_of_beq_false h40
              exact absurd h36 h40
            have h38 := of_decide_eq_false h38
            refine skn (st [0,1,2] [14] 15 ?_)
            have ie52 : 0 < RL28.len := by omega
            have ze52 : 0 ≤ zL28_10 ∧ zL28_10 < ((nb_6 : Nat) : Int) := by omega
            obtain ⟨ke52,re52,rfl⟩ := PTs.open_ ie52
            obtain ⟨je52,⟨cse52,we52,he52⟩,ne52⟩ := (QL28).cons
            obtain ⟨ae52,be52,ce52,de52,se52,te52,kse52,rfl⟩ := PTs.node_ ke52
            obtain ⟨Ae52_4,ne52_4,ce52_4,Ae52_6,ne52_6,ce52_6,rfl,fe52_4,txe52,fe52_6⟩ := we52.open_
            have xe52 := PTs.len_cons (PT.node ae52 be52 ce52 de52 se52 te52 kse52) re52
            have ye52 := PTs.depth1 ae52 be52 ce52 de52 se52 te52 kse52 re52
            have ve52 := PTs.depth2 (PT.node ae52 be52 ce52 de52 se52 te52 kse52) re52
            have lfe52_4 := fe52_4.2.1
            have mfe52_4 := fe52_4.1
            have lfe52_6 := fe52_6.2.1
            have mfe52_6 := fe52_6.1
            refine tx 5 [(0,gz),(1,.g [.K 2 6]),(2,gz),(3,gz),(4,.g [.K 0 6]),(5,gz),(6,.ix),(7,.g [.X (iw ae52),.X (iw be52),.X (iw ce52),.X (iw de52),.X (.slice Ae52_4 ne52_4 ce52_4),.X (.string te52),.X (.slice Ae52_6 ne52_6 ce52_6)]),(8,gz),(9,gz)] [(0,.slice Aa_0 na_0 ca_0),(2,iw zc_0),(4,pt b1 0),(6,pt (b1+1) 0),(7,iw zra_0y7),(9,pt b26 0),(10,iw zL28_10),(69,.slice AL28r3 nL28r3 cL28r3),(70,.slice Aa_0 na_0 ca_0),(75,.agg #[iw ae52,iw be52,iw ce52,iw de52,.slice Ae52_4 ne52_4 ce52_4,.string te52,.slice Ae52_6 ne52_6 ce52_6]),(77,iw (w64 (zc_0 - 1)))] (ex1 (And.intro je52 ze52) (ex1 (cell0 (he52 0 _ rfl)) (ex1 (he52 (1) _ rfl) (ex1 (he52 (2) _ rfl) (ex1 (he52 (3) _ rfl) (ex1 (he52 (4) _ rfl) (ex1 (he52 (5) _ rfl) (ex1 (he52 (6) _ rfl) ex0)))))))) rfl ?_
            refine on 10 4 rfl (ca (some 78) (ih kse52.depth (by omega) H29 Aa_0 (na_0) (ca_0) ae52 be52 ce52 de52 Ae52_4 (ne52_4) (ce52_4) se52 te52 Ae52_6 (ne52_6) (ce52_6) kse52 (w64 (zc_0 - 1)) (WfS.mono (tr le5 le30) ha_0) fe52_4 txe52 fe52_6 (by omega) (Nat.le_refl _)) ?_)
            rintro v53 H54 k56 le55 ⟨zra_0y57,zra_1y57,zra_2y57,zra_3y57,Ara_4y57,nra_4y57,cra_4y57,gra_4y57,sra_5y57,Ara_6y57,nra_6y57,cra_6y57,kra_6y57,rfl,hra_4y57,tra_5y57,hra_6y57,py57_0,py57_1⟩
            have lhra_4y57 := hra_4y57.2.1
            have mhra_4y57 := hra_4y57.1
            have lhra_6y57 := hra_6y57.2.1
            have mhra_6y57 := hra_6y57.1
            refine ws [0,1,2] le55 ?_
            refine on 11 3 rfl (e4 (.g [.N]) (fun b58 => [(0,.slice Aa_0 na_0 ca_0),(2,iw zc_0),(4,pt b1 0),(6,pt (b1+1) 0),(7,iw zra_0y7),(9,pt b26 0),(10,iw zL28_10),(69,.slice AL28r3 nL28r3 cL28r3),(79,sl b58 0 1 1)]) (fun b58 => [.blk b1 [iw zb_0,iw zb_1,iw zb_2,iw zb_3,.slice Ab_4 nb_4 cb_4,.string sb_5,.slice Ab_6 nb_6 cb_6] 27,.blk (b1+1) [iw 0,iw 0,iw 0,iw 0,n0,s0,n0] 27,.blk b26 [iw zra_0y7,iw 0,iw 0,iw 0,n0,s0,.slice AL28r3 nL28r3 cL28r3] 27,.row (.slice AL28r3 nL28r3 cL28r3) nL28r3 7 27 xL28r3,.blk b58 [iw zra_0y57,iw zra_1y57,iw zra_2y57,iw zra_3y57,.slice Ara_4y57 nra_4y57 cra_4y57,.string sra_5y57,.slice Ara_6y57 nra_6y57 cra_6y57] 27]) (fun b58 => ?_))
            refine ws [0,1,2] le55 ?_
            refine on 12 2 rfl (Eff.appendN (t := 25) (d := some 80) (ad := ⟨b58,0,none⟩) (m := 1) (c := 1) 3 rfl (by kernel_rfl) 100000000 (by kernel_rfl) (by omega) rfl [iw zra_0y57,iw zra_1y57,iw zra_2y57,iw zra_3y57,.slice Ara_4y57 nra_4y57 cra_4y57,.string sra_5y57,.slice Ara_6y57 nra_6y57 cra_6y57] (reads_blk (cs := [iw zra_0y57,iw zra_1y57,iw zra_2y57,iw zra_3y57,.slice Ara_4y57 nra_4y57 cra_4y57,.string sra_5y57,.slice Ara_6y57 nra_6y57 cra_6y57]) 4 rfl 0 7) rfl rfl (by omega) (fun g59 cap60 => ?_))
            have E62 : RowPs H54 (KL28r3.snoc (PT.node zra_0y57 zra_1y57 zra_2y57 zra_3y57 gra_4y57 sra_5y57 kra_6y57)) (xL28r3 ++ [iw zra_0y57,iw zra_1y57,iw zra_2y57,iw zra_3y57,.slice Ara_4y57 nra_4y57 cra_4y57,.string sra_5y57,.slice Ara_6y57 nra_6y57 cra_6y57]) := (RowPs.snoc (RowPs.mono le55 EL28r3) (PredIs.mk hra_4y57 tra_5y57 hra_6y57))
            generalize (xL28r3 ++ [iw zra_0y57,iw zra_1y57,iw zra_2y57,iw zra_3y57,.slice Ara_4y57 nra_4y57 cra_4y57,.string sra_5y57,.slice Ara_6y57 nra_6y57 cra_6y57]) = x61 at E62 ⊢
            refine ws [0,1,2] le55 ?_
            refine tk 1 [(13,gz)] [(0,.slice Aa_0 na_0 ca_0),(2,iw zc_0),(4,pt b1 0),(6,pt (b1+1) 0),(7,iw zra_0y7),(9,pt b26 0),(10,iw zL28_10),(80,.slice ((some ⟨g59,0,none⟩)) ((nL28r3 + 1)) cap60),(81,pt b26 6)] rfl ?_
            refine Ok.toE (ol 14 0 rfl (e1 (.g [.K 2 6]) [(0,.slice Aa_0 na_0 ca_0),(2,iw zc_0),(4,pt b1 0),(6,pt (b1+1) 0),(7,iw zra_0y7),(9,pt b26 0),(10,iw zL28_10)] [.blk b1 [iw zb_0,iw zb_1,iw zb_2,iw zb_3,.slice Ab_4 nb_4 cb_4,.string sb_5,.slice Ab_6 nb_6 cb_6] 27,.blk (b1+1) [iw 0,iw 0,iw 0,iw 0,n0,s0,n0] 27,.blk b26 [iw zra_0y7,iw 0,iw 0,iw 0,n0,s0,.slice ((some ⟨g59,0,none⟩)) ((nL28r3 + 1)) cap60] 27,.row (.slice ((some ⟨g59,0,none⟩)) ((nL28r3 + 1)) cap60) ((nL28r3 + 1)) 7 27 x61,.blk b58 [iw zra_0y57,iw zra_1y57,iw zra_2y57,iw zra_3y57,.slice Ara_4y57 nra_4y57 cra_4y57,.string sra_5y57,.slice Ara_6y57 nra_6y57 cra_6y57] 27] ?_))
            refine Ok.doneE (by kernel_rfl) ?_
            refine Ok.blkN (Ok.thenN (Ok.reg ?_))
            have k66 := wid (x := zL28_10 + 1) (by omega)
            refine g0 3 [(0,.slice Aa_0 na_0 ca_0),(2,iw zc_0),(4,pt b1 0),(6,pt (b1+1) 0),(7,iw zra_0y7),(9,pt b26 0),(10,iw (w64 (zL28_10 + 1)))] [gz,gz,gz] rfl (en rfl (Ok.restr [0,2,4,6,7,9,10] [(0,.slice Aa_0 na_0 ca_0),(2,iw zc_0),(4,pt b1 0),(6,pt (b1+1) 0),(7,iw zra_0y7),(9,pt b26 0),(10,iw (w64 (zL28_10 + 1)))] rfl (Ok.mask [true,true,true,true,false] [.blk b1 [iw zb_0,iw zb_1,iw zb_2,iw zb_3,.slice Ab_4 nb_4 cb_4,.string sb_5,.slice Ab_6 nb_6 cb_6] 27,.blk (b1+1) [iw 0,iw 0,iw 0,iw 0,n0,s0,n0] 27,.blk b26 [iw zra_0y7,iw 0,iw 0,iw 0,n0,s0,.slice ((some ⟨g59,0,none⟩)) ((nL28r3 + 1)) cap60] 27,.row (.slice ((some ⟨g59,0,none⟩)) ((nL28r3 + 1)) cap60) ((nL28r3 + 1)) 7 27 x61] rfl ?_)))
            exact Ok.again _ ⟨(w64 (zL28_10 + 1)),((some ⟨g59,0,none⟩)),(nL28r3 + 1),cap60,x61,(KL28r3.snoc (PT.node zra_0y57 zra_1y57 zra_2y57 zra_3y57 gra_4y57 sra_5y57 kra_6y57)),re52,rfl,rfl,rfl,(tr le30 le55),by omega,by omega,by omega,by omega,by omega,by omega,E62,(PTs.snoc_len _ LL28r3),(KidsAt.cast (KidsAt.mono le55 ne52) (by omega)),(fun f hf => goods_snoc (XL28_0 f hf) (py57_0 f (AllId.mono (tr le5 le30) hf))),(bnds_snoc XL28_1 py57_1)⟩ (by omega)
          have h36 := ne_of_beq_false h36
          refine g0 6 [(0,.slice Aa_0 na_0 ca_0),(2,iw zc_0),(4,pt b1 0),(6,pt (b1+1) 0),(7,iw zra_0y7),(9,pt b26 0),(10,iw zL28_10),(67,bF)] [gz,gz,gz] rfl (en rfl (cF (skn (st [0,1,2] [14] 15 ?_))))
          have ie68 : 0 < RL28.len := by omega
          have ze68 : 0 ≤ zL28_10 ∧ zL28_10 < ((nb_6 : Nat) : Int) := by omega
          obtain ⟨ke68,re68,rfl⟩ := PTs.open_ ie68
          obtain ⟨je68,⟨cse68,we68,he68⟩,ne68⟩ := (QL28).cons
          obtain ⟨ae68,be68,ce68,de68,se68,te68,kse68,rfl⟩ := PTs.node_ ke68
          obtain ⟨Ae68_4,ne68_4,ce68_4,Ae68_6,ne68_6,ce68_6,rfl,fe68_4,txe68,fe68_6⟩ := we68.open_
          have xe68 := PTs.len_cons (PT.node ae68 be68 ce68 de68 se68 te68 kse68) re68
          have ye68 := PTs.depth1 ae68 be68 ce68 de68 se68 te68 kse68 re68
          have ve68 := PTs.depth2 (PT.node ae68 be68 ce68 de68 se68 te68 kse68) re68
          have lfe68_4 := fe68_4.2.1
          have mfe68_4 := fe68_4.1
          have lfe68_6 := fe68_6.2.1
          have mfe68_6 := fe68_6.1
          refine tx 5 [(0,gz),(1,.g [.K 2 6]),(2,gz),(3,gz),(4,.g [.K 0 6]),(5,gz),(6,.ix),(7,.g [.X (iw ae68),.X (iw be68),.X (iw ce68),.X (iw de68),.X (.slice Ae68_4 ne68_4 ce68_4),.X (.string te68),.X (.slice Ae68_6 ne68_6 ce68_6)]),(8,gz),(9,gz)] [(0,.slice Aa_0 na_0 ca_0),(2,iw zc_0),(4,pt b1 0),(6,pt (b1+1) 0),(7,iw zra_0y7),(9,pt b26 0),(10,iw zL28_10),(69,.slice AL28r3 nL28r3 cL28r3),(70,.slice Aa_0 na_0 ca_0),(75,.agg #[iw ae68,iw be68,iw ce68,iw de68,.slice Ae68_4 ne68_4 ce68_4,.string te68,.slice Ae68_6 ne68_6 ce68_6]),(77,iw (w64 (zc_0 - 1)))] (ex1 (And.intro je68 ze68) (ex1 (cell0 (he68 0 _ rfl)) (ex1 (he68 (1) _ rfl) (ex1 (he68 (2) _ rfl) (ex1 (he68 (3) _ rfl) (ex1 (he68 (4) _ rfl) (ex1 (he68 (5) _ rfl) (ex1 (he68 (6) _ rfl) ex0)))))))) rfl ?_
          refine on 10 4 rfl (ca (some 78) (ih kse68.depth (by omega) H29 Aa_0 (na_0) (ca_0) ae68 be68 ce68 de68 Ae68_4 (ne68_4) (ce68_4) se68 te68 Ae68_6 (ne68_6) (ce68_6) kse68 (w64 (zc_0 - 1)) (WfS.mono (tr le5 le30) ha_0) fe68_4 txe68 fe68_6 (by omega) (Nat.le_refl _)) ?_)
          rintro v69 H70 k72 le71 ⟨zra_0y73,zra_1y73,zra_2y73,zra_3y73,Ara_4y73,nra_4y73,cra_4y73,gra_4y73,sra_5y73,Ara_6y73,nra_6y73,cra_6y73,kra_6y73,rfl,hra_4y73,tra_5y73,hra_6y73,py73_0,py73_1⟩
          have lhra_4y73 := hra_4y73.2.1
          have mhra_4y73 := hra_4y73.1
          have lhra_6y73 := hra_6y73.2.1
          have mhra_6y73 := hra_6y73.1
          refine ws [0,1,2] le71 ?_
          refine on 11 3 rfl (e4 (.g [.N]) (fun b74 => [(0,.slice Aa_0 na_0 ca_0),(2,iw zc_0),(4,pt b1 0),(6,pt (b1+1) 0),(7,iw zra_0y7),(9,pt b26 0),(10,iw zL28_10),(69,.slice AL28r3 nL28r3 cL28r3),(79,sl b74 0 1 1)]) (fun b74 => [.blk b1 [iw zb_0,iw zb_1,iw zb_2,iw zb_3,.slice Ab_4 nb_4 cb_4,.string sb_5,.slice Ab_6 nb_6 cb_6] 27,.blk (b1+1) [iw 0,iw 0,iw 0,iw 0,n0,s0,n0] 27,.blk b26 [iw zra_0y7,iw 0,iw 0,iw 0,n0,s0,.slice AL28r3 nL28r3 cL28r3] 27,.row (.slice AL28r3 nL28r3 cL28r3) nL28r3 7 27 xL28r3,.blk b74 [iw zra_0y73,iw zra_1y73,iw zra_2y73,iw zra_3y73,.slice Ara_4y73 nra_4y73 cra_4y73,.string sra_5y73,.slice Ara_6y73 nra_6y73 cra_6y73] 27]) (fun b74 => ?_))
          refine ws [0,1,2] le71 ?_
          refine on 12 2 rfl (Eff.appendN (t := 25) (d := some 80) (ad := ⟨b74,0,none⟩) (m := 1) (c := 1) 3 rfl (by kernel_rfl) 100000000 (by kernel_rfl) (by omega) rfl [iw zra_0y73,iw zra_1y73,iw zra_2y73,iw zra_3y73,.slice Ara_4y73 nra_4y73 cra_4y73,.string sra_5y73,.slice Ara_6y73 nra_6y73 cra_6y73] (reads_blk (cs := [iw zra_0y73,iw zra_1y73,iw zra_2y73,iw zra_3y73,.slice Ara_4y73 nra_4y73 cra_4y73,.string sra_5y73,.slice Ara_6y73 nra_6y73 cra_6y73]) 4 rfl 0 7) rfl rfl (by omega) (fun g75 cap76 => ?_))
          have E78 : RowPs H70 (KL28r3.snoc (PT.node zra_0y73 zra_1y73 zra_2y73 zra_3y73 gra_4y73 sra_5y73 kra_6y73)) (xL28r3 ++ [iw zra_0y73,iw zra_1y73,iw zra_2y73,iw zra_3y73,.slice Ara_4y73 nra_4y73 cra_4y73,.string sra_5y73,.slice Ara_6y73 nra_6y73 cra_6y73]) := (RowPs.snoc (RowPs.mono le71 EL28r3) (PredIs.mk hra_4y73 tra_5y73 hra_6y73))
          generalize (xL28r3 ++ [iw zra_0y73,iw zra_1y73,iw zra_2y73,iw zra_3y73,.slice Ara_4y73 nra_4y73 cra_4y73,.string sra_5y73,.slice Ara_6y73 nra_6y73 cra_6y73]) = x77 at E78 ⊢
          refine ws [0,1,2] le71 ?_
          refine tk 1 [(13,gz)] [(0,.slice Aa_0 na_0 ca_0),(2,iw zc_0),(4,pt b1 0),(6,pt (b1+1) 0),(7,iw zra_0y7),(9,pt b26 0),(10,iw zL28_10),(80,.slice ((some ⟨g75,0,none⟩)) ((nL28r3 + 1)) cap76),(81,pt b26 6)] rfl ?_
          refine Ok.toE (ol 14 0 rfl (e1 (.g [.K 2 6]) [(0,.slice Aa_0 na_0 ca_0),(2,iw zc_0),(4,pt b1 0),(6,pt (b1+1) 0),(7,iw zra_0y7),(9,pt b26 0),(10,iw zL28_10)] [.blk b1 [iw zb_0,iw zb_1,iw zb_2,iw zb_3,.slice Ab_4 nb_4 cb_4,.string sb_5,.slice Ab_6 nb_6 cb_6] 27,.blk (b1+1) [iw 0,iw 0,iw 0,iw 0,n0,s0,n0] 27,.blk b26 [iw zra_0y7,iw 0,iw 0,iw 0,n0,s0,.slice ((some ⟨g75,0,none⟩)) ((nL28r3 + 1)) cap76] 27,.row (.slice ((some ⟨g75,0,none⟩)) ((nL28r3 + 1)) cap76) ((nL28r3 + 1)) 7 27 x77,.blk b74 [iw zra_0y73,iw zra_1y73,iw zra_2y73,iw zra_3y73,.slice Ara_4y73 nra_4y73 cra_4y73,.string sra_5y73,.slice Ara_6y73 nra_6y73 cra_6y73] 27] ?_))
          refine Ok.doneE (by kernel_rfl) ?_
          refine Ok.blkN (Ok.thenN (Ok.reg ?_))
          have k82 := wid (x := zL28_10 + 1) (by omega)
          refine g0 3 [(0,.slice Aa_0 na_0 ca_0),(2,iw zc_0),(4,pt b1 0),(6,pt (b1+1) 0),(7,iw zra_0y7),(9,pt b26 0),(10,iw (w64 (zL28_10 + 1)))] [gz,gz,gz] rfl (en rfl (Ok.restr [0,2,4,6,7,9,10] [(0,.slice Aa_0 na_0 ca_0),(2,iw zc_0),(4,pt b1 0),(6,pt (b1+1) 0),(7,iw zra_0y7),(9,pt b26 0),(10,iw (w64 (zL28_10 + 1)))] rfl (Ok.mask [true,true,true,true,false] [.blk b1 [iw zb_0,iw zb_1,iw zb_2,iw zb_3,.slice Ab_4 nb_4 cb_4,.string sb_5,.slice Ab_6 nb_6 cb_6] 27,.blk (b1+1) [iw 0,iw 0,iw 0,iw 0,n0,s0,n0] 27,.blk b26 [iw zra_0y7,iw 0,iw 0,iw 0,n0,s0,.slice ((some ⟨g75,0,none⟩)) ((nL28r3 + 1)) cap76] 27,.row (.slice ((some ⟨g75,0,none⟩)) ((nL28r3 + 1)) cap76) ((nL28r3 + 1)) 7 27 x77] rfl ?_)))
          exact Ok.again _ ⟨(w64 (zL28_10 + 1)),((some ⟨g75,0,none⟩)),(nL28r3 + 1),cap76,x77,(KL28r3.snoc (PT.node zra_0y73 zra_1y73 zra_2y73 zra_3y73 gra_4y73 sra_5y73 kra_6y73)),re68,rfl,rfl,rfl,(tr le30 le71),by omega,by omega,by omega,by omega,by omega,by omega,E78,(PTs.snoc_len _ LL28r3),(KidsAt.cast (KidsAt.mono le71 ne68) (by omega)),(fun f hf => goods_snoc (XL28_0 f hf) (py73_0 f (AllId.mono (tr le5 le30) hf))),(bnds_snoc XL28_1 py73_1)⟩ (by omega)
        have h34 := of_decide_eq_false h34
        refine Ok.exit_ (Ok.thenE (Ok.thenE (Ok.blkE (Ok.thenN (Ok.seq (sr (g0 3 [(6,pt (b1+1) 0),(9,pt b26 0),(84,.bool (zra_0y7 == 7))] [gz,gz,gz] rfl (cs (zra_0y7 == 7) [84] (fun h84 => ?_) (fun h84 => ?_)))))))))
        · have h84 := eq_of_beq h84
          refine g0 8 [(6,pt (b1+1) 0),(9,pt b26 0),(89,.bool (((nL28r3 : Nat) : Int) == 0))] [gz,.g [.K 2 6],gz,gz,gz] rfl (en rfl (cd (((nL28r3 : Nat) : Int) == 0) (fun h86 => ?_) (fun h86 => ?_)))
          · have h86 := eq_of_beq h86
            refine Ok.reg (g4 4 (fun b87 => [(6,pt (b1+1) 0),(9,pt b26 0)]) (fun b87 => [.blk b1 [iw zb_0,iw zb_1,iw zb_2,iw zb_3,.slice Ab_4 nb_4 cb_4,.string sb_5,.slice Ab_6 nb_6 cb_6] 27,.blk (b1+1) [iw 0,iw 0,iw 0,iw 0,n0,s0,n0] 27,.blk b26 [iw zra_0y7,iw 0,iw 0,iw 0,n0,s0,sl b87 0 1 1] 27,.row (.slice AL28r3 nL28r3 cL28r3) nL28r3 7 27 xL28r3,.blk b87 [iw 0,iw 0,iw 0,iw 0,n0,s0,n0] 27]) [gz,.g [.N],gz,.g [.K 2 6]] rfl (fun b87 => (en rfl ?_)))
            refine sr (g1 2 [(6,pt (b1+1) 0)] [.blk b1 [iw zb_0,iw zb_1,iw zb_2,iw zb_3,.slice Ab_4 nb_4 cb_4,.string sb_5,.slice Ab_6 nb_6 cb_6] 27,.blk (b1+1) [iw zra_0y7,iw 0,iw 0,iw 0,n0,s0,sl b87 0 1 1] 27,.blk b26 [iw zra_0y7,iw 0,iw 0,iw 0,n0,s0,sl b87 0 1 1] 27,.row (.slice AL28r3 nL28r3 cL28r3) nL28r3 7 27 xL28r3,.blk b87 [iw 0,iw 0,iw 0,iw 0,n0,s0,n0] 27] [.g [.K 2 0,.K 2 1,.K 2 2,.K 2 3,.K 2 4,.K 2 5,.K 2 6],.g [.K 1 0,.K 1 1,.K 1 2,.K 1 3,.K 1 4,.K 1 5,.K 1 6]] rfl (en rfl (Ok.ret_ (Ok.pubP 4 rfl [.blk b1 [iw zb_0,iw zb_1,iw zb_2,iw zb_3,.slice Ab_4 nb_4 cb_4,.string sb_5,.slice Ab_6 nb_6 cb_6] 27,.blk (b1+1) [iw zra_0y7,iw 0,iw 0,iw 0,n0,s0,sl b87 0 1 1] 27,.blk b26 [iw zra_0y7,iw 0,iw 0,iw 0,n0,s0,sl b87 0 1 1] 27,.row (.slice AL28r3 nL28r3 cL28r3) nL28r3 7 27 xL28r3] rfl ?_))))
            intro H89 le90 pf91
            exact Ok.ret1c (tr le5 (tr le30 le90)) [.K 1 0,.K 1 1,.K 1 2,.K 1 3,.K 1 4,.K 1 5,.K 1 6] (.agg #[iw zra_0y7,iw 0,iw 0,iw 0,n0,s0,sl b87 0 1 1]) [b1+1,b1+1,b1+1,b1+1,b1+1,b1+1,b1+1] rfl (by kernel_rfl) ⟨zra_0y7,0,0,0,none,0,0,[],(⟨#[]⟩ : ByteArray),(some ⟨b87,0,none⟩),1,1,(PTs.cons (PT.node 0 0 0 0 [] (⟨#[]⟩ : ByteArray) PTs.nil) PTs.nil),rfl,(LstIs.nil _ _ _),(by decide),(KidsIs.of_pre pf91 (RowPs.lit (PredIs.mk (LstIs.nil _ _ _) (by decide) (KidsIs.nil _))) rfl (by decide)),(fun f hf => good_op (.inr (.inr ⟨by omega,rfl⟩)) (goods_one (good_zero _ _ _ _ _ _ _))),(bnd_node (by decide) (bnds_one bnd_leaf))⟩
          have h86 := ne_of_beq_false h86
          refine skn (sr (g1 2 [(6,pt (b1+1) 0)] [.blk b1 [iw zb_0,iw zb_1,iw zb_2,iw zb_3,.slice Ab_4 nb_4 cb_4,.string sb_5,.slice Ab_6 nb_6 cb_6] 27,.blk (b1+1) [iw zra_0y7,iw 0,iw 0,iw 0,n0,s0,.slice AL28r3 nL28r3 cL28r3] 27,.blk b26 [iw zra_0y7,iw 0,iw 0,iw 0,n0,s0,.slice AL28r3 nL28r3 cL28r3] 27,.row (.slice AL28r3 nL28r3 cL28r3) nL28r3 7 27 xL28r3] [.g [.K 2 0,.K 2 1,.K 2 2,.K 2 3,.K 2 4,.K 2 5,.K 2 6],.g [.K 1 0,.K 1 1,.K 1 2,.K 1 3,.K 1 4,.K 1 5,.K 1 6]] rfl (en rfl (Ok.ret_ (Ok.pubK (ks := KL28r3) 3 rfl EL28r3 LL28r3 (by omega) [.blk b1 [iw zb_0,iw zb_1,iw zb_2,iw zb_3,.slice Ab_4 nb_4 cb_4,.string sb_5,.slice Ab_6 nb_6 cb_6] 27,.blk (b1+1) [iw zra_0y7,iw 0,iw 0,iw 0,n0,s0,.slice AL28r3 nL28r3 cL28r3] 27,.blk b26 [iw zra_0y7,iw 0,iw 0,iw 0,n0,s0,.slice AL28r3 nL28r3 cL28r3] 27] rfl ?_)))))
          intro H93 le94 f95
          have lf95 := f95.2.1
          have mf95 := f95.1
          exact Ok.ret1c (tr le5 (tr le30 le94)) [.K 1 0,.K 1 1,.K 1 2,.K 1 3,.K 1 4,.K 1 5,.K 1 6] (.agg #[iw zra_0y7,iw 0,iw 0,iw 0,n0,s0,.slice AL28r3 nL28r3 cL28r3]) [b1+1,b1+1,b1+1,b1+1,b1+1,b1+1,b1+1] rfl (by kernel_rfl) ⟨zra_0y7,0,0,0,none,0,0,[],(⟨#[]⟩ : ByteArray),AL28r3,nL28r3,cL28r3,KL28r3,rfl,(LstIs.nil _ _ _),(by decide),f95,(fun f hf => good_op (by omega) (XL28_0 f hf)),(bnd_node (by omega) XL28_1)⟩
        have h84 := ne_of_beq_false h84
        refine g0 8 [(6,pt (b1+1) 0),(9,pt b26 0),(89,bF)] [gz,gz,gz,gz,gz] rfl (en rfl (cF (skn (sr (g1 2 [(6,pt (b1+1) 0)] [.blk b1 [iw zb_0,iw zb_1,iw zb_2,iw zb_3,.slice Ab_4 nb_4 cb_4,.string sb_5,.slice Ab_6 nb_6 cb_6] 27,.blk (b1+1) [iw zra_0y7,iw 0,iw 0,iw 0,n0,s0,.slice AL28r3 nL28r3 cL28r3] 27,.blk b26 [iw zra_0y7,iw 0,iw 0,iw 0,n0,s0,.slice AL28r3 nL28r3 cL28r3] 27,.row (.slice AL28r3 nL28r3 cL28r3) nL28r3 7 27 xL28r3] [.g [.K 2 0,.K 2 1,.K 2 2,.K 2 3,.K 2 4,.K 2 5,.K 2 6],.g [.K 1 0,.K 1 1,.K 1 2,.K 1 3,.K 1 4,.K 1 5,.K 1 6]] rfl (en rfl (Ok.ret_ (Ok.pubK (ks := KL28r3) 3 rfl EL28r3 LL28r3 (by omega) [.blk b1 [iw zb_0,iw zb_1,iw zb_2,iw zb_3,.slice Ab_4 nb_4 cb_4,.string sb_5,.slice Ab_6 nb_6 cb_6] 27,.blk (b1+1) [iw zra_0y7,iw 0,iw 0,iw 0,n0,s0,.slice AL28r3 nL28r3 cL28r3] 27,.blk b26 [iw zra_0y7,iw 0,iw 0,iw 0,n0,s0,.slice AL28r3 nL28r3 cL28r3] 27] rfl ?_))))))))
        intro H98 le99 f100
        have lf100 := f100.2.1
        have mf100 := f100.1
        exact Ok.ret1c (tr le5 (tr le30 le99)) [.K 1 0,.K 1 1,.K 1 2,.K 1 3,.K 1 4,.K 1 5,.K 1 6] (.agg #[iw zra_0y7,iw 0,iw 0,iw 0,n0,s0,.slice AL28r3 nL28r3 cL28r3]) [b1+1,b1+1,b1+1,b1+1,b1+1,b1+1,b1+1] rfl (by kernel_rfl) ⟨zra_0y7,0,0,0,none,0,0,[],(⟨#[]⟩ : ByteArray),AL28r3,nL28r3,cL28r3,KL28r3,rfl,(LstIs.nil _ _ _),(by decide),f100,(fun f hf => good_op (by omega) (XL28_0 f hf)),(bnd_node (by omega) XL28_1)⟩
      have h32 := of_decide_eq_false h32
      refine g0 9 [(0,.slice Aa_0 na_0 ca_0),(2,iw zc_0),(4,pt b1 0),(6,pt (b1+1) 0),(7,iw zra_0y7),(9,pt b26 0),(10,iw zL28_10),(59,bF)] [gz,gz,gz] rfl (en rfl (cF (Ok.exit_ (Ok.thenE (Ok.thenE (Ok.blkE (Ok.thenN (Ok.seq (sr (g0 3 [(6,pt (b1+1) 0),(9,pt b26 0),(84,.bool (zra_0y7 == 7))] [gz,gz,gz] rfl (cs (zra_0y7 == 7) [84] (fun h103 => ?_) (fun h103 => ?_))))))))))))
      · have h103 := eq_of_beq h103
        refine g0 8 [(6,pt (b1+1) 0),(9,pt b26 0),(89,.bool (((nL28r3 : Nat) : Int) == 0))] [gz,.g [.K 2 6],gz,gz,gz] rfl (en rfl (cd (((nL28r3 : Nat) : Int) == 0) (fun h105 => ?_) (fun h105 => ?_)))
        · have h105 := eq_of_beq h105
          refine Ok.reg (g4 4 (fun b106 => [(6,pt (b1+1) 0),(9,pt b26 0)]) (fun b106 => [.blk b1 [iw zb_0,iw zb_1,iw zb_2,iw zb_3,.slice Ab_4 nb_4 cb_4,.string sb_5,.slice Ab_6 nb_6 cb_6] 27,.blk (b1+1) [iw 0,iw 0,iw 0,iw 0,n0,s0,n0] 27,.blk b26 [iw zra_0y7,iw 0,iw 0,iw 0,n0,s0,sl b106 0 1 1] 27,.row (.slice AL28r3 nL28r3 cL28r3) nL28r3 7 27 xL28r3,.blk b106 [iw 0,iw 0,iw 0,iw 0,n0,s0,n0] 27]) [gz,.g [.N],gz,.g [.K 2 6]] rfl (fun b106 => (en rfl ?_)))
          refine sr (g1 2 [(6,pt (b1+1) 0)] [.blk b1 [iw zb_0,iw zb_1,iw zb_2,iw zb_3,.slice Ab_4 nb_4 cb_4,.string sb_5,.slice Ab_6 nb_6 cb_6] 27,.blk (b1+1) [iw zra_0y7,iw 0,iw 0,iw 0,n0,s0,sl b106 0 1 1] 27,.blk b26 [iw zra_0y7,iw 0,iw 0,iw 0,n0,s0,sl b106 0 1 1] 27,.row (.slice AL28r3 nL28r3 cL28r3) nL28r3 7 27 xL28r3,.blk b106 [iw 0,iw 0,iw 0,iw 0,n0,s0,n0] 27] [.g [.K 2 0,.K 2 1,.K 2 2,.K 2 3,.K 2 4,.K 2 5,.K 2 6],.g [.K 1 0,.K 1 1,.K 1 2,.K 1 3,.K 1 4,.K 1 5,.K 1 6]] rfl (en rfl (Ok.ret_ (Ok.pubP 4 rfl [.blk b1 [iw zb_0,iw zb_1,iw zb_2,iw zb_3,.slice Ab_4 nb_4 cb_4,.string sb_5,.slice Ab_6 nb_6 cb_6] 27,.blk (b1+1) [iw zra_0y7,iw 0,iw 0,iw 0,n0,s0,sl b106 0 1 1] 27,.blk b26 [iw zra_0y7,iw 0,iw 0,iw 0,n0,s0,sl b106 0 1 1] 27,.row (.slice AL28r3 nL28r3 cL28r3) nL28r3 7 27 xL28r3] rfl ?_))))
          intro H108 le109 pf110
          exact Ok.ret1c (tr le5 (tr le30 le109)) [.K 1 0,.K 1 1,.K 1 2,.K 1 3,.K 1 4,.K 1 5,.K 1 6] (.agg #[iw zra_0y7,iw 0,iw 0,iw 0,n0,s0,sl b106 0 1 1]) [b1+1,b1+1,b1+1,b1+1,b1+1,b1+1,b1+1] rfl (by kernel_rfl) ⟨zra_0y7,0,0,0,none,0,0,[],(⟨#[]⟩ : ByteArray),(some ⟨b106,0,none⟩),1,1,(PTs.cons (PT.node 0 0 0 0 [] (⟨#[]⟩ : ByteArray) PTs.nil) PTs.nil),rfl,(LstIs.nil _ _ _),(by decide),(KidsIs.of_pre pf110 (RowPs.lit (PredIs.mk (LstIs.nil _ _ _) (by decide) (KidsIs.nil _))) rfl (by decide)),(fun f hf => good_op (.inr (.inr ⟨by omega,rfl⟩)) (goods_one (good_zero _ _ _ _ _ _ _))),(bnd_node (by decide) (bnds_one bnd_leaf))⟩
        have h105 := ne_of_beq_false h105
        refine skn (sr (g1 2 [(6,pt (b1+1) 0)] [.blk b1 [iw zb_0,iw zb_1,iw zb_2,iw zb_3,.slice Ab_4 nb_4 cb_4,.string sb_5,.slice Ab_6 nb_6 cb_6] 27,.blk (b1+1) [iw zra_0y7,iw 0,iw 0,iw 0,n0,s0,.slice AL28r3 nL28r3 cL28r3] 27,.blk b26 [iw zra_0y7,iw 0,iw 0,iw 0,n0,s0,.slice AL28r3 nL28r3 cL28r3] 27,.row (.slice AL28r3 nL28r3 cL28r3) nL28r3 7 27 xL28r3] [.g [.K 2 0,.K 2 1,.K 2 2,.K 2 3,.K 2 4,.K 2 5,.K 2 6],.g [.K 1 0,.K 1 1,.K 1 2,.K 1 3,.K 1 4,.K 1 5,.K 1 6]] rfl (en rfl (Ok.ret_ (Ok.pubK (ks := KL28r3) 3 rfl EL28r3 LL28r3 (by omega) [.blk b1 [iw zb_0,iw zb_1,iw zb_2,iw zb_3,.slice Ab_4 nb_4 cb_4,.string sb_5,.slice Ab_6 nb_6 cb_6] 27,.blk (b1+1) [iw zra_0y7,iw 0,iw 0,iw 0,n0,s0,.slice AL28r3 nL28r3 cL28r3] 27,.blk b26 [iw zra_0y7,iw 0,iw 0,iw 0,n0,s0,.slice AL28r3 nL28r3 cL28r3] 27] rfl ?_)))))
        intro H112 le113 f114
        have lf114 := f114.2.1
        have mf114 := f114.1
        exact Ok.ret1c (tr le5 (tr le30 le113)) [.K 1 0,.K 1 1,.K 1 2,.K 1 3,.K 1 4,.K 1 5,.K 1 6] (.agg #[iw zra_0y7,iw 0,iw 0,iw 0,n0,s0,.slice AL28r3 nL28r3 cL28r3]) [b1+1,b1+1,b1+1,b1+1,b1+1,b1+1,b1+1] rfl (by kernel_rfl) ⟨zra_0y7,0,0,0,none,0,0,[],(⟨#[]⟩ : ByteArray),AL28r3,nL28r3,cL28r3,KL28r3,rfl,(LstIs.nil _ _ _),(by decide),f114,(fun f hf => good_op (by omega) (XL28_0 f hf)),(bnd_node (by omega) XL28_1)⟩
      have h103 := ne_of_beq_false h103
      refine g0 8 [(6,pt (b1+1) 0),(9,pt b26 0),(89,bF)] [gz,gz,gz,gz,gz] rfl (en rfl (cF (skn (sr (g1 2 [(6,pt (b1+1) 0)] [.blk b1 [iw zb_0,iw zb_1,iw zb_2,iw zb_3,.slice Ab_4 nb_4 cb_4,.string sb_5,.slice Ab_6 nb_6 cb_6] 27,.blk (b1+1) [iw zra_0y7,iw 0,iw 0,iw 0,n0,s0,.slice AL28r3 nL28r3 cL28r3] 27,.blk b26 [iw zra_0y7,iw 0,iw 0,iw 0,n0,s0,.slice AL28r3 nL28r3 cL28r3] 27,.row (.slice AL28r3 nL28r3 cL28r3) nL28r3 7 27 xL28r3] [.g [.K 2 0,.K 2 1,.K 2 2,.K 2 3,.K 2 4,.K 2 5,.K 2 6],.g [.K 1 0,.K 1 1,.K 1 2,.K 1 3,.K 1 4,.K 1 5,.K 1 6]] rfl (en rfl (Ok.ret_ (Ok.pubK (ks := KL28r3) 3 rfl EL28r3 LL28r3 (by omega) [.blk b1 [iw zb_0,iw zb_1,iw zb_2,iw zb_3,.slice Ab_4 nb_4 cb_4,.string sb_5,.slice Ab_6 nb_6 cb_6] 27,.blk (b1+1) [iw zra_0y7,iw 0,iw 0,iw 0,n0,s0,.slice AL28r3 nL28r3 cL28r3] 27,.blk b26 [iw zra_0y7,iw 0,iw 0,iw 0,n0,s0,.slice AL28r3 nL28r3 cL28r3] 27] rfl ?_))))))))
      intro H117 le118 f119
      have lf119 := f119.2.1
      have mf119 := f119.1
      exact Ok.ret1c (tr le5 (tr le30 le118)) [.K 1 0,.K 1 1,.K 1 2,.K 1 3,.K 1 4,.K 1 5,.K 1 6] (.agg #[iw zra_0y7,iw 0,iw 0,iw 0,n0,s0,.slice AL28r3 nL28r3 cL28r3]) [b1+1,b1+1,b1+1,b1+1,b1+1,b1+1,b1+1] rfl (by kernel_rfl) ⟨zra_0y7,0,0,0,none,0,0,[],(⟨#[]⟩ : ByteArray),AL28r3,nL28r3,cL28r3,KL28r3,rfl,(LstIs.nil _ _ _),(by decide),f119,(fun f hf => good_op (by omega) (XL28_0 f hf)),(bnd_node (by omega) XL28_1)⟩
    have h20 := ne_of_beq_false h20
    refine g0 19 [(0,.slice Aa_0 na_0 ca_0),(2,iw zc_0),(4,pt b1 0),(6,pt (b1+1) 0),(7,iw zra_0y7),(32,bF)] [gz,gz,gz,gz] rfl (en rfl (cF (skn (Ok.seq (sr (g0 2 [(0,.slice Aa_0 na_0 ca_0),(2,iw zc_0),(4,pt b1 0),(6,pt (b1+1) 0),(7,iw zra_0y7),(35,.bool (decide (zra_0y7 < 5)))] [gz,gz] rfl (en rfl (cd (decide (zra_0y7 < 5)) (fun h122 => ?_) (fun h122 => ?_)))))))))
    · have h122 := of_decide_eq_true h122
      refine sr (g4 3 (fun b123 => [(0,.slice Aa_0 na_0 ca_0),(4,pt b1 0),(6,pt (b1+1) 0),(7,iw zra_0y7),(8,pt b123 0)]) (fun b123 => [.blk b1 [iw zb_0,iw zb_1,iw zb_2,iw zb_3,.slice Ab_4 nb_4 cb_4,.string sb_5,.slice Ab_6 nb_6 cb_6] 27,.blk (b1+1) [iw 0,iw 0,iw 0,iw 0,n0,s0,n0] 27,.blk b123 [iw zb_0,iw zb_1,iw zb_2,iw zb_3,.slice Ab_4 nb_4 cb_4,.string sb_5,.slice Ab_6 nb_6 cb_6] 27]) [.g [.K 0 0,.K 0 1,.K 0 2,.K 0 3,.K 0 4,.K 0 5,.K 0 6],.g [.N],.g [.K 2 0,.K 2 1,.K 2 2,.K 2 3,.K 2 4,.K 2 5,.K 2 6]] rfl (fun b123 => (en rfl ?_)))
      refine sr (g1 3 [(0,.slice Aa_0 na_0 ca_0),(4,pt b1 0),(6,pt (b1+1) 0),(8,pt b123 0)] [.blk b1 [iw zb_0,iw zb_1,iw zb_2,iw zb_3,.slice Ab_4 nb_4 cb_4,.string sb_5,.slice Ab_6 nb_6 cb_6] 27,.blk (b1+1) [iw 0,iw 0,iw 0,iw 0,n0,s0,n0] 27,.blk b123 [iw zra_0y7,iw zb_1,iw zb_2,iw zb_3,.slice Ab_4 nb_4 cb_4,.string sb_5,.slice Ab_6 nb_6 cb_6] 27] [gz,gz,.g [.K 2 0]] rfl (en rfl (Ok.seq (st [0,2] [] 11 (tk 5 [(0,.g [.K 1 0,.K 1 1,.K 1 2,.K 1 3,.K 1 4,.K 1 5,.K 1 6]),(1,gz),(2,gz),(3,.g [.K 0 1]),(4,gz),(5,gz)] [(6,pt (b1+1) 0),(39,.agg #[iw zra_0y7,iw zb_1,iw zb_2,iw zb_3,.slice Ab_4 nb_4 cb_4,.string sb_5,.slice Ab_6 nb_6 cb_6]),(40,.slice Aa_0 na_0 ca_0),(42,iw zb_1),(44,iw ((na_0 : Nat) : Int))] rfl (on 6 4 rfl (ca (some 45) (c50 H4 zb_1 ((na_0 : Nat) : Int) (by omega)) ?_)))))))
      rintro v125 H126 k128 le127 ⟨zra_0y129,rfl,py129_0⟩
      refine ws [0,2] le127 ?_
      have ie130 : 0 ≤ zra_0y129 ∧ zra_0y129 < ((na_0 : Nat) : Int) := by omega
      obtain ⟨je130,cse130,we130,he130⟩ := (WfS.mono le5 ha_0).at_ zra_0y129 ie130.1 ie130.2
      obtain ⟨ue130_0,le130_0,rfl,ve130_0,we130_0⟩ := wfl_cons we130
      obtain ⟨ze130_0,rfl⟩ := wfv_int ve130_0
      obtain ⟨ue130_1,le130_1,rfl,ve130_1,we130_1⟩ := wfl_cons we130_0
      obtain ⟨se130_1,rfl,te130_1⟩ := wfv_str ve130_1
      obtain ⟨ue130_2,le130_2,rfl,ve130_2,we130_2⟩ := wfl_cons we130_1
      obtain ⟨ze130_2,rfl⟩ := wfv_int ve130_2
      obtain ⟨ue130_3,le130_3,rfl,ve130_3,we130_3⟩ := wfl_cons we130_2
      obtain ⟨ze130_3,rfl⟩ := wfv_int ve130_3
      obtain rfl := wfl_nil we130_3
      refine tx 2 [(7,.ix),(8,.g [.X (iw ze130_0),.X (.string se130_1),.X (iw ze130_2),.X (iw ze130_3)])] [(6,pt (b1+1) 0),(39,.agg #[iw zra_0y7,iw zb_1,iw zb_2,iw zb_3,.slice Ab_4 nb_4 cb_4,.string sb_5,.slice Ab_6 nb_6 cb_6]),(47,.agg #[iw ze130_0,.string se130_1,iw ze130_2,iw ze130_3])] (ex1 (And.intro je130 ie130) (ex1 (cell0 (he130 0 _ rfl)) (ex1 (he130 (1) _ rfl) (ex1 (he130 (2) _ rfl) (ex1 (he130 (3) _ rfl) ex0))))) rfl ?_
      refine on 9 1 rfl (ca (some 48) (c51 H126 zra_0y7 zb_1 zb_2 zb_3 Ab_4 (nb_4) (cb_4) gb_4 sb_5 Ab_6 (nb_6) (cb_6) kb_6 ze130_0 se130_1 ze130_2 ze130_3 (LstIs.mono (tr le5 le127) hb_4) tb_5 (KidsIs.mono (tr le5 le127) hb_6) te130_1) ?_)
      rintro v131 H132 k134 le133 ⟨zra_0y135,zra_1y135,zra_2y135,zra_3y135,Ara_4y135,nra_4y135,cra_4y135,gra_4y135,sra_5y135,Ara_6y135,nra_6y135,cra_6y135,kra_6y135,rfl,hra_4y135,tra_5y135,hra_6y135,py135_0,py135_1⟩
      have lhra_4y135 := hra_4y135.2.1
      have mhra_4y135 := hra_4y135.1
      have lhra_6y135 := hra_6y135.2.1
      have mhra_6y135 := hra_6y135.1
      refine ws [0,2] (tr le127 le133) ?_
      refine on 10 0 rfl (e1 (.g [.K 1 0,.K 1 1,.K 1 2,.K 1 3,.K 1 4,.K 1 5,.K 1 6]) [(6,pt (b1+1) 0)] [.blk b1 [iw zb_0,iw zb_1,iw zb_2,iw zb_3,.slice Ab_4 nb_4 cb_4,.string sb_5,.slice Ab_6 nb_6 cb_6] 27,.blk (b1+1) [iw zra_0y135,iw zra_1y135,iw zra_2y135,iw zra_3y135,.slice Ara_4y135 nra_4y135 cra_4y135,.string sra_5y135,.slice Ara_6y135 nra_6y135 cra_6y135] 27,.blk b123 [iw zra_0y7,iw zb_1,iw zb_2,iw zb_3,.slice Ab_4 nb_4 cb_4,.string sb_5,.slice Ab_6 nb_6 cb_6] 27] ?_)
      refine ws [0,2] (tr le127 le133) ?_
      refine dn (Ok.ret_ (Ok.thenR ?_))
      exact Ok.ret1c (tr le5 (tr le127 le133)) [.K 1 0,.K 1 1,.K 1 2,.K 1 3,.K 1 4,.K 1 5,.K 1 6] (.agg #[iw zra_0y135,iw zra_1y135,iw zra_2y135,iw zra_3y135,.slice Ara_4y135 nra_4y135 cra_4y135,.string sra_5y135,.slice Ara_6y135 nra_6y135 cra_6y135]) [b1+1,b1+1,b1+1,b1+1,b1+1,b1+1,b1+1] rfl (by kernel_rfl) ⟨zra_0y135,zra_1y135,zra_2y135,zra_3y135,Ara_4y135,nra_4y135,cra_4y135,gra_4y135,sra_5y135,Ara_6y135,nra_6y135,cra_6y135,kra_6y135,rfl,hra_4y135,tra_5y135,hra_6y135,(fun f hf => good_atom (by omega) (by have := AllId.at_ hf (tr le5 (tr le127 le133)) ie130.1 ie130.2 (HasCell.mono (tr le127 le133) (cell0 (he130 0 _ rfl))); omega)),(bnd_nil py135_1)⟩
    have h122 := of_decide_eq_false h122
    refine skn (sr (g4 4 (fun b137 => [(0,.slice Aa_0 na_0 ca_0),(2,iw zc_0),(4,pt b1 0),(6,pt (b1+1) 0),(7,iw zra_0y7),(9,pt b137 0)]) (fun b137 => [.blk b1 [iw zb_0,iw zb_1,iw zb_2,iw zb_3,.slice Ab_4 nb_4 cb_4,.string sb_5,.slice Ab_6 nb_6 cb_6] 27,.blk (b1+1) [iw 0,iw 0,iw 0,iw 0,n0,s0,n0] 27,.blk b137 [iw zra_0y7,iw 0,iw 0,iw 0,n0,s0,n0] 27]) [gz,gz,.g [.N],.g [.K 2 0,.K 2 1,.K 2 2,.K 2 3,.K 2 4,.K 2 5,.K 2 6]] rfl (fun b137 => (en rfl ?_))))
    refine Ok.seq (sr (g0 1 [(0,.slice Aa_0 na_0 ca_0),(2,iw zc_0),(4,pt b1 0),(6,pt (b1+1) 0),(7,iw zra_0y7),(9,pt b137 0),(10,iw 0)] [gz] rfl (en rfl (Ok.blk (Ok.nilRow 7 27 (Ok.restr [0,2,4,6,7,9,10] [(0,.slice Aa_0 na_0 ca_0),(2,iw zc_0),(4,pt b1 0),(6,pt (b1+1) 0),(7,iw zra_0y7),(9,pt b137 0),(10,iw 0)] rfl (Ok.loop (fun H' fr kb m => ∃ (zL139_10 : Int) (AL139r3 : Option Addr) (nL139r3 : Nat) (cL139r3 : Nat) (xL139r3 : List Value) (KL139r3 : PTs) (RL139 : PTs),fr = [(0,.slice Aa_0 na_0 ca_0),(2,iw zc_0),(4,pt b1 0),(6,pt (b1+1) 0),(7,iw zra_0y7),(9,pt b137 0),(10,iw zL139_10)] ∧ kb = [.blk b1 [iw zb_0,iw zb_1,iw zb_2,iw zb_3,.slice Ab_4 nb_4 cb_4,.string sb_5,.slice Ab_6 nb_6 cb_6] 27,.blk (b1+1) [iw 0,iw 0,iw 0,iw 0,n0,s0,n0] 27,.blk b137 [iw zra_0y7,iw 0,iw 0,iw 0,n0,s0,.slice AL139r3 nL139r3 cL139r3] 27,.row (.slice AL139r3 nL139r3 cL139r3) nL139r3 7 27 xL139r3] ∧ m = ((((nb_6 : Nat) : Int)) - zL139_10).toNat ∧ SLe H4 H' ∧ 0 ≤ zL139_10 ∧ zL139_10 ≤ ((nb_6 : Nat) : Int) ∧ (zra_0y7 ≠ 7 ∨ zL139_10 ≤ 1) ∧ (((nL139r3 : Nat) : Int) = zL139_10 ∧ zL139_10 ≤ 16) ∧ zL139_10 + ((RL139.len : Nat) : Int) = ((nb_6 : Nat) : Int) ∧ RL139.depth ≤ kb_6.depth ∧ RowPs H' KL139r3 xL139r3 ∧ nL139r3 = KL139r3.len ∧ KidsAt H' RL139 Ab_6 (zL139_10).toNat ∧ (∀ f,AllId H Aa_0 na_0 f → KL139r3.goods f) ∧ KL139r3.bnds) _ ⟨0,none,0,0,[],PTs.nil,kb_6,rfl,rfl,rfl,SLe.refl _,by decide,by omega,by omega,by omega,by omega,by omega,RowPs.nil,rfl,(KidsIs.mono le5 hb_6).2.2,(fun f _ => goods_nil f),bnds_nil⟩ ?_)))))))
    rintro H140 _ _ mL139 ⟨zL139_10,AL139r3,nL139r3,cL139r3,xL139r3,KL139r3,RL139,rfl,rfl,hmL139,le141,fL139_0,fL139_1,fL139_2,fL139_3,fL139_4,fL139_5,EL139r3,LL139r3,QL139,XL139_0,XL139_1⟩
    refine Ok.seq (sr (g0 6 [(0,.slice Aa_0 na_0 ca_0),(2,iw zc_0),(4,pt b1 0),(6,pt (b1+1) 0),(7,iw zra_0y7),(9,pt b137 0),(10,iw zL139_10),(56,.bool (decide (zL139_10 < ((nb_6 : Nat) : Int))))] [gz,gz,.g [.K 0 6],gz,gz,gz] rfl (cs (decide (zL139_10 < ((nb_6 : Nat) : Int))) [56] (fun h143 => ?_) (fun h143 => ?_))))
    · have h143 := of_decide_eq_true h143
      refine g0 9 [(0,.slice Aa_0 na_0 ca_0),(2,iw zc_0),(4,pt b1 0),(6,pt (b1+1) 0),(7,iw zra_0y7),(9,pt b137 0),(10,iw zL139_10),(59,.bool (decide (zL139_10 < 16)))] [gz,gz,gz] rfl (en rfl (cd (decide (zL139_10 < 16)) (fun h145 => ?_) (fun h145 => ?_)))
      · have h145 := of_decide_eq_true h145
        refine skn (Ok.seq (Ok.blk (Ok.seq (sr (g0 3 [(0,.slice Aa_0 na_0 ca_0),(2,iw zc_0),(4,pt b1 0),(6,pt (b1+1) 0),(7,iw zra_0y7),(9,pt b137 0),(10,iw zL139_10),(64,.bool (zra_0y7 == 7))] [gz,gz,gz] rfl (cs (zra_0y7 == 7) [64] (fun h147 => ?_) (fun h147 => ?_)))))))
        · have h147 := eq_of_beq h147
          refine g0 6 [(0,.slice Aa_0 na_0 ca_0),(2,iw zc_0),(4,pt b1 0),(6,pt (b1+1) 0),(7,iw zra_0y7),(9,pt b137 0),(10,iw zL139_10),(67,.bool (decide (zL139_10 > 0)))] [gz,gz,gz] rfl (en rfl (cd (decide (zL139_10 > 0)) (fun h149 => ?_) (fun h149 => ?_)))
          · have h149 := of_decide_eq_true h149
            refine Ok.exit_ (Ok.thenE (Ok.blkM rfl (Ok.thenE (Ok.thenE (Ok.blkE (Ok.thenN (Ok.seq (sr (g0 3 [(6,pt (b1+1) 0),(9,pt b137 0),(84,.bool (zra_0y7 == 7))] [gz,gz,gz] rfl (cs (zra_0y7 == 7) [84] (fun h151 => ?_) (fun h151 => ?_)))))))))))
            · have h151 := eq_of_beq h151
              refine g0 8 [(6,pt (b1+1) 0),(9,pt b137 0),(89,.bool (((nL139r3 : Nat) : Int) == 0))] [gz,.g [.K 2 6],gz,gz,gz] rfl (en rfl (cd (((nL139r3 : Nat) : Int) == 0) (fun h153 => ?_) (fun h153 => ?_)))
              · have h153 := eq_of_beq h153
                refine Ok.reg (g4 4 (fun b154 => [(6,pt (b1+1) 0),(9,pt b137 0)]) (fun b154 => [.blk b1 [iw zb_0,iw zb_1,iw zb_2,iw zb_3,.slice Ab_4 nb_4 cb_4,.string sb_5,.slice Ab_6 nb_6 cb_6] 27,.blk (b1+1) [iw 0,iw 0,iw 0,iw 0,n0,s0,n0] 27,.blk b137 [iw zra_0y7,iw 0,iw 0,iw 0,n0,s0,sl b154 0 1 1] 27,.row (.slice AL139r3 nL139r3 cL139r3) nL139r3 7 27 xL139r3,.blk b154 [iw 0,iw 0,iw 0,iw 0,n0,s0,n0] 27]) [gz,.g [.N],gz,.g [.K 2 6]] rfl (fun b154 => (en rfl ?_)))
                refine sr (g1 2 [(6,pt (b1+1) 0)] [.blk b1 [iw zb_0,iw zb_1,iw zb_2,iw zb_3,.slice Ab_4 nb_4 cb_4,.string sb_5,.slice Ab_6 nb_6 cb_6] 27,.blk (b1+1) [iw zra_0y7,iw 0,iw 0,iw 0,n0,s0,sl b154 0 1 1] 27,.blk b137 [iw zra_0y7,iw 0,iw 0,iw 0,n0,s0,sl b154 0 1 1] 27,.row (.slice AL139r3 nL139r3 cL139r3) nL139r3 7 27 xL139r3,.blk b154 [iw 0,iw 0,iw 0,iw 0,n0,s0,n0] 27] [.g [.K 2 0,.K 2 1,.K 2 2,.K 2 3,.K 2 4,.K 2 5,.K 2 6],.g [.K 1 0,.K 1 1,.K 1 2,.K 1 3,.K 1 4,.K 1 5,.K 1 6]] rfl (en rfl (Ok.ret_ (Ok.pubP 4 rfl [.blk b1 [iw zb_0,iw zb_1,iw zb_2,iw zb_3,.slice Ab_4 nb_4 cb_4,.string sb_5,.slice Ab_6 nb_6 cb_6] 27,.blk (b1+1) [iw zra_0y7,iw 0,iw 0,iw 0,n0,s0,sl b154 0 1 1] 27,.blk b137 [iw zra_0y7,iw 0,iw 0,iw 0,n0,s0,sl b154 0 1 1] 27,.row (.slice AL139r3 nL139r3 cL139r3) nL139r3 7 27 xL139r3] rfl ?_))))
                intro H156 le157 pf158
                exact Ok.ret1c (tr le5 (tr le141 le157)) [.K 1 0,.K 1 1,.K 1 2,.K 1 3,.K 1 4,.K 1 5,.K 1 6] (.agg #[iw zra_0y7,iw 0,iw 0,iw 0,n0,s0,sl b154 0 1 1]) [b1+1,b1+1,b1+1,b1+1,b1+1,b1+1,b1+1] rfl (by kernel_rfl) ⟨zra_0y7,0,0,0,none,0,0,[],(⟨#[]⟩ : ByteArray),(some ⟨b154,0,none⟩),1,1,(PTs.cons (PT.node 0 0 0 0 [] (⟨#[]⟩ : ByteArray) PTs.nil) PTs.nil),rfl,(LstIs.nil _ _ _),(by decide),(KidsIs.of_pre pf158 (RowPs.lit (PredIs.mk (LstIs.nil _ _ _) (by decide) (KidsIs.nil _))) rfl (by decide)),(fun f hf => good_op (.inr (.inr ⟨by omega,rfl⟩)) (goods_one (good_zero _ _ _ _ _ _ _))),(bnd_node (by decide) (bnds_one bnd_leaf))⟩
              have h153 := ne_of_beq_false h153
              refine skn (sr (g1 2 [(6,pt (b1+1) 0)] [.blk b1 [iw zb_0,iw zb_1,iw zb_2,iw zb_3,.slice Ab_4 nb_4 cb_4,.string sb_5,.slice Ab_6 nb_6 cb_6] 27,.blk (b1+1) [iw zra_0y7,iw 0,iw 0,iw 0,n0,s0,.slice AL139r3 nL139r3 cL139r3] 27,.blk b137 [iw zra_0y7,iw 0,iw 0,iw 0,n0,s0,.slice AL139r3 nL139r3 cL139r3] 27,.row (.slice AL139r3 nL139r3 cL139r3) nL139r3 7 27 xL139r3] [.g [.K 2 0,.K 2 1,.K 2 2,.K 2 3,.K 2 4,.K 2 5,.K 2 6],.g [.K 1 0,.K 1 1,.K 1 2,.K 1 3,.K 1 4,.K 1 5,.K 1 6]] rfl (en rfl (Ok.ret_ (Ok.pubK (ks := KL139r3) 3 rfl EL139r3 LL139r3 (by omega) [.blk b1 [iw zb_0,iw zb_1,iw zb_2,iw zb_3,.slice Ab_4 nb_4 cb_4,.string sb_5,.slice Ab_6 nb_6 cb_6] 27,.blk (b1+1) [iw zra_0y7,iw 0,iw 0,iw 0,n0,s0,.slice AL139r3 nL139r3 cL139r3] 27,.blk b137 [iw zra_0y7,iw 0,iw 0,iw 0,n0,s0,.slice AL139r3 nL139r3 cL139r3] 27] rfl ?_)))))
              intro H160 le161 f162
              have lf162 := f162.2.1
              have mf162 := f162.1
              exact Ok.ret1c (tr le5 (tr le141 le161)) [.K 1 0,.K 1 1,.K 1 2,.K 1 3,.K 1 4,.K 1 5,.K 1 6] (.agg #[iw zra_0y7,iw 0,iw 0,iw 0,n0,s0,.slice AL139r3 nL139r3 cL139r3]) [b1+1,b1+1,b1+1,b1+1,b1+1,b1+1,b1+1] rfl (by kernel_rfl) ⟨zra_0y7,0,0,0,none,0,0,[],(⟨#[]⟩ : ByteArray),AL139r3,nL139r3,cL139r3,KL139r3,rfl,(LstIs.nil _ _ _),(by decide),f162,(fun f hf => good_op (by omega) (XL139_0 f hf)),(bnd_node (by omega) XL139_1)⟩
            have h151 := ne_of_beq_false h151
            exact absurd h147 h151
          have h149 := of_decide_eq_false h149
          refine skn (st [0,1,2] [14] 15 ?_)
          have ie163 : 0 < RL139.len := by omega
          have ze163 : 0 ≤ zL139_10 ∧ zL139_10 < ((nb_6 : Nat) : Int) := by omega
          obtain ⟨ke163,re163,rfl⟩ := PTs.open_ ie163
          obtain ⟨je163,⟨cse163,we163,he163⟩,ne163⟩ := (QL139).cons
          obtain ⟨ae163,be163,ce163,de163,se163,te163,kse163,rfl⟩ := PTs.node_ ke163
          obtain ⟨Ae163_4,ne163_4,ce163_4,Ae163_6,ne163_6,ce163_6,rfl,fe163_4,txe163,fe163_6⟩ := we163.open_
          have xe163 := PTs.len_cons (PT.node ae163 be163 ce163 de163 se163 te163 kse163) re163
          have ye163 := PTs.depth1 ae163 be163 ce163 de163 se163 te163 kse163 re163
          have ve163 := PTs.depth2 (PT.node ae163 be163 ce163 de163 se163 te163 kse163) re163
          have lfe163_4 := fe163_4.2.1
          have mfe163_4 := fe163_4.1
          have lfe163_6 := fe163_6.2.1
          have mfe163_6 := fe163_6.1
          refine tx 5 [(0,gz),(1,.g [.K 2 6]),(2,gz),(3,gz),(4,.g [.K 0 6]),(5,gz),(6,.ix),(7,.g [.X (iw ae163),.X (iw be163),.X (iw ce163),.X (iw de163),.X (.slice Ae163_4 ne163_4 ce163_4),.X (.string te163),.X (.slice Ae163_6 ne163_6 ce163_6)]),(8,gz),(9,gz)] [(0,.slice Aa_0 na_0 ca_0),(2,iw zc_0),(4,pt b1 0),(6,pt (b1+1) 0),(7,iw zra_0y7),(9,pt b137 0),(10,iw zL139_10),(69,.slice AL139r3 nL139r3 cL139r3),(70,.slice Aa_0 na_0 ca_0),(75,.agg #[iw ae163,iw be163,iw ce163,iw de163,.slice Ae163_4 ne163_4 ce163_4,.string te163,.slice Ae163_6 ne163_6 ce163_6]),(77,iw (w64 (zc_0 - 1)))] (ex1 (And.intro je163 ze163) (ex1 (cell0 (he163 0 _ rfl)) (ex1 (he163 (1) _ rfl) (ex1 (he163 (2) _ rfl) (ex1 (he163 (3) _ rfl) (ex1 (he163 (4) _ rfl) (ex1 (he163 (5) _ rfl) (ex1 (he163 (6) _ rfl) ex0)))))))) rfl ?_
          refine on 10 4 rfl (ca (some 78) (ih kse163.depth (by omega) H140 Aa_0 (na_0) (ca_0) ae163 be163 ce163 de163 Ae163_4 (ne163_4) (ce163_4) se163 te163 Ae163_6 (ne163_6) (ce163_6) kse163 (w64 (zc_0 - 1)) (WfS.mono (tr le5 le141) ha_0) fe163_4 txe163 fe163_6 (by omega) (Nat.le_refl _)) ?_)
          rintro v164 H165 k167 le166 ⟨zra_0y168,zra_1y168,zra_2y168,zra_3y168,Ara_4y168,nra_4y168,cra_4y168,gra_4y168,sra_5y168,Ara_6y168,nra_6y168,cra_6y168,kra_6y168,rfl,hra_4y168,tra_5y168,hra_6y168,py168_0,py168_1⟩
          have lhra_4y168 := hra_4y168.2.1
          have mhra_4y168 := hra_4y168.1
          have lhra_6y168 := hra_6y168.2.1
          have mhra_6y168 := hra_6y168.1
          refine ws [0,1,2] le166 ?_
          refine on 11 3 rfl (e4 (.g [.N]) (fun b169 => [(0,.slice Aa_0 na_0 ca_0),(2,iw zc_0),(4,pt b1 0),(6,pt (b1+1) 0),(7,iw zra_0y7),(9,pt b137 0),(10,iw zL139_10),(69,.slice AL139r3 nL139r3 cL139r3),(79,sl b169 0 1 1)]) (fun b169 => [.blk b1 [iw zb_0,iw zb_1,iw zb_2,iw zb_3,.slice Ab_4 nb_4 cb_4,.string sb_5,.slice Ab_6 nb_6 cb_6] 27,.blk (b1+1) [iw 0,iw 0,iw 0,iw 0,n0,s0,n0] 27,.blk b137 [iw zra_0y7,iw 0,iw 0,iw 0,n0,s0,.slice AL139r3 nL139r3 cL139r3] 27,.row (.slice AL139r3 nL139r3 cL139r3) nL139r3 7 27 xL139r3,.blk b169 [iw zra_0y168,iw zra_1y168,iw zra_2y168,iw zra_3y168,.slice Ara_4y168 nra_4y168 cra_4y168,.string sra_5y168,.slice Ara_6y168 nra_6y168 cra_6y168] 27]) (fun b169 => ?_))
          refine ws [0,1,2] le166 ?_
          refine on 12 2 rfl (Eff.appendN (t := 25) (d := some 80) (ad := ⟨b169,0,none⟩) (m := 1) (c := 1) 3 rfl (by kernel_rfl) 100000000 (by kernel_rfl) (by omega) rfl [iw zra_0y168,iw zra_1y168,iw zra_2y168,iw zra_3y168,.slice Ara_4y168 nra_4y168 cra_4y168,.string sra_5y168,.slice Ara_6y168 nra_6y168 cra_6y168] (reads_blk (cs := [iw zra_0y168,iw zra_1y168,iw zra_2y168,iw zra_3y168,.slice Ara_4y168 nra_4y168 cra_4y168,.string sra_5y168,.slice Ara_6y168 nra_6y168 cra_6y168]) 4 rfl 0 7) rfl rfl (by omega) (fun g170 cap171 => ?_))
          have E173 : RowPs H165 (KL139r3.snoc (PT.node zra_0y168 zra_1y168 zra_2y168 zra_3y168 gra_4y168 sra_5y168 kra_6y168)) (xL139r3 ++ [iw zra_0y168,iw zra_1y168,iw zra_2y168,iw zra_3y168,.slice Ara_4y168 nra_4y168 cra_4y168,.string sra_5y168,.slice Ara_6y168 nra_6y168 cra_6y168]) := (RowPs.snoc (RowPs.mono le166 EL139r3) (PredIs.mk hra_4y168 tra_5y168 hra_6y168))
          generalize (xL139r3 ++ [iw zra_0y168,iw zra_1y168,iw zra_2y168,iw zra_3y168,.slice Ara_4y168 nra_4y168 cra_4y168,.string sra_5y168,.slice Ara_6y168 nra_6y168 cra_6y168]) = x172 at E173 ⊢
          refine ws [0,1,2] le166 ?_
          refine tk 1 [(13,gz)] [(0,.slice Aa_0 na_0 ca_0),(2,iw zc_0),(4,pt b1 0),(6,pt (b1+1) 0),(7,iw zra_0y7),(9,pt b137 0),(10,iw zL139_10),(80,.slice ((some ⟨g170,0,none⟩)) ((nL139r3 + 1)) cap171),(81,pt b137 6)] rfl ?_
          refine Ok.toE (ol 14 0 rfl (e1 (.g [.K 2 6]) [(0,.slice Aa_0 na_0 ca_0),(2,iw zc_0),(4,pt b1 0),(6,pt (b1+1) 0),(7,iw zra_0y7),(9,pt b137 0),(10,iw zL139_10)] [.blk b1 [iw zb_0,iw zb_1,iw zb_2,iw zb_3,.slice Ab_4 nb_4 cb_4,.string sb_5,.slice Ab_6 nb_6 cb_6] 27,.blk (b1+1) [iw 0,iw 0,iw 0,iw 0,n0,s0,n0] 27,.blk b137 [iw zra_0y7,iw 0,iw 0,iw 0,n0,s0,.slice ((some ⟨g170,0,none⟩)) ((nL139r3 + 1)) cap171] 27,.row (.slice ((some ⟨g170,0,none⟩)) ((nL139r3 + 1)) cap171) ((nL139r3 + 1)) 7 27 x172,.blk b169 [iw zra_0y168,iw zra_1y168,iw zra_2y168,iw zra_3y168,.slice Ara_4y168 nra_4y168 cra_4y168,.string sra_5y168,.slice Ara_6y168 nra_6y168 cra_6y168] 27] ?_))
          refine Ok.doneE (by kernel_rfl) ?_
          refine Ok.blkN (Ok.thenN (Ok.reg ?_))
          have k177 := wid (x := zL139_10 + 1) (by omega)
          refine g0 3 [(0,.slice Aa_0 na_0 ca_0),(2,iw zc_0),(4,pt b1 0),(6,pt (b1+1) 0),(7,iw zra_0y7),(9,pt b137 0),(10,iw (w64 (zL139_10 + 1)))] [gz,gz,gz] rfl (en rfl (Ok.restr [0,2,4,6,7,9,10] [(0,.slice Aa_0 na_0 ca_0),(2,iw zc_0),(4,pt b1 0),(6,pt (b1+1) 0),(7,iw zra_0y7),(9,pt b137 0),(10,iw (w64 (zL139_10 + 1)))] rfl (Ok.mask [true,true,true,true,false] [.blk b1 [iw zb_0,iw zb_1,iw zb_2,iw zb_3,.slice Ab_4 nb_4 cb_4,.string sb_5,.slice Ab_6 nb_6 cb_6] 27,.blk (b1+1) [iw 0,iw 0,iw 0,iw 0,n0,s0,n0] 27,.blk b137 [iw zra_0y7,iw 0,iw 0,iw 0,n0,s0,.slice ((some ⟨g170,0,none⟩)) ((nL139r3 + 1)) cap171] 27,.row (.slice ((some ⟨g170,0,none⟩)) ((nL139r3 + 1)) cap171) ((nL139r3 + 1)) 7 27 x172] rfl ?_)))
          exact Ok.again _ ⟨(w64 (zL139_10 + 1)),((some ⟨g170,0,none⟩)),(nL139r3 + 1),cap171,x172,(KL139r3.snoc (PT.node zra_0y168 zra_1y168 zra_2y168 zra_3y168 gra_4y168 sra_5y168 kra_6y168)),re163,rfl,rfl,rfl,(tr le141 le166),by omega,by omega,by omega,by omega,by omega,by omega,E173,(PTs.snoc_len _ LL139r3),(KidsAt.cast (KidsAt.mono le166 ne163) (by omega)),(fun f hf => goods_snoc (XL139_0 f hf) (py168_0 f (AllId.mono (tr le5 le141) hf))),(bnds_snoc XL139_1 py168_1)⟩ (by omega)
        have h147 := ne_of_beq_false h147
        refine g0 6 [(0,.slice Aa_0 na_0 ca_0),(2,iw zc_0),(4,pt b1 0),(6,pt (b1+1) 0),(7,iw zra_0y7),(9,pt b137 0),(10,iw zL139_10),(67,bF)] [gz,gz,gz] rfl (en rfl (cF (skn (st [0,1,2] [14] 15 ?_))))
        have ie179 : 0 < RL139.len := by omega
        have ze179 : 0 ≤ zL139_10 ∧ zL139_10 < ((nb_6 : Nat) : Int) := by omega
        obtain ⟨ke179,re179,rfl⟩ := PTs.open_ ie179
        obtain ⟨je179,⟨cse179,we179,he179⟩,ne179⟩ := (QL139).cons
        obtain ⟨ae179,be179,ce179,de179,se179,te179,kse179,rfl⟩ := PTs.node_ ke179
        obtain ⟨Ae179_4,ne179_4,ce179_4,Ae179_6,ne179_6,ce179_6,rfl,fe179_4,txe179,fe179_6⟩ := we179.open_
        have xe179 := PTs.len_cons (PT.node ae179 be179 ce179 de179 se179 te179 kse179) re179
        have ye179 := PTs.depth1 ae179 be179 ce179 de179 se179 te179 kse179 re179
        have ve179 := PTs.depth2 (PT.node ae179 be179 ce179 de179 se179 te179 kse179) re179
        have lfe179_4 := fe179_4.2.1
        have mfe179_4 := fe179_4.1
        have lfe179_6 := fe179_6.2.1
        have mfe179_6 := fe179_6.1
        refine tx 5 [(0,gz),(1,.g [.K 2 6]),(2,gz),(3,gz),(4,.g [.K 0 6]),(5,gz),(6,.ix),(7,.g [.X (iw ae179),.X (iw be179),.X (iw ce179),.X (iw de179),.X (.slice Ae179_4 ne179_4 ce179_4),.X (.string te179),.X (.slice Ae179_6 ne179_6 ce179_6)]),(8,gz),(9,gz)] [(0,.slice Aa_0 na_0 ca_0),(2,iw zc_0),(4,pt b1 0),(6,pt (b1+1) 0),(7,iw zra_0y7),(9,pt b137 0),(10,iw zL139_10),(69,.slice AL139r3 nL139r3 cL139r3),(70,.slice Aa_0 na_0 ca_0),(75,.agg #[iw ae179,iw be179,iw ce179,iw de179,.slice Ae179_4 ne179_4 ce179_4,.string te179,.slice Ae179_6 ne179_6 ce179_6]),(77,iw (w64 (zc_0 - 1)))] (ex1 (And.intro je179 ze179) (ex1 (cell0 (he179 0 _ rfl)) (ex1 (he179 (1) _ rfl) (ex1 (he179 (2) _ rfl) (ex1 (he179 (3) _ rfl) (ex1 (he179 (4) _ rfl) (ex1 (he179 (5) _ rfl) (ex1 (he179 (6) _ rfl) ex0)))))))) rfl ?_
        refine on 10 4 rfl (ca (some 78) (ih kse179.depth (by omega) H140 Aa_0 (na_0) (ca_0) ae179 be179 ce179 de179 Ae179_4 (ne179_4) (ce179_4) se179 te179 Ae179_6 (ne179_6) (ce179_6) kse179 (w64 (zc_0 - 1)) (WfS.mono (tr le5 le141) ha_0) fe179_4 txe179 fe179_6 (by omega) (Nat.le_refl _)) ?_)
        rintro v180 H181 k183 le182 ⟨zra_0y184,zra_1y184,zra_2y184,zra_3y184,Ara_4y184,nra_4y184,cra_4y184,gra_4y184,sra_5y184,Ara_6y184,nra_6y184,cra_6y184,kra_6y184,rfl,hra_4y184,tra_5y184,hra_6y184,py184_0,py184_1⟩
        have lhra_4y184 := hra_4y184.2.1
        have mhra_4y184 := hra_4y184.1
        have lhra_6y184 := hra_6y184.2.1
        have mhra_6y184 := hra_6y184.1
        refine ws [0,1,2] le182 ?_
        refine on 11 3 rfl (e4 (.g [.N]) (fun b185 => [(0,.slice Aa_0 na_0 ca_0),(2,iw zc_0),(4,pt b1 0),(6,pt (b1+1) 0),(7,iw zra_0y7),(9,pt b137 0),(10,iw zL139_10),(69,.slice AL139r3 nL139r3 cL139r3),(79,sl b185 0 1 1)]) (fun b185 => [.blk b1 [iw zb_0,iw zb_1,iw zb_2,iw zb_3,.slice Ab_4 nb_4 cb_4,.string sb_5,.slice Ab_6 nb_6 cb_6] 27,.blk (b1+1) [iw 0,iw 0,iw 0,iw 0,n0,s0,n0] 27,.blk b137 [iw zra_0y7,iw 0,iw 0,iw 0,n0,s0,.slice AL139r3 nL139r3 cL139r3] 27,.row (.slice AL139r3 nL139r3 cL139r3) nL139r3 7 27 xL139r3,.blk b185 [iw zra_0y184,iw zra_1y184,iw zra_2y184,iw zra_3y184,.slice Ara_4y184 nra_4y184 cra_4y184,.string sra_5y184,.slice Ara_6y184 nra_6y184 cra_6y184] 27]) (fun b185 => ?_))
        refine ws [0,1,2] le182 ?_
        refine on 12 2 rfl (Eff.appendN (t := 25) (d := some 80) (ad := ⟨b185,0,none⟩) (m := 1) (c := 1) 3 rfl (by kernel_rfl) 100000000 (by kernel_rfl) (by omega) rfl [iw zra_0y184,iw zra_1y184,iw zra_2y184,iw zra_3y184,.slice Ara_4y184 nra_4y184 cra_4y184,.string sra_5y184,.slice Ara_6y184 nra_6y184 cra_6y184] (reads_blk (cs := [iw zra_0y184,iw zra_1y184,iw zra_2y184,iw zra_3y184,.slice Ara_4y184 nra_4y184 cra_4y184,.string sra_5y184,.slice Ara_6y184 nra_6y184 cra_6y184]) 4 rfl 0 7) rfl rfl (by omega) (fun g186 cap187 => ?_))
        have E189 : RowPs H181 (KL139r3.snoc (PT.node zra_0y184 zra_1y184 zra_2y184 zra_3y184 gra_4y184 sra_5y184 kra_6y184)) (xL139r3 ++ [iw zra_0y184,iw zra_1y184,iw zra_2y184,iw zra_3y184,.slice Ara_4y184 nra_4y184 cra_4y184,.string sra_5y184,.slice Ara_6y184 nra_6y184 cra_6y184]) := (RowPs.snoc (RowPs.mono le182 EL139r3) (PredIs.mk hra_4y184 tra_5y184 hra_6y184))
        generalize (xL139r3 ++ [iw zra_0y184,iw zra_1y184,iw zra_2y184,iw zra_3y184,.slice Ara_4y184 nra_4y184 cra_4y184,.string sra_5y184,.slice Ara_6y184 nra_6y184 cra_6y184]) = x188 at E189 ⊢
        refine ws [0,1,2] le182 ?_
        refine tk 1 [(13,gz)] [(0,.slice Aa_0 na_0 ca_0),(2,iw zc_0),(4,pt b1 0),(6,pt (b1+1) 0),(7,iw zra_0y7),(9,pt b137 0),(10,iw zL139_10),(80,.slice ((some ⟨g186,0,none⟩)) ((nL139r3 + 1)) cap187),(81,pt b137 6)] rfl ?_
        refine Ok.toE (ol 14 0 rfl (e1 (.g [.K 2 6]) [(0,.slice Aa_0 na_0 ca_0),(2,iw zc_0),(4,pt b1 0),(6,pt (b1+1) 0),(7,iw zra_0y7),(9,pt b137 0),(10,iw zL139_10)] [.blk b1 [iw zb_0,iw zb_1,iw zb_2,iw zb_3,.slice Ab_4 nb_4 cb_4,.string sb_5,.slice Ab_6 nb_6 cb_6] 27,.blk (b1+1) [iw 0,iw 0,iw 0,iw 0,n0,s0,n0] 27,.blk b137 [iw zra_0y7,iw 0,iw 0,iw 0,n0,s0,.slice ((some ⟨g186,0,none⟩)) ((nL139r3 + 1)) cap187] 27,.row (.slice ((some ⟨g186,0,none⟩)) ((nL139r3 + 1)) cap187) ((nL139r3 + 1)) 7 27 x188,.blk b185 [iw zra_0y184,iw zra_1y184,iw zra_2y184,iw zra_3y184,.slice Ara_4y184 nra_4y184 cra_4y184,.string sra_5y184,.slice Ara_6y184 nra_6y184 cra_6y184] 27] ?_))
        refine Ok.doneE (by kernel_rfl) ?_
        refine Ok.blkN (Ok.thenN (Ok.reg ?_))
        have k193 := wid (x := zL139_10 + 1) (by omega)
        refine g0 3 [(0,.slice Aa_0 na_0 ca_0),(2,iw zc_0),(4,pt b1 0),(6,pt (b1+1) 0),(7,iw zra_0y7),(9,pt b137 0),(10,iw (w64 (zL139_10 + 1)))] [gz,gz,gz] rfl (en rfl (Ok.restr [0,2,4,6,7,9,10] [(0,.slice Aa_0 na_0 ca_0),(2,iw zc_0),(4,pt b1 0),(6,pt (b1+1) 0),(7,iw zra_0y7),(9,pt b137 0),(10,iw (w64 (zL139_10 + 1)))] rfl (Ok.mask [true,true,true,true,false] [.blk b1 [iw zb_0,iw zb_1,iw zb_2,iw zb_3,.slice Ab_4 nb_4 cb_4,.string sb_5,.slice Ab_6 nb_6 cb_6] 27,.blk (b1+1) [iw 0,iw 0,iw 0,iw 0,n0,s0,n0] 27,.blk b137 [iw zra_0y7,iw 0,iw 0,iw 0,n0,s0,.slice ((some ⟨g186,0,none⟩)) ((nL139r3 + 1)) cap187] 27,.row (.slice ((some ⟨g186,0,none⟩)) ((nL139r3 + 1)) cap187) ((nL139r3 + 1)) 7 27 x188] rfl ?_)))
        exact Ok.again _ ⟨(w64 (zL139_10 + 1)),((some ⟨g186,0,none⟩)),(nL139r3 + 1),cap187,x188,(KL139r3.snoc (PT.node zra_0y184 zra_1y184 zra_2y184 zra_3y184 gra_4y184 sra_5y184 kra_6y184)),re179,rfl,rfl,rfl,(tr le141 le182),by omega,by omega,by omega,by omega,by omega,by omega,E189,(PTs.snoc_len _ LL139r3),(KidsAt.cast (KidsAt.mono le182 ne179) (by omega)),(fun f hf => goods_snoc (XL139_0 f hf) (py184_0 f (AllId.mono (tr le5 le141) hf))),(bnds_snoc XL139_1 py184_1)⟩ (by omega)
      have h145 := of_decide_eq_false h145
      refine Ok.exit_ (Ok.thenE (Ok.thenE (Ok.blkE (Ok.thenN (Ok.seq (sr (g0 3 [(6,pt (b1+1) 0),(9,pt b137 0),(84,.bool (zra_0y7 == 7))] [gz,gz,gz] rfl (cs (zra_0y7 == 7) [84] (fun h195 => ?_) (fun h195 => ?_)))))))))
      · have h195 := eq_of_beq h195
        refine g0 8 [(6,pt (b1+1) 0),(9,pt b137 0),(89,.bool (((nL139r3 : Nat) : Int) == 0))] [gz,.g [.K 2 6],gz,gz,gz] rfl (en rfl (cd (((nL139r3 : Nat) : Int) == 0) (fun h197 => ?_) (fun h197 => ?_)))
        · have h197 := eq_of_beq h197
          refine Ok.reg (g4 4 (fun b198 => [(6,pt (b1+1) 0),(9,pt b137 0)]) (fun b198 => [.blk b1 [iw zb_0,iw zb_1,iw zb_2,iw zb_3,.slice Ab_4 nb_4 cb_4,.string sb_5,.slice Ab_6 nb_6 cb_6] 27,.blk (b1+1) [iw 0,iw 0,iw 0,iw 0,n0,s0,n0] 27,.blk b137 [iw zra_0y7,iw 0,iw 0,iw 0,n0,s0,sl b198 0 1 1] 27,.row (.slice AL139r3 nL139r3 cL139r3) nL139r3 7 27 xL139r3,.blk b198 [iw 0,iw 0,iw 0,iw 0,n0,s0,n0] 27]) [gz,.g [.N],gz,.g [.K 2 6]] rfl (fun b198 => (en rfl ?_)))
          refine sr (g1 2 [(6,pt (b1+1) 0)] [.blk b1 [iw zb_0,iw zb_1,iw zb_2,iw zb_3,.slice Ab_4 nb_4 cb_4,.string sb_5,.slice Ab_6 nb_6 cb_6] 27,.blk (b1+1) [iw zra_0y7,iw 0,iw 0,iw 0,n0,s0,sl b198 0 1 1] 27,.blk b137 [iw zra_0y7,iw 0,iw 0,iw 0,n0,s0,sl b198 0 1 1] 27,.row (.slice AL139r3 nL139r3 cL139r3) nL139r3 7 27 xL139r3,.blk b198 [iw 0,iw 0,iw 0,iw 0,n0,s0,n0] 27] [.g [.K 2 0,.K 2 1,.K 2 2,.K 2 3,.K 2 4,.K 2 5,.K 2 6],.g [.K 1 0,.K 1 1,.K 1 2,.K 1 3,.K 1 4,.K 1 5,.K 1 6]] rfl (en rfl (Ok.ret_ (Ok.pubP 4 rfl [.blk b1 [iw zb_0,iw zb_1,iw zb_2,iw zb_3,.slice Ab_4 nb_4 cb_4,.string sb_5,.slice Ab_6 nb_6 cb_6] 27,.blk (b1+1) [iw zra_0y7,iw 0,iw 0,iw 0,n0,s0,sl b198 0 1 1] 27,.blk b137 [iw zra_0y7,iw 0,iw 0,iw 0,n0,s0,sl b198 0 1 1] 27,.row (.slice AL139r3 nL139r3 cL139r3) nL139r3 7 27 xL139r3] rfl ?_))))
          intro H200 le201 pf202
          exact Ok.ret1c (tr le5 (tr le141 le201)) [.K 1 0,.K 1 1,.K 1 2,.K 1 3,.K 1 4,.K 1 5,.K 1 6] (.agg #[iw zra_0y7,iw 0,iw 0,iw 0,n0,s0,sl b198 0 1 1]) [b1+1,b1+1,b1+1,b1+1,b1+1,b1+1,b1+1] rfl (by kernel_rfl) ⟨zra_0y7,0,0,0,none,0,0,[],(⟨#[]⟩ : ByteArray),(some ⟨b198,0,none⟩),1,1,(PTs.cons (PT.node 0 0 0 0 [] (⟨#[]⟩ : ByteArray) PTs.nil) PTs.nil),rfl,(LstIs.nil _ _ _),(by decide),(KidsIs.of_pre pf202 (RowPs.lit (PredIs.mk (LstIs.nil _ _ _) (by decide) (KidsIs.nil _))) rfl (by decide)),(fun f hf => good_op (.inr (.inr ⟨by omega,rfl⟩)) (goods_one (good_zero _ _ _ _ _ _ _))),(bnd_node (by decide) (bnds_one bnd_leaf))⟩
        have h197 := ne_of_beq_false h197
        refine skn (sr (g1 2 [(6,pt (b1+1) 0)] [.blk b1 [iw zb_0,iw zb_1,iw zb_2,iw zb_3,.slice Ab_4 nb_4 cb_4,.string sb_5,.slice Ab_6 nb_6 cb_6] 27,.blk (b1+1) [iw zra_0y7,iw 0,iw 0,iw 0,n0,s0,.slice AL139r3 nL139r3 cL139r3] 27,.blk b137 [iw zra_0y7,iw 0,iw 0,iw 0,n0,s0,.slice AL139r3 nL139r3 cL139r3] 27,.row (.slice AL139r3 nL139r3 cL139r3) nL139r3 7 27 xL139r3] [.g [.K 2 0,.K 2 1,.K 2 2,.K 2 3,.K 2 4,.K 2 5,.K 2 6],.g [.K 1 0,.K 1 1,.K 1 2,.K 1 3,.K 1 4,.K 1 5,.K 1 6]] rfl (en rfl (Ok.ret_ (Ok.pubK (ks := KL139r3) 3 rfl EL139r3 LL139r3 (by omega) [.blk b1 [iw zb_0,iw zb_1,iw zb_2,iw zb_3,.slice Ab_4 nb_4 cb_4,.string sb_5,.slice Ab_6 nb_6 cb_6] 27,.blk (b1+1) [iw zra_0y7,iw 0,iw 0,iw 0,n0,s0,.slice AL139r3 nL139r3 cL139r3] 27,.blk b137 [iw zra_0y7,iw 0,iw 0,iw 0,n0,s0,.slice AL139r3 nL139r3 cL139r3] 27] rfl ?_)))))
        intro H204 le205 f206
        have lf206 := f206.2.1
        have mf206 := f206.1
        exact Ok.ret1c (tr le5 (tr le141 le205)) [.K 1 0,.K 1 1,.K 1 2,.K 1 3,.K 1 4,.K 1 5,.K 1 6] (.agg #[iw zra_0y7,iw 0,iw 0,iw 0,n0,s0,.slice AL139r3 nL139r3 cL139r3]) [b1+1,b1+1,b1+1,b1+1,b1+1,b1+1,b1+1] rfl (by kernel_rfl) ⟨zra_0y7,0,0,0,none,0,0,[],(⟨#[]⟩ : ByteArray),AL139r3,nL139r3,cL139r3,KL139r3,rfl,(LstIs.nil _ _ _),(by decide),f206,(fun f hf => good_op (by omega) (XL139_0 f hf)),(bnd_node (by omega) XL139_1)⟩
      have h195 := ne_of_beq_false h195
      refine g0 8 [(6,pt (b1+1) 0),(9,pt b137 0),(89,bF)] [gz,gz,gz,gz,gz] rfl (en rfl (cF (skn (sr (g1 2 [(6,pt (b1+1) 0)] [.blk b1 [iw zb_0,iw zb_1,iw zb_2,iw zb_3,.slice Ab_4 nb_4 cb_4,.string sb_5,.slice Ab_6 nb_6 cb_6] 27,.blk (b1+1) [iw zra_0y7,iw 0,iw 0,iw 0,n0,s0,.slice AL139r3 nL139r3 cL139r3] 27,.blk b137 [iw zra_0y7,iw 0,iw 0,iw 0,n0,s0,.slice AL139r3 nL139r3 cL139r3] 27,.row (.slice AL139r3 nL139r3 cL139r3) nL139r3 7 27 xL139r3] [.g [.K 2 0,.K 2 1,.K 2 2,.K 2 3,.K 2 4,.K 2 5,.K 2 6],.g [.K 1 0,.K 1 1,.K 1 2,.K 1 3,.K 1 4,.K 1 5,.K 1 6]] rfl (en rfl (Ok.ret_ (Ok.pubK (ks := KL139r3) 3 rfl EL139r3 LL139r3 (by omega) [.blk b1 [iw zb_0,iw zb_1,iw zb_2,iw zb_3,.slice Ab_4 nb_4 cb_4,.string sb_5,.slice Ab_6 nb_6 cb_6] 27,.blk (b1+1) [iw zra_0y7,iw 0,iw 0,iw 0,n0,s0,.slice AL139r3 nL139r3 cL139r3] 27,.blk b137 [iw zra_0y7,iw 0,iw 0,iw 0,n0,s0,.slice AL139r3 nL139r3 cL139r3] 27] rfl ?_))))))))
      intro H209 le210 f211
      have lf211 := f211.2.1
      have mf211 := f211.1
      exact Ok.ret1c (tr le5 (tr le141 le210)) [.K 1 0,.K 1 1,.K 1 2,.K 1 3,.K 1 4,.K 1 5,.K 1 6] (.agg #[iw zra_0y7,iw 0,iw 0,iw 0,n0,s0,.slice AL139r3 nL139r3 cL139r3]) [b1+1,b1+1,b1+1,b1+1,b1+1,b1+1,b1+1] rfl (by kernel_rfl) ⟨zra_0y7,0,0,0,none,0,0,[],(⟨#[]⟩ : ByteArray),AL139r3,nL139r3,cL139r3,KL139r3,rfl,(LstIs.nil _ _ _),(by decide),f211,(fun f hf => good_op (by omega) (XL139_0 f hf)),(bnd_node (by omega) XL139_1)⟩
    have h143 := of_decide_eq_false h143
    refine g0 9 [(0,.slice Aa_0 na_0 ca_0),(2,iw zc_0),(4,pt b1 0),(6,pt (b1+1) 0),(7,iw zra_0y7),(9,pt b137 0),(10,iw zL139_10),(59,bF)] [gz,gz,gz] rfl (en rfl (cF (Ok.exit_ (Ok.thenE (Ok.thenE (Ok.blkE (Ok.thenN (Ok.seq (sr (g0 3 [(6,pt (b1+1) 0),(9,pt b137 0),(84,.bool (zra_0y7 == 7))] [gz,gz,gz] rfl (cs (zra_0y7 == 7) [84] (fun h214 => ?_) (fun h214 => ?_))))))))))))
    · have h214 := eq_of_beq h214
      refine g0 8 [(6,pt (b1+1) 0),(9,pt b137 0),(89,.bool (((nL139r3 : Nat) : Int) == 0))] [gz,.g [.K 2 6],gz,gz,gz] rfl (en rfl (cd (((nL139r3 : Nat) : Int) == 0) (fun h216 => ?_) (fun h216 => ?_)))
      · have h216 := eq_of_beq h216
        refine Ok.reg (g4 4 (fun b217 => [(6,pt (b1+1) 0),(9,pt b137 0)]) (fun b217 => [.blk b1 [iw zb_0,iw zb_1,iw zb_2,iw zb_3,.slice Ab_4 nb_4 cb_4,.string sb_5,.slice Ab_6 nb_6 cb_6] 27,.blk (b1+1) [iw 0,iw 0,iw 0,iw 0,n0,s0,n0] 27,.blk b137 [iw zra_0y7,iw 0,iw 0,iw 0,n0,s0,sl b217 0 1 1] 27,.row (.slice AL139r3 nL139r3 cL139r3) nL139r3 7 27 xL139r3,.blk b217 [iw 0,iw 0,iw 0,iw 0,n0,s0,n0] 27]) [gz,.g [.N],gz,.g [.K 2 6]] rfl (fun b217 => (en rfl ?_)))
        refine sr (g1 2 [(6,pt (b1+1) 0)] [.blk b1 [iw zb_0,iw zb_1,iw zb_2,iw zb_3,.slice Ab_4 nb_4 cb_4,.string sb_5,.slice Ab_6 nb_6 cb_6] 27,.blk (b1+1) [iw zra_0y7,iw 0,iw 0,iw 0,n0,s0,sl b217 0 1 1] 27,.blk b137 [iw zra_0y7,iw 0,iw 0,iw 0,n0,s0,sl b217 0 1 1] 27,.row (.slice AL139r3 nL139r3 cL139r3) nL139r3 7 27 xL139r3,.blk b217 [iw 0,iw 0,iw 0,iw 0,n0,s0,n0] 27] [.g [.K 2 0,.K 2 1,.K 2 2,.K 2 3,.K 2 4,.K 2 5,.K 2 6],.g [.K 1 0,.K 1 1,.K 1 2,.K 1 3,.K 1 4,.K 1 5,.K 1 6]] rfl (en rfl (Ok.ret_ (Ok.pubP 4 rfl [.blk b1 [iw zb_0,iw zb_1,iw zb_2,iw zb_3,.slice Ab_4 nb_4 cb_4,.string sb_5,.slice Ab_6 nb_6 cb_6] 27,.blk (b1+1) [iw zra_0y7,iw 0,iw 0,iw 0,n0,s0,sl b217 0 1 1] 27,.blk b137 [iw zra_0y7,iw 0,iw 0,iw 0,n0,s0,sl b217 0 1 1] 27,.row (.slice AL139r3 nL139r3 cL139r3) nL139r3 7 27 xL139r3] rfl ?_))))
        intro H219 le220 pf221
        exact Ok.ret1c (tr le5 (tr le141 le220)) [.K 1 0,.K 1 1,.K 1 2,.K 1 3,.K 1 4,.K 1 5,.K 1 6] (.agg #[iw zra_0y7,iw 0,iw 0,iw 0,n0,s0,sl b217 0 1 1]) [b1+1,b1+1,b1+1,b1+1,b1+1,b1+1,b1+1] rfl (by kernel_rfl) ⟨zra_0y7,0,0,0,none,0,0,[],(⟨#[]⟩ : ByteArray),(some ⟨b217,0,none⟩),1,1,(PTs.cons (PT.node 0 0 0 0 [] (⟨#[]⟩ : ByteArray) PTs.nil) PTs.nil),rfl,(LstIs.nil _ _ _),(by decide),(KidsIs.of_pre pf221 (RowPs.lit (PredIs.mk (LstIs.nil _ _ _) (by decide) (KidsIs.nil _))) rfl (by decide)),(fun f hf => good_op (.inr (.inr ⟨by omega,rfl⟩)) (goods_one (good_zero _ _ _ _ _ _ _))),(bnd_node (by decide) (bnds_one bnd_leaf))⟩
      have h216 := ne_of_beq_false h216
      refine skn (sr (g1 2 [(6,pt (b1+1) 0)] [.blk b1 [iw zb_0,iw zb_1,iw zb_2,iw zb_3,.slice Ab_4 nb_4 cb_4,.string sb_5,.slice Ab_6 nb_6 cb_6] 27,.blk (b1+1) [iw zra_0y7,iw 0,iw 0,iw 0,n0,s0,.slice AL139r3 nL139r3 cL139r3] 27,.blk b137 [iw zra_0y7,iw 0,iw 0,iw 0,n0,s0,.slice AL139r3 nL139r3 cL139r3] 27,.row (.slice AL139r3 nL139r3 cL139r3) nL139r3 7 27 xL139r3] [.g [.K 2 0,.K 2 1,.K 2 2,.K 2 3,.K 2 4,.K 2 5,.K 2 6],.g [.K 1 0,.K 1 1,.K 1 2,.K 1 3,.K 1 4,.K 1 5,.K 1 6]] rfl (en rfl (Ok.ret_ (Ok.pubK (ks := KL139r3) 3 rfl EL139r3 LL139r3 (by omega) [.blk b1 [iw zb_0,iw zb_1,iw zb_2,iw zb_3,.slice Ab_4 nb_4 cb_4,.string sb_5,.slice Ab_6 nb_6 cb_6] 27,.blk (b1+1) [iw zra_0y7,iw 0,iw 0,iw 0,n0,s0,.slice AL139r3 nL139r3 cL139r3] 27,.blk b137 [iw zra_0y7,iw 0,iw 0,iw 0,n0,s0,.slice AL139r3 nL139r3 cL139r3] 27] rfl ?_)))))
      intro H223 le224 f225
      have lf225 := f225.2.1
      have mf225 := f225.1
      exact Ok.ret1c (tr le5 (tr le141 le224)) [.K 1 0,.K 1 1,.K 1 2,.K 1 3,.K 1 4,.K 1 5,.K 1 6] (.agg #[iw zra_0y7,iw 0,iw 0,iw 0,n0,s0,.slice AL139r3 nL139r3 cL139r3]) [b1+1,b1+1,b1+1,b1+1,b1+1,b1+1,b1+1] rfl (by kernel_rfl) ⟨zra_0y7,0,0,0,none,0,0,[],(⟨#[]⟩ : ByteArray),AL139r3,nL139r3,cL139r3,KL139r3,rfl,(LstIs.nil _ _ _),(by decide),f225,(fun f hf => good_op (by omega) (XL139_0 f hf)),(bnd_node (by omega) XL139_1)⟩
    have h214 := ne_of_beq_false h214
    refine g0 8 [(6,pt (b1+1) 0),(9,pt b137 0),(89,bF)] [gz,gz,gz,gz,gz] rfl (en rfl (cF (skn (sr (g1 2 [(6,pt (b1+1) 0)] [.blk b1 [iw zb_0,iw zb_1,iw zb_2,iw zb_3,.slice Ab_4 nb_4 cb_4,.string sb_5,.slice Ab_6 nb_6 cb_6] 27,.blk (b1+1) [iw zra_0y7,iw 0,iw 0,iw 0,n0,s0,.slice AL139r3 nL139r3 cL139r3] 27,.blk b137 [iw zra_0y7,iw 0,iw 0,iw 0,n0,s0,.slice AL139r3 nL139r3 cL139r3] 27,.row (.slice AL139r3 nL139r3 cL139r3) nL139r3 7 27 xL139r3] [.g [.K 2 0,.K 2 1,.K 2 2,.K 2 3,.K 2 4,.K 2 5,.K 2 6],.g [.K 1 0,.K 1 1,.K 1 2,.K 1 3,.K 1 4,.K 1 5,.K 1 6]] rfl (en rfl (Ok.ret_ (Ok.pubK (ks := KL139r3) 3 rfl EL139r3 LL139r3 (by omega) [.blk b1 [iw zb_0,iw zb_1,iw zb_2,iw zb_3,.slice Ab_4 nb_4 cb_4,.string sb_5,.slice Ab_6 nb_6 cb_6] 27,.blk (b1+1) [iw zra_0y7,iw 0,iw 0,iw 0,n0,s0,.slice AL139r3 nL139r3 cL139r3] 27,.blk b137 [iw zra_0y7,iw 0,iw 0,iw 0,n0,s0,.slice AL139r3 nL139r3 cL139r3] 27] rfl ?_))))))))
    intro H228 le229 f230
    have lf230 := f230.2.1
    have mf230 := f230.1
    exact Ok.ret1c (tr le5 (tr le141 le229)) [.K 1 0,.K 1 1,.K 1 2,.K 1 3,.K 1 4,.K 1 5,.K 1 6] (.agg #[iw zra_0y7,iw 0,iw 0,iw 0,n0,s0,.slice AL139r3 nL139r3 cL139r3]) [b1+1,b1+1,b1+1,b1+1,b1+1,b1+1,b1+1] rfl (by kernel_rfl) ⟨zra_0y7,0,0,0,none,0,0,[],(⟨#[]⟩ : ByteArray),AL139r3,nL139r3,cL139r3,KL139r3,rfl,(LstIs.nil _ _ _),(by decide),f230,(fun f hf => good_op (by omega) (XL139_0 f hf)),(bnd_node (by omega) XL139_1)⟩
  have h14 := of_decide_eq_false h14
  refine g0 15 [(0,.slice Aa_0 na_0 ca_0),(2,iw zc_0),(4,pt b1 0),(6,pt (b1+1) 0),(7,iw zra_0y7),(24,bF),(28,.bool (((na_0 : Nat) : Int) == 0))] [gz,gz,gz,gz,gz,gz,gz,gz,gz] rfl (cs (((na_0 : Nat) : Int) == 0) [28] (fun h232 => ?_) (fun h232 => ?_))
  · have h232 := eq_of_beq h232
    refine g0 19 [(0,.slice Aa_0 na_0 ca_0),(2,iw zc_0),(4,pt b1 0),(6,pt (b1+1) 0),(7,iw zra_0y7),(32,.bool (decide (zra_0y7 < 5)))] [gz,gz,gz,gz] rfl (en rfl (cd (decide (zra_0y7 < 5)) (fun h234 => ?_) (fun h234 => ?_)))
    · have h234 := of_decide_eq_true h234
      refine sr (g0 2 [(6,pt (b1+1) 0)] [gz,.g [.K 1 0,.K 1 1,.K 1 2,.K 1 3,.K 1 4,.K 1 5,.K 1 6]] rfl (en rfl (Ok.ret_ (Ok.thenR ?_))))
      exact Ok.ret1c le5 [.K 1 0,.K 1 1,.K 1 2,.K 1 3,.K 1 4,.K 1 5,.K 1 6] (.agg #[iw 0,iw 0,iw 0,iw 0,n0,s0,n0]) [b1+1,b1+1,b1+1,b1+1,b1+1,b1+1,b1+1] rfl (by kernel_rfl) ⟨0,0,0,0,none,0,0,[],(⟨#[]⟩ : ByteArray),none,0,0,PTs.nil,rfl,(LstIs.nil _ _ _),(by decide),(KidsIs.nil _),(fun f hf => good_zero _ _ _ _ _ _ _),bnd_leaf⟩
    have h234 := of_decide_eq_false h234
    refine skn (Ok.seq (sr (g0 2 [(0,.slice Aa_0 na_0 ca_0),(2,iw zc_0),(4,pt b1 0),(6,pt (b1+1) 0),(7,iw zra_0y7),(35,.bool (decide (zra_0y7 < 5)))] [gz,gz] rfl (en rfl (cd (decide (zra_0y7 < 5)) (fun h237 => ?_) (fun h237 => ?_))))))
    · have h237 := of_decide_eq_true h237
      exact absurd h237 h234
    have h237 := of_decide_eq_false h237
    refine skn (sr (g4 4 (fun b238 => [(0,.slice Aa_0 na_0 ca_0),(2,iw zc_0),(4,pt b1 0),(6,pt (b1+1) 0),(7,iw zra_0y7),(9,pt b238 0)]) (fun b238 => [.blk b1 [iw zb_0,iw zb_1,iw zb_2,iw zb_3,.slice Ab_4 nb_4 cb_4,.string sb_5,.slice Ab_6 nb_6 cb_6] 27,.blk (b1+1) [iw 0,iw 0,iw 0,iw 0,n0,s0,n0] 27,.blk b238 [iw zra_0y7,iw 0,iw 0,iw 0,n0,s0,n0] 27]) [gz,gz,.g [.N],.g [.K 2 0,.K 2 1,.K 2 2,.K 2 3,.K 2 4,.K 2 5,.K 2 6]] rfl (fun b238 => (en rfl ?_))))
    refine Ok.seq (sr (g0 1 [(0,.slice Aa_0 na_0 ca_0),(2,iw zc_0),(4,pt b1 0),(6,pt (b1+1) 0),(7,iw zra_0y7),(9,pt b238 0),(10,iw 0)] [gz] rfl (en rfl (Ok.blk (Ok.nilRow 7 27 (Ok.restr [0,2,4,6,7,9,10] [(0,.slice Aa_0 na_0 ca_0),(2,iw zc_0),(4,pt b1 0),(6,pt (b1+1) 0),(7,iw zra_0y7),(9,pt b238 0),(10,iw 0)] rfl (Ok.loop (fun H' fr kb m => ∃ (zL240_10 : Int) (AL240r3 : Option Addr) (nL240r3 : Nat) (cL240r3 : Nat) (xL240r3 : List Value) (KL240r3 : PTs) (RL240 : PTs),fr = [(0,.slice Aa_0 na_0 ca_0),(2,iw zc_0),(4,pt b1 0),(6,pt (b1+1) 0),(7,iw zra_0y7),(9,pt b238 0),(10,iw zL240_10)] ∧ kb = [.blk b1 [iw zb_0,iw zb_1,iw zb_2,iw zb_3,.slice Ab_4 nb_4 cb_4,.string sb_5,.slice Ab_6 nb_6 cb_6] 27,.blk (b1+1) [iw 0,iw 0,iw 0,iw 0,n0,s0,n0] 27,.blk b238 [iw zra_0y7,iw 0,iw 0,iw 0,n0,s0,.slice AL240r3 nL240r3 cL240r3] 27,.row (.slice AL240r3 nL240r3 cL240r3) nL240r3 7 27 xL240r3] ∧ m = ((((nb_6 : Nat) : Int)) - zL240_10).toNat ∧ SLe H4 H' ∧ 0 ≤ zL240_10 ∧ zL240_10 ≤ ((nb_6 : Nat) : Int) ∧ (zra_0y7 ≠ 7 ∨ zL240_10 ≤ 1) ∧ (((nL240r3 : Nat) : Int) = zL240_10 ∧ zL240_10 ≤ 16) ∧ zL240_10 + ((RL240.len : Nat) : Int) = ((nb_6 : Nat) : Int) ∧ RL240.depth ≤ kb_6.depth ∧ RowPs H' KL240r3 xL240r3 ∧ nL240r3 = KL240r3.len ∧ KidsAt H' RL240 Ab_6 (zL240_10).toNat ∧ (∀ f,AllId H Aa_0 na_0 f → KL240r3.goods f) ∧ KL240r3.bnds) _ ⟨0,none,0,0,[],PTs.nil,kb_6,rfl,rfl,rfl,SLe.refl _,by decide,by omega,by omega,by omega,by omega,by omega,RowPs.nil,rfl,(KidsIs.mono le5 hb_6).2.2,(fun f _ => goods_nil f),bnds_nil⟩ ?_)))))))
    rintro H241 _ _ mL240 ⟨zL240_10,AL240r3,nL240r3,cL240r3,xL240r3,KL240r3,RL240,rfl,rfl,hmL240,le242,fL240_0,fL240_1,fL240_2,fL240_3,fL240_4,fL240_5,EL240r3,LL240r3,QL240,XL240_0,XL240_1⟩
    refine Ok.seq (sr (g0 6 [(0,.slice Aa_0 na_0 ca_0),(2,iw zc_0),(4,pt b1 0),(6,pt (b1+1) 0),(7,iw zra_0y7),(9,pt b238 0),(10,iw zL240_10),(56,.bool (decide (zL240_10 < ((nb_6 : Nat) : Int))))] [gz,gz,.g [.K 0 6],gz,gz,gz] rfl (cs (decide (zL240_10 < ((nb_6 : Nat) : Int))) [56] (fun h244 => ?_) (fun h244 => ?_))))
    · have h244 := of_decide_eq_true h244
      refine g0 9 [(0,.slice Aa_0 na_0 ca_0),(2,iw zc_0),(4,pt b1 0),(6,pt (b1+1) 0),(7,iw zra_0y7),(9,pt b238 0),(10,iw zL240_10),(59,.bool (decide (zL240_10 < 16)))] [gz,gz,gz] rfl (en rfl (cd (decide (zL240_10 < 16)) (fun h246 => ?_) (fun h246 => ?_)))
      · have h246 := of_decide_eq_true h246
        refine skn (Ok.seq (Ok.blk (Ok.seq (sr (g0 3 [(0,.slice Aa_0 na_0 ca_0),(2,iw zc_0),(4,pt b1 0),(6,pt (b1+1) 0),(7,iw zra_0y7),(9,pt b238 0),(10,iw zL240_10),(64,.bool (zra_0y7 == 7))] [gz,gz,gz] rfl (cs (zra_0y7 == 7) [64] (fun h248 => ?_) (fun h248 => ?_)))))))
        · have h248 := eq_of_beq h248
          refine g0 6 [(0,.slice Aa_0 na_0 ca_0),(2,iw zc_0),(4,pt b1 0),(6,pt (b1+1) 0),(7,iw zra_0y7),(9,pt b238 0),(10,iw zL240_10),(67,.bool (decide (zL240_10 > 0)))] [gz,gz,gz] rfl (en rfl (cd (decide (zL240_10 > 0)) (fun h250 => ?_) (fun h250 => ?_)))
          · have h250 := of_decide_eq_true h250
            refine Ok.exit_ (Ok.thenE (Ok.blkM rfl (Ok.thenE (Ok.thenE (Ok.blkE (Ok.thenN (Ok.seq (sr (g0 3 [(6,pt (b1+1) 0),(9,pt b238 0),(84,.bool (zra_0y7 == 7))] [gz,gz,gz] rfl (cs (zra_0y7 == 7) [84] (fun h252 => ?_) (fun h252 => ?_)))))))))))
            · have h252 := eq_of_beq h252
              refine g0 8 [(6,pt (b1+1) 0),(9,pt b238 0),(89,.bool (((nL240r3 : Nat) : Int) == 0))] [gz,.g [.K 2 6],gz,gz,gz] rfl (en rfl (cd (((nL240r3 : Nat) : Int) == 0) (fun h254 => ?_) (fun h254 => ?_)))
              · have h254 := eq_of_beq h254
                refine Ok.reg (g4 4 (fun b255 => [(6,pt (b1+1) 0),(9,pt b238 0)]) (fun b255 => [.blk b1 [iw zb_0,iw zb_1,iw zb_2,iw zb_3,.slice Ab_4 nb_4 cb_4,.string sb_5,.slice Ab_6 nb_6 cb_6] 27,.blk (b1+1) [iw 0,iw 0,iw 0,iw 0,n0,s0,n0] 27,.blk b238 [iw zra_0y7,iw 0,iw 0,iw 0,n0,s0,sl b255 0 1 1] 27,.row (.slice AL240r3 nL240r3 cL240r3) nL240r3 7 27 xL240r3,.blk b255 [iw 0,iw 0,iw 0,iw 0,n0,s0,n0] 27]) [gz,.g [.N],gz,.g [.K 2 6]] rfl (fun b255 => (en rfl ?_)))
                refine sr (g1 2 [(6,pt (b1+1) 0)] [.blk b1 [iw zb_0,iw zb_1,iw zb_2,iw zb_3,.slice Ab_4 nb_4 cb_4,.string sb_5,.slice Ab_6 nb_6 cb_6] 27,.blk (b1+1) [iw zra_0y7,iw 0,iw 0,iw 0,n0,s0,sl b255 0 1 1] 27,.blk b238 [iw zra_0y7,iw 0,iw 0,iw 0,n0,s0,sl b255 0 1 1] 27,.row (.slice AL240r3 nL240r3 cL240r3) nL240r3 7 27 xL240r3,.blk b255 [iw 0,iw 0,iw 0,iw 0,n0,s0,n0] 27] [.g [.K 2 0,.K 2 1,.K 2 2,.K 2 3,.K 2 4,.K 2 5,.K 2 6],.g [.K 1 0,.K 1 1,.K 1 2,.K 1 3,.K 1 4,.K 1 5,.K 1 6]] rfl (en rfl (Ok.ret_ (Ok.pubP 4 rfl [.blk b1 [iw zb_0,iw zb_1,iw zb_2,iw zb_3,.slice Ab_4 nb_4 cb_4,.string sb_5,.slice Ab_6 nb_6 cb_6] 27,.blk (b1+1) [iw zra_0y7,iw 0,iw 0,iw 0,n0,s0,sl b255 0 1 1] 27,.blk b238 [iw zra_0y7,iw 0,iw 0,iw 0,n0,s0,sl b255 0 1 1] 27,.row (.slice AL240r3 nL240r3 cL240r3) nL240r3 7 27 xL240r3] rfl ?_))))
                intro H257 le258 pf259
                exact Ok.ret1c (tr le5 (tr le242 le258)) [.K 1 0,.K 1 1,.K 1 2,.K 1 3,.K 1 4,.K 1 5,.K 1 6] (.agg #[iw zra_0y7,iw 0,iw 0,iw 0,n0,s0,sl b255 0 1 1]) [b1+1,b1+1,b1+1,b1+1,b1+1,b1+1,b1+1] rfl (by kernel_rfl) ⟨zra_0y7,0,0,0,none,0,0,[],(⟨#[]⟩ : ByteArray),(some ⟨b255,0,none⟩),1,1,(PTs.cons (PT.node 0 0 0 0 [] (⟨#[]⟩ : ByteArray) PTs.nil) PTs.nil),rfl,(LstIs.nil _ _ _),(by decide),(KidsIs.of_pre pf259 (RowPs.lit (PredIs.mk (LstIs.nil _ _ _) (by decide) (KidsIs.nil _))) rfl (by decide)),(fun f hf => good_op (.inr (.inr ⟨by omega,rfl⟩)) (goods_one (good_zero _ _ _ _ _ _ _))),(bnd_node (by decide) (bnds_one bnd_leaf))⟩
              have h254 := ne_of_beq_false h254
              refine skn (sr (g1 2 [(6,pt (b1+1) 0)] [.blk b1 [iw zb_0,iw zb_1,iw zb_2,iw zb_3,.slice Ab_4 nb_4 cb_4,.string sb_5,.slice Ab_6 nb_6 cb_6] 27,.blk (b1+1) [iw zra_0y7,iw 0,iw 0,iw 0,n0,s0,.slice AL240r3 nL240r3 cL240r3] 27,.blk b238 [iw zra_0y7,iw 0,iw 0,iw 0,n0,s0,.slice AL240r3 nL240r3 cL240r3] 27,.row (.slice AL240r3 nL240r3 cL240r3) nL240r3 7 27 xL240r3] [.g [.K 2 0,.K 2 1,.K 2 2,.K 2 3,.K 2 4,.K 2 5,.K 2 6],.g [.K 1 0,.K 1 1,.K 1 2,.K 1 3,.K 1 4,.K 1 5,.K 1 6]] rfl (en rfl (Ok.ret_ (Ok.pubK (ks := KL240r3) 3 rfl EL240r3 LL240r3 (by omega) [.blk b1 [iw zb_0,iw zb_1,iw zb_2,iw zb_3,.slice Ab_4 nb_4 cb_4,.string sb_5,.slice Ab_6 nb_6 cb_6] 27,.blk (b1+1) [iw zra_0y7,iw 0,iw 0,iw 0,n0,s0,.slice AL240r3 nL240r3 cL240r3] 27,.blk b238 [iw zra_0y7,iw 0,iw 0,iw 0,n0,s0,.slice AL240r3 nL240r3 cL240r3] 27] rfl ?_)))))
              intro H261 le262 f263
              have lf263 := f263.2.1
              have mf263 := f263.1
              exact Ok.ret1c (tr le5 (tr le242 le262)) [.K 1 0,.K 1 1,.K 1 2,.K 1 3,.K 1 4,.K 1 5,.K 1 6] (.agg #[iw zra_0y7,iw 0,iw 0,iw 0,n0,s0,.slice AL240r3 nL240r3 cL240r3]) [b1+1,b1+1,b1+1,b1+1,b1+1,b1+1,b1+1] rfl (by kernel_rfl) ⟨zra_0y7,0,0,0,none,0,0,[],(⟨#[]⟩ : ByteArray),AL240r3,nL240r3,cL240r3,KL240r3,rfl,(LstIs.nil _ _ _),(by decide),f263,(fun f hf => good_op (by omega) (XL240_0 f hf)),(bnd_node (by omega) XL240_1)⟩
            have h252 := ne_of_beq_false h252
            exact absurd h248 h252
          have h250 := of_decide_eq_false h250
          refine skn (st [0,1,2] [14] 15 ?_)
          have ie264 : 0 < RL240.len := by omega
          have ze264 : 0 ≤ zL240_10 ∧ zL240_10 < ((nb_6 : Nat) : Int) := by omega
          obtain ⟨ke264,re264,rfl⟩ := PTs.open_ ie264
          obtain ⟨je264,⟨cse264,we264,he264⟩,ne264⟩ := (QL240).cons
          obtain ⟨ae264,be264,ce264,de264,se264,te264,kse264,rfl⟩ := PTs.node_ ke264
          obtain ⟨Ae264_4,ne264_4,ce264_4,Ae264_6,ne264_6,ce264_6,rfl,fe264_4,txe264,fe264_6⟩ := we264.open_
          have xe264 := PTs.len_cons (PT.node ae264 be264 ce264 de264 se264 te264 kse264) re264
          have ye264 := PTs.depth1 ae264 be264 ce264 de264 se264 te264 kse264 re264
          have ve264 := PTs.depth2 (PT.node ae264 be264 ce264 de264 se264 te264 kse264) re264
          have lfe264_4 := fe264_4.2.1
          have mfe264_4 := fe264_4.1
          have lfe264_6 := fe264_6.2.1
          have mfe264_6 := fe264_6.1
          refine tx 5 [(0,gz),(1,.g [.K 2 6]),(2,gz),(3,gz),(4,.g [.K 0 6]),(5,gz),(6,.ix),(7,.g [.X (iw ae264),.X (iw be264),.X (iw ce264),.X (iw de264),.X (.slice Ae264_4 ne264_4 ce264_4),.X (.string te264),.X (.slice Ae264_6 ne264_6 ce264_6)]),(8,gz),(9,gz)] [(0,.slice Aa_0 na_0 ca_0),(2,iw zc_0),(4,pt b1 0),(6,pt (b1+1) 0),(7,iw zra_0y7),(9,pt b238 0),(10,iw zL240_10),(69,.slice AL240r3 nL240r3 cL240r3),(70,.slice Aa_0 na_0 ca_0),(75,.agg #[iw ae264,iw be264,iw ce264,iw de264,.slice Ae264_4 ne264_4 ce264_4,.string te264,.slice Ae264_6 ne264_6 ce264_6]),(77,iw (w64 (zc_0 - 1)))] (ex1 (And.intro je264 ze264) (ex1 (cell0 (he264 0 _ rfl)) (ex1 (he264 (1) _ rfl) (ex1 (he264 (2) _ rfl) (ex1 (he264 (3) _ rfl) (ex1 (he264 (4) _ rfl) (ex1 (he264 (5) _ rfl) (ex1 (he264 (6) _ rfl) ex0)))))))) rfl ?_
          refine on 10 4 rfl (ca (some 78) (ih kse264.depth (by omega) H241 Aa_0 (na_0) (ca_0) ae264 be264 ce264 de264 Ae264_4 (ne264_4) (ce264_4) se264 te264 Ae264_6 (ne264_6) (ce264_6) kse264 (w64 (zc_0 - 1)) (WfS.mono (tr le5 le242) ha_0) fe264_4 txe264 fe264_6 (by omega) (Nat.le_refl _)) ?_)
          rintro v265 H266 k268 le267 ⟨zra_0y269,zra_1y269,zra_2y269,zra_3y269,Ara_4y269,nra_4y269,cra_4y269,gra_4y269,sra_5y269,Ara_6y269,nra_6y269,cra_6y269,kra_6y269,rfl,hra_4y269,tra_5y269,hra_6y269,py269_0,py269_1⟩
          have lhra_4y269 := hra_4y269.2.1
          have mhra_4y269 := hra_4y269.1
          have lhra_6y269 := hra_6y269.2.1
          have mhra_6y269 := hra_6y269.1
          refine ws [0,1,2] le267 ?_
          refine on 11 3 rfl (e4 (.g [.N]) (fun b270 => [(0,.slice Aa_0 na_0 ca_0),(2,iw zc_0),(4,pt b1 0),(6,pt (b1+1) 0),(7,iw zra_0y7),(9,pt b238 0),(10,iw zL240_10),(69,.slice AL240r3 nL240r3 cL240r3),(79,sl b270 0 1 1)]) (fun b270 => [.blk b1 [iw zb_0,iw zb_1,iw zb_2,iw zb_3,.slice Ab_4 nb_4 cb_4,.string sb_5,.slice Ab_6 nb_6 cb_6] 27,.blk (b1+1) [iw 0,iw 0,iw 0,iw 0,n0,s0,n0] 27,.blk b238 [iw zra_0y7,iw 0,iw 0,iw 0,n0,s0,.slice AL240r3 nL240r3 cL240r3] 27,.row (.slice AL240r3 nL240r3 cL240r3) nL240r3 7 27 xL240r3,.blk b270 [iw zra_0y269,iw zra_1y269,iw zra_2y269,iw zra_3y269,.slice Ara_4y269 nra_4y269 cra_4y269,.string sra_5y269,.slice Ara_6y269 nra_6y269 cra_6y269] 27]) (fun b270 => ?_))
          refine ws [0,1,2] le267 ?_
          refine on 12 2 rfl (Eff.appendN (t := 25) (d := some 80) (ad := ⟨b270,0,none⟩) (m := 1) (c := 1) 3 rfl (by kernel_rfl) 100000000 (by kernel_rfl) (by omega) rfl [iw zra_0y269,iw zra_1y269,iw zra_2y269,iw zra_3y269,.slice Ara_4y269 nra_4y269 cra_4y269,.string sra_5y269,.slice Ara_6y269 nra_6y269 cra_6y269] (reads_blk (cs := [iw zra_0y269,iw zra_1y269,iw zra_2y269,iw zra_3y269,.slice Ara_4y269 nra_4y269 cra_4y269,.string sra_5y269,.slice Ara_6y269 nra_6y269 cra_6y269]) 4 rfl 0 7) rfl rfl (by omega) (fun g271 cap272 => ?_))
          have E274 : RowPs H266 (KL240r3.snoc (PT.node zra_0y269 zra_1y269 zra_2y269 zra_3y269 gra_4y269 sra_5y269 kra_6y269)) (xL240r3 ++ [iw zra_0y269,iw zra_1y269,iw zra_2y269,iw zra_3y269,.slice Ara_4y269 nra_4y269 cra_4y269,.string sra_5y269,.slice Ara_6y269 nra_6y269 cra_6y269]) := (RowPs.snoc (RowPs.mono le267 EL240r3) (PredIs.mk hra_4y269 tra_5y269 hra_6y269))
          generalize (xL240r3 ++ [iw zra_0y269,iw zra_1y269,iw zra_2y269,iw zra_3y269,.slice Ara_4y269 nra_4y269 cra_4y269,.string sra_5y269,.slice Ara_6y269 nra_6y269 cra_6y269]) = x273 at E274 ⊢
          refine ws [0,1,2] le267 ?_
          refine tk 1 [(13,gz)] [(0,.slice Aa_0 na_0 ca_0),(2,iw zc_0),(4,pt b1 0),(6,pt (b1+1) 0),(7,iw zra_0y7),(9,pt b238 0),(10,iw zL240_10),(80,.slice ((some ⟨g271,0,none⟩)) ((nL240r3 + 1)) cap272),(81,pt b238 6)] rfl ?_
          refine Ok.toE (ol 14 0 rfl (e1 (.g [.K 2 6]) [(0,.slice Aa_0 na_0 ca_0),(2,iw zc_0),(4,pt b1 0),(6,pt (b1+1) 0),(7,iw zra_0y7),(9,pt b238 0),(10,iw zL240_10)] [.blk b1 [iw zb_0,iw zb_1,iw zb_2,iw zb_3,.slice Ab_4 nb_4 cb_4,.string sb_5,.slice Ab_6 nb_6 cb_6] 27,.blk (b1+1) [iw 0,iw 0,iw 0,iw 0,n0,s0,n0] 27,.blk b238 [iw zra_0y7,iw 0,iw 0,iw 0,n0,s0,.slice ((some ⟨g271,0,none⟩)) ((nL240r3 + 1)) cap272] 27,.row (.slice ((some ⟨g271,0,none⟩)) ((nL240r3 + 1)) cap272) ((nL240r3 + 1)) 7 27 x273,.blk b270 [iw zra_0y269,iw zra_1y269,iw zra_2y269,iw zra_3y269,.slice Ara_4y269 nra_4y269 cra_4y269,.string sra_5y269,.slice Ara_6y269 nra_6y269 cra_6y269] 27] ?_))
          refine Ok.doneE (by kernel_rfl) ?_
          refine Ok.blkN (Ok.thenN (Ok.reg ?_))
          have k278 := wid (x := zL240_10 + 1) (by omega)
          refine g0 3 [(0,.slice Aa_0 na_0 ca_0),(2,iw zc_0),(4,pt b1 0),(6,pt (b1+1) 0),(7,iw zra_0y7),(9,pt b238 0),(10,iw (w64 (zL240_10 + 1)))] [gz,gz,gz] rfl (en rfl (Ok.restr [0,2,4,6,7,9,10] [(0,.slice Aa_0 na_0 ca_0),(2,iw zc_0),(4,pt b1 0),(6,pt (b1+1) 0),(7,iw zra_0y7),(9,pt b238 0),(10,iw (w64 (zL240_10 + 1)))] rfl (Ok.mask [true,true,true,true,false] [.blk b1 [iw zb_0,iw zb_1,iw zb_2,iw zb_3,.slice Ab_4 nb_4 cb_4,.string sb_5,.slice Ab_6 nb_6 cb_6] 27,.blk (b1+1) [iw 0,iw 0,iw 0,iw 0,n0,s0,n0] 27,.blk b238 [iw zra_0y7,iw 0,iw 0,iw 0,n0,s0,.slice ((some ⟨g271,0,none⟩)) ((nL240r3 + 1)) cap272] 27,.row (.slice ((some ⟨g271,0,none⟩)) ((nL240r3 + 1)) cap272) ((nL240r3 + 1)) 7 27 x273] rfl ?_)))
          exact Ok.again _ ⟨(w64 (zL240_10 + 1)),((some ⟨g271,0,none⟩)),(nL240r3 + 1),cap272,x273,(KL240r3.snoc (PT.node zra_0y269 zra_1y269 zra_2y269 zra_3y269 gra_4y269 sra_5y269 kra_6y269)),re264,rfl,rfl,rfl,(tr le242 le267),by omega,by omega,by omega,by omega,by omega,by omega,E274,(PTs.snoc_len _ LL240r3),(KidsAt.cast (KidsAt.mono le267 ne264) (by omega)),(fun f hf => goods_snoc (XL240_0 f hf) (py269_0 f (AllId.mono (tr le5 le242) hf))),(bnds_snoc XL240_1 py269_1)⟩ (by omega)
        have h248 := ne_of_beq_false h248
        refine g0 6 [(0,.slice Aa_0 na_0 ca_0),(2,iw zc_0),(4,pt b1 0),(6,pt (b1+1) 0),(7,iw zra_0y7),(9,pt b238 0),(10,iw zL240_10),(67,bF)] [gz,gz,gz] rfl (en rfl (cF (skn (st [0,1,2] [14] 15 ?_))))
        have ie280 : 0 < RL240.len := by omega
        have ze280 : 0 ≤ zL240_10 ∧ zL240_10 < ((nb_6 : Nat) : Int) := by omega
        obtain ⟨ke280,re280,rfl⟩ := PTs.open_ ie280
        obtain ⟨je280,⟨cse280,we280,he280⟩,ne280⟩ := (QL240).cons
        obtain ⟨ae280,be280,ce280,de280,se280,te280,kse280,rfl⟩ := PTs.node_ ke280
        obtain ⟨Ae280_4,ne280_4,ce280_4,Ae280_6,ne280_6,ce280_6,rfl,fe280_4,txe280,fe280_6⟩ := we280.open_
        have xe280 := PTs.len_cons (PT.node ae280 be280 ce280 de280 se280 te280 kse280) re280
        have ye280 := PTs.depth1 ae280 be280 ce280 de280 se280 te280 kse280 re280
        have ve280 := PTs.depth2 (PT.node ae280 be280 ce280 de280 se280 te280 kse280) re280
        have lfe280_4 := fe280_4.2.1
        have mfe280_4 := fe280_4.1
        have lfe280_6 := fe280_6.2.1
        have mfe280_6 := fe280_6.1
        refine tx 5 [(0,gz),(1,.g [.K 2 6]),(2,gz),(3,gz),(4,.g [.K 0 6]),(5,gz),(6,.ix),(7,.g [.X (iw ae280),.X (iw be280),.X (iw ce280),.X (iw de280),.X (.slice Ae280_4 ne280_4 ce280_4),.X (.string te280),.X (.slice Ae280_6 ne280_6 ce280_6)]),(8,gz),(9,gz)] [(0,.slice Aa_0 na_0 ca_0),(2,iw zc_0),(4,pt b1 0),(6,pt (b1+1) 0),(7,iw zra_0y7),(9,pt b238 0),(10,iw zL240_10),(69,.slice AL240r3 nL240r3 cL240r3),(70,.slice Aa_0 na_0 ca_0),(75,.agg #[iw ae280,iw be280,iw ce280,iw de280,.slice Ae280_4 ne280_4 ce280_4,.string te280,.slice Ae280_6 ne280_6 ce280_6]),(77,iw (w64 (zc_0 - 1)))] (ex1 (And.intro je280 ze280) (ex1 (cell0 (he280 0 _ rfl)) (ex1 (he280 (1) _ rfl) (ex1 (he280 (2) _ rfl) (ex1 (he280 (3) _ rfl) (ex1 (he280 (4) _ rfl) (ex1 (he280 (5) _ rfl) (ex1 (he280 (6) _ rfl) ex0)))))))) rfl ?_
        refine on 10 4 rfl (ca (some 78) (ih kse280.depth (by omega) H241 Aa_0 (na_0) (ca_0) ae280 be280 ce280 de280 Ae280_4 (ne280_4) (ce280_4) se280 te280 Ae280_6 (ne280_6) (ce280_6) kse280 (w64 (zc_0 - 1)) (WfS.mono (tr le5 le242) ha_0) fe280_4 txe280 fe280_6 (by omega) (Nat.le_refl _)) ?_)
        rintro v281 H282 k284 le283 ⟨zra_0y285,zra_1y285,zra_2y285,zra_3y285,Ara_4y285,nra_4y285,cra_4y285,gra_4y285,sra_5y285,Ara_6y285,nra_6y285,cra_6y285,kra_6y285,rfl,hra_4y285,tra_5y285,hra_6y285,py285_0,py285_1⟩
        have lhra_4y285 := hra_4y285.2.1
        have mhra_4y285 := hra_4y285.1
        have lhra_6y285 := hra_6y285.2.1
        have mhra_6y285 := hra_6y285.1
        refine ws [0,1,2] le283 ?_
        refine on 11 3 rfl (e4 (.g [.N]) (fun b286 => [(0,.slice Aa_0 na_0 ca_0),(2,iw zc_0),(4,pt b1 0),(6,pt (b1+1) 0),(7,iw zra_0y7),(9,pt b238 0),(10,iw zL240_10),(69,.slice AL240r3 nL240r3 cL240r3),(79,sl b286 0 1 1)]) (fun b286 => [.blk b1 [iw zb_0,iw zb_1,iw zb_2,iw zb_3,.slice Ab_4 nb_4 cb_4,.string sb_5,.slice Ab_6 nb_6 cb_6] 27,.blk (b1+1) [iw 0,iw 0,iw 0,iw 0,n0,s0,n0] 27,.blk b238 [iw zra_0y7,iw 0,iw 0,iw 0,n0,s0,.slice AL240r3 nL240r3 cL240r3] 27,.row (.slice AL240r3 nL240r3 cL240r3) nL240r3 7 27 xL240r3,.blk b286 [iw zra_0y285,iw zra_1y285,iw zra_2y285,iw zra_3y285,.slice Ara_4y285 nra_4y285 cra_4y285,.string sra_5y285,.slice Ara_6y285 nra_6y285 cra_6y285] 27]) (fun b286 => ?_))
        refine ws [0,1,2] le283 ?_
        refine on 12 2 rfl (Eff.appendN (t := 25) (d := some 80) (ad := ⟨b286,0,none⟩) (m := 1) (c := 1) 3 rfl (by kernel_rfl) 100000000 (by kernel_rfl) (by omega) rfl [iw zra_0y285,iw zra_1y285,iw zra_2y285,iw zra_3y285,.slice Ara_4y285 nra_4y285 cra_4y285,.string sra_5y285,.slice Ara_6y285 nra_6y285 cra_6y285] (reads_blk (cs := [iw zra_0y285,iw zra_1y285,iw zra_2y285,iw zra_3y285,.slice Ara_4y285 nra_4y285 cra_4y285,.string sra_5y285,.slice Ara_6y285 nra_6y285 cra_6y285]) 4 rfl 0 7) rfl rfl (by omega) (fun g287 cap288 => ?_))
        have E290 : RowPs H282 (KL240r3.snoc (PT.node zra_0y285 zra_1y285 zra_2y285 zra_3y285 gra_4y285 sra_5y285 kra_6y285)) (xL240r3 ++ [iw zra_0y285,iw zra_1y285,iw zra_2y285,iw zra_3y285,.slice Ara_4y285 nra_4y285 cra_4y285,.string sra_5y285,.slice Ara_6y285 nra_6y285 cra_6y285]) := (RowPs.snoc (RowPs.mono le283 EL240r3) (PredIs.mk hra_4y285 tra_5y285 hra_6y285))
        generalize (xL240r3 ++ [iw zra_0y285,iw zra_1y285,iw zra_2y285,iw zra_3y285,.slice Ara_4y285 nra_4y285 cra_4y285,.string sra_5y285,.slice Ara_6y285 nra_6y285 cra_6y285]) = x289 at E290 ⊢
        refine ws [0,1,2] le283 ?_
        refine tk 1 [(13,gz)] [(0,.slice Aa_0 na_0 ca_0),(2,iw zc_0),(4,pt b1 0),(6,pt (b1+1) 0),(7,iw zra_0y7),(9,pt b238 0),(10,iw zL240_10),(80,.slice ((some ⟨g287,0,none⟩)) ((nL240r3 + 1)) cap288),(81,pt b238 6)] rfl ?_
        refine Ok.toE (ol 14 0 rfl (e1 (.g [.K 2 6]) [(0,.slice Aa_0 na_0 ca_0),(2,iw zc_0),(4,pt b1 0),(6,pt (b1+1) 0),(7,iw zra_0y7),(9,pt b238 0),(10,iw zL240_10)] [.blk b1 [iw zb_0,iw zb_1,iw zb_2,iw zb_3,.slice Ab_4 nb_4 cb_4,.string sb_5,.slice Ab_6 nb_6 cb_6] 27,.blk (b1+1) [iw 0,iw 0,iw 0,iw 0,n0,s0,n0] 27,.blk b238 [iw zra_0y7,iw 0,iw 0,iw 0,n0,s0,.slice ((some ⟨g287,0,none⟩)) ((nL240r3 + 1)) cap288] 27,.row (.slice ((some ⟨g287,0,none⟩)) ((nL240r3 + 1)) cap288) ((nL240r3 + 1)) 7 27 x289,.blk b286 [iw zra_0y285,iw zra_1y285,iw zra_2y285,iw zra_3y285,.slice Ara_4y285 nra_4y285 cra_4y285,.string sra_5y285,.slice Ara_6y285 nra_6y285 cra_6y285] 27] ?_))
        refine Ok.doneE (by kernel_rfl) ?_
        refine Ok.blkN (Ok.thenN (Ok.reg ?_))
        have k294 := wid (x := zL240_10 + 1) (by omega)
        refine g0 3 [(0,.slice Aa_0 na_0 ca_0),(2,iw zc_0),(4,pt b1 0),(6,pt (b1+1) 0),(7,iw zra_0y7),(9,pt b238 0),(10,iw (w64 (zL240_10 + 1)))] [gz,gz,gz] rfl (en rfl (Ok.restr [0,2,4,6,7,9,10] [(0,.slice Aa_0 na_0 ca_0),(2,iw zc_0),(4,pt b1 0),(6,pt (b1+1) 0),(7,iw zra_0y7),(9,pt b238 0),(10,iw (w64 (zL240_10 + 1)))] rfl (Ok.mask [true,true,true,true,false] [.blk b1 [iw zb_0,iw zb_1,iw zb_2,iw zb_3,.slice Ab_4 nb_4 cb_4,.string sb_5,.slice Ab_6 nb_6 cb_6] 27,.blk (b1+1) [iw 0,iw 0,iw 0,iw 0,n0,s0,n0] 27,.blk b238 [iw zra_0y7,iw 0,iw 0,iw 0,n0,s0,.slice ((some ⟨g287,0,none⟩)) ((nL240r3 + 1)) cap288] 27,.row (.slice ((some ⟨g287,0,none⟩)) ((nL240r3 + 1)) cap288) ((nL240r3 + 1)) 7 27 x289] rfl ?_)))
        exact Ok.again _ ⟨(w64 (zL240_10 + 1)),((some ⟨g287,0,none⟩)),(nL240r3 + 1),cap288,x289,(KL240r3.snoc (PT.node zra_0y285 zra_1y285 zra_2y285 zra_3y285 gra_4y285 sra_5y285 kra_6y285)),re280,rfl,rfl,rfl,(tr le242 le283),by omega,by omega,by omega,by omega,by omega,by omega,E290,(PTs.snoc_len _ LL240r3),(KidsAt.cast (KidsAt.mono le283 ne280) (by omega)),(fun f hf => goods_snoc (XL240_0 f hf) (py285_0 f (AllId.mono (tr le5 le242) hf))),(bnds_snoc XL240_1 py285_1)⟩ (by omega)
      have h246 := of_decide_eq_false h246
      refine Ok.exit_ (Ok.thenE (Ok.thenE (Ok.blkE (Ok.thenN (Ok.seq (sr (g0 3 [(6,pt (b1+1) 0),(9,pt b238 0),(84,.bool (zra_0y7 == 7))] [gz,gz,gz] rfl (cs (zra_0y7 == 7) [84] (fun h296 => ?_) (fun h296 => ?_)))))))))
      · have h296 := eq_of_beq h296
        refine g0 8 [(6,pt (b1+1) 0),(9,pt b238 0),(89,.bool (((nL240r3 : Nat) : Int) == 0))] [gz,.g [.K 2 6],gz,gz,gz] rfl (en rfl (cd (((nL240r3 : Nat) : Int) == 0) (fun h298 => ?_) (fun h298 => ?_)))
        · have h298 := eq_of_beq h298
          refine Ok.reg (g4 4 (fun b299 => [(6,pt (b1+1) 0),(9,pt b238 0)]) (fun b299 => [.blk b1 [iw zb_0,iw zb_1,iw zb_2,iw zb_3,.slice Ab_4 nb_4 cb_4,.string sb_5,.slice Ab_6 nb_6 cb_6] 27,.blk (b1+1) [iw 0,iw 0,iw 0,iw 0,n0,s0,n0] 27,.blk b238 [iw zra_0y7,iw 0,iw 0,iw 0,n0,s0,sl b299 0 1 1] 27,.row (.slice AL240r3 nL240r3 cL240r3) nL240r3 7 27 xL240r3,.blk b299 [iw 0,iw 0,iw 0,iw 0,n0,s0,n0] 27]) [gz,.g [.N],gz,.g [.K 2 6]] rfl (fun b299 => (en rfl ?_)))
          refine sr (g1 2 [(6,pt (b1+1) 0)] [.blk b1 [iw zb_0,iw zb_1,iw zb_2,iw zb_3,.slice Ab_4 nb_4 cb_4,.string sb_5,.slice Ab_6 nb_6 cb_6] 27,.blk (b1+1) [iw zra_0y7,iw 0,iw 0,iw 0,n0,s0,sl b299 0 1 1] 27,.blk b238 [iw zra_0y7,iw 0,iw 0,iw 0,n0,s0,sl b299 0 1 1] 27,.row (.slice AL240r3 nL240r3 cL240r3) nL240r3 7 27 xL240r3,.blk b299 [iw 0,iw 0,iw 0,iw 0,n0,s0,n0] 27] [.g [.K 2 0,.K 2 1,.K 2 2,.K 2 3,.K 2 4,.K 2 5,.K 2 6],.g [.K 1 0,.K 1 1,.K 1 2,.K 1 3,.K 1 4,.K 1 5,.K 1 6]] rfl (en rfl (Ok.ret_ (Ok.pubP 4 rfl [.blk b1 [iw zb_0,iw zb_1,iw zb_2,iw zb_3,.slice Ab_4 nb_4 cb_4,.string sb_5,.slice Ab_6 nb_6 cb_6] 27,.blk (b1+1) [iw zra_0y7,iw 0,iw 0,iw 0,n0,s0,sl b299 0 1 1] 27,.blk b238 [iw zra_0y7,iw 0,iw 0,iw 0,n0,s0,sl b299 0 1 1] 27,.row (.slice AL240r3 nL240r3 cL240r3) nL240r3 7 27 xL240r3] rfl ?_))))
          intro H301 le302 pf303
          exact Ok.ret1c (tr le5 (tr le242 le302)) [.K 1 0,.K 1 1,.K 1 2,.K 1 3,.K 1 4,.K 1 5,.K 1 6] (.agg #[iw zra_0y7,iw 0,iw 0,iw 0,n0,s0,sl b299 0 1 1]) [b1+1,b1+1,b1+1,b1+1,b1+1,b1+1,b1+1] rfl (by kernel_rfl) ⟨zra_0y7,0,0,0,none,0,0,[],(⟨#[]⟩ : ByteArray),(some ⟨b299,0,none⟩),1,1,(PTs.cons (PT.node 0 0 0 0 [] (⟨#[]⟩ : ByteArray) PTs.nil) PTs.nil),rfl,(LstIs.nil _ _ _),(by decide),(KidsIs.of_pre pf303 (RowPs.lit (PredIs.mk (LstIs.nil _ _ _) (by decide) (KidsIs.nil _))) rfl (by decide)),(fun f hf => good_op (.inr (.inr ⟨by omega,rfl⟩)) (goods_one (good_zero _ _ _ _ _ _ _))),(bnd_node (by decide) (bnds_one bnd_leaf))⟩
        have h298 := ne_of_beq_false h298
        refine skn (sr (g1 2 [(6,pt (b1+1) 0)] [.blk b1 [iw zb_0,iw zb_1,iw zb_2,iw zb_3,.slice Ab_4 nb_4 cb_4,.string sb_5,.slice Ab_6 nb_6 cb_6] 27,.blk (b1+1) [iw zra_0y7,iw 0,iw 0,iw 0,n0,s0,.slice AL240r3 nL240r3 cL240r3] 27,.blk b238 [iw zra_0y7,iw 0,iw 0,iw 0,n0,s0,.slice AL240r3 nL240r3 cL240r3] 27,.row (.slice AL240r3 nL240r3 cL240r3) nL240r3 7 27 xL240r3] [.g [.K 2 0,.K 2 1,.K 2 2,.K 2 3,.K 2 4,.K 2 5,.K 2 6],.g [.K 1 0,.K 1 1,.K 1 2,.K 1 3,.K 1 4,.K 1 5,.K 1 6]] rfl (en rfl (Ok.ret_ (Ok.pubK (ks := KL240r3) 3 rfl EL240r3 LL240r3 (by omega) [.blk b1 [iw zb_0,iw zb_1,iw zb_2,iw zb_3,.slice Ab_4 nb_4 cb_4,.string sb_5,.slice Ab_6 nb_6 cb_6] 27,.blk (b1+1) [iw zra_0y7,iw 0,iw 0,iw 0,n0,s0,.slice AL240r3 nL240r3 cL240r3] 27,.blk b238 [iw zra_0y7,iw 0,iw 0,iw 0,n0,s0,.slice AL240r3 nL240r3 cL240r3] 27] rfl ?_)))))
        intro H305 le306 f307
        have lf307 := f307.2.1
        have mf307 := f307.1
        exact Ok.ret1c (tr le5 (tr le242 le306)) [.K 1 0,.K 1 1,.K 1 2,.K 1 3,.K 1 4,.K 1 5,.K 1 6] (.agg #[iw zra_0y7,iw 0,iw 0,iw 0,n0,s0,.slice AL240r3 nL240r3 cL240r3]) [b1+1,b1+1,b1+1,b1+1,b1+1,b1+1,b1+1] rfl (by kernel_rfl) ⟨zra_0y7,0,0,0,none,0,0,[],(⟨#[]⟩ : ByteArray),AL240r3,nL240r3,cL240r3,KL240r3,rfl,(LstIs.nil _ _ _),(by decide),f307,(fun f hf => good_op (by omega) (XL240_0 f hf)),(bnd_node (by omega) XL240_1)⟩
      have h296 := ne_of_beq_false h296
      refine g0 8 [(6,pt (b1+1) 0),(9,pt b238 0),(89,bF)] [gz,gz,gz,gz,gz] rfl (en rfl (cF (skn (sr (g1 2 [(6,pt (b1+1) 0)] [.blk b1 [iw zb_0,iw zb_1,iw zb_2,iw zb_3,.slice Ab_4 nb_4 cb_4,.string sb_5,.slice Ab_6 nb_6 cb_6] 27,.blk (b1+1) [iw zra_0y7,iw 0,iw 0,iw 0,n0,s0,.slice AL240r3 nL240r3 cL240r3] 27,.blk b238 [iw zra_0y7,iw 0,iw 0,iw 0,n0,s0,.slice AL240r3 nL240r3 cL240r3] 27,.row (.slice AL240r3 nL240r3 cL240r3) nL240r3 7 27 xL240r3] [.g [.K 2 0,.K 2 1,.K 2 2,.K 2 3,.K 2 4,.K 2 5,.K 2 6],.g [.K 1 0,.K 1 1,.K 1 2,.K 1 3,.K 1 4,.K 1 5,.K 1 6]] rfl (en rfl (Ok.ret_ (Ok.pubK (ks := KL240r3) 3 rfl EL240r3 LL240r3 (by omega) [.blk b1 [iw zb_0,iw zb_1,iw zb_2,iw zb_3,.slice Ab_4 nb_4 cb_4,.string sb_5,.slice Ab_6 nb_6 cb_6] 27,.blk (b1+1) [iw zra_0y7,iw 0,iw 0,iw 0,n0,s0,.slice AL240r3 nL240r3 cL240r3] 27,.blk b238 [iw zra_0y7,iw 0,iw 0,iw 0,n0,s0,.slice AL240r3 nL240r3 cL240r3] 27] rfl ?_))))))))
      intro H310 le311 f312
      have lf312 := f312.2.1
      have mf312 := f312.1
      exact Ok.ret1c (tr le5 (tr le242 le311)) [.K 1 0,.K 1 1,.K 1 2,.K 1 3,.K 1 4,.K 1 5,.K 1 6] (.agg #[iw zra_0y7,iw 0,iw 0,iw 0,n0,s0,.slice AL240r3 nL240r3 cL240r3]) [b1+1,b1+1,b1+1,b1+1,b1+1,b1+1,b1+1] rfl (by kernel_rfl) ⟨zra_0y7,0,0,0,none,0,0,[],(⟨#[]⟩ : ByteArray),AL240r3,nL240r3,cL240r3,KL240r3,rfl,(LstIs.nil _ _ _),(by decide),f312,(fun f hf => good_op (by omega) (XL240_0 f hf)),(bnd_node (by omega) XL240_1)⟩
    have h244 := of_decide_eq_false h244
    refine g0 9 [(0,.slice Aa_0 na_0 ca_0),(2,iw zc_0),(4,pt b1 0),(6,pt (b1+1) 0),(7,iw zra_0y7),(9,pt b238 0),(10,iw zL240_10),(59,bF)] [gz,gz,gz] rfl (en rfl (cF (Ok.exit_ (Ok.thenE (Ok.thenE (Ok.blkE (Ok.thenN (Ok.seq (sr (g0 3 [(6,pt (b1+1) 0),(9,pt b238 0),(84,.bool (zra_0y7 == 7))] [gz,gz,gz] rfl (cs (zra_0y7 == 7) [84] (fun h315 => ?_) (fun h315 => ?_))))))))))))
    · have h315 := eq_of_beq h315
      refine g0 8 [(6,pt (b1+1) 0),(9,pt b238 0),(89,.bool (((nL240r3 : Nat) : Int) == 0))] [gz,.g [.K 2 6],gz,gz,gz] rfl (en rfl (cd (((nL240r3 : Nat) : Int) == 0) (fun h317 => ?_) (fun h317 => ?_)))
      · have h317 := eq_of_beq h317
        refine Ok.reg (g4 4 (fun b318 => [(6,pt (b1+1) 0),(9,pt b238 0)]) (fun b318 => [.blk b1 [iw zb_0,iw zb_1,iw zb_2,iw zb_3,.slice Ab_4 nb_4 cb_4,.string sb_5,.slice Ab_6 nb_6 cb_6] 27,.blk (b1+1) [iw 0,iw 0,iw 0,iw 0,n0,s0,n0] 27,.blk b238 [iw zra_0y7,iw 0,iw 0,iw 0,n0,s0,sl b318 0 1 1] 27,.row (.slice AL240r3 nL240r3 cL240r3) nL240r3 7 27 xL240r3,.blk b318 [iw 0,iw 0,iw 0,iw 0,n0,s0,n0] 27]) [gz,.g [.N],gz,.g [.K 2 6]] rfl (fun b318 => (en rfl ?_)))
        refine sr (g1 2 [(6,pt (b1+1) 0)] [.blk b1 [iw zb_0,iw zb_1,iw zb_2,iw zb_3,.slice Ab_4 nb_4 cb_4,.string sb_5,.slice Ab_6 nb_6 cb_6] 27,.blk (b1+1) [iw zra_0y7,iw 0,iw 0,iw 0,n0,s0,sl b318 0 1 1] 27,.blk b238 [iw zra_0y7,iw 0,iw 0,iw 0,n0,s0,sl b318 0 1 1] 27,.row (.slice AL240r3 nL240r3 cL240r3) nL240r3 7 27 xL240r3,.blk b318 [iw 0,iw 0,iw 0,iw 0,n0,s0,n0] 27] [.g [.K 2 0,.K 2 1,.K 2 2,.K 2 3,.K 2 4,.K 2 5,.K 2 6],.g [.K 1 0,.K 1 1,.K 1 2,.K 1 3,.K 1 4,.K 1 5,.K 1 6]] rfl (en rfl (Ok.ret_ (Ok.pubP 4 rfl [.blk b1 [iw zb_0,iw zb_1,iw zb_2,iw zb_3,.slice Ab_4 nb_4 cb_4,.string sb_5,.slice Ab_6 nb_6 cb_6] 27,.blk (b1+1) [iw zra_0y7,iw 0,iw 0,iw 0,n0,s0,sl b318 0 1 1] 27,.blk b238 [iw zra_0y7,iw 0,iw 0,iw 0,n0,s0,sl b318 0 1 1] 27,.row (.slice AL240r3 nL240r3 cL240r3) nL240r3 7 27 xL240r3] rfl ?_))))
        intro H320 le321 pf322
        exact Ok.ret1c (tr le5 (tr le242 le321)) [.K 1 0,.K 1 1,.K 1 2,.K 1 3,.K 1 4,.K 1 5,.K 1 6] (.agg #[iw zra_0y7,iw 0,iw 0,iw 0,n0,s0,sl b318 0 1 1]) [b1+1,b1+1,b1+1,b1+1,b1+1,b1+1,b1+1] rfl (by kernel_rfl) ⟨zra_0y7,0,0,0,none,0,0,[],(⟨#[]⟩ : ByteArray),(some ⟨b318,0,none⟩),1,1,(PTs.cons (PT.node 0 0 0 0 [] (⟨#[]⟩ : ByteArray) PTs.nil) PTs.nil),rfl,(LstIs.nil _ _ _),(by decide),(KidsIs.of_pre pf322 (RowPs.lit (PredIs.mk (LstIs.nil _ _ _) (by decide) (KidsIs.nil _))) rfl (by decide)),(fun f hf => good_op (.inr (.inr ⟨by omega,rfl⟩)) (goods_one (good_zero _ _ _ _ _ _ _))),(bnd_node (by decide) (bnds_one bnd_leaf))⟩
      have h317 := ne_of_beq_false h317
      refine skn (sr (g1 2 [(6,pt (b1+1) 0)] [.blk b1 [iw zb_0,iw zb_1,iw zb_2,iw zb_3,.slice Ab_4 nb_4 cb_4,.string sb_5,.slice Ab_6 nb_6 cb_6] 27,.blk (b1+1) [iw zra_0y7,iw 0,iw 0,iw 0,n0,s0,.slice AL240r3 nL240r3 cL240r3] 27,.blk b238 [iw zra_0y7,iw 0,iw 0,iw 0,n0,s0,.slice AL240r3 nL240r3 cL240r3] 27,.row (.slice AL240r3 nL240r3 cL240r3) nL240r3 7 27 xL240r3] [.g [.K 2 0,.K 2 1,.K 2 2,.K 2 3,.K 2 4,.K 2 5,.K 2 6],.g [.K 1 0,.K 1 1,.K 1 2,.K 1 3,.K 1 4,.K 1 5,.K 1 6]] rfl (en rfl (Ok.ret_ (Ok.pubK (ks := KL240r3) 3 rfl EL240r3 LL240r3 (by omega) [.blk b1 [iw zb_0,iw zb_1,iw zb_2,iw zb_3,.slice Ab_4 nb_4 cb_4,.string sb_5,.slice Ab_6 nb_6 cb_6] 27,.blk (b1+1) [iw zra_0y7,iw 0,iw 0,iw 0,n0,s0,.slice AL240r3 nL240r3 cL240r3] 27,.blk b238 [iw zra_0y7,iw 0,iw 0,iw 0,n0,s0,.slice AL240r3 nL240r3 cL240r3] 27] rfl ?_)))))
      intro H324 le325 f326
      have lf326 := f326.2.1
      have mf326 := f326.1
      exact Ok.ret1c (tr le5 (tr le242 le325)) [.K 1 0,.K 1 1,.K 1 2,.K 1 3,.K 1 4,.K 1 5,.K 1 6] (.agg #[iw zra_0y7,iw 0,iw 0,iw 0,n0,s0,.slice AL240r3 nL240r3 cL240r3]) [b1+1,b1+1,b1+1,b1+1,b1+1,b1+1,b1+1] rfl (by kernel_rfl) ⟨zra_0y7,0,0,0,none,0,0,[],(⟨#[]⟩ : ByteArray),AL240r3,nL240r3,cL240r3,KL240r3,rfl,(LstIs.nil _ _ _),(by decide),f326,(fun f hf => good_op (by omega) (XL240_0 f hf)),(bnd_node (by omega) XL240_1)⟩
    have h315 := ne_of_beq_false h315
    refine g0 8 [(6,pt (b1+1) 0),(9,pt b238 0),(89,bF)] [gz,gz,gz,gz,gz] rfl (en rfl (cF (skn (sr (g1 2 [(6,pt (b1+1) 0)] [.blk b1 [iw zb_0,iw zb_1,iw zb_2,iw zb_3,.slice Ab_4 nb_4 cb_4,.string sb_5,.slice Ab_6 nb_6 cb_6] 27,.blk (b1+1) [iw zra_0y7,iw 0,iw 0,iw 0,n0,s0,.slice AL240r3 nL240r3 cL240r3] 27,.blk b238 [iw zra_0y7,iw 0,iw 0,iw 0,n0,s0,.slice AL240r3 nL240r3 cL240r3] 27,.row (.slice AL240r3 nL240r3 cL240r3) nL240r3 7 27 xL240r3] [.g [.K 2 0,.K 2 1,.K 2 2,.K 2 3,.K 2 4,.K 2 5,.K 2 6],.g [.K 1 0,.K 1 1,.K 1 2,.K 1 3,.K 1 4,.K 1 5,.K 1 6]] rfl (en rfl (Ok.ret_ (Ok.pubK (ks := KL240r3) 3 rfl EL240r3 LL240r3 (by omega) [.blk b1 [iw zb_0,iw zb_1,iw zb_2,iw zb_3,.slice Ab_4 nb_4 cb_4,.string sb_5,.slice Ab_6 nb_6 cb_6] 27,.blk (b1+1) [iw zra_0y7,iw 0,iw 0,iw 0,n0,s0,.slice AL240r3 nL240r3 cL240r3] 27,.blk b238 [iw zra_0y7,iw 0,iw 0,iw 0,n0,s0,.slice AL240r3 nL240r3 cL240r3] 27] rfl ?_))))))))
    intro H329 le330 f331
    have lf331 := f331.2.1
    have mf331 := f331.1
    exact Ok.ret1c (tr le5 (tr le242 le330)) [.K 1 0,.K 1 1,.K 1 2,.K 1 3,.K 1 4,.K 1 5,.K 1 6] (.agg #[iw zra_0y7,iw 0,iw 0,iw 0,n0,s0,.slice AL240r3 nL240r3 cL240r3]) [b1+1,b1+1,b1+1,b1+1,b1+1,b1+1,b1+1] rfl (by kernel_rfl) ⟨zra_0y7,0,0,0,none,0,0,[],(⟨#[]⟩ : ByteArray),AL240r3,nL240r3,cL240r3,KL240r3,rfl,(LstIs.nil _ _ _),(by decide),f331,(fun f hf => good_op (by omega) (XL240_0 f hf)),(bnd_node (by omega) XL240_1)⟩
  have h232 := ne_of_beq_false h232
  refine g0 19 [(0,.slice Aa_0 na_0 ca_0),(2,iw zc_0),(4,pt b1 0),(6,pt (b1+1) 0),(7,iw zra_0y7),(32,bF)] [gz,gz,gz,gz] rfl (en rfl (cF (skn (Ok.seq (sr (g0 2 [(0,.slice Aa_0 na_0 ca_0),(2,iw zc_0),(4,pt b1 0),(6,pt (b1+1) 0),(7,iw zra_0y7),(35,.bool (decide (zra_0y7 < 5)))] [gz,gz] rfl (en rfl (cd (decide (zra_0y7 < 5)) (fun h334 => ?_) (fun h334 => ?_)))))))))
  · have h334 := of_decide_eq_true h334
    refine sr (g4 3 (fun b335 => [(0,.slice Aa_0 na_0 ca_0),(4,pt b1 0),(6,pt (b1+1) 0),(7,iw zra_0y7),(8,pt b335 0)]) (fun b335 => [.blk b1 [iw zb_0,iw zb_1,iw zb_2,iw zb_3,.slice Ab_4 nb_4 cb_4,.string sb_5,.slice Ab_6 nb_6 cb_6] 27,.blk (b1+1) [iw 0,iw 0,iw 0,iw 0,n0,s0,n0] 27,.blk b335 [iw zb_0,iw zb_1,iw zb_2,iw zb_3,.slice Ab_4 nb_4 cb_4,.string sb_5,.slice Ab_6 nb_6 cb_6] 27]) [.g [.K 0 0,.K 0 1,.K 0 2,.K 0 3,.K 0 4,.K 0 5,.K 0 6],.g [.N],.g [.K 2 0,.K 2 1,.K 2 2,.K 2 3,.K 2 4,.K 2 5,.K 2 6]] rfl (fun b335 => (en rfl ?_)))
    refine sr (g1 3 [(0,.slice Aa_0 na_0 ca_0),(4,pt b1 0),(6,pt (b1+1) 0),(8,pt b335 0)] [.blk b1 [iw zb_0,iw zb_1,iw zb_2,iw zb_3,.slice Ab_4 nb_4 cb_4,.string sb_5,.slice Ab_6 nb_6 cb_6] 27,.blk (b1+1) [iw 0,iw 0,iw 0,iw 0,n0,s0,n0] 27,.blk b335 [iw zra_0y7,iw zb_1,iw zb_2,iw zb_3,.slice Ab_4 nb_4 cb_4,.string sb_5,.slice Ab_6 nb_6 cb_6] 27] [gz,gz,.g [.K 2 0]] rfl (en rfl (Ok.seq (st [0,2] [] 11 (tk 5 [(0,.g [.K 1 0,.K 1 1,.K 1 2,.K 1 3,.K 1 4,.K 1 5,.K 1 6]),(1,gz),(2,gz),(3,.g [.K 0 1]),(4,gz),(5,gz)] [(6,pt (b1+1) 0),(39,.agg #[iw zra_0y7,iw zb_1,iw zb_2,iw zb_3,.slice Ab_4 nb_4 cb_4,.string sb_5,.slice Ab_6 nb_6 cb_6]),(40,.slice Aa_0 na_0 ca_0),(42,iw zb_1),(44,iw ((na_0 : Nat) : Int))] rfl (on 6 4 rfl (ca (some 45) (c50 H4 zb_1 ((na_0 : Nat) : Int) (by omega)) ?_)))))))
    rintro v337 H338 k340 le339 ⟨zra_0y341,rfl,py341_0⟩
    refine ws [0,2] le339 ?_
    have ie342 : 0 ≤ zra_0y341 ∧ zra_0y341 < ((na_0 : Nat) : Int) := by omega
    obtain ⟨je342,cse342,we342,he342⟩ := (WfS.mono le5 ha_0).at_ zra_0y341 ie342.1 ie342.2
    obtain ⟨ue342_0,le342_0,rfl,ve342_0,we342_0⟩ := wfl_cons we342
    obtain ⟨ze342_0,rfl⟩ := wfv_int ve342_0
    obtain ⟨ue342_1,le342_1,rfl,ve342_1,we342_1⟩ := wfl_cons we342_0
    obtain ⟨se342_1,rfl,te342_1⟩ := wfv_str ve342_1
    obtain ⟨ue342_2,le342_2,rfl,ve342_2,we342_2⟩ := wfl_cons we342_1
    obtain ⟨ze342_2,rfl⟩ := wfv_int ve342_2
    obtain ⟨ue342_3,le342_3,rfl,ve342_3,we342_3⟩ := wfl_cons we342_2
    obtain ⟨ze342_3,rfl⟩ := wfv_int ve342_3
    obtain rfl := wfl_nil we342_3
    refine tx 2 [(7,.ix),(8,.g [.X (iw ze342_0),.X (.string se342_1),.X (iw ze342_2),.X (iw ze342_3)])] [(6,pt (b1+1) 0),(39,.agg #[iw zra_0y7,iw zb_1,iw zb_2,iw zb_3,.slice Ab_4 nb_4 cb_4,.string sb_5,.slice Ab_6 nb_6 cb_6]),(47,.agg #[iw ze342_0,.string se342_1,iw ze342_2,iw ze342_3])] (ex1 (And.intro je342 ie342) (ex1 (cell0 (he342 0 _ rfl)) (ex1 (he342 (1) _ rfl) (ex1 (he342 (2) _ rfl) (ex1 (he342 (3) _ rfl) ex0))))) rfl ?_
    refine on 9 1 rfl (ca (some 48) (c51 H338 zra_0y7 zb_1 zb_2 zb_3 Ab_4 (nb_4) (cb_4) gb_4 sb_5 Ab_6 (nb_6) (cb_6) kb_6 ze342_0 se342_1 ze342_2 ze342_3 (LstIs.mono (tr le5 le339) hb_4) tb_5 (KidsIs.mono (tr le5 le339) hb_6) te342_1) ?_)
    rintro v343 H344 k346 le345 ⟨zra_0y347,zra_1y347,zra_2y347,zra_3y347,Ara_4y347,nra_4y347,cra_4y347,gra_4y347,sra_5y347,Ara_6y347,nra_6y347,cra_6y347,kra_6y347,rfl,hra_4y347,tra_5y347,hra_6y347,py347_0,py347_1⟩
    have lhra_4y347 := hra_4y347.2.1
    have mhra_4y347 := hra_4y347.1
    have lhra_6y347 := hra_6y347.2.1
    have mhra_6y347 := hra_6y347.1
    refine ws [0,2] (tr le339 le345) ?_
    refine on 10 0 rfl (e1 (.g [.K 1 0,.K 1 1,.K 1 2,.K 1 3,.K 1 4,.K 1 5,.K 1 6]) [(6,pt (b1+1) 0)] [.blk b1 [iw zb_0,iw zb_1,iw zb_2,iw zb_3,.slice Ab_4 nb_4 cb_4,.string sb_5,.slice Ab_6 nb_6 cb_6] 27,.blk (b1+1) [iw zra_0y347,iw zra_1y347,iw zra_2y347,iw zra_3y347,.slice Ara_4y347 nra_4y347 cra_4y347,.string sra_5y347,.slice Ara_6y347 nra_6y347 cra_6y347] 27,.blk b335 [iw zra_0y7,iw zb_1,iw zb_2,iw zb_3,.slice Ab_4 nb_4 cb_4,.string sb_5,.slice Ab_6 nb_6 cb_6] 27] ?_)
    refine ws [0,2] (tr le339 le345) ?_
    refine dn (Ok.ret_ (Ok.thenR ?_))
    exact Ok.ret1c (tr le5 (tr le339 le345)) [.K 1 0,.K 1 1,.K 1 2,.K 1 3,.K 1 4,.K 1 5,.K 1 6] (.agg #[iw zra_0y347,iw zra_1y347,iw zra_2y347,iw zra_3y347,.slice Ara_4y347 nra_4y347 cra_4y347,.string sra_5y347,.slice Ara_6y347 nra_6y347 cra_6y347]) [b1+1,b1+1,b1+1,b1+1,b1+1,b1+1,b1+1] rfl (by kernel_rfl) ⟨zra_0y347,zra_1y347,zra_2y347,zra_3y347,Ara_4y347,nra_4y347,cra_4y347,gra_4y347,sra_5y347,Ara_6y347,nra_6y347,cra_6y347,kra_6y347,rfl,hra_4y347,tra_5y347,hra_6y347,(fun f hf => good_atom (by omega) (by have := AllId.at_ hf (tr le5 (tr le339 le345)) ie342.1 ie342.2 (HasCell.mono (tr le339 le345) (cell0 (he342 0 _ rfl))); omega)),(bnd_nil py347_1)⟩
  have h334 := of_decide_eq_false h334
  refine skn (sr (g4 4 (fun b349 => [(0,.slice Aa_0 na_0 ca_0),(2,iw zc_0),(4,pt b1 0),(6,pt (b1+1) 0),(7,iw zra_0y7),(9,pt b349 0)]) (fun b349 => [.blk b1 [iw zb_0,iw zb_1,iw zb_2,iw zb_3,.slice Ab_4 nb_4 cb_4,.string sb_5,.slice Ab_6 nb_6 cb_6] 27,.blk (b1+1) [iw 0,iw 0,iw 0,iw 0,n0,s0,n0] 27,.blk b349 [iw zra_0y7,iw 0,iw 0,iw 0,n0,s0,n0] 27]) [gz,gz,.g [.N],.g [.K 2 0,.K 2 1,.K 2 2,.K 2 3,.K 2 4,.K 2 5,.K 2 6]] rfl (fun b349 => (en rfl ?_))))
  refine Ok.seq (sr (g0 1 [(0,.slice Aa_0 na_0 ca_0),(2,iw zc_0),(4,pt b1 0),(6,pt (b1+1) 0),(7,iw zra_0y7),(9,pt b349 0),(10,iw 0)] [gz] rfl (en rfl (Ok.blk (Ok.nilRow 7 27 (Ok.restr [0,2,4,6,7,9,10] [(0,.slice Aa_0 na_0 ca_0),(2,iw zc_0),(4,pt b1 0),(6,pt (b1+1) 0),(7,iw zra_0y7),(9,pt b349 0),(10,iw 0)] rfl (Ok.loop (fun H' fr kb m => ∃ (zL351_10 : Int) (AL351r3 : Option Addr) (nL351r3 : Nat) (cL351r3 : Nat) (xL351r3 : List Value) (KL351r3 : PTs) (RL351 : PTs),fr = [(0,.slice Aa_0 na_0 ca_0),(2,iw zc_0),(4,pt b1 0),(6,pt (b1+1) 0),(7,iw zra_0y7),(9,pt b349 0),(10,iw zL351_10)] ∧ kb = [.blk b1 [iw zb_0,iw zb_1,iw zb_2,iw zb_3,.slice Ab_4 nb_4 cb_4,.string sb_5,.slice Ab_6 nb_6 cb_6] 27,.blk (b1+1) [iw 0,iw 0,iw 0,iw 0,n0,s0,n0] 27,.blk b349 [iw zra_0y7,iw 0,iw 0,iw 0,n0,s0,.slice AL351r3 nL351r3 cL351r3] 27,.row (.slice AL351r3 nL351r3 cL351r3) nL351r3 7 27 xL351r3] ∧ m = ((((nb_6 : Nat) : Int)) - zL351_10).toNat ∧ SLe H4 H' ∧ 0 ≤ zL351_10 ∧ zL351_10 ≤ ((nb_6 : Nat) : Int) ∧ (zra_0y7 ≠ 7 ∨ zL351_10 ≤ 1) ∧ (((nL351r3 : Nat) : Int) = zL351_10 ∧ zL351_10 ≤ 16) ∧ zL351_10 + ((RL351.len : Nat) : Int) = ((nb_6 : Nat) : Int) ∧ RL351.depth ≤ kb_6.depth ∧ RowPs H' KL351r3 xL351r3 ∧ nL351r3 = KL351r3.len ∧ KidsAt H' RL351 Ab_6 (zL351_10).toNat ∧ (∀ f,AllId H Aa_0 na_0 f → KL351r3.goods f) ∧ KL351r3.bnds) _ ⟨0,none,0,0,[],PTs.nil,kb_6,rfl,rfl,rfl,SLe.refl _,by decide,by omega,by omega,by omega,by omega,by omega,RowPs.nil,rfl,(KidsIs.mono le5 hb_6).2.2,(fun f _ => goods_nil f),bnds_nil⟩ ?_)))))))
  rintro H352 _ _ mL351 ⟨zL351_10,AL351r3,nL351r3,cL351r3,xL351r3,KL351r3,RL351,rfl,rfl,hmL351,le353,fL351_0,fL351_1,fL351_2,fL351_3,fL351_4,fL351_5,EL351r3,LL351r3,QL351,XL351_0,XL351_1⟩
  refine Ok.seq (sr (g0 6 [(0,.slice Aa_0 na_0 ca_0),(2,iw zc_0),(4,pt b1 0),(6,pt (b1+1) 0),(7,iw zra_0y7),(9,pt b349 0),(10,iw zL351_10),(56,.bool (decide (zL351_10 < ((nb_6 : Nat) : Int))))] [gz,gz,.g [.K 0 6],gz,gz,gz] rfl (cs (decide (zL351_10 < ((nb_6 : Nat) : Int))) [56] (fun h355 => ?_) (fun h355 => ?_))))
  · have h355 := of_decide_eq_true h355
    refine g0 9 [(0,.slice Aa_0 na_0 ca_0),(2,iw zc_0),(4,pt b1 0),(6,pt (b1+1) 0),(7,iw zra_0y7),(9,pt b349 0),(10,iw zL351_10),(59,.bool (decide (zL351_10 < 16)))] [gz,gz,gz] rfl (en rfl (cd (decide (zL351_10 < 16)) (fun h357 => ?_) (fun h357 => ?_)))
    · have h357 := of_decide_eq_true h357
      refine skn (Ok.seq (Ok.blk (Ok.seq (sr (g0 3 [(0,.slice Aa_0 na_0 ca_0),(2,iw zc_0),(4,pt b1 0),(6,pt (b1+1) 0),(7,iw zra_0y7),(9,pt b349 0),(10,iw zL351_10),(64,.bool (zra_0y7 == 7))] [gz,gz,gz] rfl (cs (zra_0y7 == 7) [64] (fun h359 => ?_) (fun h359 => ?_)))))))
      · have h359 := eq_of_beq h359
        refine g0 6 [(0,.slice Aa_0 na_0 ca_0),(2,iw zc_0),(4,pt b1 0),(6,pt (b1+1) 0),(7,iw zra_0y7),(9,pt b349 0),(10,iw zL351_10),(67,.bool (decide (zL351_10 > 0)))] [gz,gz,gz] rfl (en rfl (cd (decide (zL351_10 > 0)) (fun h361 => ?_) (fun h361 => ?_)))
        · have h361 := of_decide_eq_true h361
          refine Ok.exit_ (Ok.thenE (Ok.blkM rfl (Ok.thenE (Ok.thenE (Ok.blkE (Ok.thenN (Ok.seq (sr (g0 3 [(6,pt (b1+1) 0),(9,pt b349 0),(84,.bool (zra_0y7 == 7))] [gz,gz,gz] rfl (cs (zra_0y7 == 7) [84] (fun h363 => ?_) (fun h363 => ?_)))))))))))
          · have h363 := eq_of_beq h363
            refine g0 8 [(6,pt (b1+1) 0),(9,pt b349 0),(89,.bool (((nL351r3 : Nat) : Int) == 0))] [gz,.g [.K 2 6],gz,gz,gz] rfl (en rfl (cd (((nL351r3 : Nat) : Int) == 0) (fun h365 => ?_) (fun h365 => ?_)))
            · have h365 := eq_of_beq h365
              refine Ok.reg (g4 4 (fun b366 => [(6,pt (b1+1) 0),(9,pt b349 0)]) (fun b366 => [.blk b1 [iw zb_0,iw zb_1,iw zb_2,iw zb_3,.slice Ab_4 nb_4 cb_4,.string sb_5,.slice Ab_6 nb_6 cb_6] 27,.blk (b1+1) [iw 0,iw 0,iw 0,iw 0,n0,s0,n0] 27,.blk b349 [iw zra_0y7,iw 0,iw 0,iw 0,n0,s0,sl b366 0 1 1] 27,.row (.slice AL351r3 nL351r3 cL351r3) nL351r3 7 27 xL351r3,.blk b366 [iw 0,iw 0,iw 0,iw 0,n0,s0,n0] 27]) [gz,.g [.N],gz,.g [.K 2 6]] rfl (fun b366 => (en rfl ?_)))
              refine sr (g1 2 [(6,pt (b1+1) 0)] [.blk b1 [iw zb_0,iw zb_1,iw zb_2,iw zb_3,.slice Ab_4 nb_4 cb_4,.string sb_5,.slice Ab_6 nb_6 cb_6] 27,.blk (b1+1) [iw zra_0y7,iw 0,iw 0,iw 0,n0,s0,sl b366 0 1 1] 27,.blk b349 [iw zra_0y7,iw 0,iw 0,iw 0,n0,s0,sl b366 0 1 1] 27,.row (.slice AL351r3 nL351r3 cL351r3) nL351r3 7 27 xL351r3,.blk b366 [iw 0,iw 0,iw 0,iw 0,n0,s0,n0] 27] [.g [.K 2 0,.K 2 1,.K 2 2,.K 2 3,.K 2 4,.K 2 5,.K 2 6],.g [.K 1 0,.K 1 1,.K 1 2,.K 1 3,.K 1 4,.K 1 5,.K 1 6]] rfl (en rfl (Ok.ret_ (Ok.pubP 4 rfl [.blk b1 [iw zb_0,iw zb_1,iw zb_2,iw zb_3,.slice Ab_4 nb_4 cb_4,.string sb_5,.slice Ab_6 nb_6 cb_6] 27,.blk (b1+1) [iw zra_0y7,iw 0,iw 0,iw 0,n0,s0,sl b366 0 1 1] 27,.blk b349 [iw zra_0y7,iw 0,iw 0,iw 0,n0,s0,sl b366 0 1 1] 27,.row (.slice AL351r3 nL351r3 cL351r3) nL351r3 7 27 xL351r3] rfl ?_))))
              intro H368 le369 pf370
              exact Ok.ret1c (tr le5 (tr le353 le369)) [.K 1 0,.K 1 1,.K 1 2,.K 1 3,.K 1 4,.K 1 5,.K 1 6] (.agg #[iw zra_0y7,iw 0,iw 0,iw 0,n0,s0,sl b366 0 1 1]) [b1+1,b1+1,b1+1,b1+1,b1+1,b1+1,b1+1] rfl (by kernel_rfl) ⟨zra_0y7,0,0,0,none,0,0,[],(⟨#[]⟩ : ByteArray),(some ⟨b366,0,none⟩),1,1,(PTs.cons (PT.node 0 0 0 0 [] (⟨#[]⟩ : ByteArray) PTs.nil) PTs.nil),rfl,(LstIs.nil _ _ _),(by decide),(KidsIs.of_pre pf370 (RowPs.lit (PredIs.mk (LstIs.nil _ _ _) (by decide) (KidsIs.nil _))) rfl (by decide)),(fun f hf => good_op (.inr (.inr ⟨by omega,rfl⟩)) (goods_one (good_zero _ _ _ _ _ _ _))),(bnd_node (by decide) (bnds_one bnd_leaf))⟩
            have h365 := ne_of_beq_false h365
            refine skn (sr (g1 2 [(6,pt (b1+1) 0)] [.blk b1 [iw zb_0,iw zb_1,iw zb_2,iw zb_3,.slice Ab_4 nb_4 cb_4,.string sb_5,.slice Ab_6 nb_6 cb_6] 27,.blk (b1+1) [iw zra_0y7,iw 0,iw 0,iw 0,n0,s0,.slice AL351r3 nL351r3 cL351r3] 27,.blk b349 [iw zra_0y7,iw 0,iw 0,iw 0,n0,s0,.slice AL351r3 nL351r3 cL351r3] 27,.row (.slice AL351r3 nL351r3 cL351r3) nL351r3 7 27 xL351r3] [.g [.K 2 0,.K 2 1,.K 2 2,.K 2 3,.K 2 4,.K 2 5,.K 2 6],.g [.K 1 0,.K 1 1,.K 1 2,.K 1 3,.K 1 4,.K 1 5,.K 1 6]] rfl (en rfl (Ok.ret_ (Ok.pubK (ks := KL351r3) 3 rfl EL351r3 LL351r3 (by omega) [.blk b1 [iw zb_0,iw zb_1,iw zb_2,iw zb_3,.slice Ab_4 nb_4 cb_4,.string sb_5,.slice Ab_6 nb_6 cb_6] 27,.blk (b1+1) [iw zra_0y7,iw 0,iw 0,iw 0,n0,s0,.slice AL351r3 nL351r3 cL351r3] 27,.blk b349 [iw zra_0y7,iw 0,iw 0,iw 0,n0,s0,.slice AL351r3 nL351r3 cL351r3] 27] rfl ?_)))))
            intro H372 le373 f374
            have lf374 := f374.2.1
            have mf374 := f374.1
            exact Ok.ret1c (tr le5 (tr le353 le373)) [.K 1 0,.K 1 1,.K 1 2,.K 1 3,.K 1 4,.K 1 5,.K 1 6] (.agg #[iw zra_0y7,iw 0,iw 0,iw 0,n0,s0,.slice AL351r3 nL351r3 cL351r3]) [b1+1,b1+1,b1+1,b1+1,b1+1,b1+1,b1+1] rfl (by kernel_rfl) ⟨zra_0y7,0,0,0,none,0,0,[],(⟨#[]⟩ : ByteArray),AL351r3,nL351r3,cL351r3,KL351r3,rfl,(LstIs.nil _ _ _),(by decide),f374,(fun f hf => good_op (by omega) (XL351_0 f hf)),(bnd_node (by omega) XL351_1)⟩
          have h363 := ne_of_beq_false h363
          exact absurd h359 h363
        have h361 := of_decide_eq_false h361
        refine skn (st [0,1,2] [14] 15 ?_)
        have ie375 : 0 < RL351.len := by omega
        have ze375 : 0 ≤ zL351_10 ∧ zL351_10 < ((nb_6 : Nat) : Int) := by omega
        obtain ⟨ke375,re375,rfl⟩ := PTs.open_ ie375
        obtain ⟨je375,⟨cse375,we375,he375⟩,ne375⟩ := (QL351).cons
        obtain ⟨ae375,be375,ce375,de375,se375,te375,kse375,rfl⟩ := PTs.node_ ke375
        obtain ⟨Ae375_4,ne375_4,ce375_4,Ae375_6,ne375_6,ce375_6,rfl,fe375_4,txe375,fe375_6⟩ := we375.open_
        have xe375 := PTs.len_cons (PT.node ae375 be375 ce375 de375 se375 te375 kse375) re375
        have ye375 := PTs.depth1 ae375 be375 ce375 de375 se375 te375 kse375 re375
        have ve375 := PTs.depth2 (PT.node ae375 be375 ce375 de375 se375 te375 kse375) re375
        have lfe375_4 := fe375_4.2.1
        have mfe375_4 := fe375_4.1
        have lfe375_6 := fe375_6.2.1
        have mfe375_6 := fe375_6.1
        refine tx 5 [(0,gz),(1,.g [.K 2 6]),(2,gz),(3,gz),(4,.g [.K 0 6]),(5,gz),(6,.ix),(7,.g [.X (iw ae375),.X (iw be375),.X (iw ce375),.X (iw de375),.X (.slice Ae375_4 ne375_4 ce375_4),.X (.string te375),.X (.slice Ae375_6 ne375_6 ce375_6)]),(8,gz),(9,gz)] [(0,.slice Aa_0 na_0 ca_0),(2,iw zc_0),(4,pt b1 0),(6,pt (b1+1) 0),(7,iw zra_0y7),(9,pt b349 0),(10,iw zL351_10),(69,.slice AL351r3 nL351r3 cL351r3),(70,.slice Aa_0 na_0 ca_0),(75,.agg #[iw ae375,iw be375,iw ce375,iw de375,.slice Ae375_4 ne375_4 ce375_4,.string te375,.slice Ae375_6 ne375_6 ce375_6]),(77,iw (w64 (zc_0 - 1)))] (ex1 (And.intro je375 ze375) (ex1 (cell0 (he375 0 _ rfl)) (ex1 (he375 (1) _ rfl) (ex1 (he375 (2) _ rfl) (ex1 (he375 (3) _ rfl) (ex1 (he375 (4) _ rfl) (ex1 (he375 (5) _ rfl) (ex1 (he375 (6) _ rfl) ex0)))))))) rfl ?_
        refine on 10 4 rfl (ca (some 78) (ih kse375.depth (by omega) H352 Aa_0 (na_0) (ca_0) ae375 be375 ce375 de375 Ae375_4 (ne375_4) (ce375_4) se375 te375 Ae375_6 (ne375_6) (ce375_6) kse375 (w64 (zc_0 - 1)) (WfS.mono (tr le5 le353) ha_0) fe375_4 txe375 fe375_6 (by omega) (Nat.le_refl _)) ?_)
        rintro v376 H377 k379 le378 ⟨zra_0y380,zra_1y380,zra_2y380,zra_3y380,Ara_4y380,nra_4y380,cra_4y380,gra_4y380,sra_5y380,Ara_6y380,nra_6y380,cra_6y380,kra_6y380,rfl,hra_4y380,tra_5y380,hra_6y380,py380_0,py380_1⟩
        have lhra_4y380 := hra_4y380.2.1
        have mhra_4y380 := hra_4y380.1
        have lhra_6y380 := hra_6y380.2.1
        have mhra_6y380 := hra_6y380.1
        refine ws [0,1,2] le378 ?_
        refine on 11 3 rfl (e4 (.g [.N]) (fun b381 => [(0,.slice Aa_0 na_0 ca_0),(2,iw zc_0),(4,pt b1 0),(6,pt (b1+1) 0),(7,iw zra_0y7),(9,pt b349 0),(10,iw zL351_10),(69,.slice AL351r3 nL351r3 cL351r3),(79,sl b381 0 1 1)]) (fun b381 => [.blk b1 [iw zb_0,iw zb_1,iw zb_2,iw zb_3,.slice Ab_4 nb_4 cb_4,.string sb_5,.slice Ab_6 nb_6 cb_6] 27,.blk (b1+1) [iw 0,iw 0,iw 0,iw 0,n0,s0,n0] 27,.blk b349 [iw zra_0y7,iw 0,iw 0,iw 0,n0,s0,.slice AL351r3 nL351r3 cL351r3] 27,.row (.slice AL351r3 nL351r3 cL351r3) nL351r3 7 27 xL351r3,.blk b381 [iw zra_0y380,iw zra_1y380,iw zra_2y380,iw zra_3y380,.slice Ara_4y380 nra_4y380 cra_4y380,.string sra_5y380,.slice Ara_6y380 nra_6y380 cra_6y380] 27]) (fun b381 => ?_))
        refine ws [0,1,2] le378 ?_
        refine on 12 2 rfl (Eff.appendN (t := 25) (d := some 80) (ad := ⟨b381,0,none⟩) (m := 1) (c := 1) 3 rfl (by kernel_rfl) 100000000 (by kernel_rfl) (by omega) rfl [iw zra_0y380,iw zra_1y380,iw zra_2y380,iw zra_3y380,.slice Ara_4y380 nra_4y380 cra_4y380,.string sra_5y380,.slice Ara_6y380 nra_6y380 cra_6y380] (reads_blk (cs := [iw zra_0y380,iw zra_1y380,iw zra_2y380,iw zra_3y380,.slice Ara_4y380 nra_4y380 cra_4y380,.string sra_5y380,.slice Ara_6y380 nra_6y380 cra_6y380]) 4 rfl 0 7) rfl rfl (by omega) (fun g382 cap383 => ?_))
        have E385 : RowPs H377 (KL351r3.snoc (PT.node zra_0y380 zra_1y380 zra_2y380 zra_3y380 gra_4y380 sra_5y380 kra_6y380)) (xL351r3 ++ [iw zra_0y380,iw zra_1y380,iw zra_2y380,iw zra_3y380,.slice Ara_4y380 nra_4y380 cra_4y380,.string sra_5y380,.slice Ara_6y380 nra_6y380 cra_6y380]) := (RowPs.snoc (RowPs.mono le378 EL351r3) (PredIs.mk hra_4y380 tra_5y380 hra_6y380))
        generalize (xL351r3 ++ [iw zra_0y380,iw zra_1y380,iw zra_2y380,iw zra_3y380,.slice Ara_4y380 nra_4y380 cra_4y380,.string sra_5y380,.slice Ara_6y380 nra_6y380 cra_6y380]) = x384 at E385 ⊢
        refine ws [0,1,2] le378 ?_
        refine tk 1 [(13,gz)] [(0,.slice Aa_0 na_0 ca_0),(2,iw zc_0),(4,pt b1 0),(6,pt (b1+1) 0),(7,iw zra_0y7),(9,pt b349 0),(10,iw zL351_10),(80,.slice ((some ⟨g382,0,none⟩)) ((nL351r3 + 1)) cap383),(81,pt b349 6)] rfl ?_
        refine Ok.toE (ol 14 0 rfl (e1 (.g [.K 2 6]) [(0,.slice Aa_0 na_0 ca_0),(2,iw zc_0),(4,pt b1 0),(6,pt (b1+1) 0),(7,iw zra_0y7),(9,pt b349 0),(10,iw zL351_10)] [.blk b1 [iw zb_0,iw zb_1,iw zb_2,iw zb_3,.slice Ab_4 nb_4 cb_4,.string sb_5,.slice Ab_6 nb_6 cb_6] 27,.blk (b1+1) [iw 0,iw 0,iw 0,iw 0,n0,s0,n0] 27,.blk b349 [iw zra_0y7,iw 0,iw 0,iw 0,n0,s0,.slice ((some ⟨g382,0,none⟩)) ((nL351r3 + 1)) cap383] 27,.row (.slice ((some ⟨g382,0,none⟩)) ((nL351r3 + 1)) cap383) ((nL351r3 + 1)) 7 27 x384,.blk b381 [iw zra_0y380,iw zra_1y380,iw zra_2y380,iw zra_3y380,.slice Ara_4y380 nra_4y380 cra_4y380,.string sra_5y380,.slice Ara_6y380 nra_6y380 cra_6y380] 27] ?_))
        refine Ok.doneE (by kernel_rfl) ?_
        refine Ok.blkN (Ok.thenN (Ok.reg ?_))
        have k389 := wid (x := zL351_10 + 1) (by omega)
        refine g0 3 [(0,.slice Aa_0 na_0 ca_0),(2,iw zc_0),(4,pt b1 0),(6,pt (b1+1) 0),(7,iw zra_0y7),(9,pt b349 0),(10,iw (w64 (zL351_10 + 1)))] [gz,gz,gz] rfl (en rfl (Ok.restr [0,2,4,6,7,9,10] [(0,.slice Aa_0 na_0 ca_0),(2,iw zc_0),(4,pt b1 0),(6,pt (b1+1) 0),(7,iw zra_0y7),(9,pt b349 0),(10,iw (w64 (zL351_10 + 1)))] rfl (Ok.mask [true,true,true,true,false] [.blk b1 [iw zb_0,iw zb_1,iw zb_2,iw zb_3,.slice Ab_4 nb_4 cb_4,.string sb_5,.slice Ab_6 nb_6 cb_6] 27,.blk (b1+1) [iw 0,iw 0,iw 0,iw 0,n0,s0,n0] 27,.blk b349 [iw zra_0y7,iw 0,iw 0,iw 0,n0,s0,.slice ((some ⟨g382,0,none⟩)) ((nL351r3 + 1)) cap383] 27,.row (.slice ((some ⟨g382,0,none⟩)) ((nL351r3 + 1)) cap383) ((nL351r3 + 1)) 7 27 x384] rfl ?_)))
        exact Ok.again _ ⟨(w64 (zL351_10 + 1)),((some ⟨g382,0,none⟩)),(nL351r3 + 1),cap383,x384,(KL351r3.snoc (PT.node zra_0y380 zra_1y380 zra_2y380 zra_3y380 gra_4y380 sra_5y380 kra_6y380)),re375,rfl,rfl,rfl,(tr le353 le378),by omega,by omega,by omega,by omega,by omega,by omega,E385,(PTs.snoc_len _ LL351r3),(KidsAt.cast (KidsAt.mono le378 ne375) (by omega)),(fun f hf => goods_snoc (XL351_0 f hf) (py380_0 f (AllId.mono (tr le5 le353) hf))),(bnds_snoc XL351_1 py380_1)⟩ (by omega)
      have h359 := ne_of_beq_false h359
      refine g0 6 [(0,.slice Aa_0 na_0 ca_0),(2,iw zc_0),(4,pt b1 0),(6,pt (b1+1) 0),(7,iw zra_0y7),(9,pt b349 0),(10,iw zL351_10),(67,bF)] [gz,gz,gz] rfl (en rfl (cF (skn (st [0,1,2] [14] 15 ?_))))
      have ie391 : 0 < RL351.len := by omega
      have ze391 : 0 ≤ zL351_10 ∧ zL351_10 < ((nb_6 : Nat) : Int) := by omega
      obtain ⟨ke391,re391,rfl⟩ := PTs.open_ ie391
      obtain ⟨je391,⟨cse391,we391,he391⟩,ne391⟩ := (QL351).cons
      obtain ⟨ae391,be391,ce391,de391,se391,te391,kse391,rfl⟩ := PTs.node_ ke391
      obtain ⟨Ae391_4,ne391_4,ce391_4,Ae391_6,ne391_6,ce391_6,rfl,fe391_4,txe391,fe391_6⟩ := we391.open_
      have xe391 := PTs.len_cons (PT.node ae391 be391 ce391 de391 se391 te391 kse391) re391
      have ye391 := PTs.depth1 ae391 be391 ce391 de391 se391 te391 kse391 re391
      have ve391 := PTs.depth2 (PT.node ae391 be391 ce391 de391 se391 te391 kse391) re391
      have lfe391_4 := fe391_4.2.1
      have mfe391_4 := fe391_4.1
      have lfe391_6 := fe391_6.2.1
      have mfe391_6 := fe391_6.1
      refine tx 5 [(0,gz),(1,.g [.K 2 6]),(2,gz),(3,gz),(4,.g [.K 0 6]),(5,gz),(6,.ix),(7,.g [.X (iw ae391),.X (iw be391),.X (iw ce391),.X (iw de391),.X (.slice Ae391_4 ne391_4 ce391_4),.X (.string te391),.X (.slice Ae391_6 ne391_6 ce391_6)]),(8,gz),(9,gz)] [(0,.slice Aa_0 na_0 ca_0),(2,iw zc_0),(4,pt b1 0),(6,pt (b1+1) 0),(7,iw zra_0y7),(9,pt b349 0),(10,iw zL351_10),(69,.slice AL351r3 nL351r3 cL351r3),(70,.slice Aa_0 na_0 ca_0),(75,.agg #[iw ae391,iw be391,iw ce391,iw de391,.slice Ae391_4 ne391_4 ce391_4,.string te391,.slice Ae391_6 ne391_6 ce391_6]),(77,iw (w64 (zc_0 - 1)))] (ex1 (And.intro je391 ze391) (ex1 (cell0 (he391 0 _ rfl)) (ex1 (he391 (1) _ rfl) (ex1 (he391 (2) _ rfl) (ex1 (he391 (3) _ rfl) (ex1 (he391 (4) _ rfl) (ex1 (he391 (5) _ rfl) (ex1 (he391 (6) _ rfl) ex0)))))))) rfl ?_
      refine on 10 4 rfl (ca (some 78) (ih kse391.depth (by omega) H352 Aa_0 (na_0) (ca_0) ae391 be391 ce391 de391 Ae391_4 (ne391_4) (ce391_4) se391 te391 Ae391_6 (ne391_6) (ce391_6) kse391 (w64 (zc_0 - 1)) (WfS.mono (tr le5 le353) ha_0) fe391_4 txe391 fe391_6 (by omega) (Nat.le_refl _)) ?_)
      rintro v392 H393 k395 le394 ⟨zra_0y396,zra_1y396,zra_2y396,zra_3y396,Ara_4y396,nra_4y396,cra_4y396,gra_4y396,sra_5y396,Ara_6y396,nra_6y396,cra_6y396,kra_6y396,rfl,hra_4y396,tra_5y396,hra_6y396,py396_0,py396_1⟩
      have lhra_4y396 := hra_4y396.2.1
      have mhra_4y396 := hra_4y396.1
      have lhra_6y396 := hra_6y396.2.1
      have mhra_6y396 := hra_6y396.1
      refine ws [0,1,2] le394 ?_
      refine on 11 3 rfl (e4 (.g [.N]) (fun b397 => [(0,.slice Aa_0 na_0 ca_0),(2,iw zc_0),(4,pt b1 0),(6,pt (b1+1) 0),(7,iw zra_0y7),(9,pt b349 0),(10,iw zL351_10),(69,.slice AL351r3 nL351r3 cL351r3),(79,sl b397 0 1 1)]) (fun b397 => [.blk b1 [iw zb_0,iw zb_1,iw zb_2,iw zb_3,.slice Ab_4 nb_4 cb_4,.string sb_5,.slice Ab_6 nb_6 cb_6] 27,.blk (b1+1) [iw 0,iw 0,iw 0,iw 0,n0,s0,n0] 27,.blk b349 [iw zra_0y7,iw 0,iw 0,iw 0,n0,s0,.slice AL351r3 nL351r3 cL351r3] 27,.row (.slice AL351r3 nL351r3 cL351r3) nL351r3 7 27 xL351r3,.blk b397 [iw zra_0y396,iw zra_1y396,iw zra_2y396,iw zra_3y396,.slice Ara_4y396 nra_4y396 cra_4y396,.string sra_5y396,.slice Ara_6y396 nra_6y396 cra_6y396] 27]) (fun b397 => ?_))
      refine ws [0,1,2] le394 ?_
      refine on 12 2 rfl (Eff.appendN (t := 25) (d := some 80) (ad := ⟨b397,0,none⟩) (m := 1) (c := 1) 3 rfl (by kernel_rfl) 100000000 (by kernel_rfl) (by omega) rfl [iw zra_0y396,iw zra_1y396,iw zra_2y396,iw zra_3y396,.slice Ara_4y396 nra_4y396 cra_4y396,.string sra_5y396,.slice Ara_6y396 nra_6y396 cra_6y396] (reads_blk (cs := [iw zra_0y396,iw zra_1y396,iw zra_2y396,iw zra_3y396,.slice Ara_4y396 nra_4y396 cra_4y396,.string sra_5y396,.slice Ara_6y396 nra_6y396 cra_6y396]) 4 rfl 0 7) rfl rfl (by omega) (fun g398 cap399 => ?_))
      have E401 : RowPs H393 (KL351r3.snoc (PT.node zra_0y396 zra_1y396 zra_2y396 zra_3y396 gra_4y396 sra_5y396 kra_6y396)) (xL351r3 ++ [iw zra_0y396,iw zra_1y396,iw zra_2y396,iw zra_3y396,.slice Ara_4y396 nra_4y396 cra_4y396,.string sra_5y396,.slice Ara_6y396 nra_6y396 cra_6y396]) := (RowPs.snoc (RowPs.mono le394 EL351r3) (PredIs.mk hra_4y396 tra_5y396 hra_6y396))
      generalize (xL351r3 ++ [iw zra_0y396,iw zra_1y396,iw zra_2y396,iw zra_3y396,.slice Ara_4y396 nra_4y396 cra_4y396,.string sra_5y396,.slice Ara_6y396 nra_6y396 cra_6y396]) = x400 at E401 ⊢
      refine ws [0,1,2] le394 ?_
      refine tk 1 [(13,gz)] [(0,.slice Aa_0 na_0 ca_0),(2,iw zc_0),(4,pt b1 0),(6,pt (b1+1) 0),(7,iw zra_0y7),(9,pt b349 0),(10,iw zL351_10),(80,.slice ((some ⟨g398,0,none⟩)) ((nL351r3 + 1)) cap399),(81,pt b349 6)] rfl ?_
      refine Ok.toE (ol 14 0 rfl (e1 (.g [.K 2 6]) [(0,.slice Aa_0 na_0 ca_0),(2,iw zc_0),(4,pt b1 0),(6,pt (b1+1) 0),(7,iw zra_0y7),(9,pt b349 0),(10,iw zL351_10)] [.blk b1 [iw zb_0,iw zb_1,iw zb_2,iw zb_3,.slice Ab_4 nb_4 cb_4,.string sb_5,.slice Ab_6 nb_6 cb_6] 27,.blk (b1+1) [iw 0,iw 0,iw 0,iw 0,n0,s0,n0] 27,.blk b349 [iw zra_0y7,iw 0,iw 0,iw 0,n0,s0,.slice ((some ⟨g398,0,none⟩)) ((nL351r3 + 1)) cap399] 27,.row (.slice ((some ⟨g398,0,none⟩)) ((nL351r3 + 1)) cap399) ((nL351r3 + 1)) 7 27 x400,.blk b397 [iw zra_0y396,iw zra_1y396,iw zra_2y396,iw zra_3y396,.slice Ara_4y396 nra_4y396 cra_4y396,.string sra_5y396,.slice Ara_6y396 nra_6y396 cra_6y396] 27] ?_))
      refine Ok.doneE (by kernel_rfl) ?_
      refine Ok.blkN (Ok.thenN (Ok.reg ?_))
      have k405 := wid (x := zL351_10 + 1) (by omega)
      refine g0 3 [(0,.slice Aa_0 na_0 ca_0),(2,iw zc_0),(4,pt b1 0),(6,pt (b1+1) 0),(7,iw zra_0y7),(9,pt b349 0),(10,iw (w64 (zL351_10 + 1)))] [gz,gz,gz] rfl (en rfl (Ok.restr [0,2,4,6,7,9,10] [(0,.slice Aa_0 na_0 ca_0),(2,iw zc_0),(4,pt b1 0),(6,pt (b1+1) 0),(7,iw zra_0y7),(9,pt b349 0),(10,iw (w64 (zL351_10 + 1)))] rfl (Ok.mask [true,true,true,true,false] [.blk b1 [iw zb_0,iw zb_1,iw zb_2,iw zb_3,.slice Ab_4 nb_4 cb_4,.string sb_5,.slice Ab_6 nb_6 cb_6] 27,.blk (b1+1) [iw 0,iw 0,iw 0,iw 0,n0,s0,n0] 27,.blk b349 [iw zra_0y7,iw 0,iw 0,iw 0,n0,s0,.slice ((some ⟨g398,0,none⟩)) ((nL351r3 + 1)) cap399] 27,.row (.slice ((some ⟨g398,0,none⟩)) ((nL351r3 + 1)) cap399) ((nL351r3 + 1)) 7 27 x400] rfl ?_)))
      exact Ok.again _ ⟨(w64 (zL351_10 + 1)),((some ⟨g398,0,none⟩)),(nL351r3 + 1),cap399,x400,(KL351r3.snoc (PT.node zra_0y396 zra_1y396 zra_2y396 zra_3y396 gra_4y396 sra_5y396 kra_6y396)),re391,rfl,rfl,rfl,(tr le353 le394),by omega,by omega,by omega,by omega,by omega,by omega,E401,(PTs.snoc_len _ LL351r3),(KidsAt.cast (KidsAt.mono le394 ne391) (by omega)),(fun f hf => goods_snoc (XL351_0 f hf) (py396_0 f (AllId.mono (tr le5 le353) hf))),(bnds_snoc XL351_1 py396_1)⟩ (by omega)
    have h357 := of_decide_eq_false h357
    refine Ok.exit_ (Ok.thenE (Ok.thenE (Ok.blkE (Ok.thenN (Ok.seq (sr (g0 3 [(6,pt (b1+1) 0),(9,pt b349 0),(84,.bool (zra_0y7 == 7))] [gz,gz,gz] rfl (cs (zra_0y7 == 7) [84] (fun h407 => ?_) (fun h407 => ?_)))))))))
    · have h407 := eq_of_beq h407
      refine g0 8 [(6,pt (b1+1) 0),(9,pt b349 0),(89,.bool (((nL351r3 : Nat) : Int) == 0))] [gz,.g [.K 2 6],gz,gz,gz] rfl (en rfl (cd (((nL351r3 : Nat) : Int) == 0) (fun h409 => ?_) (fun h409 => ?_)))
      · have h409 := eq_of_beq h409
        refine Ok.reg (g4 4 (fun b410 => [(6,pt (b1+1) 0),(9,pt b349 0)]) (fun b410 => [.blk b1 [iw zb_0,iw zb_1,iw zb_2,iw zb_3,.slice Ab_4 nb_4 cb_4,.string sb_5,.slice Ab_6 nb_6 cb_6] 27,.blk (b1+1) [iw 0,iw 0,iw 0,iw 0,n0,s0,n0] 27,.blk b349 [iw zra_0y7,iw 0,iw 0,iw 0,n0,s0,sl b410 0 1 1] 27,.row (.slice AL351r3 nL351r3 cL351r3) nL351r3 7 27 xL351r3,.blk b410 [iw 0,iw 0,iw 0,iw 0,n0,s0,n0] 27]) [gz,.g [.N],gz,.g [.K 2 6]] rfl (fun b410 => (en rfl ?_)))
        refine sr (g1 2 [(6,pt (b1+1) 0)] [.blk b1 [iw zb_0,iw zb_1,iw zb_2,iw zb_3,.slice Ab_4 nb_4 cb_4,.string sb_5,.slice Ab_6 nb_6 cb_6] 27,.blk (b1+1) [iw zra_0y7,iw 0,iw 0,iw 0,n0,s0,sl b410 0 1 1] 27,.blk b349 [iw zra_0y7,iw 0,iw 0,iw 0,n0,s0,sl b410 0 1 1] 27,.row (.slice AL351r3 nL351r3 cL351r3) nL351r3 7 27 xL351r3,.blk b410 [iw 0,iw 0,iw 0,iw 0,n0,s0,n0] 27] [.g [.K 2 0,.K 2 1,.K 2 2,.K 2 3,.K 2 4,.K 2 5,.K 2 6],.g [.K 1 0,.K 1 1,.K 1 2,.K 1 3,.K 1 4,.K 1 5,.K 1 6]] rfl (en rfl (Ok.ret_ (Ok.pubP 4 rfl [.blk b1 [iw zb_0,iw zb_1,iw zb_2,iw zb_3,.slice Ab_4 nb_4 cb_4,.string sb_5,.slice Ab_6 nb_6 cb_6] 27,.blk (b1+1) [iw zra_0y7,iw 0,iw 0,iw 0,n0,s0,sl b410 0 1 1] 27,.blk b349 [iw zra_0y7,iw 0,iw 0,iw 0,n0,s0,sl b410 0 1 1] 27,.row (.slice AL351r3 nL351r3 cL351r3) nL351r3 7 27 xL351r3] rfl ?_))))
        intro H412 le413 pf414
        exact Ok.ret1c (tr le5 (tr le353 le413)) [.K 1 0,.K 1 1,.K 1 2,.K 1 3,.K 1 4,.K 1 5,.K 1 6] (.agg #[iw zra_0y7,iw 0,iw 0,iw 0,n0,s0,sl b410 0 1 1]) [b1+1,b1+1,b1+1,b1+1,b1+1,b1+1,b1+1] rfl (by kernel_rfl) ⟨zra_0y7,0,0,0,none,0,0,[],(⟨#[]⟩ : ByteArray),(some ⟨b410,0,none⟩),1,1,(PTs.cons (PT.node 0 0 0 0 [] (⟨#[]⟩ : ByteArray) PTs.nil) PTs.nil),rfl,(LstIs.nil _ _ _),(by decide),(KidsIs.of_pre pf414 (RowPs.lit (PredIs.mk (LstIs.nil _ _ _) (by decide) (KidsIs.nil _))) rfl (by decide)),(fun f hf => good_op (.inr (.inr ⟨by omega,rfl⟩)) (goods_one (good_zero _ _ _ _ _ _ _))),(bnd_node (by decide) (bnds_one bnd_leaf))⟩
      have h409 := ne_of_beq_false h409
      refine skn (sr (g1 2 [(6,pt (b1+1) 0)] [.blk b1 [iw zb_0,iw zb_1,iw zb_2,iw zb_3,.slice Ab_4 nb_4 cb_4,.string sb_5,.slice Ab_6 nb_6 cb_6] 27,.blk (b1+1) [iw zra_0y7,iw 0,iw 0,iw 0,n0,s0,.slice AL351r3 nL351r3 cL351r3] 27,.blk b349 [iw zra_0y7,iw 0,iw 0,iw 0,n0,s0,.slice AL351r3 nL351r3 cL351r3] 27,.row (.slice AL351r3 nL351r3 cL351r3) nL351r3 7 27 xL351r3] [.g [.K 2 0,.K 2 1,.K 2 2,.K 2 3,.K 2 4,.K 2 5,.K 2 6],.g [.K 1 0,.K 1 1,.K 1 2,.K 1 3,.K 1 4,.K 1 5,.K 1 6]] rfl (en rfl (Ok.ret_ (Ok.pubK (ks := KL351r3) 3 rfl EL351r3 LL351r3 (by omega) [.blk b1 [iw zb_0,iw zb_1,iw zb_2,iw zb_3,.slice Ab_4 nb_4 cb_4,.string sb_5,.slice Ab_6 nb_6 cb_6] 27,.blk (b1+1) [iw zra_0y7,iw 0,iw 0,iw 0,n0,s0,.slice AL351r3 nL351r3 cL351r3] 27,.blk b349 [iw zra_0y7,iw 0,iw 0,iw 0,n0,s0,.slice AL351r3 nL351r3 cL351r3] 27] rfl ?_)))))
      intro H416 le417 f418
      have lf418 := f418.2.1
      have mf418 := f418.1
      exact Ok.ret1c (tr le5 (tr le353 le417)) [.K 1 0,.K 1 1,.K 1 2,.K 1 3,.K 1 4,.K 1 5,.K 1 6] (.agg #[iw zra_0y7,iw 0,iw 0,iw 0,n0,s0,.slice AL351r3 nL351r3 cL351r3]) [b1+1,b1+1,b1+1,b1+1,b1+1,b1+1,b1+1] rfl (by kernel_rfl) ⟨zra_0y7,0,0,0,none,0,0,[],(⟨#[]⟩ : ByteArray),AL351r3,nL351r3,cL351r3,KL351r3,rfl,(LstIs.nil _ _ _),(by decide),f418,(fun f hf => good_op (by omega) (XL351_0 f hf)),(bnd_node (by omega) XL351_1)⟩
    have h407 := ne_of_beq_false h407
    refine g0 8 [(6,pt (b1+1) 0),(9,pt b349 0),(89,bF)] [gz,gz,gz,gz,gz] rfl (en rfl (cF (skn (sr (g1 2 [(6,pt (b1+1) 0)] [.blk b1 [iw zb_0,iw zb_1,iw zb_2,iw zb_3,.slice Ab_4 nb_4 cb_4,.string sb_5,.slice Ab_6 nb_6 cb_6] 27,.blk (b1+1) [iw zra_0y7,iw 0,iw 0,iw 0,n0,s0,.slice AL351r3 nL351r3 cL351r3] 27,.blk b349 [iw zra_0y7,iw 0,iw 0,iw 0,n0,s0,.slice AL351r3 nL351r3 cL351r3] 27,.row (.slice AL351r3 nL351r3 cL351r3) nL351r3 7 27 xL351r3] [.g [.K 2 0,.K 2 1,.K 2 2,.K 2 3,.K 2 4,.K 2 5,.K 2 6],.g [.K 1 0,.K 1 1,.K 1 2,.K 1 3,.K 1 4,.K 1 5,.K 1 6]] rfl (en rfl (Ok.ret_ (Ok.pubK (ks := KL351r3) 3 rfl EL351r3 LL351r3 (by omega) [.blk b1 [iw zb_0,iw zb_1,iw zb_2,iw zb_3,.slice Ab_4 nb_4 cb_4,.string sb_5,.slice Ab_6 nb_6 cb_6] 27,.blk (b1+1) [iw zra_0y7,iw 0,iw 0,iw 0,n0,s0,.slice AL351r3 nL351r3 cL351r3] 27,.blk b349 [iw zra_0y7,iw 0,iw 0,iw 0,n0,s0,.slice AL351r3 nL351r3 cL351r3] 27] rfl ?_))))))))
    intro H421 le422 f423
    have lf423 := f423.2.1
    have mf423 := f423.1
    exact Ok.ret1c (tr le5 (tr le353 le422)) [.K 1 0,.K 1 1,.K 1 2,.K 1 3,.K 1 4,.K 1 5,.K 1 6] (.agg #[iw zra_0y7,iw 0,iw 0,iw 0,n0,s0,.slice AL351r3 nL351r3 cL351r3]) [b1+1,b1+1,b1+1,b1+1,b1+1,b1+1,b1+1] rfl (by kernel_rfl) ⟨zra_0y7,0,0,0,none,0,0,[],(⟨#[]⟩ : ByteArray),AL351r3,nL351r3,cL351r3,KL351r3,rfl,(LstIs.nil _ _ _),(by decide),f423,(fun f hf => good_op (by omega) (XL351_0 f hf)),(bnd_node (by omega) XL351_1)⟩
  have h355 := of_decide_eq_false h355
  refine g0 9 [(0,.slice Aa_0 na_0 ca_0),(2,iw zc_0),(4,pt b1 0),(6,pt (b1+1) 0),(7,iw zra_0y7),(9,pt b349 0),(10,iw zL351_10),(59,bF)] [gz,gz,gz] rfl (en rfl (cF (Ok.exit_ (Ok.thenE (Ok.thenE (Ok.blkE (Ok.thenN (Ok.seq (sr (g0 3 [(6,pt (b1+1) 0),(9,pt b349 0),(84,.bool (zra_0y7 == 7))] [gz,gz,gz] rfl (cs (zra_0y7 == 7) [84] (fun h426 => ?_) (fun h426 => ?_))))))))))))
  · have h426 := eq_of_beq h426
    refine g0 8 [(6,pt (b1+1) 0),(9,pt b349 0),(89,.bool (((nL351r3 : Nat) : Int) == 0))] [gz,.g [.K 2 6],gz,gz,gz] rfl (en rfl (cd (((nL351r3 : Nat) : Int) == 0) (fun h428 => ?_) (fun h428 => ?_)))
    · have h428 := eq_of_beq h428
      refine Ok.reg (g4 4 (fun b429 => [(6,pt (b1+1) 0),(9,pt b349 0)]) (fun b429 => [.blk b1 [iw zb_0,iw zb_1,iw zb_2,iw zb_3,.slice Ab_4 nb_4 cb_4,.string sb_5,.slice Ab_6 nb_6 cb_6] 27,.blk (b1+1) [iw 0,iw 0,iw 0,iw 0,n0,s0,n0] 27,.blk b349 [iw zra_0y7,iw 0,iw 0,iw 0,n0,s0,sl b429 0 1 1] 27,.row (.slice AL351r3 nL351r3 cL351r3) nL351r3 7 27 xL351r3,.blk b429 [iw 0,iw 0,iw 0,iw 0,n0,s0,n0] 27]) [gz,.g [.N],gz,.g [.K 2 6]] rfl (fun b429 => (en rfl ?_)))
      refine sr (g1 2 [(6,pt (b1+1) 0)] [.blk b1 [iw zb_0,iw zb_1,iw zb_2,iw zb_3,.slice Ab_4 nb_4 cb_4,.string sb_5,.slice Ab_6 nb_6 cb_6] 27,.blk (b1+1) [iw zra_0y7,iw 0,iw 0,iw 0,n0,s0,sl b429 0 1 1] 27,.blk b349 [iw zra_0y7,iw 0,iw 0,iw 0,n0,s0,sl b429 0 1 1] 27,.row (.slice AL351r3 nL351r3 cL351r3) nL351r3 7 27 xL351r3,.blk b429 [iw 0,iw 0,iw 0,iw 0,n0,s0,n0] 27] [.g [.K 2 0,.K 2 1,.K 2 2,.K 2 3,.K 2 4,.K 2 5,.K 2 6],.g [.K 1 0,.K 1 1,.K 1 2,.K 1 3,.K 1 4,.K 1 5,.K 1 6]] rfl (en rfl (Ok.ret_ (Ok.pubP 4 rfl [.blk b1 [iw zb_0,iw zb_1,iw zb_2,iw zb_3,.slice Ab_4 nb_4 cb_4,.string sb_5,.slice Ab_6 nb_6 cb_6] 27,.blk (b1+1) [iw zra_0y7,iw 0,iw 0,iw 0,n0,s0,sl b429 0 1 1] 27,.blk b349 [iw zra_0y7,iw 0,iw 0,iw 0,n0,s0,sl b429 0 1 1] 27,.row (.slice AL351r3 nL351r3 cL351r3) nL351r3 7 27 xL351r3] rfl ?_))))
      intro H431 le432 pf433
      exact Ok.ret1c (tr le5 (tr le353 le432)) [.K 1 0,.K 1 1,.K 1 2,.K 1 3,.K 1 4,.K 1 5,.K 1 6] (.agg #[iw zra_0y7,iw 0,iw 0,iw 0,n0,s0,sl b429 0 1 1]) [b1+1,b1+1,b1+1,b1+1,b1+1,b1+1,b1+1] rfl (by kernel_rfl) ⟨zra_0y7,0,0,0,none,0,0,[],(⟨#[]⟩ : ByteArray),(some ⟨b429,0,none⟩),1,1,(PTs.cons (PT.node 0 0 0 0 [] (⟨#[]⟩ : ByteArray) PTs.nil) PTs.nil),rfl,(LstIs.nil _ _ _),(by decide),(KidsIs.of_pre pf433 (RowPs.lit (PredIs.mk (LstIs.nil _ _ _) (by decide) (KidsIs.nil _))) rfl (by decide)),(fun f hf => good_op (.inr (.inr ⟨by omega,rfl⟩)) (goods_one (good_zero _ _ _ _ _ _ _))),(bnd_node (by decide) (bnds_one bnd_leaf))⟩
    have h428 := ne_of_beq_false h428
    refine skn (sr (g1 2 [(6,pt (b1+1) 0)] [.blk b1 [iw zb_0,iw zb_1,iw zb_2,iw zb_3,.slice Ab_4 nb_4 cb_4,.string sb_5,.slice Ab_6 nb_6 cb_6] 27,.blk (b1+1) [iw zra_0y7,iw 0,iw 0,iw 0,n0,s0,.slice AL351r3 nL351r3 cL351r3] 27,.blk b349 [iw zra_0y7,iw 0,iw 0,iw 0,n0,s0,.slice AL351r3 nL351r3 cL351r3] 27,.row (.slice AL351r3 nL351r3 cL351r3) nL351r3 7 27 xL351r3] [.g [.K 2 0,.K 2 1,.K 2 2,.K 2 3,.K 2 4,.K 2 5,.K 2 6],.g [.K 1 0,.K 1 1,.K 1 2,.K 1 3,.K 1 4,.K 1 5,.K 1 6]] rfl (en rfl (Ok.ret_ (Ok.pubK (ks := KL351r3) 3 rfl EL351r3 LL351r3 (by omega) [.blk b1 [iw zb_0,iw zb_1,iw zb_2,iw zb_3,.slice Ab_4 nb_4 cb_4,.string sb_5,.slice Ab_6 nb_6 cb_6] 27,.blk (b1+1) [iw zra_0y7,iw 0,iw 0,iw 0,n0,s0,.slice AL351r3 nL351r3 cL351r3] 27,.blk b349 [iw zra_0y7,iw 0,iw 0,iw 0,n0,s0,.slice AL351r3 nL351r3 cL351r3] 27] rfl ?_)))))
    intro H435 le436 f437
    have lf437 := f437.2.1
    have mf437 := f437.1
    exact Ok.ret1c (tr le5 (tr le353 le436)) [.K 1 0,.K 1 1,.K 1 2,.K 1 3,.K 1 4,.K 1 5,.K 1 6] (.agg #[iw zra_0y7,iw 0,iw 0,iw 0,n0,s0,.slice AL351r3 nL351r3 cL351r3]) [b1+1,b1+1,b1+1,b1+1,b1+1,b1+1,b1+1] rfl (by kernel_rfl) ⟨zra_0y7,0,0,0,none,0,0,[],(⟨#[]⟩ : ByteArray),AL351r3,nL351r3,cL351r3,KL351r3,rfl,(LstIs.nil _ _ _),(by decide),f437,(fun f hf => good_op (by omega) (XL351_0 f hf)),(bnd_node (by omega) XL351_1)⟩
  have h426 := ne_of_beq_false h426
  refine g0 8 [(6,pt (b1+1) 0),(9,pt b349 0),(89,bF)] [gz,gz,gz,gz,gz] rfl (en rfl (cF (skn (sr (g1 2 [(6,pt (b1+1) 0)] [.blk b1 [iw zb_0,iw zb_1,iw zb_2,iw zb_3,.slice Ab_4 nb_4 cb_4,.string sb_5,.slice Ab_6 nb_6 cb_6] 27,.blk (b1+1) [iw zra_0y7,iw 0,iw 0,iw 0,n0,s0,.slice AL351r3 nL351r3 cL351r3] 27,.blk b349 [iw zra_0y7,iw 0,iw 0,iw 0,n0,s0,.slice AL351r3 nL351r3 cL351r3] 27,.row (.slice AL351r3 nL351r3 cL351r3) nL351r3 7 27 xL351r3] [.g [.K 2 0,.K 2 1,.K 2 2,.K 2 3,.K 2 4,.K 2 5,.K 2 6],.g [.K 1 0,.K 1 1,.K 1 2,.K 1 3,.K 1 4,.K 1 5,.K 1 6]] rfl (en rfl (Ok.ret_ (Ok.pubK (ks := KL351r3) 3 rfl EL351r3 LL351r3 (by omega) [.blk b1 [iw zb_0,iw zb_1,iw zb_2,iw zb_3,.slice Ab_4 nb_4 cb_4,.string sb_5,.slice Ab_6 nb_6 cb_6] 27,.blk (b1+1) [iw zra_0y7,iw 0,iw 0,iw 0,n0,s0,.slice AL351r3 nL351r3 cL351r3] 27,.blk b349 [iw zra_0y7,iw 0,iw 0,iw 0,n0,s0,.slice AL351r3 nL351r3 cL351r3] 27] rfl ?_))))))))
  intro H440 le441 f442
  have lf442 := f442.2.1
  have mf442 := f442.1
  exact Ok.ret1c (tr le5 (tr le353 le441)) [.K 1 0,.K 1 1,.K 1 2,.K 1 3,.K 1 4,.K 1 5,.K 1 6] (.agg #[iw zra_0y7,iw 0,iw 0,iw 0,n0,s0,.slice AL351r3 nL351r3 cL351r3]) [b1+1,b1+1,b1+1,b1+1,b1+1,b1+1,b1+1] rfl (by kernel_rfl) ⟨zra_0y7,0,0,0,none,0,0,[],(⟨#[]⟩ : ByteArray),AL351r3,nL351r3,cL351r3,KL351r3,rfl,(LstIs.nil _ _ _),(by decide),f442,(fun f hf => good_op (by omega) (XL351_0 f hf)),(bnd_node (by omega) XL351_1)⟩
theorem c7 (H : Snap) (Aa_0 : Option Addr) (na_0 : Nat) (ca_0 : Nat) (za_1 : Int) (zb_0 : Int) (zb_1 : Int) (zb_2 : Int) (zb_3 : Int) (Ab_4 : Option Addr) (nb_4 : Nat) (cb_4 : Nat) (gb_4 : List (List Value)) (sb_5 : ByteArray) (Ab_6 : Option Addr) (nb_6 : Nat) (cb_6 : Nat) (kb_6 : PTs) (ha_0 : WfS H el41 Aa_0 na_0) (hb_4 : LstIs H elV Ab_4 nb_4 gb_4) (tb_5 : sb_5.size < 9223372036854775808) (hb_6 : KidsIs H Ab_6 nb_6 kb_6) (hq0 : na_0 ≤ 1000) : Does Tryz.prog 7 [.agg #[.slice Aa_0 na_0 ca_0,iw za_1],.agg #[iw zb_0,iw zb_1,iw zb_2,iw zb_3,.slice Ab_4 nb_4 cb_4,.string sb_5,.slice Ab_6 nb_6 cb_6]] H [] (fun v H' kp => ∃ (zra_0 : Int) (zra_1 : Int) (zra_2 : Int) (zra_3 : Int) (Ara_4 : Option Addr) (nra_4 : Nat) (cra_4 : Nat) (gra_4 : List (List Value)) (sra_5 : ByteArray) (Ara_6 : Option Addr) (nra_6 : Nat) (cra_6 : Nat) (kra_6 : PTs),v = .agg #[iw zra_0,iw zra_1,iw zra_2,iw zra_3,.slice Ara_4 nra_4 cra_4,.string sra_5,.slice Ara_6 nra_6 cra_6] ∧ LstIs H' elV Ara_4 nra_4 gra_4 ∧ sra_5.size < 9223372036854775808 ∧ KidsIs H' Ara_6 nra_6 kra_6 ∧ (∀ f,AllId H Aa_0 na_0 f → (PT.node zra_0 zra_1 zra_2 zra_3 gra_4 sra_5 kra_6).good f) ∧ (PT.node zra_0 zra_1 zra_2 zra_3 gra_4 sra_5 kra_6).bnd) := by
  have lha_0 := ha_0.1
  have lhb_4 := hb_4.2.1
  have mhb_4 := hb_4.1
  have lhb_6 := hb_6.2.1
  have mhb_6 := hb_6.1
  refine Does.of Tryz.func7 rfl rfl rfl rfl (fun w0 H0 kx => ?_)
  refine sr (g4 3 (fun b1 => [(2,pt b1 0),(3,pt (b1+1) 0),(4,pt (b1+1+1) 0)]) (fun b1 => [.blk b1 [.slice Aa_0 na_0 ca_0,iw za_1] 34,.blk (b1+1) [iw zb_0,iw zb_1,iw zb_2,iw zb_3,.slice Ab_4 nb_4 cb_4,.string sb_5,.slice Ab_6 nb_6 cb_6] 27,.blk (b1+1+1) [iw 0,iw 0,iw 0,iw 0,n0,s0,n0] 27]) [.g [.N],.g [.N],.g [.N]] rfl (fun b1 => (en rfl ?_)))
  refine Ok.seq (st [0,1] [] 5 ?_)
  refine tk 3 [(0,.g [.K 0 0,.K 0 1]),(2,.g [.K 1 0,.K 1 1,.K 1 2,.K 1 3,.K 1 4,.K 1 5,.K 1 6])] [(4,pt (b1+1+1) 0),(5,.agg #[.slice Aa_0 na_0 ca_0,iw za_1]),(7,.agg #[iw zb_0,iw zb_1,iw zb_2,iw zb_3,.slice Ab_4 nb_4 cb_4,.string sb_5,.slice Ab_6 nb_6 cb_6])] rfl ?_
  refine on 1 2 rfl (ca (some 6) (c26 H Aa_0 (na_0) (ca_0) za_1 ha_0 (by omega)) ?_)
  rintro v2 H3 k5 le4 ⟨Ara_0y6,nra_0y6,cra_0y6,rfl,hra_0y6,py6_0,py6_1⟩
  have lhra_0y6 := hra_0y6.1
  refine ws [0,1] le4 ?_
  refine on 3 1 rfl (ca (some 8) (c25 _ H3 Ara_0y6 (nra_0y6) (cra_0y6) zb_0 zb_1 zb_2 zb_3 Ab_4 (nb_4) (cb_4) gb_4 sb_5 Ab_6 (nb_6) (cb_6) kb_6 8 hra_0y6 (LstIs.mono le4 hb_4) tb_5 (KidsIs.mono le4 hb_6) (by omega) (Nat.le_refl _)) ?_)
  rintro v7 H8 k10 le9 ⟨zra_0y11,zra_1y11,zra_2y11,zra_3y11,Ara_4y11,nra_4y11,cra_4y11,gra_4y11,sra_5y11,Ara_6y11,nra_6y11,cra_6y11,kra_6y11,rfl,hra_4y11,tra_5y11,hra_6y11,py11_0,py11_1⟩
  have lhra_4y11 := hra_4y11.2.1
  have mhra_4y11 := hra_4y11.1
  have lhra_6y11 := hra_6y11.2.1
  have mhra_6y11 := hra_6y11.1
  refine ws [0,1] (tr le4 le9) ?_
  refine on 4 0 rfl (e1 (.g [.K 2 0,.K 2 1,.K 2 2,.K 2 3,.K 2 4,.K 2 5,.K 2 6]) [(4,pt (b1+1+1) 0)] [.blk b1 [.slice Aa_0 na_0 ca_0,iw za_1] 34,.blk (b1+1) [iw zb_0,iw zb_1,iw zb_2,iw zb_3,.slice Ab_4 nb_4 cb_4,.string sb_5,.slice Ab_6 nb_6 cb_6] 27,.blk (b1+1+1) [iw zra_0y11,iw zra_1y11,iw zra_2y11,iw zra_3y11,.slice Ara_4y11 nra_4y11 cra_4y11,.string sra_5y11,.slice Ara_6y11 nra_6y11 cra_6y11] 27] ?_)
  refine ws [0,1] (tr le4 le9) ?_
  refine dn (Ok.ret_ ?_)
  exact Ok.ret1c (tr le4 le9) [.K 2 0,.K 2 1,.K 2 2,.K 2 3,.K 2 4,.K 2 5,.K 2 6] (.agg #[iw zra_0y11,iw zra_1y11,iw zra_2y11,iw zra_3y11,.slice Ara_4y11 nra_4y11 cra_4y11,.string sra_5y11,.slice Ara_6y11 nra_6y11 cra_6y11]) [b1+1+1,b1+1+1,b1+1+1,b1+1+1,b1+1+1,b1+1+1,b1+1+1] rfl (by kernel_rfl) ⟨zra_0y11,zra_1y11,zra_2y11,zra_3y11,Ara_4y11,nra_4y11,cra_4y11,gra_4y11,sra_5y11,Ara_6y11,nra_6y11,cra_6y11,kra_6y11,rfl,hra_4y11,tra_5y11,hra_6y11,(fun f hf => py11_0 f (py6_1 f hf)),py11_1⟩
theorem c49 (H : Snap) (Aa_0 : Option Addr) (na_0 : Nat) (ca_0 : Nat) (za_1 : Int) (Ab_0 : Option Addr) (nb_0 : Nat) (cb_0 : Nat) (ha_0 : WfS H el41 Aa_0 na_0) (hb_0 : WfS H elV Ab_0 nb_0) (hq0 : na_0 ≤ 1000) : Does Tryz.prog 49 [.agg #[.slice Aa_0 na_0 ca_0,iw za_1],.slice Ab_0 nb_0 cb_0] H [] (fun v H' kp => ∃ (Ara_0 : Option Addr) (nra_0 : Nat) (cra_0 : Nat),v = .agg #[.slice Ara_0 nra_0 cra_0] ∧ WfS H' el59 Ara_0 nra_0) := by
  have lha_0 := ha_0.1
  have lhb_0 := hb_0.1
  refine Does.of Tryz.func49 rfl rfl rfl rfl (fun w0 H0 kx => ?_)
  refine sr (g4 2 (fun b1 => [(1,.slice Ab_0 nb_0 cb_0),(2,pt b1 0),(4,pt (b1+1) 0)]) (fun b1 => [.blk b1 [.slice Aa_0 na_0 ca_0,iw za_1] 34,.blk (b1+1) [n0] 50]) [.g [.N],.g [.N]] rfl (fun b1 => (en rfl ?_)))
  refine sr (g4 3 (fun b2 => [(1,.slice Ab_0 nb_0 cb_0),(2,pt b1 0),(4,pt (b1+1) 0),(5,pt b2 0)]) (fun b2 => [.blk b1 [.slice Aa_0 na_0 ca_0,iw za_1] 34,.blk (b1+1) [n0] 50,.blk b2 [n0] 50]) [gz,.g [.N],.g [.K 2 0]] rfl (fun b2 => (en rfl ?_)))
  refine Ok.seq (sr (g0 1 [(1,.slice Ab_0 nb_0 cb_0),(2,pt b1 0),(4,pt (b1+1) 0),(5,pt b2 0),(6,iw 0)] [gz] rfl (en rfl (Ok.blk (Ok.nilRow 4 59 (Ok.restr [1,2,4,5,6] [(1,.slice Ab_0 nb_0 cb_0),(2,pt b1 0),(4,pt (b1+1) 0),(5,pt b2 0),(6,iw 0)] rfl (Ok.loop (fun H' fr kb m => ∃ (zL4_6 : Int) (AL4r3 : Option Addr) (nL4r3 : Nat) (cL4r3 : Nat) (xL4r3 : List Value),fr = [(1,.slice Ab_0 nb_0 cb_0),(2,pt b1 0),(4,pt (b1+1) 0),(5,pt b2 0),(6,iw zL4_6)] ∧ kb = [.blk b1 [.slice Aa_0 na_0 ca_0,iw za_1] 34,.blk (b1+1) [n0] 50,.blk b2 [.slice AL4r3 nL4r3 cL4r3] 50,.row (.slice AL4r3 nL4r3 cL4r3) nL4r3 4 59 xL4r3] ∧ m = ((((na_0 : Nat) : Int)) - zL4_6).toNat ∧ SLe H H' ∧ 0 ≤ zL4_6 ∧ zL4_6 ≤ ((na_0 : Nat) : Int) ∧ ((nL4r3 : Nat) : Int) ≤ zL4_6 ∧ Elems H' el59 nL4r3 xL4r3) _ ⟨0,none,0,0,[],rfl,rfl,rfl,SLe.refl _,by decide,by omega,by omega,(Elems.nil el59)⟩ ?_)))))))
  rintro H5 _ _ mL4 ⟨zL4_6,AL4r3,nL4r3,cL4r3,xL4r3,rfl,rfl,hmL4,le6,fL4_0,fL4_1,fL4_2,EL4r3⟩
  refine Ok.seq (sr (g0 6 [(1,.slice Ab_0 nb_0 cb_0),(2,pt b1 0),(4,pt (b1+1) 0),(5,pt b2 0),(6,iw zL4_6),(15,.bool (decide (zL4_6 < ((na_0 : Nat) : Int))))] [gz,gz,.g [.K 0 0],gz,gz,gz] rfl (cs (decide (zL4_6 < ((na_0 : Nat) : Int))) [15] (fun h8 => ?_) (fun h8 => ?_))))
  · have h8 := of_decide_eq_true h8
    refine g0 11 [(1,.slice Ab_0 nb_0 cb_0),(2,pt b1 0),(4,pt (b1+1) 0),(5,pt b2 0),(6,iw zL4_6),(20,.bool (decide (zL4_6 < ((nb_0 : Nat) : Int))))] [gz,gz,gz,gz,gz] rfl (en rfl (cd (decide (zL4_6 < ((nb_0 : Nat) : Int))) (fun h10 => ?_) (fun h10 => ?_)))
    · have h10 := of_decide_eq_true h10
      refine skn (Ok.seq (Ok.blk (sr ?_)))
      have ie12 : 0 ≤ zL4_6 ∧ zL4_6 < ((na_0 : Nat) : Int) := by omega
      obtain ⟨je12,cse12,we12,he12⟩ := (WfS.mono le6 ha_0).at_ zL4_6 ie12.1 ie12.2
      obtain ⟨ue12_0,le12_0,rfl,ve12_0,we12_0⟩ := wfl_cons we12
      obtain ⟨ze12_0,rfl⟩ := wfv_int ve12_0
      obtain ⟨ue12_1,le12_1,rfl,ve12_1,we12_1⟩ := wfl_cons we12_0
      obtain ⟨se12_1,rfl,te12_1⟩ := wfv_str ve12_1
      obtain ⟨ue12_2,le12_2,rfl,ve12_2,we12_2⟩ := wfl_cons we12_1
      obtain ⟨ze12_2,rfl⟩ := wfv_int ve12_2
      obtain ⟨ue12_3,le12_3,rfl,ve12_3,we12_3⟩ := wfl_cons we12_2
      obtain ⟨ze12_3,rfl⟩ := wfv_int ve12_3
      obtain rfl := wfl_nil we12_3
      refine g5 7 (fun b11 => [(1,.slice Ab_0 nb_0 cb_0),(2,pt b1 0),(4,pt (b1+1) 0),(5,pt b2 0),(6,iw zL4_6),(7,pt b11 0)]) (fun b11 => [.blk b1 [.slice Aa_0 na_0 ca_0,iw za_1] 34,.blk (b1+1) [n0] 50,.blk b2 [.slice AL4r3 nL4r3 cL4r3] 50,.row (.slice AL4r3 nL4r3 cL4r3) nL4r3 4 59 xL4r3,.blk b11 [iw ze12_0,.string se12_1,iw ze12_2,iw ze12_3] 41]) [gz,.g [.K 0 0],gz,.ix,.g [.X (iw ze12_0),.X (.string se12_1),.X (iw ze12_2),.X (iw ze12_3)],.g [.N],.g [.K 4 0,.K 4 1,.K 4 2,.K 4 3]] (fun b11 => (ex1 (And.intro je12 ie12) (ex1 (cell0 (he12 0 _ rfl)) (ex1 (he12 (1) _ rfl) (ex1 (he12 (2) _ rfl) (ex1 (he12 (3) _ rfl) ex0)))))) rfl (fun b11 => (en rfl ?_))
      refine Ok.seq (Ok.seq (Ok.regJ (ι := Bool) (fun y14 => [(1,.slice Ab_0 nb_0 cb_0),(2,pt b1 0),(4,pt (b1+1) 0),(5,pt b2 0),(6,iw zL4_6),(7,pt b11 0),(37,.bool y14)]) ?_ (fun J13 => ?_)))
      · rintro bJ13_37
        refine Ok.thenN (cd bJ13_37 (fun h15 => ?_) (fun h15 => ?_))
        · refine Ok.exit_ (Ok.thenE (Ok.blkE (Ok.thenN (Ok.reg ?_))))
          have k17 := wid (x := zL4_6 + 1) (by omega)
          refine g0 3 [(1,.slice Ab_0 nb_0 cb_0),(2,pt b1 0),(4,pt (b1+1) 0),(5,pt b2 0),(6,iw (w64 (zL4_6 + 1)))] [gz,gz,gz] rfl (en rfl (Ok.restr [1,2,4,5,6] [(1,.slice Ab_0 nb_0 cb_0),(2,pt b1 0),(4,pt (b1+1) 0),(5,pt b2 0),(6,iw (w64 (zL4_6 + 1)))] rfl (Ok.mask [true,true,true,true,false] [.blk b1 [.slice Aa_0 na_0 ca_0,iw za_1] 34,.blk (b1+1) [n0] 50,.blk b2 [.slice AL4r3 nL4r3 cL4r3] 50,.row (.slice AL4r3 nL4r3 cL4r3) nL4r3 4 59 xL4r3] rfl ?_)))
          exact Ok.again _ ⟨(w64 (zL4_6 + 1)),AL4r3,nL4r3,cL4r3,xL4r3,rfl,rfl,rfl,le6,by omega,by omega,by omega,EL4r3⟩ (by omega)
        refine skn (Ok.seq (st [0,1,2,3,4] [] 9 ?_))
        have ie18 : 0 ≤ zL4_6 ∧ zL4_6 < ((nb_0 : Nat) : Int) := by omega
        obtain ⟨je18,cse18,we18,he18⟩ := (WfS.mono le6 hb_0).at_ zL4_6 ie18.1 ie18.2
        obtain ⟨ue18_0,le18_0,rfl,ve18_0,we18_0⟩ := wfl_cons we18
        obtain ⟨be18_0,rfl⟩ := wfv_bool ve18_0
        obtain ⟨ue18_1,le18_1,rfl,ve18_1,we18_1⟩ := wfl_cons we18_0
        obtain ⟨ze18_1,rfl⟩ := wfv_int ve18_1
        obtain ⟨ue18_2,le18_2,rfl,ve18_2,we18_2⟩ := wfl_cons we18_1
        obtain ⟨se18_2,rfl,te18_2⟩ := wfv_str ve18_2
        obtain rfl := wfl_nil we18_2
        refine tx 3 [(0,gz),(1,gz),(2,.ix),(3,.g [.X (.bool be18_0),.X (iw ze18_1),.X (.string se18_2)]),(4,gz),(5,.g [.K 4 2])] [(1,.slice Ab_0 nb_0 cb_0),(2,pt b1 0),(4,pt (b1+1) 0),(5,pt b2 0),(6,iw zL4_6),(7,pt b11 0),(41,.agg #[.bool be18_0,iw ze18_1,.string se18_2]),(43,iw ze12_2)] (ex1 (And.intro je18 ie18) (ex1 (cell0 (he18 0 _ rfl)) (ex1 (he18 (1) _ rfl) (ex1 (he18 (2) _ rfl) ex0)))) rfl ?_
        refine o2 6 7 2 rfl ?_ ?_
        · refine (ca (some 44) (c89 H5 be18_0 ze18_1 se18_2 ze12_2 te18_2) ?_)
          rintro v19 H20 k22 le21 ⟨bra_0y23,zra_1y23,sra_2y23,rfl,tra_2y23⟩
          refine ws [0,1,2,3,4] le21 ?_
          refine on 7 1 rfl (e4 (.g [.N]) (fun b24 => [(1,.slice Ab_0 nb_0 cb_0),(2,pt b1 0),(4,pt (b1+1) 0),(5,pt b2 0),(6,iw zL4_6),(7,pt b11 0),(8,pt b24 0),(44,.agg #[.bool bra_0y23,iw zra_1y23,.string sra_2y23])]) (fun b24 => [.blk b1 [.slice Aa_0 na_0 ca_0,iw za_1] 34,.blk (b1+1) [n0] 50,.blk b2 [.slice AL4r3 nL4r3 cL4r3] 50,.row (.slice AL4r3 nL4r3 cL4r3) nL4r3 4 59 xL4r3,.blk b11 [iw ze12_0,.string se12_1,iw ze12_2,iw ze12_3] 41,.blk b24 [bF,iw 0,s0] 54]) (fun b24 => ?_))
          refine ws [0,1,2,3,4] le21 ?_
          refine on 8 0 rfl (e1 (.g [.K 5 0,.K 5 1,.K 5 2]) [(1,.slice Ab_0 nb_0 cb_0),(2,pt b1 0),(4,pt (b1+1) 0),(5,pt b2 0),(6,iw zL4_6),(7,pt b11 0),(8,pt b24 0)] [.blk b1 [.slice Aa_0 na_0 ca_0,iw za_1] 34,.blk (b1+1) [n0] 50,.blk b2 [.slice AL4r3 nL4r3 cL4r3] 50,.row (.slice AL4r3 nL4r3 cL4r3) nL4r3 4 59 xL4r3,.blk b11 [iw ze12_0,.string se12_1,iw ze12_2,iw ze12_3] 41,.blk b24 [.bool bra_0y23,iw zra_1y23,.string sra_2y23] 54] ?_)
          refine ws [0,1,2,3,4] le21 ?_
          refine dn (sr (g0 3 [(1,.slice Ab_0 nb_0 cb_0),(2,pt b1 0),(4,pt (b1+1) 0),(5,pt b2 0),(6,iw zL4_6),(7,pt b11 0),(8,pt b24 0),(47,.bool (!bra_0y23))] [gz,.g [.K 5 0],gz] rfl (en rfl (cd (!bra_0y23) (fun h27 => ?_) (fun h27 => ?_)))))
          · refine Ok.reg (g4 7 (fun b28 => [(1,.slice Ab_0 nb_0 cb_0),(2,pt b1 0),(4,pt (b1+1) 0),(5,pt b2 0),(6,iw zL4_6),(49,.slice AL4r3 nL4r3 cL4r3),(54,sl b28 0 1 1)]) (fun b28 => [.blk b1 [.slice Aa_0 na_0 ca_0,iw za_1] 34,.blk (b1+1) [n0] 50,.blk b2 [.slice AL4r3 nL4r3 cL4r3] 50,.row (.slice AL4r3 nL4r3 cL4r3) nL4r3 4 59 xL4r3,.blk b11 [iw ze12_0,.string se12_1,iw ze12_2,iw ze12_3] 41,.blk b24 [.bool bra_0y23,iw zra_1y23,.string sra_2y23] 54,.blk b28 [iw ze12_0,.bool bra_0y23,iw zra_1y23,.string sra_2y23] 59]) [gz,.g [.K 2 0],gz,.g [.K 4 0],.g [.K 5 0,.K 5 1,.K 5 2],gz,.g [.N]] rfl (fun b28 => (ef 8 rfl (Eff.appendN (t := 48) (d := some 55) (ad := ⟨b28,0,none⟩) (m := 1) (c := 1) 3 rfl (by kernel_rfl) 100000000 (by kernel_rfl) (by omega) rfl [iw ze12_0,.bool bra_0y23,iw zra_1y23,.string sra_2y23] (reads_blk (cs := [iw ze12_0,.bool bra_0y23,iw zra_1y23,.string sra_2y23]) 6 rfl 0 4) rfl rfl (by omega) (fun g29 cap30 => ?_)))))
            have E32 : Elems H20 el59 (nL4r3 + 1) (xL4r3 ++ [iw ze12_0,.bool bra_0y23,iw zra_1y23,.string sra_2y23]) := (Elems.snoc (Elems.mono le21 EL4r3) (mkl_cons (mkv_int _ _) (mkl_cons (mkv_bool _) (mkl_cons (mkv_int _ _) (mkl_cons (mkv_str _ tra_2y23) mkl_nil)))))
            generalize (xL4r3 ++ [iw ze12_0,.bool bra_0y23,iw zra_1y23,.string sra_2y23]) = x31 at E32 ⊢
            refine g1 10 [(1,.slice Ab_0 nb_0 cb_0),(2,pt b1 0),(4,pt (b1+1) 0),(5,pt b2 0),(6,iw zL4_6)] [.blk b1 [.slice Aa_0 na_0 ca_0,iw za_1] 34,.blk (b1+1) [n0] 50,.blk b2 [.slice ((some ⟨g29,0,none⟩)) ((nL4r3 + 1)) cap30] 50,.row (.slice ((some ⟨g29,0,none⟩)) ((nL4r3 + 1)) cap30) ((nL4r3 + 1)) 4 59 x31,.blk b11 [iw ze12_0,.string se12_1,iw ze12_2,iw ze12_3] 41,.blk b24 [.bool bra_0y23,iw zra_1y23,.string sra_2y23] 54,.blk b28 [iw ze12_0,.bool bra_0y23,iw zra_1y23,.string sra_2y23] 59] [gz,.g [.K 2 0]] rfl (Ok.segEnd rfl (Ok.blkN ?_))
            refine Ok.thenN (Ok.reg ?_)
            have k36 := wid (x := zL4_6 + 1) (by omega)
            refine g0 3 [(1,.slice Ab_0 nb_0 cb_0),(2,pt b1 0),(4,pt (b1+1) 0),(5,pt b2 0),(6,iw (w64 (zL4_6 + 1)))] [gz,gz,gz] rfl (en rfl (Ok.restr [1,2,4,5,6] [(1,.slice Ab_0 nb_0 cb_0),(2,pt b1 0),(4,pt (b1+1) 0),(5,pt b2 0),(6,iw (w64 (zL4_6 + 1)))] rfl (Ok.mask [true,true,true,true,false,false,false] [.blk b1 [.slice Aa_0 na_0 ca_0,iw za_1] 34,.blk (b1+1) [n0] 50,.blk b2 [.slice ((some ⟨g29,0,none⟩)) ((nL4r3 + 1)) cap30] 50,.row (.slice ((some ⟨g29,0,none⟩)) ((nL4r3 + 1)) cap30) ((nL4r3 + 1)) 4 59 x31] rfl ?_)))
            exact Ok.again _ ⟨(w64 (zL4_6 + 1)),((some ⟨g29,0,none⟩)),(nL4r3 + 1),cap30,x31,rfl,rfl,rfl,(tr le6 le21),by omega,by omega,by omega,E32⟩ (by omega)
          refine Ok.skip_ (Ok.blkN (Ok.thenN (Ok.reg ?_)))
          have k38 := wid (x := zL4_6 + 1) (by omega)
          refine g0 3 [(1,.slice Ab_0 nb_0 cb_0),(2,pt b1 0),(4,pt (b1+1) 0),(5,pt b2 0),(6,iw (w64 (zL4_6 + 1)))] [gz,gz,gz] rfl (en rfl (Ok.restr [1,2,4,5,6] [(1,.slice Ab_0 nb_0 cb_0),(2,pt b1 0),(4,pt (b1+1) 0),(5,pt b2 0),(6,iw (w64 (zL4_6 + 1)))] rfl (Ok.mask [true,true,true,true,false,false] [.blk b1 [.slice Aa_0 na_0 ca_0,iw za_1] 34,.blk (b1+1) [n0] 50,.blk b2 [.slice AL4r3 nL4r3 cL4r3] 50,.row (.slice AL4r3 nL4r3 cL4r3) nL4r3 4 59 xL4r3] rfl ?_)))
          exact Ok.again _ ⟨(w64 (zL4_6 + 1)),AL4r3,nL4r3,cL4r3,xL4r3,rfl,rfl,rfl,(tr le6 le21),by omega,by omega,by omega,(Elems.mono le21 EL4r3)⟩ (by omega)
        refine (e4 (.g [.N]) (fun b39 => [(1,.slice Ab_0 nb_0 cb_0),(2,pt b1 0),(4,pt (b1+1) 0),(5,pt b2 0),(6,iw zL4_6),(7,pt b11 0),(8,pt b39 0),(41,.agg #[.bool be18_0,iw ze18_1,.string se18_2]),(43,iw ze12_2)]) (fun b39 => [.blk b1 [.slice Aa_0 na_0 ca_0,iw za_1] 34,.blk (b1+1) [n0] 50,.blk b2 [.slice AL4r3 nL4r3 cL4r3] 50,.row (.slice AL4r3 nL4r3 cL4r3) nL4r3 4 59 xL4r3,.blk b11 [iw ze12_0,.string se12_1,iw ze12_2,iw ze12_3] 41,.blk b39 [bF,iw 0,s0] 54]) (fun b39 => ?_))
        refine ws [0,1,2,3,4] (SLe.refl _) ?_
        refine on 6 1 rfl (ca (some 44) (c89 H5 be18_0 ze18_1 se18_2 ze12_2 te18_2) ?_)
        rintro v40 H41 k43 le42 ⟨bra_0y44,zra_1y44,sra_2y44,rfl,tra_2y44⟩
        refine ws [0,1,2,3,4] le42 ?_
        refine on 8 0 rfl (e1 (.g [.K 5 0,.K 5 1,.K 5 2]) [(1,.slice Ab_0 nb_0 cb_0),(2,pt b1 0),(4,pt (b1+1) 0),(5,pt b2 0),(6,iw zL4_6),(7,pt b11 0),(8,pt b39 0)] [.blk b1 [.slice Aa_0 na_0 ca_0,iw za_1] 34,.blk (b1+1) [n0] 50,.blk b2 [.slice AL4r3 nL4r3 cL4r3] 50,.row (.slice AL4r3 nL4r3 cL4r3) nL4r3 4 59 xL4r3,.blk b11 [iw ze12_0,.string se12_1,iw ze12_2,iw ze12_3] 41,.blk b39 [.bool bra_0y44,iw zra_1y44,.string sra_2y44] 54] ?_)
        refine ws [0,1,2,3,4] le42 ?_
        refine dn (sr (g0 3 [(1,.slice Ab_0 nb_0 cb_0),(2,pt b1 0),(4,pt (b1+1) 0),(5,pt b2 0),(6,iw zL4_6),(7,pt b11 0),(8,pt b39 0),(47,.bool (!bra_0y44))] [gz,.g [.K 5 0],gz] rfl (en rfl (cd (!bra_0y44) (fun h47 => ?_) (fun h47 => ?_)))))
        · refine Ok.reg (g4 7 (fun b48 => [(1,.slice Ab_0 nb_0 cb_0),(2,pt b1 0),(4,pt (b1+1) 0),(5,pt b2 0),(6,iw zL4_6),(49,.slice AL4r3 nL4r3 cL4r3),(54,sl b48 0 1 1)]) (fun b48 => [.blk b1 [.slice Aa_0 na_0 ca_0,iw za_1] 34,.blk (b1+1) [n0] 50,.blk b2 [.slice AL4r3 nL4r3 cL4r3] 50,.row (.slice AL4r3 nL4r3 cL4r3) nL4r3 4 59 xL4r3,.blk b11 [iw ze12_0,.string se12_1,iw ze12_2,iw ze12_3] 41,.blk b39 [.bool bra_0y44,iw zra_1y44,.string sra_2y44] 54,.blk b48 [iw ze12_0,.bool bra_0y44,iw zra_1y44,.string sra_2y44] 59]) [gz,.g [.K 2 0],gz,.g [.K 4 0],.g [.K 5 0,.K 5 1,.K 5 2],gz,.g [.N]] rfl (fun b48 => (ef 8 rfl (Eff.appendN (t := 48) (d := some 55) (ad := ⟨b48,0,none⟩) (m := 1) (c := 1) 3 rfl (by kernel_rfl) 100000000 (by kernel_rfl) (by omega) rfl [iw ze12_0,.bool bra_0y44,iw zra_1y44,.string sra_2y44] (reads_blk (cs := [iw ze12_0,.bool bra_0y44,iw zra_1y44,.string sra_2y44]) 6 rfl 0 4) rfl rfl (by omega) (fun g49 cap50 => ?_)))))
          have E52 : Elems H41 el59 (nL4r3 + 1) (xL4r3 ++ [iw ze12_0,.bool bra_0y44,iw zra_1y44,.string sra_2y44]) := (Elems.snoc (Elems.mono le42 EL4r3) (mkl_cons (mkv_int _ _) (mkl_cons (mkv_bool _) (mkl_cons (mkv_int _ _) (mkl_cons (mkv_str _ tra_2y44) mkl_nil)))))
          generalize (xL4r3 ++ [iw ze12_0,.bool bra_0y44,iw zra_1y44,.string sra_2y44]) = x51 at E52 ⊢
          refine g1 10 [(1,.slice Ab_0 nb_0 cb_0),(2,pt b1 0),(4,pt (b1+1) 0),(5,pt b2 0),(6,iw zL4_6)] [.blk b1 [.slice Aa_0 na_0 ca_0,iw za_1] 34,.blk (b1+1) [n0] 50,.blk b2 [.slice ((some ⟨g49,0,none⟩)) ((nL4r3 + 1)) cap50] 50,.row (.slice ((some ⟨g49,0,none⟩)) ((nL4r3 + 1)) cap50) ((nL4r3 + 1)) 4 59 x51,.blk b11 [iw ze12_0,.string se12_1,iw ze12_2,iw ze12_3] 41,.blk b39 [.bool bra_0y44,iw zra_1y44,.string sra_2y44] 54,.blk b48 [iw ze12_0,.bool bra_0y44,iw zra_1y44,.string sra_2y44] 59] [gz,.g [.K 2 0]] rfl (Ok.segEnd rfl (Ok.blkN ?_))
          refine Ok.thenN (Ok.reg ?_)
          have k56 := wid (x := zL4_6 + 1) (by omega)
          refine g0 3 [(1,.slice Ab_0 nb_0 cb_0),(2,pt b1 0),(4,pt (b1+1) 0),(5,pt b2 0),(6,iw (w64 (zL4_6 + 1)))] [gz,gz,gz] rfl (en rfl (Ok.restr [1,2,4,5,6] [(1,.slice Ab_0 nb_0 cb_0),(2,pt b1 0),(4,pt (b1+1) 0),(5,pt b2 0),(6,iw (w64 (zL4_6 + 1)))] rfl (Ok.mask [true,true,true,true,false,false,false] [.blk b1 [.slice Aa_0 na_0 ca_0,iw za_1] 34,.blk (b1+1) [n0] 50,.blk b2 [.slice ((some ⟨g49,0,none⟩)) ((nL4r3 + 1)) cap50] 50,.row (.slice ((some ⟨g49,0,none⟩)) ((nL4r3 + 1)) cap50) ((nL4r3 + 1)) 4 59 x51] rfl ?_)))
          exact Ok.again _ ⟨(w64 (zL4_6 + 1)),((some ⟨g49,0,none⟩)),(nL4r3 + 1),cap50,x51,rfl,rfl,rfl,(tr le6 le42),by omega,by omega,by omega,E52⟩ (by omega)
        refine Ok.skip_ (Ok.blkN (Ok.thenN (Ok.reg ?_)))
        have k58 := wid (x := zL4_6 + 1) (by omega)
        refine g0 3 [(1,.slice Ab_0 nb_0 cb_0),(2,pt b1 0),(4,pt (b1+1) 0),(5,pt b2 0),(6,iw (w64 (zL4_6 + 1)))] [gz,gz,gz] rfl (en rfl (Ok.restr [1,2,4,5,6] [(1,.slice Ab_0 nb_0 cb_0),(2,pt b1 0),(4,pt (b1+1) 0),(5,pt b2 0),(6,iw (w64 (zL4_6 + 1)))] rfl (Ok.mask [true,true,true,true,false,false] [.blk b1 [.slice Aa_0 na_0 ca_0,iw za_1] 34,.blk (b1+1) [n0] 50,.blk b2 [.slice AL4r3 nL4r3 cL4r3] 50,.row (.slice AL4r3 nL4r3 cL4r3) nL4r3 4 59 xL4r3] rfl ?_)))
        exact Ok.again _ ⟨(w64 (zL4_6 + 1)),AL4r3,nL4r3,cL4r3,xL4r3,rfl,rfl,rfl,(tr le6 le42),by omega,by omega,by omega,(Elems.mono le42 EL4r3)⟩ (by omega)
      refine g0 4 [(1,.slice Ab_0 nb_0 cb_0),(2,pt b1 0),(4,pt (b1+1) 0),(5,pt b2 0),(6,iw zL4_6),(7,pt b11 0),(31,.bool (ze12_2 == 6))] [gz,.g [.K 4 2],gz,gz] rfl (cs (ze12_2 == 6) [31] (fun h60 => ?_) (fun h60 => ?_))
      · have h60 := eq_of_beq h60
        refine g0 10 [(1,.slice Ab_0 nb_0 cb_0),(2,pt b1 0),(4,pt (b1+1) 0),(5,pt b2 0),(6,iw zL4_6),(7,pt b11 0),(37,bT)] [gz,gz,gz,gz,gz,gz] rfl (Ok.segEnd rfl (Ok.restr [1,2,4,5,6,7,37] [(1,.slice Ab_0 nb_0 cb_0),(2,pt b1 0),(4,pt (b1+1) 0),(5,pt b2 0),(6,iw zL4_6),(7,pt b11 0),(37,bT)] rfl ?_))
        exact J13 (true)
      have h60 := ne_of_beq_false h60
      have ie63 : 0 ≤ zL4_6 ∧ zL4_6 < ((nb_0 : Nat) : Int) := by omega
      obtain ⟨je63,cse63,we63,he63⟩ := (WfS.mono le6 hb_0).at_ zL4_6 ie63.1 ie63.2
      obtain ⟨ue63_0,le63_0,rfl,ve63_0,we63_0⟩ := wfl_cons we63
      obtain ⟨be63_0,rfl⟩ := wfv_bool ve63_0
      obtain ⟨ue63_1,le63_1,rfl,ve63_1,we63_1⟩ := wfl_cons we63_0
      obtain ⟨ze63_1,rfl⟩ := wfv_int ve63_1
      obtain ⟨ue63_2,le63_2,rfl,ve63_2,we63_2⟩ := wfl_cons we63_1
      obtain ⟨se63_2,rfl,te63_2⟩ := wfv_str ve63_2
      obtain rfl := wfl_nil we63_2
      refine g2 10 [(1,.slice Ab_0 nb_0 cb_0),(2,pt b1 0),(4,pt (b1+1) 0),(5,pt b2 0),(6,iw zL4_6),(7,pt b11 0),(37,.bool be63_0)] [gz,gz,.ix,gz,.g [.X (.bool be63_0)],gz] (ex1 (And.intro je63 ie63) (ex1 (cell0 (he63 0 _ rfl)) ex0)) rfl (Ok.segEnd rfl (Ok.restr [1,2,4,5,6,7,37] [(1,.slice Ab_0 nb_0 cb_0),(2,pt b1 0),(4,pt (b1+1) 0),(5,pt b2 0),(6,iw zL4_6),(7,pt b11 0),(37,.bool be63_0)] rfl ?_))
      exact J13 (be63_0)
    have h10 := of_decide_eq_false h10
    refine Ok.exit_ (Ok.thenE (Ok.thenE (Ok.blkE (Ok.thenN (sr (g1 2 [(4,pt (b1+1) 0)] [.blk b1 [.slice Aa_0 na_0 ca_0,iw za_1] 34,.blk (b1+1) [.slice AL4r3 nL4r3 cL4r3] 50,.blk b2 [.slice AL4r3 nL4r3 cL4r3] 50,.row (.slice AL4r3 nL4r3 cL4r3) nL4r3 4 59 xL4r3] [.g [.K 2 0],.g [.K 1 0]] rfl (en rfl (Ok.ret_ (Ok.pubS 3 rfl EL4r3 (by omega) [.blk b1 [.slice Aa_0 na_0 ca_0,iw za_1] 34,.blk (b1+1) [.slice AL4r3 nL4r3 cL4r3] 50,.blk b2 [.slice AL4r3 nL4r3 cL4r3] 50] rfl ?_)))))))))
    intro H65 le66 f67
    exact Ok.ret1c (tr le6 le66) [.K 1 0] (.agg #[.slice AL4r3 nL4r3 cL4r3]) [b1+1] rfl (by kernel_rfl) ⟨AL4r3,nL4r3,cL4r3,rfl,f67⟩
  have h8 := of_decide_eq_false h8
  refine g0 11 [(1,.slice Ab_0 nb_0 cb_0),(2,pt b1 0),(4,pt (b1+1) 0),(5,pt b2 0),(6,iw zL4_6),(20,bF)] [gz,gz,gz,gz,gz] rfl (en rfl (cF (Ok.exit_ (Ok.thenE (Ok.thenE (Ok.blkE (Ok.thenN (sr (g1 2 [(4,pt (b1+1) 0)] [.blk b1 [.slice Aa_0 na_0 ca_0,iw za_1] 34,.blk (b1+1) [.slice AL4r3 nL4r3 cL4r3] 50,.blk b2 [.slice AL4r3 nL4r3 cL4r3] 50,.row (.slice AL4r3 nL4r3 cL4r3) nL4r3 4 59 xL4r3] [.g [.K 2 0],.g [.K 1 0]] rfl (en rfl (Ok.ret_ (Ok.pubS 3 rfl EL4r3 (by omega) [.blk b1 [.slice Aa_0 na_0 ca_0,iw za_1] 34,.blk (b1+1) [.slice AL4r3 nL4r3 cL4r3] 50,.blk b2 [.slice AL4r3 nL4r3 cL4r3] 50] rfl ?_))))))))))))
  intro H70 le71 f72
  exact Ok.ret1c (tr le6 le71) [.K 1 0] (.agg #[.slice AL4r3 nL4r3 cL4r3]) [b1+1] rfl (by kernel_rfl) ⟨AL4r3,nL4r3,cL4r3,rfl,f72⟩
theorem c24 (H : Snap) (Aa_0 : Option Addr) (na_0 : Nat) (ca_0 : Nat) (za_1 : Int) (Ab_0 : Option Addr) (nb_0 : Nat) (cb_0 : Nat) (zc_0 : Int) (ha_0 : WfS H el41 Aa_0 na_0) (hb_0 : WfS H el24 Ab_0 nb_0) (hq0 : na_0 ≤ 1000) (hq1 : 0 ≤ zc_0 ∧ zc_0 ≤ 100) : Does Tryz.prog 24 [.agg #[.slice Aa_0 na_0 ca_0,iw za_1],.slice Ab_0 nb_0 cb_0,iw zc_0] H [] (fun v H' kp => ∃ (Ara_0 : Option Addr) (nra_0 : Nat) (cra_0 : Nat),v = .slice Ara_0 nra_0 cra_0 ∧ WfS H' el50 Ara_0 nra_0 ∧ nra_0 ≤ 100) := by
  have lha_0 := ha_0.1
  have lhb_0 := hb_0.1
  refine Does.of Tryz.func24 rfl rfl rfl rfl (fun w0 H0 kx => ?_)
  refine sr (g4 2 (fun b1 => [(1,.slice Ab_0 nb_0 cb_0),(2,iw zc_0),(3,pt b1 0)]) (fun b1 => [.blk b1 [.slice Aa_0 na_0 ca_0,iw za_1] 34]) [.g [.N],gz] rfl (fun b1 => (en rfl ?_)))
  refine sr (g4 2 (fun b2 => [(1,.slice Ab_0 nb_0 cb_0),(2,iw zc_0),(3,pt b1 0),(7,sl b2 0 0 0)]) (fun b2 => [.blk b1 [.slice Aa_0 na_0 ca_0,iw za_1] 34,.blk b2 [] 50]) [.g [.N],gz] rfl (fun b2 => (en rfl ?_)))
  refine Ok.seq (sr (g0 1 [(1,.slice Ab_0 nb_0 cb_0),(2,iw zc_0),(3,pt b1 0),(7,sl b2 0 0 0),(8,iw 0)] [gz] rfl (en rfl (Ok.blk (Ok.blkRow (b := b2) (t := 50) (cs := []) 1 (n := 0) (cap := 0) (sz := 1) rfl rfl rfl rfl [] rfl (Ok.restr [1,2,3,7,8] [(1,.slice Ab_0 nb_0 cb_0),(2,iw zc_0),(3,pt b1 0),(7,sl b2 0 0 0),(8,iw 0)] rfl (Ok.loop (fun H' fr kb m => ∃ (zL4_8 : Int) (AL4r1 : Option Addr) (nL4r1 : Nat) (cL4r1 : Nat) (xL4r1 : List Value),fr = [(1,.slice Ab_0 nb_0 cb_0),(2,iw zc_0),(3,pt b1 0),(7,.slice AL4r1 nL4r1 cL4r1),(8,iw zL4_8)] ∧ kb = [.blk b1 [.slice Aa_0 na_0 ca_0,iw za_1] 34,.row (.slice AL4r1 nL4r1 cL4r1) nL4r1 1 50 xL4r1] ∧ m = ((zc_0) - zL4_8).toNat ∧ SLe H H' ∧ 0 ≤ zL4_8 ∧ zL4_8 ≤ zc_0 ∧ ((nL4r1 : Nat) : Int) ≤ zL4_8 ∧ Elems H' el50 nL4r1 xL4r1) _ ⟨0,((some ⟨b2,0,none⟩)),0,0,[],rfl,rfl,rfl,SLe.refl _,by decide,by omega,by omega,(Elems.nil el50)⟩ ?_)))))))
  rintro H5 _ _ mL4 ⟨zL4_8,AL4r1,nL4r1,cL4r1,xL4r1,rfl,rfl,hmL4,le6,fL4_0,fL4_1,fL4_2,EL4r1⟩
  refine Ok.seq (sr (g0 5 [(1,.slice Ab_0 nb_0 cb_0),(2,iw zc_0),(3,pt b1 0),(7,.slice AL4r1 nL4r1 cL4r1),(8,iw zL4_8),(14,.bool (decide (zL4_8 < ((nb_0 : Nat) : Int))))] [gz,gz,gz,gz,gz] rfl (cs (decide (zL4_8 < ((nb_0 : Nat) : Int))) [14] (fun h8 => ?_) (fun h8 => ?_))))
  · have h8 := of_decide_eq_true h8
    refine g0 9 [(1,.slice Ab_0 nb_0 cb_0),(2,iw zc_0),(3,pt b1 0),(7,.slice AL4r1 nL4r1 cL4r1),(8,iw zL4_8),(18,.bool (decide (zL4_8 < zc_0)))] [gz,gz,gz,gz] rfl (en rfl (cd (decide (zL4_8 < zc_0)) (fun h10 => ?_) (fun h10 => ?_)))
    · have h10 := of_decide_eq_true h10
      refine skn (Ok.seq (Ok.blk (st [0] [] 10 ?_)))
      have ie11 : 0 ≤ zL4_8 ∧ zL4_8 < ((nb_0 : Nat) : Int) := by omega
      obtain ⟨je11,cse11,we11,he11⟩ := (WfS.mono le6 hb_0).at_ zL4_8 ie11.1 ie11.2
      obtain ⟨ue11_0,le11_0,rfl,ve11_0,we11_0⟩ := wfl_cons we11
      obtain ⟨Ae11_0,ne11_0,ce11_0,rfl,fe11_0⟩ := wfv_slc ve11_0
      have lfe11_0 := fe11_0.1
      obtain rfl := wfl_nil we11_0
      refine tx 4 [(0,gz),(1,.g [.K 0 0,.K 0 1]),(2,gz),(3,gz),(4,.ix),(5,.g [.X (.slice Ae11_0 ne11_0 ce11_0)])] [(1,.slice Ab_0 nb_0 cb_0),(2,iw zc_0),(3,pt b1 0),(8,iw zL4_8),(21,.slice AL4r1 nL4r1 cL4r1),(22,.agg #[.slice Aa_0 na_0 ca_0,iw za_1]),(26,.slice Ae11_0 ne11_0 ce11_0)] (ex1 (And.intro je11 ie11) (ex1 (cell0 (he11 0 _ rfl)) ex0)) rfl ?_
      refine on 6 3 rfl (ca (some 27) (c49 H5 Aa_0 (na_0) (ca_0) za_1 Ae11_0 (ne11_0) (ce11_0) (WfS.mono le6 ha_0) fe11_0 (by omega)) ?_)
      rintro v12 H13 k15 le14 ⟨Ara_0y16,nra_0y16,cra_0y16,rfl,hra_0y16⟩
      have lhra_0y16 := hra_0y16.1
      refine ws [0] le14 ?_
      refine on 7 2 rfl (e4 (.g [.N]) (fun b17 => [(1,.slice Ab_0 nb_0 cb_0),(2,iw zc_0),(3,pt b1 0),(8,iw zL4_8),(21,.slice AL4r1 nL4r1 cL4r1),(28,sl b17 0 1 1)]) (fun b17 => [.blk b1 [.slice Aa_0 na_0 ca_0,iw za_1] 34,.row (.slice AL4r1 nL4r1 cL4r1) nL4r1 1 50 xL4r1,.blk b17 [.slice Ara_0y16 nra_0y16 cra_0y16] 50]) (fun b17 => ?_))
      refine ws [0] le14 ?_
      refine on 8 1 rfl (Eff.appendN (t := 35) (d := some 29) (ad := ⟨b17,0,none⟩) (m := 1) (c := 1) 1 rfl (by kernel_rfl) 100000000 (by kernel_rfl) (by omega) rfl [.slice Ara_0y16 nra_0y16 cra_0y16] (reads_blk (cs := [.slice Ara_0y16 nra_0y16 cra_0y16]) 2 rfl 0 1) rfl rfl (by omega) (fun g18 cap19 => ?_))
      have E21 : Elems H13 el50 (nL4r1 + 1) (xL4r1 ++ [.slice Ara_0y16 nra_0y16 cra_0y16]) := (Elems.snoc (Elems.mono le14 EL4r1) (mkl_cons (mkv_slc hra_0y16) mkl_nil))
      generalize (xL4r1 ++ [.slice Ara_0y16 nra_0y16 cra_0y16]) = x20 at E21 ⊢
      refine ws [0] le14 ?_
      refine on 9 0 rfl (e0 (gz) [(1,.slice Ab_0 nb_0 cb_0),(2,iw zc_0),(3,pt b1 0),(7,.slice ((some ⟨g18,0,none⟩)) ((nL4r1 + 1)) cap19),(8,iw zL4_8)] ?_)
      refine ws [0] le14 ?_
      refine Ok.done (by kernel_rfl) ?_
      refine Ok.blkN (Ok.thenN (Ok.reg ?_))
      have k25 := wid (x := zL4_8 + 1) (by omega)
      refine g0 3 [(1,.slice Ab_0 nb_0 cb_0),(2,iw zc_0),(3,pt b1 0),(7,.slice ((some ⟨g18,0,none⟩)) ((nL4r1 + 1)) cap19),(8,iw (w64 (zL4_8 + 1)))] [gz,gz,gz] rfl (en rfl (Ok.restr [1,2,3,7,8] [(1,.slice Ab_0 nb_0 cb_0),(2,iw zc_0),(3,pt b1 0),(7,.slice ((some ⟨g18,0,none⟩)) ((nL4r1 + 1)) cap19),(8,iw (w64 (zL4_8 + 1)))] rfl (Ok.mask [true,true,false] [.blk b1 [.slice Aa_0 na_0 ca_0,iw za_1] 34,.row (.slice ((some ⟨g18,0,none⟩)) ((nL4r1 + 1)) cap19) ((nL4r1 + 1)) 1 50 x20] rfl ?_)))
      exact Ok.again _ ⟨(w64 (zL4_8 + 1)),((some ⟨g18,0,none⟩)),(nL4r1 + 1),cap19,x20,rfl,rfl,rfl,(tr le6 le14),by omega,by omega,by omega,E21⟩ (by omega)
    have h10 := of_decide_eq_false h10
    refine Ok.exit_ (Ok.thenE (Ok.thenE (Ok.blkE (Ok.thenN (sr (g0 2 [(6,.slice AL4r1 nL4r1 cL4r1)] [gz,gz] rfl (en rfl (Ok.ret_ (Ok.pubS 1 rfl EL4r1 (by omega) [.blk b1 [.slice Aa_0 na_0 ca_0,iw za_1] 34] rfl ?_)))))))))
    intro H27 le28 f29
    refine Ok.dropAll ?_
    exact Ok.ret1 (v := .slice AL4r1 nL4r1 cL4r1) (tr le6 le28) rfl rfl ⟨AL4r1,nL4r1,cL4r1,rfl,f29,(by omega)⟩
  have h8 := of_decide_eq_false h8
  refine g0 9 [(1,.slice Ab_0 nb_0 cb_0),(2,iw zc_0),(3,pt b1 0),(7,.slice AL4r1 nL4r1 cL4r1),(8,iw zL4_8),(18,bF)] [gz,gz,gz,gz] rfl (en rfl (cF (Ok.exit_ (Ok.thenE (Ok.thenE (Ok.blkE (Ok.thenN (sr (g0 2 [(6,.slice AL4r1 nL4r1 cL4r1)] [gz,gz] rfl (en rfl (Ok.ret_ (Ok.pubS 1 rfl EL4r1 (by omega) [.blk b1 [.slice Aa_0 na_0 ca_0,iw za_1] 34] rfl ?_))))))))))))
  intro H32 le33 f34
  refine Ok.dropAll ?_
  exact Ok.ret1 (v := .slice AL4r1 nL4r1 cL4r1) (tr le6 le33) rfl rfl ⟨AL4r1,nL4r1,cL4r1,rfl,f34,(by omega)⟩
theorem c5 (H : Snap) (Aa_0 : Option Addr) (na_0 : Nat) (ca_0 : Nat) (Aa_1 : Option Addr) (na_1 : Nat) (ca_1 : Nat) (za_2 : Int) (za_3 : Int) (za_4 : Int) (za_5 : Int) (Aa_6 : Option Addr) (na_6 : Nat) (ca_6 : Nat) (ga_6 : List (List Value)) (sa_7 : ByteArray) (Aa_8 : Option Addr) (na_8 : Nat) (ca_8 : Nat) (ka_8 : PTs) (Aa_9 : Option Addr) (na_9 : Nat) (ca_9 : Nat) (ha_0 : WfS H el105 Aa_0 na_0) (ha_1 : WfS H el45 Aa_1 na_1) (ha_6 : LstIs H elV Aa_6 na_6 ga_6) (ta_7 : sa_7.size < 9223372036854775808) (ha_8 : KidsIs H Aa_8 na_8 ka_8) (ha_9 : WfS H el24 Aa_9 na_9) : Does Tryz.prog 5 [.agg #[.slice Aa_0 na_0 ca_0,.slice Aa_1 na_1 ca_1,iw za_2,iw za_3,iw za_4,iw za_5,.slice Aa_6 na_6 ca_6,.string sa_7,.slice Aa_8 na_8 ca_8,.slice Aa_9 na_9 ca_9]] H [] (fun v H' kp => ∃ (Ara_0 : Option Addr) (nra_0 : Nat) (cra_0 : Nat) (zra_1 : Int) (Ara_2 : Option Addr) (nra_2 : Nat) (cra_2 : Nat) (zra_3 : Int) (zra_4 : Int) (zra_5 : Int) (zra_6 : Int) (Ara_7 : Option Addr) (nra_7 : Nat) (cra_7 : Nat) (sra_8 : ByteArray) (Ara_9 : Option Addr) (nra_9 : Nat) (cra_9 : Nat) (kra_9 : PTs) (Ara_10 : Option Addr) (nra_10 : Nat) (cra_10 : Nat) (brb_0 : Bool),v = .tuple #[.agg #[.slice Ara_0 nra_0 cra_0,iw zra_1,.slice Ara_2 nra_2 cra_2,iw zra_3,iw zra_4,iw zra_5,iw zra_6,.slice Ara_7 nra_7 cra_7,.string sra_8,.slice Ara_9 nra_9 cra_9,.slice Ara_10 nra_10 cra_10],.bool brb_0] ∧ WfS H' el41 Ara_0 nra_0 ∧ WfS H' el45 Ara_2 nra_2 ∧ WfS H' elV Ara_7 nra_7 ∧ sra_8.size < 9223372036854775808 ∧ KidsIs H' Ara_9 nra_9 kra_9 ∧ WfS H' el50 Ara_10 nra_10) := by
  have lha_0 := ha_0.1
  have lha_1 := ha_1.1
  have lha_6 := ha_6.2.1
  have mha_6 := ha_6.1
  have lha_8 := ha_8.2.1
  have mha_8 := ha_8.1
  have lha_9 := ha_9.1
  refine Does.of Tryz.func5 rfl rfl rfl rfl (fun w0 H0 kx => ?_)
  refine sr (g4 3 (fun b1 => [(1,pt b1 0),(2,pt (b1+1) 0)]) (fun b1 => [.blk b1 [.slice Aa_0 na_0 ca_0,.slice Aa_1 na_1 ca_1,iw za_2,iw za_3,iw za_4,iw za_5,.slice Aa_6 na_6 ca_6,.string sa_7,.slice Aa_8 na_8 ca_8,.slice Aa_9 na_9 ca_9] 30,.blk (b1+1) [n0,iw 0,n0,iw 0,iw 0,iw 0,iw 0,n0,s0,n0,n0] 37]) [.g [.N],.g [.N],gz] rfl (fun b1 => (en rfl ?_)))
  refine Ok.seq (sr (g0 5 [(1,pt b1 0),(2,pt (b1+1) 0),(13,.bool (decide (((na_0 : Nat) : Int) > 200)))] [gz,.g [.K 0 0],gz,gz,gz] rfl (cs (decide (((na_0 : Nat) : Int) > 200)) [13] (fun h3 => ?_) (fun h3 => ?_))))
  · have h3 := of_decide_eq_true h3
    refine g0 22 [(1,pt b1 0),(2,pt (b1+1) 0),(30,bT)] [gz,gz,gz,gz,gz,gz,gz,gz,gz,gz,gz,gz,gz,gz,gz,gz,gz] rfl (en rfl (cT (sr (g0 3 [(2,pt (b1+1) 0),(3,bF)] [gz,.g [.K 1 0,.K 1 1,.K 1 2,.K 1 3,.K 1 4,.K 1 5,.K 1 6,.K 1 7,.K 1 8,.K 1 9,.K 1 10],gz] rfl (en rfl (Ok.ret_ (Ok.thenR ?_)))))))
    exact Ok.ret2c (SLe.refl _) [.K 1 0,.K 1 1,.K 1 2,.K 1 3,.K 1 4,.K 1 5,.K 1 6,.K 1 7,.K 1 8,.K 1 9,.K 1 10] (.agg #[n0,iw 0,n0,iw 0,iw 0,iw 0,iw 0,n0,s0,n0,n0]) (bF) [b1+1,b1+1,b1+1,b1+1,b1+1,b1+1,b1+1,b1+1,b1+1,b1+1,b1+1] rfl (by kernel_rfl) rfl ⟨none,0,0,0,none,0,0,0,0,0,0,none,0,0,(⟨#[]⟩ : ByteArray),none,0,0,PTs.nil,none,0,0,false,rfl,(WfS.nil _ _),(WfS.nil _ _),(WfS.nil _ _),(by decide),(KidsIs.nil _),(WfS.nil _ _)⟩
  have h3 := of_decide_eq_false h3
  refine g0 11 [(1,pt b1 0),(2,pt (b1+1) 0),(19,.bool (decide (((na_1 : Nat) : Int) > 100)))] [gz,.g [.K 0 1],gz,gz,gz,gz] rfl (cs (decide (((na_1 : Nat) : Int) > 100)) [19] (fun h7 => ?_) (fun h7 => ?_))
  · have h7 := of_decide_eq_true h7
    refine g0 22 [(1,pt b1 0),(2,pt (b1+1) 0),(30,bT)] [gz,gz,gz,gz,gz,gz,gz,gz,gz,gz,gz] rfl (en rfl (cT (sr (g0 3 [(2,pt (b1+1) 0),(3,bF)] [gz,.g [.K 1 0,.K 1 1,.K 1 2,.K 1 3,.K 1 4,.K 1 5,.K 1 6,.K 1 7,.K 1 8,.K 1 9,.K 1 10],gz] rfl (en rfl (Ok.ret_ (Ok.thenR ?_)))))))
    exact Ok.ret2c (SLe.refl _) [.K 1 0,.K 1 1,.K 1 2,.K 1 3,.K 1 4,.K 1 5,.K 1 6,.K 1 7,.K 1 8,.K 1 9,.K 1 10] (.agg #[n0,iw 0,n0,iw 0,iw 0,iw 0,iw 0,n0,s0,n0,n0]) (bF) [b1+1,b1+1,b1+1,b1+1,b1+1,b1+1,b1+1,b1+1,b1+1,b1+1,b1+1] rfl (by kernel_rfl) rfl ⟨none,0,0,0,none,0,0,0,0,0,0,none,0,0,(⟨#[]⟩ : ByteArray),none,0,0,PTs.nil,none,0,0,false,rfl,(WfS.nil _ _),(WfS.nil _ _),(WfS.nil _ _),(by decide),(KidsIs.nil _),(WfS.nil _ _)⟩
  have h7 := of_decide_eq_false h7
  refine g0 17 [(1,pt b1 0),(2,pt (b1+1) 0),(25,.bool (decide (((na_9 : Nat) : Int) > 60)))] [gz,.g [.K 0 9],gz,gz,gz,gz] rfl (cs (decide (((na_9 : Nat) : Int) > 60)) [25] (fun h11 => ?_) (fun h11 => ?_))
  · have h11 := of_decide_eq_true h11
    refine g0 22 [(1,pt b1 0),(2,pt (b1+1) 0),(30,bT)] [gz,gz,gz,gz,gz] rfl (en rfl (cT (sr (g0 3 [(2,pt (b1+1) 0),(3,bF)] [gz,.g [.K 1 0,.K 1 1,.K 1 2,.K 1 3,.K 1 4,.K 1 5,.K 1 6,.K 1 7,.K 1 8,.K 1 9,.K 1 10],gz] rfl (en rfl (Ok.ret_ (Ok.thenR ?_)))))))
    exact Ok.ret2c (SLe.refl _) [.K 1 0,.K 1 1,.K 1 2,.K 1 3,.K 1 4,.K 1 5,.K 1 6,.K 1 7,.K 1 8,.K 1 9,.K 1 10] (.agg #[n0,iw 0,n0,iw 0,iw 0,iw 0,iw 0,n0,s0,n0,n0]) (bF) [b1+1,b1+1,b1+1,b1+1,b1+1,b1+1,b1+1,b1+1,b1+1,b1+1,b1+1] rfl (by kernel_rfl) rfl ⟨none,0,0,0,none,0,0,0,0,0,0,none,0,0,(⟨#[]⟩ : ByteArray),none,0,0,PTs.nil,none,0,0,false,rfl,(WfS.nil _ _),(WfS.nil _ _),(WfS.nil _ _),(by decide),(KidsIs.nil _),(WfS.nil _ _)⟩
  have h11 := of_decide_eq_false h11
  refine g0 19 [(1,pt b1 0),(2,pt (b1+1) 0),(25,bF),(27,.agg #[iw za_2,iw za_3,iw za_4,iw za_5,.slice Aa_6 na_6 ca_6,.string sa_7,.slice Aa_8 na_8 ca_8])] [gz,.g [.K 0 2,.K 0 3,.K 0 4,.K 0 5,.K 0 6,.K 0 7,.K 0 8]] rfl (ef 20 rfl (ca (some 28) (c20 H za_2 za_3 za_4 za_5 Aa_6 (na_6) (ca_6) ga_6 sa_7 Aa_8 (na_8) (ca_8) ka_8 200 ha_6 ta_7 ha_8) ?_))
  rintro v15 H16 k18 le17 ⟨bra_0y19,rfl⟩
  refine g0 22 [(1,pt b1 0),(2,pt (b1+1) 0),(30,.bool (!bra_0y19))] [gz,gz] rfl (en rfl (cd (!bra_0y19) (fun h21 => ?_) (fun h21 => ?_)))
  · refine sr (g0 3 [(2,pt (b1+1) 0),(3,bF)] [gz,.g [.K 1 0,.K 1 1,.K 1 2,.K 1 3,.K 1 4,.K 1 5,.K 1 6,.K 1 7,.K 1 8,.K 1 9,.K 1 10],gz] rfl (en rfl (Ok.ret_ (Ok.thenR ?_))))
    exact Ok.ret2c le17 [.K 1 0,.K 1 1,.K 1 2,.K 1 3,.K 1 4,.K 1 5,.K 1 6,.K 1 7,.K 1 8,.K 1 9,.K 1 10] (.agg #[n0,iw 0,n0,iw 0,iw 0,iw 0,iw 0,n0,s0,n0,n0]) (bF) [b1+1,b1+1,b1+1,b1+1,b1+1,b1+1,b1+1,b1+1,b1+1,b1+1,b1+1] rfl (by kernel_rfl) rfl ⟨none,0,0,0,none,0,0,0,0,0,0,none,0,0,(⟨#[]⟩ : ByteArray),none,0,0,PTs.nil,none,0,0,false,rfl,(WfS.nil _ _),(WfS.nil _ _),(WfS.nil _ _),(by decide),(KidsIs.nil _),(WfS.nil _ _)⟩
  refine skn (Ok.seq (sr (g0 1 [(1,pt b1 0),(2,pt (b1+1) 0),(4,iw 0)] [gz] rfl (en rfl (Ok.blk (Ok.restr [1,2,4] [(1,pt b1 0),(2,pt (b1+1) 0),(4,iw 0)] rfl (Ok.loop (fun H' fr kb m => ∃ (zL24_4 : Int),fr = [(1,pt b1 0),(2,pt (b1+1) 0),(4,iw zL24_4)] ∧ kb = [.blk b1 [.slice Aa_0 na_0 ca_0,.slice Aa_1 na_1 ca_1,iw za_2,iw za_3,iw za_4,iw za_5,.slice Aa_6 na_6 ca_6,.string sa_7,.slice Aa_8 na_8 ca_8,.slice Aa_9 na_9 ca_9] 30,.blk (b1+1) [n0,iw 0,n0,iw 0,iw 0,iw 0,iw 0,n0,s0,n0,n0] 37] ∧ m = ((((na_9 : Nat) : Int)) - zL24_4).toNat ∧ SLe H16 H' ∧ 0 ≤ zL24_4 ∧ zL24_4 ≤ ((na_9 : Nat) : Int)) _ ⟨0,rfl,rfl,rfl,SLe.refl _,by decide,by omega⟩ ?_)))))))
  rintro H25 _ _ mL24 ⟨zL24_4,rfl,rfl,hmL24,le26,fL24_0,fL24_1⟩
  refine Ok.seq (sr (g0 5 [(1,pt b1 0),(2,pt (b1+1) 0),(4,iw zL24_4),(36,.bool (decide (zL24_4 < ((na_9 : Nat) : Int))))] [gz,gz,.g [.K 0 9],gz,gz] rfl (en rfl (cd (decide (zL24_4 < ((na_9 : Nat) : Int))) (fun h28 => ?_) (fun h28 => ?_)))))
  · have h28 := of_decide_eq_true h28
    refine skn (Ok.seq (Ok.blk (sr (g0 1 [(1,pt b1 0),(2,pt (b1+1) 0),(4,iw zL24_4),(5,iw 0)] [gz] rfl (en rfl (Ok.blk ?_))))))
    have ie30 : 0 ≤ zL24_4 ∧ zL24_4 < ((na_9 : Nat) : Int) := by omega
    obtain ⟨je30,cse30,we30,he30⟩ := (WfS.mono (tr le17 le26) ha_9).at_ zL24_4 ie30.1 ie30.2
    obtain ⟨ue30_0,le30_0,rfl,ve30_0,we30_0⟩ := wfl_cons we30
    obtain ⟨Ae30_0,ne30_0,ce30_0,rfl,fe30_0⟩ := wfv_slc ve30_0
    have lfe30_0 := fe30_0.1
    obtain rfl := wfl_nil we30_0
    refine Ok.restr [1,2,4,5] [(1,pt b1 0),(2,pt (b1+1) 0),(4,iw zL24_4),(5,iw 0)] rfl ?_
    refine Ok.loop (fun H' fr kb m => ∃ (zL31_5 : Int),fr = [(1,pt b1 0),(2,pt (b1+1) 0),(4,iw zL24_4),(5,iw zL31_5)] ∧ kb = [.blk b1 [.slice Aa_0 na_0 ca_0,.slice Aa_1 na_1 ca_1,iw za_2,iw za_3,iw za_4,iw za_5,.slice Aa_6 na_6 ca_6,.string sa_7,.slice Aa_8 na_8 ca_8,.slice Aa_9 na_9 ca_9] 30,.blk (b1+1) [n0,iw 0,n0,iw 0,iw 0,iw 0,iw 0,n0,s0,n0,n0] 37] ∧ m = ((((ne30_0 : Nat) : Int)) - zL31_5).toNat ∧ SLe H25 H' ∧ 0 ≤ zL31_5 ∧ zL31_5 ≤ ((ne30_0 : Nat) : Int)) _ ⟨0,rfl,rfl,rfl,SLe.refl _,by decide,by omega⟩ ?_
    rintro H32 _ _ mL31 ⟨zL31_5,rfl,rfl,hmL31,le33,fL31_0,fL31_1⟩
    refine Ok.seq (sr (g2 8 [(1,pt b1 0),(2,pt (b1+1) 0),(4,iw zL24_4),(5,iw zL31_5),(46,.bool (decide (zL31_5 < ((ne30_0 : Nat) : Int))))] [gz,gz,.g [.K 0 9],gz,.ix,.g [.X (.slice Ae30_0 ne30_0 ce30_0)],gz,gz] (ex1 (And.intro je30 ie30) (ex1 (HasCell.mono le33 (cell0 (he30 0 _ rfl))) ex0)) rfl (en rfl (cd (decide (zL31_5 < ((ne30_0 : Nat) : Int))) (fun h35 => ?_) (fun h35 => ?_)))))
    · have h35 := of_decide_eq_true h35
      refine skn (Ok.seq (Ok.blk (Ok.seq (Ok.regJ (ι := Bool) (fun y37 => [(1,pt b1 0),(2,pt (b1+1) 0),(4,iw zL24_4),(5,iw zL31_5),(68,.bool y37)]) ?_ (fun J36 => ?_)))))
      · rintro bJ36_68
        refine Ok.thenN (cd bJ36_68 (fun h38 => ?_) (fun h38 => ?_))
        · refine sr (g0 3 [(2,pt (b1+1) 0),(3,bF)] [gz,.g [.K 1 0,.K 1 1,.K 1 2,.K 1 3,.K 1 4,.K 1 5,.K 1 6,.K 1 7,.K 1 8,.K 1 9,.K 1 10],gz] rfl (en rfl (Ok.ret_ (Ok.blkR (Ok.thenR (Ok.thenR (Ok.blkR (Ok.blkR (Ok.thenR (Ok.thenR (Ok.blkR (Ok.thenR ?_))))))))))))
          exact Ok.ret2c (tr le17 (tr le26 le33)) [.K 1 0,.K 1 1,.K 1 2,.K 1 3,.K 1 4,.K 1 5,.K 1 6,.K 1 7,.K 1 8,.K 1 9,.K 1 10] (.agg #[n0,iw 0,n0,iw 0,iw 0,iw 0,iw 0,n0,s0,n0,n0]) (bF) [b1+1,b1+1,b1+1,b1+1,b1+1,b1+1,b1+1,b1+1,b1+1,b1+1,b1+1] rfl (by kernel_rfl) rfl ⟨none,0,0,0,none,0,0,0,0,0,0,none,0,0,(⟨#[]⟩ : ByteArray),none,0,0,PTs.nil,none,0,0,false,rfl,(WfS.nil _ _),(WfS.nil _ _),(WfS.nil _ _),(by decide),(KidsIs.nil _),(WfS.nil _ _)⟩
        refine Ok.skip_ (Ok.blkN (Ok.thenN (Ok.reg ?_)))
        have k41 := wid (x := zL31_5 + 1) (by omega)
        refine g0 3 [(1,pt b1 0),(2,pt (b1+1) 0),(4,iw zL24_4),(5,iw (w64 (zL31_5 + 1)))] [gz,gz,gz] rfl (en rfl (Ok.restr [1,2,4,5] [(1,pt b1 0),(2,pt (b1+1) 0),(4,iw zL24_4),(5,iw (w64 (zL31_5 + 1)))] rfl ?_))
        exact Ok.again _ ⟨(w64 (zL31_5 + 1)),rfl,rfl,rfl,le33,by omega,by omega⟩ (by omega)
      refine g2 8 [(1,pt b1 0),(2,pt (b1+1) 0),(4,iw zL24_4),(5,iw zL31_5),(56,.bool (decide (((ne30_0 : Nat) : Int) > 100)))] [gz,.g [.K 0 9],gz,.ix,.g [.X (.slice Ae30_0 ne30_0 ce30_0)],gz,gz,gz] (ex1 (And.intro je30 ie30) (ex1 (HasCell.mono le33 (cell0 (he30 0 _ rfl))) ex0)) rfl (cs (decide (((ne30_0 : Nat) : Int) > 100)) [56] (fun h43 => ?_) (fun h43 => ?_))
      · have h43 := of_decide_eq_true h43
        refine g0 20 [(1,pt b1 0),(2,pt (b1+1) 0),(4,iw zL24_4),(5,iw zL31_5),(68,bT)] [gz,gz,gz,gz,gz,gz,gz,gz,gz,gz,gz,gz] rfl (Ok.segEnd rfl (Ok.restr [1,2,4,5,68] [(1,pt b1 0),(2,pt (b1+1) 0),(4,iw zL24_4),(5,iw zL31_5),(68,bT)] rfl ?_))
        exact J36 (true)
      have h43 := of_decide_eq_false h43
      have ie46 : 0 ≤ zL31_5 ∧ zL31_5 < ((ne30_0 : Nat) : Int) := by omega
      obtain ⟨je46,cse46,we46,he46⟩ := (WfS.mono le33 fe30_0).at_ zL31_5 ie46.1 ie46.2
      obtain ⟨ue46_0,le46_0,rfl,ve46_0,we46_0⟩ := wfl_cons we46
      obtain ⟨be46_0,rfl⟩ := wfv_bool ve46_0
      obtain ⟨ue46_1,le46_1,rfl,ve46_1,we46_1⟩ := wfl_cons we46_0
      obtain ⟨ze46_1,rfl⟩ := wfv_int ve46_1
      obtain ⟨ue46_2,le46_2,rfl,ve46_2,we46_2⟩ := wfl_cons we46_1
      obtain ⟨se46_2,rfl,te46_2⟩ := wfv_str ve46_2
      obtain rfl := wfl_nil we46_2
      refine g2 20 [(1,pt b1 0),(2,pt (b1+1) 0),(4,iw zL24_4),(5,iw zL31_5),(68,.bool (decide (((se46_2.size : Nat) : Int) > 1000)))] [gz,.g [.K 0 9],gz,.ix,.g [.X (.slice Ae30_0 ne30_0 ce30_0)],gz,.ix,gz,.g [.X (.string se46_2)],gz,gz,gz] (ex1 (And.intro je30 ie30) (ex1 (HasCell.mono le33 (cell0 (he30 0 _ rfl))) (ex1 (And.intro je46 ie46) (ex1 (he46 (2) _ rfl) ex0)))) rfl (Ok.segEnd rfl (Ok.restr [1,2,4,5,68] [(1,pt b1 0),(2,pt (b1+1) 0),(4,iw zL24_4),(5,iw zL31_5),(68,.bool (decide (((se46_2.size : Nat) : Int) > 1000)))] rfl ?_))
      exact J36 ((decide (((se46_2.size : Nat) : Int) > 1000)))
    have h35 := of_decide_eq_false h35
    refine Ok.exit_ (Ok.thenE (Ok.thenE (Ok.blkE (Ok.blkN (Ok.thenN (Ok.reg ?_))))))
    have k48 := wid (x := zL24_4 + 1) (by omega)
    refine g0 3 [(1,pt b1 0),(2,pt (b1+1) 0),(4,iw (w64 (zL24_4 + 1)))] [gz,gz,gz] rfl (en rfl (Ok.restr [1,2,4] [(1,pt b1 0),(2,pt (b1+1) 0),(4,iw (w64 (zL24_4 + 1)))] rfl ?_))
    exact Ok.again _ ⟨(w64 (zL24_4 + 1)),rfl,rfl,rfl,(tr le26 le33),by omega,by omega⟩ (by omega)
  have h28 := of_decide_eq_false h28
  refine Ok.exit_ (Ok.thenE (Ok.thenE (Ok.blkE (Ok.thenN (sr (g0 2 [(1,pt b1 0),(2,pt (b1+1) 0),(72,.slice Aa_0 na_0 ca_0)] [gz,.g [.K 0 0]] rfl (ef 3 rfl (ca (some 73) (c22 H25 Aa_0 (na_0) (ca_0) 20 (WfS.mono (tr le17 le26) ha_0) (by omega)) ?_))))))))
  rintro v50 H51 k53 le52 ⟨Ara_0y54,nra_0y54,cra_0y54,rfl,hra_0y54,py54_0⟩
  have lhra_0y54 := hra_0y54.1
  refine ef 4 rfl (ca (some 74) (c21 H51 Ara_0y54 (nra_0y54) (cra_0y54) hra_0y54 (by omega)) ?_)
  rintro v56 H57 k59 le58 ⟨Ara_0y60,nra_0y60,cra_0y60,zra_1y60,zrb_0y60,zrc_0y60,rfl,hra_0y60,py60_0⟩
  have lhra_0y60 := hra_0y60.1
  refine g4 12 (fun b61 => [(1,pt b1 0),(2,pt (b1+1) 0),(6,pt b61 0)]) (fun b61 => [.blk b1 [.slice Aa_0 na_0 ca_0,.slice Aa_1 na_1 ca_1,iw za_2,iw za_3,iw za_4,iw za_5,.slice Aa_6 na_6 ca_6,.string sa_7,.slice Aa_8 na_8 ca_8,.slice Aa_9 na_9 ca_9] 30,.blk (b1+1) [n0,iw 0,n0,iw 0,iw 0,iw 0,iw 0,n0,s0,n0,n0] 37,.blk b61 [.slice Ara_0y60 nra_0y60 cra_0y60,iw zra_1y60] 34]) [gz,gz,gz,gz,.g [.N],.g [.K 2 0,.K 2 1],gz,gz] rfl (fun b61 => (en rfl ?_))
  refine Ok.seq (st [0,2] [] 16 ?_)
  refine tk 6 [(0,.g [.K 1 0,.K 1 1]),(1,.g [.K 1 0,.K 1 1]),(2,gz),(3,.g [.K 0 1]),(5,.g [.K 1 0,.K 1 1]),(6,gz),(7,.g [.K 0 2,.K 0 3,.K 0 4,.K 0 5,.K 0 6,.K 0 7,.K 0 8]),(9,.g [.K 1 0,.K 1 1]),(10,gz),(11,.g [.K 0 9])] [(2,pt (b1+1) 0),(78,.agg #[.slice Ara_0y60 nra_0y60 cra_0y60,iw zra_1y60]),(79,.agg #[.slice Ara_0y60 nra_0y60 cra_0y60,iw zra_1y60]),(81,.slice Aa_1 na_1 ca_1),(83,.agg #[.slice Ara_0y60 nra_0y60 cra_0y60,iw zra_1y60]),(85,.agg #[iw za_2,iw za_3,iw za_4,iw za_5,.slice Aa_6 na_6 ca_6,.string sa_7,.slice Aa_8 na_8 ca_8]),(87,.agg #[.slice Ara_0y60 nra_0y60 cra_0y60,iw zra_1y60]),(89,.slice Aa_9 na_9 ca_9)] rfl ?_
  refine on 4 5 rfl (ca (some 82) (c23 H57 Ara_0y60 (nra_0y60) (cra_0y60) zra_1y60 Aa_1 (na_1) (ca_1) hra_0y60 (WfS.mono (tr le17 (tr le26 (tr le52 le58))) ha_1) (by omega)) ?_)
  rintro v62 H63 k65 le64 ⟨Ara_0y66,nra_0y66,cra_0y66,rfl,hra_0y66,py66_0⟩
  have lhra_0y66 := hra_0y66.1
  refine ws [0,2] le64 ?_
  refine on 8 4 rfl (ca (some 86) (c7 H63 Ara_0y60 (nra_0y60) (cra_0y60) zra_1y60 za_2 za_3 za_4 za_5 Aa_6 (na_6) (ca_6) ga_6 sa_7 Aa_8 (na_8) (ca_8) ka_8 (WfS.mono le64 hra_0y60) (LstIs.mono (tr le17 (tr le26 (tr le52 (tr le58 le64)))) ha_6) ta_7 (KidsIs.mono (tr le17 (tr le26 (tr le52 (tr le58 le64)))) ha_8) (by omega)) ?_)
  rintro v67 H68 k70 le69 ⟨zra_0y71,zra_1y71,zra_2y71,zra_3y71,Ara_4y71,nra_4y71,cra_4y71,gra_4y71,sra_5y71,Ara_6y71,nra_6y71,cra_6y71,kra_6y71,rfl,hra_4y71,tra_5y71,hra_6y71,py71_0,py71_1⟩
  have lhra_4y71 := hra_4y71.2.1
  have mhra_4y71 := hra_4y71.1
  have lhra_6y71 := hra_6y71.2.1
  have mhra_6y71 := hra_6y71.1
  refine ws [0,2] (tr le64 le69) ?_
  refine on 12 3 rfl (ca (some 90) (c24 H68 Ara_0y60 (nra_0y60) (cra_0y60) zra_1y60 Aa_9 (na_9) (ca_9) 60 (WfS.mono (tr le64 le69) hra_0y60) (WfS.mono (tr le17 (tr le26 (tr le52 (tr le58 (tr le64 le69))))) ha_9) (by omega) (by omega)) ?_)
  rintro v72 H73 k75 le74 ⟨Ara_0y76,nra_0y76,cra_0y76,rfl,hra_0y76,py76_0⟩
  have lhra_0y76 := hra_0y76.1
  refine ws [0,2] (tr le64 (tr le69 le74)) ?_
  refine tk 2 [(13,gz)] [(2,pt (b1+1) 0),(91,.agg #[.slice Ara_0y60 nra_0y60 cra_0y60,iw zra_1y60,.slice Ara_0y66 nra_0y66 cra_0y66,iw zra_0y71,iw zra_1y71,iw zra_2y71,iw zra_3y71,.slice Ara_4y71 nra_4y71 cra_4y71,.string sra_5y71,.slice Ara_6y71 nra_6y71 cra_6y71,.slice Ara_0y76 nra_0y76 cra_0y76])] rfl ?_
  refine on 14 1 rfl (e1 (.g [.K 1 0,.K 1 1,.K 1 2,.K 1 3,.K 1 4,.K 1 5,.K 1 6,.K 1 7,.K 1 8,.K 1 9,.K 1 10]) [(2,pt (b1+1) 0)] [.blk b1 [.slice Aa_0 na_0 ca_0,.slice Aa_1 na_1 ca_1,iw za_2,iw za_3,iw za_4,iw za_5,.slice Aa_6 na_6 ca_6,.string sa_7,.slice Aa_8 na_8 ca_8,.slice Aa_9 na_9 ca_9] 30,.blk (b1+1) [.slice Ara_0y60 nra_0y60 cra_0y60,iw zra_1y60,.slice Ara_0y66 nra_0y66 cra_0y66,iw zra_0y71,iw zra_1y71,iw zra_2y71,iw zra_3y71,.slice Ara_4y71 nra_4y71 cra_4y71,.string sra_5y71,.slice Ara_6y71 nra_6y71 cra_6y71,.slice Ara_0y76 nra_0y76 cra_0y76] 37,.blk b61 [.slice Ara_0y60 nra_0y60 cra_0y60,iw zra_1y60] 34] ?_)
  refine ws [0,2] (tr le64 (tr le69 le74)) ?_
  refine on 15 0 rfl (e0 (gz) [(2,pt (b1+1) 0),(3,bT)] ?_)
  refine ws [0,2] (tr le64 (tr le69 le74)) ?_
  refine dn (Ok.ret_ ?_)
  exact Ok.ret2c (tr le17 (tr le26 (tr le52 (tr le58 (tr le64 (tr le69 le74)))))) [.K 1 0,.K 1 1,.K 1 2,.K 1 3,.K 1 4,.K 1 5,.K 1 6,.K 1 7,.K 1 8,.K 1 9,.K 1 10] (.agg #[.slice Ara_0y60 nra_0y60 cra_0y60,iw zra_1y60,.slice Ara_0y66 nra_0y66 cra_0y66,iw zra_0y71,iw zra_1y71,iw zra_2y71,iw zra_3y71,.slice Ara_4y71 nra_4y71 cra_4y71,.string sra_5y71,.slice Ara_6y71 nra_6y71 cra_6y71,.slice Ara_0y76 nra_0y76 cra_0y76]) (bT) [b1+1,b1+1,b1+1,b1+1,b1+1,b1+1,b1+1,b1+1,b1+1,b1+1,b1+1] rfl (by kernel_rfl) rfl ⟨Ara_0y60,nra_0y60,cra_0y60,zra_1y60,Ara_0y66,nra_0y66,cra_0y66,zra_0y71,zra_1y71,zra_2y71,zra_3y71,Ara_4y71,nra_4y71,cra_4y71,sra_5y71,Ara_6y71,nra_6y71,cra_6y71,kra_6y71,Ara_0y76,nra_0y76,cra_0y76,true,rfl,(WfS.mono (tr le64 (tr le69 le74)) hra_0y60),(WfS.mono (tr le69 le74) hra_0y66),(WfS.mono le74 (LstIs.wf hra_4y71)),tra_5y71,(KidsIs.mono le74 hra_6y71),hra_0y76⟩
theorem c28 (H : Snap) (Aa_0 : Option Addr) (na_0 : Nat) (ca_0 : Nat) (ga_0 : List (List Value)) (zb_0 : Int) (ha_0 : LstIs H el59 Aa_0 na_0 ga_0) : Does Tryz.prog 28 [.agg #[.slice Aa_0 na_0 ca_0],iw zb_0] H [] (fun v H' kp => ∃ (bra_0 : Bool) (zra_1 : Int) (sra_2 : ByteArray),v = .agg #[.bool bra_0,iw zra_1,.string sra_2] ∧ sra_2.size < 9223372036854775808 ∧ (bra_0,zra_1,sra_2) = valAt ga_0 zb_0) := by
  have lha_0 := ha_0.2.1
  have mha_0 := ha_0.1
  refine Does.of Tryz.func28 rfl rfl rfl rfl (fun w0 H0 kx => ?_)
  refine sr (g4 2 (fun b1 => [(1,iw zb_0),(2,pt b1 0),(4,pt (b1+1) 0)]) (fun b1 => [.blk b1 [.slice Aa_0 na_0 ca_0] 50,.blk (b1+1) [bF,iw 0,s0] 54]) [.g [.N],.g [.N]] rfl (fun b1 => (en rfl ?_)))
  refine Ok.seq (sr (g0 1 [(1,iw zb_0),(2,pt b1 0),(4,pt (b1+1) 0),(5,iw 0)] [gz] rfl (en rfl (Ok.blk (Ok.restr [1,2,4,5] [(1,iw zb_0),(2,pt b1 0),(4,pt (b1+1) 0),(5,iw 0)] rfl (Ok.loop (fun H' fr kb m => ∃ (zL3_5 : Int),fr = [(1,iw zb_0),(2,pt b1 0),(4,pt (b1+1) 0),(5,iw zL3_5)] ∧ kb = [.blk b1 [.slice Aa_0 na_0 ca_0] 50,.blk (b1+1) [bF,iw 0,s0] 54] ∧ m = ((((na_0 : Nat) : Int)) - zL3_5).toNat ∧ SLe H H' ∧ 0 ≤ zL3_5 ∧ zL3_5 ≤ ((na_0 : Nat) : Int) ∧ valAt (ga_0.drop zL3_5.toNat) zb_0 = valAt ga_0 zb_0) _ ⟨0,rfl,rfl,rfl,SLe.refl _,by decide,by omega,rfl⟩ ?_))))))
  rintro H4 _ _ mL3 ⟨zL3_5,rfl,rfl,hmL3,le5,fL3_0,fL3_1,XL3_0⟩
  refine Ok.seq (sr (g0 5 [(1,iw zb_0),(2,pt b1 0),(4,pt (b1+1) 0),(5,iw zL3_5),(10,.bool (decide (zL3_5 < ((na_0 : Nat) : Int))))] [gz,gz,.g [.K 0 0],gz,gz] rfl (en rfl (cd (decide (zL3_5 < ((na_0 : Nat) : Int))) (fun h7 => ?_) (fun h7 => ?_)))))
  · have h7 := of_decide_eq_true h7
    refine skn (Ok.seq (Ok.blk (sr ?_)))
    have ie9 : 0 ≤ zL3_5 ∧ zL3_5 < ((na_0 : Nat) : Int) := by omega
    obtain ⟨je9,cse9,we9,he9,de9⟩ := (LstIs.mono le5 ha_0).at_ zL3_5 ie9.1 ie9.2
    obtain ⟨ue9_0,le9_0,rfl,ve9_0,we9_0⟩ := wfl_cons we9
    obtain ⟨ze9_0,rfl⟩ := wfv_int ve9_0
    obtain ⟨ue9_1,le9_1,rfl,ve9_1,we9_1⟩ := wfl_cons we9_0
    obtain ⟨be9_1,rfl⟩ := wfv_bool ve9_1
    obtain ⟨ue9_2,le9_2,rfl,ve9_2,we9_2⟩ := wfl_cons we9_1
    obtain ⟨ze9_2,rfl⟩ := wfv_int ve9_2
    obtain ⟨ue9_3,le9_3,rfl,ve9_3,we9_3⟩ := wfl_cons we9_2
    obtain ⟨se9_3,rfl,te9_3⟩ := wfv_str ve9_3
    obtain rfl := wfl_nil we9_3
    refine g2 8 [(1,iw zb_0),(2,pt b1 0),(4,pt (b1+1) 0),(5,iw zL3_5),(20,.bool (ze9_0 == zb_0))] [gz,.g [.K 0 0],gz,.ix,gz,.g [.X (iw ze9_0)],gz,gz] (ex1 (And.intro je9 ie9) (ex1 (cell0 (he9 0 _ rfl)) ex0)) rfl (en rfl (cd (ze9_0 == zb_0) (fun h10 => ?_) (fun h10 => ?_)))
    · have h10 := eq_of_beq h10
      refine sr (g3 7 [(4,pt (b1+1) 0)] [.blk b1 [.slice Aa_0 na_0 ca_0] 50,.blk (b1+1) [.bool be9_1,iw ze9_2,.string se9_3] 54] [gz,.g [.K 0 0],gz,.ix,gz,.g [.X (.bool be9_1),.X (iw ze9_2),.X (.string se9_3)],.g [.K 1 0,.K 1 1,.K 1 2]] (ex1 (And.intro je9 ie9) (ex1 (he9 (1) _ rfl) (ex1 (cell2 (he9 (1 + 1) _ rfl)) (ex1 (cell2 (he9 (1 + 2) _ rfl)) ex0)))) rfl (en rfl (Ok.ret_ (Ok.blkR (Ok.thenR (Ok.thenR (Ok.blkR (Ok.thenR ?_))))))))
      exact Ok.ret1c le5 [.K 1 0,.K 1 1,.K 1 2] (.agg #[.bool be9_1,iw ze9_2,.string se9_3]) [b1+1,b1+1,b1+1] rfl (by kernel_rfl) ⟨be9_1,ze9_2,se9_3,rfl,te9_3,(by rw [← XL3_0,de9,valAt_cons,if_pos (by simp_all)])⟩
    have h10 := ne_of_beq_false h10
    refine Ok.skip_ (Ok.blkN (Ok.thenN (Ok.reg ?_)))
    have k13 := wid (x := zL3_5 + 1) (by omega)
    refine g0 3 [(1,iw zb_0),(2,pt b1 0),(4,pt (b1+1) 0),(5,iw (w64 (zL3_5 + 1)))] [gz,gz,gz] rfl (en rfl (Ok.restr [1,2,4,5] [(1,iw zb_0),(2,pt b1 0),(4,pt (b1+1) 0),(5,iw (w64 (zL3_5 + 1)))] rfl ?_))
    exact Ok.again _ ⟨(w64 (zL3_5 + 1)),rfl,rfl,rfl,le5,by omega,by omega,(by rw [show (w64 (zL3_5 + 1)).toNat = zL3_5.toNat + 1 by omega,← XL3_0,de9,valAt_cons,if_neg (by simp_all)])⟩ (by omega)
  have h7 := of_decide_eq_false h7
  refine Ok.exit_ (Ok.thenE (Ok.thenE (Ok.blkE (Ok.thenN (sr (g1 2 [(4,pt (b1+1) 0)] [.blk b1 [.slice Aa_0 na_0 ca_0] 50,.blk (b1+1) [bT,iw 0,s0] 54] [gz,.g [.K 1 0,.K 1 1,.K 1 2]] rfl (en rfl (Ok.ret_ ?_))))))))
  exact Ok.ret1c le5 [.K 1 0,.K 1 1,.K 1 2] (.agg #[bT,iw 0,s0]) [b1+1,b1+1,b1+1] rfl (by kernel_rfl) ⟨true,0,(⟨#[]⟩ : ByteArray),rfl,(by decide),(by rw [← XL3_0,List.drop_of_length_le (by omega)]; rfl)⟩
theorem c29 (H : Snap) (ba_0 : Bool) : Does Tryz.prog 29 [.bool ba_0] H [] (fun v H' kp => ∃ (zra_0 : Int),v = iw zra_0 ∧ zra_0 = truthS ba_0) := by
  refine Does.of Tryz.func29 rfl rfl rfl rfl (fun w0 H0 kx => ?_)
  refine sr (g0 1 [(0,.bool ba_0)] [gz] rfl (en rfl (Ok.seq (sr (g0 1 [(3,.bool ba_0)] [gz] rfl (en rfl (cd ba_0 (fun h3 => ?_) (fun h3 => ?_))))))))
  · refine sr (g0 1 [(2,iw 1)] [gz] rfl (en rfl (Ok.ret_ (Ok.thenR ?_))))
    exact Ok.ret1 (v := iw 1) (SLe.refl _) rfl rfl ⟨1,rfl,(by simp [truthS,h3])⟩
  refine skn (sr (g0 1 [(2,iw 0)] [gz] rfl (en rfl (Ok.ret_ ?_))))
  exact Ok.ret1 (v := iw 0) (SLe.refl _) rfl rfl ⟨0,rfl,(by simp [truthS,h3])⟩
theorem c54 (H : Snap) (ba_0 : Bool) (za_1 : Int) (sa_2 : ByteArray) (Ab_0 : Option Addr) (nb_0 : Nat) (cb_0 : Nat) (gb_0 : List (List Value)) (ta_2 : sa_2.size < 9223372036854775808) (hb_0 : LstIs H elV Ab_0 nb_0 gb_0) : Does Tryz.prog 54 [.agg #[.bool ba_0,iw za_1,.string sa_2],.slice Ab_0 nb_0 cb_0] H [] (fun v H' kp => ∃ (bra_0 : Bool),v = .bool bra_0 ∧ bra_0 = withinS za_1 sa_2 gb_0) := by
  have lhb_0 := hb_0.2.1
  have mhb_0 := hb_0.1
  refine Does.of Tryz.func54 rfl rfl rfl rfl (fun w0 H0 kx => ?_)
  refine sr (g4 2 (fun b1 => [(1,.slice Ab_0 nb_0 cb_0),(2,pt b1 0)]) (fun b1 => [.blk b1 [.bool ba_0,iw za_1,.string sa_2] 54]) [.g [.N],gz] rfl (fun b1 => (en rfl ?_)))
  refine Ok.seq (sr (g0 1 [(1,.slice Ab_0 nb_0 cb_0),(2,pt b1 0),(5,iw 0)] [gz] rfl (en rfl (Ok.blk (Ok.restr [1,2,5] [(1,.slice Ab_0 nb_0 cb_0),(2,pt b1 0),(5,iw 0)] rfl (Ok.loop (fun H' fr kb m => ∃ (zL3_5 : Int),fr = [(1,.slice Ab_0 nb_0 cb_0),(2,pt b1 0),(5,iw zL3_5)] ∧ kb = [.blk b1 [.bool ba_0,iw za_1,.string sa_2] 54] ∧ m = ((((nb_0 : Nat) : Int)) - zL3_5).toNat ∧ SLe H H' ∧ 0 ≤ zL3_5 ∧ zL3_5 ≤ ((nb_0 : Nat) : Int) ∧ withinS za_1 sa_2 (gb_0.drop zL3_5.toNat) = withinS za_1 sa_2 gb_0) _ ⟨0,rfl,rfl,rfl,SLe.refl _,by decide,by omega,rfl⟩ ?_))))))
  rintro H4 _ _ mL3 ⟨zL3_5,rfl,rfl,hmL3,le5,fL3_0,fL3_1,XL3_0⟩
  refine Ok.seq (sr (g0 4 [(1,.slice Ab_0 nb_0 cb_0),(2,pt b1 0),(5,iw zL3_5),(9,.bool (decide (zL3_5 < ((nb_0 : Nat) : Int))))] [gz,gz,gz,gz] rfl (en rfl (cd (decide (zL3_5 < ((nb_0 : Nat) : Int))) (fun h7 => ?_) (fun h7 => ?_)))))
  · have h7 := of_decide_eq_true h7
    refine skn (Ok.seq (Ok.blk (Ok.seq (st [0] [] 26 ?_))))
    have ie8 : 0 ≤ zL3_5 ∧ zL3_5 < ((nb_0 : Nat) : Int) := by omega
    obtain ⟨je8,cse8,we8,he8,de8⟩ := (LstIs.mono le5 hb_0).at_ zL3_5 ie8.1 ie8.2
    obtain ⟨ue8_0,le8_0,rfl,ve8_0,we8_0⟩ := wfl_cons we8
    obtain ⟨be8_0,rfl⟩ := wfv_bool ve8_0
    obtain ⟨ue8_1,le8_1,rfl,ve8_1,we8_1⟩ := wfl_cons we8_0
    obtain ⟨ze8_1,rfl⟩ := wfv_int ve8_1
    obtain ⟨ue8_2,le8_2,rfl,ve8_2,we8_2⟩ := wfl_cons we8_1
    obtain ⟨se8_2,rfl,te8_2⟩ := wfv_str ve8_2
    obtain rfl := wfl_nil we8_2
    refine tx 19 [(0,gz),(1,gz),(2,.ix),(3,gz),(4,.g [.X (.bool be8_0)]),(5,gz),(6,gz)] [(1,.slice Ab_0 nb_0 cb_0),(2,pt b1 0),(5,iw zL3_5),(18,.bool (!be8_0))] (ex1 (And.intro je8 ie8) (ex1 (cell0 (he8 0 _ rfl)) ex0)) rfl ?_
    refine cs (!be8_0) [18] (fun h9 => ?_) (fun h9 => ?_)
    · refine tx 9 [(7,gz),(8,gz),(9,.ix),(10,gz),(11,.g [.X (iw ze8_1)]),(12,gz),(13,.g [.K 0 1]),(14,gz),(15,gz),(16,gz)] [(1,.slice Ab_0 nb_0 cb_0),(2,pt b1 0),(5,iw zL3_5),(28,.bool (ze8_1 == za_1))] (ex1 (And.intro je8 ie8) (ex1 (he8 (1) _ rfl) ex0)) rfl ?_
      refine cs (ze8_1 == za_1) [28] (fun h10 => ?_) (fun h10 => ?_)
      · have h10 := eq_of_beq h10
        refine tx 0 [(17,gz),(18,gz),(19,.ix),(20,gz),(21,.g [.X (.string se8_2)]),(22,gz),(23,.g [.K 0 2]),(24,gz),(25,gz)] [(1,.slice Ab_0 nb_0 cb_0),(2,pt b1 0),(5,iw zL3_5),(37,.bool (se8_2.toList == sa_2.toList))] (ex1 (And.intro je8 ie8) (ex1 (he8 (2) _ rfl) ex0)) rfl ?_
        refine dn (cd (se8_2.toList == sa_2.toList) (fun h11 => ?_) (fun h11 => ?_))
        · refine sr (g0 1 [(4,bT)] [gz] rfl (en rfl (Ok.ret_ (Ok.blkR (Ok.thenR (Ok.thenR (Ok.blkR (Ok.thenR (Ok.dropAll ?_)))))))))
          exact Ok.ret1 (v := bT) le5 rfl rfl ⟨true,rfl,(by rw [← XL3_0,de8]; simp [withinS_cons,h7,h9,h10,h11])⟩
        refine Ok.skip_ (Ok.blkN (Ok.thenN (Ok.reg ?_)))
        have k14 := wid (x := zL3_5 + 1) (by omega)
        refine g0 3 [(1,.slice Ab_0 nb_0 cb_0),(2,pt b1 0),(5,iw (w64 (zL3_5 + 1)))] [gz,gz,gz] rfl (en rfl (Ok.restr [1,2,5] [(1,.slice Ab_0 nb_0 cb_0),(2,pt b1 0),(5,iw (w64 (zL3_5 + 1)))] rfl ?_))
        exact Ok.again _ ⟨(w64 (zL3_5 + 1)),rfl,rfl,rfl,le5,by omega,by omega,(by rw [show (w64 (zL3_5 + 1)).toNat = zL3_5.toNat + 1 by omega,← XL3_0,de8]; simp [withinS_cons,h7,h9,h10,h11])⟩ (by omega)
      have h10 := ne_of_beq_false h10
      refine tk 0 [(17,gz),(18,gz),(19,gz),(20,gz),(21,gz),(22,gz),(23,gz),(24,gz),(25,gz)] [(1,.slice Ab_0 nb_0 cb_0),(2,pt b1 0),(5,iw zL3_5),(37,bF)] rfl ?_
      refine dn (cF (Ok.skip_ (Ok.blkN (Ok.thenN (Ok.reg ?_)))))
      have k16 := wid (x := zL3_5 + 1) (by omega)
      refine g0 3 [(1,.slice Ab_0 nb_0 cb_0),(2,pt b1 0),(5,iw (w64 (zL3_5 + 1)))] [gz,gz,gz] rfl (en rfl (Ok.restr [1,2,5] [(1,.slice Ab_0 nb_0 cb_0),(2,pt b1 0),(5,iw (w64 (zL3_5 + 1)))] rfl ?_))
      exact Ok.again _ ⟨(w64 (zL3_5 + 1)),rfl,rfl,rfl,le5,by omega,by omega,(by rw [show (w64 (zL3_5 + 1)).toNat = zL3_5.toNat + 1 by omega,← XL3_0,de8]; simp [withinS_cons,h7,h9,h10])⟩ (by omega)
    refine tk 0 [(7,gz),(8,gz),(9,gz),(10,gz),(11,gz),(12,gz),(13,gz),(14,gz),(15,gz),(16,gz),(17,gz),(18,gz),(19,gz),(20,gz),(21,gz),(22,gz),(23,gz),(24,gz),(25,gz)] [(1,.slice Ab_0 nb_0 cb_0),(2,pt b1 0),(5,iw zL3_5),(37,bF)] rfl ?_
    refine dn (cF (Ok.skip_ (Ok.blkN (Ok.thenN (Ok.reg ?_)))))
    have k18 := wid (x := zL3_5 + 1) (by omega)
    refine g0 3 [(1,.slice Ab_0 nb_0 cb_0),(2,pt b1 0),(5,iw (w64 (zL3_5 + 1)))] [gz,gz,gz] rfl (en rfl (Ok.restr [1,2,5] [(1,.slice Ab_0 nb_0 cb_0),(2,pt b1 0),(5,iw (w64 (zL3_5 + 1)))] rfl ?_))
    exact Ok.again _ ⟨(w64 (zL3_5 + 1)),rfl,rfl,rfl,le5,by omega,by omega,(by rw [show (w64 (zL3_5 + 1)).toNat = zL3_5.toNat + 1 by omega,← XL3_0,de8]; simp [withinS_cons,h7,h9])⟩ (by omega)
  have h7 := of_decide_eq_false h7
  refine Ok.exit_ (Ok.thenE (Ok.thenE (Ok.blkE (Ok.thenN (sr (g0 1 [(4,bF)] [gz] rfl (en rfl (Ok.ret_ (Ok.dropAll ?_)))))))))
  exact Ok.ret1 (v := bF) le5 rfl rfl ⟨false,rfl,(by rw [← XL3_0,List.drop_of_length_le (by omega)]; rfl)⟩
theorem c55 (H : Snap) (sa_0 : ByteArray) (sb_0 : ByteArray) (ta_0 : sa_0.size < 9223372036854775808) (tb_0 : sb_0.size < 9223372036854775808) : Does Tryz.prog 55 [.string sa_0,.string sb_0] H [] (fun v H' kp => ∃ (bra_0 : Bool),v = .bool bra_0 ∧ bra_0 = beginsS sa_0 sb_0) := by
  refine Does.of Tryz.func55 rfl rfl rfl rfl (fun w0 H0 kx => ?_)
  refine sr (g0 1 [(0,.string sa_0),(1,.string sb_0)] [gz] rfl (en rfl (sr (g0 6 [(0,.string sa_0),(1,.string sb_0),(10,.bool (decide (((sa_0.size : Nat) : Int) ≥ ((sb_0.size : Nat) : Int))))] [gz,gz,gz,gz,gz,gz] rfl (cs (decide (((sa_0.size : Nat) : Int) ≥ ((sb_0.size : Nat) : Int))) [10] (fun h3 => ?_) (fun h3 => ?_))))))
  · have h3 := of_decide_eq_true h3
    refine g2 14 [(4,.bool ((sa_0.extract 0 (((sb_0.size : Nat) : Int)).toNat).toList == sb_0.toList))] [gz,gz,gz,.ss,gz,gz,gz,gz] (ex1 (show 0 ≤ ((sb_0.size : Nat) : Int) ∧ ((sb_0.size : Nat) : Int) ≤ ((sa_0.size : Nat) : Int) from (by omega)) ex0) rfl (en rfl (Ok.ret_ ?_))
    exact Ok.ret1 (v := .bool ((sa_0.extract 0 (((sb_0.size : Nat) : Int)).toNat).toList == sb_0.toList)) (SLe.refl _) rfl rfl ⟨((sa_0.extract 0 (((sb_0.size : Nat) : Int)).toNat).toList == sb_0.toList),rfl,(by have e : sb_0.size ≤ sa_0.size := (by omega); simp [beginsS,e])⟩
  have h3 := of_decide_eq_false h3
  refine g0 14 [(4,bF)] [gz,gz,gz,gz,gz,gz,gz,gz] rfl (en rfl (Ok.ret_ ?_))
  exact Ok.ret1 (v := bF) (SLe.refl _) rfl rfl ⟨false,rfl,(by have e : ¬ sb_0.size ≤ sa_0.size := (by omega); simp [beginsS,e])⟩
theorem c27 (H : Snap) (za_0 : Int) (za_1 : Int) (za_2 : Int) (za_3 : Int) (Aa_4 : Option Addr) (na_4 : Nat) (ca_4 : Nat) (ga_4 : List (List Value)) (sa_5 : ByteArray) (Aa_6 : Option Addr) (na_6 : Nat) (ca_6 : Nat) (ka_6 : PTs) (bb_0 : Bool) (zb_1 : Int) (sb_2 : ByteArray) (ha_4 : LstIs H elV Aa_4 na_4 ga_4) (ta_5 : sa_5.size < 9223372036854775808) (ha_6 : KidsIs H Aa_6 na_6 ka_6) (tb_2 : sb_2.size < 9223372036854775808) : Does Tryz.prog 27 [.agg #[iw za_0,iw za_1,iw za_2,iw za_3,.slice Aa_4 na_4 ca_4,.string sa_5,.slice Aa_6 na_6 ca_6],.agg #[.bool bb_0,iw zb_1,.string sb_2]] H [] (fun v H' kp => ∃ (zra_0 : Int),v = iw zra_0 ∧ zra_0 = simpleS za_0 za_2 za_3 ga_4 sa_5 (bb_0,zb_1,sb_2)) := by
  have lha_4 := ha_4.2.1
  have mha_4 := ha_4.1
  have lha_6 := ha_6.2.1
  have mha_6 := ha_6.1
  refine Does.of Tryz.func27 rfl rfl rfl rfl (fun w0 H0 kx => ?_)
  refine sr (g4 3 (fun b1 => [(2,pt b1 0),(3,pt (b1+1) 0)]) (fun b1 => [.blk b1 [iw za_0,iw za_1,iw za_2,iw za_3,.slice Aa_4 na_4 ca_4,.string sa_5,.slice Aa_6 na_6 ca_6] 27,.blk (b1+1) [.bool bb_0,iw zb_1,.string sb_2] 54]) [.g [.N],.g [.N],gz] rfl (fun b1 => (en rfl ?_)))
  refine Ok.seq (Ok.blk (sr (g0 4 [(2,pt b1 0),(3,pt (b1+1) 0),(5,.bool (za_0 == 4))] [gz,.g [.K 0 0],gz,gz] rfl (en rfl (cd (za_0 == 4) (fun h3 => ?_) (fun h3 => ?_))))))
  · have h3 := eq_of_beq h3
    refine sr (g0 2 [(10,.bool bb_0)] [gz,.g [.K 1 0]] rfl (Ok.mask [false,false] [] rfl ?_))
    refine ef 3 rfl (ca (some 11) (c29 H bb_0) ?_)
    rintro v5 H6 k8 le7 ⟨zra_0y9,rfl,py9_0⟩
    refine g0 4 [(4,iw zra_0y9)] [gz] rfl (en rfl (Ok.ret_ (Ok.blkR (Ok.thenR ?_))))
    exact Ok.ret1 (v := iw zra_0y9) le7 rfl rfl ⟨zra_0y9,rfl,(by simp [simpleS,py9_0,h3])⟩
  have h3 := ne_of_beq_false h3
  refine sr (g0 3 [(2,pt b1 0),(3,pt (b1+1) 0),(12,.bool bb_0)] [gz,.g [.K 1 0],gz] rfl (en rfl (cd bb_0 (fun h12 => ?_) (fun h12 => ?_))))
  · refine sr (g0 1 [(4,iw 2)] [gz] rfl (Ok.mask [false,false] [] rfl ?_))
    refine en rfl (Ok.ret_ (Ok.blkR (Ok.thenR ?_)))
    exact Ok.ret1 (v := iw 2) (SLe.refl _) rfl rfl ⟨2,rfl,(by simp [simpleS,h3,h12])⟩
  refine sr (g0 4 [(2,pt b1 0),(3,pt (b1+1) 0),(15,.bool (za_0 == 1))] [gz,.g [.K 0 0],gz,gz] rfl (en rfl (cd (za_0 == 1) (fun h15 => ?_) (fun h15 => ?_))))
  · have h15 := eq_of_beq h15
    refine sr (g0 6 [(2,pt b1 0),(3,pt (b1+1) 0),(24,.bool (decide (zb_1 ≥ za_2)))] [gz,.g [.K 1 1],gz,.g [.K 0 2],gz,gz] rfl (cs (decide (zb_1 ≥ za_2)) [24] (fun h17 => ?_) (fun h17 => ?_)))
    · have h17 := of_decide_eq_true h17
      refine g0 12 [(30,.bool (decide (zb_1 ≤ za_3)))] [gz,.g [.K 1 1],gz,.g [.K 0 3],gz,gz] rfl (Ok.mask [false,false] [] rfl ?_)
      refine ef 13 rfl (ca (some 31) (c29 H (decide (zb_1 ≤ za_3))) ?_)
      rintro v19 H20 k22 le21 ⟨zra_0y23,rfl,py23_0⟩
      refine g0 14 [(4,iw zra_0y23)] [gz] rfl (en rfl (Ok.ret_ (Ok.blkR (Ok.thenR ?_))))
      exact Ok.ret1 (v := iw zra_0y23) le21 rfl rfl ⟨zra_0y23,rfl,(by simp [simpleS,py23_0,h3,h12,h15,h17])⟩
    have h17 := of_decide_eq_false h17
    refine g0 12 [(30,bF)] [gz,gz,gz,gz,gz,gz] rfl (Ok.mask [false,false] [] rfl ?_)
    refine ef 13 rfl (ca (some 31) (c29 H false) ?_)
    rintro v26 H27 k29 le28 ⟨zra_0y30,rfl,py30_0⟩
    refine g0 14 [(4,iw zra_0y30)] [gz] rfl (en rfl (Ok.ret_ (Ok.blkR (Ok.thenR ?_))))
    exact Ok.ret1 (v := iw zra_0y30) le28 rfl rfl ⟨zra_0y30,rfl,(by simp [simpleS,py30_0,h3,h12,h15,h17])⟩
  have h15 := ne_of_beq_false h15
  refine sr (g0 4 [(2,pt b1 0),(3,pt (b1+1) 0),(32,.bool (za_0 == 2))] [gz,.g [.K 0 0],gz,gz] rfl (en rfl (cd (za_0 == 2) (fun h33 => ?_) (fun h33 => ?_))))
  · have h33 := eq_of_beq h33
    refine sr (g0 3 [(36,.agg #[.bool bb_0,iw zb_1,.string sb_2]),(38,.slice Aa_4 na_4 ca_4)] [.g [.K 1 0,.K 1 1,.K 1 2],gz,.g [.K 0 4]] rfl (Ok.mask [false,false] [] rfl ?_))
    refine ef 4 rfl (ca (some 39) (c54 H bb_0 zb_1 sb_2 Aa_4 (na_4) (ca_4) ga_4 tb_2 ha_4) ?_)
    rintro v35 H36 k38 le37 ⟨bra_0y39,rfl,py39_0⟩
    refine ef 5 rfl (ca (some 40) (c29 H36 bra_0y39) ?_)
    rintro v41 H42 k44 le43 ⟨zra_0y45,rfl,py45_0⟩
    refine g0 6 [(4,iw zra_0y45)] [gz] rfl (en rfl (Ok.ret_ (Ok.blkR (Ok.thenR ?_))))
    exact Ok.ret1 (v := iw zra_0y45) (tr le37 le43) rfl rfl ⟨zra_0y45,rfl,(by simp [simpleS,py45_0,py39_0,h3,h12,h15,h33])⟩
  have h33 := ne_of_beq_false h33
  refine Ok.skip_ (Ok.blkN (Ok.thenN (sr (g0 4 [(42,.string sb_2),(44,.string sa_5)] [gz,.g [.K 1 2],gz,.g [.K 0 5]] rfl (Ok.mask [false,false] [] rfl ?_)))))
  refine ef 5 rfl (ca (some 45) (c55 H sb_2 sa_5 tb_2 ta_5) ?_)
  rintro v48 H49 k51 le50 ⟨bra_0y52,rfl,py52_0⟩
  refine ef 6 rfl (ca (some 46) (c29 H49 bra_0y52) ?_)
  rintro v54 H55 k57 le56 ⟨zra_0y58,rfl,py58_0⟩
  refine g0 7 [(4,iw zra_0y58)] [gz] rfl (en rfl (Ok.ret_ ?_))
  exact Ok.ret1 (v := iw zra_0y58) (tr le50 le56) rfl rfl ⟨zra_0y58,rfl,(by simp [simpleS,py58_0,py52_0,h3,h12,h15,h33])⟩
end Go.Proofs.YtdifenljfklolaaGreatDoor
