/- Contracts of functions at values that are not known: printed by a program of this claim's author. -/
import Derived.Test.YtdifenljfklolaaGreatDoorSg0
set_option linter.unusedVariables false
set_option linter.unusedSimpArgs false
set_option maxHeartbeats 4000000
set_option maxRecDepth 100000
namespace Go.Proofs.YtdifenljfklolaaGreatDoor
open Go Go.RowKit Sx
theorem c46 (H : Snap) (Aa_0 : Option Addr) (na_0 : Nat) (ca_0 : Nat) (za_1 : Int) (zb_0 : Int) (zb_1 : Int) (zb_2 : Int) (sb_3 : ByteArray) (sb_4 : ByteArray) (zb_5 : Int) (zb_6 : Int) (sb_7 : ByteArray) (ha_0 : WfS H el41 Aa_0 na_0) (tb_3 : sb_3.size < 9223372036854775808) (tb_4 : sb_4.size < 9223372036854775808) (tb_7 : sb_7.size < 9223372036854775808) (hq0 : na_0 ≤ 900) : Does Tryz.prog 46 [.agg #[.slice Aa_0 na_0 ca_0,iw za_1],.agg #[iw zb_0,iw zb_1,iw zb_2,.string sb_3,.string sb_4,iw zb_5,iw zb_6,.string sb_7]] H [] (fun v H' kp => ∃ (Ara_0 : Option Addr) (nra_0 : Nat) (cra_0 : Nat) (zra_1 : Int) (zrb_0 : Int),v = .tuple #[.agg #[.slice Ara_0 nra_0 cra_0,iw zra_1],iw zrb_0] ∧ WfS H' el41 Ara_0 nra_0 ∧ nra_0 ≤ na_0 + 2) := by
  have lha_0 := ha_0.1
  refine Does.of Tryz.func46 rfl rfl rfl rfl (fun w0 H0 kx => ?_)
  refine sr (g4 4 (fun b1 => [(2,pt b1 0),(3,pt (b1+1) 0),(4,pt (b1+1+1) 0)]) (fun b1 => [.blk b1 [.slice Aa_0 na_0 ca_0,iw za_1] 34,.blk (b1+1) [iw zb_0,iw zb_1,iw zb_2,.string sb_3,.string sb_4,iw zb_5,iw zb_6,.string sb_7] 105,.blk (b1+1+1) [n0,iw 0] 34]) [.g [.N],.g [.N],.g [.N],gz] rfl (fun b1 => (en rfl ?_)))
  refine Ok.seq (sr (g0 2 [(2,pt b1 0),(3,pt (b1+1) 0),(4,pt (b1+1+1) 0),(7,iw zb_0)] [gz,.g [.K 1 0]] rfl (en rfl (Ok.blk (sr (g0 2 [(2,pt b1 0),(3,pt (b1+1) 0),(4,pt (b1+1+1) 0),(7,iw zb_0),(8,.bool (zb_0 == 1))] [gz,gz] rfl (en rfl (cd (zb_0 == 1) (fun h4 => ?_) (fun h4 => ?_)))))))))
  · have h4 := eq_of_beq h4
    refine sr (g0 2 [(4,pt (b1+1+1) 0),(10,.agg #[.slice Aa_0 na_0 ca_0,iw za_1]),(11,.agg #[iw zb_0,iw zb_1,iw zb_2,.string sb_3,.string sb_4,iw zb_5,iw zb_6,.string sb_7])] [.g [.K 0 0,.K 0 1],.g [.K 1 0,.K 1 1,.K 1 2,.K 1 3,.K 1 4,.K 1 5,.K 1 6,.K 1 7]] rfl (Ok.mask [false,false,true] [.blk (b1+1+1) [n0,iw 0] 34] rfl ?_))
    refine ef 3 rfl (ca (some 12) (c80 H Aa_0 (na_0) (ca_0) za_1 zb_0 zb_1 zb_2 sb_3 sb_4 zb_5 zb_6 sb_7 ha_0 tb_3 tb_4 tb_7 (by omega)) ?_)
    rintro v6 H7 k9 le8 ⟨Ara_0y10,nra_0y10,cra_0y10,zra_1y10,zrb_0y10,rfl,hra_0y10,py10_0⟩
    have lhra_0y10 := hra_0y10.1
    refine g1 7 [(4,pt (b1+1+1) 0),(5,iw zrb_0y10)] [.blk (b1+1+1) [.slice Ara_0y10 nra_0y10 cra_0y10,iw zra_1y10] 34] [gz,gz,.g [.K 0 0,.K 0 1],gz] rfl (en rfl (Ok.ret_ (Ok.blkR (Ok.thenR ?_))))
    exact Ok.ret2c le8 [.K 0 0,.K 0 1] (.agg #[.slice Ara_0y10 nra_0y10 cra_0y10,iw zra_1y10]) (iw zrb_0y10) [b1+1+1,b1+1+1] rfl (by kernel_rfl) rfl ⟨Ara_0y10,nra_0y10,cra_0y10,zra_1y10,zrb_0y10,rfl,hra_0y10,(by omega)⟩
  have h4 := ne_of_beq_false h4
  refine Ok.seq (sr (g0 2 [(2,pt b1 0),(3,pt (b1+1) 0),(4,pt (b1+1+1) 0),(7,iw zb_0),(15,.bool (zb_0 == 2))] [gz,gz] rfl (en rfl (cs (zb_0 == 2) [15] (fun h13 => ?_) (fun h13 => ?_)))))
  · have h13 := eq_of_beq h13
    refine cT (skn (cT (sr (g0 2 [(4,pt (b1+1+1) 0),(20,.agg #[.slice Aa_0 na_0 ca_0,iw za_1]),(21,.agg #[iw zb_0,iw zb_1,iw zb_2,.string sb_3,.string sb_4,iw zb_5,iw zb_6,.string sb_7])] [.g [.K 0 0,.K 0 1],.g [.K 1 0,.K 1 1,.K 1 2,.K 1 3,.K 1 4,.K 1 5,.K 1 6,.K 1 7]] rfl (Ok.mask [false,false,true] [.blk (b1+1+1) [n0,iw 0] 34] rfl ?_)))))
    refine ef 3 rfl (ca (some 22) (c81 H Aa_0 (na_0) (ca_0) za_1 zb_0 zb_1 zb_2 sb_3 sb_4 zb_5 zb_6 sb_7 ha_0 tb_3 tb_4 tb_7 (by omega)) ?_)
    rintro v15 H16 k18 le17 ⟨Ara_0y19,nra_0y19,cra_0y19,zra_1y19,zrb_0y19,rfl,hra_0y19,py19_0⟩
    have lhra_0y19 := hra_0y19.1
    refine g1 7 [(4,pt (b1+1+1) 0),(5,iw zrb_0y19)] [.blk (b1+1+1) [.slice Ara_0y19 nra_0y19 cra_0y19,iw zra_1y19] 34] [gz,gz,.g [.K 0 0,.K 0 1],gz] rfl (en rfl (Ok.ret_ (Ok.blkR (Ok.thenR ?_))))
    exact Ok.ret2c le17 [.K 0 0,.K 0 1] (.agg #[.slice Ara_0y19 nra_0y19 cra_0y19,iw zra_1y19]) (iw zrb_0y19) [b1+1+1,b1+1+1] rfl (by kernel_rfl) rfl ⟨Ara_0y19,nra_0y19,cra_0y19,zra_1y19,zrb_0y19,rfl,hra_0y19,(by omega)⟩
  have h13 := ne_of_beq_false h13
  refine cF (sr (g0 2 [(2,pt b1 0),(3,pt (b1+1) 0),(4,pt (b1+1+1) 0),(7,iw zb_0),(15,.bool (zb_0 == 3))] [gz,gz] rfl (en rfl (cs (zb_0 == 3) [15] (fun h22 => ?_) (fun h22 => ?_)))))
  · have h22 := eq_of_beq h22
    refine cT (skn (cT (sr (g0 2 [(4,pt (b1+1+1) 0),(20,.agg #[.slice Aa_0 na_0 ca_0,iw za_1]),(21,.agg #[iw zb_0,iw zb_1,iw zb_2,.string sb_3,.string sb_4,iw zb_5,iw zb_6,.string sb_7])] [.g [.K 0 0,.K 0 1],.g [.K 1 0,.K 1 1,.K 1 2,.K 1 3,.K 1 4,.K 1 5,.K 1 6,.K 1 7]] rfl (Ok.mask [false,false,true] [.blk (b1+1+1) [n0,iw 0] 34] rfl ?_)))))
    refine ef 3 rfl (ca (some 22) (c81 H Aa_0 (na_0) (ca_0) za_1 zb_0 zb_1 zb_2 sb_3 sb_4 zb_5 zb_6 sb_7 ha_0 tb_3 tb_4 tb_7 (by omega)) ?_)
    rintro v24 H25 k27 le26 ⟨Ara_0y28,nra_0y28,cra_0y28,zra_1y28,zrb_0y28,rfl,hra_0y28,py28_0⟩
    have lhra_0y28 := hra_0y28.1
    refine g1 7 [(4,pt (b1+1+1) 0),(5,iw zrb_0y28)] [.blk (b1+1+1) [.slice Ara_0y28 nra_0y28 cra_0y28,iw zra_1y28] 34] [gz,gz,.g [.K 0 0,.K 0 1],gz] rfl (en rfl (Ok.ret_ (Ok.blkR (Ok.thenR ?_))))
    exact Ok.ret2c le26 [.K 0 0,.K 0 1] (.agg #[.slice Ara_0y28 nra_0y28 cra_0y28,iw zra_1y28]) (iw zrb_0y28) [b1+1+1,b1+1+1] rfl (by kernel_rfl) rfl ⟨Ara_0y28,nra_0y28,cra_0y28,zra_1y28,zrb_0y28,rfl,hra_0y28,(by omega)⟩
  have h22 := ne_of_beq_false h22
  refine cF (sr (g0 2 [(2,pt b1 0),(3,pt (b1+1) 0),(4,pt (b1+1+1) 0),(7,iw zb_0),(15,.bool (zb_0 == 4))] [gz,gz] rfl (en rfl (cs (zb_0 == 4) [15] (fun h31 => ?_) (fun h31 => ?_)))))
  · have h31 := eq_of_beq h31
    refine cT (skn (cT (sr (g0 2 [(4,pt (b1+1+1) 0),(20,.agg #[.slice Aa_0 na_0 ca_0,iw za_1]),(21,.agg #[iw zb_0,iw zb_1,iw zb_2,.string sb_3,.string sb_4,iw zb_5,iw zb_6,.string sb_7])] [.g [.K 0 0,.K 0 1],.g [.K 1 0,.K 1 1,.K 1 2,.K 1 3,.K 1 4,.K 1 5,.K 1 6,.K 1 7]] rfl (Ok.mask [false,false,true] [.blk (b1+1+1) [n0,iw 0] 34] rfl ?_)))))
    refine ef 3 rfl (ca (some 22) (c81 H Aa_0 (na_0) (ca_0) za_1 zb_0 zb_1 zb_2 sb_3 sb_4 zb_5 zb_6 sb_7 ha_0 tb_3 tb_4 tb_7 (by omega)) ?_)
    rintro v33 H34 k36 le35 ⟨Ara_0y37,nra_0y37,cra_0y37,zra_1y37,zrb_0y37,rfl,hra_0y37,py37_0⟩
    have lhra_0y37 := hra_0y37.1
    refine g1 7 [(4,pt (b1+1+1) 0),(5,iw zrb_0y37)] [.blk (b1+1+1) [.slice Ara_0y37 nra_0y37 cra_0y37,iw zra_1y37] 34] [gz,gz,.g [.K 0 0,.K 0 1],gz] rfl (en rfl (Ok.ret_ (Ok.blkR (Ok.thenR ?_))))
    exact Ok.ret2c le35 [.K 0 0,.K 0 1] (.agg #[.slice Ara_0y37 nra_0y37 cra_0y37,iw zra_1y37]) (iw zrb_0y37) [b1+1+1,b1+1+1] rfl (by kernel_rfl) rfl ⟨Ara_0y37,nra_0y37,cra_0y37,zra_1y37,zrb_0y37,rfl,hra_0y37,(by omega)⟩
  have h31 := ne_of_beq_false h31
  refine cF (Ok.reg (g0 2 [(2,pt b1 0),(3,pt (b1+1) 0),(4,pt (b1+1+1) 0),(7,iw zb_0),(15,.bool (zb_0 == 5))] [gz,gz] rfl (en rfl (cd (zb_0 == 5) (fun h40 => ?_) (fun h40 => ?_)))))
  · have h40 := eq_of_beq h40
    refine sr (g0 2 [(4,pt (b1+1+1) 0),(20,.agg #[.slice Aa_0 na_0 ca_0,iw za_1]),(21,.agg #[iw zb_0,iw zb_1,iw zb_2,.string sb_3,.string sb_4,iw zb_5,iw zb_6,.string sb_7])] [.g [.K 0 0,.K 0 1],.g [.K 1 0,.K 1 1,.K 1 2,.K 1 3,.K 1 4,.K 1 5,.K 1 6,.K 1 7]] rfl (Ok.mask [false,false,true] [.blk (b1+1+1) [n0,iw 0] 34] rfl ?_))
    refine ef 3 rfl (ca (some 22) (c81 H Aa_0 (na_0) (ca_0) za_1 zb_0 zb_1 zb_2 sb_3 sb_4 zb_5 zb_6 sb_7 ha_0 tb_3 tb_4 tb_7 (by omega)) ?_)
    rintro v42 H43 k45 le44 ⟨Ara_0y46,nra_0y46,cra_0y46,zra_1y46,zrb_0y46,rfl,hra_0y46,py46_0⟩
    have lhra_0y46 := hra_0y46.1
    refine g1 7 [(4,pt (b1+1+1) 0),(5,iw zrb_0y46)] [.blk (b1+1+1) [.slice Ara_0y46 nra_0y46 cra_0y46,iw zra_1y46] 34] [gz,gz,.g [.K 0 0,.K 0 1],gz] rfl (en rfl (Ok.ret_ (Ok.blkR (Ok.thenR ?_))))
    exact Ok.ret2c le44 [.K 0 0,.K 0 1] (.agg #[.slice Ara_0y46 nra_0y46 cra_0y46,iw zra_1y46]) (iw zrb_0y46) [b1+1+1,b1+1+1] rfl (by kernel_rfl) rfl ⟨Ara_0y46,nra_0y46,cra_0y46,zra_1y46,zrb_0y46,rfl,hra_0y46,(by omega)⟩
  have h40 := ne_of_beq_false h40
  refine sr (g0 2 [(2,pt b1 0),(3,pt (b1+1) 0),(4,pt (b1+1+1) 0),(7,iw zb_0),(25,.bool (zb_0 == 6))] [gz,gz] rfl (en rfl (cd (zb_0 == 6) (fun h49 => ?_) (fun h49 => ?_))))
  · have h49 := eq_of_beq h49
    refine sr (g0 2 [(4,pt (b1+1+1) 0),(27,.agg #[.slice Aa_0 na_0 ca_0,iw za_1]),(28,.agg #[iw zb_0,iw zb_1,iw zb_2,.string sb_3,.string sb_4,iw zb_5,iw zb_6,.string sb_7])] [.g [.K 0 0,.K 0 1],.g [.K 1 0,.K 1 1,.K 1 2,.K 1 3,.K 1 4,.K 1 5,.K 1 6,.K 1 7]] rfl (Ok.mask [false,false,true] [.blk (b1+1+1) [n0,iw 0] 34] rfl ?_))
    refine ef 3 rfl (ca (some 29) (c82 H Aa_0 (na_0) (ca_0) za_1 zb_0 zb_1 zb_2 sb_3 sb_4 zb_5 zb_6 sb_7 ha_0 tb_3 tb_4 tb_7 (by omega)) ?_)
    rintro v51 H52 k54 le53 ⟨Ara_0y55,nra_0y55,cra_0y55,zra_1y55,zrb_0y55,rfl,hra_0y55,py55_0⟩
    have lhra_0y55 := hra_0y55.1
    refine g1 7 [(4,pt (b1+1+1) 0),(5,iw zrb_0y55)] [.blk (b1+1+1) [.slice Ara_0y55 nra_0y55 cra_0y55,iw zra_1y55] 34] [gz,gz,.g [.K 0 0,.K 0 1],gz] rfl (en rfl (Ok.ret_ (Ok.blkR (Ok.thenR ?_))))
    exact Ok.ret2c le53 [.K 0 0,.K 0 1] (.agg #[.slice Ara_0y55 nra_0y55 cra_0y55,iw zra_1y55]) (iw zrb_0y55) [b1+1+1,b1+1+1] rfl (by kernel_rfl) rfl ⟨Ara_0y55,nra_0y55,cra_0y55,zra_1y55,zrb_0y55,rfl,hra_0y55,(by omega)⟩
  have h49 := ne_of_beq_false h49
  refine sr (g0 2 [(2,pt b1 0),(3,pt (b1+1) 0),(4,pt (b1+1+1) 0),(32,.bool (zb_0 == 7))] [gz,gz] rfl (en rfl (cd (zb_0 == 7) (fun h58 => ?_) (fun h58 => ?_))))
  · have h58 := eq_of_beq h58
    refine sr (g0 2 [(4,pt (b1+1+1) 0),(34,.agg #[.slice Aa_0 na_0 ca_0,iw za_1]),(35,.agg #[iw zb_0,iw zb_1,iw zb_2,.string sb_3,.string sb_4,iw zb_5,iw zb_6,.string sb_7])] [.g [.K 0 0,.K 0 1],.g [.K 1 0,.K 1 1,.K 1 2,.K 1 3,.K 1 4,.K 1 5,.K 1 6,.K 1 7]] rfl (Ok.mask [false,false,true] [.blk (b1+1+1) [n0,iw 0] 34] rfl ?_))
    refine ef 3 rfl (ca (some 36) (c83 H Aa_0 (na_0) (ca_0) za_1 zb_0 zb_1 zb_2 sb_3 sb_4 zb_5 zb_6 sb_7 ha_0 tb_3 tb_4 tb_7 (by omega)) ?_)
    rintro v60 H61 k63 le62 ⟨Ara_0y64,nra_0y64,cra_0y64,zra_1y64,zrb_0y64,rfl,hra_0y64,py64_0⟩
    have lhra_0y64 := hra_0y64.1
    refine g1 7 [(4,pt (b1+1+1) 0),(5,iw zrb_0y64)] [.blk (b1+1+1) [.slice Ara_0y64 nra_0y64 cra_0y64,iw zra_1y64] 34] [gz,gz,.g [.K 0 0,.K 0 1],gz] rfl (en rfl (Ok.ret_ (Ok.blkR (Ok.thenR ?_))))
    exact Ok.ret2c le62 [.K 0 0,.K 0 1] (.agg #[.slice Ara_0y64 nra_0y64 cra_0y64,iw zra_1y64]) (iw zrb_0y64) [b1+1+1,b1+1+1] rfl (by kernel_rfl) rfl ⟨Ara_0y64,nra_0y64,cra_0y64,zra_1y64,zrb_0y64,rfl,hra_0y64,(by omega)⟩
  have h58 := ne_of_beq_false h58
  refine Ok.skip_ (Ok.blkN (Ok.thenN (sr (g0 3 [(4,pt (b1+1+1) 0),(5,iw 1)] [gz,.g [.K 2 0,.K 2 1],gz] rfl (Ok.mask [false,false,true] [.blk (b1+1+1) [n0,iw 0] 34] rfl ?_)))))
  refine en rfl (Ok.ret_ ?_)
  exact Ok.ret2c (SLe.refl _) [.K 0 0,.K 0 1] (.agg #[n0,iw 0]) (iw 1) [b1+1+1,b1+1+1] rfl (by kernel_rfl) rfl ⟨none,0,0,0,1,rfl,(WfS.nil _ _),(by omega)⟩
theorem c22 (H : Snap) (Aa_0 : Option Addr) (na_0 : Nat) (ca_0 : Nat) (zb_0 : Int) (ha_0 : WfS H el105 Aa_0 na_0) (hq0 : 0 ≤ zb_0 ∧ zb_0 ≤ 100) : Does Tryz.prog 22 [.slice Aa_0 na_0 ca_0,iw zb_0] H [] (fun v H' kp => ∃ (Ara_0 : Option Addr) (nra_0 : Nat) (cra_0 : Nat),v = .slice Ara_0 nra_0 cra_0 ∧ WfS H' el105 Ara_0 nra_0 ∧ nra_0 ≤ 100) := by
  have lha_0 := ha_0.1
  refine Does.of Tryz.func22 rfl rfl rfl rfl (fun w0 H0 kx => ?_)
  refine sr (g0 1 [(0,.slice Aa_0 na_0 ca_0),(1,iw zb_0)] [gz] rfl (en rfl (sr (ef 1 rfl (ca (some 11) (c45 H ) ?_)))))
  rintro v3 H4 k6 le5 ⟨Ara_0y7,nra_0y7,cra_0y7,zra_1y7,rfl,hra_0y7,py7_0⟩
  have lhra_0y7 := hra_0y7.1
  refine g4 3 (fun b8 => [(0,.slice Aa_0 na_0 ca_0),(1,iw zb_0),(5,pt b8 0)]) (fun b8 => [.blk b8 [.slice Ara_0y7 nra_0y7 cra_0y7,iw zra_1y7] 34]) [.g [.N],.g [.K 0 0,.K 0 1]] rfl (fun b8 => (en rfl ?_))
  refine sr (g4 2 (fun b9 => [(0,.slice Aa_0 na_0 ca_0),(1,iw zb_0),(5,pt b8 0),(6,sl b9 0 0 0)]) (fun b9 => [.blk b8 [.slice Ara_0y7 nra_0y7 cra_0y7,iw zra_1y7] 34,.blk b9 [] 105]) [.g [.N],gz] rfl (fun b9 => (en rfl ?_)))
  refine Ok.seq (sr (g0 1 [(0,.slice Aa_0 na_0 ca_0),(1,iw zb_0),(5,pt b8 0),(6,sl b9 0 0 0),(7,iw 0)] [gz] rfl (en rfl (Ok.blk (Ok.blkRow (b := b9) (t := 105) (cs := []) 1 (n := 0) (cap := 0) (sz := 8) rfl rfl rfl rfl [] rfl (Ok.restr [0,1,5,6,7] [(0,.slice Aa_0 na_0 ca_0),(1,iw zb_0),(5,pt b8 0),(6,sl b9 0 0 0),(7,iw 0)] rfl (Ok.loop (fun H' fr kb m => ∃ (zL11_7 : Int) (AL11r1 : Option Addr) (nL11r1 : Nat) (cL11r1 : Nat) (xL11r1 : List Value) (AL11h5_0 : Option Addr) (nL11h5_0 : Nat) (cL11h5_0 : Nat) (zL11h5_1 : Int),fr = [(0,.slice Aa_0 na_0 ca_0),(1,iw zb_0),(5,pt b8 0),(6,.slice AL11r1 nL11r1 cL11r1),(7,iw zL11_7)] ∧ kb = [.blk b8 [.slice AL11h5_0 nL11h5_0 cL11h5_0,iw zL11h5_1] 34,.row (.slice AL11r1 nL11r1 cL11r1) nL11r1 8 105 xL11r1] ∧ m = ((zb_0) - zL11_7).toNat ∧ SLe H4 H' ∧ 0 ≤ zL11_7 ∧ zL11_7 ≤ zb_0 ∧ ((nL11h5_0 : Nat) : Int) ≤ 2 * zL11_7 ∧ ((nL11r1 : Nat) : Int) ≤ zL11_7 ∧ Elems H' el105 nL11r1 xL11r1 ∧ WfS H' el41 AL11h5_0 nL11h5_0) _ ⟨0,((some ⟨b9,0,none⟩)),0,0,[],Ara_0y7,nra_0y7,cra_0y7,zra_1y7,rfl,rfl,rfl,SLe.refl _,by decide,by omega,by omega,by omega,(Elems.nil el105),hra_0y7⟩ ?_)))))))
  rintro H12 _ _ mL11 ⟨zL11_7,AL11r1,nL11r1,cL11r1,xL11r1,AL11h5_0,nL11h5_0,cL11h5_0,zL11h5_1,rfl,rfl,hmL11,le13,fL11_0,fL11_1,fL11_2,fL11_3,EL11r1,FL11h5_0⟩
  have lFL11h5_0 := FL11h5_0.1
  refine Ok.seq (sr (g0 5 [(0,.slice Aa_0 na_0 ca_0),(1,iw zb_0),(5,pt b8 0),(6,.slice AL11r1 nL11r1 cL11r1),(7,iw zL11_7),(17,.bool (decide (zL11_7 < ((na_0 : Nat) : Int))))] [gz,gz,gz,gz,gz] rfl (cs (decide (zL11_7 < ((na_0 : Nat) : Int))) [17] (fun h15 => ?_) (fun h15 => ?_))))
  · have h15 := of_decide_eq_true h15
    refine g0 9 [(0,.slice Aa_0 na_0 ca_0),(1,iw zb_0),(5,pt b8 0),(6,.slice AL11r1 nL11r1 cL11r1),(7,iw zL11_7),(21,.bool (decide (zL11_7 < zb_0)))] [gz,gz,gz,gz] rfl (en rfl (cd (decide (zL11_7 < zb_0)) (fun h17 => ?_) (fun h17 => ?_)))
    · have h17 := of_decide_eq_true h17
      refine skn (Ok.seq (Ok.blk (Ok.seq (st [0,1] [] 8 ?_))))
      have ie18 : 0 ≤ zL11_7 ∧ zL11_7 < ((na_0 : Nat) : Int) := by omega
      obtain ⟨je18,cse18,we18,he18⟩ := (WfS.mono (tr le5 le13) ha_0).at_ zL11_7 ie18.1 ie18.2
      obtain ⟨ue18_0,le18_0,rfl,ve18_0,we18_0⟩ := wfl_cons we18
      obtain ⟨ze18_0,rfl⟩ := wfv_int ve18_0
      obtain ⟨ue18_1,le18_1,rfl,ve18_1,we18_1⟩ := wfl_cons we18_0
      obtain ⟨ze18_1,rfl⟩ := wfv_int ve18_1
      obtain ⟨ue18_2,le18_2,rfl,ve18_2,we18_2⟩ := wfl_cons we18_1
      obtain ⟨ze18_2,rfl⟩ := wfv_int ve18_2
      obtain ⟨ue18_3,le18_3,rfl,ve18_3,we18_3⟩ := wfl_cons we18_2
      obtain ⟨se18_3,rfl,te18_3⟩ := wfv_str ve18_3
      obtain ⟨ue18_4,le18_4,rfl,ve18_4,we18_4⟩ := wfl_cons we18_3
      obtain ⟨se18_4,rfl,te18_4⟩ := wfv_str ve18_4
      obtain ⟨ue18_5,le18_5,rfl,ve18_5,we18_5⟩ := wfl_cons we18_4
      obtain ⟨ze18_5,rfl⟩ := wfv_int ve18_5
      obtain ⟨ue18_6,le18_6,rfl,ve18_6,we18_6⟩ := wfl_cons we18_5
      obtain ⟨ze18_6,rfl⟩ := wfv_int ve18_6
      obtain ⟨ue18_7,le18_7,rfl,ve18_7,we18_7⟩ := wfl_cons we18_6
      obtain ⟨se18_7,rfl,te18_7⟩ := wfv_str ve18_7
      obtain rfl := wfl_nil we18_7
      refine tx 3 [(0,.g [.K 0 0,.K 0 1]),(1,gz),(2,gz),(3,.ix),(4,.g [.X (iw ze18_0),.X (iw ze18_1),.X (iw ze18_2),.X (.string se18_3),.X (.string se18_4),.X (iw ze18_5),.X (iw ze18_6),.X (.string se18_7)])] [(0,.slice Aa_0 na_0 ca_0),(1,iw zb_0),(5,pt b8 0),(6,.slice AL11r1 nL11r1 cL11r1),(7,iw zL11_7),(24,.agg #[.slice AL11h5_0 nL11h5_0 cL11h5_0,iw zL11h5_1]),(28,.agg #[iw ze18_0,iw ze18_1,iw ze18_2,.string se18_3,.string se18_4,iw ze18_5,iw ze18_6,.string se18_7])] (ex1 (And.intro je18 ie18) (ex1 (cell0 (he18 0 _ rfl)) (ex1 (he18 (1) _ rfl) (ex1 (he18 (2) _ rfl) (ex1 (he18 (3) _ rfl) (ex1 (he18 (4) _ rfl) (ex1 (he18 (5) _ rfl) (ex1 (he18 (6) _ rfl) (ex1 (he18 (7) _ rfl) ex0))))))))) rfl ?_
      refine o2 5 6 2 rfl ?_ ?_
      · refine (ca (some 29) (c47 H12 AL11h5_0 (nL11h5_0) (cL11h5_0) zL11h5_1 ze18_0 ze18_1 ze18_2 se18_3 se18_4 ze18_5 ze18_6 se18_7 FL11h5_0 te18_3 te18_4 te18_7) ?_)
        rintro v19 H20 k22 le21 ⟨zra_0y23,zra_1y23,zra_2y23,sra_3y23,sra_4y23,zra_5y23,zra_6y23,sra_7y23,rfl,tra_3y23,tra_4y23,tra_7y23⟩
        refine ws [0,1] le21 ?_
        refine on 6 1 rfl (e4 (.g [.N]) (fun b24 => [(0,.slice Aa_0 na_0 ca_0),(1,iw zb_0),(5,pt b8 0),(6,.slice AL11r1 nL11r1 cL11r1),(7,iw zL11_7),(8,pt b24 0),(29,.agg #[iw zra_0y23,iw zra_1y23,iw zra_2y23,.string sra_3y23,.string sra_4y23,iw zra_5y23,iw zra_6y23,.string sra_7y23])]) (fun b24 => [.blk b8 [.slice AL11h5_0 nL11h5_0 cL11h5_0,iw zL11h5_1] 34,.row (.slice AL11r1 nL11r1 cL11r1) nL11r1 8 105 xL11r1,.blk b24 [iw 0,iw 0,iw 0,s0,s0,iw 0,iw 0,s0] 105]) (fun b24 => ?_))
        refine ws [0,1] le21 ?_
        refine on 7 0 rfl (e1 (.g [.K 2 0,.K 2 1,.K 2 2,.K 2 3,.K 2 4,.K 2 5,.K 2 6,.K 2 7]) [(0,.slice Aa_0 na_0 ca_0),(1,iw zb_0),(5,pt b8 0),(6,.slice AL11r1 nL11r1 cL11r1),(7,iw zL11_7),(8,pt b24 0)] [.blk b8 [.slice AL11h5_0 nL11h5_0 cL11h5_0,iw zL11h5_1] 34,.row (.slice AL11r1 nL11r1 cL11r1) nL11r1 8 105 xL11r1,.blk b24 [iw zra_0y23,iw zra_1y23,iw zra_2y23,.string sra_3y23,.string sra_4y23,iw zra_5y23,iw zra_6y23,.string sra_7y23] 105] ?_)
        refine ws [0,1] le21 ?_
        refine dn (sr (g0 2 [(0,.slice Aa_0 na_0 ca_0),(1,iw zb_0),(5,pt b8 0),(6,.slice AL11r1 nL11r1 cL11r1),(7,iw zL11_7),(8,pt b24 0),(31,.agg #[.slice AL11h5_0 nL11h5_0 cL11h5_0,iw zL11h5_1]),(32,.agg #[iw zra_0y23,iw zra_1y23,iw zra_2y23,.string sra_3y23,.string sra_4y23,iw zra_5y23,iw zra_6y23,.string sra_7y23])] [.g [.K 0 0,.K 0 1],.g [.K 2 0,.K 2 1,.K 2 2,.K 2 3,.K 2 4,.K 2 5,.K 2 6,.K 2 7]] rfl (ef 3 rfl (ca (some 33) (c46 H20 AL11h5_0 (nL11h5_0) (cL11h5_0) zL11h5_1 zra_0y23 zra_1y23 zra_2y23 sra_3y23 sra_4y23 zra_5y23 zra_6y23 sra_7y23 (WfS.mono le21 FL11h5_0) tra_3y23 tra_4y23 tra_7y23 (by omega)) ?_))))
        rintro v27 H28 k30 le29 ⟨Ara_0y31,nra_0y31,cra_0y31,zra_1y31,zrb_0y31,rfl,hra_0y31,py31_0⟩
        have lhra_0y31 := hra_0y31.1
        refine g4 9 (fun b32 => [(0,.slice Aa_0 na_0 ca_0),(1,iw zb_0),(5,pt b8 0),(6,.slice AL11r1 nL11r1 cL11r1),(7,iw zL11_7),(8,pt b24 0),(9,pt b32 0),(10,iw zrb_0y31)]) (fun b32 => [.blk b8 [.slice AL11h5_0 nL11h5_0 cL11h5_0,iw zL11h5_1] 34,.row (.slice AL11r1 nL11r1 cL11r1) nL11r1 8 105 xL11r1,.blk b24 [iw zra_0y23,iw zra_1y23,iw zra_2y23,.string sra_3y23,.string sra_4y23,iw zra_5y23,iw zra_6y23,.string sra_7y23] 105,.blk b32 [.slice Ara_0y31 nra_0y31 cra_0y31,iw zra_1y31] 34]) [gz,gz,gz,.g [.N],.g [.K 3 0,.K 3 1],gz] rfl (fun b32 => (en rfl ?_))
        refine sr (g0 2 [(0,.slice Aa_0 na_0 ca_0),(1,iw zb_0),(5,pt b8 0),(6,.slice AL11r1 nL11r1 cL11r1),(7,iw zL11_7),(8,pt b24 0),(9,pt b32 0),(37,.bool (zrb_0y31 == 0))] [gz,gz] rfl (en rfl (cd (zrb_0y31 == 0) (fun h34 => ?_) (fun h34 => ?_))))
        · have h34 := eq_of_beq h34
          refine sr (g1 2 [(0,.slice Aa_0 na_0 ca_0),(1,iw zb_0),(5,pt b8 0),(6,.slice AL11r1 nL11r1 cL11r1),(7,iw zL11_7),(8,pt b24 0)] [.blk b8 [.slice Ara_0y31 nra_0y31 cra_0y31,iw zra_1y31] 34,.row (.slice AL11r1 nL11r1 cL11r1) nL11r1 8 105 xL11r1,.blk b24 [iw zra_0y23,iw zra_1y23,iw zra_2y23,.string sra_3y23,.string sra_4y23,iw zra_5y23,iw zra_6y23,.string sra_7y23] 105,.blk b32 [.slice Ara_0y31 nra_0y31 cra_0y31,iw zra_1y31] 34] [.g [.K 3 0,.K 3 1],.g [.K 0 0,.K 0 1]] rfl (en rfl (Ok.reg (g4 3 (fun b36 => [(0,.slice Aa_0 na_0 ca_0),(1,iw zb_0),(5,pt b8 0),(7,iw zL11_7),(39,.slice AL11r1 nL11r1 cL11r1),(41,sl b36 0 1 1)]) (fun b36 => [.blk b8 [.slice Ara_0y31 nra_0y31 cra_0y31,iw zra_1y31] 34,.row (.slice AL11r1 nL11r1 cL11r1) nL11r1 8 105 xL11r1,.blk b24 [iw zra_0y23,iw zra_1y23,iw zra_2y23,.string sra_3y23,.string sra_4y23,iw zra_5y23,iw zra_6y23,.string sra_7y23] 105,.blk b32 [.slice Ara_0y31 nra_0y31 cra_0y31,iw zra_1y31] 34,.blk b36 [iw zra_0y23,iw zra_1y23,iw zra_2y23,.string sra_3y23,.string sra_4y23,iw zra_5y23,iw zra_6y23,.string sra_7y23] 105]) [gz,.g [.K 2 0,.K 2 1,.K 2 2,.K 2 3,.K 2 4,.K 2 5,.K 2 6,.K 2 7],.g [.N]] rfl (fun b36 => (ef 4 rfl (Eff.appendN (t := 22) (d := some 42) (ad := ⟨b36,0,none⟩) (m := 1) (c := 1) 1 rfl (by kernel_rfl) 100000000 (by kernel_rfl) (by omega) rfl [iw zra_0y23,iw zra_1y23,iw zra_2y23,.string sra_3y23,.string sra_4y23,iw zra_5y23,iw zra_6y23,.string sra_7y23] (reads_blk (cs := [iw zra_0y23,iw zra_1y23,iw zra_2y23,.string sra_3y23,.string sra_4y23,iw zra_5y23,iw zra_6y23,.string sra_7y23]) 4 rfl 0 8) rfl rfl (by omega) (fun g37 cap38 => ?_))))))))
          have E40 : Elems H28 el105 (nL11r1 + 1) (xL11r1 ++ [iw zra_0y23,iw zra_1y23,iw zra_2y23,.string sra_3y23,.string sra_4y23,iw zra_5y23,iw zra_6y23,.string sra_7y23]) := (Elems.snoc (Elems.mono (tr le21 le29) EL11r1) (mkl_cons (mkv_int _ _) (mkl_cons (mkv_int _ _) (mkl_cons (mkv_int _ _) (mkl_cons (mkv_str _ tra_3y23) (mkl_cons (mkv_str _ tra_4y23) (mkl_cons (mkv_int _ _) (mkl_cons (mkv_int _ _) (mkl_cons (mkv_str _ tra_7y23) mkl_nil)))))))))
          generalize (xL11r1 ++ [iw zra_0y23,iw zra_1y23,iw zra_2y23,.string sra_3y23,.string sra_4y23,iw zra_5y23,iw zra_6y23,.string sra_7y23]) = x39 at E40 ⊢
          refine g0 5 [(0,.slice Aa_0 na_0 ca_0),(1,iw zb_0),(5,pt b8 0),(6,.slice ((some ⟨g37,0,none⟩)) ((nL11r1 + 1)) cap38),(7,iw zL11_7)] [gz] rfl (Ok.segEnd rfl (Ok.blkN ?_))
          refine Ok.thenN (Ok.reg ?_)
          have k44 := wid (x := zL11_7 + 1) (by omega)
          refine g0 3 [(0,.slice Aa_0 na_0 ca_0),(1,iw zb_0),(5,pt b8 0),(6,.slice ((some ⟨g37,0,none⟩)) ((nL11r1 + 1)) cap38),(7,iw (w64 (zL11_7 + 1)))] [gz,gz,gz] rfl (en rfl (Ok.restr [0,1,5,6,7] [(0,.slice Aa_0 na_0 ca_0),(1,iw zb_0),(5,pt b8 0),(6,.slice ((some ⟨g37,0,none⟩)) ((nL11r1 + 1)) cap38),(7,iw (w64 (zL11_7 + 1)))] rfl (Ok.mask [true,true,false,false,false] [.blk b8 [.slice Ara_0y31 nra_0y31 cra_0y31,iw zra_1y31] 34,.row (.slice ((some ⟨g37,0,none⟩)) ((nL11r1 + 1)) cap38) ((nL11r1 + 1)) 8 105 x39] rfl ?_)))
          exact Ok.again _ ⟨(w64 (zL11_7 + 1)),((some ⟨g37,0,none⟩)),(nL11r1 + 1),cap38,x39,Ara_0y31,nra_0y31,cra_0y31,zra_1y31,rfl,rfl,rfl,(tr le13 (tr le21 le29)),by omega,by omega,by omega,by omega,E40,hra_0y31⟩ (by omega)
        have h34 := ne_of_beq_false h34
        refine Ok.skip_ (Ok.blkN (Ok.thenN (Ok.reg ?_)))
        have k46 := wid (x := zL11_7 + 1) (by omega)
        refine g0 3 [(0,.slice Aa_0 na_0 ca_0),(1,iw zb_0),(5,pt b8 0),(6,.slice AL11r1 nL11r1 cL11r1),(7,iw (w64 (zL11_7 + 1)))] [gz,gz,gz] rfl (en rfl (Ok.restr [0,1,5,6,7] [(0,.slice Aa_0 na_0 ca_0),(1,iw zb_0),(5,pt b8 0),(6,.slice AL11r1 nL11r1 cL11r1),(7,iw (w64 (zL11_7 + 1)))] rfl (Ok.mask [true,true,false,false] [.blk b8 [.slice AL11h5_0 nL11h5_0 cL11h5_0,iw zL11h5_1] 34,.row (.slice AL11r1 nL11r1 cL11r1) nL11r1 8 105 xL11r1] rfl ?_)))
        exact Ok.again _ ⟨(w64 (zL11_7 + 1)),AL11r1,nL11r1,cL11r1,xL11r1,AL11h5_0,nL11h5_0,cL11h5_0,zL11h5_1,rfl,rfl,rfl,(tr le13 (tr le21 le29)),by omega,by omega,by omega,by omega,(Elems.mono (tr le21 le29) EL11r1),(WfS.mono (tr le21 le29) FL11h5_0)⟩ (by omega)
      refine (e4 (.g [.N]) (fun b47 => [(0,.slice Aa_0 na_0 ca_0),(1,iw zb_0),(5,pt b8 0),(6,.slice AL11r1 nL11r1 cL11r1),(7,iw zL11_7),(8,pt b47 0),(24,.agg #[.slice AL11h5_0 nL11h5_0 cL11h5_0,iw zL11h5_1]),(28,.agg #[iw ze18_0,iw ze18_1,iw ze18_2,.string se18_3,.string se18_4,iw ze18_5,iw ze18_6,.string se18_7])]) (fun b47 => [.blk b8 [.slice AL11h5_0 nL11h5_0 cL11h5_0,iw zL11h5_1] 34,.row (.slice AL11r1 nL11r1 cL11r1) nL11r1 8 105 xL11r1,.blk b47 [iw 0,iw 0,iw 0,s0,s0,iw 0,iw 0,s0] 105]) (fun b47 => ?_))
      refine ws [0,1] (SLe.refl _) ?_
      refine on 5 1 rfl (ca (some 29) (c47 H12 AL11h5_0 (nL11h5_0) (cL11h5_0) zL11h5_1 ze18_0 ze18_1 ze18_2 se18_3 se18_4 ze18_5 ze18_6 se18_7 FL11h5_0 te18_3 te18_4 te18_7) ?_)
      rintro v48 H49 k51 le50 ⟨zra_0y52,zra_1y52,zra_2y52,sra_3y52,sra_4y52,zra_5y52,zra_6y52,sra_7y52,rfl,tra_3y52,tra_4y52,tra_7y52⟩
      refine ws [0,1] le50 ?_
      refine on 7 0 rfl (e1 (.g [.K 2 0,.K 2 1,.K 2 2,.K 2 3,.K 2 4,.K 2 5,.K 2 6,.K 2 7]) [(0,.slice Aa_0 na_0 ca_0),(1,iw zb_0),(5,pt b8 0),(6,.slice AL11r1 nL11r1 cL11r1),(7,iw zL11_7),(8,pt b47 0)] [.blk b8 [.slice AL11h5_0 nL11h5_0 cL11h5_0,iw zL11h5_1] 34,.row (.slice AL11r1 nL11r1 cL11r1) nL11r1 8 105 xL11r1,.blk b47 [iw zra_0y52,iw zra_1y52,iw zra_2y52,.string sra_3y52,.string sra_4y52,iw zra_5y52,iw zra_6y52,.string sra_7y52] 105] ?_)
      refine ws [0,1] le50 ?_
      refine dn (sr (g0 2 [(0,.slice Aa_0 na_0 ca_0),(1,iw zb_0),(5,pt b8 0),(6,.slice AL11r1 nL11r1 cL11r1),(7,iw zL11_7),(8,pt b47 0),(31,.agg #[.slice AL11h5_0 nL11h5_0 cL11h5_0,iw zL11h5_1]),(32,.agg #[iw zra_0y52,iw zra_1y52,iw zra_2y52,.string sra_3y52,.string sra_4y52,iw zra_5y52,iw zra_6y52,.string sra_7y52])] [.g [.K 0 0,.K 0 1],.g [.K 2 0,.K 2 1,.K 2 2,.K 2 3,.K 2 4,.K 2 5,.K 2 6,.K 2 7]] rfl (ef 3 rfl (ca (some 33) (c46 H49 AL11h5_0 (nL11h5_0) (cL11h5_0) zL11h5_1 zra_0y52 zra_1y52 zra_2y52 sra_3y52 sra_4y52 zra_5y52 zra_6y52 sra_7y52 (WfS.mono le50 FL11h5_0) tra_3y52 tra_4y52 tra_7y52 (by omega)) ?_))))
      rintro v55 H56 k58 le57 ⟨Ara_0y59,nra_0y59,cra_0y59,zra_1y59,zrb_0y59,rfl,hra_0y59,py59_0⟩
      have lhra_0y59 := hra_0y59.1
      refine g4 9 (fun b60 => [(0,.slice Aa_0 na_0 ca_0),(1,iw zb_0),(5,pt b8 0),(6,.slice AL11r1 nL11r1 cL11r1),(7,iw zL11_7),(8,pt b47 0),(9,pt b60 0),(10,iw zrb_0y59)]) (fun b60 => [.blk b8 [.slice AL11h5_0 nL11h5_0 cL11h5_0,iw zL11h5_1] 34,.row (.slice AL11r1 nL11r1 cL11r1) nL11r1 8 105 xL11r1,.blk b47 [iw zra_0y52,iw zra_1y52,iw zra_2y52,.string sra_3y52,.string sra_4y52,iw zra_5y52,iw zra_6y52,.string sra_7y52] 105,.blk b60 [.slice Ara_0y59 nra_0y59 cra_0y59,iw zra_1y59] 34]) [gz,gz,gz,.g [.N],.g [.K 3 0,.K 3 1],gz] rfl (fun b60 => (en rfl ?_))
      refine sr (g0 2 [(0,.slice Aa_0 na_0 ca_0),(1,iw zb_0),(5,pt b8 0),(6,.slice AL11r1 nL11r1 cL11r1),(7,iw zL11_7),(8,pt b47 0),(9,pt b60 0),(37,.bool (zrb_0y59 == 0))] [gz,gz] rfl (en rfl (cd (zrb_0y59 == 0) (fun h62 => ?_) (fun h62 => ?_))))
      · have h62 := eq_of_beq h62
        refine sr (g1 2 [(0,.slice Aa_0 na_0 ca_0),(1,iw zb_0),(5,pt b8 0),(6,.slice AL11r1 nL11r1 cL11r1),(7,iw zL11_7),(8,pt b47 0)] [.blk b8 [.slice Ara_0y59 nra_0y59 cra_0y59,iw zra_1y59] 34,.row (.slice AL11r1 nL11r1 cL11r1) nL11r1 8 105 xL11r1,.blk b47 [iw zra_0y52,iw zra_1y52,iw zra_2y52,.string sra_3y52,.string sra_4y52,iw zra_5y52,iw zra_6y52,.string sra_7y52] 105,.blk b60 [.slice Ara_0y59 nra_0y59 cra_0y59,iw zra_1y59] 34] [.g [.K 3 0,.K 3 1],.g [.K 0 0,.K 0 1]] rfl (en rfl (Ok.reg (g4 3 (fun b64 => [(0,.slice Aa_0 na_0 ca_0),(1,iw zb_0),(5,pt b8 0),(7,iw zL11_7),(39,.slice AL11r1 nL11r1 cL11r1),(41,sl b64 0 1 1)]) (fun b64 => [.blk b8 [.slice Ara_0y59 nra_0y59 cra_0y59,iw zra_1y59] 34,.row (.slice AL11r1 nL11r1 cL11r1) nL11r1 8 105 xL11r1,.blk b47 [iw zra_0y52,iw zra_1y52,iw zra_2y52,.string sra_3y52,.string sra_4y52,iw zra_5y52,iw zra_6y52,.string sra_7y52] 105,.blk b60 [.slice Ara_0y59 nra_0y59 cra_0y59,iw zra_1y59] 34,.blk b64 [iw zra_0y52,iw zra_1y52,iw zra_2y52,.string sra_3y52,.string sra_4y52,iw zra_5y52,iw zra_6y52,.string sra_7y52] 105]) [gz,.g [.K 2 0,.K 2 1,.K 2 2,.K 2 3,.K 2 4,.K 2 5,.K 2 6,.K 2 7],.g [.N]] rfl (fun b64 => (ef 4 rfl (Eff.appendN (t := 22) (d := some 42) (ad := ⟨b64,0,none⟩) (m := 1) (c := 1) 1 rfl (by kernel_rfl) 100000000 (by kernel_rfl) (by omega) rfl [iw zra_0y52,iw zra_1y52,iw zra_2y52,.string sra_3y52,.string sra_4y52,iw zra_5y52,iw zra_6y52,.string sra_7y52] (reads_blk (cs := [iw zra_0y52,iw zra_1y52,iw zra_2y52,.string sra_3y52,.string sra_4y52,iw zra_5y52,iw zra_6y52,.string sra_7y52]) 4 rfl 0 8) rfl rfl (by omega) (fun g65 cap66 => ?_))))))))
        have E68 : Elems H56 el105 (nL11r1 + 1) (xL11r1 ++ [iw zra_0y52,iw zra_1y52,iw zra_2y52,.string sra_3y52,.string sra_4y52,iw zra_5y52,iw zra_6y52,.string sra_7y52]) := (Elems.snoc (Elems.mono (tr le50 le57) EL11r1) (mkl_cons (mkv_int _ _) (mkl_cons (mkv_int _ _) (mkl_cons (mkv_int _ _) (mkl_cons (mkv_str _ tra_3y52) (mkl_cons (mkv_str _ tra_4y52) (mkl_cons (mkv_int _ _) (mkl_cons (mkv_int _ _) (mkl_cons (mkv_str _ tra_7y52) mkl_nil)))))))))
        generalize (xL11r1 ++ [iw zra_0y52,iw zra_1y52,iw zra_2y52,.string sra_3y52,.string sra_4y52,iw zra_5y52,iw zra_6y52,.string sra_7y52]) = x67 at E68 ⊢
        refine g0 5 [(0,.slice Aa_0 na_0 ca_0),(1,iw zb_0),(5,pt b8 0),(6,.slice ((some ⟨g65,0,none⟩)) ((nL11r1 + 1)) cap66),(7,iw zL11_7)] [gz] rfl (Ok.segEnd rfl (Ok.blkN ?_))
        refine Ok.thenN (Ok.reg ?_)
        have k72 := wid (x := zL11_7 + 1) (by omega)
        refine g0 3 [(0,.slice Aa_0 na_0 ca_0),(1,iw zb_0),(5,pt b8 0),(6,.slice ((some ⟨g65,0,none⟩)) ((nL11r1 + 1)) cap66),(7,iw (w64 (zL11_7 + 1)))] [gz,gz,gz] rfl (en rfl (Ok.restr [0,1,5,6,7] [(0,.slice Aa_0 na_0 ca_0),(1,iw zb_0),(5,pt b8 0),(6,.slice ((some ⟨g65,0,none⟩)) ((nL11r1 + 1)) cap66),(7,iw (w64 (zL11_7 + 1)))] rfl (Ok.mask [true,true,false,false,false] [.blk b8 [.slice Ara_0y59 nra_0y59 cra_0y59,iw zra_1y59] 34,.row (.slice ((some ⟨g65,0,none⟩)) ((nL11r1 + 1)) cap66) ((nL11r1 + 1)) 8 105 x67] rfl ?_)))
        exact Ok.again _ ⟨(w64 (zL11_7 + 1)),((some ⟨g65,0,none⟩)),(nL11r1 + 1),cap66,x67,Ara_0y59,nra_0y59,cra_0y59,zra_1y59,rfl,rfl,rfl,(tr le13 (tr le50 le57)),by omega,by omega,by omega,by omega,E68,hra_0y59⟩ (by omega)
      have h62 := ne_of_beq_false h62
      refine Ok.skip_ (Ok.blkN (Ok.thenN (Ok.reg ?_)))
      have k74 := wid (x := zL11_7 + 1) (by omega)
      refine g0 3 [(0,.slice Aa_0 na_0 ca_0),(1,iw zb_0),(5,pt b8 0),(6,.slice AL11r1 nL11r1 cL11r1),(7,iw (w64 (zL11_7 + 1)))] [gz,gz,gz] rfl (en rfl (Ok.restr [0,1,5,6,7] [(0,.slice Aa_0 na_0 ca_0),(1,iw zb_0),(5,pt b8 0),(6,.slice AL11r1 nL11r1 cL11r1),(7,iw (w64 (zL11_7 + 1)))] rfl (Ok.mask [true,true,false,false] [.blk b8 [.slice AL11h5_0 nL11h5_0 cL11h5_0,iw zL11h5_1] 34,.row (.slice AL11r1 nL11r1 cL11r1) nL11r1 8 105 xL11r1] rfl ?_)))
      exact Ok.again _ ⟨(w64 (zL11_7 + 1)),AL11r1,nL11r1,cL11r1,xL11r1,AL11h5_0,nL11h5_0,cL11h5_0,zL11h5_1,rfl,rfl,rfl,(tr le13 (tr le50 le57)),by omega,by omega,by omega,by omega,(Elems.mono (tr le50 le57) EL11r1),(WfS.mono (tr le50 le57) FL11h5_0)⟩ (by omega)
    have h17 := of_decide_eq_false h17
    refine Ok.exit_ (Ok.thenE (Ok.thenE (Ok.blkE (Ok.thenN (sr (g0 2 [(4,.slice AL11r1 nL11r1 cL11r1)] [gz,gz] rfl (en rfl (Ok.ret_ (Ok.pubS 1 rfl EL11r1 (by omega) [.blk b8 [.slice AL11h5_0 nL11h5_0 cL11h5_0,iw zL11h5_1] 34] rfl ?_)))))))))
    intro H76 le77 f78
    refine Ok.dropAll ?_
    exact Ok.ret1 (v := .slice AL11r1 nL11r1 cL11r1) (tr le5 (tr le13 le77)) rfl rfl ⟨AL11r1,nL11r1,cL11r1,rfl,f78,(by omega)⟩
  have h15 := of_decide_eq_false h15
  refine g0 9 [(0,.slice Aa_0 na_0 ca_0),(1,iw zb_0),(5,pt b8 0),(6,.slice AL11r1 nL11r1 cL11r1),(7,iw zL11_7),(21,bF)] [gz,gz,gz,gz] rfl (en rfl (cF (Ok.exit_ (Ok.thenE (Ok.thenE (Ok.blkE (Ok.thenN (sr (g0 2 [(4,.slice AL11r1 nL11r1 cL11r1)] [gz,gz] rfl (en rfl (Ok.ret_ (Ok.pubS 1 rfl EL11r1 (by omega) [.blk b8 [.slice AL11h5_0 nL11h5_0 cL11h5_0,iw zL11h5_1] 34] rfl ?_))))))))))))
  intro H81 le82 f83
  refine Ok.dropAll ?_
  exact Ok.ret1 (v := .slice AL11r1 nL11r1 cL11r1) (tr le5 (tr le13 le82)) rfl rfl ⟨AL11r1,nL11r1,cL11r1,rfl,f83,(by omega)⟩
theorem c21 (H : Snap) (Aa_0 : Option Addr) (na_0 : Nat) (ca_0 : Nat) (ha_0 : WfS H el105 Aa_0 na_0) (hq0 : na_0 ≤ 100) : Does Tryz.prog 21 [.slice Aa_0 na_0 ca_0] H [] (fun v H' kp => ∃ (Ara_0 : Option Addr) (nra_0 : Nat) (cra_0 : Nat) (zra_1 : Int) (zrb_0 : Int) (zrc_0 : Int),v = .tuple #[.agg #[.slice Ara_0 nra_0 cra_0,iw zra_1],iw zrb_0,iw zrc_0] ∧ WfS H' el41 Ara_0 nra_0 ∧ nra_0 ≤ 200) := by
  have lha_0 := ha_0.1
  refine Does.of Tryz.func21 rfl rfl rfl rfl (fun w0 H0 kx => ?_)
  refine sr (g4 3 (fun b1 => [(0,.slice Aa_0 na_0 ca_0),(2,pt b1 0)]) (fun b1 => [.blk b1 [n0,iw 0] 34]) [.g [.N],gz,gz] rfl (fun b1 => (en rfl ?_)))
  refine sr (ef 1 rfl (ca (some 9) (c45 H ) ?_))
  rintro v3 H4 k6 le5 ⟨Ara_0y7,nra_0y7,cra_0y7,zra_1y7,rfl,hra_0y7,py7_0⟩
  have lhra_0y7 := hra_0y7.1
  refine g4 3 (fun b8 => [(0,.slice Aa_0 na_0 ca_0),(2,pt b1 0),(5,pt b8 0)]) (fun b8 => [.blk b1 [n0,iw 0] 34,.blk b8 [.slice Ara_0y7 nra_0y7 cra_0y7,iw zra_1y7] 34]) [.g [.N],.g [.K 1 0,.K 1 1]] rfl (fun b8 => (en rfl ?_))
  refine Ok.seq (sr (g0 1 [(0,.slice Aa_0 na_0 ca_0),(2,pt b1 0),(5,pt b8 0),(6,iw 0)] [gz] rfl (en rfl (Ok.blk (Ok.restr [0,2,5,6] [(0,.slice Aa_0 na_0 ca_0),(2,pt b1 0),(5,pt b8 0),(6,iw 0)] rfl (Ok.loop (fun H' fr kb m => ∃ (zL10_6 : Int) (AL10h5_0 : Option Addr) (nL10h5_0 : Nat) (cL10h5_0 : Nat) (zL10h5_1 : Int),fr = [(0,.slice Aa_0 na_0 ca_0),(2,pt b1 0),(5,pt b8 0),(6,iw zL10_6)] ∧ kb = [.blk b1 [n0,iw 0] 34,.blk b8 [.slice AL10h5_0 nL10h5_0 cL10h5_0,iw zL10h5_1] 34] ∧ m = ((((na_0 : Nat) : Int)) - zL10_6).toNat ∧ SLe H4 H' ∧ 0 ≤ zL10_6 ∧ zL10_6 ≤ ((na_0 : Nat) : Int) ∧ ((nL10h5_0 : Nat) : Int) ≤ 2 * zL10_6 ∧ WfS H' el41 AL10h5_0 nL10h5_0) _ ⟨0,Ara_0y7,nra_0y7,cra_0y7,zra_1y7,rfl,rfl,rfl,SLe.refl _,by decide,by omega,by omega,hra_0y7⟩ ?_))))))
  rintro H11 _ _ mL10 ⟨zL10_6,AL10h5_0,nL10h5_0,cL10h5_0,zL10h5_1,rfl,rfl,hmL10,le12,fL10_0,fL10_1,fL10_2,FL10h5_0⟩
  have lFL10h5_0 := FL10h5_0.1
  refine Ok.seq (sr (g0 4 [(0,.slice Aa_0 na_0 ca_0),(2,pt b1 0),(5,pt b8 0),(6,iw zL10_6),(13,.bool (decide (zL10_6 < ((na_0 : Nat) : Int))))] [gz,gz,gz,gz] rfl (en rfl (cd (decide (zL10_6 < ((na_0 : Nat) : Int))) (fun h14 => ?_) (fun h14 => ?_)))))
  · have h14 := of_decide_eq_true h14
    refine skn (Ok.seq (Ok.blk (Ok.seq (st [0,1] [] 12 ?_))))
    have ie15 : 0 ≤ zL10_6 ∧ zL10_6 < ((na_0 : Nat) : Int) := by omega
    obtain ⟨je15,cse15,we15,he15⟩ := (WfS.mono (tr le5 le12) ha_0).at_ zL10_6 ie15.1 ie15.2
    obtain ⟨ue15_0,le15_0,rfl,ve15_0,we15_0⟩ := wfl_cons we15
    obtain ⟨ze15_0,rfl⟩ := wfv_int ve15_0
    obtain ⟨ue15_1,le15_1,rfl,ve15_1,we15_1⟩ := wfl_cons we15_0
    obtain ⟨ze15_1,rfl⟩ := wfv_int ve15_1
    obtain ⟨ue15_2,le15_2,rfl,ve15_2,we15_2⟩ := wfl_cons we15_1
    obtain ⟨ze15_2,rfl⟩ := wfv_int ve15_2
    obtain ⟨ue15_3,le15_3,rfl,ve15_3,we15_3⟩ := wfl_cons we15_2
    obtain ⟨se15_3,rfl,te15_3⟩ := wfv_str ve15_3
    obtain ⟨ue15_4,le15_4,rfl,ve15_4,we15_4⟩ := wfl_cons we15_3
    obtain ⟨se15_4,rfl,te15_4⟩ := wfv_str ve15_4
    obtain ⟨ue15_5,le15_5,rfl,ve15_5,we15_5⟩ := wfl_cons we15_4
    obtain ⟨ze15_5,rfl⟩ := wfv_int ve15_5
    obtain ⟨ue15_6,le15_6,rfl,ve15_6,we15_6⟩ := wfl_cons we15_5
    obtain ⟨ze15_6,rfl⟩ := wfv_int ve15_6
    obtain ⟨ue15_7,le15_7,rfl,ve15_7,we15_7⟩ := wfl_cons we15_6
    obtain ⟨se15_7,rfl,te15_7⟩ := wfv_str ve15_7
    obtain rfl := wfl_nil we15_7
    refine tx 7 [(0,.g [.K 1 0,.K 1 1]),(1,gz),(2,gz),(3,.ix),(4,.g [.X (iw ze15_0),.X (iw ze15_1),.X (iw ze15_2),.X (.string se15_3),.X (.string se15_4),.X (iw ze15_5),.X (iw ze15_6),.X (.string se15_7)])] [(0,.slice Aa_0 na_0 ca_0),(2,pt b1 0),(5,pt b8 0),(6,iw zL10_6),(17,.agg #[.slice AL10h5_0 nL10h5_0 cL10h5_0,iw zL10h5_1]),(21,.agg #[iw ze15_0,iw ze15_1,iw ze15_2,.string se15_3,.string se15_4,iw ze15_5,iw ze15_6,.string se15_7])] (ex1 (And.intro je15 ie15) (ex1 (cell0 (he15 0 _ rfl)) (ex1 (he15 (1) _ rfl) (ex1 (he15 (2) _ rfl) (ex1 (he15 (3) _ rfl) (ex1 (he15 (4) _ rfl) (ex1 (he15 (5) _ rfl) (ex1 (he15 (6) _ rfl) (ex1 (he15 (7) _ rfl) ex0))))))))) rfl ?_
    refine o2 5 9 6 rfl ?_ ?_
    · refine (ca (some 22) (c46 H11 AL10h5_0 (nL10h5_0) (cL10h5_0) zL10h5_1 ze15_0 ze15_1 ze15_2 se15_3 se15_4 ze15_5 ze15_6 se15_7 FL10h5_0 te15_3 te15_4 te15_7 (by omega)) ?_)
      rintro v16 H17 k19 le18 ⟨Ara_0y20,nra_0y20,cra_0y20,zra_1y20,zrb_0y20,rfl,hra_0y20,py20_0⟩
      have lhra_0y20 := hra_0y20.1
      refine ws [0,1] le18 ?_
      refine tk 3 [(6,gz),(7,gz),(8,gz)] [(0,.slice Aa_0 na_0 ca_0),(2,pt b1 0),(5,pt b8 0),(6,iw zL10_6),(23,.agg #[.slice Ara_0y20 nra_0y20 cra_0y20,iw zra_1y20]),(24,iw zrb_0y20)] rfl ?_
      refine on 9 2 rfl (e4 (.g [.N]) (fun b21 => [(0,.slice Aa_0 na_0 ca_0),(2,pt b1 0),(5,pt b8 0),(6,iw zL10_6),(7,pt b21 0),(23,.agg #[.slice Ara_0y20 nra_0y20 cra_0y20,iw zra_1y20]),(24,iw zrb_0y20)]) (fun b21 => [.blk b1 [n0,iw 0] 34,.blk b8 [.slice AL10h5_0 nL10h5_0 cL10h5_0,iw zL10h5_1] 34,.blk b21 [n0,iw 0] 34]) (fun b21 => ?_))
      refine ws [0,1] le18 ?_
      refine on 10 1 rfl (e1 (.g [.K 2 0,.K 2 1]) [(0,.slice Aa_0 na_0 ca_0),(2,pt b1 0),(5,pt b8 0),(6,iw zL10_6),(7,pt b21 0),(24,iw zrb_0y20)] [.blk b1 [n0,iw 0] 34,.blk b8 [.slice AL10h5_0 nL10h5_0 cL10h5_0,iw zL10h5_1] 34,.blk b21 [.slice Ara_0y20 nra_0y20 cra_0y20,iw zra_1y20] 34] ?_)
      refine ws [0,1] le18 ?_
      refine on 11 0 rfl (e0 (gz) [(0,.slice Aa_0 na_0 ca_0),(2,pt b1 0),(5,pt b8 0),(6,iw zL10_6),(7,pt b21 0),(8,iw zrb_0y20)] ?_)
      refine ws [0,1] le18 ?_
      refine dn (Ok.seq (sr (g0 2 [(0,.slice Aa_0 na_0 ca_0),(2,pt b1 0),(5,pt b8 0),(6,iw zL10_6),(7,pt b21 0),(8,iw zrb_0y20),(26,.bool (zrb_0y20 != 0))] [gz,gz] rfl (en rfl (cd (zrb_0y20 != 0) (fun h25 => ?_) (fun h25 => ?_))))))
      · refine sr (g1 6 [(2,pt b1 0),(3,iw zL10_6),(4,iw zrb_0y20)] [.blk b1 [.slice AL10h5_0 nL10h5_0 cL10h5_0,iw zL10h5_1] 34,.blk b8 [.slice AL10h5_0 nL10h5_0 cL10h5_0,iw zL10h5_1] 34,.blk b21 [.slice Ara_0y20 nra_0y20 cra_0y20,iw zra_1y20] 34] [.g [.K 1 0,.K 1 1],gz,gz,.g [.K 0 0,.K 0 1],gz,gz] rfl (en rfl (Ok.ret_ (Ok.thenR (Ok.blkR (Ok.thenR (Ok.thenR (Ok.blkR (Ok.thenR ?_)))))))))
        exact Ok.ret3c (tr le5 (tr le12 le18)) [.K 0 0,.K 0 1] (.agg #[.slice AL10h5_0 nL10h5_0 cL10h5_0,iw zL10h5_1]) (iw zL10_6) (iw zrb_0y20) [b1,b1] rfl (by kernel_rfl) rfl rfl ⟨AL10h5_0,nL10h5_0,cL10h5_0,zL10h5_1,zL10_6,zrb_0y20,rfl,(WfS.mono le18 FL10h5_0),(by omega)⟩
      refine skn (Ok.reg (g1 2 [(0,.slice Aa_0 na_0 ca_0),(2,pt b1 0),(5,pt b8 0),(6,iw zL10_6)] [.blk b1 [n0,iw 0] 34,.blk b8 [.slice Ara_0y20 nra_0y20 cra_0y20,iw zra_1y20] 34,.blk b21 [.slice Ara_0y20 nra_0y20 cra_0y20,iw zra_1y20] 34] [.g [.K 2 0,.K 2 1],.g [.K 1 0,.K 1 1]] rfl (Ok.segEnd rfl (Ok.blkN ?_))))
      refine Ok.thenN (Ok.reg ?_)
      have k29 := wid (x := zL10_6 + 1) (by omega)
      refine g0 3 [(0,.slice Aa_0 na_0 ca_0),(2,pt b1 0),(5,pt b8 0),(6,iw (w64 (zL10_6 + 1)))] [gz,gz,gz] rfl (en rfl (Ok.restr [0,2,5,6] [(0,.slice Aa_0 na_0 ca_0),(2,pt b1 0),(5,pt b8 0),(6,iw (w64 (zL10_6 + 1)))] rfl (Ok.mask [true,true,false] [.blk b1 [n0,iw 0] 34,.blk b8 [.slice Ara_0y20 nra_0y20 cra_0y20,iw zra_1y20] 34] rfl ?_)))
      exact Ok.again _ ⟨(w64 (zL10_6 + 1)),Ara_0y20,nra_0y20,cra_0y20,zra_1y20,rfl,rfl,rfl,(tr le12 le18),by omega,by omega,by omega,hra_0y20⟩ (by omega)
    refine (e4 (.g [.N]) (fun b30 => [(0,.slice Aa_0 na_0 ca_0),(2,pt b1 0),(5,pt b8 0),(6,iw zL10_6),(7,pt b30 0),(17,.agg #[.slice AL10h5_0 nL10h5_0 cL10h5_0,iw zL10h5_1]),(21,.agg #[iw ze15_0,iw ze15_1,iw ze15_2,.string se15_3,.string se15_4,iw ze15_5,iw ze15_6,.string se15_7])]) (fun b30 => [.blk b1 [n0,iw 0] 34,.blk b8 [.slice AL10h5_0 nL10h5_0 cL10h5_0,iw zL10h5_1] 34,.blk b30 [n0,iw 0] 34]) (fun b30 => ?_))
    refine ws [0,1] (SLe.refl _) ?_
    refine on 5 5 rfl (ca (some 22) (c46 H11 AL10h5_0 (nL10h5_0) (cL10h5_0) zL10h5_1 ze15_0 ze15_1 ze15_2 se15_3 se15_4 ze15_5 ze15_6 se15_7 FL10h5_0 te15_3 te15_4 te15_7 (by omega)) ?_)
    rintro v31 H32 k34 le33 ⟨Ara_0y35,nra_0y35,cra_0y35,zra_1y35,zrb_0y35,rfl,hra_0y35,py35_0⟩
    have lhra_0y35 := hra_0y35.1
    refine ws [0,1] le33 ?_
    refine tk 2 [(6,gz),(7,gz),(8,gz)] [(0,.slice Aa_0 na_0 ca_0),(2,pt b1 0),(5,pt b8 0),(6,iw zL10_6),(7,pt b30 0),(23,.agg #[.slice Ara_0y35 nra_0y35 cra_0y35,iw zra_1y35]),(24,iw zrb_0y35)] rfl ?_
    refine on 10 1 rfl (e1 (.g [.K 2 0,.K 2 1]) [(0,.slice Aa_0 na_0 ca_0),(2,pt b1 0),(5,pt b8 0),(6,iw zL10_6),(7,pt b30 0),(24,iw zrb_0y35)] [.blk b1 [n0,iw 0] 34,.blk b8 [.slice AL10h5_0 nL10h5_0 cL10h5_0,iw zL10h5_1] 34,.blk b30 [.slice Ara_0y35 nra_0y35 cra_0y35,iw zra_1y35] 34] ?_)
    refine ws [0,1] le33 ?_
    refine on 11 0 rfl (e0 (gz) [(0,.slice Aa_0 na_0 ca_0),(2,pt b1 0),(5,pt b8 0),(6,iw zL10_6),(7,pt b30 0),(8,iw zrb_0y35)] ?_)
    refine ws [0,1] le33 ?_
    refine dn (Ok.seq (sr (g0 2 [(0,.slice Aa_0 na_0 ca_0),(2,pt b1 0),(5,pt b8 0),(6,iw zL10_6),(7,pt b30 0),(8,iw zrb_0y35),(26,.bool (zrb_0y35 != 0))] [gz,gz] rfl (en rfl (cd (zrb_0y35 != 0) (fun h39 => ?_) (fun h39 => ?_))))))
    · refine sr (g1 6 [(2,pt b1 0),(3,iw zL10_6),(4,iw zrb_0y35)] [.blk b1 [.slice AL10h5_0 nL10h5_0 cL10h5_0,iw zL10h5_1] 34,.blk b8 [.slice AL10h5_0 nL10h5_0 cL10h5_0,iw zL10h5_1] 34,.blk b30 [.slice Ara_0y35 nra_0y35 cra_0y35,iw zra_1y35] 34] [.g [.K 1 0,.K 1 1],gz,gz,.g [.K 0 0,.K 0 1],gz,gz] rfl (en rfl (Ok.ret_ (Ok.thenR (Ok.blkR (Ok.thenR (Ok.thenR (Ok.blkR (Ok.thenR ?_)))))))))
      exact Ok.ret3c (tr le5 (tr le12 le33)) [.K 0 0,.K 0 1] (.agg #[.slice AL10h5_0 nL10h5_0 cL10h5_0,iw zL10h5_1]) (iw zL10_6) (iw zrb_0y35) [b1,b1] rfl (by kernel_rfl) rfl rfl ⟨AL10h5_0,nL10h5_0,cL10h5_0,zL10h5_1,zL10_6,zrb_0y35,rfl,(WfS.mono le33 FL10h5_0),(by omega)⟩
    refine skn (Ok.reg (g1 2 [(0,.slice Aa_0 na_0 ca_0),(2,pt b1 0),(5,pt b8 0),(6,iw zL10_6)] [.blk b1 [n0,iw 0] 34,.blk b8 [.slice Ara_0y35 nra_0y35 cra_0y35,iw zra_1y35] 34,.blk b30 [.slice Ara_0y35 nra_0y35 cra_0y35,iw zra_1y35] 34] [.g [.K 2 0,.K 2 1],.g [.K 1 0,.K 1 1]] rfl (Ok.segEnd rfl (Ok.blkN ?_))))
    refine Ok.thenN (Ok.reg ?_)
    have k43 := wid (x := zL10_6 + 1) (by omega)
    refine g0 3 [(0,.slice Aa_0 na_0 ca_0),(2,pt b1 0),(5,pt b8 0),(6,iw (w64 (zL10_6 + 1)))] [gz,gz,gz] rfl (en rfl (Ok.restr [0,2,5,6] [(0,.slice Aa_0 na_0 ca_0),(2,pt b1 0),(5,pt b8 0),(6,iw (w64 (zL10_6 + 1)))] rfl (Ok.mask [true,true,false] [.blk b1 [n0,iw 0] 34,.blk b8 [.slice Ara_0y35 nra_0y35 cra_0y35,iw zra_1y35] 34] rfl ?_)))
    exact Ok.again _ ⟨(w64 (zL10_6 + 1)),Ara_0y35,nra_0y35,cra_0y35,zra_1y35,rfl,rfl,rfl,(tr le12 le33),by omega,by omega,by omega,hra_0y35⟩ (by omega)
  have h14 := of_decide_eq_false h14
  refine Ok.exit_ (Ok.thenE (Ok.thenE (Ok.blkE (Ok.thenN (sr (g1 6 [(2,pt b1 0),(3,iw ((na_0 : Nat) : Int)),(4,iw 0)] [.blk b1 [.slice AL10h5_0 nL10h5_0 cL10h5_0,iw zL10h5_1] 34,.blk b8 [.slice AL10h5_0 nL10h5_0 cL10h5_0,iw zL10h5_1] 34] [.g [.K 1 0,.K 1 1],gz,gz,.g [.K 0 0,.K 0 1],gz,gz] rfl (en rfl (Ok.ret_ ?_))))))))
  exact Ok.ret3c (tr le5 le12) [.K 0 0,.K 0 1] (.agg #[.slice AL10h5_0 nL10h5_0 cL10h5_0,iw zL10h5_1]) (iw ((na_0 : Nat) : Int)) (iw 0) [b1,b1] rfl (by kernel_rfl) rfl rfl ⟨AL10h5_0,nL10h5_0,cL10h5_0,zL10h5_1,((na_0 : Nat) : Int),0,rfl,FL10h5_0,(by omega)⟩
theorem c88 (H : Snap) (Aa_0 : Option Addr) (na_0 : Nat) (ca_0 : Nat) (za_1 : Int) (ha_0 : WfS H el41 Aa_0 na_0) (hq0 : na_0 ≤ 1000) : Does Tryz.prog 88 [.agg #[.slice Aa_0 na_0 ca_0,iw za_1]] H [] (fun v H' kp => ∃ (Ara_0 : Option Addr) (nra_0 : Nat) (cra_0 : Nat),v = .slice Ara_0 nra_0 cra_0 ∧ WfS H' el3 Ara_0 nra_0 ∧ nra_0 ≤ na_0) := by
  have lha_0 := ha_0.1
  refine Does.of Tryz.func88 rfl rfl rfl rfl (fun w0 H0 kx => ?_)
  refine sr (g4 2 (fun b1 => [(1,pt b1 0)]) (fun b1 => [.blk b1 [.slice Aa_0 na_0 ca_0,iw za_1] 34]) [.g [.N],gz] rfl (fun b1 => (en rfl ?_)))
  refine sr (g4 2 (fun b2 => [(1,pt b1 0),(3,sl b2 0 0 0)]) (fun b2 => [.blk b1 [.slice Aa_0 na_0 ca_0,iw za_1] 34,.blk b2 [] 3]) [.g [.N],gz] rfl (fun b2 => (en rfl ?_)))
  refine Ok.seq (sr (g0 1 [(1,pt b1 0),(3,sl b2 0 0 0),(4,iw 0)] [gz] rfl (en rfl (Ok.blk (Ok.blkRow (b := b2) (t := 3) (cs := []) 1 (n := 0) (cap := 0) (sz := 1) rfl rfl rfl rfl [] rfl (Ok.restr [1,3,4] [(1,pt b1 0),(3,sl b2 0 0 0),(4,iw 0)] rfl (Ok.loop (fun H' fr kb m => ∃ (zL4_4 : Int) (AL4r1 : Option Addr) (nL4r1 : Nat) (cL4r1 : Nat) (xL4r1 : List Value),fr = [(1,pt b1 0),(3,.slice AL4r1 nL4r1 cL4r1),(4,iw zL4_4)] ∧ kb = [.blk b1 [.slice Aa_0 na_0 ca_0,iw za_1] 34,.row (.slice AL4r1 nL4r1 cL4r1) nL4r1 1 3 xL4r1] ∧ m = ((((na_0 : Nat) : Int)) - zL4_4).toNat ∧ SLe H H' ∧ 0 ≤ zL4_4 ∧ zL4_4 ≤ ((na_0 : Nat) : Int) ∧ ((nL4r1 : Nat) : Int) ≤ zL4_4 ∧ Elems H' el3 nL4r1 xL4r1) _ ⟨0,((some ⟨b2,0,none⟩)),0,0,[],rfl,rfl,rfl,SLe.refl _,by decide,by omega,by omega,(Elems.nil el3)⟩ ?_)))))))
  rintro H5 _ _ mL4 ⟨zL4_4,AL4r1,nL4r1,cL4r1,xL4r1,rfl,rfl,hmL4,le6,fL4_0,fL4_1,fL4_2,EL4r1⟩
  refine Ok.seq (sr (g0 5 [(1,pt b1 0),(3,.slice AL4r1 nL4r1 cL4r1),(4,iw zL4_4),(10,.bool (decide (zL4_4 < ((na_0 : Nat) : Int))))] [gz,gz,.g [.K 0 0],gz,gz] rfl (en rfl (cd (decide (zL4_4 < ((na_0 : Nat) : Int))) (fun h8 => ?_) (fun h8 => ?_)))))
  · have h8 := of_decide_eq_true h8
    refine skn (Ok.seq (Ok.blk (sr ?_)))
    have ie10 : 0 ≤ zL4_4 ∧ zL4_4 < ((na_0 : Nat) : Int) := by omega
    obtain ⟨je10,cse10,we10,he10⟩ := (WfS.mono le6 ha_0).at_ zL4_4 ie10.1 ie10.2
    obtain ⟨ue10_0,le10_0,rfl,ve10_0,we10_0⟩ := wfl_cons we10
    obtain ⟨ze10_0,rfl⟩ := wfv_int ve10_0
    obtain ⟨ue10_1,le10_1,rfl,ve10_1,we10_1⟩ := wfl_cons we10_0
    obtain ⟨se10_1,rfl,te10_1⟩ := wfv_str ve10_1
    obtain ⟨ue10_2,le10_2,rfl,ve10_2,we10_2⟩ := wfl_cons we10_1
    obtain ⟨ze10_2,rfl⟩ := wfv_int ve10_2
    obtain ⟨ue10_3,le10_3,rfl,ve10_3,we10_3⟩ := wfl_cons we10_2
    obtain ⟨ze10_3,rfl⟩ := wfv_int ve10_3
    obtain rfl := wfl_nil we10_3
    refine g2 7 [(1,pt b1 0),(3,.slice AL4r1 nL4r1 cL4r1),(4,iw zL4_4),(19,.bool (ze10_2 != 6))] [gz,.g [.K 0 0],gz,.ix,gz,.g [.X (iw ze10_2)],gz] (ex1 (And.intro je10 ie10) (ex1 (he10 (2) _ rfl) ex0)) rfl (en rfl (cd (ze10_2 != 6) (fun h11 => ?_) (fun h11 => ?_)))
    · refine Ok.reg (g5 8 (fun b12 => [(1,pt b1 0),(4,iw zL4_4),(20,.slice AL4r1 nL4r1 cL4r1),(27,sl b12 0 1 1)]) (fun b12 => [.blk b1 [.slice Aa_0 na_0 ca_0,iw za_1] 34,.row (.slice AL4r1 nL4r1 cL4r1) nL4r1 1 3 xL4r1,.blk b12 [iw ze10_0] 3]) [gz,gz,.g [.K 0 0],gz,.ix,gz,.g [.X (iw ze10_0)],.g [.N]] (fun b12 => (ex1 (And.intro je10 ie10) (ex1 (cell0 (he10 0 _ rfl)) ex0))) rfl (fun b12 => (ef 9 rfl (Eff.appendN (t := 68) (d := some 28) (ad := ⟨b12,0,none⟩) (m := 1) (c := 1) 1 rfl (by kernel_rfl) 100000000 (by kernel_rfl) (by omega) rfl [iw ze10_0] (reads_blk (cs := [iw ze10_0]) 2 rfl 0 1) rfl rfl (by omega) (fun g13 cap14 => ?_)))))
      have E16 : Elems H5 el3 (nL4r1 + 1) (xL4r1 ++ [iw ze10_0]) := (Elems.snoc EL4r1 (mkl_cons (mkv_int _ _) mkl_nil))
      generalize (xL4r1 ++ [iw ze10_0]) = x15 at E16 ⊢
      refine g0 10 [(1,pt b1 0),(3,.slice ((some ⟨g13,0,none⟩)) ((nL4r1 + 1)) cap14),(4,iw zL4_4)] [gz] rfl (Ok.segEnd rfl (Ok.blkN ?_))
      refine Ok.thenN (Ok.reg ?_)
      have k20 := wid (x := zL4_4 + 1) (by omega)
      refine g0 3 [(1,pt b1 0),(3,.slice ((some ⟨g13,0,none⟩)) ((nL4r1 + 1)) cap14),(4,iw (w64 (zL4_4 + 1)))] [gz,gz,gz] rfl (en rfl (Ok.restr [1,3,4] [(1,pt b1 0),(3,.slice ((some ⟨g13,0,none⟩)) ((nL4r1 + 1)) cap14),(4,iw (w64 (zL4_4 + 1)))] rfl (Ok.mask [true,true,false] [.blk b1 [.slice Aa_0 na_0 ca_0,iw za_1] 34,.row (.slice ((some ⟨g13,0,none⟩)) ((nL4r1 + 1)) cap14) ((nL4r1 + 1)) 1 3 x15] rfl ?_)))
      exact Ok.again _ ⟨(w64 (zL4_4 + 1)),((some ⟨g13,0,none⟩)),(nL4r1 + 1),cap14,x15,rfl,rfl,rfl,le6,by omega,by omega,by omega,E16⟩ (by omega)
    refine Ok.skip_ (Ok.blkN (Ok.thenN (Ok.reg ?_)))
    have k22 := wid (x := zL4_4 + 1) (by omega)
    refine g0 3 [(1,pt b1 0),(3,.slice AL4r1 nL4r1 cL4r1),(4,iw (w64 (zL4_4 + 1)))] [gz,gz,gz] rfl (en rfl (Ok.restr [1,3,4] [(1,pt b1 0),(3,.slice AL4r1 nL4r1 cL4r1),(4,iw (w64 (zL4_4 + 1)))] rfl ?_))
    exact Ok.again _ ⟨(w64 (zL4_4 + 1)),AL4r1,nL4r1,cL4r1,xL4r1,rfl,rfl,rfl,le6,by omega,by omega,by omega,EL4r1⟩ (by omega)
  have h8 := of_decide_eq_false h8
  refine Ok.exit_ (Ok.thenE (Ok.thenE (Ok.blkE (Ok.thenN (sr (g0 2 [(2,.slice AL4r1 nL4r1 cL4r1)] [gz,gz] rfl (en rfl (Ok.ret_ (Ok.pubS 1 rfl EL4r1 (by omega) [.blk b1 [.slice Aa_0 na_0 ca_0,iw za_1] 34] rfl ?_)))))))))
  intro H24 le25 f26
  refine Ok.dropAll ?_
  exact Ok.ret1 (v := .slice AL4r1 nL4r1 cL4r1) (tr le6 le25) rfl rfl ⟨AL4r1,nL4r1,cL4r1,rfl,f26,(by omega)⟩
theorem c48 (H : Snap) (Aa_0 : Option Addr) (na_0 : Nat) (ca_0 : Nat) (za_1 : Int) (zb_0 : Int) (zb_1 : Int) (zb_2 : Int) (ha_0 : WfS H el41 Aa_0 na_0) (hq0 : na_0 ≤ 1000) : Does Tryz.prog 48 [.agg #[.slice Aa_0 na_0 ca_0,iw za_1],.agg #[iw zb_0,iw zb_1,iw zb_2]] H [] (fun v H' kp => ∃ (zra_0 : Int) (zra_1 : Int) (zra_2 : Int) (brb_0 : Bool),v = .tuple #[.agg #[iw zra_0,iw zra_1,iw zra_2],.bool brb_0]) := by
  have lha_0 := ha_0.1
  refine Does.of Tryz.func48 rfl rfl rfl rfl (fun w0 H0 kx => ?_)
  refine sr (g4 4 (fun b1 => [(2,pt b1 0),(3,pt (b1+1) 0),(4,pt (b1+1+1) 0)]) (fun b1 => [.blk b1 [.slice Aa_0 na_0 ca_0,iw za_1] 34,.blk (b1+1) [iw zb_0,iw zb_1,iw zb_2] 45,.blk (b1+1+1) [iw 0,iw 0,iw 0] 45]) [.g [.N],.g [.N],.g [.N],gz] rfl (fun b1 => (en rfl ?_)))
  refine sr (g0 1 [(2,pt b1 0),(3,pt (b1+1) 0),(4,pt (b1+1+1) 0),(10,.agg #[.slice Aa_0 na_0 ca_0,iw za_1])] [.g [.K 0 0,.K 0 1]] rfl (ef 2 rfl (ca (some 11) (c88 H Aa_0 (na_0) (ca_0) za_1 ha_0 (by omega)) ?_)))
  rintro v3 H4 k6 le5 ⟨Ara_0y7,nra_0y7,cra_0y7,rfl,hra_0y7,py7_0⟩
  have lhra_0y7 := hra_0y7.1
  refine g0 3 [(2,pt b1 0),(3,pt (b1+1) 0),(4,pt (b1+1+1) 0),(6,.slice Ara_0y7 nra_0y7 cra_0y7)] [gz] rfl (en rfl (Ok.seq (sr (g0 3 [(2,pt b1 0),(3,pt (b1+1) 0),(4,pt (b1+1+1) 0),(6,.slice Ara_0y7 nra_0y7 cra_0y7),(14,.bool (((nra_0y7 : Nat) : Int) == 0))] [gz,gz,gz] rfl (en rfl (cd (((nra_0y7 : Nat) : Int) == 0) (fun h10 => ?_) (fun h10 => ?_)))))))
  · have h10 := eq_of_beq h10
    refine sr (g0 3 [(4,pt (b1+1+1) 0),(5,bF)] [gz,.g [.K 2 0,.K 2 1,.K 2 2],gz] rfl (Ok.mask [false,false,true] [.blk (b1+1+1) [iw 0,iw 0,iw 0] 45] rfl ?_))
    refine en rfl (Ok.ret_ (Ok.thenR ?_))
    exact Ok.ret2c le5 [.K 0 0,.K 0 1,.K 0 2] (.agg #[iw 0,iw 0,iw 0]) (bF) [b1+1+1,b1+1+1,b1+1+1] rfl (by kernel_rfl) rfl ⟨0,0,0,false,rfl⟩
  have h10 := ne_of_beq_false h10
  refine skn (Ok.seq (st [0,1,2] [] 18 ?_))
  have ui12 := uindex zb_1 nra_0y7 (by omega)
  have ie13 : 0 ≤ (Int.tmod (IntKind.u64.wrap zb_1) (IntKind.u64.wrap ((nra_0y7 : Nat) : Int))) ∧ (Int.tmod (IntKind.u64.wrap zb_1) (IntKind.u64.wrap ((nra_0y7 : Nat) : Int))) < ((nra_0y7 : Nat) : Int) := by omega
  obtain ⟨je13,cse13,we13,he13⟩ := hra_0y7.at_ (Int.tmod (IntKind.u64.wrap zb_1) (IntKind.u64.wrap ((nra_0y7 : Nat) : Int))) ie13.1 ie13.2
  obtain ⟨ue13_0,le13_0,rfl,ve13_0,we13_0⟩ := wfl_cons we13
  obtain ⟨ze13_0,rfl⟩ := wfv_int ve13_0
  obtain rfl := wfl_nil we13_0
  refine tx 7 [(0,.g [.K 0 0,.K 0 1]),(1,gz),(2,gz),(3,.g [.K 1 1]),(4,gz),(5,gz),(6,gz),(7,gz),(8,.dv),(9,.ix),(10,.g [.X (iw ze13_0)])] [(3,pt (b1+1) 0),(4,pt (b1+1+1) 0),(17,.agg #[.slice Aa_0 na_0 ca_0,iw za_1]),(27,iw ze13_0)] (ex1 (show IntKind.u64 = IntKind.u64 ∧ (IntKind.u64.wrap ((nra_0y7 : Nat) : Int)) ≠ 0 from ⟨rfl,(u64_ne (by omega))⟩) (ex1 (And.intro je13 ie13) (ex1 (cell0 (he13 0 _ rfl)) ex0))) rfl ?_
  refine o2 11 15 6 rfl ?_ ?_
  · refine (ca (some 28) (c6 H4 Aa_0 (na_0) (ca_0) za_1 ze13_0 (WfS.mono le5 ha_0)) ?_)
    rintro v14 H15 k17 le16 ⟨zra_0y18,sra_1y18,zra_2y18,zra_3y18,brb_0y18,rfl,tra_1y18⟩
    refine ws [0,1,2] le16 ?_
    refine tk 3 [(12,gz),(13,gz),(14,gz)] [(3,pt (b1+1) 0),(4,pt (b1+1+1) 0),(29,.agg #[iw zra_0y18,.string sra_1y18,iw zra_2y18,iw zra_3y18]),(30,.bool brb_0y18)] rfl ?_
    refine on 15 2 rfl (e4 (.g [.N]) (fun b19 => [(3,pt (b1+1) 0),(4,pt (b1+1+1) 0),(7,pt b19 0),(29,.agg #[iw zra_0y18,.string sra_1y18,iw zra_2y18,iw zra_3y18]),(30,.bool brb_0y18)]) (fun b19 => [.blk b1 [.slice Aa_0 na_0 ca_0,iw za_1] 34,.blk (b1+1) [iw zb_0,iw zb_1,iw zb_2] 45,.blk (b1+1+1) [iw 0,iw 0,iw 0] 45,.blk b19 [iw 0,s0,iw 0,iw 0] 41]) (fun b19 => ?_))
    refine ws [0,1,2] le16 ?_
    refine on 16 1 rfl (e1 (.g [.K 3 0,.K 3 1,.K 3 2,.K 3 3]) [(3,pt (b1+1) 0),(4,pt (b1+1+1) 0),(7,pt b19 0),(30,.bool brb_0y18)] [.blk b1 [.slice Aa_0 na_0 ca_0,iw za_1] 34,.blk (b1+1) [iw zb_0,iw zb_1,iw zb_2] 45,.blk (b1+1+1) [iw 0,iw 0,iw 0] 45,.blk b19 [iw zra_0y18,.string sra_1y18,iw zra_2y18,iw zra_3y18] 41] ?_)
    refine ws [0,1,2] le16 ?_
    refine on 17 0 rfl (e0 (gz) [(3,pt (b1+1) 0),(4,pt (b1+1+1) 0),(7,pt b19 0)] ?_)
    refine ws [0,1,2] le16 ?_
    refine dn (sr ?_)
    have tm23 := tmod_lit (IntKind.u64.wrap zb_0) 5 (by decide)
    refine g4 11 (fun b22 => [(3,pt (b1+1) 0),(4,pt (b1+1+1) 0),(7,pt b19 0),(9,pt b22 0)]) (fun b22 => [.blk b1 [.slice Aa_0 na_0 ca_0,iw za_1] 34,.blk (b1+1) [iw zb_0,iw zb_1,iw zb_2] 45,.blk (b1+1+1) [iw 0,iw 0,iw 0] 45,.blk b19 [iw zra_0y18,.string sra_1y18,iw zra_2y18,iw zra_3y18] 41,.blk b22 [iw (w64 (1 + (w64 (Int.tmod (IntKind.u64.wrap zb_0) 5)))),iw zra_0y18,iw 0] 45]) [gz,.g [.K 1 0],gz,gz,gz,gz,gz,.g [.K 3 0],gz,.g [.N],.g [.K 4 0,.K 4 1,.K 4 2]] rfl (fun b22 => (en rfl ?_))
    refine Ok.seq (Ok.seq (Ok.regJ (ι := Bool) (fun y25 => [(3,pt (b1+1) 0),(4,pt (b1+1+1) 0),(7,pt b19 0),(9,pt b22 0),(62,.bool y25)]) ?_ (fun J24 => ?_)))
    · rintro bJ24_62
      refine Ok.thenN (cd bJ24_62 (fun h26 => ?_) (fun h26 => ?_))
      · refine Ok.reg (g1 2 [(3,pt (b1+1) 0),(4,pt (b1+1+1) 0),(7,pt b19 0),(9,pt b22 0)] [.blk b1 [.slice Aa_0 na_0 ca_0,iw za_1] 34,.blk (b1+1) [iw zb_0,iw zb_1,iw zb_2] 45,.blk (b1+1+1) [iw 0,iw 0,iw 0] 45,.blk b19 [iw zra_0y18,.string sra_1y18,iw zra_2y18,iw zra_3y18] 41,.blk b22 [iw 2,iw zra_0y18,iw 0] 45] [gz,.g [.K 4 0]] rfl (en rfl (Ok.seq (Ok.blk (sr (g0 4 [(3,pt (b1+1) 0),(4,pt (b1+1+1) 0),(7,pt b19 0),(9,pt b22 0),(64,bT)] [gz,.g [.K 4 0],gz,gz] rfl (en rfl (cT (Ok.reg ?_)))))))))
        have tm30 := tmod_lit (IntKind.u64.wrap zb_2) 1024 (by decide)
        refine g1 8 [(4,pt (b1+1+1) 0),(9,pt b22 0)] [.blk b1 [.slice Aa_0 na_0 ca_0,iw za_1] 34,.blk (b1+1) [iw zb_0,iw zb_1,iw zb_2] 45,.blk (b1+1+1) [iw 0,iw 0,iw 0] 45,.blk b19 [iw zra_0y18,.string sra_1y18,iw zra_2y18,iw zra_3y18] 41,.blk b22 [iw 2,iw zra_0y18,iw (w64 (1 + (w64 (Int.tmod (IntKind.u64.wrap zb_2) 1024))))] 45] [gz,.g [.K 1 2],gz,gz,gz,gz,gz,.g [.K 4 2]] rfl (Ok.mask [false,false,true,false,true] [.blk (b1+1+1) [iw 0,iw 0,iw 0] 45,.blk b22 [iw 2,iw zra_0y18,iw (w64 (1 + (w64 (Int.tmod (IntKind.u64.wrap zb_2) 1024))))] 45] rfl ?_)
        refine Ok.segEnd rfl (Ok.blkN (Ok.thenN (sr (g1 3 [(4,pt (b1+1+1) 0),(5,bT)] [.blk (b1+1+1) [iw 2,iw zra_0y18,iw (w64 (1 + (w64 (Int.tmod (IntKind.u64.wrap zb_2) 1024))))] 45,.blk b22 [iw 2,iw zra_0y18,iw (w64 (1 + (w64 (Int.tmod (IntKind.u64.wrap zb_2) 1024))))] 45] [.g [.K 1 0,.K 1 1,.K 1 2],.g [.K 0 0,.K 0 1,.K 0 2],gz] rfl (en rfl (Ok.ret_ ?_))))))
        exact Ok.ret2c (tr le5 le16) [.K 0 0,.K 0 1,.K 0 2] (.agg #[iw 2,iw zra_0y18,iw (w64 (1 + (w64 (Int.tmod (IntKind.u64.wrap zb_2) 1024))))]) (bT) [b1+1+1,b1+1+1,b1+1+1] rfl (by kernel_rfl) rfl ⟨2,zra_0y18,(w64 (1 + (w64 (Int.tmod (IntKind.u64.wrap zb_2) 1024)))),true,rfl⟩
      refine skn (Ok.seq (Ok.blk (sr (g0 4 [(3,pt (b1+1) 0),(4,pt (b1+1+1) 0),(7,pt b19 0),(9,pt b22 0),(64,.bool ((w64 (1 + (w64 (Int.tmod (IntKind.u64.wrap zb_0) 5)))) == 2))] [gz,.g [.K 4 0],gz,gz] rfl (en rfl (cd ((w64 (1 + (w64 (Int.tmod (IntKind.u64.wrap zb_0) 5)))) == 2) (fun h33 => ?_) (fun h33 => ?_)))))))
      · have h33 := eq_of_beq h33
        refine Ok.reg ?_
        have tm35 := tmod_lit (IntKind.u64.wrap zb_2) 1024 (by decide)
        refine g1 8 [(4,pt (b1+1+1) 0),(9,pt b22 0)] [.blk b1 [.slice Aa_0 na_0 ca_0,iw za_1] 34,.blk (b1+1) [iw zb_0,iw zb_1,iw zb_2] 45,.blk (b1+1+1) [iw 0,iw 0,iw 0] 45,.blk b19 [iw zra_0y18,.string sra_1y18,iw zra_2y18,iw zra_3y18] 41,.blk b22 [iw (w64 (1 + (w64 (Int.tmod (IntKind.u64.wrap zb_0) 5)))),iw zra_0y18,iw (w64 (1 + (w64 (Int.tmod (IntKind.u64.wrap zb_2) 1024))))] 45] [gz,.g [.K 1 2],gz,gz,gz,gz,gz,.g [.K 4 2]] rfl (Ok.mask [false,false,true,false,true] [.blk (b1+1+1) [iw 0,iw 0,iw 0] 45,.blk b22 [iw (w64 (1 + (w64 (Int.tmod (IntKind.u64.wrap zb_0) 5)))),iw zra_0y18,iw (w64 (1 + (w64 (Int.tmod (IntKind.u64.wrap zb_2) 1024))))] 45] rfl ?_)
        refine Ok.segEnd rfl (Ok.blkN (Ok.thenN (sr (g1 3 [(4,pt (b1+1+1) 0),(5,bT)] [.blk (b1+1+1) [iw (w64 (1 + (w64 (Int.tmod (IntKind.u64.wrap zb_0) 5)))),iw zra_0y18,iw (w64 (1 + (w64 (Int.tmod (IntKind.u64.wrap zb_2) 1024))))] 45,.blk b22 [iw (w64 (1 + (w64 (Int.tmod (IntKind.u64.wrap zb_0) 5)))),iw zra_0y18,iw (w64 (1 + (w64 (Int.tmod (IntKind.u64.wrap zb_2) 1024))))] 45] [.g [.K 1 0,.K 1 1,.K 1 2],.g [.K 0 0,.K 0 1,.K 0 2],gz] rfl (en rfl (Ok.ret_ ?_))))))
        exact Ok.ret2c (tr le5 le16) [.K 0 0,.K 0 1,.K 0 2] (.agg #[iw (w64 (1 + (w64 (Int.tmod (IntKind.u64.wrap zb_0) 5)))),iw zra_0y18,iw (w64 (1 + (w64 (Int.tmod (IntKind.u64.wrap zb_2) 1024))))]) (bT) [b1+1+1,b1+1+1,b1+1+1] rfl (by kernel_rfl) rfl ⟨(w64 (1 + (w64 (Int.tmod (IntKind.u64.wrap zb_0) 5)))),zra_0y18,(w64 (1 + (w64 (Int.tmod (IntKind.u64.wrap zb_2) 1024)))),true,rfl⟩
      have h33 := ne_of_beq_false h33
      refine Ok.seq (Ok.regJ (ι := Bool) (fun y38 => [(3,pt (b1+1) 0),(4,pt (b1+1+1) 0),(9,pt b22 0),(75,.bool y38)]) ?_ (fun J37 => ?_))
      · rintro bJ37_75
        refine Ok.thenN (cd bJ37_75 (fun h39 => ?_) (fun h39 => ?_))
        · refine Ok.reg ?_
          have tm41 := tmod_lit (IntKind.u64.wrap zb_2) 200 (by decide)
          refine g1 8 [(4,pt (b1+1+1) 0),(9,pt b22 0)] [.blk b1 [.slice Aa_0 na_0 ca_0,iw za_1] 34,.blk (b1+1) [iw zb_0,iw zb_1,iw zb_2] 45,.blk (b1+1+1) [iw 0,iw 0,iw 0] 45,.blk b19 [iw zra_0y18,.string sra_1y18,iw zra_2y18,iw zra_3y18] 41,.blk b22 [iw (w64 (1 + (w64 (Int.tmod (IntKind.u64.wrap zb_0) 5)))),iw zra_0y18,iw (w64 (1 + (w64 (Int.tmod (IntKind.u64.wrap zb_2) 200))))] 45] [gz,.g [.K 1 2],gz,gz,gz,gz,gz,.g [.K 4 2]] rfl (Ok.mask [false,false,true,false,true] [.blk (b1+1+1) [iw 0,iw 0,iw 0] 45,.blk b22 [iw (w64 (1 + (w64 (Int.tmod (IntKind.u64.wrap zb_0) 5)))),iw zra_0y18,iw (w64 (1 + (w64 (Int.tmod (IntKind.u64.wrap zb_2) 200))))] 45] rfl ?_)
          refine Ok.segEnd rfl (Ok.blkN (Ok.thenN (sr (g1 3 [(4,pt (b1+1+1) 0),(5,bT)] [.blk (b1+1+1) [iw (w64 (1 + (w64 (Int.tmod (IntKind.u64.wrap zb_0) 5)))),iw zra_0y18,iw (w64 (1 + (w64 (Int.tmod (IntKind.u64.wrap zb_2) 200))))] 45,.blk b22 [iw (w64 (1 + (w64 (Int.tmod (IntKind.u64.wrap zb_0) 5)))),iw zra_0y18,iw (w64 (1 + (w64 (Int.tmod (IntKind.u64.wrap zb_2) 200))))] 45] [.g [.K 1 0,.K 1 1,.K 1 2],.g [.K 0 0,.K 0 1,.K 0 2],gz] rfl (en rfl (Ok.ret_ ?_))))))
          exact Ok.ret2c (tr le5 le16) [.K 0 0,.K 0 1,.K 0 2] (.agg #[iw (w64 (1 + (w64 (Int.tmod (IntKind.u64.wrap zb_0) 5)))),iw zra_0y18,iw (w64 (1 + (w64 (Int.tmod (IntKind.u64.wrap zb_2) 200))))]) (bT) [b1+1+1,b1+1+1,b1+1+1] rfl (by kernel_rfl) rfl ⟨(w64 (1 + (w64 (Int.tmod (IntKind.u64.wrap zb_0) 5)))),zra_0y18,(w64 (1 + (w64 (Int.tmod (IntKind.u64.wrap zb_2) 200)))),true,rfl⟩
        refine sr (g0 4 [(3,pt (b1+1) 0),(4,pt (b1+1+1) 0),(9,pt b22 0),(91,.bool ((w64 (1 + (w64 (Int.tmod (IntKind.u64.wrap zb_0) 5)))) == 3))] [gz,.g [.K 4 0],gz,gz] rfl (Ok.mask [false,true,true,false,true] [.blk (b1+1) [iw zb_0,iw zb_1,iw zb_2] 45,.blk (b1+1+1) [iw 0,iw 0,iw 0] 45,.blk b22 [iw (w64 (1 + (w64 (Int.tmod (IntKind.u64.wrap zb_0) 5)))),iw zra_0y18,iw 0] 45] rfl ?_))
        refine en rfl (cd ((w64 (1 + (w64 (Int.tmod (IntKind.u64.wrap zb_0) 5)))) == 3) (fun h44 => ?_) (fun h44 => ?_))
        · have h44 := eq_of_beq h44
          refine Ok.reg ?_
          have tm46 := tmod_lit (IntKind.u64.wrap zb_2) 2147483647 (by decide)
          refine g1 8 [(4,pt (b1+1+1) 0),(9,pt b22 0)] [.blk (b1+1) [iw zb_0,iw zb_1,iw zb_2] 45,.blk (b1+1+1) [iw 0,iw 0,iw 0] 45,.blk b22 [iw (w64 (1 + (w64 (Int.tmod (IntKind.u64.wrap zb_0) 5)))),iw zra_0y18,iw (w64 (1 + (w64 (Int.tmod (IntKind.u64.wrap zb_2) 2147483647))))] 45] [gz,.g [.K 0 2],gz,gz,gz,gz,gz,.g [.K 2 2]] rfl (Ok.segEnd rfl (Ok.blkN ?_))
          refine Ok.thenN (sr (g1 3 [(4,pt (b1+1+1) 0),(5,bT)] [.blk (b1+1) [iw zb_0,iw zb_1,iw zb_2] 45,.blk (b1+1+1) [iw (w64 (1 + (w64 (Int.tmod (IntKind.u64.wrap zb_0) 5)))),iw zra_0y18,iw (w64 (1 + (w64 (Int.tmod (IntKind.u64.wrap zb_2) 2147483647))))] 45,.blk b22 [iw (w64 (1 + (w64 (Int.tmod (IntKind.u64.wrap zb_0) 5)))),iw zra_0y18,iw (w64 (1 + (w64 (Int.tmod (IntKind.u64.wrap zb_2) 2147483647))))] 45] [.g [.K 2 0,.K 2 1,.K 2 2],.g [.K 1 0,.K 1 1,.K 1 2],gz] rfl (Ok.mask [false,true,false] [.blk (b1+1+1) [iw (w64 (1 + (w64 (Int.tmod (IntKind.u64.wrap zb_0) 5)))),iw zra_0y18,iw (w64 (1 + (w64 (Int.tmod (IntKind.u64.wrap zb_2) 2147483647))))] 45] rfl ?_)))
          refine en rfl (Ok.ret_ ?_)
          exact Ok.ret2c (tr le5 le16) [.K 0 0,.K 0 1,.K 0 2] (.agg #[iw (w64 (1 + (w64 (Int.tmod (IntKind.u64.wrap zb_0) 5)))),iw zra_0y18,iw (w64 (1 + (w64 (Int.tmod (IntKind.u64.wrap zb_2) 2147483647))))]) (bT) [b1+1+1,b1+1+1,b1+1+1] rfl (by kernel_rfl) rfl ⟨(w64 (1 + (w64 (Int.tmod (IntKind.u64.wrap zb_0) 5)))),zra_0y18,(w64 (1 + (w64 (Int.tmod (IntKind.u64.wrap zb_2) 2147483647)))),true,rfl⟩
        have h44 := ne_of_beq_false h44
        refine Ok.skip_ (Ok.blkN (Ok.thenN (sr (g1 3 [(4,pt (b1+1+1) 0),(5,bT)] [.blk (b1+1) [iw zb_0,iw zb_1,iw zb_2] 45,.blk (b1+1+1) [iw (w64 (1 + (w64 (Int.tmod (IntKind.u64.wrap zb_0) 5)))),iw zra_0y18,iw 0] 45,.blk b22 [iw (w64 (1 + (w64 (Int.tmod (IntKind.u64.wrap zb_0) 5)))),iw zra_0y18,iw 0] 45] [.g [.K 2 0,.K 2 1,.K 2 2],.g [.K 1 0,.K 1 1,.K 1 2],gz] rfl (Ok.mask [false,true,false] [.blk (b1+1+1) [iw (w64 (1 + (w64 (Int.tmod (IntKind.u64.wrap zb_0) 5)))),iw zra_0y18,iw 0] 45] rfl ?_)))))
        refine en rfl (Ok.ret_ ?_)
        exact Ok.ret2c (tr le5 le16) [.K 0 0,.K 0 1,.K 0 2] (.agg #[iw (w64 (1 + (w64 (Int.tmod (IntKind.u64.wrap zb_0) 5)))),iw zra_0y18,iw 0]) (bT) [b1+1+1,b1+1+1,b1+1+1] rfl (by kernel_rfl) rfl ⟨(w64 (1 + (w64 (Int.tmod (IntKind.u64.wrap zb_0) 5)))),zra_0y18,0,true,rfl⟩
      refine g0 4 [(3,pt (b1+1) 0),(4,pt (b1+1+1) 0),(7,pt b19 0),(9,pt b22 0),(79,.bool ((w64 (1 + (w64 (Int.tmod (IntKind.u64.wrap zb_0) 5)))) == 3))] [gz,.g [.K 4 0],gz,gz] rfl (cs ((w64 (1 + (w64 (Int.tmod (IntKind.u64.wrap zb_0) 5)))) == 3) [79] (fun h50 => ?_) (fun h50 => ?_))
      · have h50 := eq_of_beq h50
        refine g0 9 [(3,pt (b1+1) 0),(4,pt (b1+1+1) 0),(9,pt b22 0),(75,.bool (zra_2y18 == 4))] [gz,.g [.K 3 2],gz,gz,gz] rfl (Ok.segEnd rfl (Ok.restr [3,4,9,75] [(3,pt (b1+1) 0),(4,pt (b1+1+1) 0),(9,pt b22 0),(75,.bool (zra_2y18 == 4))] rfl ?_))
        exact J37 ((zra_2y18 == 4))
      have h50 := ne_of_beq_false h50
      refine g0 9 [(3,pt (b1+1) 0),(4,pt (b1+1+1) 0),(9,pt b22 0),(75,bF)] [gz,gz,gz,gz,gz] rfl (Ok.segEnd rfl (Ok.restr [3,4,9,75] [(3,pt (b1+1) 0),(4,pt (b1+1+1) 0),(9,pt b22 0),(75,bF)] rfl ?_))
      exact J37 (false)
    refine g0 4 [(3,pt (b1+1) 0),(4,pt (b1+1+1) 0),(7,pt b19 0),(9,pt b22 0),(43,.bool (decide ((w64 (1 + (w64 (Int.tmod (IntKind.u64.wrap zb_0) 5)))) ≥ 4)))] [gz,.g [.K 4 0],gz,gz] rfl (cs (decide ((w64 (1 + (w64 (Int.tmod (IntKind.u64.wrap zb_0) 5)))) ≥ 4)) [43] (fun h54 => ?_) (fun h54 => ?_))
    · have h54 := of_decide_eq_true h54
      refine g0 9 [(3,pt (b1+1) 0),(4,pt (b1+1+1) 0),(7,pt b19 0),(9,pt b22 0),(48,.bool (zra_2y18 != 5))] [gz,.g [.K 3 2],gz,gz,gz] rfl (cs (zra_2y18 != 5) [48] (fun h56 => ?_) (fun h56 => ?_))
      · refine g0 23 [(3,pt (b1+1) 0),(4,pt (b1+1+1) 0),(7,pt b19 0),(9,pt b22 0),(62,bT)] [gz,gz,gz,gz,gz,gz,gz,gz,gz,gz,gz,gz,gz,gz] rfl (Ok.segEnd rfl (Ok.restr [3,4,7,9,62] [(3,pt (b1+1) 0),(4,pt (b1+1+1) 0),(7,pt b19 0),(9,pt b22 0),(62,bT)] rfl ?_))
        exact J24 (true)
      refine g0 13 [(3,pt (b1+1) 0),(4,pt (b1+1+1) 0),(7,pt b19 0),(9,pt b22 0),(48,bF),(52,.bool ((w64 (1 + (w64 (Int.tmod (IntKind.u64.wrap zb_0) 5)))) == 3))] [gz,.g [.K 4 0],gz,gz] rfl (cs ((w64 (1 + (w64 (Int.tmod (IntKind.u64.wrap zb_0) 5)))) == 3) [52] (fun h59 => ?_) (fun h59 => ?_))
      · have h59 := eq_of_beq h59
        refine g0 17 [(3,pt (b1+1) 0),(4,pt (b1+1+1) 0),(7,pt b19 0),(9,pt b22 0),(48,bF),(52,bT),(56,.bool (zra_2y18 == 1))] [gz,.g [.K 3 2],gz,gz] rfl (cs (zra_2y18 == 1) [56] (fun h61 => ?_) (fun h61 => ?_))
        · have h61 := eq_of_beq h61
          refine g0 23 [(3,pt (b1+1) 0),(4,pt (b1+1+1) 0),(7,pt b19 0),(9,pt b22 0),(62,bT)] [gz,gz,gz,gz,gz,gz] rfl (Ok.segEnd rfl (Ok.restr [3,4,7,9,62] [(3,pt (b1+1) 0),(4,pt (b1+1+1) 0),(7,pt b19 0),(9,pt b22 0),(62,bT)] rfl ?_))
          exact J24 (true)
        have h61 := ne_of_beq_false h61
        refine g0 23 [(3,pt (b1+1) 0),(4,pt (b1+1+1) 0),(7,pt b19 0),(9,pt b22 0),(62,.bool (zra_2y18 == 5))] [gz,.g [.K 3 2],gz,gz,gz,gz] rfl (Ok.segEnd rfl (Ok.restr [3,4,7,9,62] [(3,pt (b1+1) 0),(4,pt (b1+1+1) 0),(7,pt b19 0),(9,pt b22 0),(62,.bool (zra_2y18 == 5))] rfl ?_))
        exact J24 ((zra_2y18 == 5))
      have h59 := ne_of_beq_false h59
      refine g0 23 [(3,pt (b1+1) 0),(4,pt (b1+1+1) 0),(7,pt b19 0),(9,pt b22 0),(62,bF)] [gz,gz,gz,gz,gz,gz,gz,gz,gz,gz] rfl (Ok.segEnd rfl (Ok.restr [3,4,7,9,62] [(3,pt (b1+1) 0),(4,pt (b1+1+1) 0),(7,pt b19 0),(9,pt b22 0),(62,bF)] rfl ?_))
      exact J24 (false)
    have h54 := of_decide_eq_false h54
    refine g0 13 [(3,pt (b1+1) 0),(4,pt (b1+1+1) 0),(7,pt b19 0),(9,pt b22 0),(48,bF),(52,.bool ((w64 (1 + (w64 (Int.tmod (IntKind.u64.wrap zb_0) 5)))) == 3))] [gz,gz,gz,gz,gz,gz,.g [.K 4 0],gz,gz] rfl (cs ((w64 (1 + (w64 (Int.tmod (IntKind.u64.wrap zb_0) 5)))) == 3) [52] (fun h66 => ?_) (fun h66 => ?_))
    · have h66 := eq_of_beq h66
      refine g0 17 [(3,pt (b1+1) 0),(4,pt (b1+1+1) 0),(7,pt b19 0),(9,pt b22 0),(48,bF),(52,bT),(56,.bool (zra_2y18 == 1))] [gz,.g [.K 3 2],gz,gz] rfl (cs (zra_2y18 == 1) [56] (fun h68 => ?_) (fun h68 => ?_))
      · have h68 := eq_of_beq h68
        refine g0 23 [(3,pt (b1+1) 0),(4,pt (b1+1+1) 0),(7,pt b19 0),(9,pt b22 0),(62,bT)] [gz,gz,gz,gz,gz,gz] rfl (Ok.segEnd rfl (Ok.restr [3,4,7,9,62] [(3,pt (b1+1) 0),(4,pt (b1+1+1) 0),(7,pt b19 0),(9,pt b22 0),(62,bT)] rfl ?_))
        exact J24 (true)
      have h68 := ne_of_beq_false h68
      refine g0 23 [(3,pt (b1+1) 0),(4,pt (b1+1+1) 0),(7,pt b19 0),(9,pt b22 0),(62,.bool (zra_2y18 == 5))] [gz,.g [.K 3 2],gz,gz,gz,gz] rfl (Ok.segEnd rfl (Ok.restr [3,4,7,9,62] [(3,pt (b1+1) 0),(4,pt (b1+1+1) 0),(7,pt b19 0),(9,pt b22 0),(62,.bool (zra_2y18 == 5))] rfl ?_))
      exact J24 ((zra_2y18 == 5))
    have h66 := ne_of_beq_false h66
    refine g0 23 [(3,pt (b1+1) 0),(4,pt (b1+1+1) 0),(7,pt b19 0),(9,pt b22 0),(62,bF)] [gz,gz,gz,gz,gz,gz,gz,gz,gz,gz] rfl (Ok.segEnd rfl (Ok.restr [3,4,7,9,62] [(3,pt (b1+1) 0),(4,pt (b1+1+1) 0),(7,pt b19 0),(9,pt b22 0),(62,bF)] rfl ?_))
    exact J24 (false)
  refine (e4 (.g [.N]) (fun b72 => [(3,pt (b1+1) 0),(4,pt (b1+1+1) 0),(7,pt b72 0),(17,.agg #[.slice Aa_0 na_0 ca_0,iw za_1]),(27,iw ze13_0)]) (fun b72 => [.blk b1 [.slice Aa_0 na_0 ca_0,iw za_1] 34,.blk (b1+1) [iw zb_0,iw zb_1,iw zb_2] 45,.blk (b1+1+1) [iw 0,iw 0,iw 0] 45,.blk b72 [iw 0,s0,iw 0,iw 0] 41]) (fun b72 => ?_))
  refine ws [0,1,2] (SLe.refl _) ?_
  refine on 11 5 rfl (ca (some 28) (c6 H4 Aa_0 (na_0) (ca_0) za_1 ze13_0 (WfS.mono le5 ha_0)) ?_)
  rintro v73 H74 k76 le75 ⟨zra_0y77,sra_1y77,zra_2y77,zra_3y77,brb_0y77,rfl,tra_1y77⟩
  refine ws [0,1,2] le75 ?_
  refine tk 2 [(12,gz),(13,gz),(14,gz)] [(3,pt (b1+1) 0),(4,pt (b1+1+1) 0),(7,pt b72 0),(29,.agg #[iw zra_0y77,.string sra_1y77,iw zra_2y77,iw zra_3y77]),(30,.bool brb_0y77)] rfl ?_
  refine on 16 1 rfl (e1 (.g [.K 3 0,.K 3 1,.K 3 2,.K 3 3]) [(3,pt (b1+1) 0),(4,pt (b1+1+1) 0),(7,pt b72 0),(30,.bool brb_0y77)] [.blk b1 [.slice Aa_0 na_0 ca_0,iw za_1] 34,.blk (b1+1) [iw zb_0,iw zb_1,iw zb_2] 45,.blk (b1+1+1) [iw 0,iw 0,iw 0] 45,.blk b72 [iw zra_0y77,.string sra_1y77,iw zra_2y77,iw zra_3y77] 41] ?_)
  refine ws [0,1,2] le75 ?_
  refine on 17 0 rfl (e0 (gz) [(3,pt (b1+1) 0),(4,pt (b1+1+1) 0),(7,pt b72 0)] ?_)
  refine ws [0,1,2] le75 ?_
  refine dn (sr ?_)
  have tm81 := tmod_lit (IntKind.u64.wrap zb_0) 5 (by decide)
  refine g4 11 (fun b80 => [(3,pt (b1+1) 0),(4,pt (b1+1+1) 0),(7,pt b72 0),(9,pt b80 0)]) (fun b80 => [.blk b1 [.slice Aa_0 na_0 ca_0,iw za_1] 34,.blk (b1+1) [iw zb_0,iw zb_1,iw zb_2] 45,.blk (b1+1+1) [iw 0,iw 0,iw 0] 45,.blk b72 [iw zra_0y77,.string sra_1y77,iw zra_2y77,iw zra_3y77] 41,.blk b80 [iw (w64 (1 + (w64 (Int.tmod (IntKind.u64.wrap zb_0) 5)))),iw zra_0y77,iw 0] 45]) [gz,.g [.K 1 0],gz,gz,gz,gz,gz,.g [.K 3 0],gz,.g [.N],.g [.K 4 0,.K 4 1,.K 4 2]] rfl (fun b80 => (en rfl ?_))
  refine Ok.seq (Ok.seq (Ok.regJ (ι := Bool) (fun y83 => [(3,pt (b1+1) 0),(4,pt (b1+1+1) 0),(7,pt b72 0),(9,pt b80 0),(62,.bool y83)]) ?_ (fun J82 => ?_)))
  · rintro bJ82_62
    refine Ok.thenN (cd bJ82_62 (fun h84 => ?_) (fun h84 => ?_))
    · refine Ok.reg (g1 2 [(3,pt (b1+1) 0),(4,pt (b1+1+1) 0),(7,pt b72 0),(9,pt b80 0)] [.blk b1 [.slice Aa_0 na_0 ca_0,iw za_1] 34,.blk (b1+1) [iw zb_0,iw zb_1,iw zb_2] 45,.blk (b1+1+1) [iw 0,iw 0,iw 0] 45,.blk b72 [iw zra_0y77,.string sra_1y77,iw zra_2y77,iw zra_3y77] 41,.blk b80 [iw 2,iw zra_0y77,iw 0] 45] [gz,.g [.K 4 0]] rfl (en rfl (Ok.seq (Ok.blk (sr (g0 4 [(3,pt (b1+1) 0),(4,pt (b1+1+1) 0),(7,pt b72 0),(9,pt b80 0),(64,bT)] [gz,.g [.K 4 0],gz,gz] rfl (en rfl (cT (Ok.reg ?_)))))))))
      have tm88 := tmod_lit (IntKind.u64.wrap zb_2) 1024 (by decide)
      refine g1 8 [(4,pt (b1+1+1) 0),(9,pt b80 0)] [.blk b1 [.slice Aa_0 na_0 ca_0,iw za_1] 34,.blk (b1+1) [iw zb_0,iw zb_1,iw zb_2] 45,.blk (b1+1+1) [iw 0,iw 0,iw 0] 45,.blk b72 [iw zra_0y77,.string sra_1y77,iw zra_2y77,iw zra_3y77] 41,.blk b80 [iw 2,iw zra_0y77,iw (w64 (1 + (w64 (Int.tmod (IntKind.u64.wrap zb_2) 1024))))] 45] [gz,.g [.K 1 2],gz,gz,gz,gz,gz,.g [.K 4 2]] rfl (Ok.mask [false,false,true,false,true] [.blk (b1+1+1) [iw 0,iw 0,iw 0] 45,.blk b80 [iw 2,iw zra_0y77,iw (w64 (1 + (w64 (Int.tmod (IntKind.u64.wrap zb_2) 1024))))] 45] rfl ?_)
      refine Ok.segEnd rfl (Ok.blkN (Ok.thenN (sr (g1 3 [(4,pt (b1+1+1) 0),(5,bT)] [.blk (b1+1+1) [iw 2,iw zra_0y77,iw (w64 (1 + (w64 (Int.tmod (IntKind.u64.wrap zb_2) 1024))))] 45,.blk b80 [iw 2,iw zra_0y77,iw (w64 (1 + (w64 (Int.tmod (IntKind.u64.wrap zb_2) 1024))))] 45] [.g [.K 1 0,.K 1 1,.K 1 2],.g [.K 0 0,.K 0 1,.K 0 2],gz] rfl (en rfl (Ok.ret_ ?_))))))
      exact Ok.ret2c (tr le5 le75) [.K 0 0,.K 0 1,.K 0 2] (.agg #[iw 2,iw zra_0y77,iw (w64 (1 + (w64 (Int.tmod (IntKind.u64.wrap zb_2) 1024))))]) (bT) [b1+1+1,b1+1+1,b1+1+1] rfl (by kernel_rfl) rfl ⟨2,zra_0y77,(w64 (1 + (w64 (Int.tmod (IntKind.u64.wrap zb_2) 1024)))),true,rfl⟩
    refine skn (Ok.seq (Ok.blk (sr (g0 4 [(3,pt (b1+1) 0),(4,pt (b1+1+1) 0),(7,pt b72 0),(9,pt b80 0),(64,.bool ((w64 (1 + (w64 (Int.tmod (IntKind.u64.wrap zb_0) 5)))) == 2))] [gz,.g [.K 4 0],gz,gz] rfl (en rfl (cd ((w64 (1 + (w64 (Int.tmod (IntKind.u64.wrap zb_0) 5)))) == 2) (fun h91 => ?_) (fun h91 => ?_)))))))
    · have h91 := eq_of_beq h91
      refine Ok.reg ?_
      have tm93 := tmod_lit (IntKind.u64.wrap zb_2) 1024 (by decide)
      refine g1 8 [(4,pt (b1+1+1) 0),(9,pt b80 0)] [.blk b1 [.slice Aa_0 na_0 ca_0,iw za_1] 34,.blk (b1+1) [iw zb_0,iw zb_1,iw zb_2] 45,.blk (b1+1+1) [iw 0,iw 0,iw 0] 45,.blk b72 [iw zra_0y77,.string sra_1y77,iw zra_2y77,iw zra_3y77] 41,.blk b80 [iw (w64 (1 + (w64 (Int.tmod (IntKind.u64.wrap zb_0) 5)))),iw zra_0y77,iw (w64 (1 + (w64 (Int.tmod (IntKind.u64.wrap zb_2) 1024))))] 45] [gz,.g [.K 1 2],gz,gz,gz,gz,gz,.g [.K 4 2]] rfl (Ok.mask [false,false,true,false,true] [.blk (b1+1+1) [iw 0,iw 0,iw 0] 45,.blk b80 [iw (w64 (1 + (w64 (Int.tmod (IntKind.u64.wrap zb_0) 5)))),iw zra_0y77,iw (w64 (1 + (w64 (Int.tmod (IntKind.u64.wrap zb_2) 1024))))] 45] rfl ?_)
      refine Ok.segEnd rfl (Ok.blkN (Ok.thenN (sr (g1 3 [(4,pt (b1+1+1) 0),(5,bT)] [.blk (b1+1+1) [iw (w64 (1 + (w64 (Int.tmod (IntKind.u64.wrap zb_0) 5)))),iw zra_0y77,iw (w64 (1 + (w64 (Int.tmod (IntKind.u64.wrap zb_2) 1024))))] 45,.blk b80 [iw (w64 (1 + (w64 (Int.tmod (IntKind.u64.wrap zb_0) 5)))),iw zra_0y77,iw (w64 (1 + (w64 (Int.tmod (IntKind.u64.wrap zb_2) 1024))))] 45] [.g [.K 1 0,.K 1 1,.K 1 2],.g [.K 0 0,.K 0 1,.K 0 2],gz] rfl (en rfl (Ok.ret_ ?_))))))
      exact Ok.ret2c (tr le5 le75) [.K 0 0,.K 0 1,.K 0 2] (.agg #[iw (w64 (1 + (w64 (Int.tmod (IntKind.u64.wrap zb_0) 5)))),iw zra_0y77,iw (w64 (1 + (w64 (Int.tmod (IntKind.u64.wrap zb_2) 1024))))]) (bT) [b1+1+1,b1+1+1,b1+1+1] rfl (by kernel_rfl) rfl ⟨(w64 (1 + (w64 (Int.tmod (IntKind.u64.wrap zb_0) 5)))),zra_0y77,(w64 (1 + (w64 (Int.tmod (IntKind.u64.wrap zb_2) 1024)))),true,rfl⟩
    have h91 := ne_of_beq_false h91
    refine Ok.seq (Ok.regJ (ι := Bool) (fun y96 => [(3,pt (b1+1) 0),(4,pt (b1+1+1) 0),(9,pt b80 0),(75,.bool y96)]) ?_ (fun J95 => ?_))
    · rintro bJ95_75
      refine Ok.thenN (cd bJ95_75 (fun h97 => ?_) (fun h97 => ?_))
      · refine Ok.reg ?_
        have tm99 := tmod_lit (IntKind.u64.wrap zb_2) 200 (by decide)
        refine g1 8 [(4,pt (b1+1+1) 0),(9,pt b80 0)] [.blk b1 [.slice Aa_0 na_0 ca_0,iw za_1] 34,.blk (b1+1) [iw zb_0,iw zb_1,iw zb_2] 45,.blk (b1+1+1) [iw 0,iw 0,iw 0] 45,.blk b72 [iw zra_0y77,.string sra_1y77,iw zra_2y77,iw zra_3y77] 41,.blk b80 [iw (w64 (1 + (w64 (Int.tmod (IntKind.u64.wrap zb_0) 5)))),iw zra_0y77,iw (w64 (1 + (w64 (Int.tmod (IntKind.u64.wrap zb_2) 200))))] 45] [gz,.g [.K 1 2],gz,gz,gz,gz,gz,.g [.K 4 2]] rfl (Ok.mask [false,false,true,false,true] [.blk (b1+1+1) [iw 0,iw 0,iw 0] 45,.blk b80 [iw (w64 (1 + (w64 (Int.tmod (IntKind.u64.wrap zb_0) 5)))),iw zra_0y77,iw (w64 (1 + (w64 (Int.tmod (IntKind.u64.wrap zb_2) 200))))] 45] rfl ?_)
        refine Ok.segEnd rfl (Ok.blkN (Ok.thenN (sr (g1 3 [(4,pt (b1+1+1) 0),(5,bT)] [.blk (b1+1+1) [iw (w64 (1 + (w64 (Int.tmod (IntKind.u64.wrap zb_0) 5)))),iw zra_0y77,iw (w64 (1 + (w64 (Int.tmod (IntKind.u64.wrap zb_2) 200))))] 45,.blk b80 [iw (w64 (1 + (w64 (Int.tmod (IntKind.u64.wrap zb_0) 5)))),iw zra_0y77,iw (w64 (1 + (w64 (Int.tmod (IntKind.u64.wrap zb_2) 200))))] 45] [.g [.K 1 0,.K 1 1,.K 1 2],.g [.K 0 0,.K 0 1,.K 0 2],gz] rfl (en rfl (Ok.ret_ ?_))))))
        exact Ok.ret2c (tr le5 le75) [.K 0 0,.K 0 1,.K 0 2] (.agg #[iw (w64 (1 + (w64 (Int.tmod (IntKind.u64.wrap zb_0) 5)))),iw zra_0y77,iw (w64 (1 + (w64 (Int.tmod (IntKind.u64.wrap zb_2) 200))))]) (bT) [b1+1+1,b1+1+1,b1+1+1] rfl (by kernel_rfl) rfl ⟨(w64 (1 + (w64 (Int.tmod (IntKind.u64.wrap zb_0) 5)))),zra_0y77,(w64 (1 + (w64 (Int.tmod (IntKind.u64.wrap zb_2) 200)))),true,rfl⟩
      refine sr (g0 4 [(3,pt (b1+1) 0),(4,pt (b1+1+1) 0),(9,pt b80 0),(91,.bool ((w64 (1 + (w64 (Int.tmod (IntKind.u64.wrap zb_0) 5)))) == 3))] [gz,.g [.K 4 0],gz,gz] rfl (Ok.mask [false,true,true,false,true] [.blk (b1+1) [iw zb_0,iw zb_1,iw zb_2] 45,.blk (b1+1+1) [iw 0,iw 0,iw 0] 45,.blk b80 [iw (w64 (1 + (w64 (Int.tmod (IntKind.u64.wrap zb_0) 5)))),iw zra_0y77,iw 0] 45] rfl ?_))
      refine en rfl (cd ((w64 (1 + (w64 (Int.tmod (IntKind.u64.wrap zb_0) 5)))) == 3) (fun h102 => ?_) (fun h102 => ?_))
      · have h102 := eq_of_beq h102
        refine Ok.reg ?_
        have tm104 := tmod_lit (IntKind.u64.wrap zb_2) 2147483647 (by decide)
        refine g1 8 [(4,pt (b1+1+1) 0),(9,pt b80 0)] [.blk (b1+1) [iw zb_0,iw zb_1,iw zb_2] 45,.blk (b1+1+1) [iw 0,iw 0,iw 0] 45,.blk b80 [iw (w64 (1 + (w64 (Int.tmod (IntKind.u64.wrap zb_0) 5)))),iw zra_0y77,iw (w64 (1 + (w64 (Int.tmod (IntKind.u64.wrap zb_2) 2147483647))))] 45] [gz,.g [.K 0 2],gz,gz,gz,gz,gz,.g [.K 2 2]] rfl (Ok.segEnd rfl (Ok.blkN ?_))
        refine Ok.thenN (sr (g1 3 [(4,pt (b1+1+1) 0),(5,bT)] [.blk (b1+1) [iw zb_0,iw zb_1,iw zb_2] 45,.blk (b1+1+1) [iw (w64 (1 + (w64 (Int.tmod (IntKind.u64.wrap zb_0) 5)))),iw zra_0y77,iw (w64 (1 + (w64 (Int.tmod (IntKind.u64.wrap zb_2) 2147483647))))] 45,.blk b80 [iw (w64 (1 + (w64 (Int.tmod (IntKind.u64.wrap zb_0) 5)))),iw zra_0y77,iw (w64 (1 + (w64 (Int.tmod (IntKind.u64.wrap zb_2) 2147483647))))] 45] [.g [.K 2 0,.K 2 1,.K 2 2],.g [.K 1 0,.K 1 1,.K 1 2],gz] rfl (Ok.mask [false,true,false] [.blk (b1+1+1) [iw (w64 (1 + (w64 (Int.tmod (IntKind.u64.wrap zb_0) 5)))),iw zra_0y77,iw (w64 (1 + (w64 (Int.tmod (IntKind.u64.wrap zb_2) 2147483647))))] 45] rfl ?_)))
        refine en rfl (Ok.ret_ ?_)
        exact Ok.ret2c (tr le5 le75) [.K 0 0,.K 0 1,.K 0 2] (.agg #[iw (w64 (1 + (w64 (Int.tmod (IntKind.u64.wrap zb_0) 5)))),iw zra_0y77,iw (w64 (1 + (w64 (Int.tmod (IntKind.u64.wrap zb_2) 2147483647))))]) (bT) [b1+1+1,b1+1+1,b1+1+1] rfl (by kernel_rfl) rfl ⟨(w64 (1 + (w64 (Int.tmod (IntKind.u64.wrap zb_0) 5)))),zra_0y77,(w64 (1 + (w64 (Int.tmod (IntKind.u64.wrap zb_2) 2147483647)))),true,rfl⟩
      have h102 := ne_of_beq_false h102
      refine Ok.skip_ (Ok.blkN (Ok.thenN (sr (g1 3 [(4,pt (b1+1+1) 0),(5,bT)] [.blk (b1+1) [iw zb_0,iw zb_1,iw zb_2] 45,.blk (b1+1+1) [iw (w64 (1 + (w64 (Int.tmod (IntKind.u64.wrap zb_0) 5)))),iw zra_0y77,iw 0] 45,.blk b80 [iw (w64 (1 + (w64 (Int.tmod (IntKind.u64.wrap zb_0) 5)))),iw zra_0y77,iw 0] 45] [.g [.K 2 0,.K 2 1,.K 2 2],.g [.K 1 0,.K 1 1,.K 1 2],gz] rfl (Ok.mask [false,true,false] [.blk (b1+1+1) [iw (w64 (1 + (w64 (Int.tmod (IntKind.u64.wrap zb_0) 5)))),iw zra_0y77,iw 0] 45] rfl ?_)))))
      refine en rfl (Ok.ret_ ?_)
      exact Ok.ret2c (tr le5 le75) [.K 0 0,.K 0 1,.K 0 2] (.agg #[iw (w64 (1 + (w64 (Int.tmod (IntKind.u64.wrap zb_0) 5)))),iw zra_0y77,iw 0]) (bT) [b1+1+1,b1+1+1,b1+1+1] rfl (by kernel_rfl) rfl ⟨(w64 (1 + (w64 (Int.tmod (IntKind.u64.wrap zb_0) 5)))),zra_0y77,0,true,rfl⟩
    refine g0 4 [(3,pt (b1+1) 0),(4,pt (b1+1+1) 0),(7,pt b72 0),(9,pt b80 0),(79,.bool ((w64 (1 + (w64 (Int.tmod (IntKind.u64.wrap zb_0) 5)))) == 3))] [gz,.g [.K 4 0],gz,gz] rfl (cs ((w64 (1 + (w64 (Int.tmod (IntKind.u64.wrap zb_0) 5)))) == 3) [79] (fun h108 => ?_) (fun h108 => ?_))
    · have h108 := eq_of_beq h108
      refine g0 9 [(3,pt (b1+1) 0),(4,pt (b1+1+1) 0),(9,pt b80 0),(75,.bool (zra_2y77 == 4))] [gz,.g [.K 3 2],gz,gz,gz] rfl (Ok.segEnd rfl (Ok.restr [3,4,9,75] [(3,pt (b1+1) 0),(4,pt (b1+1+1) 0),(9,pt b80 0),(75,.bool (zra_2y77 == 4))] rfl ?_))
      exact J95 ((zra_2y77 == 4))
    have h108 := ne_of_beq_false h108
    refine g0 9 [(3,pt (b1+1) 0),(4,pt (b1+1+1) 0),(9,pt b80 0),(75,bF)] [gz,gz,gz,gz,gz] rfl (Ok.segEnd rfl (Ok.restr [3,4,9,75] [(3,pt (b1+1) 0),(4,pt (b1+1+1) 0),(9,pt b80 0),(75,bF)] rfl ?_))
    exact J95 (false)
  refine g0 4 [(3,pt (b1+1) 0),(4,pt (b1+1+1) 0),(7,pt b72 0),(9,pt b80 0),(43,.bool (decide ((w64 (1 + (w64 (Int.tmod (IntKind.u64.wrap zb_0) 5)))) ≥ 4)))] [gz,.g [.K 4 0],gz,gz] rfl (cs (decide ((w64 (1 + (w64 (Int.tmod (IntKind.u64.wrap zb_0) 5)))) ≥ 4)) [43] (fun h112 => ?_) (fun h112 => ?_))
  · have h112 := of_decide_eq_true h112
    refine g0 9 [(3,pt (b1+1) 0),(4,pt (b1+1+1) 0),(7,pt b72 0),(9,pt b80 0),(48,.bool (zra_2y77 != 5))] [gz,.g [.K 3 2],gz,gz,gz] rfl (cs (zra_2y77 != 5) [48] (fun h114 => ?_) (fun h114 => ?_))
    · refine g0 23 [(3,pt (b1+1) 0),(4,pt (b1+1+1) 0),(7,pt b72 0),(9,pt b80 0),(62,bT)] [gz,gz,gz,gz,gz,gz,gz,gz,gz,gz,gz,gz,gz,gz] rfl (Ok.segEnd rfl (Ok.restr [3,4,7,9,62] [(3,pt (b1+1) 0),(4,pt (b1+1+1) 0),(7,pt b72 0),(9,pt b80 0),(62,bT)] rfl ?_))
      exact J82 (true)
    refine g0 13 [(3,pt (b1+1) 0),(4,pt (b1+1+1) 0),(7,pt b72 0),(9,pt b80 0),(48,bF),(52,.bool ((w64 (1 + (w64 (Int.tmod (IntKind.u64.wrap zb_0) 5)))) == 3))] [gz,.g [.K 4 0],gz,gz] rfl (cs ((w64 (1 + (w64 (Int.tmod (IntKind.u64.wrap zb_0) 5)))) == 3) [52] (fun h117 => ?_) (fun h117 => ?_))
    · have h117 := eq_of_beq h117
      refine g0 17 [(3,pt (b1+1) 0),(4,pt (b1+1+1) 0),(7,pt b72 0),(9,pt b80 0),(48,bF),(52,bT),(56,.bool (zra_2y77 == 1))] [gz,.g [.K 3 2],gz,gz] rfl (cs (zra_2y77 == 1) [56] (fun h119 => ?_) (fun h119 => ?_))
      · have h119 := eq_of_beq h119
        refine g0 23 [(3,pt (b1+1) 0),(4,pt (b1+1+1) 0),(7,pt b72 0),(9,pt b80 0),(62,bT)] [gz,gz,gz,gz,gz,gz] rfl (Ok.segEnd rfl (Ok.restr [3,4,7,9,62] [(3,pt (b1+1) 0),(4,pt (b1+1+1) 0),(7,pt b72 0),(9,pt b80 0),(62,bT)] rfl ?_))
        exact J82 (true)
      have h119 := ne_of_beq_false h119
      refine g0 23 [(3,pt (b1+1) 0),(4,pt (b1+1+1) 0),(7,pt b72 0),(9,pt b80 0),(62,.bool (zra_2y77 == 5))] [gz,.g [.K 3 2],gz,gz,gz,gz] rfl (Ok.segEnd rfl (Ok.restr [3,4,7,9,62] [(3,pt (b1+1) 0),(4,pt (b1+1+1) 0),(7,pt b72 0),(9,pt b80 0),(62,.bool (zra_2y77 == 5))] rfl ?_))
      exact J82 ((zra_2y77 == 5))
    have h117 := ne_of_beq_false h117
    refine g0 23 [(3,pt (b1+1) 0),(4,pt (b1+1+1) 0),(7,pt b72 0),(9,pt b80 0),(62,bF)] [gz,gz,gz,gz,gz,gz,gz,gz,gz,gz] rfl (Ok.segEnd rfl (Ok.restr [3,4,7,9,62] [(3,pt (b1+1) 0),(4,pt (b1+1+1) 0),(7,pt b72 0),(9,pt b80 0),(62,bF)] rfl ?_))
    exact J82 (false)
  have h112 := of_decide_eq_false h112
  refine g0 13 [(3,pt (b1+1) 0),(4,pt (b1+1+1) 0),(7,pt b72 0),(9,pt b80 0),(48,bF),(52,.bool ((w64 (1 + (w64 (Int.tmod (IntKind.u64.wrap zb_0) 5)))) == 3))] [gz,gz,gz,gz,gz,gz,.g [.K 4 0],gz,gz] rfl (cs ((w64 (1 + (w64 (Int.tmod (IntKind.u64.wrap zb_0) 5)))) == 3) [52] (fun h124 => ?_) (fun h124 => ?_))
  · have h124 := eq_of_beq h124
    refine g0 17 [(3,pt (b1+1) 0),(4,pt (b1+1+1) 0),(7,pt b72 0),(9,pt b80 0),(48,bF),(52,bT),(56,.bool (zra_2y77 == 1))] [gz,.g [.K 3 2],gz,gz] rfl (cs (zra_2y77 == 1) [56] (fun h126 => ?_) (fun h126 => ?_))
    · have h126 := eq_of_beq h126
      refine g0 23 [(3,pt (b1+1) 0),(4,pt (b1+1+1) 0),(7,pt b72 0),(9,pt b80 0),(62,bT)] [gz,gz,gz,gz,gz,gz] rfl (Ok.segEnd rfl (Ok.restr [3,4,7,9,62] [(3,pt (b1+1) 0),(4,pt (b1+1+1) 0),(7,pt b72 0),(9,pt b80 0),(62,bT)] rfl ?_))
      exact J82 (true)
    have h126 := ne_of_beq_false h126
    refine g0 23 [(3,pt (b1+1) 0),(4,pt (b1+1+1) 0),(7,pt b72 0),(9,pt b80 0),(62,.bool (zra_2y77 == 5))] [gz,.g [.K 3 2],gz,gz,gz,gz] rfl (Ok.segEnd rfl (Ok.restr [3,4,7,9,62] [(3,pt (b1+1) 0),(4,pt (b1+1+1) 0),(7,pt b72 0),(9,pt b80 0),(62,.bool (zra_2y77 == 5))] rfl ?_))
    exact J82 ((zra_2y77 == 5))
  have h124 := ne_of_beq_false h124
  refine g0 23 [(3,pt (b1+1) 0),(4,pt (b1+1+1) 0),(7,pt b72 0),(9,pt b80 0),(62,bF)] [gz,gz,gz,gz,gz,gz,gz,gz,gz,gz] rfl (Ok.segEnd rfl (Ok.restr [3,4,7,9,62] [(3,pt (b1+1) 0),(4,pt (b1+1+1) 0),(7,pt b72 0),(9,pt b80 0),(62,bF)] rfl ?_))
  exact J82 (false)
theorem c23 (H : Snap) (Aa_0 : Option Addr) (na_0 : Nat) (ca_0 : Nat) (za_1 : Int) (Ab_0 : Option Addr) (nb_0 : Nat) (cb_0 : Nat) (ha_0 : WfS H el41 Aa_0 na_0) (hb_0 : WfS H el45 Ab_0 nb_0) (hq0 : na_0 ≤ 1000) : Does Tryz.prog 23 [.agg #[.slice Aa_0 na_0 ca_0,iw za_1],.slice Ab_0 nb_0 cb_0] H [] (fun v H' kp => ∃ (Ara_0 : Option Addr) (nra_0 : Nat) (cra_0 : Nat),v = .slice Ara_0 nra_0 cra_0 ∧ WfS H' el45 Ara_0 nra_0 ∧ nra_0 ≤ 8) := by
  have lha_0 := ha_0.1
  have lhb_0 := hb_0.1
  refine Does.of Tryz.func23 rfl rfl rfl rfl (fun w0 H0 kx => ?_)
  refine sr (g4 2 (fun b1 => [(1,.slice Ab_0 nb_0 cb_0),(2,pt b1 0)]) (fun b1 => [.blk b1 [.slice Aa_0 na_0 ca_0,iw za_1] 34]) [.g [.N],gz] rfl (fun b1 => (en rfl ?_)))
  refine sr (g4 2 (fun b2 => [(1,.slice Ab_0 nb_0 cb_0),(2,pt b1 0),(5,sl b2 0 0 0)]) (fun b2 => [.blk b1 [.slice Aa_0 na_0 ca_0,iw za_1] 34,.blk b2 [] 45]) [.g [.N],gz] rfl (fun b2 => (en rfl ?_)))
  refine Ok.seq (sr (g0 1 [(1,.slice Ab_0 nb_0 cb_0),(2,pt b1 0),(5,sl b2 0 0 0),(6,iw 0)] [gz] rfl (en rfl (Ok.blk (Ok.blkRow (b := b2) (t := 45) (cs := []) 1 (n := 0) (cap := 0) (sz := 3) rfl rfl rfl rfl [] rfl (Ok.restr [1,2,5,6] [(1,.slice Ab_0 nb_0 cb_0),(2,pt b1 0),(5,sl b2 0 0 0),(6,iw 0)] rfl (Ok.loop (fun H' fr kb m => ∃ (zL4_6 : Int) (AL4r1 : Option Addr) (nL4r1 : Nat) (cL4r1 : Nat) (xL4r1 : List Value),fr = [(1,.slice Ab_0 nb_0 cb_0),(2,pt b1 0),(5,.slice AL4r1 nL4r1 cL4r1),(6,iw zL4_6)] ∧ kb = [.blk b1 [.slice Aa_0 na_0 ca_0,iw za_1] 34,.row (.slice AL4r1 nL4r1 cL4r1) nL4r1 3 45 xL4r1] ∧ m = ((8) - zL4_6).toNat ∧ SLe H H' ∧ 0 ≤ zL4_6 ∧ zL4_6 ≤ 8 ∧ ((nL4r1 : Nat) : Int) ≤ zL4_6 ∧ Elems H' el45 nL4r1 xL4r1) _ ⟨0,((some ⟨b2,0,none⟩)),0,0,[],rfl,rfl,rfl,SLe.refl _,by decide,by omega,by omega,(Elems.nil el45)⟩ ?_)))))))
  rintro H5 _ _ mL4 ⟨zL4_6,AL4r1,nL4r1,cL4r1,xL4r1,rfl,rfl,hmL4,le6,fL4_0,fL4_1,fL4_2,EL4r1⟩
  refine Ok.seq (sr (g0 5 [(1,.slice Ab_0 nb_0 cb_0),(2,pt b1 0),(5,.slice AL4r1 nL4r1 cL4r1),(6,iw zL4_6),(14,.bool (decide (zL4_6 < ((nb_0 : Nat) : Int))))] [gz,gz,gz,gz,gz] rfl (cs (decide (zL4_6 < ((nb_0 : Nat) : Int))) [14] (fun h8 => ?_) (fun h8 => ?_))))
  · have h8 := of_decide_eq_true h8
    refine g0 8 [(1,.slice Ab_0 nb_0 cb_0),(2,pt b1 0),(5,.slice AL4r1 nL4r1 cL4r1),(6,iw zL4_6),(17,.bool (decide (zL4_6 < 8)))] [gz,gz,gz] rfl (en rfl (cd (decide (zL4_6 < 8)) (fun h10 => ?_) (fun h10 => ?_)))
    · have h10 := of_decide_eq_true h10
      refine skn (Ok.seq (Ok.blk (Ok.seq (st [0,1] [] 12 ?_))))
      have ie11 : 0 ≤ zL4_6 ∧ zL4_6 < ((nb_0 : Nat) : Int) := by omega
      obtain ⟨je11,cse11,we11,he11⟩ := (WfS.mono le6 hb_0).at_ zL4_6 ie11.1 ie11.2
      obtain ⟨ue11_0,le11_0,rfl,ve11_0,we11_0⟩ := wfl_cons we11
      obtain ⟨ze11_0,rfl⟩ := wfv_int ve11_0
      obtain ⟨ue11_1,le11_1,rfl,ve11_1,we11_1⟩ := wfl_cons we11_0
      obtain ⟨ze11_1,rfl⟩ := wfv_int ve11_1
      obtain ⟨ue11_2,le11_2,rfl,ve11_2,we11_2⟩ := wfl_cons we11_1
      obtain ⟨ze11_2,rfl⟩ := wfv_int ve11_2
      obtain rfl := wfl_nil we11_2
      refine tx 7 [(0,.g [.K 0 0,.K 0 1]),(1,gz),(2,gz),(3,.ix),(4,.g [.X (iw ze11_0),.X (iw ze11_1),.X (iw ze11_2)])] [(1,.slice Ab_0 nb_0 cb_0),(2,pt b1 0),(5,.slice AL4r1 nL4r1 cL4r1),(6,iw zL4_6),(21,.agg #[.slice Aa_0 na_0 ca_0,iw za_1]),(25,.agg #[iw ze11_0,iw ze11_1,iw ze11_2])] (ex1 (And.intro je11 ie11) (ex1 (cell0 (he11 0 _ rfl)) (ex1 (he11 (1) _ rfl) (ex1 (he11 (2) _ rfl) ex0)))) rfl ?_
      refine o2 5 9 6 rfl ?_ ?_
      · refine (ca (some 26) (c48 H5 Aa_0 (na_0) (ca_0) za_1 ze11_0 ze11_1 ze11_2 (WfS.mono le6 ha_0) (by omega)) ?_)
        rintro v12 H13 k15 le14 ⟨zra_0y16,zra_1y16,zra_2y16,brb_0y16,rfl⟩
        refine ws [0,1] le14 ?_
        refine tk 3 [(6,gz),(7,gz),(8,gz)] [(1,.slice Ab_0 nb_0 cb_0),(2,pt b1 0),(5,.slice AL4r1 nL4r1 cL4r1),(6,iw zL4_6),(27,.agg #[iw zra_0y16,iw zra_1y16,iw zra_2y16]),(28,.bool brb_0y16)] rfl ?_
        refine on 9 2 rfl (e4 (.g [.N]) (fun b17 => [(1,.slice Ab_0 nb_0 cb_0),(2,pt b1 0),(5,.slice AL4r1 nL4r1 cL4r1),(6,iw zL4_6),(7,pt b17 0),(27,.agg #[iw zra_0y16,iw zra_1y16,iw zra_2y16]),(28,.bool brb_0y16)]) (fun b17 => [.blk b1 [.slice Aa_0 na_0 ca_0,iw za_1] 34,.row (.slice AL4r1 nL4r1 cL4r1) nL4r1 3 45 xL4r1,.blk b17 [iw 0,iw 0,iw 0] 45]) (fun b17 => ?_))
        refine ws [0,1] le14 ?_
        refine on 10 1 rfl (e1 (.g [.K 2 0,.K 2 1,.K 2 2]) [(1,.slice Ab_0 nb_0 cb_0),(2,pt b1 0),(5,.slice AL4r1 nL4r1 cL4r1),(6,iw zL4_6),(7,pt b17 0),(28,.bool brb_0y16)] [.blk b1 [.slice Aa_0 na_0 ca_0,iw za_1] 34,.row (.slice AL4r1 nL4r1 cL4r1) nL4r1 3 45 xL4r1,.blk b17 [iw zra_0y16,iw zra_1y16,iw zra_2y16] 45] ?_)
        refine ws [0,1] le14 ?_
        refine on 11 0 rfl (e0 (gz) [(1,.slice Ab_0 nb_0 cb_0),(2,pt b1 0),(5,.slice AL4r1 nL4r1 cL4r1),(6,iw zL4_6),(7,pt b17 0),(8,.bool brb_0y16)] ?_)
        refine ws [0,1] le14 ?_
        refine dn (sr (g0 1 [(1,.slice Ab_0 nb_0 cb_0),(2,pt b1 0),(5,.slice AL4r1 nL4r1 cL4r1),(6,iw zL4_6),(7,pt b17 0),(29,.bool brb_0y16)] [gz] rfl (en rfl (cd brb_0y16 (fun h21 => ?_) (fun h21 => ?_)))))
        · refine Ok.reg (g4 3 (fun b22 => [(1,.slice Ab_0 nb_0 cb_0),(2,pt b1 0),(6,iw zL4_6),(30,.slice AL4r1 nL4r1 cL4r1),(32,sl b22 0 1 1)]) (fun b22 => [.blk b1 [.slice Aa_0 na_0 ca_0,iw za_1] 34,.row (.slice AL4r1 nL4r1 cL4r1) nL4r1 3 45 xL4r1,.blk b17 [iw zra_0y16,iw zra_1y16,iw zra_2y16] 45,.blk b22 [iw zra_0y16,iw zra_1y16,iw zra_2y16] 45]) [gz,.g [.K 2 0,.K 2 1,.K 2 2],.g [.N]] rfl (fun b22 => (ef 4 rfl (Eff.appendN (t := 23) (d := some 33) (ad := ⟨b22,0,none⟩) (m := 1) (c := 1) 1 rfl (by kernel_rfl) 100000000 (by kernel_rfl) (by omega) rfl [iw zra_0y16,iw zra_1y16,iw zra_2y16] (reads_blk (cs := [iw zra_0y16,iw zra_1y16,iw zra_2y16]) 3 rfl 0 3) rfl rfl (by omega) (fun g23 cap24 => ?_)))))
          have E26 : Elems H13 el45 (nL4r1 + 1) (xL4r1 ++ [iw zra_0y16,iw zra_1y16,iw zra_2y16]) := (Elems.snoc (Elems.mono le14 EL4r1) (mkl_cons (mkv_int _ _) (mkl_cons (mkv_int _ _) (mkl_cons (mkv_int _ _) mkl_nil))))
          generalize (xL4r1 ++ [iw zra_0y16,iw zra_1y16,iw zra_2y16]) = x25 at E26 ⊢
          refine g0 5 [(1,.slice Ab_0 nb_0 cb_0),(2,pt b1 0),(5,.slice ((some ⟨g23,0,none⟩)) ((nL4r1 + 1)) cap24),(6,iw zL4_6)] [gz] rfl (Ok.segEnd rfl (Ok.blkN ?_))
          refine Ok.thenN (Ok.reg ?_)
          have k30 := wid (x := zL4_6 + 1) (by omega)
          refine g0 3 [(1,.slice Ab_0 nb_0 cb_0),(2,pt b1 0),(5,.slice ((some ⟨g23,0,none⟩)) ((nL4r1 + 1)) cap24),(6,iw (w64 (zL4_6 + 1)))] [gz,gz,gz] rfl (en rfl (Ok.restr [1,2,5,6] [(1,.slice Ab_0 nb_0 cb_0),(2,pt b1 0),(5,.slice ((some ⟨g23,0,none⟩)) ((nL4r1 + 1)) cap24),(6,iw (w64 (zL4_6 + 1)))] rfl (Ok.mask [true,true,false,false] [.blk b1 [.slice Aa_0 na_0 ca_0,iw za_1] 34,.row (.slice ((some ⟨g23,0,none⟩)) ((nL4r1 + 1)) cap24) ((nL4r1 + 1)) 3 45 x25] rfl ?_)))
          exact Ok.again _ ⟨(w64 (zL4_6 + 1)),((some ⟨g23,0,none⟩)),(nL4r1 + 1),cap24,x25,rfl,rfl,rfl,(tr le6 le14),by omega,by omega,by omega,E26⟩ (by omega)
        refine Ok.skip_ (Ok.blkN (Ok.thenN (Ok.reg ?_)))
        have k32 := wid (x := zL4_6 + 1) (by omega)
        refine g0 3 [(1,.slice Ab_0 nb_0 cb_0),(2,pt b1 0),(5,.slice AL4r1 nL4r1 cL4r1),(6,iw (w64 (zL4_6 + 1)))] [gz,gz,gz] rfl (en rfl (Ok.restr [1,2,5,6] [(1,.slice Ab_0 nb_0 cb_0),(2,pt b1 0),(5,.slice AL4r1 nL4r1 cL4r1),(6,iw (w64 (zL4_6 + 1)))] rfl (Ok.mask [true,true,false] [.blk b1 [.slice Aa_0 na_0 ca_0,iw za_1] 34,.row (.slice AL4r1 nL4r1 cL4r1) nL4r1 3 45 xL4r1] rfl ?_)))
        exact Ok.again _ ⟨(w64 (zL4_6 + 1)),AL4r1,nL4r1,cL4r1,xL4r1,rfl,rfl,rfl,(tr le6 le14),by omega,by omega,by omega,(Elems.mono le14 EL4r1)⟩ (by omega)
      refine (e4 (.g [.N]) (fun b33 => [(1,.slice Ab_0 nb_0 cb_0),(2,pt b1 0),(5,.slice AL4r1 nL4r1 cL4r1),(6,iw zL4_6),(7,pt b33 0),(21,.agg #[.slice Aa_0 na_0 ca_0,iw za_1]),(25,.agg #[iw ze11_0,iw ze11_1,iw ze11_2])]) (fun b33 => [.blk b1 [.slice Aa_0 na_0 ca_0,iw za_1] 34,.row (.slice AL4r1 nL4r1 cL4r1) nL4r1 3 45 xL4r1,.blk b33 [iw 0,iw 0,iw 0] 45]) (fun b33 => ?_))
      refine ws [0,1] (SLe.refl _) ?_
      refine on 5 5 rfl (ca (some 26) (c48 H5 Aa_0 (na_0) (ca_0) za_1 ze11_0 ze11_1 ze11_2 (WfS.mono le6 ha_0) (by omega)) ?_)
      rintro v34 H35 k37 le36 ⟨zra_0y38,zra_1y38,zra_2y38,brb_0y38,rfl⟩
      refine ws [0,1] le36 ?_
      refine tk 2 [(6,gz),(7,gz),(8,gz)] [(1,.slice Ab_0 nb_0 cb_0),(2,pt b1 0),(5,.slice AL4r1 nL4r1 cL4r1),(6,iw zL4_6),(7,pt b33 0),(27,.agg #[iw zra_0y38,iw zra_1y38,iw zra_2y38]),(28,.bool brb_0y38)] rfl ?_
      refine on 10 1 rfl (e1 (.g [.K 2 0,.K 2 1,.K 2 2]) [(1,.slice Ab_0 nb_0 cb_0),(2,pt b1 0),(5,.slice AL4r1 nL4r1 cL4r1),(6,iw zL4_6),(7,pt b33 0),(28,.bool brb_0y38)] [.blk b1 [.slice Aa_0 na_0 ca_0,iw za_1] 34,.row (.slice AL4r1 nL4r1 cL4r1) nL4r1 3 45 xL4r1,.blk b33 [iw zra_0y38,iw zra_1y38,iw zra_2y38] 45] ?_)
      refine ws [0,1] le36 ?_
      refine on 11 0 rfl (e0 (gz) [(1,.slice Ab_0 nb_0 cb_0),(2,pt b1 0),(5,.slice AL4r1 nL4r1 cL4r1),(6,iw zL4_6),(7,pt b33 0),(8,.bool brb_0y38)] ?_)
      refine ws [0,1] le36 ?_
      refine dn (sr (g0 1 [(1,.slice Ab_0 nb_0 cb_0),(2,pt b1 0),(5,.slice AL4r1 nL4r1 cL4r1),(6,iw zL4_6),(7,pt b33 0),(29,.bool brb_0y38)] [gz] rfl (en rfl (cd brb_0y38 (fun h42 => ?_) (fun h42 => ?_)))))
      · refine Ok.reg (g4 3 (fun b43 => [(1,.slice Ab_0 nb_0 cb_0),(2,pt b1 0),(6,iw zL4_6),(30,.slice AL4r1 nL4r1 cL4r1),(32,sl b43 0 1 1)]) (fun b43 => [.blk b1 [.slice Aa_0 na_0 ca_0,iw za_1] 34,.row (.slice AL4r1 nL4r1 cL4r1) nL4r1 3 45 xL4r1,.blk b33 [iw zra_0y38,iw zra_1y38,iw zra_2y38] 45,.blk b43 [iw zra_0y38,iw zra_1y38,iw zra_2y38] 45]) [gz,.g [.K 2 0,.K 2 1,.K 2 2],.g [.N]] rfl (fun b43 => (ef 4 rfl (Eff.appendN (t := 23) (d := some 33) (ad := ⟨b43,0,none⟩) (m := 1) (c := 1) 1 rfl (by kernel_rfl) 100000000 (by kernel_rfl) (by omega) rfl [iw zra_0y38,iw zra_1y38,iw zra_2y38] (reads_blk (cs := [iw zra_0y38,iw zra_1y38,iw zra_2y38]) 3 rfl 0 3) rfl rfl (by omega) (fun g44 cap45 => ?_)))))
        have E47 : Elems H35 el45 (nL4r1 + 1) (xL4r1 ++ [iw zra_0y38,iw zra_1y38,iw zra_2y38]) := (Elems.snoc (Elems.mono le36 EL4r1) (mkl_cons (mkv_int _ _) (mkl_cons (mkv_int _ _) (mkl_cons (mkv_int _ _) mkl_nil))))
        generalize (xL4r1 ++ [iw zra_0y38,iw zra_1y38,iw zra_2y38]) = x46 at E47 ⊢
        refine g0 5 [(1,.slice Ab_0 nb_0 cb_0),(2,pt b1 0),(5,.slice ((some ⟨g44,0,none⟩)) ((nL4r1 + 1)) cap45),(6,iw zL4_6)] [gz] rfl (Ok.segEnd rfl (Ok.blkN ?_))
        refine Ok.thenN (Ok.reg ?_)
        have k51 := wid (x := zL4_6 + 1) (by omega)
        refine g0 3 [(1,.slice Ab_0 nb_0 cb_0),(2,pt b1 0),(5,.slice ((some ⟨g44,0,none⟩)) ((nL4r1 + 1)) cap45),(6,iw (w64 (zL4_6 + 1)))] [gz,gz,gz] rfl (en rfl (Ok.restr [1,2,5,6] [(1,.slice Ab_0 nb_0 cb_0),(2,pt b1 0),(5,.slice ((some ⟨g44,0,none⟩)) ((nL4r1 + 1)) cap45),(6,iw (w64 (zL4_6 + 1)))] rfl (Ok.mask [true,true,false,false] [.blk b1 [.slice Aa_0 na_0 ca_0,iw za_1] 34,.row (.slice ((some ⟨g44,0,none⟩)) ((nL4r1 + 1)) cap45) ((nL4r1 + 1)) 3 45 x46] rfl ?_)))
        exact Ok.again _ ⟨(w64 (zL4_6 + 1)),((some ⟨g44,0,none⟩)),(nL4r1 + 1),cap45,x46,rfl,rfl,rfl,(tr le6 le36),by omega,by omega,by omega,E47⟩ (by omega)
      refine Ok.skip_ (Ok.blkN (Ok.thenN (Ok.reg ?_)))
      have k53 := wid (x := zL4_6 + 1) (by omega)
      refine g0 3 [(1,.slice Ab_0 nb_0 cb_0),(2,pt b1 0),(5,.slice AL4r1 nL4r1 cL4r1),(6,iw (w64 (zL4_6 + 1)))] [gz,gz,gz] rfl (en rfl (Ok.restr [1,2,5,6] [(1,.slice Ab_0 nb_0 cb_0),(2,pt b1 0),(5,.slice AL4r1 nL4r1 cL4r1),(6,iw (w64 (zL4_6 + 1)))] rfl (Ok.mask [true,true,false] [.blk b1 [.slice Aa_0 na_0 ca_0,iw za_1] 34,.row (.slice AL4r1 nL4r1 cL4r1) nL4r1 3 45 xL4r1] rfl ?_)))
      exact Ok.again _ ⟨(w64 (zL4_6 + 1)),AL4r1,nL4r1,cL4r1,xL4r1,rfl,rfl,rfl,(tr le6 le36),by omega,by omega,by omega,(Elems.mono le36 EL4r1)⟩ (by omega)
    have h10 := of_decide_eq_false h10
    refine Ok.exit_ (Ok.thenE (Ok.thenE (Ok.blkE (Ok.thenN (sr (g0 2 [(4,.slice AL4r1 nL4r1 cL4r1)] [gz,gz] rfl (en rfl (Ok.ret_ (Ok.pubS 1 rfl EL4r1 (by omega) [.blk b1 [.slice Aa_0 na_0 ca_0,iw za_1] 34] rfl ?_)))))))))
    intro H55 le56 f57
    refine Ok.dropAll ?_
    exact Ok.ret1 (v := .slice AL4r1 nL4r1 cL4r1) (tr le6 le56) rfl rfl ⟨AL4r1,nL4r1,cL4r1,rfl,f57,(by omega)⟩
  have h8 := of_decide_eq_false h8
  refine g0 8 [(1,.slice Ab_0 nb_0 cb_0),(2,pt b1 0),(5,.slice AL4r1 nL4r1 cL4r1),(6,iw zL4_6),(17,bF)] [gz,gz,gz] rfl (en rfl (cF (Ok.exit_ (Ok.thenE (Ok.thenE (Ok.blkE (Ok.thenN (sr (g0 2 [(4,.slice AL4r1 nL4r1 cL4r1)] [gz,gz] rfl (en rfl (Ok.ret_ (Ok.pubS 1 rfl EL4r1 (by omega) [.blk b1 [.slice Aa_0 na_0 ca_0,iw za_1] 34] rfl ?_))))))))))))
  intro H60 le61 f62
  refine Ok.dropAll ?_
  exact Ok.ret1 (v := .slice AL4r1 nL4r1 cL4r1) (tr le6 le61) rfl rfl ⟨AL4r1,nL4r1,cL4r1,rfl,f62,(by omega)⟩
theorem c52 (H : Snap) (Aa_0 : Option Addr) (na_0 : Nat) (ca_0 : Nat) (za_1 : Int) (zb_0 : Int) (ha_0 : WfS H el41 Aa_0 na_0) : Does Tryz.prog 52 [.agg #[.slice Aa_0 na_0 ca_0,iw za_1],iw zb_0] H [] (fun v H' kp => ∃ (zra_0 : Int),v = iw zra_0) := by
  have lha_0 := ha_0.1
  refine Does.of Tryz.func52 rfl rfl rfl rfl (fun w0 H0 kx => ?_)
  refine sr (g4 2 (fun b1 => [(1,iw zb_0),(2,pt b1 0)]) (fun b1 => [.blk b1 [.slice Aa_0 na_0 ca_0,iw za_1] 34]) [.g [.N],gz] rfl (fun b1 => (en rfl ?_)))
  refine Ok.seq (sr (g0 1 [(1,iw zb_0),(2,pt b1 0),(5,iw 0)] [gz] rfl (en rfl (Ok.blk (Ok.restr [1,2,5] [(1,iw zb_0),(2,pt b1 0),(5,iw 0)] rfl (Ok.loop (fun H' fr kb m => ∃ (zL3_5 : Int),fr = [(1,iw zb_0),(2,pt b1 0),(5,iw zL3_5)] ∧ kb = [.blk b1 [.slice Aa_0 na_0 ca_0,iw za_1] 34] ∧ m = ((((na_0 : Nat) : Int)) - zL3_5).toNat ∧ SLe H H' ∧ 0 ≤ zL3_5 ∧ zL3_5 ≤ ((na_0 : Nat) : Int)) _ ⟨0,rfl,rfl,rfl,SLe.refl _,by decide,by omega⟩ ?_))))))
  rintro H4 _ _ mL3 ⟨zL3_5,rfl,rfl,hmL3,le5,fL3_0,fL3_1⟩
  refine Ok.seq (sr (g0 5 [(1,iw zb_0),(2,pt b1 0),(5,iw zL3_5),(10,.bool (decide (zL3_5 < ((na_0 : Nat) : Int))))] [gz,gz,.g [.K 0 0],gz,gz] rfl (en rfl (cd (decide (zL3_5 < ((na_0 : Nat) : Int))) (fun h7 => ?_) (fun h7 => ?_)))))
  · have h7 := of_decide_eq_true h7
    refine skn (Ok.seq (Ok.blk (sr ?_)))
    have ie9 : 0 ≤ zL3_5 ∧ zL3_5 < ((na_0 : Nat) : Int) := by omega
    obtain ⟨je9,cse9,we9,he9⟩ := (WfS.mono le5 ha_0).at_ zL3_5 ie9.1 ie9.2
    obtain ⟨ue9_0,le9_0,rfl,ve9_0,we9_0⟩ := wfl_cons we9
    obtain ⟨ze9_0,rfl⟩ := wfv_int ve9_0
    obtain ⟨ue9_1,le9_1,rfl,ve9_1,we9_1⟩ := wfl_cons we9_0
    obtain ⟨se9_1,rfl,te9_1⟩ := wfv_str ve9_1
    obtain ⟨ue9_2,le9_2,rfl,ve9_2,we9_2⟩ := wfl_cons we9_1
    obtain ⟨ze9_2,rfl⟩ := wfv_int ve9_2
    obtain ⟨ue9_3,le9_3,rfl,ve9_3,we9_3⟩ := wfl_cons we9_2
    obtain ⟨ze9_3,rfl⟩ := wfv_int ve9_3
    obtain rfl := wfl_nil we9_3
    refine g2 8 [(1,iw zb_0),(2,pt b1 0),(5,iw zL3_5),(20,.bool (ze9_0 == zb_0))] [gz,.g [.K 0 0],gz,.ix,gz,.g [.X (iw ze9_0)],gz,gz] (ex1 (And.intro je9 ie9) (ex1 (cell0 (he9 0 _ rfl)) ex0)) rfl (en rfl (cd (ze9_0 == zb_0) (fun h10 => ?_) (fun h10 => ?_)))
    · have h10 := eq_of_beq h10
      refine sr (g2 7 [(4,iw ze9_2)] [gz,.g [.K 0 0],gz,.ix,gz,.g [.X (iw ze9_2)],gz] (ex1 (And.intro je9 ie9) (ex1 (he9 (2) _ rfl) ex0)) rfl (en rfl (Ok.ret_ (Ok.blkR (Ok.thenR (Ok.thenR (Ok.blkR (Ok.thenR (Ok.dropAll ?_)))))))))
      exact Ok.ret1 (v := iw ze9_2) le5 rfl rfl ⟨ze9_2,rfl⟩
    have h10 := ne_of_beq_false h10
    refine Ok.skip_ (Ok.blkN (Ok.thenN (Ok.reg ?_)))
    have k13 := wid (x := zL3_5 + 1) (by omega)
    refine g0 3 [(1,iw zb_0),(2,pt b1 0),(5,iw (w64 (zL3_5 + 1)))] [gz,gz,gz] rfl (en rfl (Ok.restr [1,2,5] [(1,iw zb_0),(2,pt b1 0),(5,iw (w64 (zL3_5 + 1)))] rfl ?_))
    exact Ok.again _ ⟨(w64 (zL3_5 + 1)),rfl,rfl,rfl,le5,by omega,by omega⟩ (by omega)
  have h7 := of_decide_eq_false h7
  refine Ok.exit_ (Ok.thenE (Ok.thenE (Ok.blkE (Ok.thenN (sr (g0 1 [(4,iw 0)] [gz] rfl (en rfl (Ok.ret_ (Ok.dropAll ?_)))))))))
  exact Ok.ret1 (v := iw 0) le5 rfl rfl ⟨0,rfl⟩
theorem c53 (H : Snap) (za_0 : Int) : Does Tryz.prog 53 [iw za_0] H [] (fun v H' kp => ∃ (bra_0 : Bool),v = .bool bra_0) := by
  refine Does.of Tryz.func53 rfl rfl rfl rfl (fun w0 H0 kx => ?_)
  refine sr (g0 1 [(0,iw za_0)] [gz] rfl (en rfl (Ok.seq (Ok.regJ (ι := Bool) (fun y3 => [(2,.bool y3)]) ?_ (fun J2 => ?_)))))
  · rintro bJ2_2
    refine Ok.thenN (Ok.ret_ ?_)
    exact Ok.ret1 (v := .bool bJ2_2) (SLe.refl _) rfl rfl ⟨bJ2_2,rfl⟩
  refine g0 3 [(0,iw za_0),(5,.bool (decide (za_0 ≥ 1)))] [gz,gz,gz] rfl (cs (decide (za_0 ≥ 1)) [5] (fun h5 => ?_) (fun h5 => ?_))
  · have h5 := of_decide_eq_true h5
    refine g0 7 [(2,.bool (decide (za_0 ≤ 5)))] [gz,gz,gz,gz] rfl (Ok.segEnd rfl (Ok.restr [2] [(2,.bool (decide (za_0 ≤ 5)))] rfl ?_))
    exact J2 ((decide (za_0 ≤ 5)))
  have h5 := of_decide_eq_false h5
  refine g0 7 [(2,bF)] [gz,gz,gz,gz] rfl (Ok.segEnd rfl (Ok.restr [2] [(2,bF)] rfl ?_))
  exact J2 (false)
theorem c26 (H : Snap) (Aa_0 : Option Addr) (na_0 : Nat) (ca_0 : Nat) (za_1 : Int) (ha_0 : WfS H el41 Aa_0 na_0) (hq0 : na_0 ≤ 1000) : Does Tryz.prog 26 [.agg #[.slice Aa_0 na_0 ca_0,iw za_1]] H [] (fun v H' kp => ∃ (Ara_0 : Option Addr) (nra_0 : Nat) (cra_0 : Nat),v = .slice Ara_0 nra_0 cra_0 ∧ WfS H' el41 Ara_0 nra_0 ∧ nra_0 ≤ na_0 ∧ ∀ f,AllId H Aa_0 na_0 f → AllId H' Ara_0 nra_0 f) := by
  have lha_0 := ha_0.1
  refine Does.of Tryz.func26 rfl rfl rfl rfl (fun w0 H0 kx => ?_)
  refine sr (g4 2 (fun b1 => [(1,pt b1 0)]) (fun b1 => [.blk b1 [.slice Aa_0 na_0 ca_0,iw za_1] 34]) [.g [.N],gz] rfl (fun b1 => (en rfl ?_)))
  refine sr (g4 2 (fun b2 => [(1,pt b1 0),(3,sl b2 0 0 0)]) (fun b2 => [.blk b1 [.slice Aa_0 na_0 ca_0,iw za_1] 34,.blk b2 [] 41]) [.g [.N],gz] rfl (fun b2 => (en rfl ?_)))
  refine Ok.seq (sr (g0 1 [(1,pt b1 0),(3,sl b2 0 0 0),(4,iw 0)] [gz] rfl (en rfl (Ok.blk (Ok.blkRow (b := b2) (t := 41) (cs := []) 1 (n := 0) (cap := 0) (sz := 4) rfl rfl rfl rfl [] rfl (Ok.restr [1,3,4] [(1,pt b1 0),(3,sl b2 0 0 0),(4,iw 0)] rfl (Ok.loop (fun H' fr kb m => ∃ (zL4_4 : Int) (AL4r1 : Option Addr) (nL4r1 : Nat) (cL4r1 : Nat) (xL4r1 : List Value),fr = [(1,pt b1 0),(3,.slice AL4r1 nL4r1 cL4r1),(4,iw zL4_4)] ∧ kb = [.blk b1 [.slice Aa_0 na_0 ca_0,iw za_1] 34,.row (.slice AL4r1 nL4r1 cL4r1) nL4r1 4 41 xL4r1] ∧ m = ((((na_0 : Nat) : Int)) - zL4_4).toNat ∧ SLe H H' ∧ 0 ≤ zL4_4 ∧ zL4_4 ≤ ((na_0 : Nat) : Int) ∧ ((nL4r1 : Nat) : Int) ≤ zL4_4 ∧ Elems H' el41 nL4r1 xL4r1 ∧ (∀ f,AllId H Aa_0 na_0 f → RowId xL4r1 nL4r1 f)) _ ⟨0,((some ⟨b2,0,none⟩)),0,0,[],rfl,rfl,rfl,SLe.refl _,by decide,by omega,by omega,(Elems.nil el41),(fun f _ => RowId.nil f)⟩ ?_)))))))
  rintro H5 _ _ mL4 ⟨zL4_4,AL4r1,nL4r1,cL4r1,xL4r1,rfl,rfl,hmL4,le6,fL4_0,fL4_1,fL4_2,EL4r1,XL4_0⟩
  refine Ok.seq (sr (g0 5 [(1,pt b1 0),(3,.slice AL4r1 nL4r1 cL4r1),(4,iw zL4_4),(11,.bool (decide (zL4_4 < ((na_0 : Nat) : Int))))] [gz,gz,.g [.K 0 0],gz,gz] rfl (en rfl (cd (decide (zL4_4 < ((na_0 : Nat) : Int))) (fun h8 => ?_) (fun h8 => ?_)))))
  · have h8 := of_decide_eq_true h8
    refine skn (Ok.seq (Ok.blk (sr ?_)))
    have ie10 : 0 ≤ zL4_4 ∧ zL4_4 < ((na_0 : Nat) : Int) := by omega
    obtain ⟨je10,cse10,we10,he10⟩ := (WfS.mono le6 ha_0).at_ zL4_4 ie10.1 ie10.2
    obtain ⟨ue10_0,le10_0,rfl,ve10_0,we10_0⟩ := wfl_cons we10
    obtain ⟨ze10_0,rfl⟩ := wfv_int ve10_0
    obtain ⟨ue10_1,le10_1,rfl,ve10_1,we10_1⟩ := wfl_cons we10_0
    obtain ⟨se10_1,rfl,te10_1⟩ := wfv_str ve10_1
    obtain ⟨ue10_2,le10_2,rfl,ve10_2,we10_2⟩ := wfl_cons we10_1
    obtain ⟨ze10_2,rfl⟩ := wfv_int ve10_2
    obtain ⟨ue10_3,le10_3,rfl,ve10_3,we10_3⟩ := wfl_cons we10_2
    obtain ⟨ze10_3,rfl⟩ := wfv_int ve10_3
    obtain rfl := wfl_nil we10_3
    refine g5 7 (fun b9 => [(1,pt b1 0),(3,.slice AL4r1 nL4r1 cL4r1),(4,iw zL4_4),(5,pt b9 0)]) (fun b9 => [.blk b1 [.slice Aa_0 na_0 ca_0,iw za_1] 34,.row (.slice AL4r1 nL4r1 cL4r1) nL4r1 4 41 xL4r1,.blk b9 [iw ze10_0,.string se10_1,iw ze10_2,iw ze10_3] 41]) [gz,.g [.K 0 0],gz,.ix,.g [.X (iw ze10_0),.X (.string se10_1),.X (iw ze10_2),.X (iw ze10_3)],.g [.N],.g [.K 2 0,.K 2 1,.K 2 2,.K 2 3]] (fun b9 => (ex1 (And.intro je10 ie10) (ex1 (cell0 (he10 0 _ rfl)) (ex1 (he10 (1) _ rfl) (ex1 (he10 (2) _ rfl) (ex1 (he10 (3) _ rfl) ex0)))))) rfl (fun b9 => (en rfl ?_))
    refine sr (g0 3 [(1,pt b1 0),(3,.slice AL4r1 nL4r1 cL4r1),(4,iw zL4_4),(5,pt b9 0),(19,.agg #[.slice Aa_0 na_0 ca_0,iw za_1]),(21,iw ze10_0)] [.g [.K 0 0,.K 0 1],gz,.g [.K 2 0]] rfl (ef 4 rfl (ca (some 22) (c52 H5 Aa_0 (na_0) (ca_0) za_1 ze10_0 (WfS.mono le6 ha_0)) ?_)))
    rintro v12 H13 k15 le14 ⟨zra_0y16,rfl⟩
    refine g1 6 [(1,pt b1 0),(3,.slice AL4r1 nL4r1 cL4r1),(4,iw zL4_4),(5,pt b9 0)] [.blk b1 [.slice Aa_0 na_0 ca_0,iw za_1] 34,.row (.slice AL4r1 nL4r1 cL4r1) nL4r1 4 41 xL4r1,.blk b9 [iw ze10_0,.string se10_1,iw zra_0y16,iw ze10_3] 41] [gz,.g [.K 2 2]] rfl (en rfl (sr (g0 2 [(1,pt b1 0),(3,.slice AL4r1 nL4r1 cL4r1),(4,iw zL4_4),(5,pt b9 0),(25,iw zra_0y16)] [gz,.g [.K 2 2]] rfl (ef 3 rfl (ca (some 26) (c53 H13 zra_0y16) ?_)))))
    rintro v19 H20 k22 le21 ⟨bra_0y23,rfl⟩
    refine en rfl (cd bra_0y23 (fun h25 => ?_) (fun h25 => ?_))
    · refine Ok.reg (g4 3 (fun b26 => [(1,pt b1 0),(4,iw zL4_4),(27,.slice AL4r1 nL4r1 cL4r1),(29,sl b26 0 1 1)]) (fun b26 => [.blk b1 [.slice Aa_0 na_0 ca_0,iw za_1] 34,.row (.slice AL4r1 nL4r1 cL4r1) nL4r1 4 41 xL4r1,.blk b9 [iw ze10_0,.string se10_1,iw zra_0y16,iw ze10_3] 41,.blk b26 [iw ze10_0,.string se10_1,iw zra_0y16,iw ze10_3] 41]) [gz,.g [.K 2 0,.K 2 1,.K 2 2,.K 2 3],.g [.N]] rfl (fun b26 => (ef 4 rfl (Eff.appendN (t := 32) (d := some 30) (ad := ⟨b26,0,none⟩) (m := 1) (c := 1) 1 rfl (by kernel_rfl) 100000000 (by kernel_rfl) (by omega) rfl [iw ze10_0,.string se10_1,iw zra_0y16,iw ze10_3] (reads_blk (cs := [iw ze10_0,.string se10_1,iw zra_0y16,iw ze10_3]) 3 rfl 0 4) rfl rfl (by omega) (fun g27 cap28 => ?_)))))
      have E30 : Elems H20 el41 (nL4r1 + 1) (xL4r1 ++ [iw ze10_0,.string se10_1,iw zra_0y16,iw ze10_3]) := (Elems.snoc (Elems.mono (tr le14 le21) EL4r1) (mkl_cons (mkv_int _ _) (mkl_cons (mkv_str _ te10_1) (mkl_cons (mkv_int _ _) (mkl_cons (mkv_int _ _) mkl_nil)))))
      generalize hx31 : (xL4r1 ++ [iw ze10_0,.string se10_1,iw zra_0y16,iw ze10_3]) = x29 at E30 ⊢
      refine g0 5 [(1,pt b1 0),(3,.slice ((some ⟨g27,0,none⟩)) ((nL4r1 + 1)) cap28),(4,iw zL4_4)] [gz] rfl (Ok.segEnd rfl (Ok.blkN ?_))
      refine Ok.thenN (Ok.reg ?_)
      have k34 := wid (x := zL4_4 + 1) (by omega)
      refine g0 3 [(1,pt b1 0),(3,.slice ((some ⟨g27,0,none⟩)) ((nL4r1 + 1)) cap28),(4,iw (w64 (zL4_4 + 1)))] [gz,gz,gz] rfl (en rfl (Ok.restr [1,3,4] [(1,pt b1 0),(3,.slice ((some ⟨g27,0,none⟩)) ((nL4r1 + 1)) cap28),(4,iw (w64 (zL4_4 + 1)))] rfl (Ok.mask [true,true,false,false] [.blk b1 [.slice Aa_0 na_0 ca_0,iw za_1] 34,.row (.slice ((some ⟨g27,0,none⟩)) ((nL4r1 + 1)) cap28) ((nL4r1 + 1)) 4 41 x29] rfl ?_)))
      exact Ok.again _ ⟨(w64 (zL4_4 + 1)),((some ⟨g27,0,none⟩)),(nL4r1 + 1),cap28,x29,rfl,rfl,rfl,(tr le6 (tr le14 le21)),by omega,by omega,by omega,E30,(fun f hf => hx31 ▸ RowId.snoc (XL4_0 f hf) (Elems.length (Elems.mono (tr le14 le21) EL4r1)) (congrArg _ (AllId.at_ hf (tr le6 (tr le14 le21)) ie10.1 ie10.2 (HasCell.mono (tr le14 le21) (cell0 (he10 0 _ rfl)))).symm))⟩ (by omega)
    refine Ok.skip_ (Ok.blkN (Ok.thenN (Ok.reg ?_)))
    have k36 := wid (x := zL4_4 + 1) (by omega)
    refine g0 3 [(1,pt b1 0),(3,.slice AL4r1 nL4r1 cL4r1),(4,iw (w64 (zL4_4 + 1)))] [gz,gz,gz] rfl (en rfl (Ok.restr [1,3,4] [(1,pt b1 0),(3,.slice AL4r1 nL4r1 cL4r1),(4,iw (w64 (zL4_4 + 1)))] rfl (Ok.mask [true,true,false] [.blk b1 [.slice Aa_0 na_0 ca_0,iw za_1] 34,.row (.slice AL4r1 nL4r1 cL4r1) nL4r1 4 41 xL4r1] rfl ?_)))
    exact Ok.again _ ⟨(w64 (zL4_4 + 1)),AL4r1,nL4r1,cL4r1,xL4r1,rfl,rfl,rfl,(tr le6 (tr le14 le21)),by omega,by omega,by omega,(Elems.mono (tr le14 le21) EL4r1),XL4_0⟩ (by omega)
  have h8 := of_decide_eq_false h8
  refine Ok.exit_ (Ok.thenE (Ok.thenE (Ok.blkE (Ok.thenN (sr (g0 2 [(2,.slice AL4r1 nL4r1 cL4r1)] [gz,gz] rfl (en rfl (Ok.ret_ (Ok.pubS2 1 rfl EL4r1 (by omega) [.blk b1 [.slice Aa_0 na_0 ca_0,iw za_1] 34] rfl ?_)))))))))
  intro H38 le39 f40 c41
  refine Ok.dropAll ?_
  exact Ok.ret1 (v := .slice AL4r1 nL4r1 cL4r1) (tr le6 le39) rfl rfl ⟨AL4r1,nL4r1,cL4r1,rfl,f40,(by omega),(fun f hf j hj => c41 (j * 4) _ (XL4_0 f hf j hj))⟩
theorem c50 (H : Snap) (za_0 : Int) (zb_0 : Int) (hq0 : 0 < zb_0 ∧ zb_0 < 9223372036854775808) : Does Tryz.prog 50 [iw za_0,iw zb_0] H [] (fun v H' kp => ∃ (zra_0 : Int),v = iw zra_0 ∧ 0 ≤ zra_0 ∧ zra_0 < zb_0) := by
  refine Does.of Tryz.func50 rfl rfl rfl rfl (fun w0 H0 kx => ?_)
  refine sr (g0 1 [(0,iw za_0),(1,iw zb_0)] [gz] rfl (en rfl (sr (g2 7 [(4,iw (w64 (Int.tmod (IntKind.u64.wrap za_0) (IntKind.u64.wrap zb_0))))] [gz,gz,gz,gz,.dv,gz,gz] (ex1 (show IntKind.u64 = IntKind.u64 ∧ (IntKind.u64.wrap zb_0) ≠ 0 from ⟨rfl,u64_ne hq0⟩) ex0) rfl (en rfl (Ok.ret_ ?_))))))
  exact Ok.ret1 (v := iw (w64 (Int.tmod (IntKind.u64.wrap za_0) (IntKind.u64.wrap zb_0)))) (SLe.refl _) rfl rfl ⟨(w64 (Int.tmod (IntKind.u64.wrap za_0) (IntKind.u64.wrap zb_0))),rfl,(index_fits hq0)⟩
theorem c122 (H : Snap) (ba_0 : Bool) (za_1 : Int) (sa_2 : ByteArray) (zb_0 : Int) (ta_2 : sa_2.size < 9223372036854775808) : Does Tryz.prog 122 [.agg #[.bool ba_0,iw za_1,.string sa_2],iw zb_0] H [] (fun v H' kp => ∃ (bra_0 : Bool) (zra_1 : Int) (sra_2 : ByteArray),v = .agg #[.bool bra_0,iw zra_1,.string sra_2] ∧ sra_2.size < 9223372036854775808) := by
  refine Does.of Tryz.func122 rfl rfl rfl rfl (fun w0 H0 kx => ?_)
  refine sr (g4 2 (fun b1 => [(1,iw zb_0),(2,pt b1 0),(4,pt (b1+1) 0)]) (fun b1 => [.blk b1 [.bool ba_0,iw za_1,.string sa_2] 54,.blk (b1+1) [bF,iw 0,s0] 54]) [.g [.N],.g [.N]] rfl (fun b1 => (en rfl ?_)))
  refine Ok.seq (sr (g0 2 [(1,iw zb_0),(2,pt b1 0),(4,pt (b1+1) 0),(6,.bool ba_0)] [gz,.g [.K 0 0]] rfl (en rfl (cd ba_0 (fun h3 => ?_) (fun h3 => ?_)))))
  · refine sr (g1 2 [(4,pt (b1+1) 0)] [.blk b1 [.bool ba_0,iw za_1,.string sa_2] 54,.blk (b1+1) [bT,iw 0,s0] 54] [gz,.g [.K 1 0,.K 1 1,.K 1 2]] rfl (en rfl (Ok.ret_ (Ok.thenR ?_))))
    exact Ok.ret1c (SLe.refl _) [.K 1 0,.K 1 1,.K 1 2] (.agg #[bT,iw 0,s0]) [b1+1,b1+1,b1+1] rfl (by kernel_rfl) ⟨true,0,(⟨#[]⟩ : ByteArray),rfl,(by decide)⟩
  refine skn (Ok.seq (sr (g0 1 [(2,pt b1 0),(4,pt (b1+1) 0),(8,iw zb_0)] [gz] rfl (en rfl (Ok.blk (sr (g0 2 [(2,pt b1 0),(4,pt (b1+1) 0),(8,iw zb_0),(9,.bool (zb_0 == 1))] [gz,gz] rfl (en rfl (cd (zb_0 == 1) (fun h7 => ?_) (fun h7 => ?_))))))))))
  · have h7 := eq_of_beq h7
    refine sr (g1 5 [(4,pt (b1+1) 0)] [.blk b1 [.bool ba_0,iw za_1,.string sa_2] 54,.blk (b1+1) [bF,iw (bAnd .i64 za_1 1),s0] 54] [gz,.g [.K 0 1],gz,gz,.g [.K 1 0,.K 1 1,.K 1 2]] rfl (en rfl (Ok.ret_ (Ok.blkR (Ok.thenR ?_)))))
    exact Ok.ret1c (SLe.refl _) [.K 1 0,.K 1 1,.K 1 2] (.agg #[bF,iw (bAnd .i64 za_1 1),s0]) [b1+1,b1+1,b1+1] rfl (by kernel_rfl) ⟨false,(bAnd .i64 za_1 1),(⟨#[]⟩ : ByteArray),rfl,(by decide)⟩
  have h7 := ne_of_beq_false h7
  refine sr (g0 2 [(2,pt b1 0),(4,pt (b1+1) 0),(8,iw zb_0),(15,.bool (zb_0 == 2))] [gz,gz] rfl (en rfl (cd (zb_0 == 2) (fun h10 => ?_) (fun h10 => ?_))))
  · have h10 := eq_of_beq h10
    refine sr (g1 6 [(4,pt (b1+1) 0)] [.blk b1 [.bool ba_0,iw za_1,.string sa_2] 54,.blk (b1+1) [bF,iw (w64 (IntKind.i32.wrap za_1)),s0] 54] [gz,.g [.K 0 1],gz,gz,gz,.g [.K 1 0,.K 1 1,.K 1 2]] rfl (en rfl (Ok.ret_ (Ok.blkR (Ok.thenR ?_)))))
    exact Ok.ret1c (SLe.refl _) [.K 1 0,.K 1 1,.K 1 2] (.agg #[bF,iw (w64 (IntKind.i32.wrap za_1)),s0]) [b1+1,b1+1,b1+1] rfl (by kernel_rfl) ⟨false,(w64 (IntKind.i32.wrap za_1)),(⟨#[]⟩ : ByteArray),rfl,(by decide)⟩
  have h10 := ne_of_beq_false h10
  refine sr (g0 2 [(2,pt b1 0),(4,pt (b1+1) 0),(8,iw zb_0),(22,.bool (zb_0 == 5))] [gz,gz] rfl (en rfl (cd (zb_0 == 5) (fun h13 => ?_) (fun h13 => ?_))))
  · have h13 := eq_of_beq h13
    refine sr ?_
    have tm15 := tmod_lit za_1 1000001 (by decide)
    refine g1 5 [(4,pt (b1+1) 0)] [.blk b1 [.bool ba_0,iw za_1,.string sa_2] 54,.blk (b1+1) [bF,iw (Int.tmod za_1 1000001),s0] 54] [gz,.g [.K 0 1],gz,gz,.g [.K 1 0,.K 1 1,.K 1 2]] rfl (en rfl (Ok.ret_ (Ok.blkR (Ok.thenR ?_))))
    exact Ok.ret1c (SLe.refl _) [.K 1 0,.K 1 1,.K 1 2] (.agg #[bF,iw (Int.tmod za_1 1000001),s0]) [b1+1,b1+1,b1+1] rfl (by kernel_rfl) ⟨false,(Int.tmod za_1 1000001),(⟨#[]⟩ : ByteArray),rfl,(by decide)⟩
  have h13 := ne_of_beq_false h13
  refine sr (g0 2 [(2,pt b1 0),(4,pt (b1+1) 0),(28,.bool (zb_0 == 4))] [gz,gz] rfl (en rfl (cd (zb_0 == 4) (fun h17 => ?_) (fun h17 => ?_))))
  · have h17 := eq_of_beq h17
    refine sr (g3 9 [(4,pt (b1+1) 0)] [.blk b1 [.bool ba_0,iw za_1,.string sa_2] 54,.blk (b1+1) [bF,iw 0,.string (sa_2.extract 0 ((if 200 < ((sa_2.size : Nat) : Int) then 200 else ((sa_2.size : Nat) : Int))).toNat)] 54] [gz,.g [.K 0 2],gz,.g [.K 0 2],gz,gz,.ss,gz,.g [.K 1 0,.K 1 1,.K 1 2]] (ex1 (show 0 ≤ (if 200 < ((sa_2.size : Nat) : Int) then 200 else ((sa_2.size : Nat) : Int)) ∧ (if 200 < ((sa_2.size : Nat) : Int) then 200 else ((sa_2.size : Nat) : Int)) ≤ ((sa_2.size : Nat) : Int) from (by omega)) ex0) rfl (en rfl (Ok.ret_ (Ok.blkR (Ok.thenR ?_)))))
    exact Ok.ret1c (SLe.refl _) [.K 1 0,.K 1 1,.K 1 2] (.agg #[bF,iw 0,.string (sa_2.extract 0 ((if 200 < ((sa_2.size : Nat) : Int) then 200 else ((sa_2.size : Nat) : Int))).toNat)]) [b1+1,b1+1,b1+1] rfl (by kernel_rfl) ⟨false,0,((sa_2.extract 0 ((if 200 < ((sa_2.size : Nat) : Int) then 200 else ((sa_2.size : Nat) : Int))).toNat)),rfl,(extract_small ta_2)⟩
  have h17 := ne_of_beq_false h17
  refine Ok.skip_ (Ok.blkN (Ok.thenN (sr (g1 4 [(4,pt (b1+1) 0)] [.blk b1 [.bool ba_0,iw za_1,.string sa_2] 54,.blk (b1+1) [bF,iw za_1,s0] 54] [gz,.g [.K 0 1],gz,.g [.K 1 0,.K 1 1,.K 1 2]] rfl (en rfl (Ok.ret_ ?_))))))
  exact Ok.ret1c (SLe.refl _) [.K 1 0,.K 1 1,.K 1 2] (.agg #[bF,iw za_1,s0]) [b1+1,b1+1,b1+1] rfl (by kernel_rfl) ⟨false,za_1,(⟨#[]⟩ : ByteArray),rfl,(by decide)⟩
theorem c89 (H : Snap) (ba_0 : Bool) (za_1 : Int) (sa_2 : ByteArray) (zb_0 : Int) (ta_2 : sa_2.size < 9223372036854775808) : Does Tryz.prog 89 [.agg #[.bool ba_0,iw za_1,.string sa_2],iw zb_0] H [] (fun v H' kp => ∃ (bra_0 : Bool) (zra_1 : Int) (sra_2 : ByteArray),v = .agg #[.bool bra_0,iw zra_1,.string sra_2] ∧ sra_2.size < 9223372036854775808) := by
  refine Does.of Tryz.func89 rfl rfl rfl rfl (fun w0 H0 kx => ?_)
  refine sr (g4 2 (fun b1 => [(1,iw zb_0),(2,pt b1 0),(4,pt (b1+1) 0)]) (fun b1 => [.blk b1 [.bool ba_0,iw za_1,.string sa_2] 54,.blk (b1+1) [bF,iw 0,s0] 54]) [.g [.N],.g [.N]] rfl (fun b1 => (en rfl ?_)))
  refine Ok.seq (sr (g0 1 [(1,iw zb_0),(2,pt b1 0),(4,pt (b1+1) 0),(5,iw zb_0)] [gz] rfl (ef 2 rfl (ca (some 6) (c53 H zb_0) ?_))))
  rintro v3 H4 k6 le5 ⟨bra_0y7,rfl⟩
  refine g0 3 [(1,iw zb_0),(2,pt b1 0),(4,pt (b1+1) 0),(7,.bool (!bra_0y7))] [gz] rfl (en rfl (cd (!bra_0y7) (fun h9 => ?_) (fun h9 => ?_)))
  · refine sr (g1 2 [(4,pt (b1+1) 0)] [.blk b1 [.bool ba_0,iw za_1,.string sa_2] 54,.blk (b1+1) [bT,iw 0,s0] 54] [gz,.g [.K 1 0,.K 1 1,.K 1 2]] rfl (en rfl (Ok.ret_ (Ok.thenR ?_))))
    exact Ok.ret1c le5 [.K 1 0,.K 1 1,.K 1 2] (.agg #[bT,iw 0,s0]) [b1+1,b1+1,b1+1] rfl (by kernel_rfl) ⟨true,0,(⟨#[]⟩ : ByteArray),rfl,(by decide)⟩
  refine skn (sr (g0 2 [(4,pt (b1+1) 0),(9,.agg #[.bool ba_0,iw za_1,.string sa_2]),(10,iw zb_0)] [.g [.K 0 0,.K 0 1,.K 0 2],gz] rfl (ef 3 rfl (ca (some 11) (c122 H4 ba_0 za_1 sa_2 zb_0 ta_2) ?_))))
  rintro v12 H13 k15 le14 ⟨bra_0y16,zra_1y16,sra_2y16,rfl,tra_2y16⟩
  refine g1 4 [(4,pt (b1+1) 0)] [.blk b1 [.bool ba_0,iw za_1,.string sa_2] 54,.blk (b1+1) [.bool bra_0y16,iw zra_1y16,.string sra_2y16] 54] [.g [.K 1 0,.K 1 1,.K 1 2]] rfl (en rfl (Ok.ret_ ?_))
  exact Ok.ret1c (tr le5 le14) [.K 1 0,.K 1 1,.K 1 2] (.agg #[.bool bra_0y16,iw zra_1y16,.string sra_2y16]) [b1+1,b1+1,b1+1] rfl (by kernel_rfl) ⟨bra_0y16,zra_1y16,sra_2y16,rfl,tra_2y16⟩
theorem c123 (H : Snap) (ba_0 : Bool) (za_1 : Int) (sa_2 : ByteArray) (bb_0 : Bool) (zb_1 : Int) (sb_2 : ByteArray) (ta_2 : sa_2.size < 9223372036854775808) (tb_2 : sb_2.size < 9223372036854775808) : Does Tryz.prog 123 [.agg #[.bool ba_0,iw za_1,.string sa_2],.agg #[.bool bb_0,iw zb_1,.string sb_2]] H [] (fun v H' kp => ∃ (zra_0 : Int),v = iw zra_0) := by
  refine Does.of Tryz.func123 rfl rfl rfl rfl (fun w0 H0 kx => ?_)
  refine sr (g4 3 (fun b1 => [(2,pt b1 0),(3,pt (b1+1) 0)]) (fun b1 => [.blk b1 [.bool ba_0,iw za_1,.string sa_2] 54,.blk (b1+1) [.bool bb_0,iw zb_1,.string sb_2] 54]) [.g [.N],.g [.N],gz] rfl (fun b1 => (en rfl ?_)))
  refine Ok.seq (Ok.blk (Ok.seq (Ok.regJ (ι := Bool) (fun y3 => [(2,pt b1 0),(3,pt (b1+1) 0),(6,.bool y3)]) ?_ (fun J2 => ?_))))
  · rintro bJ2_6
    refine Ok.thenN (cd bJ2_6 (fun h4 => ?_) (fun h4 => ?_))
    · refine sr (g0 1 [(4,iw (-1))] [gz] rfl (Ok.mask [false,false] [] rfl ?_))
      refine en rfl (Ok.ret_ (Ok.blkR (Ok.thenR ?_)))
      exact Ok.ret1 (v := iw (-1)) (SLe.refl _) rfl rfl ⟨(-1),rfl⟩
    refine Ok.seq (Ok.regJ (ι := Bool) (fun y7 => [(2,pt b1 0),(3,pt (b1+1) 0),(14,.bool y7)]) ?_ (fun J6 => ?_))
    · rintro bJ6_14
      refine Ok.thenN (cd bJ6_14 (fun h8 => ?_) (fun h8 => ?_))
      · refine sr (g0 1 [(4,iw 1)] [gz] rfl (Ok.mask [false,false] [] rfl ?_))
        refine en rfl (Ok.ret_ (Ok.blkR (Ok.thenR ?_)))
        exact Ok.ret1 (v := iw 1) (SLe.refl _) rfl rfl ⟨1,rfl⟩
      refine sr (g0 6 [(2,pt b1 0),(3,pt (b1+1) 0),(22,.bool (decide (za_1 < zb_1)))] [gz,.g [.K 0 1],gz,.g [.K 1 1],gz,gz] rfl (en rfl (cd (decide (za_1 < zb_1)) (fun h11 => ?_) (fun h11 => ?_))))
      · have h11 := of_decide_eq_true h11
        refine sr (g0 1 [(4,iw (-1))] [gz] rfl (Ok.mask [false,false] [] rfl ?_))
        refine en rfl (Ok.ret_ (Ok.blkR (Ok.thenR ?_)))
        exact Ok.ret1 (v := iw (-1)) (SLe.refl _) rfl rfl ⟨(-1),rfl⟩
      have h11 := of_decide_eq_false h11
      refine sr (g0 6 [(2,pt b1 0),(3,pt (b1+1) 0),(28,.bool (decide (za_1 > zb_1)))] [gz,.g [.K 0 1],gz,.g [.K 1 1],gz,gz] rfl (en rfl (cd (decide (za_1 > zb_1)) (fun h14 => ?_) (fun h14 => ?_))))
      · have h14 := of_decide_eq_true h14
        refine sr (g0 1 [(4,iw 1)] [gz] rfl (Ok.mask [false,false] [] rfl ?_))
        refine en rfl (Ok.ret_ (Ok.blkR (Ok.thenR ?_)))
        exact Ok.ret1 (v := iw 1) (SLe.refl _) rfl rfl ⟨1,rfl⟩
      have h14 := of_decide_eq_false h14
      refine Ok.skip_ (Ok.blkN (Ok.thenN (Ok.seq (sr (g0 1 [(2,pt b1 0),(3,pt (b1+1) 0),(5,iw 0)] [gz] rfl (en rfl (Ok.blk (Ok.restr [2,3,5] [(2,pt b1 0),(3,pt (b1+1) 0),(5,iw 0)] rfl (Ok.loop (fun H' fr kb m => ∃ (zL17_5 : Int),fr = [(2,pt b1 0),(3,pt (b1+1) 0),(5,iw zL17_5)] ∧ kb = [.blk b1 [.bool ba_0,iw za_1,.string sa_2] 54,.blk (b1+1) [.bool bb_0,iw zb_1,.string sb_2] 54] ∧ m = ((((sa_2.size : Nat) : Int)) - zL17_5).toNat ∧ SLe H H' ∧ 0 ≤ zL17_5 ∧ zL17_5 ≤ ((sa_2.size : Nat) : Int)) _ ⟨0,rfl,rfl,rfl,SLe.refl _,by decide,by omega⟩ ?_)))))))))
      rintro H18 _ _ mL17 ⟨zL17_5,rfl,rfl,hmL17,le19,fL17_0,fL17_1⟩
      refine Ok.seq (sr (g0 6 [(2,pt b1 0),(3,pt (b1+1) 0),(5,iw zL17_5),(39,.bool (decide (zL17_5 < ((sa_2.size : Nat) : Int))))] [gz,gz,.g [.K 0 2],gz,gz,gz] rfl (cs (decide (zL17_5 < ((sa_2.size : Nat) : Int))) [39] (fun h21 => ?_) (fun h21 => ?_))))
      · have h21 := of_decide_eq_true h21
        refine g0 12 [(2,pt b1 0),(3,pt (b1+1) 0),(5,iw zL17_5),(45,.bool (decide (zL17_5 < ((sb_2.size : Nat) : Int))))] [gz,gz,.g [.K 1 2],gz,gz,gz] rfl (en rfl (cd (decide (zL17_5 < ((sb_2.size : Nat) : Int))) (fun h23 => ?_) (fun h23 => ?_)))
        · have h23 := of_decide_eq_true h23
          refine skn (Ok.seq (Ok.blk (Ok.seq (Ok.seq (st [0,1] [] 9 ?_)))))
          refine tx 0 [(0,gz),(1,.g [.K 0 2]),(2,gz),(3,.ixs),(4,gz),(5,.g [.K 1 2]),(6,gz),(7,.ixs),(8,gz)] [(2,pt b1 0),(3,pt (b1+1) 0),(5,iw zL17_5),(56,.bool (decide ((byteAt sa_2 zL17_5) < (byteAt sb_2 zL17_5))))] (ex1 (show 0 ≤ zL17_5 ∧ zL17_5 < ((sa_2.size : Nat) : Int) from (by omega)) (ex1 (show 0 ≤ zL17_5 ∧ zL17_5 < ((sb_2.size : Nat) : Int) from (by omega)) ex0)) rfl ?_
          refine dn (cd (decide ((byteAt sa_2 zL17_5) < (byteAt sb_2 zL17_5))) (fun h24 => ?_) (fun h24 => ?_))
          · have h24 := of_decide_eq_true h24
            refine sr (g0 1 [(4,iw (-1))] [gz] rfl (en rfl (Ok.ret_ (Ok.thenR (Ok.blkR (Ok.thenR (Ok.thenR (Ok.blkR (Ok.thenR (Ok.dropAll ?_))))))))))
            exact Ok.ret1 (v := iw (-1)) le19 rfl rfl ⟨(-1),rfl⟩
          have h24 := of_decide_eq_false h24
          refine skn (Ok.seq (st [0,1] [] 9 ?_))
          refine tx 0 [(0,gz),(1,.g [.K 0 2]),(2,gz),(3,.ixs),(4,gz),(5,.g [.K 1 2]),(6,gz),(7,.ixs),(8,gz)] [(2,pt b1 0),(3,pt (b1+1) 0),(5,iw zL17_5),(65,.bool (decide ((byteAt sa_2 zL17_5) > (byteAt sb_2 zL17_5))))] (ex1 (show 0 ≤ zL17_5 ∧ zL17_5 < ((sa_2.size : Nat) : Int) from (by omega)) (ex1 (show 0 ≤ zL17_5 ∧ zL17_5 < ((sb_2.size : Nat) : Int) from (by omega)) ex0)) rfl ?_
          refine dn (cd (decide ((byteAt sa_2 zL17_5) > (byteAt sb_2 zL17_5))) (fun h26 => ?_) (fun h26 => ?_))
          · have h26 := of_decide_eq_true h26
            refine sr (g0 1 [(4,iw 1)] [gz] rfl (en rfl (Ok.ret_ (Ok.blkR (Ok.thenR (Ok.thenR (Ok.blkR (Ok.thenR (Ok.dropAll ?_)))))))))
            exact Ok.ret1 (v := iw 1) le19 rfl rfl ⟨1,rfl⟩
          have h26 := of_decide_eq_false h26
          refine Ok.skip_ (Ok.blkN (Ok.thenN (Ok.reg ?_)))
          have k29 := wid (x := zL17_5 + 1) (by omega)
          refine g0 3 [(2,pt b1 0),(3,pt (b1+1) 0),(5,iw (w64 (zL17_5 + 1)))] [gz,gz,gz] rfl (en rfl (Ok.restr [2,3,5] [(2,pt b1 0),(3,pt (b1+1) 0),(5,iw (w64 (zL17_5 + 1)))] rfl ?_))
          exact Ok.again _ ⟨(w64 (zL17_5 + 1)),rfl,rfl,rfl,le19,by omega,by omega⟩ (by omega)
        have h23 := of_decide_eq_false h23
        refine Ok.exit_ (Ok.thenE (Ok.thenE (Ok.blkE (Ok.thenN (Ok.seq (sr (g0 7 [(2,pt b1 0),(3,pt (b1+1) 0),(72,.bool (decide (((sa_2.size : Nat) : Int) < ((sb_2.size : Nat) : Int))))] [gz,.g [.K 0 2],gz,gz,.g [.K 1 2],gz,gz] rfl (en rfl (cd (decide (((sa_2.size : Nat) : Int) < ((sb_2.size : Nat) : Int))) (fun h31 => ?_) (fun h31 => ?_))))))))))
        · have h31 := of_decide_eq_true h31
          refine sr (g0 1 [(4,iw (-1))] [gz] rfl (en rfl (Ok.ret_ (Ok.thenR (Ok.dropAll ?_)))))
          exact Ok.ret1 (v := iw (-1)) le19 rfl rfl ⟨(-1),rfl⟩
        have h31 := of_decide_eq_false h31
        refine skn (Ok.seq (sr (g0 7 [(79,.bool (decide (((sa_2.size : Nat) : Int) > ((sb_2.size : Nat) : Int))))] [gz,.g [.K 0 2],gz,gz,.g [.K 1 2],gz,gz] rfl (en rfl (cd (decide (((sa_2.size : Nat) : Int) > ((sb_2.size : Nat) : Int))) (fun h34 => ?_) (fun h34 => ?_))))))
        · have h34 := of_decide_eq_true h34
          refine sr (g0 1 [(4,iw 1)] [gz] rfl (en rfl (Ok.ret_ (Ok.thenR (Ok.dropAll ?_)))))
          exact Ok.ret1 (v := iw 1) le19 rfl rfl ⟨1,rfl⟩
        have h34 := of_decide_eq_false h34
        refine skn (sr (g0 1 [(4,iw 0)] [gz] rfl (en rfl (Ok.ret_ (Ok.dropAll ?_)))))
        exact Ok.ret1 (v := iw 0) le19 rfl rfl ⟨0,rfl⟩
      have h21 := of_decide_eq_false h21
      refine g0 12 [(2,pt b1 0),(3,pt (b1+1) 0),(5,iw zL17_5),(45,bF)] [gz,gz,gz,gz,gz,gz] rfl (en rfl (cF (Ok.exit_ (Ok.thenE (Ok.thenE (Ok.blkE (Ok.thenN (Ok.seq (sr (g0 7 [(2,pt b1 0),(3,pt (b1+1) 0),(72,.bool (decide (((sa_2.size : Nat) : Int) < ((sb_2.size : Nat) : Int))))] [gz,.g [.K 0 2],gz,gz,.g [.K 1 2],gz,gz] rfl (en rfl (cd (decide (((sa_2.size : Nat) : Int) < ((sb_2.size : Nat) : Int))) (fun h39 => ?_) (fun h39 => ?_)))))))))))))
      · have h39 := of_decide_eq_true h39
        refine sr (g0 1 [(4,iw (-1))] [gz] rfl (en rfl (Ok.ret_ (Ok.thenR (Ok.dropAll ?_)))))
        exact Ok.ret1 (v := iw (-1)) le19 rfl rfl ⟨(-1),rfl⟩
      have h39 := of_decide_eq_false h39
      refine skn (Ok.seq (sr (g0 7 [(79,.bool (decide (((sa_2.size : Nat) : Int) > ((sb_2.size : Nat) : Int))))] [gz,.g [.K 0 2],gz,gz,.g [.K 1 2],gz,gz] rfl (en rfl (cd (decide (((sa_2.size : Nat) : Int) > ((sb_2.size : Nat) : Int))) (fun h42 => ?_) (fun h42 => ?_))))))
      · have h42 := of_decide_eq_true h42
        refine sr (g0 1 [(4,iw 1)] [gz] rfl (en rfl (Ok.ret_ (Ok.thenR (Ok.dropAll ?_)))))
        exact Ok.ret1 (v := iw 1) le19 rfl rfl ⟨1,rfl⟩
      have h42 := of_decide_eq_false h42
      refine skn (sr (g0 1 [(4,iw 0)] [gz] rfl (en rfl (Ok.ret_ (Ok.dropAll ?_)))))
      exact Ok.ret1 (v := iw 0) le19 rfl rfl ⟨0,rfl⟩
    refine g0 4 [(2,pt b1 0),(3,pt (b1+1) 0),(18,.bool (!ba_0))] [gz,.g [.K 0 0],gz,gz] rfl (cs (!ba_0) [18] (fun h46 => ?_) (fun h46 => ?_))
    · refine g0 8 [(2,pt b1 0),(3,pt (b1+1) 0),(14,.bool bb_0)] [gz,.g [.K 1 0],gz,gz] rfl (Ok.segEnd rfl (Ok.restr [2,3,14] [(2,pt b1 0),(3,pt (b1+1) 0),(14,.bool bb_0)] rfl ?_))
      exact J6 (bb_0)
    refine g0 8 [(2,pt b1 0),(3,pt (b1+1) 0),(14,bF)] [gz,gz,gz,gz] rfl (Ok.segEnd rfl (Ok.restr [2,3,14] [(2,pt b1 0),(3,pt (b1+1) 0),(14,bF)] rfl ?_))
    exact J6 (false)
  refine g0 3 [(2,pt b1 0),(3,pt (b1+1) 0),(9,.bool ba_0)] [gz,.g [.K 0 0],gz] rfl (cs ba_0 [9] (fun h50 => ?_) (fun h50 => ?_))
  · refine g0 8 [(2,pt b1 0),(3,pt (b1+1) 0),(6,.bool (!bb_0))] [gz,.g [.K 1 0],gz,gz,gz] rfl (Ok.segEnd rfl (Ok.restr [2,3,6] [(2,pt b1 0),(3,pt (b1+1) 0),(6,.bool (!bb_0))] rfl ?_))
    exact J2 ((!bb_0))
  refine g0 8 [(2,pt b1 0),(3,pt (b1+1) 0),(6,bF)] [gz,gz,gz,gz,gz] rfl (Ok.segEnd rfl (Ok.restr [2,3,6] [(2,pt b1 0),(3,pt (b1+1) 0),(6,bF)] rfl ?_))
  exact J2 (false)
theorem c90 (H : Snap) (Aa_0 : Option Addr) (na_0 : Nat) (ca_0 : Nat) (zb_0 : Int) (ha_0 : WfS H elV Aa_0 na_0) : Does Tryz.prog 90 [.slice Aa_0 na_0 ca_0,iw zb_0] H [] (fun v H' kp => ∃ (Ara_0 : Option Addr) (nra_0 : Nat) (cra_0 : Nat),v = .slice Ara_0 nra_0 cra_0 ∧ WfS H' elV Ara_0 nra_0 ∧ nra_0 ≤ 16) := by
  have lha_0 := ha_0.1
  refine Does.of Tryz.func90 rfl rfl rfl rfl (fun w0 H0 kx => ?_)
  refine sr (g0 1 [(0,.slice Aa_0 na_0 ca_0),(1,iw zb_0)] [gz] rfl (en rfl (sr (g4 2 (fun b2 => [(0,.slice Aa_0 na_0 ca_0),(1,iw zb_0),(5,sl b2 0 0 0)]) (fun b2 => [.blk b2 [] 54]) [.g [.N],gz] rfl (fun b2 => (en rfl (Ok.seq (sr (g0 1 [(0,.slice Aa_0 na_0 ca_0),(1,iw zb_0),(5,sl b2 0 0 0),(6,iw 0)] [gz] rfl (en rfl (Ok.blk (Ok.blkRow (b := b2) (t := 54) (cs := []) 0 (n := 0) (cap := 0) (sz := 3) rfl rfl rfl rfl [] rfl (Ok.restr [0,1,5,6] [(0,.slice Aa_0 na_0 ca_0),(1,iw zb_0),(5,sl b2 0 0 0),(6,iw 0)] rfl (Ok.loop (fun H' fr kb m => ∃ (zL4_6 : Int) (AL4r0 : Option Addr) (nL4r0 : Nat) (cL4r0 : Nat) (xL4r0 : List Value),fr = [(0,.slice Aa_0 na_0 ca_0),(1,iw zb_0),(5,.slice AL4r0 nL4r0 cL4r0),(6,iw zL4_6)] ∧ kb = [.row (.slice AL4r0 nL4r0 cL4r0) nL4r0 3 54 xL4r0] ∧ m = ((((na_0 : Nat) : Int)) - zL4_6).toNat ∧ SLe H H' ∧ 0 ≤ zL4_6 ∧ zL4_6 ≤ ((na_0 : Nat) : Int) ∧ nL4r0 ≤ 16 ∧ Elems H' elV nL4r0 xL4r0) _ ⟨0,((some ⟨b2,0,none⟩)),0,0,[],rfl,rfl,rfl,SLe.refl _,by decide,by omega,by omega,(Elems.nil elV)⟩ ?_))))))))))))))
  rintro H5 _ _ mL4 ⟨zL4_6,AL4r0,nL4r0,cL4r0,xL4r0,rfl,rfl,hmL4,le6,fL4_0,fL4_1,fL4_2,EL4r0⟩
  refine Ok.seq (sr (g0 5 [(0,.slice Aa_0 na_0 ca_0),(1,iw zb_0),(5,.slice AL4r0 nL4r0 cL4r0),(6,iw zL4_6),(15,.bool (decide (zL4_6 < ((na_0 : Nat) : Int))))] [gz,gz,gz,gz,gz] rfl (cs (decide (zL4_6 < ((na_0 : Nat) : Int))) [15] (fun h8 => ?_) (fun h8 => ?_))))
  · have h8 := of_decide_eq_true h8
    refine g0 9 [(0,.slice Aa_0 na_0 ca_0),(1,iw zb_0),(5,.slice AL4r0 nL4r0 cL4r0),(6,iw zL4_6),(19,.bool (decide (((nL4r0 : Nat) : Int) < 16)))] [gz,gz,gz,gz] rfl (en rfl (cd (decide (((nL4r0 : Nat) : Int) < 16)) (fun h10 => ?_) (fun h10 => ?_)))
    · have h10 := of_decide_eq_true h10
      refine skn (Ok.seq (Ok.blk (sr ?_)))
      have ie12 : 0 ≤ zL4_6 ∧ zL4_6 < ((na_0 : Nat) : Int) := by omega
      obtain ⟨je12,cse12,we12,he12⟩ := (WfS.mono le6 ha_0).at_ zL4_6 ie12.1 ie12.2
      obtain ⟨ue12_0,le12_0,rfl,ve12_0,we12_0⟩ := wfl_cons we12
      obtain ⟨be12_0,rfl⟩ := wfv_bool ve12_0
      obtain ⟨ue12_1,le12_1,rfl,ve12_1,we12_1⟩ := wfl_cons we12_0
      obtain ⟨ze12_1,rfl⟩ := wfv_int ve12_1
      obtain ⟨ue12_2,le12_2,rfl,ve12_2,we12_2⟩ := wfl_cons we12_1
      obtain ⟨se12_2,rfl,te12_2⟩ := wfv_str ve12_2
      obtain rfl := wfl_nil we12_2
      refine g2 5 [(0,.slice Aa_0 na_0 ca_0),(1,iw zb_0),(5,.slice AL4r0 nL4r0 cL4r0),(6,iw zL4_6),(25,.agg #[.bool be12_0,iw ze12_1,.string se12_2]),(26,iw zb_0)] [gz,gz,.ix,.g [.X (.bool be12_0),.X (iw ze12_1),.X (.string se12_2)],gz] (ex1 (And.intro je12 ie12) (ex1 (cell0 (he12 0 _ rfl)) (ex1 (he12 (1) _ rfl) (ex1 (he12 (2) _ rfl) ex0)))) rfl (ef 6 rfl (ca (some 27) (c89 H5 be12_0 ze12_1 se12_2 zb_0 te12_2) ?_))
      rintro v13 H14 k16 le15 ⟨bra_0y17,zra_1y17,sra_2y17,rfl,tra_2y17⟩
      refine g4 8 (fun b18 => [(0,.slice Aa_0 na_0 ca_0),(1,iw zb_0),(5,.slice AL4r0 nL4r0 cL4r0),(6,iw zL4_6),(7,pt b18 0)]) (fun b18 => [.row (.slice AL4r0 nL4r0 cL4r0) nL4r0 3 54 xL4r0,.blk b18 [.bool bra_0y17,iw zra_1y17,.string sra_2y17] 54]) [.g [.N],.g [.K 1 0,.K 1 1,.K 1 2]] rfl (fun b18 => (en rfl ?_))
      refine Ok.seq (sr (g0 2 [(0,.slice Aa_0 na_0 ca_0),(1,iw zb_0),(5,.slice AL4r0 nL4r0 cL4r0),(6,iw zL4_6),(7,pt b18 0),(29,.bool bra_0y17)] [gz,.g [.K 1 0]] rfl (en rfl (cd bra_0y17 (fun h20 => ?_) (fun h20 => ?_)))))
      · refine Ok.exit_ (Ok.thenE (Ok.blkE (Ok.thenN (Ok.reg ?_))))
        have k22 := wid (x := zL4_6 + 1) (by omega)
        refine g0 3 [(0,.slice Aa_0 na_0 ca_0),(1,iw zb_0),(5,.slice AL4r0 nL4r0 cL4r0),(6,iw (w64 (zL4_6 + 1)))] [gz,gz,gz] rfl (en rfl (Ok.restr [0,1,5,6] [(0,.slice Aa_0 na_0 ca_0),(1,iw zb_0),(5,.slice AL4r0 nL4r0 cL4r0),(6,iw (w64 (zL4_6 + 1)))] rfl (Ok.mask [true,false] [.row (.slice AL4r0 nL4r0 cL4r0) nL4r0 3 54 xL4r0] rfl ?_)))
        exact Ok.again _ ⟨(w64 (zL4_6 + 1)),AL4r0,nL4r0,cL4r0,xL4r0,rfl,rfl,rfl,(tr le6 le15),by omega,by omega,by omega,(Elems.mono le15 EL4r0)⟩ (by omega)
      refine skn (sr (g0 1 [(0,.slice Aa_0 na_0 ca_0),(1,iw zb_0),(5,.slice AL4r0 nL4r0 cL4r0),(6,iw zL4_6),(7,pt b18 0),(8,iw 0)] [gz] rfl (en rfl (Ok.seq (Ok.blk (Ok.restr [0,1,5,6,7,8] [(0,.slice Aa_0 na_0 ca_0),(1,iw zb_0),(5,.slice AL4r0 nL4r0 cL4r0),(6,iw zL4_6),(7,pt b18 0),(8,iw 0)] rfl (Ok.loop (fun H' fr kb m => ∃ (zL24_8 : Int),fr = [(0,.slice Aa_0 na_0 ca_0),(1,iw zb_0),(5,.slice AL4r0 nL4r0 cL4r0),(6,iw zL4_6),(7,pt b18 0),(8,iw zL24_8)] ∧ kb = [.row (.slice AL4r0 nL4r0 cL4r0) nL4r0 3 54 xL4r0,.blk b18 [.bool bra_0y17,iw zra_1y17,.string sra_2y17] 54] ∧ m = ((((nL4r0 : Nat) : Int)) - zL24_8).toNat ∧ SLe H14 H' ∧ 0 ≤ zL24_8 ∧ zL24_8 ≤ ((nL4r0 : Nat) : Int)) _ ⟨0,rfl,rfl,rfl,SLe.refl _,by decide,by omega⟩ ?_)))))))
      rintro H25 _ _ mL24 ⟨zL24_8,rfl,rfl,hmL24,le26,fL24_0,fL24_1⟩
      refine Ok.seq (Ok.seq (st [0,1] [] 13 ?_))
      refine tk 8 [(0,gz),(1,gz),(2,gz),(3,gz),(4,gz)] [(0,.slice Aa_0 na_0 ca_0),(1,iw zb_0),(5,.slice AL4r0 nL4r0 cL4r0),(6,iw zL4_6),(7,pt b18 0),(8,iw zL24_8),(34,.bool (decide (zL24_8 < ((nL4r0 : Nat) : Int))))] rfl ?_
      refine cs (decide (zL24_8 < ((nL4r0 : Nat) : Int))) [34] (fun h27 => ?_) (fun h27 => ?_)
      · have h27 := of_decide_eq_true h27
        have ie28 : 0 ≤ zL24_8 ∧ zL24_8 < ((nL4r0 : Nat) : Int) := by omega
        refine Ok.rowSome 0 rfl (by omega) (fun ge28 ae28 => ?_)
        obtain ⟨cse28,we28,he28⟩ := (Elems.mono (tr le15 le26) EL4r0).atZ zL24_8 ie28.1 ie28.2
        obtain ⟨ue28_0,le28_0,rfl,ve28_0,we28_0⟩ := wfl_cons we28
        obtain ⟨be28_0,rfl⟩ := wfv_bool ve28_0
        obtain ⟨ue28_1,le28_1,rfl,ve28_1,we28_1⟩ := wfl_cons we28_0
        obtain ⟨ze28_1,rfl⟩ := wfv_int ve28_1
        obtain ⟨ue28_2,le28_2,rfl,ve28_2,we28_2⟩ := wfl_cons we28_1
        obtain ⟨se28_2,rfl,te28_2⟩ := wfv_str ve28_2
        obtain rfl := wfl_nil we28_2
        refine tx 3 [(5,gz),(6,gz),(7,.ix),(8,.g [.R 0 ((zL24_8).toNat * 3 + 0) (.bool be28_0),.R 0 ((zL24_8).toNat * 3 + 1) (iw ze28_1),.R 0 ((zL24_8).toNat * 3 + 2) (.string se28_2)]),(9,.g [.K 1 0,.K 1 1,.K 1 2])] [(0,.slice Aa_0 na_0 ca_0),(1,iw zb_0),(5,.slice AL4r0 nL4r0 cL4r0),(6,iw zL4_6),(7,pt b18 0),(8,iw zL24_8),(34,bT),(38,.agg #[.bool be28_0,iw ze28_1,.string se28_2]),(39,.agg #[.bool bra_0y17,iw zra_1y17,.string sra_2y17])] (ex1 (And.intro (isSome_of ae28) ie28) (ex1 (And.intro (rowAt0' (n := nL4r0) (cap := cL4r0) (m := (zL24_8).toNat * 3) ae28) (he28 0 _ rfl)) (ex1 (And.intro (rowAt' (n := nL4r0) (cap := cL4r0) (m := (zL24_8).toNat * 3) ae28 1) (he28 1 _ rfl)) (ex1 (And.intro (rowAt' (n := nL4r0) (cap := cL4r0) (m := (zL24_8).toNat * 3) ae28 2) (he28 2 _ rfl)) ex0)))) rfl ?_
        refine on 10 2 rfl (ca (some 40) (c123 H25 be28_0 ze28_1 se28_2 bra_0y17 zra_1y17 sra_2y17 te28_2 tra_2y17) ?_)
        rintro v29 H30 k32 le31 ⟨zra_0y33,rfl⟩
        refine ws [0,1] le31 ?_
        refine tk 0 [(11,gz),(12,gz)] [(0,.slice Aa_0 na_0 ca_0),(1,iw zb_0),(5,.slice AL4r0 nL4r0 cL4r0),(6,iw zL4_6),(7,pt b18 0),(8,iw zL24_8),(42,.bool (decide (zra_0y33 < 0)))] rfl ?_
        refine dn (cd (decide (zra_0y33 < 0)) (fun h34 => ?_) (fun h34 => ?_))
        · have h34 := of_decide_eq_true h34
          refine skn (Ok.blk (Ok.reg ?_))
          have k36 := wid (x := zL24_8 + 1) (by omega)
          refine g0 3 [(0,.slice Aa_0 na_0 ca_0),(1,iw zb_0),(5,.slice AL4r0 nL4r0 cL4r0),(6,iw zL4_6),(7,pt b18 0),(8,iw (w64 (zL24_8 + 1)))] [gz,gz,gz] rfl (Ok.segEnd rfl (Ok.blkN ?_))
          refine Ok.thenN (Ok.restr [0,1,5,6,7,8] [(0,.slice Aa_0 na_0 ca_0),(1,iw zb_0),(5,.slice AL4r0 nL4r0 cL4r0),(6,iw zL4_6),(7,pt b18 0),(8,iw (w64 (zL24_8 + 1)))] rfl ?_)
          exact Ok.again _ ⟨(w64 (zL24_8 + 1)),rfl,rfl,rfl,(tr le26 le31),by omega,by omega⟩ (by omega)
        have h34 := of_decide_eq_false h34
        refine Ok.exit_ (Ok.thenE (Ok.thenE (Ok.blkE (Ok.thenN (Ok.seq (Ok.seq (st [0,1] [] 12 ?_)))))))
        refine tk 7 [(0,gz),(1,gz),(2,gz),(3,gz),(4,gz)] [(0,.slice Aa_0 na_0 ca_0),(1,iw zb_0),(5,.slice AL4r0 nL4r0 cL4r0),(6,iw zL4_6),(7,pt b18 0),(8,iw zL24_8),(49,.bool (decide (zL24_8 < ((nL4r0 : Nat) : Int))))] rfl ?_
        refine cs (decide (zL24_8 < ((nL4r0 : Nat) : Int))) [49] (fun h37 => ?_) (fun h37 => ?_)
        · have h37 := of_decide_eq_true h37
          refine tx 0 [(5,gz),(6,gz),(7,.ix),(8,.g [.R 0 ((zL24_8).toNat * 3 + 0) (.bool be28_0),.R 0 ((zL24_8).toNat * 3 + 1) (iw ze28_1),.R 0 ((zL24_8).toNat * 3 + 2) (.string se28_2)]),(9,.g [.K 1 0,.K 1 1,.K 1 2]),(10,.as (.bool (vEq be28_0 bra_0y17 ze28_1 zra_1y17 se28_2 sra_2y17))),(11,gz)] [(0,.slice Aa_0 na_0 ca_0),(1,iw zb_0),(5,.slice AL4r0 nL4r0 cL4r0),(6,iw zL4_6),(7,pt b18 0),(8,iw zL24_8),(56,.bool (vEq be28_0 bra_0y17 ze28_1 zra_1y17 se28_2 sra_2y17))] (ex1 (And.intro (isSome_of ae28) ie28) (ex1 (And.intro (rowAt0' (n := nL4r0) (cap := cL4r0) (m := (zL24_8).toNat * 3) ae28) (he28 0 _ rfl)) (ex1 (And.intro (rowAt' (n := nL4r0) (cap := cL4r0) (m := (zL24_8).toNat * 3) ae28 1) (he28 1 _ rfl)) (ex1 (And.intro (rowAt' (n := nL4r0) (cap := cL4r0) (m := (zL24_8).toNat * 3) ae28 2) (he28 2 _ rfl)) (ex1 (val_eq (.tmp 53) (.tmp 54) be28_0 bra_0y17 ze28_1 zra_1y17 se28_2 sra_2y17) ex0))))) rfl ?_
          refine dn (cd (vEq be28_0 bra_0y17 ze28_1 zra_1y17 se28_2 sra_2y17) (fun h38 => ?_) (fun h38 => ?_))
          · refine Ok.exit_ (Ok.thenE (Ok.blkE (Ok.thenN (Ok.reg ?_))))
            have k40 := wid (x := zL4_6 + 1) (by omega)
            refine g0 3 [(0,.slice Aa_0 na_0 ca_0),(1,iw zb_0),(5,.slice AL4r0 nL4r0 cL4r0),(6,iw (w64 (zL4_6 + 1)))] [gz,gz,gz] rfl (en rfl (Ok.restr [0,1,5,6] [(0,.slice Aa_0 na_0 ca_0),(1,iw zb_0),(5,.slice AL4r0 nL4r0 cL4r0),(6,iw (w64 (zL4_6 + 1)))] rfl (Ok.mask [true,false] [.row (.slice AL4r0 nL4r0 cL4r0) nL4r0 3 54 xL4r0] rfl ?_)))
            exact Ok.again _ ⟨(w64 (zL4_6 + 1)),AL4r0,nL4r0,cL4r0,xL4r0,rfl,rfl,rfl,(tr le6 (tr le15 (tr le26 le31))),by omega,by omega,by omega,(Elems.mono (tr le15 (tr le26 le31)) EL4r0)⟩ (by omega)
          refine skn (sr (g5 4 (fun b41 => [(0,.slice Aa_0 na_0 ca_0),(1,iw zb_0),(5,.slice AL4r0 nL4r0 cL4r0),(6,iw zL4_6),(7,pt b18 0),(8,iw zL24_8),(57,sl b41 0 0 0),(60,.slice ((if cL4r0 = zL24_8.toNat then AL4r0 else Option.map (fun x => Addr.add x (zL24_8.toNat * 3)) AL4r0)) ((nL4r0 - zL24_8.toNat)) ((cL4r0 - zL24_8.toNat)))]) (fun b41 => [.row (.slice AL4r0 nL4r0 cL4r0) nL4r0 3 54 xL4r0,.blk b18 [.bool bra_0y17,iw zra_1y17,.string sra_2y17] 54,.blk b41 [] 54]) [.g [.N],gz,gz,.sl] (fun b41 => (ex1 (show 0 ≤ zL24_8 ∧ zL24_8 ≤ ((nL4r0 : Nat) : Int) from (by omega)) ex0)) rfl (fun b41 => (Ok.blkRow (b := b41) (t := 54) (cs := []) 2 (n := 0) (cap := 0) (sz := 3) rfl rfl rfl rfl [] rfl ?_))))
          refine ef 5 rfl (Eff.appendR (el := elV) (t := 24) (d := some 61) (l := zL24_8.toNat) 2 rfl 0 rfl (by omega) (by kernel_rfl) 100000000 (by kernel_rfl) (by omega) rfl rfl (Elems.mono (tr le15 (tr le26 le31)) EL4r0) (Elems.nil elV) (fun A42 cap43 x44 E45 => ?_))
          refine g0 6 [(0,.slice Aa_0 na_0 ca_0),(1,iw zb_0),(5,.slice AL4r0 nL4r0 cL4r0),(6,iw zL4_6),(7,pt b18 0),(8,iw zL24_8),(9,.slice A42 ((0 + (nL4r0 - zL24_8.toNat))) cap43)] [gz] rfl (en rfl (Ok.seq (Ok.rowCap 0 rfl (fun hc47 => (Ok.cutRow 0 (zL24_8.toNat) rfl (by omega) ?_)))))
          have E48 : Elems H30 elV (zL24_8.toNat) (xL4r0.take (zL24_8.toNat * 3)) := Elems.take (Elems.mono (tr le15 (tr le26 le31)) EL4r0) _ (by omega)
          generalize (xL4r0.take (zL24_8.toNat * 3)) = x49 at E48 ⊢
          refine st [1,2] [] 7 ?_
          refine tx 3 [(0,gz),(1,gz),(2,.sh),(3,.g [.K 0 0,.K 0 1,.K 0 2])] [(0,.slice Aa_0 na_0 ca_0),(1,iw zb_0),(6,iw zL4_6),(9,.slice A42 ((0 + (nL4r0 - zL24_8.toNat))) cap43),(64,.slice AL4r0 zL24_8.toNat cL4r0),(65,.agg #[.bool bra_0y17,iw zra_1y17,.string sra_2y17])] (ex1 (show 0 ≤ zL24_8 ∧ zL24_8 ≤ ((cL4r0 : Nat) : Int) from (by omega)) ex0) rfl ?_
          refine on 4 2 rfl (e4 (.g [.N]) (fun b50 => [(0,.slice Aa_0 na_0 ca_0),(1,iw zb_0),(6,iw zL4_6),(9,.slice A42 ((0 + (nL4r0 - zL24_8.toNat))) cap43),(64,.slice AL4r0 zL24_8.toNat cL4r0),(66,sl b50 0 1 1)]) (fun b50 => [.row (.slice AL4r0 ((zL24_8.toNat)) cL4r0) ((zL24_8.toNat)) 3 54 x49,.blk b18 [.bool bra_0y17,iw zra_1y17,.string sra_2y17] 54,.row (.slice A42 ((0 + (nL4r0 - zL24_8.toNat))) cap43) ((0 + (nL4r0 - zL24_8.toNat))) 3 54 x44,.blk b50 [.bool bra_0y17,iw zra_1y17,.string sra_2y17] 54]) (fun b50 => ?_))
          refine ws [1,2] (SLe.refl _) ?_
          refine on 5 1 rfl (Eff.appendN (t := 24) (d := some 67) (ad := ⟨b50,0,none⟩) (m := 1) (c := 1) 0 rfl (by kernel_rfl) 100000000 (by kernel_rfl) (by omega) rfl [.bool bra_0y17,iw zra_1y17,.string sra_2y17] (reads_blk (cs := [.bool bra_0y17,iw zra_1y17,.string sra_2y17]) 3 rfl 0 3) rfl rfl (by omega) (fun g51 cap52 => ?_))
          have E54 : Elems H30 elV ((zL24_8.toNat) + 1) (x49 ++ [.bool bra_0y17,iw zra_1y17,.string sra_2y17]) := (Elems.snoc E48 (mkl_cons (mkv_bool _) (mkl_cons (mkv_int _ _) (mkl_cons (mkv_str _ tra_2y17) mkl_nil))))
          generalize (x49 ++ [.bool bra_0y17,iw zra_1y17,.string sra_2y17]) = x53 at E54 ⊢
          refine ws [1,2] (SLe.refl _) ?_
          refine on 6 0 rfl (e0 (gz) [(0,.slice Aa_0 na_0 ca_0),(1,iw zb_0),(5,.slice ((some ⟨g51,0,none⟩)) (((zL24_8.toNat) + 1)) cap52),(6,iw zL4_6),(9,.slice A42 ((0 + (nL4r0 - zL24_8.toNat))) cap43)] ?_)
          refine ws [1,2] (SLe.refl _) ?_
          refine dn (Ok.reg (g0 2 [(0,.slice Aa_0 na_0 ca_0),(1,iw zb_0),(6,iw zL4_6),(68,.slice ((some ⟨g51,0,none⟩)) (((zL24_8.toNat) + 1)) cap52),(69,.slice A42 ((0 + (nL4r0 - zL24_8.toNat))) cap43)] [gz,gz] rfl (Ok.pubS 2 rfl E45 (by omega) [.row (.slice ((some ⟨g51,0,none⟩)) (((zL24_8.toNat) + 1)) cap52) (((zL24_8.toNat) + 1)) 3 54 x53,.blk b18 [.bool bra_0y17,iw zra_1y17,.string sra_2y17] 54,.blk b50 [.bool bra_0y17,iw zra_1y17,.string sra_2y17] 54] rfl ?_)))
          intro H58 le59 f60
          refine ef 3 rfl (Eff.appendS (el := elV) (t := 24) (d := some 70) (A := A42) (m := (0 + (nL4r0 - zL24_8.toNat))) (c := cap43) 0 rfl (by kernel_rfl) 100000000 (by kernel_rfl) (by omega) rfl rfl f60 (Elems.mono le59 E54) (fun A61 cap62 x63 E64 => ?_))
          refine g0 4 [(0,.slice Aa_0 na_0 ca_0),(1,iw zb_0),(5,.slice A61 ((((zL24_8.toNat) + 1) + (0 + (nL4r0 - zL24_8.toNat)))) cap62),(6,iw zL4_6)] [gz] rfl (Ok.segEnd rfl (Ok.blkN ?_))
          refine Ok.thenN (Ok.reg ?_)
          have k67 := wid (x := zL4_6 + 1) (by omega)
          refine g0 3 [(0,.slice Aa_0 na_0 ca_0),(1,iw zb_0),(5,.slice A61 ((((zL24_8.toNat) + 1) + (0 + (nL4r0 - zL24_8.toNat)))) cap62),(6,iw (w64 (zL4_6 + 1)))] [gz,gz,gz] rfl (en rfl (Ok.restr [0,1,5,6] [(0,.slice Aa_0 na_0 ca_0),(1,iw zb_0),(5,.slice A61 ((((zL24_8.toNat) + 1) + (0 + (nL4r0 - zL24_8.toNat)))) cap62),(6,iw (w64 (zL4_6 + 1)))] rfl (Ok.mask [true,false,false] [.row (.slice A61 ((((zL24_8.toNat) + 1) + (0 + (nL4r0 - zL24_8.toNat)))) cap62) ((((zL24_8.toNat) + 1) + (0 + (nL4r0 - zL24_8.toNat)))) 3 54 x63] rfl ?_)))
          exact Ok.again _ ⟨(w64 (zL4_6 + 1)),A61,(((zL24_8.toNat) + 1) + (0 + (nL4r0 - zL24_8.toNat))),cap62,x63,rfl,rfl,rfl,(tr le6 (tr le15 (tr le26 (tr le31 le59)))),by omega,by omega,by omega,E64⟩ (by omega)
        have h37 := of_decide_eq_false h37
        exact absurd h27 h37
      have h27 := of_decide_eq_false h27
      refine tk 0 [(5,gz),(6,gz),(7,gz),(8,gz),(9,gz),(10,gz),(11,gz),(12,gz)] [(0,.slice Aa_0 na_0 ca_0),(1,iw zb_0),(5,.slice AL4r0 nL4r0 cL4r0),(6,iw zL4_6),(7,pt b18 0),(8,iw zL24_8),(42,bF)] rfl ?_
      refine dn (cF (Ok.exit_ (Ok.thenE (Ok.thenE (Ok.blkE (Ok.thenN (Ok.seq (Ok.seq (st [0,1] [] 12 ?_)))))))))
      refine tk 7 [(0,gz),(1,gz),(2,gz),(3,gz),(4,gz)] [(0,.slice Aa_0 na_0 ca_0),(1,iw zb_0),(5,.slice AL4r0 nL4r0 cL4r0),(6,iw zL4_6),(7,pt b18 0),(8,iw zL24_8),(49,.bool (decide (zL24_8 < ((nL4r0 : Nat) : Int))))] rfl ?_
      refine cs (decide (zL24_8 < ((nL4r0 : Nat) : Int))) [49] (fun h68 => ?_) (fun h68 => ?_)
      · have h68 := of_decide_eq_true h68
        exact absurd h68 h27
      have h68 := of_decide_eq_false h68
      refine tk 0 [(5,gz),(6,gz),(7,gz),(8,gz),(9,gz),(10,gz),(11,gz)] [(0,.slice Aa_0 na_0 ca_0),(1,iw zb_0),(5,.slice AL4r0 nL4r0 cL4r0),(6,iw zL4_6),(7,pt b18 0),(8,iw zL24_8),(56,bF)] rfl ?_
      refine dn (cF (skn (sr (g5 4 (fun b69 => [(0,.slice Aa_0 na_0 ca_0),(1,iw zb_0),(5,.slice AL4r0 nL4r0 cL4r0),(6,iw zL4_6),(7,pt b18 0),(8,iw zL24_8),(57,sl b69 0 0 0),(60,.slice ((if cL4r0 = zL24_8.toNat then AL4r0 else Option.map (fun x => Addr.add x (zL24_8.toNat * 3)) AL4r0)) ((nL4r0 - zL24_8.toNat)) ((cL4r0 - zL24_8.toNat)))]) (fun b69 => [.row (.slice AL4r0 nL4r0 cL4r0) nL4r0 3 54 xL4r0,.blk b18 [.bool bra_0y17,iw zra_1y17,.string sra_2y17] 54,.blk b69 [] 54]) [.g [.N],gz,gz,.sl] (fun b69 => (ex1 (show 0 ≤ zL24_8 ∧ zL24_8 ≤ ((nL4r0 : Nat) : Int) from (by omega)) ex0)) rfl (fun b69 => (Ok.blkRow (b := b69) (t := 54) (cs := []) 2 (n := 0) (cap := 0) (sz := 3) rfl rfl rfl rfl [] rfl ?_))))))
      refine ef 5 rfl (Eff.appendR (el := elV) (t := 24) (d := some 61) (l := zL24_8.toNat) 2 rfl 0 rfl (by omega) (by kernel_rfl) 100000000 (by kernel_rfl) (by omega) rfl rfl (Elems.mono (tr le15 le26) EL4r0) (Elems.nil elV) (fun A70 cap71 x72 E73 => ?_))
      refine g0 6 [(0,.slice Aa_0 na_0 ca_0),(1,iw zb_0),(5,.slice AL4r0 nL4r0 cL4r0),(6,iw zL4_6),(7,pt b18 0),(8,iw zL24_8),(9,.slice A70 ((0 + (nL4r0 - zL24_8.toNat))) cap71)] [gz] rfl (en rfl (Ok.seq (Ok.rowCap 0 rfl (fun hc75 => (Ok.cutRow 0 (zL24_8.toNat) rfl (by omega) ?_)))))
      have E76 : Elems H25 elV (zL24_8.toNat) (xL4r0.take (zL24_8.toNat * 3)) := Elems.take (Elems.mono (tr le15 le26) EL4r0) _ (by omega)
      generalize (xL4r0.take (zL24_8.toNat * 3)) = x77 at E76 ⊢
      refine st [1,2] [] 7 ?_
      refine tx 3 [(0,gz),(1,gz),(2,.sh),(3,.g [.K 0 0,.K 0 1,.K 0 2])] [(0,.slice Aa_0 na_0 ca_0),(1,iw zb_0),(6,iw zL4_6),(9,.slice A70 ((0 + (nL4r0 - zL24_8.toNat))) cap71),(64,.slice AL4r0 zL24_8.toNat cL4r0),(65,.agg #[.bool bra_0y17,iw zra_1y17,.string sra_2y17])] (ex1 (show 0 ≤ zL24_8 ∧ zL24_8 ≤ ((cL4r0 : Nat) : Int) from (by omega)) ex0) rfl ?_
      refine on 4 2 rfl (e4 (.g [.N]) (fun b78 => [(0,.slice Aa_0 na_0 ca_0),(1,iw zb_0),(6,iw zL4_6),(9,.slice A70 ((0 + (nL4r0 - zL24_8.toNat))) cap71),(64,.slice AL4r0 zL24_8.toNat cL4r0),(66,sl b78 0 1 1)]) (fun b78 => [.row (.slice AL4r0 ((zL24_8.toNat)) cL4r0) ((zL24_8.toNat)) 3 54 x77,.blk b18 [.bool bra_0y17,iw zra_1y17,.string sra_2y17] 54,.row (.slice A70 ((0 + (nL4r0 - zL24_8.toNat))) cap71) ((0 + (nL4r0 - zL24_8.toNat))) 3 54 x72,.blk b78 [.bool bra_0y17,iw zra_1y17,.string sra_2y17] 54]) (fun b78 => ?_))
      refine ws [1,2] (SLe.refl _) ?_
      refine on 5 1 rfl (Eff.appendN (t := 24) (d := some 67) (ad := ⟨b78,0,none⟩) (m := 1) (c := 1) 0 rfl (by kernel_rfl) 100000000 (by kernel_rfl) (by omega) rfl [.bool bra_0y17,iw zra_1y17,.string sra_2y17] (reads_blk (cs := [.bool bra_0y17,iw zra_1y17,.string sra_2y17]) 3 rfl 0 3) rfl rfl (by omega) (fun g79 cap80 => ?_))
      have E82 : Elems H25 elV ((zL24_8.toNat) + 1) (x77 ++ [.bool bra_0y17,iw zra_1y17,.string sra_2y17]) := (Elems.snoc E76 (mkl_cons (mkv_bool _) (mkl_cons (mkv_int _ _) (mkl_cons (mkv_str _ tra_2y17) mkl_nil))))
      generalize (x77 ++ [.bool bra_0y17,iw zra_1y17,.string sra_2y17]) = x81 at E82 ⊢
      refine ws [1,2] (SLe.refl _) ?_
      refine on 6 0 rfl (e0 (gz) [(0,.slice Aa_0 na_0 ca_0),(1,iw zb_0),(5,.slice ((some ⟨g79,0,none⟩)) (((zL24_8.toNat) + 1)) cap80),(6,iw zL4_6),(9,.slice A70 ((0 + (nL4r0 - zL24_8.toNat))) cap71)] ?_)
      refine ws [1,2] (SLe.refl _) ?_
      refine dn (Ok.reg (g0 2 [(0,.slice Aa_0 na_0 ca_0),(1,iw zb_0),(6,iw zL4_6),(68,.slice ((some ⟨g79,0,none⟩)) (((zL24_8.toNat) + 1)) cap80),(69,.slice A70 ((0 + (nL4r0 - zL24_8.toNat))) cap71)] [gz,gz] rfl (Ok.pubS 2 rfl E73 (by omega) [.row (.slice ((some ⟨g79,0,none⟩)) (((zL24_8.toNat) + 1)) cap80) (((zL24_8.toNat) + 1)) 3 54 x81,.blk b18 [.bool bra_0y17,iw zra_1y17,.string sra_2y17] 54,.blk b78 [.bool bra_0y17,iw zra_1y17,.string sra_2y17] 54] rfl ?_)))
      intro H86 le87 f88
      refine ef 3 rfl (Eff.appendS (el := elV) (t := 24) (d := some 70) (A := A70) (m := (0 + (nL4r0 - zL24_8.toNat))) (c := cap71) 0 rfl (by kernel_rfl) 100000000 (by kernel_rfl) (by omega) rfl rfl f88 (Elems.mono le87 E82) (fun A89 cap90 x91 E92 => ?_))
      refine g0 4 [(0,.slice Aa_0 na_0 ca_0),(1,iw zb_0),(5,.slice A89 ((((zL24_8.toNat) + 1) + (0 + (nL4r0 - zL24_8.toNat)))) cap90),(6,iw zL4_6)] [gz] rfl (Ok.segEnd rfl (Ok.blkN ?_))
      refine Ok.thenN (Ok.reg ?_)
      have k95 := wid (x := zL4_6 + 1) (by omega)
      refine g0 3 [(0,.slice Aa_0 na_0 ca_0),(1,iw zb_0),(5,.slice A89 ((((zL24_8.toNat) + 1) + (0 + (nL4r0 - zL24_8.toNat)))) cap90),(6,iw (w64 (zL4_6 + 1)))] [gz,gz,gz] rfl (en rfl (Ok.restr [0,1,5,6] [(0,.slice Aa_0 na_0 ca_0),(1,iw zb_0),(5,.slice A89 ((((zL24_8.toNat) + 1) + (0 + (nL4r0 - zL24_8.toNat)))) cap90),(6,iw (w64 (zL4_6 + 1)))] rfl (Ok.mask [true,false,false] [.row (.slice A89 ((((zL24_8.toNat) + 1) + (0 + (nL4r0 - zL24_8.toNat)))) cap90) ((((zL24_8.toNat) + 1) + (0 + (nL4r0 - zL24_8.toNat)))) 3 54 x91] rfl ?_)))
      exact Ok.again _ ⟨(w64 (zL4_6 + 1)),A89,(((zL24_8.toNat) + 1) + (0 + (nL4r0 - zL24_8.toNat))),cap90,x91,rfl,rfl,rfl,(tr le6 (tr le15 (tr le26 le87))),by omega,by omega,by omega,E92⟩ (by omega)
    have h10 := of_decide_eq_false h10
    refine Ok.exit_ (Ok.thenE (Ok.thenE (Ok.blkE (Ok.thenN (sr (g0 2 [(4,.slice AL4r0 nL4r0 cL4r0)] [gz,gz] rfl (en rfl (Ok.ret_ (Ok.pubS 0 rfl EL4r0 (by omega) [] rfl ?_)))))))))
    intro H97 le98 f99
    exact Ok.ret1 (v := .slice AL4r0 nL4r0 cL4r0) (tr le6 le98) rfl rfl ⟨AL4r0,nL4r0,cL4r0,rfl,f99,(by omega)⟩
  have h8 := of_decide_eq_false h8
  refine g0 9 [(0,.slice Aa_0 na_0 ca_0),(1,iw zb_0),(5,.slice AL4r0 nL4r0 cL4r0),(6,iw zL4_6),(19,bF)] [gz,gz,gz,gz] rfl (en rfl (cF (Ok.exit_ (Ok.thenE (Ok.thenE (Ok.blkE (Ok.thenN (sr (g0 2 [(4,.slice AL4r0 nL4r0 cL4r0)] [gz,gz] rfl (en rfl (Ok.ret_ (Ok.pubS 0 rfl EL4r0 (by omega) [] rfl ?_))))))))))))
  intro H102 le103 f104
  exact Ok.ret1 (v := .slice AL4r0 nL4r0 cL4r0) (tr le6 le103) rfl rfl ⟨AL4r0,nL4r0,cL4r0,rfl,f104,(by omega)⟩
theorem c51 (H : Snap) (za_0 : Int) (za_1 : Int) (za_2 : Int) (za_3 : Int) (Aa_4 : Option Addr) (na_4 : Nat) (ca_4 : Nat) (ga_4 : List (List Value)) (sa_5 : ByteArray) (Aa_6 : Option Addr) (na_6 : Nat) (ca_6 : Nat) (ka_6 : PTs) (zb_0 : Int) (sb_1 : ByteArray) (zb_2 : Int) (zb_3 : Int) (ha_4 : LstIs H elV Aa_4 na_4 ga_4) (ta_5 : sa_5.size < 9223372036854775808) (ha_6 : KidsIs H Aa_6 na_6 ka_6) (tb_1 : sb_1.size < 9223372036854775808) : Does Tryz.prog 51 [.agg #[iw za_0,iw za_1,iw za_2,iw za_3,.slice Aa_4 na_4 ca_4,.string sa_5,.slice Aa_6 na_6 ca_6],.agg #[iw zb_0,.string sb_1,iw zb_2,iw zb_3]] H [] (fun v H' kp => ∃ (zra_0 : Int) (zra_1 : Int) (zra_2 : Int) (zra_3 : Int) (Ara_4 : Option Addr) (nra_4 : Nat) (cra_4 : Nat) (gra_4 : List (List Value)) (sra_5 : ByteArray) (Ara_6 : Option Addr) (nra_6 : Nat) (cra_6 : Nat) (kra_6 : PTs),v = .agg #[iw zra_0,iw zra_1,iw zra_2,iw zra_3,.slice Ara_4 nra_4 cra_4,.string sra_5,.slice Ara_6 nra_6 cra_6] ∧ LstIs H' elV Ara_4 nra_4 gra_4 ∧ sra_5.size < 9223372036854775808 ∧ KidsIs H' Ara_6 nra_6 kra_6 ∧ (1 ≤ zra_0 ∧ zra_0 ≤ 4 ∧ zra_1 = zb_0) ∧ kra_6 = PTs.nil) := by
  have lha_4 := ha_4.2.1
  have mha_4 := ha_4.1
  have lha_6 := ha_6.2.1
  have mha_6 := ha_6.1
  refine Does.of Tryz.func51 rfl rfl rfl rfl (fun w0 H0 kx => ?_)
  refine sr (g4 3 (fun b1 => [(2,pt b1 0),(3,pt (b1+1) 0),(4,pt (b1+1+1) 0)]) (fun b1 => [.blk b1 [iw za_0,iw za_1,iw za_2,iw za_3,.slice Aa_4 na_4 ca_4,.string sa_5,.slice Aa_6 na_6 ca_6] 27,.blk (b1+1) [iw zb_0,.string sb_1,iw zb_2,iw zb_3] 41,.blk (b1+1+1) [iw 0,iw 0,iw 0,iw 0,n0,s0,n0] 27]) [.g [.N],.g [.N],.g [.N]] rfl (fun b1 => (en rfl ?_)))
  refine sr (g0 4 [(2,pt b1 0),(3,pt (b1+1) 0),(4,pt (b1+1+1) 0),(7,.slice Aa_4 na_4 ca_4),(9,iw zb_2)] [gz,.g [.K 0 4],gz,.g [.K 1 2]] rfl (ef 5 rfl (ca (some 10) (c90 H Aa_4 (na_4) (ca_4) zb_2 (LstIs.wf ha_4)) ?_)))
  rintro v3 H4 k6 le5 ⟨Ara_0y7,nra_0y7,cra_0y7,rfl,hra_0y7,py7_0⟩
  have lhra_0y7 := hra_0y7.1
  refine g0 6 [(2,pt b1 0),(3,pt (b1+1) 0),(4,pt (b1+1+1) 0),(5,.slice Ara_0y7 nra_0y7 cra_0y7)] [gz] rfl (en rfl (Ok.seq (Ok.blk (Ok.seq (Ok.regJ (ι := Bool) (fun y10 => [(2,pt b1 0),(3,pt (b1+1) 0),(4,pt (b1+1+1) 0),(5,.slice Ara_0y7 nra_0y7 cra_0y7),(11,.bool y10)]) ?_ (fun J9 => ?_))))))
  · rintro bJ9_11
    refine Ok.thenN (cd bJ9_11 (fun h11 => ?_) (fun h11 => ?_))
    · refine sr (g1 4 [(4,pt (b1+1+1) 0)] [.blk b1 [iw za_0,iw za_1,iw za_2,iw za_3,.slice Aa_4 na_4 ca_4,.string sa_5,.slice Aa_6 na_6 ca_6] 27,.blk (b1+1) [iw zb_0,.string sb_1,iw zb_2,iw zb_3] 41,.blk (b1+1+1) [iw 4,iw zb_0,iw 0,iw 0,n0,s0,n0] 27] [gz,.g [.K 1 0],gz,.g [.K 2 0,.K 2 1,.K 2 2,.K 2 3,.K 2 4,.K 2 5,.K 2 6]] rfl (Ok.mask [false,false,true] [.blk (b1+1+1) [iw 4,iw zb_0,iw 0,iw 0,n0,s0,n0] 27] rfl ?_))
      refine en rfl (Ok.ret_ (Ok.blkR (Ok.thenR ?_)))
      exact Ok.ret1c le5 [.K 0 0,.K 0 1,.K 0 2,.K 0 3,.K 0 4,.K 0 5,.K 0 6] (.agg #[iw 4,iw zb_0,iw 0,iw 0,n0,s0,n0]) [b1+1+1,b1+1+1,b1+1+1,b1+1+1,b1+1+1,b1+1+1,b1+1+1] rfl (by kernel_rfl) ⟨4,zb_0,0,0,none,0,0,[],(⟨#[]⟩ : ByteArray),none,0,0,PTs.nil,rfl,(LstIs.nil _ _ _),(by decide),(KidsIs.nil _),(by omega),rfl⟩
    refine sr (g0 4 [(2,pt b1 0),(3,pt (b1+1) 0),(4,pt (b1+1+1) 0),(5,.slice Ara_0y7 nra_0y7 cra_0y7),(28,.bool (za_0 == 2))] [gz,.g [.K 0 0],gz,gz] rfl (en rfl (cd (za_0 == 2) (fun h14 => ?_) (fun h14 => ?_))))
    · have h14 := eq_of_beq h14
      refine sr (g1 5 [(4,pt (b1+1+1) 0)] [.blk b1 [iw za_0,iw za_1,iw za_2,iw za_3,.slice Aa_4 na_4 ca_4,.string sa_5,.slice Aa_6 na_6 ca_6] 27,.blk (b1+1) [iw zb_0,.string sb_1,iw zb_2,iw zb_3] 41,.blk (b1+1+1) [iw 2,iw zb_0,iw 0,iw 0,.slice Ara_0y7 nra_0y7 cra_0y7,s0,n0] 27] [gz,.g [.K 1 0],gz,gz,.g [.K 2 0,.K 2 1,.K 2 2,.K 2 3,.K 2 4,.K 2 5,.K 2 6]] rfl (Ok.mask [false,false,true] [.blk (b1+1+1) [iw 2,iw zb_0,iw 0,iw 0,.slice Ara_0y7 nra_0y7 cra_0y7,s0,n0] 27] rfl ?_))
      refine en rfl (Ok.ret_ (Ok.blkR (Ok.thenR ?_)))
      obtain ⟨gl16,fl16⟩ := WfS.lst hra_0y7
      exact Ok.ret1c le5 [.K 0 0,.K 0 1,.K 0 2,.K 0 3,.K 0 4,.K 0 5,.K 0 6] (.agg #[iw 2,iw zb_0,iw 0,iw 0,.slice Ara_0y7 nra_0y7 cra_0y7,s0,n0]) [b1+1+1,b1+1+1,b1+1+1,b1+1+1,b1+1+1,b1+1+1,b1+1+1] rfl (by kernel_rfl) ⟨2,zb_0,0,0,Ara_0y7,nra_0y7,cra_0y7,gl16,(⟨#[]⟩ : ByteArray),none,0,0,PTs.nil,rfl,fl16,(by decide),(KidsIs.nil _),(by omega),rfl⟩
    have h14 := ne_of_beq_false h14
    refine sr (g0 4 [(2,pt b1 0),(3,pt (b1+1) 0),(4,pt (b1+1+1) 0),(36,.bool (zb_2 == 4))] [gz,.g [.K 1 2],gz,gz] rfl (en rfl (cd (zb_2 == 4) (fun h18 => ?_) (fun h18 => ?_))))
    · have h18 := eq_of_beq h18
      refine Ok.seq (st [0,1] [] 11 ?_)
      refine tx 1 [(0,gz),(1,.g [.K 1 0]),(2,gz),(3,.g [.K 0 5]),(4,gz),(5,.g [.K 0 5]),(6,gz),(7,gz),(8,.ss),(9,gz)] [(4,pt (b1+1+1) 0),(49,.agg #[iw 3,iw zb_0,iw 0,iw 0,n0,.string (sa_5.extract 0 ((if 200 < ((sa_5.size : Nat) : Int) then 200 else ((sa_5.size : Nat) : Int))).toNat),n0])] (ex1 (show 0 ≤ (if 200 < ((sa_5.size : Nat) : Int) then 200 else ((sa_5.size : Nat) : Int)) ∧ (if 200 < ((sa_5.size : Nat) : Int) then 200 else ((sa_5.size : Nat) : Int)) ≤ ((sa_5.size : Nat) : Int) from (by omega)) ex0) rfl ?_
      refine on 10 0 rfl (e1 (.g [.K 2 0,.K 2 1,.K 2 2,.K 2 3,.K 2 4,.K 2 5,.K 2 6]) [(4,pt (b1+1+1) 0)] [.blk b1 [iw za_0,iw za_1,iw za_2,iw za_3,.slice Aa_4 na_4 ca_4,.string sa_5,.slice Aa_6 na_6 ca_6] 27,.blk (b1+1) [iw zb_0,.string sb_1,iw zb_2,iw zb_3] 41,.blk (b1+1+1) [iw 3,iw zb_0,iw 0,iw 0,n0,.string (sa_5.extract 0 ((if 200 < ((sa_5.size : Nat) : Int) then 200 else ((sa_5.size : Nat) : Int))).toNat),n0] 27] ?_)
      refine ws [0,1] (SLe.refl _) ?_
      refine dn (Ok.ret_ (Ok.blkR (Ok.thenR ?_)))
      exact Ok.ret1c le5 [.K 2 0,.K 2 1,.K 2 2,.K 2 3,.K 2 4,.K 2 5,.K 2 6] (.agg #[iw 3,iw zb_0,iw 0,iw 0,n0,.string (sa_5.extract 0 ((if 200 < ((sa_5.size : Nat) : Int) then 200 else ((sa_5.size : Nat) : Int))).toNat),n0]) [b1+1+1,b1+1+1,b1+1+1,b1+1+1,b1+1+1,b1+1+1,b1+1+1] rfl (by kernel_rfl) ⟨3,zb_0,0,0,none,0,0,[],((sa_5.extract 0 ((if 200 < ((sa_5.size : Nat) : Int) then 200 else ((sa_5.size : Nat) : Int))).toNat)),none,0,0,PTs.nil,rfl,(LstIs.nil _ _ _),(extract_small ta_5),(KidsIs.nil _),(by omega),rfl⟩
    have h18 := ne_of_beq_false h18
    refine Ok.skip_ (Ok.blkN (Ok.thenN (sr (g1 8 [(4,pt (b1+1+1) 0)] [.blk b1 [iw za_0,iw za_1,iw za_2,iw za_3,.slice Aa_4 na_4 ca_4,.string sa_5,.slice Aa_6 na_6 ca_6] 27,.blk (b1+1) [iw zb_0,.string sb_1,iw zb_2,iw zb_3] 41,.blk (b1+1+1) [iw 1,iw zb_0,iw za_2,iw za_3,n0,s0,n0] 27] [gz,.g [.K 1 0],gz,.g [.K 0 2],gz,.g [.K 0 3],gz,.g [.K 2 0,.K 2 1,.K 2 2,.K 2 3,.K 2 4,.K 2 5,.K 2 6]] rfl (Ok.mask [false,false,true] [.blk (b1+1+1) [iw 1,iw zb_0,iw za_2,iw za_3,n0,s0,n0] 27] rfl ?_)))))
    refine en rfl (Ok.ret_ ?_)
    exact Ok.ret1c le5 [.K 0 0,.K 0 1,.K 0 2,.K 0 3,.K 0 4,.K 0 5,.K 0 6] (.agg #[iw 1,iw zb_0,iw za_2,iw za_3,n0,s0,n0]) [b1+1+1,b1+1+1,b1+1+1,b1+1+1,b1+1+1,b1+1+1,b1+1+1] rfl (by kernel_rfl) ⟨1,zb_0,za_2,za_3,none,0,0,[],(⟨#[]⟩ : ByteArray),none,0,0,PTs.nil,rfl,(LstIs.nil _ _ _),(by decide),(KidsIs.nil _),(by omega),rfl⟩
  refine g0 4 [(2,pt b1 0),(3,pt (b1+1) 0),(4,pt (b1+1+1) 0),(5,.slice Ara_0y7 nra_0y7 cra_0y7),(15,.bool (za_0 == 4))] [gz,.g [.K 0 0],gz,gz] rfl (cs (za_0 == 4) [15] (fun h22 => ?_) (fun h22 => ?_))
  · have h22 := eq_of_beq h22
    refine g0 14 [(2,pt b1 0),(3,pt (b1+1) 0),(4,pt (b1+1+1) 0),(5,.slice Ara_0y7 nra_0y7 cra_0y7),(11,bT)] [gz,gz,gz,gz,gz,gz,gz,gz,gz,gz] rfl (Ok.segEnd rfl (Ok.restr [2,3,4,5,11] [(2,pt b1 0),(3,pt (b1+1) 0),(4,pt (b1+1+1) 0),(5,.slice Ara_0y7 nra_0y7 cra_0y7),(11,bT)] rfl ?_))
    exact J9 (true)
  have h22 := ne_of_beq_false h22
  refine g0 8 [(2,pt b1 0),(3,pt (b1+1) 0),(4,pt (b1+1+1) 0),(5,.slice Ara_0y7 nra_0y7 cra_0y7),(15,bF),(19,.bool (za_0 == 2))] [gz,.g [.K 0 0],gz,gz] rfl (cs (za_0 == 2) [19] (fun h25 => ?_) (fun h25 => ?_))
  · have h25 := eq_of_beq h25
    refine g0 14 [(2,pt b1 0),(3,pt (b1+1) 0),(4,pt (b1+1+1) 0),(5,.slice Ara_0y7 nra_0y7 cra_0y7),(11,.bool (((nra_0y7 : Nat) : Int) == 0))] [gz,gz,gz,gz,gz,gz] rfl (Ok.segEnd rfl (Ok.restr [2,3,4,5,11] [(2,pt b1 0),(3,pt (b1+1) 0),(4,pt (b1+1+1) 0),(5,.slice Ara_0y7 nra_0y7 cra_0y7),(11,.bool (((nra_0y7 : Nat) : Int) == 0))] rfl ?_))
    exact J9 ((((nra_0y7 : Nat) : Int) == 0))
  have h25 := ne_of_beq_false h25
  refine g0 14 [(2,pt b1 0),(3,pt (b1+1) 0),(4,pt (b1+1+1) 0),(5,.slice Ara_0y7 nra_0y7 cra_0y7),(11,bF)] [gz,gz,gz,gz,gz,gz] rfl (Ok.segEnd rfl (Ok.restr [2,3,4,5,11] [(2,pt b1 0),(3,pt (b1+1) 0),(4,pt (b1+1+1) 0),(5,.slice Ara_0y7 nra_0y7 cra_0y7),(11,bF)] rfl ?_))
  exact J9 (false)
end Go.Proofs.YtdifenljfklolaaGreatDoor
