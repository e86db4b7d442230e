/- Contracts of functions at values that are not known: printed by a program of this claim's author. -/
import Derived.Test.YtdifenljfklolaaGreatDoorSg2
set_option linter.unusedVariables false
set_option linter.unusedSimpArgs false
set_option maxHeartbeats 4000000
set_option maxRecDepth 100000
namespace Go.Proofs.YtdifenljfklolaaGreatDoor
open Go Go.RowKit Sx
theorem c8 : ∀ (d : Nat) (H : Snap) (za_0 : Int) (za_1 : Int) (za_2 : Int) (za_3 : Int) (Aa_4 : Option Addr) (na_4 : Nat) (ca_4 : Nat) (ga_4 : List (List Value)) (sa_5 : ByteArray) (Aa_6 : Option Addr) (na_6 : Nat) (ca_6 : Nat) (ka_6 : PTs) (Ab_0 : Option Addr) (nb_0 : Nat) (cb_0 : Nat) (gb_0 : List (List Value)) (ha_4 : LstIs H elV Aa_4 na_4 ga_4) (ta_5 : sa_5.size < 9223372036854775808) (ha_6 : KidsIs H Aa_6 na_6 ka_6) (hb_0 : LstIs H el59 Ab_0 nb_0 gb_0),ka_6.depth ≤ d → Does Tryz.prog 8 [.agg #[iw za_0,iw za_1,iw za_2,iw za_3,.slice Aa_4 na_4 ca_4,.string sa_5,.slice Aa_6 na_6 ca_6],.agg #[.slice Ab_0 nb_0 cb_0]] H [] (fun v H' kp => ∃ (zra_0 : Int),v = iw zra_0 ∧ zra_0 = (PT.node za_0 za_1 za_2 za_3 ga_4 sa_5 ka_6).ev (valAt gb_0)) := by
  intro d
  induction d using Nat.strongRecOn
  rename_i d ih
  intro H za_0 za_1 za_2 za_3 Aa_4 na_4 ca_4 ga_4 sa_5 Aa_6 na_6 ca_6 ka_6 Ab_0 nb_0 cb_0 gb_0 ha_4 ta_5 ha_6 hb_0 hd
  have lha_4 := ha_4.2.1
  have mha_4 := ha_4.1
  have lha_6 := ha_6.2.1
  have mha_6 := ha_6.1
  have lhb_0 := hb_0.2.1
  have mhb_0 := hb_0.1
  refine Does.of Tryz.func8 rfl rfl rfl rfl (fun w0 H0 kx => ?_)
  refine sr (g4 3 (fun b1 => [(2,pt b1 0),(3,pt (b1+1) 0)]) (fun b1 => [.blk b1 [iw za_0,iw za_1,iw za_2,iw za_3,.slice Aa_4 na_4 ca_4,.string sa_5,.slice Aa_6 na_6 ca_6] 27,.blk (b1+1) [.slice Ab_0 nb_0 cb_0] 50]) [.g [.N],.g [.N],gz] rfl (fun b1 => (en rfl ?_)))
  refine sr (g0 2 [(2,pt b1 0),(3,pt (b1+1) 0),(5,iw 0),(6,iw 0)] [gz,gz] rfl (en rfl (Ok.seq (sr (g0 1 [(2,pt b1 0),(3,pt (b1+1) 0),(5,iw 0),(6,iw 0),(7,iw 0)] [gz] rfl (en rfl (Ok.blk (Ok.restr [2,3,5,6,7] [(2,pt b1 0),(3,pt (b1+1) 0),(5,iw 0),(6,iw 0),(7,iw 0)] rfl (Ok.loop (fun H' fr kb m => ∃ (zL4_5 : Int) (zL4_6 : Int) (zL4_7 : Int) (RL4 : PTs),fr = [(2,pt b1 0),(3,pt (b1+1) 0),(5,iw zL4_5),(6,iw zL4_6),(7,iw zL4_7)] ∧ kb = [.blk b1 [iw za_0,iw za_1,iw za_2,iw za_3,.slice Aa_4 na_4 ca_4,.string sa_5,.slice Aa_6 na_6 ca_6] 27,.blk (b1+1) [.slice Ab_0 nb_0 cb_0] 50] ∧ m = ((((na_6 : Nat) : Int)) - zL4_7).toNat ∧ SLe H H' ∧ 0 ≤ zL4_7 ∧ zL4_7 ≤ ((na_6 : Nat) : Int) ∧ (0 ≤ zL4_5 ∧ zL4_5 ≤ zL4_7) ∧ (0 ≤ zL4_6 ∧ zL4_6 ≤ zL4_7) ∧ zL4_7 + ((RL4.len : Nat) : Int) = ((na_6 : Nat) : Int) ∧ RL4.depth ≤ ka_6.depth ∧ KidsAt H' RL4 Aa_6 (zL4_7).toNat ∧ ((RL4.cnt (valAt gb_0) 1 : Nat) : Int) + zL4_5 = ((ka_6.cnt (valAt gb_0) 1 : Nat) : Int) ∧ ((RL4.cnt (valAt gb_0) 0 : Nat) : Int) + zL4_6 = ((ka_6.cnt (valAt gb_0) 0 : Nat) : Int)) _ ⟨0,0,0,ka_6,rfl,rfl,rfl,SLe.refl _,by decide,by omega,by omega,by omega,by omega,by omega,ha_6.2.2,(by omega),(by omega)⟩ ?_)))))))))
  rintro H5 _ _ mL4 ⟨zL4_5,zL4_6,zL4_7,RL4,rfl,rfl,hmL4,le6,fL4_0,fL4_1,fL4_2,fL4_3,fL4_4,fL4_5,QL4,XL4_0,XL4_1⟩
  refine Ok.seq (sr (g0 5 [(2,pt b1 0),(3,pt (b1+1) 0),(5,iw zL4_5),(6,iw zL4_6),(7,iw zL4_7),(13,.bool (decide (zL4_7 < ((na_6 : Nat) : Int))))] [gz,gz,.g [.K 0 6],gz,gz] rfl (en rfl (cd (decide (zL4_7 < ((na_6 : Nat) : Int))) (fun h8 => ?_) (fun h8 => ?_)))))
  · have h8 := of_decide_eq_true h8
    refine skn (Ok.seq (Ok.blk (Ok.seq (st [0,1] [] 7 ?_))))
    have ie9 : 0 < RL4.len := by omega
    have ze9 : 0 ≤ zL4_7 ∧ zL4_7 < ((na_6 : Nat) : Int) := by omega
    obtain ⟨ke9,re9,rfl⟩ := PTs.open_ ie9
    obtain ⟨je9,⟨cse9,we9,he9⟩,ne9⟩ := (QL4).cons
    obtain ⟨ae9,be9,ce9,de9,se9,te9,kse9,rfl⟩ := PTs.node_ ke9
    obtain ⟨Ae9_4,ne9_4,ce9_4,Ae9_6,ne9_6,ce9_6,rfl,fe9_4,txe9,fe9_6⟩ := we9.open_
    have xe9 := PTs.len_cons (PT.node ae9 be9 ce9 de9 se9 te9 kse9) re9
    have ye9 := PTs.depth1 ae9 be9 ce9 de9 se9 te9 kse9 re9
    have ve9 := PTs.depth2 (PT.node ae9 be9 ce9 de9 se9 te9 kse9) re9
    have lfe9_4 := fe9_4.2.1
    have mfe9_4 := fe9_4.1
    have lfe9_6 := fe9_6.2.1
    have mfe9_6 := fe9_6.1
    refine tx 1 [(0,gz),(1,.g [.K 0 6]),(2,gz),(3,.ix),(4,.g [.X (iw ae9),.X (iw be9),.X (iw ce9),.X (iw de9),.X (.slice Ae9_4 ne9_4 ce9_4),.X (.string te9),.X (.slice Ae9_6 ne9_6 ce9_6)]),(5,.g [.K 1 0])] [(2,pt b1 0),(3,pt (b1+1) 0),(5,iw zL4_5),(6,iw zL4_6),(7,iw zL4_7),(20,.agg #[iw ae9,iw be9,iw ce9,iw de9,.slice Ae9_4 ne9_4 ce9_4,.string te9,.slice Ae9_6 ne9_6 ce9_6]),(21,.agg #[.slice Ab_0 nb_0 cb_0])] (ex1 (And.intro je9 ze9) (ex1 (cell0 (he9 0 _ rfl)) (ex1 (he9 (1) _ rfl) (ex1 (he9 (2) _ rfl) (ex1 (he9 (3) _ rfl) (ex1 (he9 (4) _ rfl) (ex1 (he9 (5) _ rfl) (ex1 (he9 (6) _ rfl) ex0)))))))) rfl ?_
    refine on 6 0 rfl (ca (some 22) (ih kse9.depth (by omega) H5 ae9 be9 ce9 de9 Ae9_4 (ne9_4) (ce9_4) se9 te9 Ae9_6 (ne9_6) (ce9_6) kse9 Ab_0 (nb_0) (cb_0) gb_0 fe9_4 txe9 fe9_6 (LstIs.mono le6 hb_0) (Nat.le_refl _)) ?_)
    rintro v10 H11 k13 le12 ⟨zra_0y14,rfl,py14_0⟩
    refine ws [0,1] le12 ?_
    refine dn (Ok.blk (sr (g0 2 [(2,pt b1 0),(3,pt (b1+1) 0),(5,iw zL4_5),(6,iw zL4_6),(7,iw zL4_7),(22,iw zra_0y14),(23,.bool (zra_0y14 == 1))] [gz,gz] rfl (en rfl (cd (zra_0y14 == 1) (fun h16 => ?_) (fun h16 => ?_))))))
    · have h16 := eq_of_beq h16
      refine Ok.reg ?_
      have k18 := wid (x := zL4_5 + 1) (by omega)
      refine g0 3 [(2,pt b1 0),(3,pt (b1+1) 0),(5,iw (w64 (zL4_5 + 1))),(6,iw zL4_6),(7,iw zL4_7)] [gz,gz,gz] rfl (Ok.segEnd rfl (Ok.blkN ?_))
      refine Ok.blkN (Ok.thenN (Ok.reg ?_))
      have k20 := wid (x := zL4_7 + 1) (by omega)
      refine g0 3 [(2,pt b1 0),(3,pt (b1+1) 0),(5,iw (w64 (zL4_5 + 1))),(6,iw zL4_6),(7,iw (w64 (zL4_7 + 1)))] [gz,gz,gz] rfl (en rfl (Ok.restr [2,3,5,6,7] [(2,pt b1 0),(3,pt (b1+1) 0),(5,iw (w64 (zL4_5 + 1))),(6,iw zL4_6),(7,iw (w64 (zL4_7 + 1)))] rfl ?_))
      exact Ok.again _ ⟨(w64 (zL4_5 + 1)),zL4_6,(w64 (zL4_7 + 1)),re9,rfl,rfl,rfl,(tr le6 le12),by omega,by omega,by omega,by omega,by omega,by omega,(KidsAt.cast (KidsAt.mono le12 ne9) (by omega)),(by have q := XL4_0; rw [PTs.cnt_cons,← py14_0] at q; split at q <;> omega),(by have q := XL4_1; rw [PTs.cnt_cons,← py14_0] at q; split at q <;> omega)⟩ (by omega)
    have h16 := ne_of_beq_false h16
    refine sr (g0 2 [(2,pt b1 0),(3,pt (b1+1) 0),(5,iw zL4_5),(6,iw zL4_6),(7,iw zL4_7),(27,.bool (zra_0y14 == 0))] [gz,gz] rfl (en rfl (cd (zra_0y14 == 0) (fun h22 => ?_) (fun h22 => ?_))))
    · have h22 := eq_of_beq h22
      refine Ok.reg ?_
      have k24 := wid (x := zL4_6 + 1) (by omega)
      refine g0 3 [(2,pt b1 0),(3,pt (b1+1) 0),(5,iw zL4_5),(6,iw (w64 (zL4_6 + 1))),(7,iw zL4_7)] [gz,gz,gz] rfl (Ok.segEnd rfl (Ok.blkN ?_))
      refine Ok.blkN (Ok.thenN (Ok.reg ?_))
      have k26 := wid (x := zL4_7 + 1) (by omega)
      refine g0 3 [(2,pt b1 0),(3,pt (b1+1) 0),(5,iw zL4_5),(6,iw (w64 (zL4_6 + 1))),(7,iw (w64 (zL4_7 + 1)))] [gz,gz,gz] rfl (en rfl (Ok.restr [2,3,5,6,7] [(2,pt b1 0),(3,pt (b1+1) 0),(5,iw zL4_5),(6,iw (w64 (zL4_6 + 1))),(7,iw (w64 (zL4_7 + 1)))] rfl ?_))
      exact Ok.again _ ⟨zL4_5,(w64 (zL4_6 + 1)),(w64 (zL4_7 + 1)),re9,rfl,rfl,rfl,(tr le6 le12),by omega,by omega,by omega,by omega,by omega,by omega,(KidsAt.cast (KidsAt.mono le12 ne9) (by omega)),(by have q := XL4_0; rw [PTs.cnt_cons,← py14_0] at q; split at q <;> omega),(by have q := XL4_1; rw [PTs.cnt_cons,← py14_0] at q; split at q <;> omega)⟩ (by omega)
    have h22 := ne_of_beq_false h22
    refine Ok.skip_ (Ok.blkN (Ok.blkN (Ok.thenN (Ok.reg ?_))))
    have k28 := wid (x := zL4_7 + 1) (by omega)
    refine g0 3 [(2,pt b1 0),(3,pt (b1+1) 0),(5,iw zL4_5),(6,iw zL4_6),(7,iw (w64 (zL4_7 + 1)))] [gz,gz,gz] rfl (en rfl (Ok.restr [2,3,5,6,7] [(2,pt b1 0),(3,pt (b1+1) 0),(5,iw zL4_5),(6,iw zL4_6),(7,iw (w64 (zL4_7 + 1)))] rfl ?_))
    exact Ok.again _ ⟨zL4_5,zL4_6,(w64 (zL4_7 + 1)),re9,rfl,rfl,rfl,(tr le6 le12),by omega,by omega,by omega,by omega,by omega,by omega,(KidsAt.cast (KidsAt.mono le12 ne9) (by omega)),(by have q := XL4_0; rw [PTs.cnt_cons,← py14_0] at q; split at q <;> omega),(by have q := XL4_1; rw [PTs.cnt_cons,← py14_0] at q; split at q <;> omega)⟩ (by omega)
  have h8 := of_decide_eq_false h8
  refine Ok.exit_ (Ok.thenE (Ok.thenE (Ok.blkE (Ok.thenN (sr (g0 4 [(2,pt b1 0),(3,pt (b1+1) 0),(5,iw zL4_5),(6,iw zL4_6),(8,iw ((na_6 : Nat) : Int))] [gz,.g [.K 0 6],gz,gz] rfl (en rfl (Ok.seq (sr (g0 2 [(2,pt b1 0),(3,pt (b1+1) 0),(5,iw zL4_5),(6,iw zL4_6),(8,iw ((na_6 : Nat) : Int)),(35,iw za_0)] [gz,.g [.K 0 0]] rfl (en rfl (Ok.blk (sr (g0 2 [(2,pt b1 0),(3,pt (b1+1) 0),(5,iw zL4_5),(6,iw zL4_6),(8,iw ((na_6 : Nat) : Int)),(35,iw za_0),(36,.bool (za_0 == 0))] [gz,gz] rfl (en rfl (cd (za_0 == 0) (fun h32 => ?_) (fun h32 => ?_)))))))))))))))))
  · have h32 := eq_of_beq h32
    refine sr (g0 1 [(4,iw 1)] [gz] rfl (en rfl (Ok.ret_ (Ok.blkR (Ok.thenR (Ok.dropAll ?_))))))
    exact Ok.ret1 (v := iw 1) le6 rfl rfl ⟨1,rfl,(by have c1 := PTs.cnt_le (valAt gb_0) RL4 1; have c0 := PTs.cnt_le (valAt gb_0) RL4 0; rw [PT.ev]; simp only [evS]; rw [if_pos (by omega)])⟩
  have h32 := ne_of_beq_false h32
  refine Ok.seq (sr (g0 2 [(2,pt b1 0),(3,pt (b1+1) 0),(5,iw zL4_5),(6,iw zL4_6),(8,iw ((na_6 : Nat) : Int)),(35,iw za_0),(38,.bool (za_0 == 1))] [gz,gz] rfl (en rfl (cs (za_0 == 1) [38] (fun h35 => ?_) (fun h35 => ?_)))))
  · have h35 := eq_of_beq h35
    refine cT (skn (cT (Ok.seq (st [0,1] [] 7 ?_))))
    refine tk 3 [(0,.g [.K 0 0,.K 0 1,.K 0 2,.K 0 3,.K 0 4,.K 0 5,.K 0 6]),(1,.g [.K 1 0]),(2,gz),(3,.g [.K 0 1])] [(43,.agg #[iw za_0,iw za_1,iw za_2,iw za_3,.slice Aa_4 na_4 ca_4,.string sa_5,.slice Aa_6 na_6 ca_6]),(44,.agg #[.slice Ab_0 nb_0 cb_0]),(46,iw za_1)] rfl ?_
    refine on 4 2 rfl (ca (some 47) (c28 H5 Ab_0 (nb_0) (cb_0) gb_0 za_1 (LstIs.mono le6 hb_0)) ?_)
    rintro v36 H37 k39 le38 ⟨bra_0y40,zra_1y40,sra_2y40,rfl,tra_2y40,py40_0⟩
    refine ws [0,1] le38 ?_
    refine on 5 1 rfl (ca (some 48) (c27 H37 za_0 za_1 za_2 za_3 Aa_4 (na_4) (ca_4) ga_4 sa_5 Aa_6 (na_6) (ca_6) ka_6 bra_0y40 zra_1y40 sra_2y40 (LstIs.mono (tr le6 le38) ha_4) ta_5 (KidsIs.mono (tr le6 le38) ha_6) tra_2y40) ?_)
    rintro v41 H42 k44 le43 ⟨zra_0y45,rfl,py45_0⟩
    refine ws [0,1] (tr le38 le43) ?_
    refine on 6 0 rfl (e0 (gz) [(4,iw zra_0y45)] ?_)
    refine ws [0,1] (tr le38 le43) ?_
    refine dn (Ok.ret_ (Ok.blkR (Ok.thenR (Ok.dropAll ?_))))
    exact Ok.ret1 (v := iw zra_0y45) (tr le6 (tr le38 le43)) rfl rfl ⟨zra_0y45,rfl,(by have c1 := PTs.cnt_le (valAt gb_0) RL4 1; have c0 := PTs.cnt_le (valAt gb_0) RL4 0; rw [PT.ev]; simp only [evS]; rw [if_neg (by omega),if_pos (by omega),py45_0,py40_0])⟩
  have h35 := ne_of_beq_false h35
  refine cF (sr (g0 2 [(2,pt b1 0),(3,pt (b1+1) 0),(5,iw zL4_5),(6,iw zL4_6),(8,iw ((na_6 : Nat) : Int)),(35,iw za_0),(38,.bool (za_0 == 2))] [gz,gz] rfl (en rfl (cs (za_0 == 2) [38] (fun h48 => ?_) (fun h48 => ?_)))))
  · have h48 := eq_of_beq h48
    refine cT (skn (cT (Ok.seq (st [0,1] [] 7 ?_))))
    refine tk 3 [(0,.g [.K 0 0,.K 0 1,.K 0 2,.K 0 3,.K 0 4,.K 0 5,.K 0 6]),(1,.g [.K 1 0]),(2,gz),(3,.g [.K 0 1])] [(43,.agg #[iw za_0,iw za_1,iw za_2,iw za_3,.slice Aa_4 na_4 ca_4,.string sa_5,.slice Aa_6 na_6 ca_6]),(44,.agg #[.slice Ab_0 nb_0 cb_0]),(46,iw za_1)] rfl ?_
    refine on 4 2 rfl (ca (some 47) (c28 H5 Ab_0 (nb_0) (cb_0) gb_0 za_1 (LstIs.mono le6 hb_0)) ?_)
    rintro v49 H50 k52 le51 ⟨bra_0y53,zra_1y53,sra_2y53,rfl,tra_2y53,py53_0⟩
    refine ws [0,1] le51 ?_
    refine on 5 1 rfl (ca (some 48) (c27 H50 za_0 za_1 za_2 za_3 Aa_4 (na_4) (ca_4) ga_4 sa_5 Aa_6 (na_6) (ca_6) ka_6 bra_0y53 zra_1y53 sra_2y53 (LstIs.mono (tr le6 le51) ha_4) ta_5 (KidsIs.mono (tr le6 le51) ha_6) tra_2y53) ?_)
    rintro v54 H55 k57 le56 ⟨zra_0y58,rfl,py58_0⟩
    refine ws [0,1] (tr le51 le56) ?_
    refine on 6 0 rfl (e0 (gz) [(4,iw zra_0y58)] ?_)
    refine ws [0,1] (tr le51 le56) ?_
    refine dn (Ok.ret_ (Ok.blkR (Ok.thenR (Ok.dropAll ?_))))
    exact Ok.ret1 (v := iw zra_0y58) (tr le6 (tr le51 le56)) rfl rfl ⟨zra_0y58,rfl,(by have c1 := PTs.cnt_le (valAt gb_0) RL4 1; have c0 := PTs.cnt_le (valAt gb_0) RL4 0; rw [PT.ev]; simp only [evS]; rw [if_neg (by omega),if_pos (by omega),py58_0,py53_0])⟩
  have h48 := ne_of_beq_false h48
  refine cF (sr (g0 2 [(2,pt b1 0),(3,pt (b1+1) 0),(5,iw zL4_5),(6,iw zL4_6),(8,iw ((na_6 : Nat) : Int)),(35,iw za_0),(38,.bool (za_0 == 3))] [gz,gz] rfl (en rfl (cs (za_0 == 3) [38] (fun h61 => ?_) (fun h61 => ?_)))))
  · have h61 := eq_of_beq h61
    refine cT (skn (cT (Ok.seq (st [0,1] [] 7 ?_))))
    refine tk 3 [(0,.g [.K 0 0,.K 0 1,.K 0 2,.K 0 3,.K 0 4,.K 0 5,.K 0 6]),(1,.g [.K 1 0]),(2,gz),(3,.g [.K 0 1])] [(43,.agg #[iw za_0,iw za_1,iw za_2,iw za_3,.slice Aa_4 na_4 ca_4,.string sa_5,.slice Aa_6 na_6 ca_6]),(44,.agg #[.slice Ab_0 nb_0 cb_0]),(46,iw za_1)] rfl ?_
    refine on 4 2 rfl (ca (some 47) (c28 H5 Ab_0 (nb_0) (cb_0) gb_0 za_1 (LstIs.mono le6 hb_0)) ?_)
    rintro v62 H63 k65 le64 ⟨bra_0y66,zra_1y66,sra_2y66,rfl,tra_2y66,py66_0⟩
    refine ws [0,1] le64 ?_
    refine on 5 1 rfl (ca (some 48) (c27 H63 za_0 za_1 za_2 za_3 Aa_4 (na_4) (ca_4) ga_4 sa_5 Aa_6 (na_6) (ca_6) ka_6 bra_0y66 zra_1y66 sra_2y66 (LstIs.mono (tr le6 le64) ha_4) ta_5 (KidsIs.mono (tr le6 le64) ha_6) tra_2y66) ?_)
    rintro v67 H68 k70 le69 ⟨zra_0y71,rfl,py71_0⟩
    refine ws [0,1] (tr le64 le69) ?_
    refine on 6 0 rfl (e0 (gz) [(4,iw zra_0y71)] ?_)
    refine ws [0,1] (tr le64 le69) ?_
    refine dn (Ok.ret_ (Ok.blkR (Ok.thenR (Ok.dropAll ?_))))
    exact Ok.ret1 (v := iw zra_0y71) (tr le6 (tr le64 le69)) rfl rfl ⟨zra_0y71,rfl,(by have c1 := PTs.cnt_le (valAt gb_0) RL4 1; have c0 := PTs.cnt_le (valAt gb_0) RL4 0; rw [PT.ev]; simp only [evS]; rw [if_neg (by omega),if_pos (by omega),py71_0,py66_0])⟩
  have h61 := ne_of_beq_false h61
  refine cF (Ok.reg (g0 2 [(2,pt b1 0),(3,pt (b1+1) 0),(5,iw zL4_5),(6,iw zL4_6),(8,iw ((na_6 : Nat) : Int)),(35,iw za_0),(38,.bool (za_0 == 4))] [gz,gz] rfl (en rfl (cd (za_0 == 4) (fun h74 => ?_) (fun h74 => ?_)))))
  · have h74 := eq_of_beq h74
    refine Ok.seq (st [0,1] [] 7 ?_)
    refine tk 3 [(0,.g [.K 0 0,.K 0 1,.K 0 2,.K 0 3,.K 0 4,.K 0 5,.K 0 6]),(1,.g [.K 1 0]),(2,gz),(3,.g [.K 0 1])] [(43,.agg #[iw za_0,iw za_1,iw za_2,iw za_3,.slice Aa_4 na_4 ca_4,.string sa_5,.slice Aa_6 na_6 ca_6]),(44,.agg #[.slice Ab_0 nb_0 cb_0]),(46,iw za_1)] rfl ?_
    refine on 4 2 rfl (ca (some 47) (c28 H5 Ab_0 (nb_0) (cb_0) gb_0 za_1 (LstIs.mono le6 hb_0)) ?_)
    rintro v75 H76 k78 le77 ⟨bra_0y79,zra_1y79,sra_2y79,rfl,tra_2y79,py79_0⟩
    refine ws [0,1] le77 ?_
    refine on 5 1 rfl (ca (some 48) (c27 H76 za_0 za_1 za_2 za_3 Aa_4 (na_4) (ca_4) ga_4 sa_5 Aa_6 (na_6) (ca_6) ka_6 bra_0y79 zra_1y79 sra_2y79 (LstIs.mono (tr le6 le77) ha_4) ta_5 (KidsIs.mono (tr le6 le77) ha_6) tra_2y79) ?_)
    rintro v80 H81 k83 le82 ⟨zra_0y84,rfl,py84_0⟩
    refine ws [0,1] (tr le77 le82) ?_
    refine on 6 0 rfl (e0 (gz) [(4,iw zra_0y84)] ?_)
    refine ws [0,1] (tr le77 le82) ?_
    refine dn (Ok.ret_ (Ok.blkR (Ok.thenR (Ok.dropAll ?_))))
    exact Ok.ret1 (v := iw zra_0y84) (tr le6 (tr le77 le82)) rfl rfl ⟨zra_0y84,rfl,(by have c1 := PTs.cnt_le (valAt gb_0) RL4 1; have c0 := PTs.cnt_le (valAt gb_0) RL4 0; rw [PT.ev]; simp only [evS]; rw [if_neg (by omega),if_pos (by omega),py84_0,py79_0])⟩
  have h74 := ne_of_beq_false h74
  refine sr (g0 2 [(5,iw zL4_5),(6,iw zL4_6),(8,iw ((na_6 : Nat) : Int)),(35,iw za_0),(49,.bool (za_0 == 5))] [gz,gz] rfl (en rfl (cd (za_0 == 5) (fun h87 => ?_) (fun h87 => ?_))))
  · have h87 := eq_of_beq h87
    refine sr (g0 3 [(5,iw zL4_5),(6,iw zL4_6),(8,iw ((na_6 : Nat) : Int)),(53,.bool (decide (zL4_6 > 0)))] [gz,gz,gz] rfl (cs (decide (zL4_6 > 0)) [53] (fun h89 => ?_) (fun h89 => ?_)))
    · have h89 := of_decide_eq_true h89
      refine g0 7 [(6,iw zL4_6),(57,bT)] [gz,gz,gz,gz] rfl (en rfl (cT (sr (g0 2 [(59,.bool (zL4_6 == 0))] [gz,gz] rfl (ef 3 rfl (ca (some 60) (c29 H5 (zL4_6 == 0)) ?_))))))
      rintro v92 H93 k95 le94 ⟨zra_0y96,rfl,py96_0⟩
      refine g0 4 [(4,iw zra_0y96)] [gz] rfl (en rfl (Ok.ret_ (Ok.blkR (Ok.thenR (Ok.dropAll ?_)))))
      exact Ok.ret1 (v := iw zra_0y96) (tr le6 le94) rfl rfl ⟨zra_0y96,rfl,(by have c1 := PTs.cnt_le (valAt gb_0) RL4 1; have c0 := PTs.cnt_le (valAt gb_0) RL4 0; rw [PT.ev]; simp only [evS]; rw [if_neg (by omega),if_neg (by omega),if_pos (by omega),if_pos (by omega),py96_0]; congr 1; apply Bool.eq_iff_iff.2; simp only [beq_iff_eq,decide_eq_true_eq]; omega)⟩
    have h89 := of_decide_eq_false h89
    refine g0 7 [(6,iw zL4_6),(57,.bool (zL4_5 == ((na_6 : Nat) : Int)))] [gz,gz,gz,gz] rfl (en rfl (cd (zL4_5 == ((na_6 : Nat) : Int)) (fun h99 => ?_) (fun h99 => ?_)))
    · have h99 := eq_of_beq h99
      refine sr (g0 2 [(59,.bool (zL4_6 == 0))] [gz,gz] rfl (ef 3 rfl (ca (some 60) (c29 H5 (zL4_6 == 0)) ?_)))
      rintro v101 H102 k104 le103 ⟨zra_0y105,rfl,py105_0⟩
      refine g0 4 [(4,iw zra_0y105)] [gz] rfl (en rfl (Ok.ret_ (Ok.blkR (Ok.thenR (Ok.dropAll ?_)))))
      exact Ok.ret1 (v := iw zra_0y105) (tr le6 le103) rfl rfl ⟨zra_0y105,rfl,(by have c1 := PTs.cnt_le (valAt gb_0) RL4 1; have c0 := PTs.cnt_le (valAt gb_0) RL4 0; rw [PT.ev]; simp only [evS]; rw [if_neg (by omega),if_neg (by omega),if_pos (by omega),if_pos (by omega),py105_0]; congr 1; apply Bool.eq_iff_iff.2; simp only [beq_iff_eq,decide_eq_true_eq]; omega)⟩
    have h99 := ne_of_beq_false h99
    refine Ok.skip_ (Ok.blkN (Ok.thenN (sr (g0 1 [(4,iw 2)] [gz] rfl (en rfl (Ok.ret_ (Ok.dropAll ?_)))))))
    exact Ok.ret1 (v := iw 2) le6 rfl rfl ⟨2,rfl,(by have c1 := PTs.cnt_le (valAt gb_0) RL4 1; have c0 := PTs.cnt_le (valAt gb_0) RL4 0; rw [PT.ev]; simp only [evS]; rw [if_neg (by omega),if_neg (by omega),if_pos (by omega),if_neg (by omega)])⟩
  have h87 := ne_of_beq_false h87
  refine sr (g0 2 [(5,iw zL4_5),(6,iw zL4_6),(8,iw ((na_6 : Nat) : Int)),(35,iw za_0),(61,.bool (za_0 == 6))] [gz,gz] rfl (en rfl (cd (za_0 == 6) (fun h109 => ?_) (fun h109 => ?_))))
  · have h109 := eq_of_beq h109
    refine sr (g0 3 [(5,iw zL4_5),(6,iw zL4_6),(8,iw ((na_6 : Nat) : Int)),(65,.bool (decide (zL4_5 > 0)))] [gz,gz,gz] rfl (cs (decide (zL4_5 > 0)) [65] (fun h111 => ?_) (fun h111 => ?_)))
    · have h111 := of_decide_eq_true h111
      refine g0 7 [(5,iw zL4_5),(69,bT)] [gz,gz,gz,gz] rfl (en rfl (cT (sr (g0 2 [(71,.bool (decide (zL4_5 > 0)))] [gz,gz] rfl (ef 3 rfl (ca (some 72) (c29 H5 (decide (zL4_5 > 0))) ?_))))))
      rintro v114 H115 k117 le116 ⟨zra_0y118,rfl,py118_0⟩
      refine g0 4 [(4,iw zra_0y118)] [gz] rfl (en rfl (Ok.ret_ (Ok.blkR (Ok.thenR (Ok.dropAll ?_)))))
      exact Ok.ret1 (v := iw zra_0y118) (tr le6 le116) rfl rfl ⟨zra_0y118,rfl,(by have c1 := PTs.cnt_le (valAt gb_0) RL4 1; have c0 := PTs.cnt_le (valAt gb_0) RL4 0; rw [PT.ev]; simp only [evS]; rw [if_neg (by omega),if_neg (by omega),if_neg (by omega),if_pos (by omega),if_pos (by omega),py118_0]; congr 1; apply Bool.eq_iff_iff.2; simp only [beq_iff_eq,decide_eq_true_eq]; omega)⟩
    have h111 := of_decide_eq_false h111
    refine g0 7 [(5,iw zL4_5),(69,.bool (zL4_6 == ((na_6 : Nat) : Int)))] [gz,gz,gz,gz] rfl (en rfl (cd (zL4_6 == ((na_6 : Nat) : Int)) (fun h121 => ?_) (fun h121 => ?_)))
    · have h121 := eq_of_beq h121
      refine sr (g0 2 [(71,.bool (decide (zL4_5 > 0)))] [gz,gz] rfl (ef 3 rfl (ca (some 72) (c29 H5 (decide (zL4_5 > 0))) ?_)))
      rintro v123 H124 k126 le125 ⟨zra_0y127,rfl,py127_0⟩
      refine g0 4 [(4,iw zra_0y127)] [gz] rfl (en rfl (Ok.ret_ (Ok.blkR (Ok.thenR (Ok.dropAll ?_)))))
      exact Ok.ret1 (v := iw zra_0y127) (tr le6 le125) rfl rfl ⟨zra_0y127,rfl,(by have c1 := PTs.cnt_le (valAt gb_0) RL4 1; have c0 := PTs.cnt_le (valAt gb_0) RL4 0; rw [PT.ev]; simp only [evS]; rw [if_neg (by omega),if_neg (by omega),if_neg (by omega),if_pos (by omega),if_pos (by omega),py127_0]; congr 1; apply Bool.eq_iff_iff.2; simp only [beq_iff_eq,decide_eq_true_eq]; omega)⟩
    have h121 := ne_of_beq_false h121
    refine Ok.skip_ (Ok.blkN (Ok.thenN (sr (g0 1 [(4,iw 2)] [gz] rfl (en rfl (Ok.ret_ (Ok.dropAll ?_)))))))
    exact Ok.ret1 (v := iw 2) le6 rfl rfl ⟨2,rfl,(by have c1 := PTs.cnt_le (valAt gb_0) RL4 1; have c0 := PTs.cnt_le (valAt gb_0) RL4 0; rw [PT.ev]; simp only [evS]; rw [if_neg (by omega),if_neg (by omega),if_neg (by omega),if_pos (by omega),if_neg (by omega)])⟩
  have h109 := ne_of_beq_false h109
  refine sr (g0 2 [(5,iw zL4_5),(6,iw zL4_6),(8,iw ((na_6 : Nat) : Int)),(73,.bool (za_0 == 7))] [gz,gz] rfl (en rfl (cd (za_0 == 7) (fun h131 => ?_) (fun h131 => ?_))))
  · have h131 := eq_of_beq h131
    refine sr (g0 3 [(5,iw zL4_5),(6,iw zL4_6),(77,.bool (((na_6 : Nat) : Int) == 1))] [gz,gz,gz] rfl (cs (((na_6 : Nat) : Int) == 1) [77] (fun h133 => ?_) (fun h133 => ?_)))
    · have h133 := eq_of_beq h133
      refine g0 8 [(6,iw zL4_6),(82,.bool ((w64 (zL4_5 + zL4_6)) == 1))] [gz,gz,gz,gz,gz] rfl (en rfl (cd ((w64 (zL4_5 + zL4_6)) == 1) (fun h135 => ?_) (fun h135 => ?_)))
      · have h135 := eq_of_beq h135
        refine sr (g0 2 [(84,.bool (zL4_6 == 1))] [gz,gz] rfl (ef 3 rfl (ca (some 85) (c29 H5 (zL4_6 == 1)) ?_)))
        rintro v137 H138 k140 le139 ⟨zra_0y141,rfl,py141_0⟩
        refine g0 4 [(4,iw zra_0y141)] [gz] rfl (en rfl (Ok.ret_ (Ok.blkR (Ok.thenR (Ok.dropAll ?_)))))
        exact Ok.ret1 (v := iw zra_0y141) (tr le6 le139) rfl rfl ⟨zra_0y141,rfl,(by have wq := wid (x := zL4_5 + zL4_6) (by omega); have c1 := PTs.cnt_le (valAt gb_0) RL4 1; have c0 := PTs.cnt_le (valAt gb_0) RL4 0; rw [PT.ev]; simp only [evS]; rw [if_neg (by omega),if_neg (by omega),if_neg (by omega),if_neg (by omega),if_pos (by omega),if_pos (by omega),py141_0]; congr 1; apply Bool.eq_iff_iff.2; simp only [beq_iff_eq,decide_eq_true_eq]; omega)⟩
      have h135 := ne_of_beq_false h135
      refine Ok.skip_ (Ok.blkN (Ok.thenN (sr (g0 1 [(4,iw 2)] [gz] rfl (en rfl (Ok.ret_ (Ok.dropAll ?_)))))))
      exact Ok.ret1 (v := iw 2) le6 rfl rfl ⟨2,rfl,(by have wq := wid (x := zL4_5 + zL4_6) (by omega); have c1 := PTs.cnt_le (valAt gb_0) RL4 1; have c0 := PTs.cnt_le (valAt gb_0) RL4 0; rw [PT.ev]; simp only [evS]; rw [if_neg (by omega),if_neg (by omega),if_neg (by omega),if_neg (by omega),if_pos (by omega),if_neg (by omega)])⟩
    have h133 := ne_of_beq_false h133
    refine g0 8 [(6,iw zL4_6),(82,bF)] [gz,gz,gz,gz,gz] rfl (en rfl (cF (Ok.skip_ (Ok.blkN (Ok.thenN (sr (g0 1 [(4,iw 2)] [gz] rfl (en rfl (Ok.ret_ (Ok.dropAll ?_))))))))))
    exact Ok.ret1 (v := iw 2) le6 rfl rfl ⟨2,rfl,(by have c1 := PTs.cnt_le (valAt gb_0) RL4 1; have c0 := PTs.cnt_le (valAt gb_0) RL4 0; rw [PT.ev]; simp only [evS]; rw [if_neg (by omega),if_neg (by omega),if_neg (by omega),if_neg (by omega),if_pos (by omega),if_neg (by omega)])⟩
  have h131 := ne_of_beq_false h131
  refine Ok.skip_ (Ok.blkN (Ok.thenN (sr (g0 1 [(4,iw 2)] [gz] rfl (en rfl (Ok.ret_ (Ok.dropAll ?_)))))))
  exact Ok.ret1 (v := iw 2) le6 rfl rfl ⟨2,rfl,(by have c1 := PTs.cnt_le (valAt gb_0) RL4 1; have c0 := PTs.cnt_le (valAt gb_0) RL4 0; rw [PT.ev]; simp only [evS]; repeat (rw [if_neg (by omega)]))⟩
theorem c30 (H : Snap) (za_0 : Int) (za_1 : Int) (za_2 : Int) (hq0 : za_0 = 1 ∨ za_0 = 4) : Does Tryz.prog 30 [.agg #[iw za_0,iw za_1,iw za_2]] H [] (fun v H' kp => v = .tuple #[.func (.func 56) #[] #[],.func (.func 57) #[] #[]]) := by
  refine Does.of Tryz.func30 rfl rfl rfl rfl (fun w0 H0 kx => ?_)
  refine sr (g4 3 (fun b1 => [(1,pt b1 0)]) (fun b1 => [.blk b1 [iw za_0,iw za_1,iw za_2] 45]) [.g [.N],gz,gz] rfl (fun b1 => (en rfl ?_)))
  refine sr (g0 1 [(1,pt b1 0),(2,.func (.func 56) #[] #[])] [gz] rfl (en rfl (Ok.seq (sr (g0 4 [(1,pt b1 0),(2,.func (.func 56) #[] #[]),(7,.bool (za_0 == 1))] [gz,.g [.K 0 0],gz,gz] rfl (cs (za_0 == 1) [7] (fun h4 => ?_) (fun h4 => ?_)))))))
  · have h4 := eq_of_beq h4
    refine g0 8 [(1,pt b1 0),(2,.func (.func 56) #[] #[]),(11,bT)] [gz,gz,gz,gz] rfl (en rfl (cT (sr (g0 3 [(2,.func (.func 56) #[] #[]),(3,.func (.func 57) #[] #[])] [gz,gz,gz] rfl (en rfl (Ok.ret_ (Ok.thenR (Ok.dropAll ?_))))))))
    exact Ok.ret2 (v := .func (.func 56) #[] #[]) (x := .func (.func 57) #[] #[]) (SLe.refl _) rfl rfl rfl rfl
  have h4 := ne_of_beq_false h4
  refine g0 8 [(1,pt b1 0),(2,.func (.func 56) #[] #[]),(11,.bool (za_0 == 4))] [gz,.g [.K 0 0],gz,gz] rfl (en rfl (cd (za_0 == 4) (fun h8 => ?_) (fun h8 => ?_)))
  · have h8 := eq_of_beq h8
    refine sr (g0 3 [(2,.func (.func 56) #[] #[]),(3,.func (.func 57) #[] #[])] [gz,gz,gz] rfl (en rfl (Ok.ret_ (Ok.thenR (Ok.dropAll ?_)))))
    exact Ok.ret2 (v := .func (.func 56) #[] #[]) (x := .func (.func 57) #[] #[]) (SLe.refl _) rfl rfl rfl rfl
  have h8 := ne_of_beq_false h8
  exact absurd h8 (by omega)
theorem c56 (H : Snap) (za_0 : Int) (za_1 : Int) (za_2 : Int) (za_3 : Int) (Aa_4 : Option Addr) (na_4 : Nat) (ca_4 : Nat) (ga_4 : List (List Value)) (sa_5 : ByteArray) (Aa_6 : Option Addr) (na_6 : Nat) (ca_6 : Nat) (ka_6 : PTs) (ha_4 : LstIs H elV Aa_4 na_4 ga_4) (ta_5 : sa_5.size < 9223372036854775808) (ha_6 : KidsIs H Aa_6 na_6 ka_6) : Does Tryz.prog 56 [.agg #[iw za_0,iw za_1,iw za_2,iw za_3,.slice Aa_4 na_4 ca_4,.string sa_5,.slice Aa_6 na_6 ca_6]] H [] (fun v H' kp => ∃ (zra_0 : Int) (zra_1 : Int) (zra_2 : Int) (zra_3 : Int) (Ara_4 : Option Addr) (nra_4 : Nat) (cra_4 : Nat) (gra_4 : List (List Value)) (sra_5 : ByteArray) (Ara_6 : Option Addr) (nra_6 : Nat) (cra_6 : Nat) (kra_6 : PTs),v = .agg #[iw zra_0,iw zra_1,iw zra_2,iw zra_3,.slice Ara_4 nra_4 cra_4,.string sra_5,.slice Ara_6 nra_6 cra_6] ∧ LstIs H' elV Ara_4 nra_4 gra_4 ∧ sra_5.size < 9223372036854775808 ∧ KidsIs H' Ara_6 nra_6 kra_6 ∧ (PT.node zra_0 zra_1 zra_2 zra_3 gra_4 sra_5 kra_6) = (PT.node za_0 za_1 za_2 za_3 ga_4 sa_5 ka_6)) := by
  have lha_4 := ha_4.2.1
  have mha_4 := ha_4.1
  have lha_6 := ha_6.2.1
  have mha_6 := ha_6.1
  refine Does.of Tryz.func56 rfl rfl rfl rfl (fun w0 H0 kx => ?_)
  refine sr (g4 2 (fun b1 => [(1,pt b1 0),(2,pt (b1+1) 0)]) (fun b1 => [.blk b1 [iw za_0,iw za_1,iw za_2,iw za_3,.slice Aa_4 na_4 ca_4,.string sa_5,.slice Aa_6 na_6 ca_6] 27,.blk (b1+1) [iw 0,iw 0,iw 0,iw 0,n0,s0,n0] 27]) [.g [.N],.g [.N]] rfl (fun b1 => (en rfl ?_)))
  refine sr (g1 2 [(2,pt (b1+1) 0)] [.blk b1 [iw za_0,iw za_1,iw za_2,iw za_3,.slice Aa_4 na_4 ca_4,.string sa_5,.slice Aa_6 na_6 ca_6] 27,.blk (b1+1) [iw za_0,iw za_1,iw za_2,iw za_3,.slice Aa_4 na_4 ca_4,.string sa_5,.slice Aa_6 na_6 ca_6] 27] [.g [.K 0 0,.K 0 1,.K 0 2,.K 0 3,.K 0 4,.K 0 5,.K 0 6],.g [.K 1 0,.K 1 1,.K 1 2,.K 1 3,.K 1 4,.K 1 5,.K 1 6]] rfl (en rfl (Ok.ret_ ?_)))
  exact Ok.ret1c (SLe.refl _) [.K 1 0,.K 1 1,.K 1 2,.K 1 3,.K 1 4,.K 1 5,.K 1 6] (.agg #[iw za_0,iw za_1,iw za_2,iw za_3,.slice Aa_4 na_4 ca_4,.string sa_5,.slice Aa_6 na_6 ca_6]) [b1+1,b1+1,b1+1,b1+1,b1+1,b1+1,b1+1] rfl (by kernel_rfl) ⟨za_0,za_1,za_2,za_3,Aa_4,na_4,ca_4,ga_4,sa_5,Aa_6,na_6,ca_6,ka_6,rfl,ha_4,ta_5,ha_6,rfl⟩
theorem c57 (H : Snap) (za_0 : Int) (za_1 : Int) (za_2 : Int) (za_3 : Int) (Aa_4 : Option Addr) (na_4 : Nat) (ca_4 : Nat) (ga_4 : List (List Value)) (sa_5 : ByteArray) (Aa_6 : Option Addr) (na_6 : Nat) (ca_6 : Nat) (ka_6 : PTs) (ha_4 : LstIs H elV Aa_4 na_4 ga_4) (ta_5 : sa_5.size < 9223372036854775808) (ha_6 : KidsIs H Aa_6 na_6 ka_6) : Does Tryz.prog 57 [.agg #[iw za_0,iw za_1,iw za_2,iw za_3,.slice Aa_4 na_4 ca_4,.string sa_5,.slice Aa_6 na_6 ca_6]] H [] (fun v H' kp => ∃ (zra_0 : Int) (zra_1 : Int) (zra_2 : Int) (zra_3 : Int) (Ara_4 : Option Addr) (nra_4 : Nat) (cra_4 : Nat) (gra_4 : List (List Value)) (sra_5 : ByteArray) (Ara_6 : Option Addr) (nra_6 : Nat) (cra_6 : Nat) (kra_6 : PTs),v = .agg #[iw zra_0,iw zra_1,iw zra_2,iw zra_3,.slice Ara_4 nra_4 cra_4,.string sra_5,.slice Ara_6 nra_6 cra_6] ∧ LstIs H' elV Ara_4 nra_4 gra_4 ∧ sra_5.size < 9223372036854775808 ∧ KidsIs H' Ara_6 nra_6 kra_6 ∧ (PT.node zra_0 zra_1 zra_2 zra_3 gra_4 sra_5 kra_6) = notP (PT.node za_0 za_1 za_2 za_3 ga_4 sa_5 ka_6)) := by
  have lha_4 := ha_4.2.1
  have mha_4 := ha_4.1
  have lha_6 := ha_6.2.1
  have mha_6 := ha_6.1
  refine Does.of Tryz.func57 rfl rfl rfl rfl (fun w0 H0 kx => ?_)
  refine sr (g4 2 (fun b1 => [(1,pt b1 0),(2,pt (b1+1) 0)]) (fun b1 => [.blk b1 [iw za_0,iw za_1,iw za_2,iw za_3,.slice Aa_4 na_4 ca_4,.string sa_5,.slice Aa_6 na_6 ca_6] 27,.blk (b1+1) [iw 0,iw 0,iw 0,iw 0,n0,s0,n0] 27]) [.g [.N],.g [.N]] rfl (fun b1 => (en rfl ?_)))
  refine sr (g4 4 (fun b2 => [(2,pt (b1+1) 0)]) (fun b2 => [.blk b1 [iw za_0,iw za_1,iw za_2,iw za_3,.slice Aa_4 na_4 ca_4,.string sa_5,.slice Aa_6 na_6 ca_6] 27,.blk (b1+1) [iw 7,iw 0,iw 0,iw 0,n0,s0,sl b2 0 1 1] 27,.blk b2 [iw za_0,iw za_1,iw za_2,iw za_3,.slice Aa_4 na_4 ca_4,.string sa_5,.slice Aa_6 na_6 ca_6] 27]) [.g [.K 0 0,.K 0 1,.K 0 2,.K 0 3,.K 0 4,.K 0 5,.K 0 6],.g [.N],gz,.g [.K 1 0,.K 1 1,.K 1 2,.K 1 3,.K 1 4,.K 1 5,.K 1 6]] rfl (fun b2 => (en rfl ?_)))
  refine Ok.ret_ (Ok.pubP 2 rfl [.blk b1 [iw za_0,iw za_1,iw za_2,iw za_3,.slice Aa_4 na_4 ca_4,.string sa_5,.slice Aa_6 na_6 ca_6] 27,.blk (b1+1) [iw 7,iw 0,iw 0,iw 0,n0,s0,sl b2 0 1 1] 27] rfl ?_)
  intro H3 le4 pf5
  exact Ok.ret1c le4 [.K 1 0,.K 1 1,.K 1 2,.K 1 3,.K 1 4,.K 1 5,.K 1 6] (.agg #[iw 7,iw 0,iw 0,iw 0,n0,s0,sl b2 0 1 1]) [b1+1,b1+1,b1+1,b1+1,b1+1,b1+1,b1+1] rfl (by kernel_rfl) ⟨7,0,0,0,none,0,0,[],(⟨#[]⟩ : ByteArray),(some ⟨b2,0,none⟩),1,1,(PTs.cons (PT.node za_0 za_1 za_2 za_3 ga_4 sa_5 ka_6) PTs.nil),rfl,(LstIs.nil _ _ _),(by decide),(KidsIs.of_pre pf5 (RowPs.lit (PredIs.mk (LstIs.mono le4 ha_4) ta_5 (KidsIs.mono le4 ha_6))) rfl (by decide)),rfl⟩
theorem c31 : ∀ (d : Nat) (H : Snap) (za_0 : Int) (za_1 : Int) (za_2 : Int) (za_3 : Int) (Aa_4 : Option Addr) (na_4 : Nat) (ca_4 : Nat) (ga_4 : List (List Value)) (sa_5 : ByteArray) (Aa_6 : Option Addr) (na_6 : Nat) (ca_6 : Nat) (ka_6 : PTs) (bb_0 : Bool) (p0 : Nat) (zt_0 : Int) (zt_1 : Int) (zt_2 : Int) (p1 : Nat) (p2 : Nat) (p3 : Nat) (ha_4 : LstIs H elV Aa_4 na_4 ga_4) (ta_5 : sa_5.size < 9223372036854775808) (ha_6 : KidsIs H Aa_6 na_6 ka_6) (hp0 : Pre H p0 [iw zt_0,iw zt_1,iw zt_2]) (hp1 : Pre H p1 [.func (.func 56) #[] #[]]) (hp2 : Pre H p2 [.func (.func 57) #[] #[]]) (hp3 : Pre H p3 [.func (.func 31) #[] #[pt p0 0,pt p1 0,pt p2 0,pt p3 0]]) (hq0 : (PT.node za_0 za_1 za_2 za_3 ga_4 sa_5 ka_6).bnd),ka_6.depth ≤ d → Does Tryz.prog 31 [.agg #[iw za_0,iw za_1,iw za_2,iw za_3,.slice Aa_4 na_4 ca_4,.string sa_5,.slice Aa_6 na_6 ca_6],.bool bb_0,pt p0 0,pt p1 0,pt p2 0,pt p3 0] H [] (fun v H' kp => ∃ (zra_0 : Int) (zra_1 : Int) (zra_2 : Int) (zra_3 : Int) (Ara_4 : Option Addr) (nra_4 : Nat) (cra_4 : Nat) (gra_4 : List (List Value)) (sra_5 : ByteArray) (Ara_6 : Option Addr) (nra_6 : Nat) (cra_6 : Nat) (kra_6 : PTs),v = .agg #[iw zra_0,iw zra_1,iw zra_2,iw zra_3,.slice Ara_4 nra_4 cra_4,.string sra_5,.slice Ara_6 nra_6 cra_6] ∧ LstIs H' elV Ara_4 nra_4 gra_4 ∧ sra_5.size < 9223372036854775808 ∧ KidsIs H' Ara_6 nra_6 kra_6 ∧ (PT.node zra_0 zra_1 zra_2 zra_3 gra_4 sra_5 kra_6) = (PT.node za_0 za_1 za_2 za_3 ga_4 sa_5 ka_6).pr zt_1 bb_0) := by
  intro d
  induction d using Nat.strongRecOn
  rename_i d ih
  intro H za_0 za_1 za_2 za_3 Aa_4 na_4 ca_4 ga_4 sa_5 Aa_6 na_6 ca_6 ka_6 bb_0 p0 zt_0 zt_1 zt_2 p1 p2 p3 ha_4 ta_5 ha_6 hp0 hp1 hp2 hp3 hq0 hd
  have lha_4 := ha_4.2.1
  have mha_4 := ha_4.1
  have lha_6 := ha_6.2.1
  have mha_6 := ha_6.1
  have bl := bnd_len hq0
  refine Does.of Tryz.func31 rfl rfl rfl rfl (fun w0 H0 kx => ?_)
  refine sr (g4 2 (fun b1 => [(1,.bool bb_0),(2,pt p0 0),(3,pt p1 0),(4,pt p2 0),(5,pt p3 0),(6,pt b1 0),(8,pt (b1+1) 0)]) (fun b1 => [.blk b1 [iw za_0,iw za_1,iw za_2,iw za_3,.slice Aa_4 na_4 ca_4,.string sa_5,.slice Aa_6 na_6 ca_6] 27,.blk (b1+1) [iw 0,iw 0,iw 0,iw 0,n0,s0,n0] 27]) [.g [.N],.g [.N]] rfl (fun b1 => (en rfl ?_)))
  refine Ok.seq (sr (g0 2 [(1,.bool bb_0),(2,pt p0 0),(3,pt p1 0),(4,pt p2 0),(5,pt p3 0),(6,pt b1 0),(8,pt (b1+1) 0),(13,iw za_0)] [gz,.g [.K 0 0]] rfl (en rfl (Ok.blk (sr (g0 2 [(1,.bool bb_0),(2,pt p0 0),(3,pt p1 0),(4,pt p2 0),(5,pt p3 0),(6,pt b1 0),(8,pt (b1+1) 0),(13,iw za_0),(14,.bool (za_0 == 0))] [gz,gz] rfl (en rfl (cd (za_0 == 0) (fun h4 => ?_) (fun h4 => ?_)))))))))
  · have h4 := eq_of_beq h4
    refine sr (g0 2 [(8,pt (b1+1) 0),(17,.bool (!bb_0))] [gz,gz] rfl (en rfl (cd (!bb_0) (fun h6 => ?_) (fun h6 => ?_))))
    · refine sr (g1 2 [(8,pt (b1+1) 0)] [.blk b1 [iw za_0,iw za_1,iw za_2,iw za_3,.slice Aa_4 na_4 ca_4,.string sa_5,.slice Aa_6 na_6 ca_6] 27,.blk (b1+1) [iw 6,iw 0,iw 0,iw 0,n0,s0,n0] 27] [gz,.g [.K 1 0,.K 1 1,.K 1 2,.K 1 3,.K 1 4,.K 1 5,.K 1 6]] rfl (en rfl (Ok.ret_ (Ok.blkR (Ok.thenR ?_)))))
      exact Ok.ret1c (SLe.refl _) [.K 1 0,.K 1 1,.K 1 2,.K 1 3,.K 1 4,.K 1 5,.K 1 6] (.agg #[iw 6,iw 0,iw 0,iw 0,n0,s0,n0]) [b1+1,b1+1,b1+1,b1+1,b1+1,b1+1,b1+1] rfl (by kernel_rfl) ⟨6,0,0,0,none,0,0,[],(⟨#[]⟩ : ByteArray),none,0,0,PTs.nil,rfl,(LstIs.nil _ _ _),(by decide),(KidsIs.nil _),(by rw [pr_false (by omega) (by simpa using h6)])⟩
    refine Ok.skip_ (Ok.blkN (Ok.thenN (sr (g0 2 [(8,pt (b1+1) 0)] [gz,.g [.K 1 0,.K 1 1,.K 1 2,.K 1 3,.K 1 4,.K 1 5,.K 1 6]] rfl (en rfl (Ok.ret_ ?_))))))
    exact Ok.ret1c (SLe.refl _) [.K 1 0,.K 1 1,.K 1 2,.K 1 3,.K 1 4,.K 1 5,.K 1 6] (.agg #[iw 0,iw 0,iw 0,iw 0,n0,s0,n0]) [b1+1,b1+1,b1+1,b1+1,b1+1,b1+1,b1+1] rfl (by kernel_rfl) ⟨0,0,0,0,none,0,0,[],(⟨#[]⟩ : ByteArray),none,0,0,PTs.nil,rfl,(LstIs.nil _ _ _),(by decide),(KidsIs.nil _),(by rw [pr_true (by omega) (by simpa using h6)])⟩
  have h4 := ne_of_beq_false h4
  refine Ok.seq (sr (g0 2 [(1,.bool bb_0),(2,pt p0 0),(3,pt p1 0),(4,pt p2 0),(5,pt p3 0),(6,pt b1 0),(8,pt (b1+1) 0),(13,iw za_0),(19,.bool (za_0 == 1))] [gz,gz] rfl (en rfl (cs (za_0 == 1) [19] (fun h10 => ?_) (fun h10 => ?_)))))
  · have h10 := eq_of_beq h10
    refine cT (skn (cT (Ok.seq (sr (g2 6 [(1,.bool bb_0),(2,pt p0 0),(3,pt p1 0),(4,pt p2 0),(6,pt b1 0),(8,pt (b1+1) 0),(29,.bool (za_1 == zt_1))] [gz,.g [.K 0 1],gz,.g [.X (iw zt_1)],gz,gz] (ex1 (Pre.cell hp0 1 rfl) ex0) rfl (cs (za_1 == zt_1) [29] (fun h12 => ?_) (fun h12 => ?_)))))))
    · have h12 := eq_of_beq h12
      refine g0 8 [(2,pt p0 0),(3,pt p1 0),(4,pt p2 0),(6,pt b1 0),(8,pt (b1+1) 0),(31,.bool bb_0)] [gz,gz] rfl (en rfl (cd bb_0 (fun h14 => ?_) (fun h14 => ?_)))
      · refine sr (g2 2 [(8,pt (b1+1) 0),(32,.func (.func 56) #[] #[]),(33,.agg #[iw za_0,iw za_1,iw za_2,iw za_3,.slice Aa_4 na_4 ca_4,.string sa_5,.slice Aa_6 na_6 ca_6])] [.g [.X (.func (.func 56) #[] #[])],.g [.K 0 0,.K 0 1,.K 0 2,.K 0 3,.K 0 4,.K 0 5,.K 0 6]] (ex1 (Pre.cell hp1 0 rfl) ex0) rfl (ef 3 rfl (ca (some 34) (c56 H za_0 za_1 za_2 za_3 Aa_4 (na_4) (ca_4) ga_4 sa_5 Aa_6 (na_6) (ca_6) ka_6 ha_4 ta_5 ha_6) ?_)))
        rintro v16 H17 k19 le18 ⟨zra_0y20,zra_1y20,zra_2y20,zra_3y20,Ara_4y20,nra_4y20,cra_4y20,gra_4y20,sra_5y20,Ara_6y20,nra_6y20,cra_6y20,kra_6y20,rfl,hra_4y20,tra_5y20,hra_6y20,py20_0⟩
        have lhra_4y20 := hra_4y20.2.1
        have mhra_4y20 := hra_4y20.1
        have lhra_6y20 := hra_6y20.2.1
        have mhra_6y20 := hra_6y20.1
        refine g1 4 [(8,pt (b1+1) 0)] [.blk b1 [iw za_0,iw za_1,iw za_2,iw za_3,.slice Aa_4 na_4 ca_4,.string sa_5,.slice Aa_6 na_6 ca_6] 27,.blk (b1+1) [iw zra_0y20,iw zra_1y20,iw zra_2y20,iw zra_3y20,.slice Ara_4y20 nra_4y20 cra_4y20,.string sra_5y20,.slice Ara_6y20 nra_6y20 cra_6y20] 27] [.g [.K 1 0,.K 1 1,.K 1 2,.K 1 3,.K 1 4,.K 1 5,.K 1 6]] rfl (en rfl (Ok.ret_ (Ok.thenR (Ok.blkR (Ok.thenR ?_)))))
        exact Ok.ret1c le18 [.K 1 0,.K 1 1,.K 1 2,.K 1 3,.K 1 4,.K 1 5,.K 1 6] (.agg #[iw zra_0y20,iw zra_1y20,iw zra_2y20,iw zra_3y20,.slice Ara_4y20 nra_4y20 cra_4y20,.string sra_5y20,.slice Ara_6y20 nra_6y20 cra_6y20]) [b1+1,b1+1,b1+1,b1+1,b1+1,b1+1,b1+1] rfl (by kernel_rfl) ⟨zra_0y20,zra_1y20,zra_2y20,zra_3y20,Ara_4y20,nra_4y20,cra_4y20,gra_4y20,sra_5y20,Ara_6y20,nra_6y20,cra_6y20,kra_6y20,rfl,hra_4y20,tra_5y20,hra_6y20,(by rw [pr_plus (by omega) (by omega) h14]; exact py20_0)⟩
      refine skn (sr (g2 5 [(4,pt p2 0),(6,pt b1 0),(8,pt (b1+1) 0),(39,.bool (za_1 == zt_1))] [gz,.g [.K 0 1],gz,.g [.X (iw zt_1)],gz] (ex1 (Pre.cell hp0 1 rfl) ex0) rfl (en rfl (cd (za_1 == zt_1) (fun h23 => ?_) (fun h23 => ?_)))))
      · have h23 := eq_of_beq h23
        refine sr (g2 2 [(8,pt (b1+1) 0),(40,.func (.func 57) #[] #[]),(41,.agg #[iw za_0,iw za_1,iw za_2,iw za_3,.slice Aa_4 na_4 ca_4,.string sa_5,.slice Aa_6 na_6 ca_6])] [.g [.X (.func (.func 57) #[] #[])],.g [.K 0 0,.K 0 1,.K 0 2,.K 0 3,.K 0 4,.K 0 5,.K 0 6]] (ex1 (Pre.cell hp2 0 rfl) ex0) rfl (ef 3 rfl (ca (some 42) (c57 H za_0 za_1 za_2 za_3 Aa_4 (na_4) (ca_4) ga_4 sa_5 Aa_6 (na_6) (ca_6) ka_6 ha_4 ta_5 ha_6) ?_)))
        rintro v25 H26 k28 le27 ⟨zra_0y29,zra_1y29,zra_2y29,zra_3y29,Ara_4y29,nra_4y29,cra_4y29,gra_4y29,sra_5y29,Ara_6y29,nra_6y29,cra_6y29,kra_6y29,rfl,hra_4y29,tra_5y29,hra_6y29,py29_0⟩
        have lhra_4y29 := hra_4y29.2.1
        have mhra_4y29 := hra_4y29.1
        have lhra_6y29 := hra_6y29.2.1
        have mhra_6y29 := hra_6y29.1
        refine g1 4 [(8,pt (b1+1) 0)] [.blk b1 [iw za_0,iw za_1,iw za_2,iw za_3,.slice Aa_4 na_4 ca_4,.string sa_5,.slice Aa_6 na_6 ca_6] 27,.blk (b1+1) [iw zra_0y29,iw zra_1y29,iw zra_2y29,iw zra_3y29,.slice Ara_4y29 nra_4y29 cra_4y29,.string sra_5y29,.slice Ara_6y29 nra_6y29 cra_6y29] 27] [.g [.K 1 0,.K 1 1,.K 1 2,.K 1 3,.K 1 4,.K 1 5,.K 1 6]] rfl (en rfl (Ok.ret_ (Ok.blkR (Ok.thenR ?_))))
        exact Ok.ret1c le27 [.K 1 0,.K 1 1,.K 1 2,.K 1 3,.K 1 4,.K 1 5,.K 1 6] (.agg #[iw zra_0y29,iw zra_1y29,iw zra_2y29,iw zra_3y29,.slice Ara_4y29 nra_4y29 cra_4y29,.string sra_5y29,.slice Ara_6y29 nra_6y29 cra_6y29]) [b1+1,b1+1,b1+1,b1+1,b1+1,b1+1,b1+1] rfl (by kernel_rfl) ⟨zra_0y29,zra_1y29,zra_2y29,zra_3y29,Ara_4y29,nra_4y29,cra_4y29,gra_4y29,sra_5y29,Ara_6y29,nra_6y29,cra_6y29,kra_6y29,rfl,hra_4y29,tra_5y29,hra_6y29,(by rw [pr_minus (by omega) (by omega) h14]; exact py29_0)⟩
      have h23 := ne_of_beq_false h23
      exact absurd h12 h23
    have h12 := ne_of_beq_false h12
    refine g0 8 [(2,pt p0 0),(3,pt p1 0),(4,pt p2 0),(6,pt b1 0),(8,pt (b1+1) 0),(31,bF)] [gz,gz] rfl (en rfl (cF (skn (sr (g2 5 [(4,pt p2 0),(6,pt b1 0),(8,pt (b1+1) 0),(39,.bool (za_1 == zt_1))] [gz,.g [.K 0 1],gz,.g [.X (iw zt_1)],gz] (ex1 (Pre.cell hp0 1 rfl) ex0) rfl (en rfl (cd (za_1 == zt_1) (fun h33 => ?_) (fun h33 => ?_))))))))
    · have h33 := eq_of_beq h33
      exact absurd h33 h12
    have h33 := ne_of_beq_false h33
    refine Ok.skip_ (Ok.blkN (Ok.thenN (sr (g0 2 [(8,pt (b1+1) 0)] [gz,.g [.K 1 0,.K 1 1,.K 1 2,.K 1 3,.K 1 4,.K 1 5,.K 1 6]] rfl (en rfl (Ok.ret_ ?_))))))
    exact Ok.ret1c (SLe.refl _) [.K 1 0,.K 1 1,.K 1 2,.K 1 3,.K 1 4,.K 1 5,.K 1 6] (.agg #[iw 0,iw 0,iw 0,iw 0,n0,s0,n0]) [b1+1,b1+1,b1+1,b1+1,b1+1,b1+1,b1+1] rfl (by kernel_rfl) ⟨0,0,0,0,none,0,0,[],(⟨#[]⟩ : ByteArray),none,0,0,PTs.nil,rfl,(LstIs.nil _ _ _),(by decide),(KidsIs.nil _),(by rw [pr_other (by omega) (by omega)])⟩
  have h10 := ne_of_beq_false h10
  refine cF (sr (g0 2 [(1,.bool bb_0),(2,pt p0 0),(3,pt p1 0),(4,pt p2 0),(5,pt p3 0),(6,pt b1 0),(8,pt (b1+1) 0),(13,iw za_0),(19,.bool (za_0 == 2))] [gz,gz] rfl (en rfl (cs (za_0 == 2) [19] (fun h36 => ?_) (fun h36 => ?_)))))
  · have h36 := eq_of_beq h36
    refine cT (skn (cT (Ok.seq (sr (g2 6 [(1,.bool bb_0),(2,pt p0 0),(3,pt p1 0),(4,pt p2 0),(6,pt b1 0),(8,pt (b1+1) 0),(29,.bool (za_1 == zt_1))] [gz,.g [.K 0 1],gz,.g [.X (iw zt_1)],gz,gz] (ex1 (Pre.cell hp0 1 rfl) ex0) rfl (cs (za_1 == zt_1) [29] (fun h38 => ?_) (fun h38 => ?_)))))))
    · have h38 := eq_of_beq h38
      refine g0 8 [(2,pt p0 0),(3,pt p1 0),(4,pt p2 0),(6,pt b1 0),(8,pt (b1+1) 0),(31,.bool bb_0)] [gz,gz] rfl (en rfl (cd bb_0 (fun h40 => ?_) (fun h40 => ?_)))
      · refine sr (g2 2 [(8,pt (b1+1) 0),(32,.func (.func 56) #[] #[]),(33,.agg #[iw za_0,iw za_1,iw za_2,iw za_3,.slice Aa_4 na_4 ca_4,.string sa_5,.slice Aa_6 na_6 ca_6])] [.g [.X (.func (.func 56) #[] #[])],.g [.K 0 0,.K 0 1,.K 0 2,.K 0 3,.K 0 4,.K 0 5,.K 0 6]] (ex1 (Pre.cell hp1 0 rfl) ex0) rfl (ef 3 rfl (ca (some 34) (c56 H za_0 za_1 za_2 za_3 Aa_4 (na_4) (ca_4) ga_4 sa_5 Aa_6 (na_6) (ca_6) ka_6 ha_4 ta_5 ha_6) ?_)))
        rintro v42 H43 k45 le44 ⟨zra_0y46,zra_1y46,zra_2y46,zra_3y46,Ara_4y46,nra_4y46,cra_4y46,gra_4y46,sra_5y46,Ara_6y46,nra_6y46,cra_6y46,kra_6y46,rfl,hra_4y46,tra_5y46,hra_6y46,py46_0⟩
        have lhra_4y46 := hra_4y46.2.1
        have mhra_4y46 := hra_4y46.1
        have lhra_6y46 := hra_6y46.2.1
        have mhra_6y46 := hra_6y46.1
        refine g1 4 [(8,pt (b1+1) 0)] [.blk b1 [iw za_0,iw za_1,iw za_2,iw za_3,.slice Aa_4 na_4 ca_4,.string sa_5,.slice Aa_6 na_6 ca_6] 27,.blk (b1+1) [iw zra_0y46,iw zra_1y46,iw zra_2y46,iw zra_3y46,.slice Ara_4y46 nra_4y46 cra_4y46,.string sra_5y46,.slice Ara_6y46 nra_6y46 cra_6y46] 27] [.g [.K 1 0,.K 1 1,.K 1 2,.K 1 3,.K 1 4,.K 1 5,.K 1 6]] rfl (en rfl (Ok.ret_ (Ok.thenR (Ok.blkR (Ok.thenR ?_)))))
        exact Ok.ret1c le44 [.K 1 0,.K 1 1,.K 1 2,.K 1 3,.K 1 4,.K 1 5,.K 1 6] (.agg #[iw zra_0y46,iw zra_1y46,iw zra_2y46,iw zra_3y46,.slice Ara_4y46 nra_4y46 cra_4y46,.string sra_5y46,.slice Ara_6y46 nra_6y46 cra_6y46]) [b1+1,b1+1,b1+1,b1+1,b1+1,b1+1,b1+1] rfl (by kernel_rfl) ⟨zra_0y46,zra_1y46,zra_2y46,zra_3y46,Ara_4y46,nra_4y46,cra_4y46,gra_4y46,sra_5y46,Ara_6y46,nra_6y46,cra_6y46,kra_6y46,rfl,hra_4y46,tra_5y46,hra_6y46,(by rw [pr_plus (by omega) (by omega) h40]; exact py46_0)⟩
      refine skn (sr (g2 5 [(4,pt p2 0),(6,pt b1 0),(8,pt (b1+1) 0),(39,.bool (za_1 == zt_1))] [gz,.g [.K 0 1],gz,.g [.X (iw zt_1)],gz] (ex1 (Pre.cell hp0 1 rfl) ex0) rfl (en rfl (cd (za_1 == zt_1) (fun h49 => ?_) (fun h49 => ?_)))))
      · have h49 := eq_of_beq h49
        refine sr (g2 2 [(8,pt (b1+1) 0),(40,.func (.func 57) #[] #[]),(41,.agg #[iw za_0,iw za_1,iw za_2,iw za_3,.slice Aa_4 na_4 ca_4,.string sa_5,.slice Aa_6 na_6 ca_6])] [.g [.X (.func (.func 57) #[] #[])],.g [.K 0 0,.K 0 1,.K 0 2,.K 0 3,.K 0 4,.K 0 5,.K 0 6]] (ex1 (Pre.cell hp2 0 rfl) ex0) rfl (ef 3 rfl (ca (some 42) (c57 H za_0 za_1 za_2 za_3 Aa_4 (na_4) (ca_4) ga_4 sa_5 Aa_6 (na_6) (ca_6) ka_6 ha_4 ta_5 ha_6) ?_)))
        rintro v51 H52 k54 le53 ⟨zra_0y55,zra_1y55,zra_2y55,zra_3y55,Ara_4y55,nra_4y55,cra_4y55,gra_4y55,sra_5y55,Ara_6y55,nra_6y55,cra_6y55,kra_6y55,rfl,hra_4y55,tra_5y55,hra_6y55,py55_0⟩
        have lhra_4y55 := hra_4y55.2.1
        have mhra_4y55 := hra_4y55.1
        have lhra_6y55 := hra_6y55.2.1
        have mhra_6y55 := hra_6y55.1
        refine g1 4 [(8,pt (b1+1) 0)] [.blk b1 [iw za_0,iw za_1,iw za_2,iw za_3,.slice Aa_4 na_4 ca_4,.string sa_5,.slice Aa_6 na_6 ca_6] 27,.blk (b1+1) [iw zra_0y55,iw zra_1y55,iw zra_2y55,iw zra_3y55,.slice Ara_4y55 nra_4y55 cra_4y55,.string sra_5y55,.slice Ara_6y55 nra_6y55 cra_6y55] 27] [.g [.K 1 0,.K 1 1,.K 1 2,.K 1 3,.K 1 4,.K 1 5,.K 1 6]] rfl (en rfl (Ok.ret_ (Ok.blkR (Ok.thenR ?_))))
        exact Ok.ret1c le53 [.K 1 0,.K 1 1,.K 1 2,.K 1 3,.K 1 4,.K 1 5,.K 1 6] (.agg #[iw zra_0y55,iw zra_1y55,iw zra_2y55,iw zra_3y55,.slice Ara_4y55 nra_4y55 cra_4y55,.string sra_5y55,.slice Ara_6y55 nra_6y55 cra_6y55]) [b1+1,b1+1,b1+1,b1+1,b1+1,b1+1,b1+1] rfl (by kernel_rfl) ⟨zra_0y55,zra_1y55,zra_2y55,zra_3y55,Ara_4y55,nra_4y55,cra_4y55,gra_4y55,sra_5y55,Ara_6y55,nra_6y55,cra_6y55,kra_6y55,rfl,hra_4y55,tra_5y55,hra_6y55,(by rw [pr_minus (by omega) (by omega) h40]; exact py55_0)⟩
      have h49 := ne_of_beq_false h49
      exact absurd h38 h49
    have h38 := ne_of_beq_false h38
    refine g0 8 [(2,pt p0 0),(3,pt p1 0),(4,pt p2 0),(6,pt b1 0),(8,pt (b1+1) 0),(31,bF)] [gz,gz] rfl (en rfl (cF (skn (sr (g2 5 [(4,pt p2 0),(6,pt b1 0),(8,pt (b1+1) 0),(39,.bool (za_1 == zt_1))] [gz,.g [.K 0 1],gz,.g [.X (iw zt_1)],gz] (ex1 (Pre.cell hp0 1 rfl) ex0) rfl (en rfl (cd (za_1 == zt_1) (fun h59 => ?_) (fun h59 => ?_))))))))
    · have h59 := eq_of_beq h59
      exact absurd h59 h38
    have h59 := ne_of_beq_false h59
    refine Ok.skip_ (Ok.blkN (Ok.thenN (sr (g0 2 [(8,pt (b1+1) 0)] [gz,.g [.K 1 0,.K 1 1,.K 1 2,.K 1 3,.K 1 4,.K 1 5,.K 1 6]] rfl (en rfl (Ok.ret_ ?_))))))
    exact Ok.ret1c (SLe.refl _) [.K 1 0,.K 1 1,.K 1 2,.K 1 3,.K 1 4,.K 1 5,.K 1 6] (.agg #[iw 0,iw 0,iw 0,iw 0,n0,s0,n0]) [b1+1,b1+1,b1+1,b1+1,b1+1,b1+1,b1+1] rfl (by kernel_rfl) ⟨0,0,0,0,none,0,0,[],(⟨#[]⟩ : ByteArray),none,0,0,PTs.nil,rfl,(LstIs.nil _ _ _),(by decide),(KidsIs.nil _),(by rw [pr_other (by omega) (by omega)])⟩
  have h36 := ne_of_beq_false h36
  refine cF (sr (g0 2 [(1,.bool bb_0),(2,pt p0 0),(3,pt p1 0),(4,pt p2 0),(5,pt p3 0),(6,pt b1 0),(8,pt (b1+1) 0),(13,iw za_0),(19,.bool (za_0 == 3))] [gz,gz] rfl (en rfl (cs (za_0 == 3) [19] (fun h62 => ?_) (fun h62 => ?_)))))
  · have h62 := eq_of_beq h62
    refine cT (skn (cT (Ok.seq (sr (g2 6 [(1,.bool bb_0),(2,pt p0 0),(3,pt p1 0),(4,pt p2 0),(6,pt b1 0),(8,pt (b1+1) 0),(29,.bool (za_1 == zt_1))] [gz,.g [.K 0 1],gz,.g [.X (iw zt_1)],gz,gz] (ex1 (Pre.cell hp0 1 rfl) ex0) rfl (cs (za_1 == zt_1) [29] (fun h64 => ?_) (fun h64 => ?_)))))))
    · have h64 := eq_of_beq h64
      refine g0 8 [(2,pt p0 0),(3,pt p1 0),(4,pt p2 0),(6,pt b1 0),(8,pt (b1+1) 0),(31,.bool bb_0)] [gz,gz] rfl (en rfl (cd bb_0 (fun h66 => ?_) (fun h66 => ?_)))
      · refine sr (g2 2 [(8,pt (b1+1) 0),(32,.func (.func 56) #[] #[]),(33,.agg #[iw za_0,iw za_1,iw za_2,iw za_3,.slice Aa_4 na_4 ca_4,.string sa_5,.slice Aa_6 na_6 ca_6])] [.g [.X (.func (.func 56) #[] #[])],.g [.K 0 0,.K 0 1,.K 0 2,.K 0 3,.K 0 4,.K 0 5,.K 0 6]] (ex1 (Pre.cell hp1 0 rfl) ex0) rfl (ef 3 rfl (ca (some 34) (c56 H za_0 za_1 za_2 za_3 Aa_4 (na_4) (ca_4) ga_4 sa_5 Aa_6 (na_6) (ca_6) ka_6 ha_4 ta_5 ha_6) ?_)))
        rintro v68 H69 k71 le70 ⟨zra_0y72,zra_1y72,zra_2y72,zra_3y72,Ara_4y72,nra_4y72,cra_4y72,gra_4y72,sra_5y72,Ara_6y72,nra_6y72,cra_6y72,kra_6y72,rfl,hra_4y72,tra_5y72,hra_6y72,py72_0⟩
        have lhra_4y72 := hra_4y72.2.1
        have mhra_4y72 := hra_4y72.1
        have lhra_6y72 := hra_6y72.2.1
        have mhra_6y72 := hra_6y72.1
        refine g1 4 [(8,pt (b1+1) 0)] [.blk b1 [iw za_0,iw za_1,iw za_2,iw za_3,.slice Aa_4 na_4 ca_4,.string sa_5,.slice Aa_6 na_6 ca_6] 27,.blk (b1+1) [iw zra_0y72,iw zra_1y72,iw zra_2y72,iw zra_3y72,.slice Ara_4y72 nra_4y72 cra_4y72,.string sra_5y72,.slice Ara_6y72 nra_6y72 cra_6y72] 27] [.g [.K 1 0,.K 1 1,.K 1 2,.K 1 3,.K 1 4,.K 1 5,.K 1 6]] rfl (en rfl (Ok.ret_ (Ok.thenR (Ok.blkR (Ok.thenR ?_)))))
        exact Ok.ret1c le70 [.K 1 0,.K 1 1,.K 1 2,.K 1 3,.K 1 4,.K 1 5,.K 1 6] (.agg #[iw zra_0y72,iw zra_1y72,iw zra_2y72,iw zra_3y72,.slice Ara_4y72 nra_4y72 cra_4y72,.string sra_5y72,.slice Ara_6y72 nra_6y72 cra_6y72]) [b1+1,b1+1,b1+1,b1+1,b1+1,b1+1,b1+1] rfl (by kernel_rfl) ⟨zra_0y72,zra_1y72,zra_2y72,zra_3y72,Ara_4y72,nra_4y72,cra_4y72,gra_4y72,sra_5y72,Ara_6y72,nra_6y72,cra_6y72,kra_6y72,rfl,hra_4y72,tra_5y72,hra_6y72,(by rw [pr_plus (by omega) (by omega) h66]; exact py72_0)⟩
      refine skn (sr (g2 5 [(4,pt p2 0),(6,pt b1 0),(8,pt (b1+1) 0),(39,.bool (za_1 == zt_1))] [gz,.g [.K 0 1],gz,.g [.X (iw zt_1)],gz] (ex1 (Pre.cell hp0 1 rfl) ex0) rfl (en rfl (cd (za_1 == zt_1) (fun h75 => ?_) (fun h75 => ?_)))))
      · have h75 := eq_of_beq h75
        refine sr (g2 2 [(8,pt (b1+1) 0),(40,.func (.func 57) #[] #[]),(41,.agg #[iw za_0,iw za_1,iw za_2,iw za_3,.slice Aa_4 na_4 ca_4,.string sa_5,.slice Aa_6 na_6 ca_6])] [.g [.X (.func (.func 57) #[] #[])],.g [.K 0 0,.K 0 1,.K 0 2,.K 0 3,.K 0 4,.K 0 5,.K 0 6]] (ex1 (Pre.cell hp2 0 rfl) ex0) rfl (ef 3 rfl (ca (some 42) (c57 H za_0 za_1 za_2 za_3 Aa_4 (na_4) (ca_4) ga_4 sa_5 Aa_6 (na_6) (ca_6) ka_6 ha_4 ta_5 ha_6) ?_)))
        rintro v77 H78 k80 le79 ⟨zra_0y81,zra_1y81,zra_2y81,zra_3y81,Ara_4y81,nra_4y81,cra_4y81,gra_4y81,sra_5y81,Ara_6y81,nra_6y81,cra_6y81,kra_6y81,rfl,hra_4y81,tra_5y81,hra_6y81,py81_0⟩
        have lhra_4y81 := hra_4y81.2.1
        have mhra_4y81 := hra_4y81.1
        have lhra_6y81 := hra_6y81.2.1
        have mhra_6y81 := hra_6y81.1
        refine g1 4 [(8,pt (b1+1) 0)] [.blk b1 [iw za_0,iw za_1,iw za_2,iw za_3,.slice Aa_4 na_4 ca_4,.string sa_5,.slice Aa_6 na_6 ca_6] 27,.blk (b1+1) [iw zra_0y81,iw zra_1y81,iw zra_2y81,iw zra_3y81,.slice Ara_4y81 nra_4y81 cra_4y81,.string sra_5y81,.slice Ara_6y81 nra_6y81 cra_6y81] 27] [.g [.K 1 0,.K 1 1,.K 1 2,.K 1 3,.K 1 4,.K 1 5,.K 1 6]] rfl (en rfl (Ok.ret_ (Ok.blkR (Ok.thenR ?_))))
        exact Ok.ret1c le79 [.K 1 0,.K 1 1,.K 1 2,.K 1 3,.K 1 4,.K 1 5,.K 1 6] (.agg #[iw zra_0y81,iw zra_1y81,iw zra_2y81,iw zra_3y81,.slice Ara_4y81 nra_4y81 cra_4y81,.string sra_5y81,.slice Ara_6y81 nra_6y81 cra_6y81]) [b1+1,b1+1,b1+1,b1+1,b1+1,b1+1,b1+1] rfl (by kernel_rfl) ⟨zra_0y81,zra_1y81,zra_2y81,zra_3y81,Ara_4y81,nra_4y81,cra_4y81,gra_4y81,sra_5y81,Ara_6y81,nra_6y81,cra_6y81,kra_6y81,rfl,hra_4y81,tra_5y81,hra_6y81,(by rw [pr_minus (by omega) (by omega) h66]; exact py81_0)⟩
      have h75 := ne_of_beq_false h75
      exact absurd h64 h75
    have h64 := ne_of_beq_false h64
    refine g0 8 [(2,pt p0 0),(3,pt p1 0),(4,pt p2 0),(6,pt b1 0),(8,pt (b1+1) 0),(31,bF)] [gz,gz] rfl (en rfl (cF (skn (sr (g2 5 [(4,pt p2 0),(6,pt b1 0),(8,pt (b1+1) 0),(39,.bool (za_1 == zt_1))] [gz,.g [.K 0 1],gz,.g [.X (iw zt_1)],gz] (ex1 (Pre.cell hp0 1 rfl) ex0) rfl (en rfl (cd (za_1 == zt_1) (fun h85 => ?_) (fun h85 => ?_))))))))
    · have h85 := eq_of_beq h85
      exact absurd h85 h64
    have h85 := ne_of_beq_false h85
    refine Ok.skip_ (Ok.blkN (Ok.thenN (sr (g0 2 [(8,pt (b1+1) 0)] [gz,.g [.K 1 0,.K 1 1,.K 1 2,.K 1 3,.K 1 4,.K 1 5,.K 1 6]] rfl (en rfl (Ok.ret_ ?_))))))
    exact Ok.ret1c (SLe.refl _) [.K 1 0,.K 1 1,.K 1 2,.K 1 3,.K 1 4,.K 1 5,.K 1 6] (.agg #[iw 0,iw 0,iw 0,iw 0,n0,s0,n0]) [b1+1,b1+1,b1+1,b1+1,b1+1,b1+1,b1+1] rfl (by kernel_rfl) ⟨0,0,0,0,none,0,0,[],(⟨#[]⟩ : ByteArray),none,0,0,PTs.nil,rfl,(LstIs.nil _ _ _),(by decide),(KidsIs.nil _),(by rw [pr_other (by omega) (by omega)])⟩
  have h62 := ne_of_beq_false h62
  refine cF (Ok.reg (g0 2 [(1,.bool bb_0),(2,pt p0 0),(3,pt p1 0),(4,pt p2 0),(5,pt p3 0),(6,pt b1 0),(8,pt (b1+1) 0),(13,iw za_0),(19,.bool (za_0 == 4))] [gz,gz] rfl (en rfl (cd (za_0 == 4) (fun h88 => ?_) (fun h88 => ?_)))))
  · have h88 := eq_of_beq h88
    refine Ok.seq (sr (g2 6 [(1,.bool bb_0),(2,pt p0 0),(3,pt p1 0),(4,pt p2 0),(6,pt b1 0),(8,pt (b1+1) 0),(29,.bool (za_1 == zt_1))] [gz,.g [.K 0 1],gz,.g [.X (iw zt_1)],gz,gz] (ex1 (Pre.cell hp0 1 rfl) ex0) rfl (cs (za_1 == zt_1) [29] (fun h90 => ?_) (fun h90 => ?_))))
    · have h90 := eq_of_beq h90
      refine g0 8 [(2,pt p0 0),(3,pt p1 0),(4,pt p2 0),(6,pt b1 0),(8,pt (b1+1) 0),(31,.bool bb_0)] [gz,gz] rfl (en rfl (cd bb_0 (fun h92 => ?_) (fun h92 => ?_)))
      · refine sr (g2 2 [(8,pt (b1+1) 0),(32,.func (.func 56) #[] #[]),(33,.agg #[iw za_0,iw za_1,iw za_2,iw za_3,.slice Aa_4 na_4 ca_4,.string sa_5,.slice Aa_6 na_6 ca_6])] [.g [.X (.func (.func 56) #[] #[])],.g [.K 0 0,.K 0 1,.K 0 2,.K 0 3,.K 0 4,.K 0 5,.K 0 6]] (ex1 (Pre.cell hp1 0 rfl) ex0) rfl (ef 3 rfl (ca (some 34) (c56 H za_0 za_1 za_2 za_3 Aa_4 (na_4) (ca_4) ga_4 sa_5 Aa_6 (na_6) (ca_6) ka_6 ha_4 ta_5 ha_6) ?_)))
        rintro v94 H95 k97 le96 ⟨zra_0y98,zra_1y98,zra_2y98,zra_3y98,Ara_4y98,nra_4y98,cra_4y98,gra_4y98,sra_5y98,Ara_6y98,nra_6y98,cra_6y98,kra_6y98,rfl,hra_4y98,tra_5y98,hra_6y98,py98_0⟩
        have lhra_4y98 := hra_4y98.2.1
        have mhra_4y98 := hra_4y98.1
        have lhra_6y98 := hra_6y98.2.1
        have mhra_6y98 := hra_6y98.1
        refine g1 4 [(8,pt (b1+1) 0)] [.blk b1 [iw za_0,iw za_1,iw za_2,iw za_3,.slice Aa_4 na_4 ca_4,.string sa_5,.slice Aa_6 na_6 ca_6] 27,.blk (b1+1) [iw zra_0y98,iw zra_1y98,iw zra_2y98,iw zra_3y98,.slice Ara_4y98 nra_4y98 cra_4y98,.string sra_5y98,.slice Ara_6y98 nra_6y98 cra_6y98] 27] [.g [.K 1 0,.K 1 1,.K 1 2,.K 1 3,.K 1 4,.K 1 5,.K 1 6]] rfl (en rfl (Ok.ret_ (Ok.thenR (Ok.blkR (Ok.thenR ?_)))))
        exact Ok.ret1c le96 [.K 1 0,.K 1 1,.K 1 2,.K 1 3,.K 1 4,.K 1 5,.K 1 6] (.agg #[iw zra_0y98,iw zra_1y98,iw zra_2y98,iw zra_3y98,.slice Ara_4y98 nra_4y98 cra_4y98,.string sra_5y98,.slice Ara_6y98 nra_6y98 cra_6y98]) [b1+1,b1+1,b1+1,b1+1,b1+1,b1+1,b1+1] rfl (by kernel_rfl) ⟨zra_0y98,zra_1y98,zra_2y98,zra_3y98,Ara_4y98,nra_4y98,cra_4y98,gra_4y98,sra_5y98,Ara_6y98,nra_6y98,cra_6y98,kra_6y98,rfl,hra_4y98,tra_5y98,hra_6y98,(by rw [pr_plus (by omega) (by omega) h92]; exact py98_0)⟩
      refine skn (sr (g2 5 [(4,pt p2 0),(6,pt b1 0),(8,pt (b1+1) 0),(39,.bool (za_1 == zt_1))] [gz,.g [.K 0 1],gz,.g [.X (iw zt_1)],gz] (ex1 (Pre.cell hp0 1 rfl) ex0) rfl (en rfl (cd (za_1 == zt_1) (fun h101 => ?_) (fun h101 => ?_)))))
      · have h101 := eq_of_beq h101
        refine sr (g2 2 [(8,pt (b1+1) 0),(40,.func (.func 57) #[] #[]),(41,.agg #[iw za_0,iw za_1,iw za_2,iw za_3,.slice Aa_4 na_4 ca_4,.string sa_5,.slice Aa_6 na_6 ca_6])] [.g [.X (.func (.func 57) #[] #[])],.g [.K 0 0,.K 0 1,.K 0 2,.K 0 3,.K 0 4,.K 0 5,.K 0 6]] (ex1 (Pre.cell hp2 0 rfl) ex0) rfl (ef 3 rfl (ca (some 42) (c57 H za_0 za_1 za_2 za_3 Aa_4 (na_4) (ca_4) ga_4 sa_5 Aa_6 (na_6) (ca_6) ka_6 ha_4 ta_5 ha_6) ?_)))
        rintro v103 H104 k106 le105 ⟨zra_0y107,zra_1y107,zra_2y107,zra_3y107,Ara_4y107,nra_4y107,cra_4y107,gra_4y107,sra_5y107,Ara_6y107,nra_6y107,cra_6y107,kra_6y107,rfl,hra_4y107,tra_5y107,hra_6y107,py107_0⟩
        have lhra_4y107 := hra_4y107.2.1
        have mhra_4y107 := hra_4y107.1
        have lhra_6y107 := hra_6y107.2.1
        have mhra_6y107 := hra_6y107.1
        refine g1 4 [(8,pt (b1+1) 0)] [.blk b1 [iw za_0,iw za_1,iw za_2,iw za_3,.slice Aa_4 na_4 ca_4,.string sa_5,.slice Aa_6 na_6 ca_6] 27,.blk (b1+1) [iw zra_0y107,iw zra_1y107,iw zra_2y107,iw zra_3y107,.slice Ara_4y107 nra_4y107 cra_4y107,.string sra_5y107,.slice Ara_6y107 nra_6y107 cra_6y107] 27] [.g [.K 1 0,.K 1 1,.K 1 2,.K 1 3,.K 1 4,.K 1 5,.K 1 6]] rfl (en rfl (Ok.ret_ (Ok.blkR (Ok.thenR ?_))))
        exact Ok.ret1c le105 [.K 1 0,.K 1 1,.K 1 2,.K 1 3,.K 1 4,.K 1 5,.K 1 6] (.agg #[iw zra_0y107,iw zra_1y107,iw zra_2y107,iw zra_3y107,.slice Ara_4y107 nra_4y107 cra_4y107,.string sra_5y107,.slice Ara_6y107 nra_6y107 cra_6y107]) [b1+1,b1+1,b1+1,b1+1,b1+1,b1+1,b1+1] rfl (by kernel_rfl) ⟨zra_0y107,zra_1y107,zra_2y107,zra_3y107,Ara_4y107,nra_4y107,cra_4y107,gra_4y107,sra_5y107,Ara_6y107,nra_6y107,cra_6y107,kra_6y107,rfl,hra_4y107,tra_5y107,hra_6y107,(by rw [pr_minus (by omega) (by omega) h92]; exact py107_0)⟩
      have h101 := ne_of_beq_false h101
      exact absurd h90 h101
    have h90 := ne_of_beq_false h90
    refine g0 8 [(2,pt p0 0),(3,pt p1 0),(4,pt p2 0),(6,pt b1 0),(8,pt (b1+1) 0),(31,bF)] [gz,gz] rfl (en rfl (cF (skn (sr (g2 5 [(4,pt p2 0),(6,pt b1 0),(8,pt (b1+1) 0),(39,.bool (za_1 == zt_1))] [gz,.g [.K 0 1],gz,.g [.X (iw zt_1)],gz] (ex1 (Pre.cell hp0 1 rfl) ex0) rfl (en rfl (cd (za_1 == zt_1) (fun h111 => ?_) (fun h111 => ?_))))))))
    · have h111 := eq_of_beq h111
      exact absurd h111 h90
    have h111 := ne_of_beq_false h111
    refine Ok.skip_ (Ok.blkN (Ok.thenN (sr (g0 2 [(8,pt (b1+1) 0)] [gz,.g [.K 1 0,.K 1 1,.K 1 2,.K 1 3,.K 1 4,.K 1 5,.K 1 6]] rfl (en rfl (Ok.ret_ ?_))))))
    exact Ok.ret1c (SLe.refl _) [.K 1 0,.K 1 1,.K 1 2,.K 1 3,.K 1 4,.K 1 5,.K 1 6] (.agg #[iw 0,iw 0,iw 0,iw 0,n0,s0,n0]) [b1+1,b1+1,b1+1,b1+1,b1+1,b1+1,b1+1] rfl (by kernel_rfl) ⟨0,0,0,0,none,0,0,[],(⟨#[]⟩ : ByteArray),none,0,0,PTs.nil,rfl,(LstIs.nil _ _ _),(by decide),(KidsIs.nil _),(by rw [pr_other (by omega) (by omega)])⟩
  have h88 := ne_of_beq_false h88
  refine sr (g0 2 [(1,.bool bb_0),(5,pt p3 0),(6,pt b1 0),(8,pt (b1+1) 0),(13,iw za_0),(43,.bool (za_0 == 7))] [gz,gz] rfl (en rfl (cd (za_0 == 7) (fun h114 => ?_) (fun h114 => ?_))))
  · have h114 := eq_of_beq h114
    refine sr (g0 4 [(1,.bool bb_0),(5,pt p3 0),(6,pt b1 0),(8,pt (b1+1) 0),(48,.bool (((na_6 : Nat) : Int) == 1))] [gz,.g [.K 0 6],gz,gz] rfl (en rfl (cd (((na_6 : Nat) : Int) == 1) (fun h116 => ?_) (fun h116 => ?_))))
    · have h116 := eq_of_beq h116
      refine Ok.seq (st [0] [] 9 ?_)
      have ie117 : 0 < ka_6.len := by omega
      have ze117 : 0 ≤ (0 : Int) ∧ (0 : Int) < ((na_6 : Nat) : Int) := by omega
      obtain ⟨ke117,re117,qe117⟩ := PTs.open_ ie117
      have ne117 := ha_6.2.2
      rw [qe117] at ne117
      obtain ⟨je117,⟨cse117,we117,he117⟩,ne117⟩ := ne117.cons
      obtain ⟨ae117,be117,ce117,de117,se117,te117,kse117,rfl⟩ := PTs.node_ ke117
      obtain ⟨Ae117_4,ne117_4,ce117_4,Ae117_6,ne117_6,ce117_6,rfl,fe117_4,txe117,fe117_6⟩ := we117.open_
      have oe117 := congrArg PTs.depth qe117
      have le117 := congrArg PTs.len qe117
      have xe117 := PTs.len_cons (PT.node ae117 be117 ce117 de117 se117 te117 kse117) re117
      have ye117 := PTs.depth1 ae117 be117 ce117 de117 se117 te117 kse117 re117
      have ve117 := PTs.depth2 (PT.node ae117 be117 ce117 de117 se117 te117 kse117) re117
      have lfe117_4 := fe117_4.2.1
      have mfe117_4 := fe117_4.1
      have lfe117_6 := fe117_6.2.1
      have mfe117_6 := fe117_6.1
      refine tx 2 [(0,.g [.X (.func (.func 31) #[] #[pt p0 0,pt p1 0,pt p2 0,pt p3 0])]),(1,gz),(2,.g [.K 0 6]),(3,.ix),(4,.g [.X (iw ae117),.X (iw be117),.X (iw ce117),.X (iw de117),.X (.slice Ae117_4 ne117_4 ce117_4),.X (.string te117),.X (.slice Ae117_6 ne117_6 ce117_6)]),(5,gz),(6,gz)] [(8,pt (b1+1) 0),(49,.func (.func 31) #[] #[pt p0 0,pt p1 0,pt p2 0,pt p3 0]),(53,.agg #[iw ae117,iw be117,iw ce117,iw de117,.slice Ae117_4 ne117_4 ce117_4,.string te117,.slice Ae117_6 ne117_6 ce117_6]),(55,.bool (!bb_0))] (ex1 (Pre.cell hp3 0 rfl) (ex1 (And.intro je117 ze117) (ex1 (cell0 (he117 0 _ rfl)) (ex1 (he117 (1) _ rfl) (ex1 (he117 (2) _ rfl) (ex1 (he117 (3) _ rfl) (ex1 (he117 (4) _ rfl) (ex1 (he117 (5) _ rfl) (ex1 (he117 (6) _ rfl) ex0))))))))) rfl ?_
      refine on 7 1 rfl (ca (some 56) (ih kse117.depth (by omega) H ae117 be117 ce117 de117 Ae117_4 (ne117_4) (ce117_4) se117 te117 Ae117_6 (ne117_6) (ce117_6) kse117 (!bb_0) p0 zt_0 zt_1 zt_2 p1 p2 p3 fe117_4 txe117 fe117_6 hp0 hp1 hp2 hp3 (bnds_hd (qe117 ▸ bnd_kids hq0)) (Nat.le_refl _)) ?_)
      rintro v118 H119 k121 le120 ⟨zra_0y122,zra_1y122,zra_2y122,zra_3y122,Ara_4y122,nra_4y122,cra_4y122,gra_4y122,sra_5y122,Ara_6y122,nra_6y122,cra_6y122,kra_6y122,rfl,hra_4y122,tra_5y122,hra_6y122,py122_0⟩
      have lhra_4y122 := hra_4y122.2.1
      have mhra_4y122 := hra_4y122.1
      have lhra_6y122 := hra_6y122.2.1
      have mhra_6y122 := hra_6y122.1
      refine ws [0] le120 ?_
      refine on 8 0 rfl (e1 (.g [.K 1 0,.K 1 1,.K 1 2,.K 1 3,.K 1 4,.K 1 5,.K 1 6]) [(8,pt (b1+1) 0)] [.blk b1 [iw za_0,iw za_1,iw za_2,iw za_3,.slice Aa_4 na_4 ca_4,.string sa_5,.slice Aa_6 na_6 ca_6] 27,.blk (b1+1) [iw zra_0y122,iw zra_1y122,iw zra_2y122,iw zra_3y122,.slice Ara_4y122 nra_4y122 cra_4y122,.string sra_5y122,.slice Ara_6y122 nra_6y122 cra_6y122] 27] ?_)
      refine ws [0] le120 ?_
      refine dn (Ok.ret_ (Ok.blkR (Ok.thenR ?_)))
      exact Ok.ret1c le120 [.K 1 0,.K 1 1,.K 1 2,.K 1 3,.K 1 4,.K 1 5,.K 1 6] (.agg #[iw zra_0y122,iw zra_1y122,iw zra_2y122,iw zra_3y122,.slice Ara_4y122 nra_4y122 cra_4y122,.string sra_5y122,.slice Ara_6y122 nra_6y122 cra_6y122]) [b1+1,b1+1,b1+1,b1+1,b1+1,b1+1,b1+1] rfl (by kernel_rfl) ⟨zra_0y122,zra_1y122,zra_2y122,zra_3y122,Ara_4y122,nra_4y122,cra_4y122,gra_4y122,sra_5y122,Ara_6y122,nra_6y122,cra_6y122,kra_6y122,rfl,hra_4y122,tra_5y122,hra_6y122,(by rw [pr_not (by omega) qe117 (by omega)]; exact py122_0)⟩
    have h116 := ne_of_beq_false h116
    refine Ok.skip_ (Ok.blkN (Ok.thenN (sr (g0 2 [(8,pt (b1+1) 0)] [gz,.g [.K 1 0,.K 1 1,.K 1 2,.K 1 3,.K 1 4,.K 1 5,.K 1 6]] rfl (en rfl (Ok.ret_ ?_))))))
    exact Ok.ret1c (SLe.refl _) [.K 1 0,.K 1 1,.K 1 2,.K 1 3,.K 1 4,.K 1 5,.K 1 6] (.agg #[iw 0,iw 0,iw 0,iw 0,n0,s0,n0]) [b1+1,b1+1,b1+1,b1+1,b1+1,b1+1,b1+1] rfl (by kernel_rfl) ⟨0,0,0,0,none,0,0,[],(⟨#[]⟩ : ByteArray),none,0,0,PTs.nil,rfl,(LstIs.nil _ _ _),(by decide),(KidsIs.nil _),(by rw [pr_not0 (by omega) (by omega)])⟩
  have h114 := ne_of_beq_false h114
  refine Ok.seq (sr (g0 2 [(1,.bool bb_0),(5,pt p3 0),(6,pt b1 0),(8,pt (b1+1) 0),(13,iw za_0),(57,.bool (za_0 == 5))] [gz,gz] rfl (en rfl (cs (za_0 == 5) [57] (fun h126 => ?_) (fun h126 => ?_)))))
  · have h126 := eq_of_beq h126
    refine cT (skn (cT (sr (g4 3 (fun b127 => [(1,.bool bb_0),(5,pt p3 0),(6,pt b1 0),(8,pt (b1+1) 0),(9,pt b127 0)]) (fun b127 => [.blk b1 [iw za_0,iw za_1,iw za_2,iw za_3,.slice Aa_4 na_4 ca_4,.string sa_5,.slice Aa_6 na_6 ca_6] 27,.blk (b1+1) [iw 0,iw 0,iw 0,iw 0,n0,s0,n0] 27,.blk b127 [iw 5,iw 0,iw 0,iw 0,n0,s0,n0] 27]) [gz,.g [.N],.g [.K 2 0,.K 2 1,.K 2 2,.K 2 3,.K 2 4,.K 2 5,.K 2 6]] rfl (fun b127 => (en rfl ?_))))))
    refine Ok.seq (sr (g0 5 [(1,.bool bb_0),(5,pt p3 0),(6,pt b1 0),(8,pt (b1+1) 0),(9,pt b127 0),(65,.bool ((za_0 == 6) == bb_0))] [gz,.g [.K 0 0],gz,gz,gz] rfl (en rfl (cd ((za_0 == 6) == bb_0) (fun h129 => ?_) (fun h129 => ?_)))))
    · have h129 := eq_of_beq h129
      refine Ok.reg (g1 2 [(1,.bool bb_0),(5,pt p3 0),(6,pt b1 0),(8,pt (b1+1) 0),(9,pt b127 0)] [.blk b1 [iw za_0,iw za_1,iw za_2,iw za_3,.slice Aa_4 na_4 ca_4,.string sa_5,.slice Aa_6 na_6 ca_6] 27,.blk (b1+1) [iw 0,iw 0,iw 0,iw 0,n0,s0,n0] 27,.blk b127 [iw 6,iw 0,iw 0,iw 0,n0,s0,n0] 27] [gz,.g [.K 2 0]] rfl (en rfl (Ok.seq (sr (g0 4 [(1,.bool bb_0),(5,pt p3 0),(8,pt (b1+1) 0),(9,pt b127 0),(68,.slice Aa_6 na_6 ca_6),(69,iw ((na_6 : Nat) : Int)),(70,iw 0)] [gz,.g [.K 0 6],gz,gz] rfl (en rfl (Ok.blk (Ok.nilRow 7 27 (Ok.restr [1,5,8,9,68,69,70] [(1,.bool bb_0),(5,pt p3 0),(8,pt (b1+1) 0),(9,pt b127 0),(68,.slice Aa_6 na_6 ca_6),(69,iw ((na_6 : Nat) : Int)),(70,iw 0)] rfl (Ok.loop (fun H' fr kb m => ∃ (zL132_70 : Int) (AL132r3 : Option Addr) (nL132r3 : Nat) (cL132r3 : Nat) (xL132r3 : List Value) (KL132r3 : PTs) (RL132 : PTs),fr = [(1,.bool bb_0),(5,pt p3 0),(8,pt (b1+1) 0),(9,pt b127 0),(68,.slice Aa_6 na_6 ca_6),(69,iw ((na_6 : Nat) : Int)),(70,iw zL132_70)] ∧ kb = [.blk b1 [iw za_0,iw za_1,iw za_2,iw za_3,.slice Aa_4 na_4 ca_4,.string sa_5,.slice Aa_6 na_6 ca_6] 27,.blk (b1+1) [iw 0,iw 0,iw 0,iw 0,n0,s0,n0] 27,.blk b127 [iw 6,iw 0,iw 0,iw 0,n0,s0,.slice AL132r3 nL132r3 cL132r3] 27,.row (.slice AL132r3 nL132r3 cL132r3) nL132r3 7 27 xL132r3] ∧ m = ((((na_6 : Nat) : Int)) - zL132_70).toNat ∧ SLe H H' ∧ 0 ≤ zL132_70 ∧ zL132_70 ≤ ((na_6 : Nat) : Int) ∧ ka_6.len ≤ 16 ∧ ((nL132r3 : Nat) : Int) ≤ zL132_70 ∧ zL132_70 + ((RL132.len : Nat) : Int) = ((na_6 : Nat) : Int) ∧ RL132.depth ≤ ka_6.depth ∧ RowPs H' KL132r3 xL132r3 ∧ nL132r3 = KL132r3.len ∧ KidsAt H' RL132 Aa_6 (zL132_70).toNat ∧ KL132r3.app (RL132.prs zt_1 bb_0) = ka_6.prs zt_1 bb_0 ∧ RL132.bnds) _ ⟨0,none,0,0,[],PTs.nil,ka_6,rfl,rfl,rfl,SLe.refl _,by decide,by omega,by omega,by omega,by omega,by omega,RowPs.nil,rfl,ha_6.2.2,rfl,(bnd_kids hq0)⟩ ?_))))))))))
      rintro H133 _ _ mL132 ⟨zL132_70,AL132r3,nL132r3,cL132r3,xL132r3,KL132r3,RL132,rfl,rfl,hmL132,le134,fL132_0,fL132_1,fL132_2,fL132_3,fL132_4,fL132_5,EL132r3,LL132r3,QL132,XL132_0,XL132_1⟩
      refine sr (g0 1 [(1,.bool bb_0),(5,pt p3 0),(8,pt (b1+1) 0),(9,pt b127 0),(68,.slice Aa_6 na_6 ca_6),(69,iw ((na_6 : Nat) : Int)),(70,iw zL132_70),(71,.bool (decide (zL132_70 < ((na_6 : Nat) : Int))))] [gz] rfl (en rfl (Ok.seq (cd (decide (zL132_70 < ((na_6 : Nat) : Int))) (fun h136 => ?_) (fun h136 => ?_)))))
      · have h136 := of_decide_eq_true h136
        refine skn (Ok.seq (Ok.blk (sr ?_)))
        have ie138 : 0 < RL132.len := by omega
        have ze138 : 0 ≤ zL132_70 ∧ zL132_70 < ((na_6 : Nat) : Int) := by omega
        obtain ⟨ke138,re138,rfl⟩ := PTs.open_ ie138
        obtain ⟨je138,⟨cse138,we138,he138⟩,ne138⟩ := (QL132).cons
        obtain ⟨ae138,be138,ce138,de138,se138,te138,kse138,rfl⟩ := PTs.node_ ke138
        obtain ⟨Ae138_4,ne138_4,ce138_4,Ae138_6,ne138_6,ce138_6,rfl,fe138_4,txe138,fe138_6⟩ := we138.open_
        have xe138 := PTs.len_cons (PT.node ae138 be138 ce138 de138 se138 te138 kse138) re138
        have ye138 := PTs.depth1 ae138 be138 ce138 de138 se138 te138 kse138 re138
        have ve138 := PTs.depth2 (PT.node ae138 be138 ce138 de138 se138 te138 kse138) re138
        have lfe138_4 := fe138_4.2.1
        have mfe138_4 := fe138_4.1
        have lfe138_6 := fe138_6.2.1
        have mfe138_6 := fe138_6.1
        refine g5 4 (fun b137 => [(1,.bool bb_0),(5,pt p3 0),(8,pt (b1+1) 0),(9,pt b127 0),(11,pt b137 0),(68,.slice Aa_6 na_6 ca_6),(69,iw ((na_6 : Nat) : Int)),(70,iw zL132_70)]) (fun b137 => [.blk b1 [iw za_0,iw za_1,iw za_2,iw za_3,.slice Aa_4 na_4 ca_4,.string sa_5,.slice Aa_6 na_6 ca_6] 27,.blk (b1+1) [iw 0,iw 0,iw 0,iw 0,n0,s0,n0] 27,.blk b127 [iw 6,iw 0,iw 0,iw 0,n0,s0,.slice AL132r3 nL132r3 cL132r3] 27,.row (.slice AL132r3 nL132r3 cL132r3) nL132r3 7 27 xL132r3,.blk b137 [iw ae138,iw be138,iw ce138,iw de138,.slice Ae138_4 ne138_4 ce138_4,.string te138,.slice Ae138_6 ne138_6 ce138_6] 27]) [.ix,.g [.X (iw ae138),.X (iw be138),.X (iw ce138),.X (iw de138),.X (.slice Ae138_4 ne138_4 ce138_4),.X (.string te138),.X (.slice Ae138_6 ne138_6 ce138_6)],.g [.N],.g [.K 4 0,.K 4 1,.K 4 2,.K 4 3,.K 4 4,.K 4 5,.K 4 6]] (fun b137 => (ex1 (And.intro je138 ze138) (ex1 (cell0 (he138 0 _ rfl)) (ex1 (he138 (1) _ rfl) (ex1 (he138 (2) _ rfl) (ex1 (he138 (3) _ rfl) (ex1 (he138 (4) _ rfl) (ex1 (he138 (5) _ rfl) (ex1 (he138 (6) _ rfl) ex0))))))))) rfl (fun b137 => (en rfl ?_))
        refine st [0,1,2,4] [9] 10 ?_
        refine tx 5 [(0,gz),(1,.g [.K 2 6]),(2,.g [.X (.func (.func 31) #[] #[pt p0 0,pt p1 0,pt p2 0,pt p3 0])]),(3,.g [.K 3 0,.K 3 1,.K 3 2,.K 3 3,.K 3 4,.K 3 5,.K 3 6]),(4,gz)] [(1,.bool bb_0),(5,pt p3 0),(8,pt (b1+1) 0),(9,pt b127 0),(68,.slice Aa_6 na_6 ca_6),(69,iw ((na_6 : Nat) : Int)),(70,iw zL132_70),(75,.slice AL132r3 nL132r3 cL132r3),(76,.func (.func 31) #[] #[pt p0 0,pt p1 0,pt p2 0,pt p3 0]),(77,.agg #[iw ae138,iw be138,iw ce138,iw de138,.slice Ae138_4 ne138_4 ce138_4,.string te138,.slice Ae138_6 ne138_6 ce138_6]),(78,.bool bb_0)] (ex1 (Pre.cell (Pre.mono le134 hp3) 0 rfl) ex0) rfl ?_
        refine on 5 4 rfl (ca (some 79) (ih kse138.depth (by omega) H133 ae138 be138 ce138 de138 Ae138_4 (ne138_4) (ce138_4) se138 te138 Ae138_6 (ne138_6) (ce138_6) kse138 bb_0 p0 zt_0 zt_1 zt_2 p1 p2 p3 fe138_4 txe138 fe138_6 (Pre.mono le134 hp0) (Pre.mono le134 hp1) (Pre.mono le134 hp2) (Pre.mono le134 hp3) (bnds_hd XL132_1) (Nat.le_refl _)) ?_)
        rintro v139 H140 k142 le141 ⟨zra_0y143,zra_1y143,zra_2y143,zra_3y143,Ara_4y143,nra_4y143,cra_4y143,gra_4y143,sra_5y143,Ara_6y143,nra_6y143,cra_6y143,kra_6y143,rfl,hra_4y143,tra_5y143,hra_6y143,py143_0⟩
        have lhra_4y143 := hra_4y143.2.1
        have mhra_4y143 := hra_4y143.1
        have lhra_6y143 := hra_6y143.2.1
        have mhra_6y143 := hra_6y143.1
        refine ws [0,1,2,4] le141 ?_
        refine on 6 3 rfl (e4 (.g [.N]) (fun b144 => [(1,.bool bb_0),(5,pt p3 0),(8,pt (b1+1) 0),(9,pt b127 0),(68,.slice Aa_6 na_6 ca_6),(69,iw ((na_6 : Nat) : Int)),(70,iw zL132_70),(75,.slice AL132r3 nL132r3 cL132r3),(80,sl b144 0 1 1)]) (fun b144 => [.blk b1 [iw za_0,iw za_1,iw za_2,iw za_3,.slice Aa_4 na_4 ca_4,.string sa_5,.slice Aa_6 na_6 ca_6] 27,.blk (b1+1) [iw 0,iw 0,iw 0,iw 0,n0,s0,n0] 27,.blk b127 [iw 6,iw 0,iw 0,iw 0,n0,s0,.slice AL132r3 nL132r3 cL132r3] 27,.row (.slice AL132r3 nL132r3 cL132r3) nL132r3 7 27 xL132r3,.blk b137 [iw ae138,iw be138,iw ce138,iw de138,.slice Ae138_4 ne138_4 ce138_4,.string te138,.slice Ae138_6 ne138_6 ce138_6] 27,.blk b144 [iw zra_0y143,iw zra_1y143,iw zra_2y143,iw zra_3y143,.slice Ara_4y143 nra_4y143 cra_4y143,.string sra_5y143,.slice Ara_6y143 nra_6y143 cra_6y143] 27]) (fun b144 => ?_))
        refine ws [0,1,2,4] le141 ?_
        refine on 7 2 rfl (Eff.appendN (t := 25) (d := some 81) (ad := ⟨b144,0,none⟩) (m := 1) (c := 1) 3 rfl (by kernel_rfl) 100000000 (by kernel_rfl) (by omega) rfl [iw zra_0y143,iw zra_1y143,iw zra_2y143,iw zra_3y143,.slice Ara_4y143 nra_4y143 cra_4y143,.string sra_5y143,.slice Ara_6y143 nra_6y143 cra_6y143] (reads_blk (cs := [iw zra_0y143,iw zra_1y143,iw zra_2y143,iw zra_3y143,.slice Ara_4y143 nra_4y143 cra_4y143,.string sra_5y143,.slice Ara_6y143 nra_6y143 cra_6y143]) 5 rfl 0 7) rfl rfl (by omega) (fun g145 cap146 => ?_))
        have E148 : RowPs H140 (KL132r3.snoc (PT.node zra_0y143 zra_1y143 zra_2y143 zra_3y143 gra_4y143 sra_5y143 kra_6y143)) (xL132r3 ++ [iw zra_0y143,iw zra_1y143,iw zra_2y143,iw zra_3y143,.slice Ara_4y143 nra_4y143 cra_4y143,.string sra_5y143,.slice Ara_6y143 nra_6y143 cra_6y143]) := (RowPs.snoc (RowPs.mono le141 EL132r3) (PredIs.mk hra_4y143 tra_5y143 hra_6y143))
        generalize (xL132r3 ++ [iw zra_0y143,iw zra_1y143,iw zra_2y143,iw zra_3y143,.slice Ara_4y143 nra_4y143 cra_4y143,.string sra_5y143,.slice Ara_6y143 nra_6y143 cra_6y143]) = x147 at E148 ⊢
        refine ws [0,1,2,4] le141 ?_
        refine tk 1 [(8,gz)] [(1,.bool bb_0),(5,pt p3 0),(8,pt (b1+1) 0),(9,pt b127 0),(68,.slice Aa_6 na_6 ca_6),(69,iw ((na_6 : Nat) : Int)),(70,iw zL132_70),(81,.slice ((some ⟨g145,0,none⟩)) ((nL132r3 + 1)) cap146),(82,pt b127 6)] rfl ?_
        refine Ok.toE (ol 9 0 rfl (e1 (.g [.K 2 6]) [(1,.bool bb_0),(5,pt p3 0),(8,pt (b1+1) 0),(9,pt b127 0),(68,.slice Aa_6 na_6 ca_6),(69,iw ((na_6 : Nat) : Int)),(70,iw zL132_70)] [.blk b1 [iw za_0,iw za_1,iw za_2,iw za_3,.slice Aa_4 na_4 ca_4,.string sa_5,.slice Aa_6 na_6 ca_6] 27,.blk (b1+1) [iw 0,iw 0,iw 0,iw 0,n0,s0,n0] 27,.blk b127 [iw 6,iw 0,iw 0,iw 0,n0,s0,.slice ((some ⟨g145,0,none⟩)) ((nL132r3 + 1)) cap146] 27,.row (.slice ((some ⟨g145,0,none⟩)) ((nL132r3 + 1)) cap146) ((nL132r3 + 1)) 7 27 x147,.blk b137 [iw ae138,iw be138,iw ce138,iw de138,.slice Ae138_4 ne138_4 ce138_4,.string te138,.slice Ae138_6 ne138_6 ce138_6] 27,.blk b144 [iw zra_0y143,iw zra_1y143,iw zra_2y143,iw zra_3y143,.slice Ara_4y143 nra_4y143 cra_4y143,.string sra_5y143,.slice Ara_6y143 nra_6y143 cra_6y143] 27] ?_))
        refine Ok.doneE (by kernel_rfl) ?_
        refine Ok.blkN (Ok.thenN (Ok.reg ?_))
        have k152 := wid (x := zL132_70 + 1) (by omega)
        refine g0 2 [(1,.bool bb_0),(5,pt p3 0),(8,pt (b1+1) 0),(9,pt b127 0),(68,.slice Aa_6 na_6 ca_6),(69,iw ((na_6 : Nat) : Int)),(70,iw (w64 (zL132_70 + 1)))] [gz,gz] rfl (en rfl (Ok.restr [1,5,8,9,68,69,70] [(1,.bool bb_0),(5,pt p3 0),(8,pt (b1+1) 0),(9,pt b127 0),(68,.slice Aa_6 na_6 ca_6),(69,iw ((na_6 : Nat) : Int)),(70,iw (w64 (zL132_70 + 1)))] rfl (Ok.mask [true,true,true,true,false,false] [.blk b1 [iw za_0,iw za_1,iw za_2,iw za_3,.slice Aa_4 na_4 ca_4,.string sa_5,.slice Aa_6 na_6 ca_6] 27,.blk (b1+1) [iw 0,iw 0,iw 0,iw 0,n0,s0,n0] 27,.blk b127 [iw 6,iw 0,iw 0,iw 0,n0,s0,.slice ((some ⟨g145,0,none⟩)) ((nL132r3 + 1)) cap146] 27,.row (.slice ((some ⟨g145,0,none⟩)) ((nL132r3 + 1)) cap146) ((nL132r3 + 1)) 7 27 x147] rfl ?_)))
        exact Ok.again _ ⟨(w64 (zL132_70 + 1)),((some ⟨g145,0,none⟩)),(nL132r3 + 1),cap146,x147,(KL132r3.snoc (PT.node zra_0y143 zra_1y143 zra_2y143 zra_3y143 gra_4y143 sra_5y143 kra_6y143)),re138,rfl,rfl,rfl,(tr le134 le141),by omega,by omega,by omega,by omega,by omega,by omega,E148,(PTs.snoc_len _ LL132r3),(KidsAt.cast (KidsAt.mono le141 ne138) (by omega)),(by rw [PTs.snoc_app,py143_0,← PTs.prs_cons]; exact XL132_0),(bnds_tl XL132_1)⟩ (by omega)
      have h136 := of_decide_eq_false h136
      refine Ok.exit_ (Ok.thenE (Ok.thenE (Ok.blkE (Ok.thenN (sr (g1 2 [(8,pt (b1+1) 0)] [.blk b1 [iw za_0,iw za_1,iw za_2,iw za_3,.slice Aa_4 na_4 ca_4,.string sa_5,.slice Aa_6 na_6 ca_6] 27,.blk (b1+1) [iw 6,iw 0,iw 0,iw 0,n0,s0,.slice AL132r3 nL132r3 cL132r3] 27,.blk b127 [iw 6,iw 0,iw 0,iw 0,n0,s0,.slice AL132r3 nL132r3 cL132r3] 27,.row (.slice AL132r3 nL132r3 cL132r3) nL132r3 7 27 xL132r3] [.g [.K 2 0,.K 2 1,.K 2 2,.K 2 3,.K 2 4,.K 2 5,.K 2 6],.g [.K 1 0,.K 1 1,.K 1 2,.K 1 3,.K 1 4,.K 1 5,.K 1 6]] rfl (en rfl (Ok.ret_ (Ok.blkR (Ok.thenR (Ok.pubK (ks := KL132r3) 3 rfl EL132r3 LL132r3 (by omega) [.blk b1 [iw za_0,iw za_1,iw za_2,iw za_3,.slice Aa_4 na_4 ca_4,.string sa_5,.slice Aa_6 na_6 ca_6] 27,.blk (b1+1) [iw 6,iw 0,iw 0,iw 0,n0,s0,.slice AL132r3 nL132r3 cL132r3] 27,.blk b127 [iw 6,iw 0,iw 0,iw 0,n0,s0,.slice AL132r3 nL132r3 cL132r3] 27] rfl ?_)))))))))))
      intro H154 le155 f156
      have lf156 := f156.2.1
      have mf156 := f156.1
      exact Ok.ret1c (tr le134 le155) [.K 1 0,.K 1 1,.K 1 2,.K 1 3,.K 1 4,.K 1 5,.K 1 6] (.agg #[iw 6,iw 0,iw 0,iw 0,n0,s0,.slice AL132r3 nL132r3 cL132r3]) [b1+1,b1+1,b1+1,b1+1,b1+1,b1+1,b1+1] rfl (by kernel_rfl) ⟨6,0,0,0,none,0,0,[],(⟨#[]⟩ : ByteArray),AL132r3,nL132r3,cL132r3,KL132r3,rfl,(LstIs.nil _ _ _),(by decide),f156,(by rw [pr_kids (by omega) XL132_0 (by omega) (x := 6) (by simp_all)])⟩
    have h129 := ne_of_beq_false h129
    refine skn (Ok.seq (sr (g0 4 [(1,.bool bb_0),(5,pt p3 0),(8,pt (b1+1) 0),(9,pt b127 0),(68,.slice Aa_6 na_6 ca_6),(69,iw ((na_6 : Nat) : Int)),(70,iw 0)] [gz,.g [.K 0 6],gz,gz] rfl (en rfl (Ok.blk (Ok.nilRow 7 27 (Ok.restr [1,5,8,9,68,69,70] [(1,.bool bb_0),(5,pt p3 0),(8,pt (b1+1) 0),(9,pt b127 0),(68,.slice Aa_6 na_6 ca_6),(69,iw ((na_6 : Nat) : Int)),(70,iw 0)] rfl (Ok.loop (fun H' fr kb m => ∃ (zL158_70 : Int) (AL158r3 : Option Addr) (nL158r3 : Nat) (cL158r3 : Nat) (xL158r3 : List Value) (KL158r3 : PTs) (RL158 : PTs),fr = [(1,.bool bb_0),(5,pt p3 0),(8,pt (b1+1) 0),(9,pt b127 0),(68,.slice Aa_6 na_6 ca_6),(69,iw ((na_6 : Nat) : Int)),(70,iw zL158_70)] ∧ kb = [.blk b1 [iw za_0,iw za_1,iw za_2,iw za_3,.slice Aa_4 na_4 ca_4,.string sa_5,.slice Aa_6 na_6 ca_6] 27,.blk (b1+1) [iw 0,iw 0,iw 0,iw 0,n0,s0,n0] 27,.blk b127 [iw 5,iw 0,iw 0,iw 0,n0,s0,.slice AL158r3 nL158r3 cL158r3] 27,.row (.slice AL158r3 nL158r3 cL158r3) nL158r3 7 27 xL158r3] ∧ m = ((((na_6 : Nat) : Int)) - zL158_70).toNat ∧ SLe H H' ∧ 0 ≤ zL158_70 ∧ zL158_70 ≤ ((na_6 : Nat) : Int) ∧ ka_6.len ≤ 16 ∧ ((nL158r3 : Nat) : Int) ≤ zL158_70 ∧ zL158_70 + ((RL158.len : Nat) : Int) = ((na_6 : Nat) : Int) ∧ RL158.depth ≤ ka_6.depth ∧ RowPs H' KL158r3 xL158r3 ∧ nL158r3 = KL158r3.len ∧ KidsAt H' RL158 Aa_6 (zL158_70).toNat ∧ KL158r3.app (RL158.prs zt_1 bb_0) = ka_6.prs zt_1 bb_0 ∧ RL158.bnds) _ ⟨0,none,0,0,[],PTs.nil,ka_6,rfl,rfl,rfl,SLe.refl _,by decide,by omega,by omega,by omega,by omega,by omega,RowPs.nil,rfl,ha_6.2.2,rfl,(bnd_kids hq0)⟩ ?_))))))))
    rintro H159 _ _ mL158 ⟨zL158_70,AL158r3,nL158r3,cL158r3,xL158r3,KL158r3,RL158,rfl,rfl,hmL158,le160,fL158_0,fL158_1,fL158_2,fL158_3,fL158_4,fL158_5,EL158r3,LL158r3,QL158,XL158_0,XL158_1⟩
    refine sr (g0 1 [(1,.bool bb_0),(5,pt p3 0),(8,pt (b1+1) 0),(9,pt b127 0),(68,.slice Aa_6 na_6 ca_6),(69,iw ((na_6 : Nat) : Int)),(70,iw zL158_70),(71,.bool (decide (zL158_70 < ((na_6 : Nat) : Int))))] [gz] rfl (en rfl (Ok.seq (cd (decide (zL158_70 < ((na_6 : Nat) : Int))) (fun h162 => ?_) (fun h162 => ?_)))))
    · have h162 := of_decide_eq_true h162
      refine skn (Ok.seq (Ok.blk (sr ?_)))
      have ie164 : 0 < RL158.len := by omega
      have ze164 : 0 ≤ zL158_70 ∧ zL158_70 < ((na_6 : Nat) : Int) := by omega
      obtain ⟨ke164,re164,rfl⟩ := PTs.open_ ie164
      obtain ⟨je164,⟨cse164,we164,he164⟩,ne164⟩ := (QL158).cons
      obtain ⟨ae164,be164,ce164,de164,se164,te164,kse164,rfl⟩ := PTs.node_ ke164
      obtain ⟨Ae164_4,ne164_4,ce164_4,Ae164_6,ne164_6,ce164_6,rfl,fe164_4,txe164,fe164_6⟩ := we164.open_
      have xe164 := PTs.len_cons (PT.node ae164 be164 ce164 de164 se164 te164 kse164) re164
      have ye164 := PTs.depth1 ae164 be164 ce164 de164 se164 te164 kse164 re164
      have ve164 := PTs.depth2 (PT.node ae164 be164 ce164 de164 se164 te164 kse164) re164
      have lfe164_4 := fe164_4.2.1
      have mfe164_4 := fe164_4.1
      have lfe164_6 := fe164_6.2.1
      have mfe164_6 := fe164_6.1
      refine g5 4 (fun b163 => [(1,.bool bb_0),(5,pt p3 0),(8,pt (b1+1) 0),(9,pt b127 0),(11,pt b163 0),(68,.slice Aa_6 na_6 ca_6),(69,iw ((na_6 : Nat) : Int)),(70,iw zL158_70)]) (fun b163 => [.blk b1 [iw za_0,iw za_1,iw za_2,iw za_3,.slice Aa_4 na_4 ca_4,.string sa_5,.slice Aa_6 na_6 ca_6] 27,.blk (b1+1) [iw 0,iw 0,iw 0,iw 0,n0,s0,n0] 27,.blk b127 [iw 5,iw 0,iw 0,iw 0,n0,s0,.slice AL158r3 nL158r3 cL158r3] 27,.row (.slice AL158r3 nL158r3 cL158r3) nL158r3 7 27 xL158r3,.blk b163 [iw ae164,iw be164,iw ce164,iw de164,.slice Ae164_4 ne164_4 ce164_4,.string te164,.slice Ae164_6 ne164_6 ce164_6] 27]) [.ix,.g [.X (iw ae164),.X (iw be164),.X (iw ce164),.X (iw de164),.X (.slice Ae164_4 ne164_4 ce164_4),.X (.string te164),.X (.slice Ae164_6 ne164_6 ce164_6)],.g [.N],.g [.K 4 0,.K 4 1,.K 4 2,.K 4 3,.K 4 4,.K 4 5,.K 4 6]] (fun b163 => (ex1 (And.intro je164 ze164) (ex1 (cell0 (he164 0 _ rfl)) (ex1 (he164 (1) _ rfl) (ex1 (he164 (2) _ rfl) (ex1 (he164 (3) _ rfl) (ex1 (he164 (4) _ rfl) (ex1 (he164 (5) _ rfl) (ex1 (he164 (6) _ rfl) ex0))))))))) rfl (fun b163 => (en rfl ?_))
      refine st [0,1,2,4] [9] 10 ?_
      refine tx 5 [(0,gz),(1,.g [.K 2 6]),(2,.g [.X (.func (.func 31) #[] #[pt p0 0,pt p1 0,pt p2 0,pt p3 0])]),(3,.g [.K 3 0,.K 3 1,.K 3 2,.K 3 3,.K 3 4,.K 3 5,.K 3 6]),(4,gz)] [(1,.bool bb_0),(5,pt p3 0),(8,pt (b1+1) 0),(9,pt b127 0),(68,.slice Aa_6 na_6 ca_6),(69,iw ((na_6 : Nat) : Int)),(70,iw zL158_70),(75,.slice AL158r3 nL158r3 cL158r3),(76,.func (.func 31) #[] #[pt p0 0,pt p1 0,pt p2 0,pt p3 0]),(77,.agg #[iw ae164,iw be164,iw ce164,iw de164,.slice Ae164_4 ne164_4 ce164_4,.string te164,.slice Ae164_6 ne164_6 ce164_6]),(78,.bool bb_0)] (ex1 (Pre.cell (Pre.mono le160 hp3) 0 rfl) ex0) rfl ?_
      refine on 5 4 rfl (ca (some 79) (ih kse164.depth (by omega) H159 ae164 be164 ce164 de164 Ae164_4 (ne164_4) (ce164_4) se164 te164 Ae164_6 (ne164_6) (ce164_6) kse164 bb_0 p0 zt_0 zt_1 zt_2 p1 p2 p3 fe164_4 txe164 fe164_6 (Pre.mono le160 hp0) (Pre.mono le160 hp1) (Pre.mono le160 hp2) (Pre.mono le160 hp3) (bnds_hd XL158_1) (Nat.le_refl _)) ?_)
      rintro v165 H166 k168 le167 ⟨zra_0y169,zra_1y169,zra_2y169,zra_3y169,Ara_4y169,nra_4y169,cra_4y169,gra_4y169,sra_5y169,Ara_6y169,nra_6y169,cra_6y169,kra_6y169,rfl,hra_4y169,tra_5y169,hra_6y169,py169_0⟩
      have lhra_4y169 := hra_4y169.2.1
      have mhra_4y169 := hra_4y169.1
      have lhra_6y169 := hra_6y169.2.1
      have mhra_6y169 := hra_6y169.1
      refine ws [0,1,2,4] le167 ?_
      refine on 6 3 rfl (e4 (.g [.N]) (fun b170 => [(1,.bool bb_0),(5,pt p3 0),(8,pt (b1+1) 0),(9,pt b127 0),(68,.slice Aa_6 na_6 ca_6),(69,iw ((na_6 : Nat) : Int)),(70,iw zL158_70),(75,.slice AL158r3 nL158r3 cL158r3),(80,sl b170 0 1 1)]) (fun b170 => [.blk b1 [iw za_0,iw za_1,iw za_2,iw za_3,.slice Aa_4 na_4 ca_4,.string sa_5,.slice Aa_6 na_6 ca_6] 27,.blk (b1+1) [iw 0,iw 0,iw 0,iw 0,n0,s0,n0] 27,.blk b127 [iw 5,iw 0,iw 0,iw 0,n0,s0,.slice AL158r3 nL158r3 cL158r3] 27,.row (.slice AL158r3 nL158r3 cL158r3) nL158r3 7 27 xL158r3,.blk b163 [iw ae164,iw be164,iw ce164,iw de164,.slice Ae164_4 ne164_4 ce164_4,.string te164,.slice Ae164_6 ne164_6 ce164_6] 27,.blk b170 [iw zra_0y169,iw zra_1y169,iw zra_2y169,iw zra_3y169,.slice Ara_4y169 nra_4y169 cra_4y169,.string sra_5y169,.slice Ara_6y169 nra_6y169 cra_6y169] 27]) (fun b170 => ?_))
      refine ws [0,1,2,4] le167 ?_
      refine on 7 2 rfl (Eff.appendN (t := 25) (d := some 81) (ad := ⟨b170,0,none⟩) (m := 1) (c := 1) 3 rfl (by kernel_rfl) 100000000 (by kernel_rfl) (by omega) rfl [iw zra_0y169,iw zra_1y169,iw zra_2y169,iw zra_3y169,.slice Ara_4y169 nra_4y169 cra_4y169,.string sra_5y169,.slice Ara_6y169 nra_6y169 cra_6y169] (reads_blk (cs := [iw zra_0y169,iw zra_1y169,iw zra_2y169,iw zra_3y169,.slice Ara_4y169 nra_4y169 cra_4y169,.string sra_5y169,.slice Ara_6y169 nra_6y169 cra_6y169]) 5 rfl 0 7) rfl rfl (by omega) (fun g171 cap172 => ?_))
      have E174 : RowPs H166 (KL158r3.snoc (PT.node zra_0y169 zra_1y169 zra_2y169 zra_3y169 gra_4y169 sra_5y169 kra_6y169)) (xL158r3 ++ [iw zra_0y169,iw zra_1y169,iw zra_2y169,iw zra_3y169,.slice Ara_4y169 nra_4y169 cra_4y169,.string sra_5y169,.slice Ara_6y169 nra_6y169 cra_6y169]) := (RowPs.snoc (RowPs.mono le167 EL158r3) (PredIs.mk hra_4y169 tra_5y169 hra_6y169))
      generalize (xL158r3 ++ [iw zra_0y169,iw zra_1y169,iw zra_2y169,iw zra_3y169,.slice Ara_4y169 nra_4y169 cra_4y169,.string sra_5y169,.slice Ara_6y169 nra_6y169 cra_6y169]) = x173 at E174 ⊢
      refine ws [0,1,2,4] le167 ?_
      refine tk 1 [(8,gz)] [(1,.bool bb_0),(5,pt p3 0),(8,pt (b1+1) 0),(9,pt b127 0),(68,.slice Aa_6 na_6 ca_6),(69,iw ((na_6 : Nat) : Int)),(70,iw zL158_70),(81,.slice ((some ⟨g171,0,none⟩)) ((nL158r3 + 1)) cap172),(82,pt b127 6)] rfl ?_
      refine Ok.toE (ol 9 0 rfl (e1 (.g [.K 2 6]) [(1,.bool bb_0),(5,pt p3 0),(8,pt (b1+1) 0),(9,pt b127 0),(68,.slice Aa_6 na_6 ca_6),(69,iw ((na_6 : Nat) : Int)),(70,iw zL158_70)] [.blk b1 [iw za_0,iw za_1,iw za_2,iw za_3,.slice Aa_4 na_4 ca_4,.string sa_5,.slice Aa_6 na_6 ca_6] 27,.blk (b1+1) [iw 0,iw 0,iw 0,iw 0,n0,s0,n0] 27,.blk b127 [iw 5,iw 0,iw 0,iw 0,n0,s0,.slice ((some ⟨g171,0,none⟩)) ((nL158r3 + 1)) cap172] 27,.row (.slice ((some ⟨g171,0,none⟩)) ((nL158r3 + 1)) cap172) ((nL158r3 + 1)) 7 27 x173,.blk b163 [iw ae164,iw be164,iw ce164,iw de164,.slice Ae164_4 ne164_4 ce164_4,.string te164,.slice Ae164_6 ne164_6 ce164_6] 27,.blk b170 [iw zra_0y169,iw zra_1y169,iw zra_2y169,iw zra_3y169,.slice Ara_4y169 nra_4y169 cra_4y169,.string sra_5y169,.slice Ara_6y169 nra_6y169 cra_6y169] 27] ?_))
      refine Ok.doneE (by kernel_rfl) ?_
      refine Ok.blkN (Ok.thenN (Ok.reg ?_))
      have k178 := wid (x := zL158_70 + 1) (by omega)
      refine g0 2 [(1,.bool bb_0),(5,pt p3 0),(8,pt (b1+1) 0),(9,pt b127 0),(68,.slice Aa_6 na_6 ca_6),(69,iw ((na_6 : Nat) : Int)),(70,iw (w64 (zL158_70 + 1)))] [gz,gz] rfl (en rfl (Ok.restr [1,5,8,9,68,69,70] [(1,.bool bb_0),(5,pt p3 0),(8,pt (b1+1) 0),(9,pt b127 0),(68,.slice Aa_6 na_6 ca_6),(69,iw ((na_6 : Nat) : Int)),(70,iw (w64 (zL158_70 + 1)))] rfl (Ok.mask [true,true,true,true,false,false] [.blk b1 [iw za_0,iw za_1,iw za_2,iw za_3,.slice Aa_4 na_4 ca_4,.string sa_5,.slice Aa_6 na_6 ca_6] 27,.blk (b1+1) [iw 0,iw 0,iw 0,iw 0,n0,s0,n0] 27,.blk b127 [iw 5,iw 0,iw 0,iw 0,n0,s0,.slice ((some ⟨g171,0,none⟩)) ((nL158r3 + 1)) cap172] 27,.row (.slice ((some ⟨g171,0,none⟩)) ((nL158r3 + 1)) cap172) ((nL158r3 + 1)) 7 27 x173] rfl ?_)))
      exact Ok.again _ ⟨(w64 (zL158_70 + 1)),((some ⟨g171,0,none⟩)),(nL158r3 + 1),cap172,x173,(KL158r3.snoc (PT.node zra_0y169 zra_1y169 zra_2y169 zra_3y169 gra_4y169 sra_5y169 kra_6y169)),re164,rfl,rfl,rfl,(tr le160 le167),by omega,by omega,by omega,by omega,by omega,by omega,E174,(PTs.snoc_len _ LL158r3),(KidsAt.cast (KidsAt.mono le167 ne164) (by omega)),(by rw [PTs.snoc_app,py169_0,← PTs.prs_cons]; exact XL158_0),(bnds_tl XL158_1)⟩ (by omega)
    have h162 := of_decide_eq_false h162
    refine Ok.exit_ (Ok.thenE (Ok.thenE (Ok.blkE (Ok.thenN (sr (g1 2 [(8,pt (b1+1) 0)] [.blk b1 [iw za_0,iw za_1,iw za_2,iw za_3,.slice Aa_4 na_4 ca_4,.string sa_5,.slice Aa_6 na_6 ca_6] 27,.blk (b1+1) [iw 5,iw 0,iw 0,iw 0,n0,s0,.slice AL158r3 nL158r3 cL158r3] 27,.blk b127 [iw 5,iw 0,iw 0,iw 0,n0,s0,.slice AL158r3 nL158r3 cL158r3] 27,.row (.slice AL158r3 nL158r3 cL158r3) nL158r3 7 27 xL158r3] [.g [.K 2 0,.K 2 1,.K 2 2,.K 2 3,.K 2 4,.K 2 5,.K 2 6],.g [.K 1 0,.K 1 1,.K 1 2,.K 1 3,.K 1 4,.K 1 5,.K 1 6]] rfl (en rfl (Ok.ret_ (Ok.blkR (Ok.thenR (Ok.pubK (ks := KL158r3) 3 rfl EL158r3 LL158r3 (by omega) [.blk b1 [iw za_0,iw za_1,iw za_2,iw za_3,.slice Aa_4 na_4 ca_4,.string sa_5,.slice Aa_6 na_6 ca_6] 27,.blk (b1+1) [iw 5,iw 0,iw 0,iw 0,n0,s0,.slice AL158r3 nL158r3 cL158r3] 27,.blk b127 [iw 5,iw 0,iw 0,iw 0,n0,s0,.slice AL158r3 nL158r3 cL158r3] 27] rfl ?_)))))))))))
    intro H180 le181 f182
    have lf182 := f182.2.1
    have mf182 := f182.1
    exact Ok.ret1c (tr le160 le181) [.K 1 0,.K 1 1,.K 1 2,.K 1 3,.K 1 4,.K 1 5,.K 1 6] (.agg #[iw 5,iw 0,iw 0,iw 0,n0,s0,.slice AL158r3 nL158r3 cL158r3]) [b1+1,b1+1,b1+1,b1+1,b1+1,b1+1,b1+1] rfl (by kernel_rfl) ⟨5,0,0,0,none,0,0,[],(⟨#[]⟩ : ByteArray),AL158r3,nL158r3,cL158r3,KL158r3,rfl,(LstIs.nil _ _ _),(by decide),f182,(by rw [pr_kids (by omega) XL158_0 (by omega) (x := 5) (by simp_all)])⟩
  have h126 := ne_of_beq_false h126
  refine cF (Ok.reg (g0 2 [(1,.bool bb_0),(5,pt p3 0),(6,pt b1 0),(8,pt (b1+1) 0),(57,.bool (za_0 == 6))] [gz,gz] rfl (en rfl (cd (za_0 == 6) (fun h184 => ?_) (fun h184 => ?_)))))
  · have h184 := eq_of_beq h184
    refine sr (g4 3 (fun b185 => [(1,.bool bb_0),(5,pt p3 0),(6,pt b1 0),(8,pt (b1+1) 0),(9,pt b185 0)]) (fun b185 => [.blk b1 [iw za_0,iw za_1,iw za_2,iw za_3,.slice Aa_4 na_4 ca_4,.string sa_5,.slice Aa_6 na_6 ca_6] 27,.blk (b1+1) [iw 0,iw 0,iw 0,iw 0,n0,s0,n0] 27,.blk b185 [iw 5,iw 0,iw 0,iw 0,n0,s0,n0] 27]) [gz,.g [.N],.g [.K 2 0,.K 2 1,.K 2 2,.K 2 3,.K 2 4,.K 2 5,.K 2 6]] rfl (fun b185 => (en rfl ?_)))
    refine Ok.seq (sr (g0 5 [(1,.bool bb_0),(5,pt p3 0),(6,pt b1 0),(8,pt (b1+1) 0),(9,pt b185 0),(65,.bool ((za_0 == 6) == bb_0))] [gz,.g [.K 0 0],gz,gz,gz] rfl (en rfl (cd ((za_0 == 6) == bb_0) (fun h187 => ?_) (fun h187 => ?_)))))
    · have h187 := eq_of_beq h187
      refine Ok.reg (g1 2 [(1,.bool bb_0),(5,pt p3 0),(6,pt b1 0),(8,pt (b1+1) 0),(9,pt b185 0)] [.blk b1 [iw za_0,iw za_1,iw za_2,iw za_3,.slice Aa_4 na_4 ca_4,.string sa_5,.slice Aa_6 na_6 ca_6] 27,.blk (b1+1) [iw 0,iw 0,iw 0,iw 0,n0,s0,n0] 27,.blk b185 [iw 6,iw 0,iw 0,iw 0,n0,s0,n0] 27] [gz,.g [.K 2 0]] rfl (en rfl (Ok.seq (sr (g0 4 [(1,.bool bb_0),(5,pt p3 0),(8,pt (b1+1) 0),(9,pt b185 0),(68,.slice Aa_6 na_6 ca_6),(69,iw ((na_6 : Nat) : Int)),(70,iw 0)] [gz,.g [.K 0 6],gz,gz] rfl (en rfl (Ok.blk (Ok.nilRow 7 27 (Ok.restr [1,5,8,9,68,69,70] [(1,.bool bb_0),(5,pt p3 0),(8,pt (b1+1) 0),(9,pt b185 0),(68,.slice Aa_6 na_6 ca_6),(69,iw ((na_6 : Nat) : Int)),(70,iw 0)] rfl (Ok.loop (fun H' fr kb m => ∃ (zL190_70 : Int) (AL190r3 : Option Addr) (nL190r3 : Nat) (cL190r3 : Nat) (xL190r3 : List Value) (KL190r3 : PTs) (RL190 : PTs),fr = [(1,.bool bb_0),(5,pt p3 0),(8,pt (b1+1) 0),(9,pt b185 0),(68,.slice Aa_6 na_6 ca_6),(69,iw ((na_6 : Nat) : Int)),(70,iw zL190_70)] ∧ kb = [.blk b1 [iw za_0,iw za_1,iw za_2,iw za_3,.slice Aa_4 na_4 ca_4,.string sa_5,.slice Aa_6 na_6 ca_6] 27,.blk (b1+1) [iw 0,iw 0,iw 0,iw 0,n0,s0,n0] 27,.blk b185 [iw 6,iw 0,iw 0,iw 0,n0,s0,.slice AL190r3 nL190r3 cL190r3] 27,.row (.slice AL190r3 nL190r3 cL190r3) nL190r3 7 27 xL190r3] ∧ m = ((((na_6 : Nat) : Int)) - zL190_70).toNat ∧ SLe H H' ∧ 0 ≤ zL190_70 ∧ zL190_70 ≤ ((na_6 : Nat) : Int) ∧ ka_6.len ≤ 16 ∧ ((nL190r3 : Nat) : Int) ≤ zL190_70 ∧ zL190_70 + ((RL190.len : Nat) : Int) = ((na_6 : Nat) : Int) ∧ RL190.depth ≤ ka_6.depth ∧ RowPs H' KL190r3 xL190r3 ∧ nL190r3 = KL190r3.len ∧ KidsAt H' RL190 Aa_6 (zL190_70).toNat ∧ KL190r3.app (RL190.prs zt_1 bb_0) = ka_6.prs zt_1 bb_0 ∧ RL190.bnds) _ ⟨0,none,0,0,[],PTs.nil,ka_6,rfl,rfl,rfl,SLe.refl _,by decide,by omega,by omega,by omega,by omega,by omega,RowPs.nil,rfl,ha_6.2.2,rfl,(bnd_kids hq0)⟩ ?_))))))))))
      rintro H191 _ _ mL190 ⟨zL190_70,AL190r3,nL190r3,cL190r3,xL190r3,KL190r3,RL190,rfl,rfl,hmL190,le192,fL190_0,fL190_1,fL190_2,fL190_3,fL190_4,fL190_5,EL190r3,LL190r3,QL190,XL190_0,XL190_1⟩
      refine sr (g0 1 [(1,.bool bb_0),(5,pt p3 0),(8,pt (b1+1) 0),(9,pt b185 0),(68,.slice Aa_6 na_6 ca_6),(69,iw ((na_6 : Nat) : Int)),(70,iw zL190_70),(71,.bool (decide (zL190_70 < ((na_6 : Nat) : Int))))] [gz] rfl (en rfl (Ok.seq (cd (decide (zL190_70 < ((na_6 : Nat) : Int))) (fun h194 => ?_) (fun h194 => ?_)))))
      · have h194 := of_decide_eq_true h194
        refine skn (Ok.seq (Ok.blk (sr ?_)))
        have ie196 : 0 < RL190.len := by omega
        have ze196 : 0 ≤ zL190_70 ∧ zL190_70 < ((na_6 : Nat) : Int) := by omega
        obtain ⟨ke196,re196,rfl⟩ := PTs.open_ ie196
        obtain ⟨je196,⟨cse196,we196,he196⟩,ne196⟩ := (QL190).cons
        obtain ⟨ae196,be196,ce196,de196,se196,te196,kse196,rfl⟩ := PTs.node_ ke196
        obtain ⟨Ae196_4,ne196_4,ce196_4,Ae196_6,ne196_6,ce196_6,rfl,fe196_4,txe196,fe196_6⟩ := we196.open_
        have xe196 := PTs.len_cons (PT.node ae196 be196 ce196 de196 se196 te196 kse196) re196
        have ye196 := PTs.depth1 ae196 be196 ce196 de196 se196 te196 kse196 re196
        have ve196 := PTs.depth2 (PT.node ae196 be196 ce196 de196 se196 te196 kse196) re196
        have lfe196_4 := fe196_4.2.1
        have mfe196_4 := fe196_4.1
        have lfe196_6 := fe196_6.2.1
        have mfe196_6 := fe196_6.1
        refine g5 4 (fun b195 => [(1,.bool bb_0),(5,pt p3 0),(8,pt (b1+1) 0),(9,pt b185 0),(11,pt b195 0),(68,.slice Aa_6 na_6 ca_6),(69,iw ((na_6 : Nat) : Int)),(70,iw zL190_70)]) (fun b195 => [.blk b1 [iw za_0,iw za_1,iw za_2,iw za_3,.slice Aa_4 na_4 ca_4,.string sa_5,.slice Aa_6 na_6 ca_6] 27,.blk (b1+1) [iw 0,iw 0,iw 0,iw 0,n0,s0,n0] 27,.blk b185 [iw 6,iw 0,iw 0,iw 0,n0,s0,.slice AL190r3 nL190r3 cL190r3] 27,.row (.slice AL190r3 nL190r3 cL190r3) nL190r3 7 27 xL190r3,.blk b195 [iw ae196,iw be196,iw ce196,iw de196,.slice Ae196_4 ne196_4 ce196_4,.string te196,.slice Ae196_6 ne196_6 ce196_6] 27]) [.ix,.g [.X (iw ae196),.X (iw be196),.X (iw ce196),.X (iw de196),.X (.slice Ae196_4 ne196_4 ce196_4),.X (.string te196),.X (.slice Ae196_6 ne196_6 ce196_6)],.g [.N],.g [.K 4 0,.K 4 1,.K 4 2,.K 4 3,.K 4 4,.K 4 5,.K 4 6]] (fun b195 => (ex1 (And.intro je196 ze196) (ex1 (cell0 (he196 0 _ rfl)) (ex1 (he196 (1) _ rfl) (ex1 (he196 (2) _ rfl) (ex1 (he196 (3) _ rfl) (ex1 (he196 (4) _ rfl) (ex1 (he196 (5) _ rfl) (ex1 (he196 (6) _ rfl) ex0))))))))) rfl (fun b195 => (en rfl ?_))
        refine st [0,1,2,4] [9] 10 ?_
        refine tx 5 [(0,gz),(1,.g [.K 2 6]),(2,.g [.X (.func (.func 31) #[] #[pt p0 0,pt p1 0,pt p2 0,pt p3 0])]),(3,.g [.K 3 0,.K 3 1,.K 3 2,.K 3 3,.K 3 4,.K 3 5,.K 3 6]),(4,gz)] [(1,.bool bb_0),(5,pt p3 0),(8,pt (b1+1) 0),(9,pt b185 0),(68,.slice Aa_6 na_6 ca_6),(69,iw ((na_6 : Nat) : Int)),(70,iw zL190_70),(75,.slice AL190r3 nL190r3 cL190r3),(76,.func (.func 31) #[] #[pt p0 0,pt p1 0,pt p2 0,pt p3 0]),(77,.agg #[iw ae196,iw be196,iw ce196,iw de196,.slice Ae196_4 ne196_4 ce196_4,.string te196,.slice Ae196_6 ne196_6 ce196_6]),(78,.bool bb_0)] (ex1 (Pre.cell (Pre.mono le192 hp3) 0 rfl) ex0) rfl ?_
        refine on 5 4 rfl (ca (some 79) (ih kse196.depth (by omega) H191 ae196 be196 ce196 de196 Ae196_4 (ne196_4) (ce196_4) se196 te196 Ae196_6 (ne196_6) (ce196_6) kse196 bb_0 p0 zt_0 zt_1 zt_2 p1 p2 p3 fe196_4 txe196 fe196_6 (Pre.mono le192 hp0) (Pre.mono le192 hp1) (Pre.mono le192 hp2) (Pre.mono le192 hp3) (bnds_hd XL190_1) (Nat.le_refl _)) ?_)
        rintro v197 H198 k200 le199 ⟨zra_0y201,zra_1y201,zra_2y201,zra_3y201,Ara_4y201,nra_4y201,cra_4y201,gra_4y201,sra_5y201,Ara_6y201,nra_6y201,cra_6y201,kra_6y201,rfl,hra_4y201,tra_5y201,hra_6y201,py201_0⟩
        have lhra_4y201 := hra_4y201.2.1
        have mhra_4y201 := hra_4y201.1
        have lhra_6y201 := hra_6y201.2.1
        have mhra_6y201 := hra_6y201.1
        refine ws [0,1,2,4] le199 ?_
        refine on 6 3 rfl (e4 (.g [.N]) (fun b202 => [(1,.bool bb_0),(5,pt p3 0),(8,pt (b1+1) 0),(9,pt b185 0),(68,.slice Aa_6 na_6 ca_6),(69,iw ((na_6 : Nat) : Int)),(70,iw zL190_70),(75,.slice AL190r3 nL190r3 cL190r3),(80,sl b202 0 1 1)]) (fun b202 => [.blk b1 [iw za_0,iw za_1,iw za_2,iw za_3,.slice Aa_4 na_4 ca_4,.string sa_5,.slice Aa_6 na_6 ca_6] 27,.blk (b1+1) [iw 0,iw 0,iw 0,iw 0,n0,s0,n0] 27,.blk b185 [iw 6,iw 0,iw 0,iw 0,n0,s0,.slice AL190r3 nL190r3 cL190r3] 27,.row (.slice AL190r3 nL190r3 cL190r3) nL190r3 7 27 xL190r3,.blk b195 [iw ae196,iw be196,iw ce196,iw de196,.slice Ae196_4 ne196_4 ce196_4,.string te196,.slice Ae196_6 ne196_6 ce196_6] 27,.blk b202 [iw zra_0y201,iw zra_1y201,iw zra_2y201,iw zra_3y201,.slice Ara_4y201 nra_4y201 cra_4y201,.string sra_5y201,.slice Ara_6y201 nra_6y201 cra_6y201] 27]) (fun b202 => ?_))
        refine ws [0,1,2,4] le199 ?_
        refine on 7 2 rfl (Eff.appendN (t := 25) (d := some 81) (ad := ⟨b202,0,none⟩) (m := 1) (c := 1) 3 rfl (by kernel_rfl) 100000000 (by kernel_rfl) (by omega) rfl [iw zra_0y201,iw zra_1y201,iw zra_2y201,iw zra_3y201,.slice Ara_4y201 nra_4y201 cra_4y201,.string sra_5y201,.slice Ara_6y201 nra_6y201 cra_6y201] (reads_blk (cs := [iw zra_0y201,iw zra_1y201,iw zra_2y201,iw zra_3y201,.slice Ara_4y201 nra_4y201 cra_4y201,.string sra_5y201,.slice Ara_6y201 nra_6y201 cra_6y201]) 5 rfl 0 7) rfl rfl (by omega) (fun g203 cap204 => ?_))
        have E206 : RowPs H198 (KL190r3.snoc (PT.node zra_0y201 zra_1y201 zra_2y201 zra_3y201 gra_4y201 sra_5y201 kra_6y201)) (xL190r3 ++ [iw zra_0y201,iw zra_1y201,iw zra_2y201,iw zra_3y201,.slice Ara_4y201 nra_4y201 cra_4y201,.string sra_5y201,.slice Ara_6y201 nra_6y201 cra_6y201]) := (RowPs.snoc (RowPs.mono le199 EL190r3) (PredIs.mk hra_4y201 tra_5y201 hra_6y201))
        generalize (xL190r3 ++ [iw zra_0y201,iw zra_1y201,iw zra_2y201,iw zra_3y201,.slice Ara_4y201 nra_4y201 cra_4y201,.string sra_5y201,.slice Ara_6y201 nra_6y201 cra_6y201]) = x205 at E206 ⊢
        refine ws [0,1,2,4] le199 ?_
        refine tk 1 [(8,gz)] [(1,.bool bb_0),(5,pt p3 0),(8,pt (b1+1) 0),(9,pt b185 0),(68,.slice Aa_6 na_6 ca_6),(69,iw ((na_6 : Nat) : Int)),(70,iw zL190_70),(81,.slice ((some ⟨g203,0,none⟩)) ((nL190r3 + 1)) cap204),(82,pt b185 6)] rfl ?_
        refine Ok.toE (ol 9 0 rfl (e1 (.g [.K 2 6]) [(1,.bool bb_0),(5,pt p3 0),(8,pt (b1+1) 0),(9,pt b185 0),(68,.slice Aa_6 na_6 ca_6),(69,iw ((na_6 : Nat) : Int)),(70,iw zL190_70)] [.blk b1 [iw za_0,iw za_1,iw za_2,iw za_3,.slice Aa_4 na_4 ca_4,.string sa_5,.slice Aa_6 na_6 ca_6] 27,.blk (b1+1) [iw 0,iw 0,iw 0,iw 0,n0,s0,n0] 27,.blk b185 [iw 6,iw 0,iw 0,iw 0,n0,s0,.slice ((some ⟨g203,0,none⟩)) ((nL190r3 + 1)) cap204] 27,.row (.slice ((some ⟨g203,0,none⟩)) ((nL190r3 + 1)) cap204) ((nL190r3 + 1)) 7 27 x205,.blk b195 [iw ae196,iw be196,iw ce196,iw de196,.slice Ae196_4 ne196_4 ce196_4,.string te196,.slice Ae196_6 ne196_6 ce196_6] 27,.blk b202 [iw zra_0y201,iw zra_1y201,iw zra_2y201,iw zra_3y201,.slice Ara_4y201 nra_4y201 cra_4y201,.string sra_5y201,.slice Ara_6y201 nra_6y201 cra_6y201] 27] ?_))
        refine Ok.doneE (by kernel_rfl) ?_
        refine Ok.blkN (Ok.thenN (Ok.reg ?_))
        have k210 := wid (x := zL190_70 + 1) (by omega)
        refine g0 2 [(1,.bool bb_0),(5,pt p3 0),(8,pt (b1+1) 0),(9,pt b185 0),(68,.slice Aa_6 na_6 ca_6),(69,iw ((na_6 : Nat) : Int)),(70,iw (w64 (zL190_70 + 1)))] [gz,gz] rfl (en rfl (Ok.restr [1,5,8,9,68,69,70] [(1,.bool bb_0),(5,pt p3 0),(8,pt (b1+1) 0),(9,pt b185 0),(68,.slice Aa_6 na_6 ca_6),(69,iw ((na_6 : Nat) : Int)),(70,iw (w64 (zL190_70 + 1)))] rfl (Ok.mask [true,true,true,true,false,false] [.blk b1 [iw za_0,iw za_1,iw za_2,iw za_3,.slice Aa_4 na_4 ca_4,.string sa_5,.slice Aa_6 na_6 ca_6] 27,.blk (b1+1) [iw 0,iw 0,iw 0,iw 0,n0,s0,n0] 27,.blk b185 [iw 6,iw 0,iw 0,iw 0,n0,s0,.slice ((some ⟨g203,0,none⟩)) ((nL190r3 + 1)) cap204] 27,.row (.slice ((some ⟨g203,0,none⟩)) ((nL190r3 + 1)) cap204) ((nL190r3 + 1)) 7 27 x205] rfl ?_)))
        exact Ok.again _ ⟨(w64 (zL190_70 + 1)),((some ⟨g203,0,none⟩)),(nL190r3 + 1),cap204,x205,(KL190r3.snoc (PT.node zra_0y201 zra_1y201 zra_2y201 zra_3y201 gra_4y201 sra_5y201 kra_6y201)),re196,rfl,rfl,rfl,(tr le192 le199),by omega,by omega,by omega,by omega,by omega,by omega,E206,(PTs.snoc_len _ LL190r3),(KidsAt.cast (KidsAt.mono le199 ne196) (by omega)),(by rw [PTs.snoc_app,py201_0,← PTs.prs_cons]; exact XL190_0),(bnds_tl XL190_1)⟩ (by omega)
      have h194 := of_decide_eq_false h194
      refine Ok.exit_ (Ok.thenE (Ok.thenE (Ok.blkE (Ok.thenN (sr (g1 2 [(8,pt (b1+1) 0)] [.blk b1 [iw za_0,iw za_1,iw za_2,iw za_3,.slice Aa_4 na_4 ca_4,.string sa_5,.slice Aa_6 na_6 ca_6] 27,.blk (b1+1) [iw 6,iw 0,iw 0,iw 0,n0,s0,.slice AL190r3 nL190r3 cL190r3] 27,.blk b185 [iw 6,iw 0,iw 0,iw 0,n0,s0,.slice AL190r3 nL190r3 cL190r3] 27,.row (.slice AL190r3 nL190r3 cL190r3) nL190r3 7 27 xL190r3] [.g [.K 2 0,.K 2 1,.K 2 2,.K 2 3,.K 2 4,.K 2 5,.K 2 6],.g [.K 1 0,.K 1 1,.K 1 2,.K 1 3,.K 1 4,.K 1 5,.K 1 6]] rfl (en rfl (Ok.ret_ (Ok.blkR (Ok.thenR (Ok.pubK (ks := KL190r3) 3 rfl EL190r3 LL190r3 (by omega) [.blk b1 [iw za_0,iw za_1,iw za_2,iw za_3,.slice Aa_4 na_4 ca_4,.string sa_5,.slice Aa_6 na_6 ca_6] 27,.blk (b1+1) [iw 6,iw 0,iw 0,iw 0,n0,s0,.slice AL190r3 nL190r3 cL190r3] 27,.blk b185 [iw 6,iw 0,iw 0,iw 0,n0,s0,.slice AL190r3 nL190r3 cL190r3] 27] rfl ?_)))))))))))
      intro H212 le213 f214
      have lf214 := f214.2.1
      have mf214 := f214.1
      exact Ok.ret1c (tr le192 le213) [.K 1 0,.K 1 1,.K 1 2,.K 1 3,.K 1 4,.K 1 5,.K 1 6] (.agg #[iw 6,iw 0,iw 0,iw 0,n0,s0,.slice AL190r3 nL190r3 cL190r3]) [b1+1,b1+1,b1+1,b1+1,b1+1,b1+1,b1+1] rfl (by kernel_rfl) ⟨6,0,0,0,none,0,0,[],(⟨#[]⟩ : ByteArray),AL190r3,nL190r3,cL190r3,KL190r3,rfl,(LstIs.nil _ _ _),(by decide),f214,(by rw [pr_kids (by omega) XL190_0 (by omega) (x := 6) (by simp_all)])⟩
    have h187 := ne_of_beq_false h187
    refine skn (Ok.seq (sr (g0 4 [(1,.bool bb_0),(5,pt p3 0),(8,pt (b1+1) 0),(9,pt b185 0),(68,.slice Aa_6 na_6 ca_6),(69,iw ((na_6 : Nat) : Int)),(70,iw 0)] [gz,.g [.K 0 6],gz,gz] rfl (en rfl (Ok.blk (Ok.nilRow 7 27 (Ok.restr [1,5,8,9,68,69,70] [(1,.bool bb_0),(5,pt p3 0),(8,pt (b1+1) 0),(9,pt b185 0),(68,.slice Aa_6 na_6 ca_6),(69,iw ((na_6 : Nat) : Int)),(70,iw 0)] rfl (Ok.loop (fun H' fr kb m => ∃ (zL216_70 : Int) (AL216r3 : Option Addr) (nL216r3 : Nat) (cL216r3 : Nat) (xL216r3 : List Value) (KL216r3 : PTs) (RL216 : PTs),fr = [(1,.bool bb_0),(5,pt p3 0),(8,pt (b1+1) 0),(9,pt b185 0),(68,.slice Aa_6 na_6 ca_6),(69,iw ((na_6 : Nat) : Int)),(70,iw zL216_70)] ∧ kb = [.blk b1 [iw za_0,iw za_1,iw za_2,iw za_3,.slice Aa_4 na_4 ca_4,.string sa_5,.slice Aa_6 na_6 ca_6] 27,.blk (b1+1) [iw 0,iw 0,iw 0,iw 0,n0,s0,n0] 27,.blk b185 [iw 5,iw 0,iw 0,iw 0,n0,s0,.slice AL216r3 nL216r3 cL216r3] 27,.row (.slice AL216r3 nL216r3 cL216r3) nL216r3 7 27 xL216r3] ∧ m = ((((na_6 : Nat) : Int)) - zL216_70).toNat ∧ SLe H H' ∧ 0 ≤ zL216_70 ∧ zL216_70 ≤ ((na_6 : Nat) : Int) ∧ ka_6.len ≤ 16 ∧ ((nL216r3 : Nat) : Int) ≤ zL216_70 ∧ zL216_70 + ((RL216.len : Nat) : Int) = ((na_6 : Nat) : Int) ∧ RL216.depth ≤ ka_6.depth ∧ RowPs H' KL216r3 xL216r3 ∧ nL216r3 = KL216r3.len ∧ KidsAt H' RL216 Aa_6 (zL216_70).toNat ∧ KL216r3.app (RL216.prs zt_1 bb_0) = ka_6.prs zt_1 bb_0 ∧ RL216.bnds) _ ⟨0,none,0,0,[],PTs.nil,ka_6,rfl,rfl,rfl,SLe.refl _,by decide,by omega,by omega,by omega,by omega,by omega,RowPs.nil,rfl,ha_6.2.2,rfl,(bnd_kids hq0)⟩ ?_))))))))
    rintro H217 _ _ mL216 ⟨zL216_70,AL216r3,nL216r3,cL216r3,xL216r3,KL216r3,RL216,rfl,rfl,hmL216,le218,fL216_0,fL216_1,fL216_2,fL216_3,fL216_4,fL216_5,EL216r3,LL216r3,QL216,XL216_0,XL216_1⟩
    refine sr (g0 1 [(1,.bool bb_0),(5,pt p3 0),(8,pt (b1+1) 0),(9,pt b185 0),(68,.slice Aa_6 na_6 ca_6),(69,iw ((na_6 : Nat) : Int)),(70,iw zL216_70),(71,.bool (decide (zL216_70 < ((na_6 : Nat) : Int))))] [gz] rfl (en rfl (Ok.seq (cd (decide (zL216_70 < ((na_6 : Nat) : Int))) (fun h220 => ?_) (fun h220 => ?_)))))
    · have h220 := of_decide_eq_true h220
      refine skn (Ok.seq (Ok.blk (sr ?_)))
      have ie222 : 0 < RL216.len := by omega
      have ze222 : 0 ≤ zL216_70 ∧ zL216_70 < ((na_6 : Nat) : Int) := by omega
      obtain ⟨ke222,re222,rfl⟩ := PTs.open_ ie222
      obtain ⟨je222,⟨cse222,we222,he222⟩,ne222⟩ := (QL216).cons
      obtain ⟨ae222,be222,ce222,de222,se222,te222,kse222,rfl⟩ := PTs.node_ ke222
      obtain ⟨Ae222_4,ne222_4,ce222_4,Ae222_6,ne222_6,ce222_6,rfl,fe222_4,txe222,fe222_6⟩ := we222.open_
      have xe222 := PTs.len_cons (PT.node ae222 be222 ce222 de222 se222 te222 kse222) re222
      have ye222 := PTs.depth1 ae222 be222 ce222 de222 se222 te222 kse222 re222
      have ve222 := PTs.depth2 (PT.node ae222 be222 ce222 de222 se222 te222 kse222) re222
      have lfe222_4 := fe222_4.2.1
      have mfe222_4 := fe222_4.1
      have lfe222_6 := fe222_6.2.1
      have mfe222_6 := fe222_6.1
      refine g5 4 (fun b221 => [(1,.bool bb_0),(5,pt p3 0),(8,pt (b1+1) 0),(9,pt b185 0),(11,pt b221 0),(68,.slice Aa_6 na_6 ca_6),(69,iw ((na_6 : Nat) : Int)),(70,iw zL216_70)]) (fun b221 => [.blk b1 [iw za_0,iw za_1,iw za_2,iw za_3,.slice Aa_4 na_4 ca_4,.string sa_5,.slice Aa_6 na_6 ca_6] 27,.blk (b1+1) [iw 0,iw 0,iw 0,iw 0,n0,s0,n0] 27,.blk b185 [iw 5,iw 0,iw 0,iw 0,n0,s0,.slice AL216r3 nL216r3 cL216r3] 27,.row (.slice AL216r3 nL216r3 cL216r3) nL216r3 7 27 xL216r3,.blk b221 [iw ae222,iw be222,iw ce222,iw de222,.slice Ae222_4 ne222_4 ce222_4,.string te222,.slice Ae222_6 ne222_6 ce222_6] 27]) [.ix,.g [.X (iw ae222),.X (iw be222),.X (iw ce222),.X (iw de222),.X (.slice Ae222_4 ne222_4 ce222_4),.X (.string te222),.X (.slice Ae222_6 ne222_6 ce222_6)],.g [.N],.g [.K 4 0,.K 4 1,.K 4 2,.K 4 3,.K 4 4,.K 4 5,.K 4 6]] (fun b221 => (ex1 (And.intro je222 ze222) (ex1 (cell0 (he222 0 _ rfl)) (ex1 (he222 (1) _ rfl) (ex1 (he222 (2) _ rfl) (ex1 (he222 (3) _ rfl) (ex1 (he222 (4) _ rfl) (ex1 (he222 (5) _ rfl) (ex1 (he222 (6) _ rfl) ex0))))))))) rfl (fun b221 => (en rfl ?_))
      refine st [0,1,2,4] [9] 10 ?_
      refine tx 5 [(0,gz),(1,.g [.K 2 6]),(2,.g [.X (.func (.func 31) #[] #[pt p0 0,pt p1 0,pt p2 0,pt p3 0])]),(3,.g [.K 3 0,.K 3 1,.K 3 2,.K 3 3,.K 3 4,.K 3 5,.K 3 6]),(4,gz)] [(1,.bool bb_0),(5,pt p3 0),(8,pt (b1+1) 0),(9,pt b185 0),(68,.slice Aa_6 na_6 ca_6),(69,iw ((na_6 : Nat) : Int)),(70,iw zL216_70),(75,.slice AL216r3 nL216r3 cL216r3),(76,.func (.func 31) #[] #[pt p0 0,pt p1 0,pt p2 0,pt p3 0]),(77,.agg #[iw ae222,iw be222,iw ce222,iw de222,.slice Ae222_4 ne222_4 ce222_4,.string te222,.slice Ae222_6 ne222_6 ce222_6]),(78,.bool bb_0)] (ex1 (Pre.cell (Pre.mono le218 hp3) 0 rfl) ex0) rfl ?_
      refine on 5 4 rfl (ca (some 79) (ih kse222.depth (by omega) H217 ae222 be222 ce222 de222 Ae222_4 (ne222_4) (ce222_4) se222 te222 Ae222_6 (ne222_6) (ce222_6) kse222 bb_0 p0 zt_0 zt_1 zt_2 p1 p2 p3 fe222_4 txe222 fe222_6 (Pre.mono le218 hp0) (Pre.mono le218 hp1) (Pre.mono le218 hp2) (Pre.mono le218 hp3) (bnds_hd XL216_1) (Nat.le_refl _)) ?_)
      rintro v223 H224 k226 le225 ⟨zra_0y227,zra_1y227,zra_2y227,zra_3y227,Ara_4y227,nra_4y227,cra_4y227,gra_4y227,sra_5y227,Ara_6y227,nra_6y227,cra_6y227,kra_6y227,rfl,hra_4y227,tra_5y227,hra_6y227,py227_0⟩
      have lhra_4y227 := hra_4y227.2.1
      have mhra_4y227 := hra_4y227.1
      have lhra_6y227 := hra_6y227.2.1
      have mhra_6y227 := hra_6y227.1
      refine ws [0,1,2,4] le225 ?_
      refine on 6 3 rfl (e4 (.g [.N]) (fun b228 => [(1,.bool bb_0),(5,pt p3 0),(8,pt (b1+1) 0),(9,pt b185 0),(68,.slice Aa_6 na_6 ca_6),(69,iw ((na_6 : Nat) : Int)),(70,iw zL216_70),(75,.slice AL216r3 nL216r3 cL216r3),(80,sl b228 0 1 1)]) (fun b228 => [.blk b1 [iw za_0,iw za_1,iw za_2,iw za_3,.slice Aa_4 na_4 ca_4,.string sa_5,.slice Aa_6 na_6 ca_6] 27,.blk (b1+1) [iw 0,iw 0,iw 0,iw 0,n0,s0,n0] 27,.blk b185 [iw 5,iw 0,iw 0,iw 0,n0,s0,.slice AL216r3 nL216r3 cL216r3] 27,.row (.slice AL216r3 nL216r3 cL216r3) nL216r3 7 27 xL216r3,.blk b221 [iw ae222,iw be222,iw ce222,iw de222,.slice Ae222_4 ne222_4 ce222_4,.string te222,.slice Ae222_6 ne222_6 ce222_6] 27,.blk b228 [iw zra_0y227,iw zra_1y227,iw zra_2y227,iw zra_3y227,.slice Ara_4y227 nra_4y227 cra_4y227,.string sra_5y227,.slice Ara_6y227 nra_6y227 cra_6y227] 27]) (fun b228 => ?_))
      refine ws [0,1,2,4] le225 ?_
      refine on 7 2 rfl (Eff.appendN (t := 25) (d := some 81) (ad := ⟨b228,0,none⟩) (m := 1) (c := 1) 3 rfl (by kernel_rfl) 100000000 (by kernel_rfl) (by omega) rfl [iw zra_0y227,iw zra_1y227,iw zra_2y227,iw zra_3y227,.slice Ara_4y227 nra_4y227 cra_4y227,.string sra_5y227,.slice Ara_6y227 nra_6y227 cra_6y227] (reads_blk (cs := [iw zra_0y227,iw zra_1y227,iw zra_2y227,iw zra_3y227,.slice Ara_4y227 nra_4y227 cra_4y227,.string sra_5y227,.slice Ara_6y227 nra_6y227 cra_6y227]) 5 rfl 0 7) rfl rfl (by omega) (fun g229 cap230 => ?_))
      have E232 : RowPs H224 (KL216r3.snoc (PT.node zra_0y227 zra_1y227 zra_2y227 zra_3y227 gra_4y227 sra_5y227 kra_6y227)) (xL216r3 ++ [iw zra_0y227,iw zra_1y227,iw zra_2y227,iw zra_3y227,.slice Ara_4y227 nra_4y227 cra_4y227,.string sra_5y227,.slice Ara_6y227 nra_6y227 cra_6y227]) := (RowPs.snoc (RowPs.mono le225 EL216r3) (PredIs.mk hra_4y227 tra_5y227 hra_6y227))
      generalize (xL216r3 ++ [iw zra_0y227,iw zra_1y227,iw zra_2y227,iw zra_3y227,.slice Ara_4y227 nra_4y227 cra_4y227,.string sra_5y227,.slice Ara_6y227 nra_6y227 cra_6y227]) = x231 at E232 ⊢
      refine ws [0,1,2,4] le225 ?_
      refine tk 1 [(8,gz)] [(1,.bool bb_0),(5,pt p3 0),(8,pt (b1+1) 0),(9,pt b185 0),(68,.slice Aa_6 na_6 ca_6),(69,iw ((na_6 : Nat) : Int)),(70,iw zL216_70),(81,.slice ((some ⟨g229,0,none⟩)) ((nL216r3 + 1)) cap230),(82,pt b185 6)] rfl ?_
      refine Ok.toE (ol 9 0 rfl (e1 (.g [.K 2 6]) [(1,.bool bb_0),(5,pt p3 0),(8,pt (b1+1) 0),(9,pt b185 0),(68,.slice Aa_6 na_6 ca_6),(69,iw ((na_6 : Nat) : Int)),(70,iw zL216_70)] [.blk b1 [iw za_0,iw za_1,iw za_2,iw za_3,.slice Aa_4 na_4 ca_4,.string sa_5,.slice Aa_6 na_6 ca_6] 27,.blk (b1+1) [iw 0,iw 0,iw 0,iw 0,n0,s0,n0] 27,.blk b185 [iw 5,iw 0,iw 0,iw 0,n0,s0,.slice ((some ⟨g229,0,none⟩)) ((nL216r3 + 1)) cap230] 27,.row (.slice ((some ⟨g229,0,none⟩)) ((nL216r3 + 1)) cap230) ((nL216r3 + 1)) 7 27 x231,.blk b221 [iw ae222,iw be222,iw ce222,iw de222,.slice Ae222_4 ne222_4 ce222_4,.string te222,.slice Ae222_6 ne222_6 ce222_6] 27,.blk b228 [iw zra_0y227,iw zra_1y227,iw zra_2y227,iw zra_3y227,.slice Ara_4y227 nra_4y227 cra_4y227,.string sra_5y227,.slice Ara_6y227 nra_6y227 cra_6y227] 27] ?_))
      refine Ok.doneE (by kernel_rfl) ?_
      refine Ok.blkN (Ok.thenN (Ok.reg ?_))
      have k236 := wid (x := zL216_70 + 1) (by omega)
      refine g0 2 [(1,.bool bb_0),(5,pt p3 0),(8,pt (b1+1) 0),(9,pt b185 0),(68,.slice Aa_6 na_6 ca_6),(69,iw ((na_6 : Nat) : Int)),(70,iw (w64 (zL216_70 + 1)))] [gz,gz] rfl (en rfl (Ok.restr [1,5,8,9,68,69,70] [(1,.bool bb_0),(5,pt p3 0),(8,pt (b1+1) 0),(9,pt b185 0),(68,.slice Aa_6 na_6 ca_6),(69,iw ((na_6 : Nat) : Int)),(70,iw (w64 (zL216_70 + 1)))] rfl (Ok.mask [true,true,true,true,false,false] [.blk b1 [iw za_0,iw za_1,iw za_2,iw za_3,.slice Aa_4 na_4 ca_4,.string sa_5,.slice Aa_6 na_6 ca_6] 27,.blk (b1+1) [iw 0,iw 0,iw 0,iw 0,n0,s0,n0] 27,.blk b185 [iw 5,iw 0,iw 0,iw 0,n0,s0,.slice ((some ⟨g229,0,none⟩)) ((nL216r3 + 1)) cap230] 27,.row (.slice ((some ⟨g229,0,none⟩)) ((nL216r3 + 1)) cap230) ((nL216r3 + 1)) 7 27 x231] rfl ?_)))
      exact Ok.again _ ⟨(w64 (zL216_70 + 1)),((some ⟨g229,0,none⟩)),(nL216r3 + 1),cap230,x231,(KL216r3.snoc (PT.node zra_0y227 zra_1y227 zra_2y227 zra_3y227 gra_4y227 sra_5y227 kra_6y227)),re222,rfl,rfl,rfl,(tr le218 le225),by omega,by omega,by omega,by omega,by omega,by omega,E232,(PTs.snoc_len _ LL216r3),(KidsAt.cast (KidsAt.mono le225 ne222) (by omega)),(by rw [PTs.snoc_app,py227_0,← PTs.prs_cons]; exact XL216_0),(bnds_tl XL216_1)⟩ (by omega)
    have h220 := of_decide_eq_false h220
    refine Ok.exit_ (Ok.thenE (Ok.thenE (Ok.blkE (Ok.thenN (sr (g1 2 [(8,pt (b1+1) 0)] [.blk b1 [iw za_0,iw za_1,iw za_2,iw za_3,.slice Aa_4 na_4 ca_4,.string sa_5,.slice Aa_6 na_6 ca_6] 27,.blk (b1+1) [iw 5,iw 0,iw 0,iw 0,n0,s0,.slice AL216r3 nL216r3 cL216r3] 27,.blk b185 [iw 5,iw 0,iw 0,iw 0,n0,s0,.slice AL216r3 nL216r3 cL216r3] 27,.row (.slice AL216r3 nL216r3 cL216r3) nL216r3 7 27 xL216r3] [.g [.K 2 0,.K 2 1,.K 2 2,.K 2 3,.K 2 4,.K 2 5,.K 2 6],.g [.K 1 0,.K 1 1,.K 1 2,.K 1 3,.K 1 4,.K 1 5,.K 1 6]] rfl (en rfl (Ok.ret_ (Ok.blkR (Ok.thenR (Ok.pubK (ks := KL216r3) 3 rfl EL216r3 LL216r3 (by omega) [.blk b1 [iw za_0,iw za_1,iw za_2,iw za_3,.slice Aa_4 na_4 ca_4,.string sa_5,.slice Aa_6 na_6 ca_6] 27,.blk (b1+1) [iw 5,iw 0,iw 0,iw 0,n0,s0,.slice AL216r3 nL216r3 cL216r3] 27,.blk b185 [iw 5,iw 0,iw 0,iw 0,n0,s0,.slice AL216r3 nL216r3 cL216r3] 27] rfl ?_)))))))))))
    intro H238 le239 f240
    have lf240 := f240.2.1
    have mf240 := f240.1
    exact Ok.ret1c (tr le218 le239) [.K 1 0,.K 1 1,.K 1 2,.K 1 3,.K 1 4,.K 1 5,.K 1 6] (.agg #[iw 5,iw 0,iw 0,iw 0,n0,s0,.slice AL216r3 nL216r3 cL216r3]) [b1+1,b1+1,b1+1,b1+1,b1+1,b1+1,b1+1] rfl (by kernel_rfl) ⟨5,0,0,0,none,0,0,[],(⟨#[]⟩ : ByteArray),AL216r3,nL216r3,cL216r3,KL216r3,rfl,(LstIs.nil _ _ _),(by decide),f240,(by rw [pr_kids (by omega) XL216_0 (by omega) (x := 5) (by simp_all)])⟩
  have h184 := ne_of_beq_false h184
  refine Ok.skip_ (Ok.blkN (Ok.thenN (sr (g0 2 [(8,pt (b1+1) 0)] [gz,.g [.K 1 0,.K 1 1,.K 1 2,.K 1 3,.K 1 4,.K 1 5,.K 1 6]] rfl (en rfl (Ok.ret_ ?_))))))
  exact Ok.ret1c (SLe.refl _) [.K 1 0,.K 1 1,.K 1 2,.K 1 3,.K 1 4,.K 1 5,.K 1 6] (.agg #[iw 0,iw 0,iw 0,iw 0,n0,s0,n0]) [b1+1,b1+1,b1+1,b1+1,b1+1,b1+1,b1+1] rfl (by kernel_rfl) ⟨0,0,0,0,none,0,0,[],(⟨#[]⟩ : ByteArray),none,0,0,PTs.nil,rfl,(LstIs.nil _ _ _),(by decide),(KidsIs.nil _),(by rw [pr_none (by omega)])⟩
theorem c9 (H : Snap) (za_0 : Int) (za_1 : Int) (za_2 : Int) (zb_0 : Int) (zb_1 : Int) (zb_2 : Int) (zb_3 : Int) (Ab_4 : Option Addr) (nb_4 : Nat) (cb_4 : Nat) (gb_4 : List (List Value)) (sb_5 : ByteArray) (Ab_6 : Option Addr) (nb_6 : Nat) (cb_6 : Nat) (kb_6 : PTs) (hb_4 : LstIs H elV Ab_4 nb_4 gb_4) (tb_5 : sb_5.size < 9223372036854775808) (hb_6 : KidsIs H Ab_6 nb_6 kb_6) (hq0 : za_0 = 1 ∨ za_0 = 4) (hq1 : (PT.node zb_0 zb_1 zb_2 zb_3 gb_4 sb_5 kb_6).bnd) : Does Tryz.prog 9 [.agg #[iw za_0,iw za_1,iw za_2],.agg #[iw zb_0,iw zb_1,iw zb_2,iw zb_3,.slice Ab_4 nb_4 cb_4,.string sb_5,.slice Ab_6 nb_6 cb_6]] H [] (fun v H' kp => ∃ (zra_0 : Int) (zra_1 : Int) (zra_2 : Int) (zra_3 : Int) (Ara_4 : Option Addr) (nra_4 : Nat) (cra_4 : Nat) (gra_4 : List (List Value)) (sra_5 : ByteArray) (Ara_6 : Option Addr) (nra_6 : Nat) (cra_6 : Nat) (kra_6 : PTs),v = .agg #[iw zra_0,iw zra_1,iw zra_2,iw zra_3,.slice Ara_4 nra_4 cra_4,.string sra_5,.slice Ara_6 nra_6 cra_6] ∧ LstIs H' elV Ara_4 nra_4 gra_4 ∧ sra_5.size < 9223372036854775808 ∧ KidsIs H' Ara_6 nra_6 kra_6 ∧ (PT.node zra_0 zra_1 zra_2 zra_3 gra_4 sra_5 kra_6) = (PT.node zb_0 zb_1 zb_2 zb_3 gb_4 sb_5 kb_6).pr za_1 true) := by
  have lhb_4 := hb_4.2.1
  have mhb_4 := hb_4.1
  have lhb_6 := hb_6.2.1
  have mhb_6 := hb_6.1
  refine Does.of Tryz.func9 rfl rfl rfl rfl (fun w0 H0 kx => ?_)
  refine sr (g4 3 (fun b1 => [(2,pt b1 0),(3,pt (b1+1) 0),(4,pt (b1+1+1) 0)]) (fun b1 => [.blk b1 [iw za_0,iw za_1,iw za_2] 45,.blk (b1+1) [iw zb_0,iw zb_1,iw zb_2,iw zb_3,.slice Ab_4 nb_4 cb_4,.string sb_5,.slice Ab_6 nb_6 cb_6] 27,.blk (b1+1+1) [iw 0,iw 0,iw 0,iw 0,n0,s0,n0] 27]) [.g [.N],.g [.N],.g [.N]] rfl (fun b1 => (en rfl ?_)))
  refine sr (g0 1 [(2,pt b1 0),(3,pt (b1+1) 0),(4,pt (b1+1+1) 0),(9,.agg #[iw za_0,iw za_1,iw za_2])] [.g [.K 0 0,.K 0 1,.K 0 2]] rfl (ef 2 rfl (ca (some 10) (c30 H za_0 za_1 za_2 (by omega)) ?_)))
  rintro v3 H4 k6 le5 rfl
  refine g4 9 (fun b8 => [(2,pt b1 0),(3,pt (b1+1) 0),(4,pt (b1+1+1) 0),(5,pt b8 0),(6,pt (b8+1) 0)]) (fun b8 => [.blk b1 [iw za_0,iw za_1,iw za_2] 45,.blk (b1+1) [iw zb_0,iw zb_1,iw zb_2,iw zb_3,.slice Ab_4 nb_4 cb_4,.string sb_5,.slice Ab_6 nb_6 cb_6] 27,.blk (b1+1+1) [iw 0,iw 0,iw 0,iw 0,n0,s0,n0] 27,.blk b8 [.func (.func 56) #[] #[]] 62,.blk (b8+1) [.func (.func 57) #[] #[]] 62]) [gz,gz,gz,.g [.N],.g [.N],.g [.K 3 0],.g [.K 4 0]] rfl (fun b8 => (en rfl ?_))
  refine sr (g4 1 (fun b9 => [(2,pt b1 0),(3,pt (b1+1) 0),(4,pt (b1+1+1) 0),(5,pt b8 0),(6,pt (b8+1) 0),(7,pt b9 0)]) (fun b9 => [.blk b1 [iw za_0,iw za_1,iw za_2] 45,.blk (b1+1) [iw zb_0,iw zb_1,iw zb_2,iw zb_3,.slice Ab_4 nb_4 cb_4,.string sb_5,.slice Ab_6 nb_6 cb_6] 27,.blk (b1+1+1) [iw 0,iw 0,iw 0,iw 0,n0,s0,n0] 27,.blk b8 [.func (.func 56) #[] #[]] 62,.blk (b8+1) [.func (.func 57) #[] #[]] 62,.blk b9 [.nilFunc] 83]) [.g [.N]] rfl (fun b9 => (en rfl ?_)))
  refine sr (g1 2 [(3,pt (b1+1) 0),(4,pt (b1+1+1) 0),(7,pt b9 0)] [.blk b1 [iw za_0,iw za_1,iw za_2] 45,.blk (b1+1) [iw zb_0,iw zb_1,iw zb_2,iw zb_3,.slice Ab_4 nb_4 cb_4,.string sb_5,.slice Ab_6 nb_6 cb_6] 27,.blk (b1+1+1) [iw 0,iw 0,iw 0,iw 0,n0,s0,n0] 27,.blk b8 [.func (.func 56) #[] #[]] 62,.blk (b8+1) [.func (.func 57) #[] #[]] 62,.blk b9 [.func (.func 31) #[] #[pt b1 0,pt b8 0,pt (b8+1) 0,pt b9 0]] 83] [gz,.g [.K 5 0]] rfl (en rfl (sr (g0 2 [(4,pt (b1+1+1) 0),(14,.func (.func 31) #[] #[pt b1 0,pt b8 0,pt (b8+1) 0,pt b9 0]),(15,.agg #[iw zb_0,iw zb_1,iw zb_2,iw zb_3,.slice Ab_4 nb_4 cb_4,.string sb_5,.slice Ab_6 nb_6 cb_6])] [.g [.K 5 0],.g [.K 1 0,.K 1 1,.K 1 2,.K 1 3,.K 1 4,.K 1 5,.K 1 6]] rfl (Ok.pubP 0 rfl [.blk (b1+1) [iw zb_0,iw zb_1,iw zb_2,iw zb_3,.slice Ab_4 nb_4 cb_4,.string sb_5,.slice Ab_6 nb_6 cb_6] 27,.blk (b1+1+1) [iw 0,iw 0,iw 0,iw 0,n0,s0,n0] 27,.blk b8 [.func (.func 56) #[] #[]] 62,.blk (b8+1) [.func (.func 57) #[] #[]] 62,.blk b9 [.func (.func 31) #[] #[pt b1 0,pt b8 0,pt (b8+1) 0,pt b9 0]] 83] rfl ?_)))))
  intro H12 le13 pf14
  refine Ok.pubP 2 rfl [.blk (b1+1) [iw zb_0,iw zb_1,iw zb_2,iw zb_3,.slice Ab_4 nb_4 cb_4,.string sb_5,.slice Ab_6 nb_6 cb_6] 27,.blk (b1+1+1) [iw 0,iw 0,iw 0,iw 0,n0,s0,n0] 27,.blk (b8+1) [.func (.func 57) #[] #[]] 62,.blk b9 [.func (.func 31) #[] #[pt b1 0,pt b8 0,pt (b8+1) 0,pt b9 0]] 83] rfl ?_
  intro H15 le16 pf17
  refine Ok.pubP 2 rfl [.blk (b1+1) [iw zb_0,iw zb_1,iw zb_2,iw zb_3,.slice Ab_4 nb_4 cb_4,.string sb_5,.slice Ab_6 nb_6 cb_6] 27,.blk (b1+1+1) [iw 0,iw 0,iw 0,iw 0,n0,s0,n0] 27,.blk b9 [.func (.func 31) #[] #[pt b1 0,pt b8 0,pt (b8+1) 0,pt b9 0]] 83] rfl ?_
  intro H18 le19 pf20
  refine Ok.pubP 2 rfl [.blk (b1+1) [iw zb_0,iw zb_1,iw zb_2,iw zb_3,.slice Ab_4 nb_4 cb_4,.string sb_5,.slice Ab_6 nb_6 cb_6] 27,.blk (b1+1+1) [iw 0,iw 0,iw 0,iw 0,n0,s0,n0] 27] rfl ?_
  intro H21 le22 pf23
  refine ef 3 rfl (ca (some 16) (c31 _ H21 zb_0 zb_1 zb_2 zb_3 Ab_4 (nb_4) (cb_4) gb_4 sb_5 Ab_6 (nb_6) (cb_6) kb_6 true b1 za_0 za_1 za_2 b8 (b8+1) b9 (LstIs.mono (tr le5 (tr le13 (tr le16 (tr le19 le22)))) hb_4) tb_5 (KidsIs.mono (tr le5 (tr le13 (tr le16 (tr le19 le22)))) hb_6) (Pre.mono (tr le16 (tr le19 le22)) pf14) (Pre.mono (tr le19 le22) pf17) (Pre.mono le22 pf20) pf23 hq1 (Nat.le_refl _)) ?_)
  rintro v24 H25 k27 le26 ⟨zra_0y28,zra_1y28,zra_2y28,zra_3y28,Ara_4y28,nra_4y28,cra_4y28,gra_4y28,sra_5y28,Ara_6y28,nra_6y28,cra_6y28,kra_6y28,rfl,hra_4y28,tra_5y28,hra_6y28,py28_0⟩
  have lhra_4y28 := hra_4y28.2.1
  have mhra_4y28 := hra_4y28.1
  have lhra_6y28 := hra_6y28.2.1
  have mhra_6y28 := hra_6y28.1
  refine g1 4 [(4,pt (b1+1+1) 0)] [.blk (b1+1) [iw zb_0,iw zb_1,iw zb_2,iw zb_3,.slice Ab_4 nb_4 cb_4,.string sb_5,.slice Ab_6 nb_6 cb_6] 27,.blk (b1+1+1) [iw zra_0y28,iw zra_1y28,iw zra_2y28,iw zra_3y28,.slice Ara_4y28 nra_4y28 cra_4y28,.string sra_5y28,.slice Ara_6y28 nra_6y28 cra_6y28] 27] [.g [.K 1 0,.K 1 1,.K 1 2,.K 1 3,.K 1 4,.K 1 5,.K 1 6]] rfl (en rfl (Ok.ret_ ?_))
  exact Ok.ret1c (tr le5 (tr le13 (tr le16 (tr le19 (tr le22 le26))))) [.K 1 0,.K 1 1,.K 1 2,.K 1 3,.K 1 4,.K 1 5,.K 1 6] (.agg #[iw zra_0y28,iw zra_1y28,iw zra_2y28,iw zra_3y28,.slice Ara_4y28 nra_4y28 cra_4y28,.string sra_5y28,.slice Ara_6y28 nra_6y28 cra_6y28]) [b1+1+1,b1+1+1,b1+1+1,b1+1+1,b1+1+1,b1+1+1,b1+1+1] rfl (by kernel_rfl) ⟨zra_0y28,zra_1y28,zra_2y28,zra_3y28,Ara_4y28,nra_4y28,cra_4y28,gra_4y28,sra_5y28,Ara_6y28,nra_6y28,cra_6y28,kra_6y28,rfl,hra_4y28,tra_5y28,hra_6y28,py28_0⟩
theorem c64 (H : Snap) (Aa_0 : Option Addr) (na_0 : Nat) (ca_0 : Nat) (ga_0 : List (List Value)) (zb_0 : Int) (ha_0 : LstIs H el59 Aa_0 na_0 ga_0) : Does Tryz.prog 64 [.agg #[.slice Aa_0 na_0 ca_0],iw zb_0] H [] (fun v H' kp => ∃ (bra_0 : Bool) (zra_1 : Int) (sra_2 : ByteArray),v = .agg #[.bool bra_0,iw zra_1,.string sra_2] ∧ sra_2.size < 9223372036854775808 ∧ (bra_0,zra_1,sra_2) = valAt ga_0 zb_0) := by
  have lha_0 := ha_0.2.1
  have mha_0 := ha_0.1
  refine Does.of Tryz.func64 rfl rfl rfl rfl (fun w0 H0 kx => ?_)
  refine sr (g4 2 (fun b1 => [(1,iw zb_0),(2,pt b1 0),(4,pt (b1+1) 0)]) (fun b1 => [.blk b1 [.slice Aa_0 na_0 ca_0] 50,.blk (b1+1) [bF,iw 0,s0] 54]) [.g [.N],.g [.N]] rfl (fun b1 => (en rfl ?_)))
  refine Ok.seq (sr (g0 4 [(1,iw zb_0),(4,pt (b1+1) 0),(8,.slice Aa_0 na_0 ca_0),(9,iw ((na_0 : Nat) : Int)),(10,iw 0)] [gz,.g [.K 0 0],gz,gz] rfl (en rfl (Ok.blk (Ok.restr [1,4,8,9,10] [(1,iw zb_0),(4,pt (b1+1) 0),(8,.slice Aa_0 na_0 ca_0),(9,iw ((na_0 : Nat) : Int)),(10,iw 0)] rfl (Ok.loop (fun H' fr kb m => ∃ (zL3_10 : Int),fr = [(1,iw zb_0),(4,pt (b1+1) 0),(8,.slice Aa_0 na_0 ca_0),(9,iw ((na_0 : Nat) : Int)),(10,iw zL3_10)] ∧ kb = [.blk b1 [.slice Aa_0 na_0 ca_0] 50,.blk (b1+1) [bF,iw 0,s0] 54] ∧ m = ((((na_0 : Nat) : Int)) - zL3_10).toNat ∧ SLe H H' ∧ 0 ≤ zL3_10 ∧ zL3_10 ≤ ((na_0 : Nat) : Int) ∧ valAt (ga_0.drop zL3_10.toNat) zb_0 = valAt ga_0 zb_0) _ ⟨0,rfl,rfl,rfl,SLe.refl _,by decide,by omega,rfl⟩ ?_))))))
  rintro H4 _ _ mL3 ⟨zL3_10,rfl,rfl,hmL3,le5,fL3_0,fL3_1,XL3_0⟩
  refine sr (g0 1 [(1,iw zb_0),(4,pt (b1+1) 0),(8,.slice Aa_0 na_0 ca_0),(9,iw ((na_0 : Nat) : Int)),(10,iw zL3_10),(11,.bool (decide (zL3_10 < ((na_0 : Nat) : Int))))] [gz] rfl (en rfl (Ok.seq (cd (decide (zL3_10 < ((na_0 : Nat) : Int))) (fun h7 => ?_) (fun h7 => ?_)))))
  · have h7 := of_decide_eq_true h7
    refine skn (Ok.seq (Ok.blk (sr ?_)))
    have ie9 : 0 ≤ zL3_10 ∧ zL3_10 < ((na_0 : Nat) : Int) := by omega
    obtain ⟨je9,cse9,we9,he9,de9⟩ := (LstIs.mono le5 ha_0).at_ zL3_10 ie9.1 ie9.2
    obtain ⟨ue9_0,le9_0,rfl,ve9_0,we9_0⟩ := wfl_cons we9
    obtain ⟨ze9_0,rfl⟩ := wfv_int ve9_0
    obtain ⟨ue9_1,le9_1,rfl,ve9_1,we9_1⟩ := wfl_cons we9_0
    obtain ⟨be9_1,rfl⟩ := wfv_bool ve9_1
    obtain ⟨ue9_2,le9_2,rfl,ve9_2,we9_2⟩ := wfl_cons we9_1
    obtain ⟨ze9_2,rfl⟩ := wfv_int ve9_2
    obtain ⟨ue9_3,le9_3,rfl,ve9_3,we9_3⟩ := wfl_cons we9_2
    obtain ⟨se9_3,rfl,te9_3⟩ := wfv_str ve9_3
    obtain rfl := wfl_nil we9_3
    refine g5 4 (fun b8 => [(1,iw zb_0),(4,pt (b1+1) 0),(6,pt b8 0),(8,.slice Aa_0 na_0 ca_0),(9,iw ((na_0 : Nat) : Int)),(10,iw zL3_10)]) (fun b8 => [.blk b1 [.slice Aa_0 na_0 ca_0] 50,.blk (b1+1) [bF,iw 0,s0] 54,.blk b8 [iw ze9_0,.bool be9_1,iw ze9_2,.string se9_3] 59]) [.ix,.g [.X (iw ze9_0),.X (.bool be9_1),.X (iw ze9_2),.X (.string se9_3)],.g [.N],.g [.K 2 0,.K 2 1,.K 2 2,.K 2 3]] (fun b8 => (ex1 (And.intro je9 ie9) (ex1 (cell0 (he9 0 _ rfl)) (ex1 (he9 (1) _ rfl) (ex1 (he9 (2) _ rfl) (ex1 (he9 (3) _ rfl) ex0)))))) rfl (fun b8 => (en rfl ?_))
    refine sr (g0 4 [(1,iw zb_0),(4,pt (b1+1) 0),(6,pt b8 0),(8,.slice Aa_0 na_0 ca_0),(9,iw ((na_0 : Nat) : Int)),(10,iw zL3_10),(17,.bool (ze9_0 == zb_0))] [gz,.g [.K 2 0],gz,gz] rfl (en rfl (cd (ze9_0 == zb_0) (fun h11 => ?_) (fun h11 => ?_))))
    · have h11 := eq_of_beq h11
      refine sr (g1 3 [(4,pt (b1+1) 0)] [.blk b1 [.slice Aa_0 na_0 ca_0] 50,.blk (b1+1) [.bool be9_1,iw ze9_2,.string se9_3] 54,.blk b8 [iw ze9_0,.bool be9_1,iw ze9_2,.string se9_3] 59] [gz,.g [.K 2 1,.K 2 2,.K 2 3],.g [.K 1 0,.K 1 1,.K 1 2]] rfl (en rfl (Ok.ret_ (Ok.blkR (Ok.thenR (Ok.thenR (Ok.blkR (Ok.thenR ?_))))))))
      exact Ok.ret1c le5 [.K 1 0,.K 1 1,.K 1 2] (.agg #[.bool be9_1,iw ze9_2,.string se9_3]) [b1+1,b1+1,b1+1] rfl (by kernel_rfl) ⟨be9_1,ze9_2,se9_3,rfl,te9_3,(by rw [← XL3_0,de9,valAt_cons,if_pos (by simp_all)])⟩
    have h11 := ne_of_beq_false h11
    refine Ok.skip_ (Ok.blkN (Ok.thenN (Ok.reg ?_)))
    have k14 := wid (x := zL3_10 + 1) (by omega)
    refine g0 2 [(1,iw zb_0),(4,pt (b1+1) 0),(8,.slice Aa_0 na_0 ca_0),(9,iw ((na_0 : Nat) : Int)),(10,iw (w64 (zL3_10 + 1)))] [gz,gz] rfl (en rfl (Ok.restr [1,4,8,9,10] [(1,iw zb_0),(4,pt (b1+1) 0),(8,.slice Aa_0 na_0 ca_0),(9,iw ((na_0 : Nat) : Int)),(10,iw (w64 (zL3_10 + 1)))] rfl (Ok.mask [true,true,false] [.blk b1 [.slice Aa_0 na_0 ca_0] 50,.blk (b1+1) [bF,iw 0,s0] 54] rfl ?_)))
    exact Ok.again _ ⟨(w64 (zL3_10 + 1)),rfl,rfl,rfl,le5,by omega,by omega,(by rw [show (w64 (zL3_10 + 1)).toNat = zL3_10.toNat + 1 by omega,← XL3_0,de9,valAt_cons,if_neg (by simp_all)])⟩ (by omega)
  have h7 := of_decide_eq_false h7
  refine Ok.exit_ (Ok.thenE (Ok.thenE (Ok.blkE (Ok.thenN (sr (g1 2 [(4,pt (b1+1) 0)] [.blk b1 [.slice Aa_0 na_0 ca_0] 50,.blk (b1+1) [bT,iw 0,s0] 54] [gz,.g [.K 1 0,.K 1 1,.K 1 2]] rfl (en rfl (Ok.ret_ ?_))))))))
  exact Ok.ret1c le5 [.K 1 0,.K 1 1,.K 1 2] (.agg #[bT,iw 0,s0]) [b1+1,b1+1,b1+1] rfl (by kernel_rfl) ⟨true,0,(⟨#[]⟩ : ByteArray),rfl,(by decide),(by rw [← XL3_0,List.drop_of_length_le (by omega)]; rfl)⟩
theorem c63 (H : Snap) (za_0 : Int) (za_1 : Int) (za_2 : Int) (bb_0 : Bool) (zb_1 : Int) (sb_2 : ByteArray) (tb_2 : sb_2.size < 9223372036854775808) (hq0 : za_0 = 1 ∨ za_0 = 4) : Does Tryz.prog 63 [.agg #[iw za_0,iw za_1,iw za_2],.agg #[.bool bb_0,iw zb_1,.string sb_2]] H [] (fun v H' kp => ∃ (bra_0 : Bool) (zra_1 : Int) (sra_2 : ByteArray),v = .agg #[.bool bra_0,iw zra_1,.string sra_2] ∧ sra_2.size < 9223372036854775808 ∧ (bra_0,zra_1,sra_2) = nrm (bb_0,zb_1,sb_2)) := by
  refine Does.of Tryz.func63 rfl rfl rfl rfl (fun w0 H0 kx => ?_)
  refine sr (g4 3 (fun b1 => [(2,pt b1 0),(3,pt (b1+1) 0),(4,pt (b1+1+1) 0)]) (fun b1 => [.blk b1 [iw za_0,iw za_1,iw za_2] 45,.blk (b1+1) [.bool bb_0,iw zb_1,.string sb_2] 54,.blk (b1+1+1) [bF,iw 0,s0] 54]) [.g [.N],.g [.N],.g [.N]] rfl (fun b1 => (en rfl ?_)))
  refine Ok.seq (sr (g0 2 [(2,pt b1 0),(3,pt (b1+1) 0),(4,pt (b1+1+1) 0),(10,.bool bb_0)] [gz,.g [.K 1 0]] rfl (en rfl (cd bb_0 (fun h3 => ?_) (fun h3 => ?_)))))
  · refine sr (g1 2 [(4,pt (b1+1+1) 0)] [.blk b1 [iw za_0,iw za_1,iw za_2] 45,.blk (b1+1) [.bool bb_0,iw zb_1,.string sb_2] 54,.blk (b1+1+1) [bT,iw 0,s0] 54] [gz,.g [.K 2 0,.K 2 1,.K 2 2]] rfl (Ok.mask [false,false,true] [.blk (b1+1+1) [bT,iw 0,s0] 54] rfl ?_))
    refine en rfl (Ok.ret_ (Ok.thenR ?_))
    exact Ok.ret1c (SLe.refl _) [.K 0 0,.K 0 1,.K 0 2] (.agg #[bT,iw 0,s0]) [b1+1+1,b1+1+1,b1+1+1] rfl (by kernel_rfl) ⟨true,0,(⟨#[]⟩ : ByteArray),rfl,(by decide),(by simp [nrm,h3])⟩
  refine skn (Ok.seq (sr (g0 2 [(2,pt b1 0),(3,pt (b1+1) 0),(4,pt (b1+1+1) 0),(13,iw za_0)] [gz,.g [.K 0 0]] rfl (en rfl (Ok.blk (sr (g0 2 [(2,pt b1 0),(3,pt (b1+1) 0),(4,pt (b1+1+1) 0),(13,iw za_0),(14,.bool (za_0 == 2))] [gz,gz] rfl (en rfl (cd (za_0 == 2) (fun h7 => ?_) (fun h7 => ?_))))))))))
  · have h7 := eq_of_beq h7
    exact absurd h7 (by omega)
  have h7 := ne_of_beq_false h7
  refine sr (g0 2 [(2,pt b1 0),(3,pt (b1+1) 0),(4,pt (b1+1+1) 0),(13,iw za_0),(45,.bool (za_0 == 3))] [gz,gz] rfl (en rfl (cd (za_0 == 3) (fun h9 => ?_) (fun h9 => ?_))))
  · have h9 := eq_of_beq h9
    exact absurd h9 (by omega)
  have h9 := ne_of_beq_false h9
  refine sr (g0 2 [(3,pt (b1+1) 0),(4,pt (b1+1+1) 0),(62,.bool (za_0 == 5))] [gz,gz] rfl (en rfl (cd (za_0 == 5) (fun h11 => ?_) (fun h11 => ?_))))
  · have h11 := eq_of_beq h11
    exact absurd h11 (by omega)
  have h11 := ne_of_beq_false h11
  refine Ok.skip_ (Ok.blkN (Ok.thenN (sr (g1 2 [(4,pt (b1+1+1) 0)] [.blk b1 [iw za_0,iw za_1,iw za_2] 45,.blk (b1+1) [.bool bb_0,iw zb_1,.string sb_2] 54,.blk (b1+1+1) [.bool bb_0,iw zb_1,.string sb_2] 54] [.g [.K 1 0,.K 1 1,.K 1 2],.g [.K 2 0,.K 2 1,.K 2 2]] rfl (Ok.mask [false,false,true] [.blk (b1+1+1) [.bool bb_0,iw zb_1,.string sb_2] 54] rfl ?_)))))
  refine en rfl (Ok.ret_ ?_)
  exact Ok.ret1c (SLe.refl _) [.K 0 0,.K 0 1,.K 0 2] (.agg #[.bool bb_0,iw zb_1,.string sb_2]) [b1+1+1,b1+1+1,b1+1+1] rfl (by kernel_rfl) ⟨bb_0,zb_1,sb_2,rfl,tb_2,(by simp [nrm,h3,h7,h9,h11])⟩
theorem c32 (H : Snap) (qa_0 : Nat) (za_0x0 : Int) (za_0x1 : Int) (za_0x2 : Int) (Ab_0 : Option Addr) (nb_0 : Nat) (cb_0 : Nat) (gb_0 : List (List Value)) (ha_0 : Pre H qa_0 [iw za_0x0,iw za_0x1,iw za_0x2]) (hb_0 : LstIs H el59 Ab_0 nb_0 gb_0) (hq0 : za_0x0 = 1 ∨ za_0x0 = 4) : Does Tryz.prog 32 [sl qa_0 0 1 1,.agg #[.slice Ab_0 nb_0 cb_0]] H [] (fun v H' kp => ∃ (qra_0 : Nat) (bra_0x0 : Bool) (zra_0x1 : Int) (sra_0x2 : ByteArray),v = sl qra_0 0 1 1 ∧ Pre H' qra_0 [.bool bra_0x0,iw zra_0x1,.string sra_0x2] ∧ sra_0x2.size < 9223372036854775808 ∧ (bra_0x0,zra_0x1,sra_0x2) = nrm (valAt gb_0 za_0x1)) := by
  have lhb_0 := hb_0.2.1
  have mhb_0 := hb_0.1
  refine Does.of Tryz.func32 rfl rfl rfl rfl (fun w0 H0 kx => ?_)
  refine sr (g4 2 (fun b1 => [(0,sl qa_0 0 1 1),(3,pt b1 0)]) (fun b1 => [.blk b1 [.slice Ab_0 nb_0 cb_0] 50]) [.g [.N],gz] rfl (fun b1 => (en rfl ?_)))
  refine sr (g4 4 (fun b2 => [(0,sl qa_0 0 1 1),(3,pt b1 0),(5,sl b2 0 1 1)]) (fun b2 => [.blk b1 [.slice Ab_0 nb_0 cb_0] 50,.blk b2 [bF,iw 0,s0] 54]) [gz,gz,.g [.N],gz] rfl (fun b2 => (en rfl ?_)))
  refine Ok.seq (sr (g0 3 [(3,pt b1 0),(5,sl b2 0 1 1),(11,sl qa_0 0 1 1),(12,iw 1),(13,iw 0)] [gz,gz,gz] rfl (en rfl (Ok.blk (Ok.loopN 2 (Ok.round (sr (g0 1 [(3,pt b1 0),(5,sl b2 0 1 1),(11,sl qa_0 0 1 1),(12,iw 1),(13,iw 0),(14,bT)] [gz] rfl (en rfl (Ok.seq (cT (skn (Ok.seq (Ok.blk (sr (g5 6 (fun b5 => [(3,pt b1 0),(5,sl b2 0 1 1),(6,iw 0),(7,pt b5 0),(11,sl qa_0 0 1 1),(12,iw 1),(13,iw 0)]) (fun b5 => [.blk b1 [.slice Ab_0 nb_0 cb_0] 50,.blk b2 [bF,iw 0,s0] 54,.blk b5 [iw za_0x0,iw za_0x1,iw za_0x2] 45]) [gz,gz,.g [.X (iw za_0x0),.X (iw za_0x1),.X (iw za_0x2)],.g [.N],gz,.g [.K 2 0,.K 2 1,.K 2 2]] (fun b5 => (ex1 (Pre.cell ha_0 0 rfl) (ex1 (Pre.cell ha_0 1 rfl) (ex1 (Pre.cell ha_0 2 rfl) ex0)))) rfl (fun b5 => (en rfl (st [0,2] [] 10 (tk 4 [(0,gz),(1,gz),(2,.g [.K 1 0,.K 1 1,.K 1 2]),(3,.g [.K 0 0]),(4,gz),(5,.g [.K 1 1])] [(3,pt b1 0),(5,sl b2 0 1 1),(11,sl qa_0 0 1 1),(12,iw 1),(13,iw 0),(18,sl b2 0 1 1),(19,iw 0),(20,.agg #[iw za_0x0,iw za_0x1,iw za_0x2]),(21,.agg #[.slice Ab_0 nb_0 cb_0]),(23,iw za_0x1)] rfl (on 6 3 rfl (ca (some 24) (c64 H Ab_0 (nb_0) (cb_0) gb_0 za_0x1 hb_0) ?_))))))))))))))))))))))
  rintro v6 H7 k9 le8 ⟨bra_0y10,zra_1y10,sra_2y10,rfl,tra_2y10,py10_0⟩
  refine ws [0,2] le8 ?_
  refine on 7 2 rfl (ca (some 25) (c63 H7 za_0x0 za_0x1 za_0x2 bra_0y10 zra_1y10 sra_2y10 tra_2y10 (by omega)) ?_)
  rintro v11 H12 k14 le13 ⟨bra_0y15,zra_1y15,sra_2y15,rfl,tra_2y15,py15_0⟩
  refine ws [0,2] (tr le8 le13) ?_
  refine tk 1 [(8,gz)] [(3,pt b1 0),(5,sl b2 0 1 1),(11,sl qa_0 0 1 1),(12,iw 1),(13,iw 0),(25,.agg #[.bool bra_0y15,iw zra_1y15,.string sra_2y15]),(26,pt b2 0)] rfl ?_
  refine on 9 0 rfl (e1 (.g [.K 1 0,.K 1 1,.K 1 2]) [(3,pt b1 0),(5,sl b2 0 1 1),(11,sl qa_0 0 1 1),(12,iw 1),(13,iw 0)] [.blk b1 [.slice Ab_0 nb_0 cb_0] 50,.blk b2 [.bool bra_0y15,iw zra_1y15,.string sra_2y15] 54,.blk b5 [iw za_0x0,iw za_0x1,iw za_0x2] 45] ?_)
  refine ws [0,2] (tr le8 le13) ?_
  refine Ok.done (by kernel_rfl) ?_
  refine Ok.blkN (Ok.thenN (Ok.reg (g0 2 [(3,pt b1 0),(5,sl b2 0 1 1),(11,sl qa_0 0 1 1),(12,iw 1),(13,iw 1)] [gz,gz] rfl (en rfl (Ok.round (sr (g0 1 [(3,pt b1 0),(5,sl b2 0 1 1),(11,sl qa_0 0 1 1),(12,iw 1),(13,iw 1),(14,bF)] [gz] rfl (en rfl (Ok.seq (cF (Ok.exit_ (Ok.thenE (Ok.thenE (Ok.blkE (Ok.thenN (sr (g0 2 [(4,sl b2 0 1 1)] [gz,gz] rfl (Ok.mask [false,true,false] [.blk b2 [.bool bra_0y15,iw zra_1y15,.string sra_2y15] 54] rfl (en rfl (Ok.ret_ (Ok.pubP 0 rfl [] rfl ?_)))))))))))))))))))))
  intro H20 le21 pf22
  exact Ok.ret1 (v := sl b2 0 1 1) (tr le8 (tr le13 le21)) rfl rfl ⟨b2,bra_0y15,zra_1y15,sra_2y15,rfl,pf22,tra_2y15,(by rw [py15_0,py10_0])⟩
theorem c11 (H : Snap) (za_0 : Int) (za_1 : Int) (za_2 : Int) (Ab_0 : Option Addr) (nb_0 : Nat) (cb_0 : Nat) (gb_0 : List (List Value)) (hb_0 : LstIs H el59 Ab_0 nb_0 gb_0) (hq0 : za_0 = 1 ∨ za_0 = 4) : Does Tryz.prog 11 [.agg #[iw za_0,iw za_1,iw za_2],.agg #[.slice Ab_0 nb_0 cb_0]] H [] (fun v H' kp => ∃ (bra_0 : Bool) (zra_1 : Int) (sra_2 : ByteArray),v = .agg #[.bool bra_0,iw zra_1,.string sra_2] ∧ sra_2.size < 9223372036854775808 ∧ (bra_0,zra_1,sra_2) = nrm (valAt gb_0 za_1)) := by
  have lhb_0 := hb_0.2.1
  have mhb_0 := hb_0.1
  refine Does.of Tryz.func11 rfl rfl rfl rfl (fun w0 H0 kx => ?_)
  refine sr (g4 3 (fun b1 => [(2,pt b1 0),(3,pt (b1+1) 0),(4,pt (b1+1+1) 0)]) (fun b1 => [.blk b1 [iw za_0,iw za_1,iw za_2] 45,.blk (b1+1) [.slice Ab_0 nb_0 cb_0] 50,.blk (b1+1+1) [bF,iw 0,s0] 54]) [.g [.N],.g [.N],.g [.N]] rfl (fun b1 => (en rfl ?_)))
  refine sr (g4 3 (fun b2 => [(4,pt (b1+1+1) 0),(7,sl b2 0 1 1),(8,.agg #[.slice Ab_0 nb_0 cb_0])]) (fun b2 => [.blk b1 [iw za_0,iw za_1,iw za_2] 45,.blk (b1+1) [.slice Ab_0 nb_0 cb_0] 50,.blk (b1+1+1) [bF,iw 0,s0] 54,.blk b2 [iw za_0,iw za_1,iw za_2] 45]) [.g [.K 0 0,.K 0 1,.K 0 2],.g [.N],.g [.K 1 0]] rfl (fun b2 => (Ok.mask [false,false,true,true] [.blk (b1+1+1) [bF,iw 0,s0] 54,.blk b2 [iw za_0,iw za_1,iw za_2] 45] rfl ?_)))
  refine Ok.pubP 1 rfl [.blk (b1+1+1) [bF,iw 0,s0] 54] rfl ?_
  intro H3 le4 pf5
  refine ef 4 rfl (ca (some 9) (c32 H3 b2 za_0 za_1 za_2 Ab_0 (nb_0) (cb_0) gb_0 pf5 (LstIs.mono le4 hb_0) (by omega)) ?_)
  rintro v6 H7 k9 le8 ⟨qra_0y10,bra_0x0y10,zra_0x1y10,sra_0x2y10,rfl,hra_0y10,tra_0x2y10,py10_0⟩
  refine g0 5 [(4,pt (b1+1+1) 0),(5,sl qra_0y10 0 1 1)] [gz] rfl (en rfl (Ok.seq (sr (g0 3 [(4,pt (b1+1+1) 0),(5,sl qra_0y10 0 1 1),(12,bF)] [gz,gz,gz] rfl (en rfl (cF (skn (sr (g3 4 [(4,pt (b1+1+1) 0)] [.blk (b1+1+1) [.bool bra_0x0y10,iw zra_0x1y10,.string sra_0x2y10] 54] [gz,gz,.g [.X (.bool bra_0x0y10),.X (iw zra_0x1y10),.X (.string sra_0x2y10)],.g [.K 0 0,.K 0 1,.K 0 2]] (ex1 (Pre.cell hra_0y10 0 rfl) (ex1 (Pre.cell hra_0y10 1 rfl) (ex1 (Pre.cell hra_0y10 2 rfl) ex0))) rfl (en rfl (Ok.ret_ ?_)))))))))))
  exact Ok.ret1c (tr le4 le8) [.K 0 0,.K 0 1,.K 0 2] (.agg #[.bool bra_0x0y10,iw zra_0x1y10,.string sra_0x2y10]) [b1+1+1,b1+1+1,b1+1+1] rfl (by kernel_rfl) ⟨bra_0x0y10,zra_0x1y10,sra_0x2y10,rfl,tra_0x2y10,(by rw [py10_0])⟩
theorem c10 (H : Snap) (za_0 : Int) (za_1 : Int) (za_2 : Int) (bb_0 : Bool) (zb_1 : Int) (sb_2 : ByteArray) (tb_2 : sb_2.size < 9223372036854775808) : Does Tryz.prog 10 [.agg #[iw za_0,iw za_1,iw za_2],.agg #[.bool bb_0,iw zb_1,.string sb_2]] H [] (fun v H' kp => ∃ (Ara_0 : Option Addr) (nra_0 : Nat) (cra_0 : Nat) (gra_0 : List (List Value)),v = .agg #[.slice Ara_0 nra_0 cra_0] ∧ LstIs H' el59 Ara_0 nra_0 gra_0 ∧ valAt gra_0 za_1 = nrm (bb_0,zb_1,sb_2)) := by
  refine Does.of Tryz.func10 rfl rfl rfl rfl (fun w0 H0 kx => ?_)
  refine sr (g4 3 (fun b1 => [(2,pt b1 0),(3,pt (b1+1) 0),(4,pt (b1+1+1) 0)]) (fun b1 => [.blk b1 [iw za_0,iw za_1,iw za_2] 45,.blk (b1+1) [.bool bb_0,iw zb_1,.string sb_2] 54,.blk (b1+1+1) [n0] 50]) [.g [.N],.g [.N],.g [.N]] rfl (fun b1 => (en rfl ?_)))
  refine Ok.seq (sr (g0 2 [(2,pt b1 0),(3,pt (b1+1) 0),(4,pt (b1+1+1) 0),(6,.bool bb_0)] [gz,.g [.K 1 0]] rfl (en rfl (cd bb_0 (fun h3 => ?_) (fun h3 => ?_)))))
  · refine sr (g0 2 [(4,pt (b1+1+1) 0)] [gz,.g [.K 2 0]] rfl (Ok.mask [false,false,true] [.blk (b1+1+1) [n0] 50] rfl ?_))
    refine en rfl (Ok.ret_ (Ok.thenR ?_))
    exact Ok.ret1c (SLe.refl _) [.K 0 0] (.agg #[n0]) [b1+1+1] rfl (by kernel_rfl) ⟨none,0,0,[],rfl,(LstIs.nil _ _ _),(by simp [nrm,valAt,h3])⟩
  refine skn (sr (g4 7 (fun b5 => [(4,pt (b1+1+1) 0)]) (fun b5 => [.blk b1 [iw za_0,iw za_1,iw za_2] 45,.blk (b1+1) [.bool bb_0,iw zb_1,.string sb_2] 54,.blk (b1+1+1) [sl b5 0 1 1] 50,.blk b5 [iw za_1,.bool bb_0,iw zb_1,.string sb_2] 59]) [gz,.g [.K 0 1],.g [.K 1 0,.K 1 1,.K 1 2],gz,.g [.N],gz,.g [.K 2 0]] rfl (fun b5 => (Ok.mask [false,false,true,true] [.blk (b1+1+1) [sl b5 0 1 1] 50,.blk b5 [iw za_1,.bool bb_0,iw zb_1,.string sb_2] 59] rfl ?_))))
  refine en rfl (Ok.ret_ (Ok.pubP 1 rfl [.blk (b1+1+1) [sl b5 0 1 1] 50] rfl ?_))
  intro H6 le7 pf8
  exact Ok.ret1c le7 [.K 0 0] (.agg #[sl b5 0 1 1]) [b1+1+1] rfl (by kernel_rfl) ⟨(some ⟨b5,0,none⟩),1,1,[[iw za_1,.bool bb_0,iw zb_1,.string sb_2]],rfl,(LstIs.lit pf8 (mkl_cons (mkv_int _ _) (mkl_cons (mkv_bool _) (mkl_cons (mkv_int _ _) (mkl_cons (mkv_str _ tb_2) mkl_nil))))),(by simp [nrm,valAt,h3])⟩
theorem c3 (H : Snap) (Aa_0 : Option Addr) (na_0 : Nat) (ca_0 : Nat) (Aa_1 : Option Addr) (na_1 : Nat) (ca_1 : Nat) (za_2 : Int) (za_3 : Int) (za_4 : Int) (za_5 : Int) (Aa_6 : Option Addr) (na_6 : Nat) (ca_6 : Nat) (ga_6 : List (List Value)) (sa_7 : ByteArray) (Aa_8 : Option Addr) (na_8 : Nat) (ca_8 : Nat) (ka_8 : PTs) (Aa_9 : Option Addr) (na_9 : Nat) (ca_9 : Nat) (ha_0 : WfS H el105 Aa_0 na_0) (ha_1 : WfS H el45 Aa_1 na_1) (ha_6 : LstIs H elV Aa_6 na_6 ga_6) (ta_7 : sa_7.size < 9223372036854775808) (ha_8 : KidsIs H Aa_8 na_8 ka_8) (ha_9 : WfS H el24 Aa_9 na_9) : Does Tryz.prog 3 [.agg #[.slice Aa_0 na_0 ca_0,.slice Aa_1 na_1 ca_1,iw za_2,iw za_3,iw za_4,iw za_5,.slice Aa_6 na_6 ca_6,.string sa_7,.slice Aa_8 na_8 ca_8,.slice Aa_9 na_9 ca_9]] H [] (fun v H' kp => v = bT) := by
  have lha_0 := ha_0.1
  have lha_1 := ha_1.1
  have lha_6 := ha_6.2.1
  have mha_6 := ha_6.1
  have lha_8 := ha_8.2.1
  have mha_8 := ha_8.1
  have lha_9 := ha_9.1
  refine Does.of Tryz.func3 rfl rfl rfl rfl (fun w0 H0 kx => ?_)
  refine sr (g4 2 (fun b1 => [(1,pt b1 0)]) (fun b1 => [.blk b1 [.slice Aa_0 na_0 ca_0,.slice Aa_1 na_1 ca_1,iw za_2,iw za_3,iw za_4,iw za_5,.slice Aa_6 na_6 ca_6,.string sa_7,.slice Aa_8 na_8 ca_8,.slice Aa_9 na_9 ca_9] 30]) [.g [.N],gz] rfl (fun b1 => (en rfl ?_)))
  refine sr (ef 1 rfl (ca (some 13) (x4_1 H ) ?_))
  rintro v3 H4 k6 le5 rfl
  refine g0 2 [(1,pt b1 0),(3,bT)] [gz] rfl (en rfl (sr (g0 1 [(1,pt b1 0),(3,bT),(15,.agg #[.slice Aa_0 na_0 ca_0,.slice Aa_1 na_1 ca_1,iw za_2,iw za_3,iw za_4,iw za_5,.slice Aa_6 na_6 ca_6,.string sa_7,.slice Aa_8 na_8 ca_8,.slice Aa_9 na_9 ca_9])] [.g [.K 0 0,.K 0 1,.K 0 2,.K 0 3,.K 0 4,.K 0 5,.K 0 6,.K 0 7,.K 0 8,.K 0 9]] rfl (ef 2 rfl (ca (some 16) (c5 H4 Aa_0 (na_0) (ca_0) Aa_1 (na_1) (ca_1) za_2 za_3 za_4 za_5 Aa_6 (na_6) (ca_6) ga_6 sa_7 Aa_8 (na_8) (ca_8) ka_8 Aa_9 (na_9) (ca_9) (WfS.mono le5 ha_0) (WfS.mono le5 ha_1) (LstIs.mono le5 ha_6) ta_7 (KidsIs.mono le5 ha_8) (WfS.mono le5 ha_9)) ?_)))))
  rintro v10 H11 k13 le12 ⟨Ara_0y14,nra_0y14,cra_0y14,zra_1y14,Ara_2y14,nra_2y14,cra_2y14,zra_3y14,zra_4y14,zra_5y14,zra_6y14,Ara_7y14,nra_7y14,cra_7y14,sra_8y14,Ara_9y14,nra_9y14,cra_9y14,kra_9y14,Ara_10y14,nra_10y14,cra_10y14,brb_0y14,rfl,hra_0y14,hra_2y14,hra_7y14,tra_8y14,hra_9y14,hra_10y14⟩
  have lhra_0y14 := hra_0y14.1
  have lhra_2y14 := hra_2y14.1
  have lhra_7y14 := hra_7y14.1
  have lhra_9y14 := hra_9y14.2.1
  have mhra_9y14 := hra_9y14.1
  have lhra_10y14 := hra_10y14.1
  refine g4 8 (fun b15 => [(1,pt b1 0),(3,bT),(4,pt b15 0),(5,.bool brb_0y14)]) (fun b15 => [.blk b1 [.slice Aa_0 na_0 ca_0,.slice Aa_1 na_1 ca_1,iw za_2,iw za_3,iw za_4,iw za_5,.slice Aa_6 na_6 ca_6,.string sa_7,.slice Aa_8 na_8 ca_8,.slice Aa_9 na_9 ca_9] 30,.blk b15 [.slice Ara_0y14 nra_0y14 cra_0y14,iw zra_1y14,.slice Ara_2y14 nra_2y14 cra_2y14,iw zra_3y14,iw zra_4y14,iw zra_5y14,iw zra_6y14,.slice Ara_7y14 nra_7y14 cra_7y14,.string sra_8y14,.slice Ara_9y14 nra_9y14 cra_9y14,.slice Ara_10y14 nra_10y14 cra_10y14] 37]) [gz,gz,gz,.g [.N],.g [.K 1 0,.K 1 1,.K 1 2,.K 1 3,.K 1 4,.K 1 5,.K 1 6,.K 1 7,.K 1 8,.K 1 9,.K 1 10],gz] rfl (fun b15 => (en rfl ?_))
  refine Ok.seq (sr (g0 2 [(1,pt b1 0),(3,bT),(4,pt b15 0),(20,.bool (!brb_0y14))] [gz,gz] rfl (en rfl (cd (!brb_0y14) (fun h17 => ?_) (fun h17 => ?_)))))
  · refine sr (g0 2 [(2,bT)] [gz,gz] rfl (Ok.mask [false,false] [] rfl ?_))
    refine en rfl (Ok.ret_ (Ok.thenR ?_))
    exact Ok.ret1 (v := bT) (tr le5 le12) rfl rfl rfl
  refine skn (Ok.seq (sr (g0 1 [(1,pt b1 0),(3,bT),(4,pt b15 0),(6,iw 0)] [gz] rfl (en rfl (Ok.blk (Ok.restr [1,3,4,6] [(1,pt b1 0),(3,bT),(4,pt b15 0),(6,iw 0)] rfl (Ok.loop (fun H' fr kb m => ∃ (zL20_6 : Int),fr = [(1,pt b1 0),(3,bT),(4,pt b15 0),(6,iw zL20_6)] ∧ kb = [.blk b1 [.slice Aa_0 na_0 ca_0,.slice Aa_1 na_1 ca_1,iw za_2,iw za_3,iw za_4,iw za_5,.slice Aa_6 na_6 ca_6,.string sa_7,.slice Aa_8 na_8 ca_8,.slice Aa_9 na_9 ca_9] 30,.blk b15 [.slice Ara_0y14 nra_0y14 cra_0y14,iw zra_1y14,.slice Ara_2y14 nra_2y14 cra_2y14,iw zra_3y14,iw zra_4y14,iw zra_5y14,iw zra_6y14,.slice Ara_7y14 nra_7y14 cra_7y14,.string sra_8y14,.slice Ara_9y14 nra_9y14 cra_9y14,.slice Ara_10y14 nra_10y14 cra_10y14] 37] ∧ m = ((((nra_2y14 : Nat) : Int)) - zL20_6).toNat ∧ SLe H11 H' ∧ 0 ≤ zL20_6 ∧ zL20_6 ≤ ((nra_2y14 : Nat) : Int)) _ ⟨0,rfl,rfl,rfl,SLe.refl _,by decide,by omega⟩ ?_)))))))
  rintro H21 _ _ mL20 ⟨zL20_6,rfl,rfl,hmL20,le22,fL20_0,fL20_1⟩
  refine Ok.seq (sr (g0 5 [(1,pt b1 0),(3,bT),(4,pt b15 0),(6,iw zL20_6),(26,.bool (decide (zL20_6 < ((nra_2y14 : Nat) : Int))))] [gz,gz,.g [.K 1 2],gz,gz] rfl (en rfl (cd (decide (zL20_6 < ((nra_2y14 : Nat) : Int))) (fun h24 => ?_) (fun h24 => ?_)))))
  · have h24 := of_decide_eq_true h24
    refine skn (Ok.seq (Ok.blk (Ok.seq (st [0,1] [] 15 ?_))))
    have ie25 : 0 ≤ zL20_6 ∧ zL20_6 < ((nra_2y14 : Nat) : Int) := by omega
    obtain ⟨je25,cse25,we25,he25⟩ := (WfS.mono le22 hra_2y14).at_ zL20_6 ie25.1 ie25.2
    obtain ⟨ue25_0,le25_0,rfl,ve25_0,we25_0⟩ := wfl_cons we25
    obtain ⟨ze25_0,rfl⟩ := wfv_int ve25_0
    obtain ⟨ue25_1,le25_1,rfl,ve25_1,we25_1⟩ := wfl_cons we25_0
    obtain ⟨ze25_1,rfl⟩ := wfv_int ve25_1
    obtain ⟨ue25_2,le25_2,rfl,ve25_2,we25_2⟩ := wfl_cons we25_1
    obtain ⟨ze25_2,rfl⟩ := wfv_int ve25_2
    obtain rfl := wfl_nil we25_2
    refine tx 7 [(0,gz),(1,.g [.K 1 0,.K 1 1]),(2,gz),(3,.g [.K 1 2]),(4,gz),(5,.ix),(6,gz),(7,.g [.X (iw ze25_1)])] [(1,pt b1 0),(3,bT),(4,pt b15 0),(6,iw zL20_6),(31,.agg #[.slice Ara_0y14 nra_0y14 cra_0y14,iw zra_1y14]),(37,iw ze25_1)] (ex1 (And.intro je25 ie25) (ex1 (he25 (1) _ rfl) ex0)) rfl ?_
    refine o2 8 12 6 rfl ?_ ?_
    · refine (ca (some 38) (c6 H21 Ara_0y14 (nra_0y14) (cra_0y14) zra_1y14 ze25_1 (WfS.mono le22 hra_0y14)) ?_)
      rintro v26 H27 k29 le28 ⟨zra_0y30,sra_1y30,zra_2y30,zra_3y30,brb_0y30,rfl,tra_1y30⟩
      refine ws [0,1] le28 ?_
      refine tk 3 [(9,gz),(10,gz),(11,gz)] [(1,pt b1 0),(3,bT),(4,pt b15 0),(6,iw zL20_6),(39,.agg #[iw zra_0y30,.string sra_1y30,iw zra_2y30,iw zra_3y30]),(40,.bool brb_0y30)] rfl ?_
      refine on 12 2 rfl (e4 (.g [.N]) (fun b31 => [(1,pt b1 0),(3,bT),(4,pt b15 0),(6,iw zL20_6),(7,pt b31 0),(39,.agg #[iw zra_0y30,.string sra_1y30,iw zra_2y30,iw zra_3y30]),(40,.bool brb_0y30)]) (fun b31 => [.blk b1 [.slice Aa_0 na_0 ca_0,.slice Aa_1 na_1 ca_1,iw za_2,iw za_3,iw za_4,iw za_5,.slice Aa_6 na_6 ca_6,.string sa_7,.slice Aa_8 na_8 ca_8,.slice Aa_9 na_9 ca_9] 30,.blk b15 [.slice Ara_0y14 nra_0y14 cra_0y14,iw zra_1y14,.slice Ara_2y14 nra_2y14 cra_2y14,iw zra_3y14,iw zra_4y14,iw zra_5y14,iw zra_6y14,.slice Ara_7y14 nra_7y14 cra_7y14,.string sra_8y14,.slice Ara_9y14 nra_9y14 cra_9y14,.slice Ara_10y14 nra_10y14 cra_10y14] 37,.blk b31 [iw 0,s0,iw 0,iw 0] 41]) (fun b31 => ?_))
      refine ws [0,1] le28 ?_
      refine on 13 1 rfl (e1 (.g [.K 2 0,.K 2 1,.K 2 2,.K 2 3]) [(1,pt b1 0),(3,bT),(4,pt b15 0),(6,iw zL20_6),(7,pt b31 0),(40,.bool brb_0y30)] [.blk b1 [.slice Aa_0 na_0 ca_0,.slice Aa_1 na_1 ca_1,iw za_2,iw za_3,iw za_4,iw za_5,.slice Aa_6 na_6 ca_6,.string sa_7,.slice Aa_8 na_8 ca_8,.slice Aa_9 na_9 ca_9] 30,.blk b15 [.slice Ara_0y14 nra_0y14 cra_0y14,iw zra_1y14,.slice Ara_2y14 nra_2y14 cra_2y14,iw zra_3y14,iw zra_4y14,iw zra_5y14,iw zra_6y14,.slice Ara_7y14 nra_7y14 cra_7y14,.string sra_8y14,.slice Ara_9y14 nra_9y14 cra_9y14,.slice Ara_10y14 nra_10y14 cra_10y14] 37,.blk b31 [iw zra_0y30,.string sra_1y30,iw zra_2y30,iw zra_3y30] 41] ?_)
      refine ws [0,1] le28 ?_
      refine on 14 0 rfl (e0 (gz) [(1,pt b1 0),(3,bT),(4,pt b15 0),(6,iw zL20_6),(7,pt b31 0)] ?_)
      refine ws [0,1] le28 ?_
      refine dn (sr (g4 14 (fun b34 => [(1,pt b1 0),(3,bT),(4,pt b15 0),(6,iw zL20_6),(7,pt b31 0),(9,pt (b34+1) 0)]) (fun b34 => [.blk b1 [.slice Aa_0 na_0 ca_0,.slice Aa_1 na_1 ca_1,iw za_2,iw za_3,iw za_4,iw za_5,.slice Aa_6 na_6 ca_6,.string sa_7,.slice Aa_8 na_8 ca_8,.slice Aa_9 na_9 ca_9] 30,.blk b15 [.slice Ara_0y14 nra_0y14 cra_0y14,iw zra_1y14,.slice Ara_2y14 nra_2y14 cra_2y14,iw zra_3y14,iw zra_4y14,iw zra_5y14,iw zra_6y14,.slice Ara_7y14 nra_7y14 cra_7y14,.string sra_8y14,.slice Ara_9y14 nra_9y14 cra_9y14,.slice Ara_10y14 nra_10y14 cra_10y14] 37,.blk b31 [iw zra_0y30,.string sra_1y30,iw zra_2y30,iw zra_3y30] 41,.blk b34 [iw zra_0y30,.string sra_1y30,iw zra_2y30,iw 0] 41,.blk (b34+1) [sl b34 0 1 1,iw (w64 (zra_0y30 + 1))] 34]) [gz,.g [.K 2 0],gz,gz,.g [.K 2 0],gz,.g [.K 2 1],gz,.g [.K 2 2],gz,.g [.N],gz,.g [.N],.g [.K 4 0,.K 4 1]] rfl (fun b34 => (en rfl ?_))))
      refine sr (g0 3 [(1,pt b1 0),(3,bT),(4,pt b15 0),(6,iw zL20_6),(7,pt b31 0),(53,.agg #[sl b34 0 1 1,iw (w64 (zra_0y30 + 1))]),(55,.agg #[iw za_2,iw za_3,iw za_4,iw za_5,.slice Aa_6 na_6 ca_6,.string sa_7,.slice Aa_8 na_8 ca_8])] [.g [.K 4 0,.K 4 1],gz,.g [.K 0 2,.K 0 3,.K 0 4,.K 0 5,.K 0 6,.K 0 7,.K 0 8]] rfl (Ok.pubP 3 rfl [.blk b1 [.slice Aa_0 na_0 ca_0,.slice Aa_1 na_1 ca_1,iw za_2,iw za_3,iw za_4,iw za_5,.slice Aa_6 na_6 ca_6,.string sa_7,.slice Aa_8 na_8 ca_8,.slice Aa_9 na_9 ca_9] 30,.blk b15 [.slice Ara_0y14 nra_0y14 cra_0y14,iw zra_1y14,.slice Ara_2y14 nra_2y14 cra_2y14,iw zra_3y14,iw zra_4y14,iw zra_5y14,iw zra_6y14,.slice Ara_7y14 nra_7y14 cra_7y14,.string sra_8y14,.slice Ara_9y14 nra_9y14 cra_9y14,.slice Ara_10y14 nra_10y14 cra_10y14] 37,.blk b31 [iw zra_0y30,.string sra_1y30,iw zra_2y30,iw zra_3y30] 41,.blk (b34+1) [sl b34 0 1 1,iw (w64 (zra_0y30 + 1))] 34] rfl ?_))
      intro H36 le37 pf38
      refine ef 4 rfl (ca (some 56) (c7 H36 (some ⟨b34,0,none⟩) 1 1 (w64 (zra_0y30 + 1)) za_2 za_3 za_4 za_5 Aa_6 (na_6) (ca_6) ga_6 sa_7 Aa_8 (na_8) (ca_8) ka_8 (WfS.of_pre (xs := [iw zra_0y30,.string sra_1y30,iw zra_2y30,iw 0]) pf38 (Elems.snoc (Elems.nil el41) (mkl_cons (mkv_int _ _) (mkl_cons (mkv_str _ tra_1y30) (mkl_cons (mkv_int _ _) (mkl_cons (mkv_int _ _) mkl_nil))))) (by decide)) (LstIs.mono (tr le5 (tr le12 (tr le22 (tr le28 le37)))) ha_6) ta_7 (KidsIs.mono (tr le5 (tr le12 (tr le22 (tr le28 le37)))) ha_8) (by omega)) ?_)
      rintro v39 H40 k42 le41 ⟨zra_0y43,zra_1y43,zra_2y43,zra_3y43,Ara_4y43,nra_4y43,cra_4y43,gra_4y43,sra_5y43,Ara_6y43,nra_6y43,cra_6y43,kra_6y43,rfl,hra_4y43,tra_5y43,hra_6y43,py43_0,py43_1⟩
      have lhra_4y43 := hra_4y43.2.1
      have mhra_4y43 := hra_4y43.1
      have lhra_6y43 := hra_6y43.2.1
      have mhra_6y43 := hra_6y43.1
      refine g4 6 (fun b44 => [(1,pt b1 0),(3,bT),(4,pt b15 0),(6,iw zL20_6),(7,pt b31 0),(10,pt b44 0)]) (fun b44 => [.blk b1 [.slice Aa_0 na_0 ca_0,.slice Aa_1 na_1 ca_1,iw za_2,iw za_3,iw za_4,iw za_5,.slice Aa_6 na_6 ca_6,.string sa_7,.slice Aa_8 na_8 ca_8,.slice Aa_9 na_9 ca_9] 30,.blk b15 [.slice Ara_0y14 nra_0y14 cra_0y14,iw zra_1y14,.slice Ara_2y14 nra_2y14 cra_2y14,iw zra_3y14,iw zra_4y14,iw zra_5y14,iw zra_6y14,.slice Ara_7y14 nra_7y14 cra_7y14,.string sra_8y14,.slice Ara_9y14 nra_9y14 cra_9y14,.slice Ara_10y14 nra_10y14 cra_10y14] 37,.blk b31 [iw zra_0y30,.string sra_1y30,iw zra_2y30,iw zra_3y30] 41,.blk (b34+1) [sl b34 0 1 1,iw (w64 (zra_0y30 + 1))] 34,.blk b44 [iw zra_0y43,iw zra_1y43,iw zra_2y43,iw zra_3y43,.slice Ara_4y43 nra_4y43 cra_4y43,.string sra_5y43,.slice Ara_6y43 nra_6y43 cra_6y43] 27]) [.g [.N],.g [.K 4 0,.K 4 1,.K 4 2,.K 4 3,.K 4 4,.K 4 5,.K 4 6]] rfl (fun b44 => (en rfl ?_))
      refine sr (g4 5 (fun b45 => [(1,pt b1 0),(3,bT),(4,pt b15 0),(6,iw zL20_6),(7,pt b31 0),(10,pt b44 0),(11,pt b45 0)]) (fun b45 => [.blk b1 [.slice Aa_0 na_0 ca_0,.slice Aa_1 na_1 ca_1,iw za_2,iw za_3,iw za_4,iw za_5,.slice Aa_6 na_6 ca_6,.string sa_7,.slice Aa_8 na_8 ca_8,.slice Aa_9 na_9 ca_9] 30,.blk b15 [.slice Ara_0y14 nra_0y14 cra_0y14,iw zra_1y14,.slice Ara_2y14 nra_2y14 cra_2y14,iw zra_3y14,iw zra_4y14,iw zra_5y14,iw zra_6y14,.slice Ara_7y14 nra_7y14 cra_7y14,.string sra_8y14,.slice Ara_9y14 nra_9y14 cra_9y14,.slice Ara_10y14 nra_10y14 cra_10y14] 37,.blk b31 [iw zra_0y30,.string sra_1y30,iw zra_2y30,iw zra_3y30] 41,.blk (b34+1) [sl b34 0 1 1,iw (w64 (zra_0y30 + 1))] 34,.blk b44 [iw zra_0y43,iw zra_1y43,iw zra_2y43,iw zra_3y43,.slice Ara_4y43 nra_4y43 cra_4y43,.string sra_5y43,.slice Ara_6y43 nra_6y43 cra_6y43] 27,.blk b45 [iw 1,iw zra_0y30,iw 0] 45]) [gz,.g [.K 2 0],gz,.g [.N],.g [.K 5 0,.K 5 1,.K 5 2]] rfl (fun b45 => (en rfl ?_)))
      refine Ok.seq (Ok.seq (Ok.regJ (ι := Bool) (fun y47 => [(1,pt b1 0),(3,bT),(4,pt b15 0),(6,iw zL20_6),(10,pt b44 0),(11,pt b45 0),(67,.bool y47)]) ?_ (fun J46 => ?_)))
      · rintro bJ46_67
        refine Ok.thenN (cd bJ46_67 (fun h48 => ?_) (fun h48 => ?_))
        · refine Ok.reg (g1 2 [(1,pt b1 0),(3,bT),(4,pt b15 0),(6,iw zL20_6),(10,pt b44 0),(11,pt b45 0)] [.blk b1 [.slice Aa_0 na_0 ca_0,.slice Aa_1 na_1 ca_1,iw za_2,iw za_3,iw za_4,iw za_5,.slice Aa_6 na_6 ca_6,.string sa_7,.slice Aa_8 na_8 ca_8,.slice Aa_9 na_9 ca_9] 30,.blk b15 [.slice Ara_0y14 nra_0y14 cra_0y14,iw zra_1y14,.slice Ara_2y14 nra_2y14 cra_2y14,iw zra_3y14,iw zra_4y14,iw zra_5y14,iw zra_6y14,.slice Ara_7y14 nra_7y14 cra_7y14,.string sra_8y14,.slice Ara_9y14 nra_9y14 cra_9y14,.slice Ara_10y14 nra_10y14 cra_10y14] 37,.blk b31 [iw zra_0y30,.string sra_1y30,iw zra_2y30,iw zra_3y30] 41,.blk (b34+1) [sl b34 0 1 1,iw (w64 (zra_0y30 + 1))] 34,.blk b44 [iw zra_0y43,iw zra_1y43,iw zra_2y43,iw zra_3y43,.slice Ara_4y43 nra_4y43 cra_4y43,.string sra_5y43,.slice Ara_6y43 nra_6y43 cra_6y43] 27,.blk b45 [iw 4,iw zra_0y30,iw 0] 45] [gz,.g [.K 5 0]] rfl (en rfl (sr (g0 1 [(1,pt b1 0),(3,bT),(4,pt b15 0),(6,iw zL20_6),(10,pt b44 0),(11,pt b45 0),(12,iw 0)] [gz] rfl (en rfl (Ok.blk (Ok.restr [1,3,4,6,10,11,12] [(1,pt b1 0),(3,bT),(4,pt b15 0),(6,iw zL20_6),(10,pt b44 0),(11,pt b45 0),(12,iw 0)] rfl (Ok.loop (fun H' fr kb m => ∃ (zL51_12 : Int),fr = [(1,pt b1 0),(3,bT),(4,pt b15 0),(6,iw zL20_6),(10,pt b44 0),(11,pt b45 0),(12,iw zL51_12)] ∧ kb = [.blk b1 [.slice Aa_0 na_0 ca_0,.slice Aa_1 na_1 ca_1,iw za_2,iw za_3,iw za_4,iw za_5,.slice Aa_6 na_6 ca_6,.string sa_7,.slice Aa_8 na_8 ca_8,.slice Aa_9 na_9 ca_9] 30,.blk b15 [.slice Ara_0y14 nra_0y14 cra_0y14,iw zra_1y14,.slice Ara_2y14 nra_2y14 cra_2y14,iw zra_3y14,iw zra_4y14,iw zra_5y14,iw zra_6y14,.slice Ara_7y14 nra_7y14 cra_7y14,.string sra_8y14,.slice Ara_9y14 nra_9y14 cra_9y14,.slice Ara_10y14 nra_10y14 cra_10y14] 37,.blk b31 [iw zra_0y30,.string sra_1y30,iw zra_2y30,iw zra_3y30] 41,.blk (b34+1) [sl b34 0 1 1,iw (w64 (zra_0y30 + 1))] 34,.blk b44 [iw zra_0y43,iw zra_1y43,iw zra_2y43,iw zra_3y43,.slice Ara_4y43 nra_4y43 cra_4y43,.string sra_5y43,.slice Ara_6y43 nra_6y43 cra_6y43] 27,.blk b45 [iw 4,iw zra_0y30,iw 0] 45] ∧ m = ((((nra_10y14 : Nat) : Int)) - zL51_12).toNat ∧ SLe H40 H' ∧ 0 ≤ zL51_12 ∧ zL51_12 ≤ ((nra_10y14 : Nat) : Int)) _ ⟨0,rfl,rfl,rfl,SLe.refl _,by decide,by omega⟩ ?_))))))))
          rintro H52 _ _ mL51 ⟨zL51_12,rfl,rfl,hmL51,le53,fL51_0,fL51_1⟩
          refine Ok.seq (sr (g0 5 [(1,pt b1 0),(3,bT),(4,pt b15 0),(6,iw zL20_6),(10,pt b44 0),(11,pt b45 0),(12,iw zL51_12),(73,.bool (decide (zL51_12 < ((nra_10y14 : Nat) : Int))))] [gz,gz,.g [.K 1 10],gz,gz] rfl (en rfl (cd (decide (zL51_12 < ((nra_10y14 : Nat) : Int))) (fun h55 => ?_) (fun h55 => ?_)))))
          · have h55 := of_decide_eq_true h55
            refine skn (Ok.seq (Ok.blk (Ok.seq (st [0,1,2,3,4,5] [] 21 ?_))))
            have ie56 : 0 ≤ zL51_12 ∧ zL51_12 < ((nra_10y14 : Nat) : Int) := by omega
            obtain ⟨je56,cse56,we56,he56⟩ := (WfS.mono (tr le22 (tr le28 (tr le37 (tr le41 le53)))) hra_10y14).at_ zL51_12 ie56.1 ie56.2
            obtain ⟨ue56_0,le56_0,rfl,ve56_0,we56_0⟩ := wfl_cons we56
            obtain ⟨Ae56_0,ne56_0,ce56_0,rfl,fe56_0⟩ := wfv_slc ve56_0
            have lfe56_0 := fe56_0.1
            obtain rfl := wfl_nil we56_0
            refine tx 6 [(0,.g [.K 4 0,.K 4 1,.K 4 2,.K 4 3,.K 4 4,.K 4 5,.K 4 6]),(1,gz),(2,.g [.K 1 10]),(3,gz),(4,.ix),(5,.g [.X (.slice Ae56_0 ne56_0 ce56_0)]),(7,.g [.K 5 0,.K 5 1,.K 5 2]),(8,.g [.K 4 0,.K 4 1,.K 4 2,.K 4 3,.K 4 4,.K 4 5,.K 4 6]),(10,.g [.K 5 0,.K 5 1,.K 5 2]),(11,.g [.K 5 0,.K 5 1,.K 5 2]),(12,gz),(13,.g [.K 1 10]),(14,gz),(15,.ix),(16,.g [.X (.slice Ae56_0 ne56_0 ce56_0)])] [(1,pt b1 0),(3,bT),(4,pt b15 0),(6,iw zL20_6),(10,pt b44 0),(11,pt b45 0),(12,iw zL51_12),(76,.agg #[iw zra_0y43,iw zra_1y43,iw zra_2y43,iw zra_3y43,.slice Ara_4y43 nra_4y43 cra_4y43,.string sra_5y43,.slice Ara_6y43 nra_6y43 cra_6y43]),(81,.agg #[.slice Ae56_0 ne56_0 ce56_0]),(83,.agg #[iw 4,iw zra_0y30,iw 0]),(84,.agg #[iw zra_0y43,iw zra_1y43,iw zra_2y43,iw zra_3y43,.slice Ara_4y43 nra_4y43 cra_4y43,.string sra_5y43,.slice Ara_6y43 nra_6y43 cra_6y43]),(86,.agg #[iw 4,iw zra_0y30,iw 0]),(87,.agg #[iw 4,iw zra_0y30,iw 0]),(92,.agg #[.slice Ae56_0 ne56_0 ce56_0])] (ex1 (And.intro je56 ie56) (ex1 (cell0 (he56 0 _ rfl)) (ex1 (And.intro je56 ie56) (ex1 (cell0 (he56 0 _ rfl)) ex0)))) rfl ?_
            obtain ⟨gl57,fl57⟩ := WfS.lst fe56_0
            refine on 6 5 rfl (ca (some 82) (c8 _ H52 zra_0y43 zra_1y43 zra_2y43 zra_3y43 Ara_4y43 (nra_4y43) (cra_4y43) gra_4y43 sra_5y43 Ara_6y43 (nra_6y43) (cra_6y43) kra_6y43 Ae56_0 (ne56_0) (ce56_0) gl57 (LstIs.mono le53 hra_4y43) tra_5y43 (KidsIs.mono le53 hra_6y43) fl57 (Nat.le_refl _)) ?_)
            rintro v58 H59 k61 le60 ⟨zra_0y62,rfl,py62_0⟩
            refine ws [0,1,2,3,4,5] le60 ?_
            refine on 9 4 rfl (ca (some 85) (c9 H59 4 zra_0y30 0 zra_0y43 zra_1y43 zra_2y43 zra_3y43 Ara_4y43 (nra_4y43) (cra_4y43) gra_4y43 sra_5y43 Ara_6y43 (nra_6y43) (cra_6y43) kra_6y43 (LstIs.mono (tr le53 le60) hra_4y43) tra_5y43 (KidsIs.mono (tr le53 le60) hra_6y43) (by omega) py43_1) ?_)
            rintro v63 H64 k66 le65 ⟨zra_0y67,zra_1y67,zra_2y67,zra_3y67,Ara_4y67,nra_4y67,cra_4y67,gra_4y67,sra_5y67,Ara_6y67,nra_6y67,cra_6y67,kra_6y67,rfl,hra_4y67,tra_5y67,hra_6y67,py67_0⟩
            have lhra_4y67 := hra_4y67.2.1
            have mhra_4y67 := hra_4y67.1
            have lhra_6y67 := hra_6y67.2.1
            have mhra_6y67 := hra_6y67.1
            refine ws [0,1,2,3,4,5] (tr le60 le65) ?_
            refine on 17 3 rfl (ca (some 93) (c11 H64 4 zra_0y30 0 Ae56_0 (ne56_0) (ce56_0) gl57 (LstIs.mono (tr le60 le65) fl57) (by omega)) ?_)
            rintro v68 H69 k71 le70 ⟨bra_0y72,zra_1y72,sra_2y72,rfl,tra_2y72,py72_0⟩
            refine ws [0,1,2,3,4,5] (tr le60 (tr le65 le70)) ?_
            refine on 18 2 rfl (ca (some 94) (c10 H69 4 zra_0y30 0 bra_0y72 zra_1y72 sra_2y72 tra_2y72) ?_)
            rintro v73 H74 k76 le75 ⟨Ara_0y77,nra_0y77,cra_0y77,gra_0y77,rfl,hra_0y77,py77_0⟩
            have lhra_0y77 := hra_0y77.2.1
            have mhra_0y77 := hra_0y77.1
            refine ws [0,1,2,3,4,5] (tr le60 (tr le65 (tr le70 le75))) ?_
            refine on 19 1 rfl (ca (some 95) (c8 _ H74 zra_0y67 zra_1y67 zra_2y67 zra_3y67 Ara_4y67 (nra_4y67) (cra_4y67) gra_4y67 sra_5y67 Ara_6y67 (nra_6y67) (cra_6y67) kra_6y67 Ara_0y77 (nra_0y77) (cra_0y77) gra_0y77 (LstIs.mono (tr le70 le75) hra_4y67) tra_5y67 (KidsIs.mono (tr le70 le75) hra_6y67) hra_0y77 (Nat.le_refl _)) ?_)
            rintro v78 H79 k81 le80 ⟨zra_0y82,rfl,py82_0⟩
            refine ws [0,1,2,3,4,5] (tr le60 (tr le65 (tr le70 (tr le75 le80)))) ?_
            refine tk 0 [(20,gz)] [(1,pt b1 0),(3,bT),(4,pt b15 0),(6,iw zL20_6),(10,pt b44 0),(11,pt b45 0),(12,iw zL51_12),(96,.bool (zra_0y62 != zra_0y82))] rfl ?_
            refine dn (cd (zra_0y62 != zra_0y82) (fun h83 => ?_) (fun h83 => ?_))
            · exact absurd h83 (by rw [exact_law (py43_0 _ (AllId.lit pf38)) py67_0 py62_0 py82_0 py72_0 py77_0]; simp)
            refine Ok.skip_ (Ok.blkN (Ok.thenN (Ok.reg ?_)))
            have k85 := wid (x := zL51_12 + 1) (by omega)
            refine g0 3 [(1,pt b1 0),(3,bT),(4,pt b15 0),(6,iw zL20_6),(10,pt b44 0),(11,pt b45 0),(12,iw (w64 (zL51_12 + 1)))] [gz,gz,gz] rfl (en rfl (Ok.restr [1,3,4,6,10,11,12] [(1,pt b1 0),(3,bT),(4,pt b15 0),(6,iw zL20_6),(10,pt b44 0),(11,pt b45 0),(12,iw (w64 (zL51_12 + 1)))] rfl ?_))
            exact Ok.again _ ⟨(w64 (zL51_12 + 1)),rfl,rfl,rfl,(tr le53 (tr le60 (tr le65 (tr le70 (tr le75 le80))))),by omega,by omega⟩ (by omega)
          have h55 := of_decide_eq_false h55
          refine Ok.exit_ (Ok.thenE (Ok.thenE (Ok.blkE (Ok.blkN (Ok.thenN (Ok.reg ?_))))))
          have k87 := wid (x := zL20_6 + 1) (by omega)
          refine g0 3 [(1,pt b1 0),(3,bT),(4,pt b15 0),(6,iw (w64 (zL20_6 + 1)))] [gz,gz,gz] rfl (en rfl (Ok.restr [1,3,4,6] [(1,pt b1 0),(3,bT),(4,pt b15 0),(6,iw (w64 (zL20_6 + 1)))] rfl (Ok.mask [true,true,false,false,false,false] [.blk b1 [.slice Aa_0 na_0 ca_0,.slice Aa_1 na_1 ca_1,iw za_2,iw za_3,iw za_4,iw za_5,.slice Aa_6 na_6 ca_6,.string sa_7,.slice Aa_8 na_8 ca_8,.slice Aa_9 na_9 ca_9] 30,.blk b15 [.slice Ara_0y14 nra_0y14 cra_0y14,iw zra_1y14,.slice Ara_2y14 nra_2y14 cra_2y14,iw zra_3y14,iw zra_4y14,iw zra_5y14,iw zra_6y14,.slice Ara_7y14 nra_7y14 cra_7y14,.string sra_8y14,.slice Ara_9y14 nra_9y14 cra_9y14,.slice Ara_10y14 nra_10y14 cra_10y14] 37] rfl ?_)))
          exact Ok.again _ ⟨(w64 (zL20_6 + 1)),rfl,rfl,rfl,(tr le22 (tr le28 (tr le37 (tr le41 le53)))),by omega,by omega⟩ (by omega)
        refine skn (sr (g0 1 [(1,pt b1 0),(3,bT),(4,pt b15 0),(6,iw zL20_6),(10,pt b44 0),(11,pt b45 0),(12,iw 0)] [gz] rfl (en rfl (Ok.blk (Ok.restr [1,3,4,6,10,11,12] [(1,pt b1 0),(3,bT),(4,pt b15 0),(6,iw zL20_6),(10,pt b44 0),(11,pt b45 0),(12,iw 0)] rfl (Ok.loop (fun H' fr kb m => ∃ (zL89_12 : Int),fr = [(1,pt b1 0),(3,bT),(4,pt b15 0),(6,iw zL20_6),(10,pt b44 0),(11,pt b45 0),(12,iw zL89_12)] ∧ kb = [.blk b1 [.slice Aa_0 na_0 ca_0,.slice Aa_1 na_1 ca_1,iw za_2,iw za_3,iw za_4,iw za_5,.slice Aa_6 na_6 ca_6,.string sa_7,.slice Aa_8 na_8 ca_8,.slice Aa_9 na_9 ca_9] 30,.blk b15 [.slice Ara_0y14 nra_0y14 cra_0y14,iw zra_1y14,.slice Ara_2y14 nra_2y14 cra_2y14,iw zra_3y14,iw zra_4y14,iw zra_5y14,iw zra_6y14,.slice Ara_7y14 nra_7y14 cra_7y14,.string sra_8y14,.slice Ara_9y14 nra_9y14 cra_9y14,.slice Ara_10y14 nra_10y14 cra_10y14] 37,.blk b31 [iw zra_0y30,.string sra_1y30,iw zra_2y30,iw zra_3y30] 41,.blk (b34+1) [sl b34 0 1 1,iw (w64 (zra_0y30 + 1))] 34,.blk b44 [iw zra_0y43,iw zra_1y43,iw zra_2y43,iw zra_3y43,.slice Ara_4y43 nra_4y43 cra_4y43,.string sra_5y43,.slice Ara_6y43 nra_6y43 cra_6y43] 27,.blk b45 [iw 1,iw zra_0y30,iw 0] 45] ∧ m = ((((nra_10y14 : Nat) : Int)) - zL89_12).toNat ∧ SLe H40 H' ∧ 0 ≤ zL89_12 ∧ zL89_12 ≤ ((nra_10y14 : Nat) : Int)) _ ⟨0,rfl,rfl,rfl,SLe.refl _,by decide,by omega⟩ ?_))))))
        rintro H90 _ _ mL89 ⟨zL89_12,rfl,rfl,hmL89,le91,fL89_0,fL89_1⟩
        refine Ok.seq (sr (g0 5 [(1,pt b1 0),(3,bT),(4,pt b15 0),(6,iw zL20_6),(10,pt b44 0),(11,pt b45 0),(12,iw zL89_12),(73,.bool (decide (zL89_12 < ((nra_10y14 : Nat) : Int))))] [gz,gz,.g [.K 1 10],gz,gz] rfl (en rfl (cd (decide (zL89_12 < ((nra_10y14 : Nat) : Int))) (fun h93 => ?_) (fun h93 => ?_)))))
        · have h93 := of_decide_eq_true h93
          refine skn (Ok.seq (Ok.blk (Ok.seq (st [0,1,2,3,4,5] [] 21 ?_))))
          have ie94 : 0 ≤ zL89_12 ∧ zL89_12 < ((nra_10y14 : Nat) : Int) := by omega
          obtain ⟨je94,cse94,we94,he94⟩ := (WfS.mono (tr le22 (tr le28 (tr le37 (tr le41 le91)))) hra_10y14).at_ zL89_12 ie94.1 ie94.2
          obtain ⟨ue94_0,le94_0,rfl,ve94_0,we94_0⟩ := wfl_cons we94
          obtain ⟨Ae94_0,ne94_0,ce94_0,rfl,fe94_0⟩ := wfv_slc ve94_0
          have lfe94_0 := fe94_0.1
          obtain rfl := wfl_nil we94_0
          refine tx 6 [(0,.g [.K 4 0,.K 4 1,.K 4 2,.K 4 3,.K 4 4,.K 4 5,.K 4 6]),(1,gz),(2,.g [.K 1 10]),(3,gz),(4,.ix),(5,.g [.X (.slice Ae94_0 ne94_0 ce94_0)]),(7,.g [.K 5 0,.K 5 1,.K 5 2]),(8,.g [.K 4 0,.K 4 1,.K 4 2,.K 4 3,.K 4 4,.K 4 5,.K 4 6]),(10,.g [.K 5 0,.K 5 1,.K 5 2]),(11,.g [.K 5 0,.K 5 1,.K 5 2]),(12,gz),(13,.g [.K 1 10]),(14,gz),(15,.ix),(16,.g [.X (.slice Ae94_0 ne94_0 ce94_0)])] [(1,pt b1 0),(3,bT),(4,pt b15 0),(6,iw zL20_6),(10,pt b44 0),(11,pt b45 0),(12,iw zL89_12),(76,.agg #[iw zra_0y43,iw zra_1y43,iw zra_2y43,iw zra_3y43,.slice Ara_4y43 nra_4y43 cra_4y43,.string sra_5y43,.slice Ara_6y43 nra_6y43 cra_6y43]),(81,.agg #[.slice Ae94_0 ne94_0 ce94_0]),(83,.agg #[iw 1,iw zra_0y30,iw 0]),(84,.agg #[iw zra_0y43,iw zra_1y43,iw zra_2y43,iw zra_3y43,.slice Ara_4y43 nra_4y43 cra_4y43,.string sra_5y43,.slice Ara_6y43 nra_6y43 cra_6y43]),(86,.agg #[iw 1,iw zra_0y30,iw 0]),(87,.agg #[iw 1,iw zra_0y30,iw 0]),(92,.agg #[.slice Ae94_0 ne94_0 ce94_0])] (ex1 (And.intro je94 ie94) (ex1 (cell0 (he94 0 _ rfl)) (ex1 (And.intro je94 ie94) (ex1 (cell0 (he94 0 _ rfl)) ex0)))) rfl ?_
          obtain ⟨gl95,fl95⟩ := WfS.lst fe94_0
          refine on 6 5 rfl (ca (some 82) (c8 _ H90 zra_0y43 zra_1y43 zra_2y43 zra_3y43 Ara_4y43 (nra_4y43) (cra_4y43) gra_4y43 sra_5y43 Ara_6y43 (nra_6y43) (cra_6y43) kra_6y43 Ae94_0 (ne94_0) (ce94_0) gl95 (LstIs.mono le91 hra_4y43) tra_5y43 (KidsIs.mono le91 hra_6y43) fl95 (Nat.le_refl _)) ?_)
          rintro v96 H97 k99 le98 ⟨zra_0y100,rfl,py100_0⟩
          refine ws [0,1,2,3,4,5] le98 ?_
          refine on 9 4 rfl (ca (some 85) (c9 H97 1 zra_0y30 0 zra_0y43 zra_1y43 zra_2y43 zra_3y43 Ara_4y43 (nra_4y43) (cra_4y43) gra_4y43 sra_5y43 Ara_6y43 (nra_6y43) (cra_6y43) kra_6y43 (LstIs.mono (tr le91 le98) hra_4y43) tra_5y43 (KidsIs.mono (tr le91 le98) hra_6y43) (by omega) py43_1) ?_)
          rintro v101 H102 k104 le103 ⟨zra_0y105,zra_1y105,zra_2y105,zra_3y105,Ara_4y105,nra_4y105,cra_4y105,gra_4y105,sra_5y105,Ara_6y105,nra_6y105,cra_6y105,kra_6y105,rfl,hra_4y105,tra_5y105,hra_6y105,py105_0⟩
          have lhra_4y105 := hra_4y105.2.1
          have mhra_4y105 := hra_4y105.1
          have lhra_6y105 := hra_6y105.2.1
          have mhra_6y105 := hra_6y105.1
          refine ws [0,1,2,3,4,5] (tr le98 le103) ?_
          refine on 17 3 rfl (ca (some 93) (c11 H102 1 zra_0y30 0 Ae94_0 (ne94_0) (ce94_0) gl95 (LstIs.mono (tr le98 le103) fl95) (by omega)) ?_)
          rintro v106 H107 k109 le108 ⟨bra_0y110,zra_1y110,sra_2y110,rfl,tra_2y110,py110_0⟩
          refine ws [0,1,2,3,4,5] (tr le98 (tr le103 le108)) ?_
          refine on 18 2 rfl (ca (some 94) (c10 H107 1 zra_0y30 0 bra_0y110 zra_1y110 sra_2y110 tra_2y110) ?_)
          rintro v111 H112 k114 le113 ⟨Ara_0y115,nra_0y115,cra_0y115,gra_0y115,rfl,hra_0y115,py115_0⟩
          have lhra_0y115 := hra_0y115.2.1
          have mhra_0y115 := hra_0y115.1
          refine ws [0,1,2,3,4,5] (tr le98 (tr le103 (tr le108 le113))) ?_
          refine on 19 1 rfl (ca (some 95) (c8 _ H112 zra_0y105 zra_1y105 zra_2y105 zra_3y105 Ara_4y105 (nra_4y105) (cra_4y105) gra_4y105 sra_5y105 Ara_6y105 (nra_6y105) (cra_6y105) kra_6y105 Ara_0y115 (nra_0y115) (cra_0y115) gra_0y115 (LstIs.mono (tr le108 le113) hra_4y105) tra_5y105 (KidsIs.mono (tr le108 le113) hra_6y105) hra_0y115 (Nat.le_refl _)) ?_)
          rintro v116 H117 k119 le118 ⟨zra_0y120,rfl,py120_0⟩
          refine ws [0,1,2,3,4,5] (tr le98 (tr le103 (tr le108 (tr le113 le118)))) ?_
          refine tk 0 [(20,gz)] [(1,pt b1 0),(3,bT),(4,pt b15 0),(6,iw zL20_6),(10,pt b44 0),(11,pt b45 0),(12,iw zL89_12),(96,.bool (zra_0y100 != zra_0y120))] rfl ?_
          refine dn (cd (zra_0y100 != zra_0y120) (fun h121 => ?_) (fun h121 => ?_))
          · exact absurd h121 (by rw [exact_law (py43_0 _ (AllId.lit pf38)) py105_0 py100_0 py120_0 py110_0 py115_0]; simp)
          refine Ok.skip_ (Ok.blkN (Ok.thenN (Ok.reg ?_)))
          have k123 := wid (x := zL89_12 + 1) (by omega)
          refine g0 3 [(1,pt b1 0),(3,bT),(4,pt b15 0),(6,iw zL20_6),(10,pt b44 0),(11,pt b45 0),(12,iw (w64 (zL89_12 + 1)))] [gz,gz,gz] rfl (en rfl (Ok.restr [1,3,4,6,10,11,12] [(1,pt b1 0),(3,bT),(4,pt b15 0),(6,iw zL20_6),(10,pt b44 0),(11,pt b45 0),(12,iw (w64 (zL89_12 + 1)))] rfl ?_))
          exact Ok.again _ ⟨(w64 (zL89_12 + 1)),rfl,rfl,rfl,(tr le91 (tr le98 (tr le103 (tr le108 (tr le113 le118))))),by omega,by omega⟩ (by omega)
        have h93 := of_decide_eq_false h93
        refine Ok.exit_ (Ok.thenE (Ok.thenE (Ok.blkE (Ok.blkN (Ok.thenN (Ok.reg ?_))))))
        have k125 := wid (x := zL20_6 + 1) (by omega)
        refine g0 3 [(1,pt b1 0),(3,bT),(4,pt b15 0),(6,iw (w64 (zL20_6 + 1)))] [gz,gz,gz] rfl (en rfl (Ok.restr [1,3,4,6] [(1,pt b1 0),(3,bT),(4,pt b15 0),(6,iw (w64 (zL20_6 + 1)))] rfl (Ok.mask [true,true,false,false,false,false] [.blk b1 [.slice Aa_0 na_0 ca_0,.slice Aa_1 na_1 ca_1,iw za_2,iw za_3,iw za_4,iw za_5,.slice Aa_6 na_6 ca_6,.string sa_7,.slice Aa_8 na_8 ca_8,.slice Aa_9 na_9 ca_9] 30,.blk b15 [.slice Ara_0y14 nra_0y14 cra_0y14,iw zra_1y14,.slice Ara_2y14 nra_2y14 cra_2y14,iw zra_3y14,iw zra_4y14,iw zra_5y14,iw zra_6y14,.slice Ara_7y14 nra_7y14 cra_7y14,.string sra_8y14,.slice Ara_9y14 nra_9y14 cra_9y14,.slice Ara_10y14 nra_10y14 cra_10y14] 37] rfl ?_)))
        exact Ok.again _ ⟨(w64 (zL20_6 + 1)),rfl,rfl,rfl,(tr le22 (tr le28 (tr le37 (tr le41 le91)))),by omega,by omega⟩ (by omega)
      refine g0 4 [(1,pt b1 0),(3,bT),(4,pt b15 0),(6,iw zL20_6),(10,pt b44 0),(11,pt b45 0),(63,.bool (zra_2y30 == 5))] [gz,.g [.K 2 2],gz,gz] rfl (cs (zra_2y30 == 5) [63] (fun h127 => ?_) (fun h127 => ?_))
      · have h127 := eq_of_beq h127
        have tm129 := tmod_lit zL20_6 2 (by decide)
        refine g0 8 [(1,pt b1 0),(3,bT),(4,pt b15 0),(6,iw zL20_6),(10,pt b44 0),(11,pt b45 0),(67,.bool ((Int.tmod zL20_6 2) == 1))] [gz,gz,gz,gz] rfl (Ok.segEnd rfl (Ok.restr [1,3,4,6,10,11,67] [(1,pt b1 0),(3,bT),(4,pt b15 0),(6,iw zL20_6),(10,pt b44 0),(11,pt b45 0),(67,.bool ((Int.tmod zL20_6 2) == 1))] rfl ?_))
        exact J46 (((Int.tmod zL20_6 2) == 1))
      have h127 := ne_of_beq_false h127
      refine g0 8 [(1,pt b1 0),(3,bT),(4,pt b15 0),(6,iw zL20_6),(10,pt b44 0),(11,pt b45 0),(67,bF)] [gz,gz,gz,gz] rfl (Ok.segEnd rfl (Ok.restr [1,3,4,6,10,11,67] [(1,pt b1 0),(3,bT),(4,pt b15 0),(6,iw zL20_6),(10,pt b44 0),(11,pt b45 0),(67,bF)] rfl ?_))
      exact J46 (false)
    refine (e4 (.g [.N]) (fun b131 => [(1,pt b1 0),(3,bT),(4,pt b15 0),(6,iw zL20_6),(7,pt b131 0),(31,.agg #[.slice Ara_0y14 nra_0y14 cra_0y14,iw zra_1y14]),(37,iw ze25_1)]) (fun b131 => [.blk b1 [.slice Aa_0 na_0 ca_0,.slice Aa_1 na_1 ca_1,iw za_2,iw za_3,iw za_4,iw za_5,.slice Aa_6 na_6 ca_6,.string sa_7,.slice Aa_8 na_8 ca_8,.slice Aa_9 na_9 ca_9] 30,.blk b15 [.slice Ara_0y14 nra_0y14 cra_0y14,iw zra_1y14,.slice Ara_2y14 nra_2y14 cra_2y14,iw zra_3y14,iw zra_4y14,iw zra_5y14,iw zra_6y14,.slice Ara_7y14 nra_7y14 cra_7y14,.string sra_8y14,.slice Ara_9y14 nra_9y14 cra_9y14,.slice Ara_10y14 nra_10y14 cra_10y14] 37,.blk b131 [iw 0,s0,iw 0,iw 0] 41]) (fun b131 => ?_))
    refine ws [0,1] (SLe.refl _) ?_
    refine on 8 5 rfl (ca (some 38) (c6 H21 Ara_0y14 (nra_0y14) (cra_0y14) zra_1y14 ze25_1 (WfS.mono le22 hra_0y14)) ?_)
    rintro v132 H133 k135 le134 ⟨zra_0y136,sra_1y136,zra_2y136,zra_3y136,brb_0y136,rfl,tra_1y136⟩
    refine ws [0,1] le134 ?_
    refine tk 2 [(9,gz),(10,gz),(11,gz)] [(1,pt b1 0),(3,bT),(4,pt b15 0),(6,iw zL20_6),(7,pt b131 0),(39,.agg #[iw zra_0y136,.string sra_1y136,iw zra_2y136,iw zra_3y136]),(40,.bool brb_0y136)] rfl ?_
    refine on 13 1 rfl (e1 (.g [.K 2 0,.K 2 1,.K 2 2,.K 2 3]) [(1,pt b1 0),(3,bT),(4,pt b15 0),(6,iw zL20_6),(7,pt b131 0),(40,.bool brb_0y136)] [.blk b1 [.slice Aa_0 na_0 ca_0,.slice Aa_1 na_1 ca_1,iw za_2,iw za_3,iw za_4,iw za_5,.slice Aa_6 na_6 ca_6,.string sa_7,.slice Aa_8 na_8 ca_8,.slice Aa_9 na_9 ca_9] 30,.blk b15 [.slice Ara_0y14 nra_0y14 cra_0y14,iw zra_1y14,.slice Ara_2y14 nra_2y14 cra_2y14,iw zra_3y14,iw zra_4y14,iw zra_5y14,iw zra_6y14,.slice Ara_7y14 nra_7y14 cra_7y14,.string sra_8y14,.slice Ara_9y14 nra_9y14 cra_9y14,.slice Ara_10y14 nra_10y14 cra_10y14] 37,.blk b131 [iw zra_0y136,.string sra_1y136,iw zra_2y136,iw zra_3y136] 41] ?_)
    refine ws [0,1] le134 ?_
    refine on 14 0 rfl (e0 (gz) [(1,pt b1 0),(3,bT),(4,pt b15 0),(6,iw zL20_6),(7,pt b131 0)] ?_)
    refine ws [0,1] le134 ?_
    refine dn (sr (g4 14 (fun b139 => [(1,pt b1 0),(3,bT),(4,pt b15 0),(6,iw zL20_6),(7,pt b131 0),(9,pt (b139+1) 0)]) (fun b139 => [.blk b1 [.slice Aa_0 na_0 ca_0,.slice Aa_1 na_1 ca_1,iw za_2,iw za_3,iw za_4,iw za_5,.slice Aa_6 na_6 ca_6,.string sa_7,.slice Aa_8 na_8 ca_8,.slice Aa_9 na_9 ca_9] 30,.blk b15 [.slice Ara_0y14 nra_0y14 cra_0y14,iw zra_1y14,.slice Ara_2y14 nra_2y14 cra_2y14,iw zra_3y14,iw zra_4y14,iw zra_5y14,iw zra_6y14,.slice Ara_7y14 nra_7y14 cra_7y14,.string sra_8y14,.slice Ara_9y14 nra_9y14 cra_9y14,.slice Ara_10y14 nra_10y14 cra_10y14] 37,.blk b131 [iw zra_0y136,.string sra_1y136,iw zra_2y136,iw zra_3y136] 41,.blk b139 [iw zra_0y136,.string sra_1y136,iw zra_2y136,iw 0] 41,.blk (b139+1) [sl b139 0 1 1,iw (w64 (zra_0y136 + 1))] 34]) [gz,.g [.K 2 0],gz,gz,.g [.K 2 0],gz,.g [.K 2 1],gz,.g [.K 2 2],gz,.g [.N],gz,.g [.N],.g [.K 4 0,.K 4 1]] rfl (fun b139 => (en rfl ?_))))
    refine sr (g0 3 [(1,pt b1 0),(3,bT),(4,pt b15 0),(6,iw zL20_6),(7,pt b131 0),(53,.agg #[sl b139 0 1 1,iw (w64 (zra_0y136 + 1))]),(55,.agg #[iw za_2,iw za_3,iw za_4,iw za_5,.slice Aa_6 na_6 ca_6,.string sa_7,.slice Aa_8 na_8 ca_8])] [.g [.K 4 0,.K 4 1],gz,.g [.K 0 2,.K 0 3,.K 0 4,.K 0 5,.K 0 6,.K 0 7,.K 0 8]] rfl (Ok.pubP 3 rfl [.blk b1 [.slice Aa_0 na_0 ca_0,.slice Aa_1 na_1 ca_1,iw za_2,iw za_3,iw za_4,iw za_5,.slice Aa_6 na_6 ca_6,.string sa_7,.slice Aa_8 na_8 ca_8,.slice Aa_9 na_9 ca_9] 30,.blk b15 [.slice Ara_0y14 nra_0y14 cra_0y14,iw zra_1y14,.slice Ara_2y14 nra_2y14 cra_2y14,iw zra_3y14,iw zra_4y14,iw zra_5y14,iw zra_6y14,.slice Ara_7y14 nra_7y14 cra_7y14,.string sra_8y14,.slice Ara_9y14 nra_9y14 cra_9y14,.slice Ara_10y14 nra_10y14 cra_10y14] 37,.blk b131 [iw zra_0y136,.string sra_1y136,iw zra_2y136,iw zra_3y136] 41,.blk (b139+1) [sl b139 0 1 1,iw (w64 (zra_0y136 + 1))] 34] rfl ?_))
    intro H141 le142 pf143
    refine ef 4 rfl (ca (some 56) (c7 H141 (some ⟨b139,0,none⟩) 1 1 (w64 (zra_0y136 + 1)) za_2 za_3 za_4 za_5 Aa_6 (na_6) (ca_6) ga_6 sa_7 Aa_8 (na_8) (ca_8) ka_8 (WfS.of_pre (xs := [iw zra_0y136,.string sra_1y136,iw zra_2y136,iw 0]) pf143 (Elems.snoc (Elems.nil el41) (mkl_cons (mkv_int _ _) (mkl_cons (mkv_str _ tra_1y136) (mkl_cons (mkv_int _ _) (mkl_cons (mkv_int _ _) mkl_nil))))) (by decide)) (LstIs.mono (tr le5 (tr le12 (tr le22 (tr le134 le142)))) ha_6) ta_7 (KidsIs.mono (tr le5 (tr le12 (tr le22 (tr le134 le142)))) ha_8) (by omega)) ?_)
    rintro v144 H145 k147 le146 ⟨zra_0y148,zra_1y148,zra_2y148,zra_3y148,Ara_4y148,nra_4y148,cra_4y148,gra_4y148,sra_5y148,Ara_6y148,nra_6y148,cra_6y148,kra_6y148,rfl,hra_4y148,tra_5y148,hra_6y148,py148_0,py148_1⟩
    have lhra_4y148 := hra_4y148.2.1
    have mhra_4y148 := hra_4y148.1
    have lhra_6y148 := hra_6y148.2.1
    have mhra_6y148 := hra_6y148.1
    refine g4 6 (fun b149 => [(1,pt b1 0),(3,bT),(4,pt b15 0),(6,iw zL20_6),(7,pt b131 0),(10,pt b149 0)]) (fun b149 => [.blk b1 [.slice Aa_0 na_0 ca_0,.slice Aa_1 na_1 ca_1,iw za_2,iw za_3,iw za_4,iw za_5,.slice Aa_6 na_6 ca_6,.string sa_7,.slice Aa_8 na_8 ca_8,.slice Aa_9 na_9 ca_9] 30,.blk b15 [.slice Ara_0y14 nra_0y14 cra_0y14,iw zra_1y14,.slice Ara_2y14 nra_2y14 cra_2y14,iw zra_3y14,iw zra_4y14,iw zra_5y14,iw zra_6y14,.slice Ara_7y14 nra_7y14 cra_7y14,.string sra_8y14,.slice Ara_9y14 nra_9y14 cra_9y14,.slice Ara_10y14 nra_10y14 cra_10y14] 37,.blk b131 [iw zra_0y136,.string sra_1y136,iw zra_2y136,iw zra_3y136] 41,.blk (b139+1) [sl b139 0 1 1,iw (w64 (zra_0y136 + 1))] 34,.blk b149 [iw zra_0y148,iw zra_1y148,iw zra_2y148,iw zra_3y148,.slice Ara_4y148 nra_4y148 cra_4y148,.string sra_5y148,.slice Ara_6y148 nra_6y148 cra_6y148] 27]) [.g [.N],.g [.K 4 0,.K 4 1,.K 4 2,.K 4 3,.K 4 4,.K 4 5,.K 4 6]] rfl (fun b149 => (en rfl ?_))
    refine sr (g4 5 (fun b150 => [(1,pt b1 0),(3,bT),(4,pt b15 0),(6,iw zL20_6),(7,pt b131 0),(10,pt b149 0),(11,pt b150 0)]) (fun b150 => [.blk b1 [.slice Aa_0 na_0 ca_0,.slice Aa_1 na_1 ca_1,iw za_2,iw za_3,iw za_4,iw za_5,.slice Aa_6 na_6 ca_6,.string sa_7,.slice Aa_8 na_8 ca_8,.slice Aa_9 na_9 ca_9] 30,.blk b15 [.slice Ara_0y14 nra_0y14 cra_0y14,iw zra_1y14,.slice Ara_2y14 nra_2y14 cra_2y14,iw zra_3y14,iw zra_4y14,iw zra_5y14,iw zra_6y14,.slice Ara_7y14 nra_7y14 cra_7y14,.string sra_8y14,.slice Ara_9y14 nra_9y14 cra_9y14,.slice Ara_10y14 nra_10y14 cra_10y14] 37,.blk b131 [iw zra_0y136,.string sra_1y136,iw zra_2y136,iw zra_3y136] 41,.blk (b139+1) [sl b139 0 1 1,iw (w64 (zra_0y136 + 1))] 34,.blk b149 [iw zra_0y148,iw zra_1y148,iw zra_2y148,iw zra_3y148,.slice Ara_4y148 nra_4y148 cra_4y148,.string sra_5y148,.slice Ara_6y148 nra_6y148 cra_6y148] 27,.blk b150 [iw 1,iw zra_0y136,iw 0] 45]) [gz,.g [.K 2 0],gz,.g [.N],.g [.K 5 0,.K 5 1,.K 5 2]] rfl (fun b150 => (en rfl ?_)))
    refine Ok.seq (Ok.seq (Ok.regJ (ι := Bool) (fun y152 => [(1,pt b1 0),(3,bT),(4,pt b15 0),(6,iw zL20_6),(10,pt b149 0),(11,pt b150 0),(67,.bool y152)]) ?_ (fun J151 => ?_)))
    · rintro bJ151_67
      refine Ok.thenN (cd bJ151_67 (fun h153 => ?_) (fun h153 => ?_))
      · refine Ok.reg (g1 2 [(1,pt b1 0),(3,bT),(4,pt b15 0),(6,iw zL20_6),(10,pt b149 0),(11,pt b150 0)] [.blk b1 [.slice Aa_0 na_0 ca_0,.slice Aa_1 na_1 ca_1,iw za_2,iw za_3,iw za_4,iw za_5,.slice Aa_6 na_6 ca_6,.string sa_7,.slice Aa_8 na_8 ca_8,.slice Aa_9 na_9 ca_9] 30,.blk b15 [.slice Ara_0y14 nra_0y14 cra_0y14,iw zra_1y14,.slice Ara_2y14 nra_2y14 cra_2y14,iw zra_3y14,iw zra_4y14,iw zra_5y14,iw zra_6y14,.slice Ara_7y14 nra_7y14 cra_7y14,.string sra_8y14,.slice Ara_9y14 nra_9y14 cra_9y14,.slice Ara_10y14 nra_10y14 cra_10y14] 37,.blk b131 [iw zra_0y136,.string sra_1y136,iw zra_2y136,iw zra_3y136] 41,.blk (b139+1) [sl b139 0 1 1,iw (w64 (zra_0y136 + 1))] 34,.blk b149 [iw zra_0y148,iw zra_1y148,iw zra_2y148,iw zra_3y148,.slice Ara_4y148 nra_4y148 cra_4y148,.string sra_5y148,.slice Ara_6y148 nra_6y148 cra_6y148] 27,.blk b150 [iw 4,iw zra_0y136,iw 0] 45] [gz,.g [.K 5 0]] rfl (en rfl (sr (g0 1 [(1,pt b1 0),(3,bT),(4,pt b15 0),(6,iw zL20_6),(10,pt b149 0),(11,pt b150 0),(12,iw 0)] [gz] rfl (en rfl (Ok.blk (Ok.restr [1,3,4,6,10,11,12] [(1,pt b1 0),(3,bT),(4,pt b15 0),(6,iw zL20_6),(10,pt b149 0),(11,pt b150 0),(12,iw 0)] rfl (Ok.loop (fun H' fr kb m => ∃ (zL156_12 : Int),fr = [(1,pt b1 0),(3,bT),(4,pt b15 0),(6,iw zL20_6),(10,pt b149 0),(11,pt b150 0),(12,iw zL156_12)] ∧ kb = [.blk b1 [.slice Aa_0 na_0 ca_0,.slice Aa_1 na_1 ca_1,iw za_2,iw za_3,iw za_4,iw za_5,.slice Aa_6 na_6 ca_6,.string sa_7,.slice Aa_8 na_8 ca_8,.slice Aa_9 na_9 ca_9] 30,.blk b15 [.slice Ara_0y14 nra_0y14 cra_0y14,iw zra_1y14,.slice Ara_2y14 nra_2y14 cra_2y14,iw zra_3y14,iw zra_4y14,iw zra_5y14,iw zra_6y14,.slice Ara_7y14 nra_7y14 cra_7y14,.string sra_8y14,.slice Ara_9y14 nra_9y14 cra_9y14,.slice Ara_10y14 nra_10y14 cra_10y14] 37,.blk b131 [iw zra_0y136,.string sra_1y136,iw zra_2y136,iw zra_3y136] 41,.blk (b139+1) [sl b139 0 1 1,iw (w64 (zra_0y136 + 1))] 34,.blk b149 [iw zra_0y148,iw zra_1y148,iw zra_2y148,iw zra_3y148,.slice Ara_4y148 nra_4y148 cra_4y148,.string sra_5y148,.slice Ara_6y148 nra_6y148 cra_6y148] 27,.blk b150 [iw 4,iw zra_0y136,iw 0] 45] ∧ m = ((((nra_10y14 : Nat) : Int)) - zL156_12).toNat ∧ SLe H145 H' ∧ 0 ≤ zL156_12 ∧ zL156_12 ≤ ((nra_10y14 : Nat) : Int)) _ ⟨0,rfl,rfl,rfl,SLe.refl _,by decide,by omega⟩ ?_))))))))
        rintro H157 _ _ mL156 ⟨zL156_12,rfl,rfl,hmL156,le158,fL156_0,fL156_1⟩
        refine Ok.seq (sr (g0 5 [(1,pt b1 0),(3,bT),(4,pt b15 0),(6,iw zL20_6),(10,pt b149 0),(11,pt b150 0),(12,iw zL156_12),(73,.bool (decide (zL156_12 < ((nra_10y14 : Nat) : Int))))] [gz,gz,.g [.K 1 10],gz,gz] rfl (en rfl (cd (decide (zL156_12 < ((nra_10y14 : Nat) : Int))) (fun h160 => ?_) (fun h160 => ?_)))))
        · have h160 := of_decide_eq_true h160
          refine skn (Ok.seq (Ok.blk (Ok.seq (st [0,1,2,3,4,5] [] 21 ?_))))
          have ie161 : 0 ≤ zL156_12 ∧ zL156_12 < ((nra_10y14 : Nat) : Int) := by omega
          obtain ⟨je161,cse161,we161,he161⟩ := (WfS.mono (tr le22 (tr le134 (tr le142 (tr le146 le158)))) hra_10y14).at_ zL156_12 ie161.1 ie161.2
          obtain ⟨ue161_0,le161_0,rfl,ve161_0,we161_0⟩ := wfl_cons we161
          obtain ⟨Ae161_0,ne161_0,ce161_0,rfl,fe161_0⟩ := wfv_slc ve161_0
          have lfe161_0 := fe161_0.1
          obtain rfl := wfl_nil we161_0
          refine tx 6 [(0,.g [.K 4 0,.K 4 1,.K 4 2,.K 4 3,.K 4 4,.K 4 5,.K 4 6]),(1,gz),(2,.g [.K 1 10]),(3,gz),(4,.ix),(5,.g [.X (.slice Ae161_0 ne161_0 ce161_0)]),(7,.g [.K 5 0,.K 5 1,.K 5 2]),(8,.g [.K 4 0,.K 4 1,.K 4 2,.K 4 3,.K 4 4,.K 4 5,.K 4 6]),(10,.g [.K 5 0,.K 5 1,.K 5 2]),(11,.g [.K 5 0,.K 5 1,.K 5 2]),(12,gz),(13,.g [.K 1 10]),(14,gz),(15,.ix),(16,.g [.X (.slice Ae161_0 ne161_0 ce161_0)])] [(1,pt b1 0),(3,bT),(4,pt b15 0),(6,iw zL20_6),(10,pt b149 0),(11,pt b150 0),(12,iw zL156_12),(76,.agg #[iw zra_0y148,iw zra_1y148,iw zra_2y148,iw zra_3y148,.slice Ara_4y148 nra_4y148 cra_4y148,.string sra_5y148,.slice Ara_6y148 nra_6y148 cra_6y148]),(81,.agg #[.slice Ae161_0 ne161_0 ce161_0]),(83,.agg #[iw 4,iw zra_0y136,iw 0]),(84,.agg #[iw zra_0y148,iw zra_1y148,iw zra_2y148,iw zra_3y148,.slice Ara_4y148 nra_4y148 cra_4y148,.string sra_5y148,.slice Ara_6y148 nra_6y148 cra_6y148]),(86,.agg #[iw 4,iw zra_0y136,iw 0]),(87,.agg #[iw 4,iw zra_0y136,iw 0]),(92,.agg #[.slice Ae161_0 ne161_0 ce161_0])] (ex1 (And.intro je161 ie161) (ex1 (cell0 (he161 0 _ rfl)) (ex1 (And.intro je161 ie161) (ex1 (cell0 (he161 0 _ rfl)) ex0)))) rfl ?_
          obtain ⟨gl162,fl162⟩ := WfS.lst fe161_0
          refine on 6 5 rfl (ca (some 82) (c8 _ H157 zra_0y148 zra_1y148 zra_2y148 zra_3y148 Ara_4y148 (nra_4y148) (cra_4y148) gra_4y148 sra_5y148 Ara_6y148 (nra_6y148) (cra_6y148) kra_6y148 Ae161_0 (ne161_0) (ce161_0) gl162 (LstIs.mono le158 hra_4y148) tra_5y148 (KidsIs.mono le158 hra_6y148) fl162 (Nat.le_refl _)) ?_)
          rintro v163 H164 k166 le165 ⟨zra_0y167,rfl,py167_0⟩
          refine ws [0,1,2,3,4,5] le165 ?_
          refine on 9 4 rfl (ca (some 85) (c9 H164 4 zra_0y136 0 zra_0y148 zra_1y148 zra_2y148 zra_3y148 Ara_4y148 (nra_4y148) (cra_4y148) gra_4y148 sra_5y148 Ara_6y148 (nra_6y148) (cra_6y148) kra_6y148 (LstIs.mono (tr le158 le165) hra_4y148) tra_5y148 (KidsIs.mono (tr le158 le165) hra_6y148) (by omega) py148_1) ?_)
          rintro v168 H169 k171 le170 ⟨zra_0y172,zra_1y172,zra_2y172,zra_3y172,Ara_4y172,nra_4y172,cra_4y172,gra_4y172,sra_5y172,Ara_6y172,nra_6y172,cra_6y172,kra_6y172,rfl,hra_4y172,tra_5y172,hra_6y172,py172_0⟩
          have lhra_4y172 := hra_4y172.2.1
          have mhra_4y172 := hra_4y172.1
          have lhra_6y172 := hra_6y172.2.1
          have mhra_6y172 := hra_6y172.1
          refine ws [0,1,2,3,4,5] (tr le165 le170) ?_
          refine on 17 3 rfl (ca (some 93) (c11 H169 4 zra_0y136 0 Ae161_0 (ne161_0) (ce161_0) gl162 (LstIs.mono (tr le165 le170) fl162) (by omega)) ?_)
          rintro v173 H174 k176 le175 ⟨bra_0y177,zra_1y177,sra_2y177,rfl,tra_2y177,py177_0⟩
          refine ws [0,1,2,3,4,5] (tr le165 (tr le170 le175)) ?_
          refine on 18 2 rfl (ca (some 94) (c10 H174 4 zra_0y136 0 bra_0y177 zra_1y177 sra_2y177 tra_2y177) ?_)
          rintro v178 H179 k181 le180 ⟨Ara_0y182,nra_0y182,cra_0y182,gra_0y182,rfl,hra_0y182,py182_0⟩
          have lhra_0y182 := hra_0y182.2.1
          have mhra_0y182 := hra_0y182.1
          refine ws [0,1,2,3,4,5] (tr le165 (tr le170 (tr le175 le180))) ?_
          refine on 19 1 rfl (ca (some 95) (c8 _ H179 zra_0y172 zra_1y172 zra_2y172 zra_3y172 Ara_4y172 (nra_4y172) (cra_4y172) gra_4y172 sra_5y172 Ara_6y172 (nra_6y172) (cra_6y172) kra_6y172 Ara_0y182 (nra_0y182) (cra_0y182) gra_0y182 (LstIs.mono (tr le175 le180) hra_4y172) tra_5y172 (KidsIs.mono (tr le175 le180) hra_6y172) hra_0y182 (Nat.le_refl _)) ?_)
          rintro v183 H184 k186 le185 ⟨zra_0y187,rfl,py187_0⟩
          refine ws [0,1,2,3,4,5] (tr le165 (tr le170 (tr le175 (tr le180 le185)))) ?_
          refine tk 0 [(20,gz)] [(1,pt b1 0),(3,bT),(4,pt b15 0),(6,iw zL20_6),(10,pt b149 0),(11,pt b150 0),(12,iw zL156_12),(96,.bool (zra_0y167 != zra_0y187))] rfl ?_
          refine dn (cd (zra_0y167 != zra_0y187) (fun h188 => ?_) (fun h188 => ?_))
          · exact absurd h188 (by rw [exact_law (py148_0 _ (AllId.lit pf143)) py172_0 py167_0 py187_0 py177_0 py182_0]; simp)
          refine Ok.skip_ (Ok.blkN (Ok.thenN (Ok.reg ?_)))
          have k190 := wid (x := zL156_12 + 1) (by omega)
          refine g0 3 [(1,pt b1 0),(3,bT),(4,pt b15 0),(6,iw zL20_6),(10,pt b149 0),(11,pt b150 0),(12,iw (w64 (zL156_12 + 1)))] [gz,gz,gz] rfl (en rfl (Ok.restr [1,3,4,6,10,11,12] [(1,pt b1 0),(3,bT),(4,pt b15 0),(6,iw zL20_6),(10,pt b149 0),(11,pt b150 0),(12,iw (w64 (zL156_12 + 1)))] rfl ?_))
          exact Ok.again _ ⟨(w64 (zL156_12 + 1)),rfl,rfl,rfl,(tr le158 (tr le165 (tr le170 (tr le175 (tr le180 le185))))),by omega,by omega⟩ (by omega)
        have h160 := of_decide_eq_false h160
        refine Ok.exit_ (Ok.thenE (Ok.thenE (Ok.blkE (Ok.blkN (Ok.thenN (Ok.reg ?_))))))
        have k192 := wid (x := zL20_6 + 1) (by omega)
        refine g0 3 [(1,pt b1 0),(3,bT),(4,pt b15 0),(6,iw (w64 (zL20_6 + 1)))] [gz,gz,gz] rfl (en rfl (Ok.restr [1,3,4,6] [(1,pt b1 0),(3,bT),(4,pt b15 0),(6,iw (w64 (zL20_6 + 1)))] rfl (Ok.mask [true,true,false,false,false,false] [.blk b1 [.slice Aa_0 na_0 ca_0,.slice Aa_1 na_1 ca_1,iw za_2,iw za_3,iw za_4,iw za_5,.slice Aa_6 na_6 ca_6,.string sa_7,.slice Aa_8 na_8 ca_8,.slice Aa_9 na_9 ca_9] 30,.blk b15 [.slice Ara_0y14 nra_0y14 cra_0y14,iw zra_1y14,.slice Ara_2y14 nra_2y14 cra_2y14,iw zra_3y14,iw zra_4y14,iw zra_5y14,iw zra_6y14,.slice Ara_7y14 nra_7y14 cra_7y14,.string sra_8y14,.slice Ara_9y14 nra_9y14 cra_9y14,.slice Ara_10y14 nra_10y14 cra_10y14] 37] rfl ?_)))
        exact Ok.again _ ⟨(w64 (zL20_6 + 1)),rfl,rfl,rfl,(tr le22 (tr le134 (tr le142 (tr le146 le158)))),by omega,by omega⟩ (by omega)
      refine skn (sr (g0 1 [(1,pt b1 0),(3,bT),(4,pt b15 0),(6,iw zL20_6),(10,pt b149 0),(11,pt b150 0),(12,iw 0)] [gz] rfl (en rfl (Ok.blk (Ok.restr [1,3,4,6,10,11,12] [(1,pt b1 0),(3,bT),(4,pt b15 0),(6,iw zL20_6),(10,pt b149 0),(11,pt b150 0),(12,iw 0)] rfl (Ok.loop (fun H' fr kb m => ∃ (zL194_12 : Int),fr = [(1,pt b1 0),(3,bT),(4,pt b15 0),(6,iw zL20_6),(10,pt b149 0),(11,pt b150 0),(12,iw zL194_12)] ∧ kb = [.blk b1 [.slice Aa_0 na_0 ca_0,.slice Aa_1 na_1 ca_1,iw za_2,iw za_3,iw za_4,iw za_5,.slice Aa_6 na_6 ca_6,.string sa_7,.slice Aa_8 na_8 ca_8,.slice Aa_9 na_9 ca_9] 30,.blk b15 [.slice Ara_0y14 nra_0y14 cra_0y14,iw zra_1y14,.slice Ara_2y14 nra_2y14 cra_2y14,iw zra_3y14,iw zra_4y14,iw zra_5y14,iw zra_6y14,.slice Ara_7y14 nra_7y14 cra_7y14,.string sra_8y14,.slice Ara_9y14 nra_9y14 cra_9y14,.slice Ara_10y14 nra_10y14 cra_10y14] 37,.blk b131 [iw zra_0y136,.string sra_1y136,iw zra_2y136,iw zra_3y136] 41,.blk (b139+1) [sl b139 0 1 1,iw (w64 (zra_0y136 + 1))] 34,.blk b149 [iw zra_0y148,iw zra_1y148,iw zra_2y148,iw zra_3y148,.slice Ara_4y148 nra_4y148 cra_4y148,.string sra_5y148,.slice Ara_6y148 nra_6y148 cra_6y148] 27,.blk b150 [iw 1,iw zra_0y136,iw 0] 45] ∧ m = ((((nra_10y14 : Nat) : Int)) - zL194_12).toNat ∧ SLe H145 H' ∧ 0 ≤ zL194_12 ∧ zL194_12 ≤ ((nra_10y14 : Nat) : Int)) _ ⟨0,rfl,rfl,rfl,SLe.refl _,by decide,by omega⟩ ?_))))))
      rintro H195 _ _ mL194 ⟨zL194_12,rfl,rfl,hmL194,le196,fL194_0,fL194_1⟩
      refine Ok.seq (sr (g0 5 [(1,pt b1 0),(3,bT),(4,pt b15 0),(6,iw zL20_6),(10,pt b149 0),(11,pt b150 0),(12,iw zL194_12),(73,.bool (decide (zL194_12 < ((nra_10y14 : Nat) : Int))))] [gz,gz,.g [.K 1 10],gz,gz] rfl (en rfl (cd (decide (zL194_12 < ((nra_10y14 : Nat) : Int))) (fun h198 => ?_) (fun h198 => ?_)))))
      · have h198 := of_decide_eq_true h198
        refine skn (Ok.seq (Ok.blk (Ok.seq (st [0,1,2,3,4,5] [] 21 ?_))))
        have ie199 : 0 ≤ zL194_12 ∧ zL194_12 < ((nra_10y14 : Nat) : Int) := by omega
        obtain ⟨je199,cse199,we199,he199⟩ := (WfS.mono (tr le22 (tr le134 (tr le142 (tr le146 le196)))) hra_10y14).at_ zL194_12 ie199.1 ie199.2
        obtain ⟨ue199_0,le199_0,rfl,ve199_0,we199_0⟩ := wfl_cons we199
        obtain ⟨Ae199_0,ne199_0,ce199_0,rfl,fe199_0⟩ := wfv_slc ve199_0
        have lfe199_0 := fe199_0.1
        obtain rfl := wfl_nil we199_0
        refine tx 6 [(0,.g [.K 4 0,.K 4 1,.K 4 2,.K 4 3,.K 4 4,.K 4 5,.K 4 6]),(1,gz),(2,.g [.K 1 10]),(3,gz),(4,.ix),(5,.g [.X (.slice Ae199_0 ne199_0 ce199_0)]),(7,.g [.K 5 0,.K 5 1,.K 5 2]),(8,.g [.K 4 0,.K 4 1,.K 4 2,.K 4 3,.K 4 4,.K 4 5,.K 4 6]),(10,.g [.K 5 0,.K 5 1,.K 5 2]),(11,.g [.K 5 0,.K 5 1,.K 5 2]),(12,gz),(13,.g [.K 1 10]),(14,gz),(15,.ix),(16,.g [.X (.slice Ae199_0 ne199_0 ce199_0)])] [(1,pt b1 0),(3,bT),(4,pt b15 0),(6,iw zL20_6),(10,pt b149 0),(11,pt b150 0),(12,iw zL194_12),(76,.agg #[iw zra_0y148,iw zra_1y148,iw zra_2y148,iw zra_3y148,.slice Ara_4y148 nra_4y148 cra_4y148,.string sra_5y148,.slice Ara_6y148 nra_6y148 cra_6y148]),(81,.agg #[.slice Ae199_0 ne199_0 ce199_0]),(83,.agg #[iw 1,iw zra_0y136,iw 0]),(84,.agg #[iw zra_0y148,iw zra_1y148,iw zra_2y148,iw zra_3y148,.slice Ara_4y148 nra_4y148 cra_4y148,.string sra_5y148,.slice Ara_6y148 nra_6y148 cra_6y148]),(86,.agg #[iw 1,iw zra_0y136,iw 0]),(87,.agg #[iw 1,iw zra_0y136,iw 0]),(92,.agg #[.slice Ae199_0 ne199_0 ce199_0])] (ex1 (And.intro je199 ie199) (ex1 (cell0 (he199 0 _ rfl)) (ex1 (And.intro je199 ie199) (ex1 (cell0 (he199 0 _ rfl)) ex0)))) rfl ?_
        obtain ⟨gl200,fl200⟩ := WfS.lst fe199_0
        refine on 6 5 rfl (ca (some 82) (c8 _ H195 zra_0y148 zra_1y148 zra_2y148 zra_3y148 Ara_4y148 (nra_4y148) (cra_4y148) gra_4y148 sra_5y148 Ara_6y148 (nra_6y148) (cra_6y148) kra_6y148 Ae199_0 (ne199_0) (ce199_0) gl200 (LstIs.mono le196 hra_4y148) tra_5y148 (KidsIs.mono le196 hra_6y148) fl200 (Nat.le_refl _)) ?_)
        rintro v201 H202 k204 le203 ⟨zra_0y205,rfl,py205_0⟩
        refine ws [0,1,2,3,4,5] le203 ?_
        refine on 9 4 rfl (ca (some 85) (c9 H202 1 zra_0y136 0 zra_0y148 zra_1y148 zra_2y148 zra_3y148 Ara_4y148 (nra_4y148) (cra_4y148) gra_4y148 sra_5y148 Ara_6y148 (nra_6y148) (cra_6y148) kra_6y148 (LstIs.mono (tr le196 le203) hra_4y148) tra_5y148 (KidsIs.mono (tr le196 le203) hra_6y148) (by omega) py148_1) ?_)
        rintro v206 H207 k209 le208 ⟨zra_0y210,zra_1y210,zra_2y210,zra_3y210,Ara_4y210,nra_4y210,cra_4y210,gra_4y210,sra_5y210,Ara_6y210,nra_6y210,cra_6y210,kra_6y210,rfl,hra_4y210,tra_5y210,hra_6y210,py210_0⟩
        have lhra_4y210 := hra_4y210.2.1
        have mhra_4y210 := hra_4y210.1
        have lhra_6y210 := hra_6y210.2.1
        have mhra_6y210 := hra_6y210.1
        refine ws [0,1,2,3,4,5] (tr le203 le208) ?_
        refine on 17 3 rfl (ca (some 93) (c11 H207 1 zra_0y136 0 Ae199_0 (ne199_0) (ce199_0) gl200 (LstIs.mono (tr le203 le208) fl200) (by omega)) ?_)
        rintro v211 H212 k214 le213 ⟨bra_0y215,zra_1y215,sra_2y215,rfl,tra_2y215,py215_0⟩
        refine ws [0,1,2,3,4,5] (tr le203 (tr le208 le213)) ?_
        refine on 18 2 rfl (ca (some 94) (c10 H212 1 zra_0y136 0 bra_0y215 zra_1y215 sra_2y215 tra_2y215) ?_)
        rintro v216 H217 k219 le218 ⟨Ara_0y220,nra_0y220,cra_0y220,gra_0y220,rfl,hra_0y220,py220_0⟩
        have lhra_0y220 := hra_0y220.2.1
        have mhra_0y220 := hra_0y220.1
        refine ws [0,1,2,3,4,5] (tr le203 (tr le208 (tr le213 le218))) ?_
        refine on 19 1 rfl (ca (some 95) (c8 _ H217 zra_0y210 zra_1y210 zra_2y210 zra_3y210 Ara_4y210 (nra_4y210) (cra_4y210) gra_4y210 sra_5y210 Ara_6y210 (nra_6y210) (cra_6y210) kra_6y210 Ara_0y220 (nra_0y220) (cra_0y220) gra_0y220 (LstIs.mono (tr le213 le218) hra_4y210) tra_5y210 (KidsIs.mono (tr le213 le218) hra_6y210) hra_0y220 (Nat.le_refl _)) ?_)
        rintro v221 H222 k224 le223 ⟨zra_0y225,rfl,py225_0⟩
        refine ws [0,1,2,3,4,5] (tr le203 (tr le208 (tr le213 (tr le218 le223)))) ?_
        refine tk 0 [(20,gz)] [(1,pt b1 0),(3,bT),(4,pt b15 0),(6,iw zL20_6),(10,pt b149 0),(11,pt b150 0),(12,iw zL194_12),(96,.bool (zra_0y205 != zra_0y225))] rfl ?_
        refine dn (cd (zra_0y205 != zra_0y225) (fun h226 => ?_) (fun h226 => ?_))
        · exact absurd h226 (by rw [exact_law (py148_0 _ (AllId.lit pf143)) py210_0 py205_0 py225_0 py215_0 py220_0]; simp)
        refine Ok.skip_ (Ok.blkN (Ok.thenN (Ok.reg ?_)))
        have k228 := wid (x := zL194_12 + 1) (by omega)
        refine g0 3 [(1,pt b1 0),(3,bT),(4,pt b15 0),(6,iw zL20_6),(10,pt b149 0),(11,pt b150 0),(12,iw (w64 (zL194_12 + 1)))] [gz,gz,gz] rfl (en rfl (Ok.restr [1,3,4,6,10,11,12] [(1,pt b1 0),(3,bT),(4,pt b15 0),(6,iw zL20_6),(10,pt b149 0),(11,pt b150 0),(12,iw (w64 (zL194_12 + 1)))] rfl ?_))
        exact Ok.again _ ⟨(w64 (zL194_12 + 1)),rfl,rfl,rfl,(tr le196 (tr le203 (tr le208 (tr le213 (tr le218 le223))))),by omega,by omega⟩ (by omega)
      have h198 := of_decide_eq_false h198
      refine Ok.exit_ (Ok.thenE (Ok.thenE (Ok.blkE (Ok.blkN (Ok.thenN (Ok.reg ?_))))))
      have k230 := wid (x := zL20_6 + 1) (by omega)
      refine g0 3 [(1,pt b1 0),(3,bT),(4,pt b15 0),(6,iw (w64 (zL20_6 + 1)))] [gz,gz,gz] rfl (en rfl (Ok.restr [1,3,4,6] [(1,pt b1 0),(3,bT),(4,pt b15 0),(6,iw (w64 (zL20_6 + 1)))] rfl (Ok.mask [true,true,false,false,false,false] [.blk b1 [.slice Aa_0 na_0 ca_0,.slice Aa_1 na_1 ca_1,iw za_2,iw za_3,iw za_4,iw za_5,.slice Aa_6 na_6 ca_6,.string sa_7,.slice Aa_8 na_8 ca_8,.slice Aa_9 na_9 ca_9] 30,.blk b15 [.slice Ara_0y14 nra_0y14 cra_0y14,iw zra_1y14,.slice Ara_2y14 nra_2y14 cra_2y14,iw zra_3y14,iw zra_4y14,iw zra_5y14,iw zra_6y14,.slice Ara_7y14 nra_7y14 cra_7y14,.string sra_8y14,.slice Ara_9y14 nra_9y14 cra_9y14,.slice Ara_10y14 nra_10y14 cra_10y14] 37] rfl ?_)))
      exact Ok.again _ ⟨(w64 (zL20_6 + 1)),rfl,rfl,rfl,(tr le22 (tr le134 (tr le142 (tr le146 le196)))),by omega,by omega⟩ (by omega)
    refine g0 4 [(1,pt b1 0),(3,bT),(4,pt b15 0),(6,iw zL20_6),(10,pt b149 0),(11,pt b150 0),(63,.bool (zra_2y136 == 5))] [gz,.g [.K 2 2],gz,gz] rfl (cs (zra_2y136 == 5) [63] (fun h232 => ?_) (fun h232 => ?_))
    · have h232 := eq_of_beq h232
      have tm234 := tmod_lit zL20_6 2 (by decide)
      refine g0 8 [(1,pt b1 0),(3,bT),(4,pt b15 0),(6,iw zL20_6),(10,pt b149 0),(11,pt b150 0),(67,.bool ((Int.tmod zL20_6 2) == 1))] [gz,gz,gz,gz] rfl (Ok.segEnd rfl (Ok.restr [1,3,4,6,10,11,67] [(1,pt b1 0),(3,bT),(4,pt b15 0),(6,iw zL20_6),(10,pt b149 0),(11,pt b150 0),(67,.bool ((Int.tmod zL20_6 2) == 1))] rfl ?_))
      exact J151 (((Int.tmod zL20_6 2) == 1))
    have h232 := ne_of_beq_false h232
    refine g0 8 [(1,pt b1 0),(3,bT),(4,pt b15 0),(6,iw zL20_6),(10,pt b149 0),(11,pt b150 0),(67,bF)] [gz,gz,gz,gz] rfl (Ok.segEnd rfl (Ok.restr [1,3,4,6,10,11,67] [(1,pt b1 0),(3,bT),(4,pt b15 0),(6,iw zL20_6),(10,pt b149 0),(11,pt b150 0),(67,bF)] rfl ?_))
    exact J151 (false)
  have h24 := of_decide_eq_false h24
  refine Ok.exit_ (Ok.thenE (Ok.thenE (Ok.blkE (Ok.thenN (sr (g0 2 [(2,bT)] [gz,gz] rfl (en rfl (Ok.ret_ (Ok.dropAll ?_)))))))))
  exact Ok.ret1 (v := bT) (tr le5 (tr le12 le22)) rfl rfl rfl
end Go.Proofs.YtdifenljfklolaaGreatDoor
