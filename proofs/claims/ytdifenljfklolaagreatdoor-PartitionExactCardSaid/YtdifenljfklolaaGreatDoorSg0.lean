/- Contracts of functions at values that are not known: printed by a program of this claim's author. -/
import Derived.Test.YtdifenljfklolaaGreatDoorProg
import Derived.Test.YtdifenljfklolaaGreatDoorSxJ
import Derived.Test.YtdifenljfklolaaGreatDoorSn1
set_option linter.unusedVariables false
set_option linter.unusedSimpArgs false
set_option maxHeartbeats 4000000
set_option maxRecDepth 100000
namespace Go.Proofs.YtdifenljfklolaaGreatDoor
open Go Go.RowKit Sx
abbrev el105 : List Sh := [.int .i64, .int .i64, .int .i64, .str, .str, .int .i64, .int .i64, .str]
abbrev el45 : List Sh := [.int .i64, .int .i64, .int .i64]
abbrev el24 : List Sh := [.slc elV]
abbrev el41 : List Sh := [.int .i64, .str, .int .i64, .int .i64]
abbrev el59 : List Sh := [.int .i64, .bool, .int .i64, .str]
abbrev el50 : List Sh := [.slc el59]
abbrev el9 : List Sh := [.str]
abbrev el3 : List Sh := [.int .i64]
theorem c44 : ∀ (d : Nat) (H : Snap) (za_0 : Int) (za_1 : Int) (za_2 : Int) (za_3 : Int) (Aa_4 : Option Addr) (na_4 : Nat) (ca_4 : Nat) (ga_4 : List (List Value)) (sa_5 : ByteArray) (Aa_6 : Option Addr) (na_6 : Nat) (ca_6 : Nat) (ka_6 : PTs) (zb_0 : Int) (ha_4 : LstIs H elV Aa_4 na_4 ga_4) (ta_5 : sa_5.size < 9223372036854775808) (ha_6 : KidsIs H Aa_6 na_6 ka_6),ka_6.depth ≤ d → Does Tryz.prog 44 [.agg #[iw za_0,iw za_1,iw za_2,iw za_3,.slice Aa_4 na_4 ca_4,.string sa_5,.slice Aa_6 na_6 ca_6],iw zb_0] H [] (fun v H' kp => ∃ (zra_0 : Int),v = iw zra_0) := by
  intro d
  induction d using Nat.strongRecOn
  rename_i d ih
  intro H za_0 za_1 za_2 za_3 Aa_4 na_4 ca_4 ga_4 sa_5 Aa_6 na_6 ca_6 ka_6 zb_0 ha_4 ta_5 ha_6 hd
  have lha_4 := ha_4.2.1
  have mha_4 := ha_4.1
  have lha_6 := ha_6.2.1
  have mha_6 := ha_6.1
  refine Does.of Tryz.func44 rfl rfl rfl rfl (fun w0 H0 kx => ?_)
  refine sr (g4 2 (fun b1 => [(1,iw zb_0),(2,pt b1 0)]) (fun b1 => [.blk b1 [iw za_0,iw za_1,iw za_2,iw za_3,.slice Aa_4 na_4 ca_4,.string sa_5,.slice Aa_6 na_6 ca_6] 27]) [.g [.N],gz] rfl (fun b1 => (en rfl ?_)))
  refine sr (g0 10 [(1,iw zb_0),(2,pt b1 0),(5,iw (w64 ((w64 (1 + ((na_4 : Nat) : Int))) + (w64 (Int.tdiv ((sa_5.size : Nat) : Int) 50)))))] [gz,.g [.K 0 4],gz,gz,gz,.g [.K 0 5],gz,gz,gz,gz] rfl (en rfl (Ok.seq (sr (g0 1 [(1,iw zb_0),(2,pt b1 0),(5,iw (w64 ((w64 (1 + ((na_4 : Nat) : Int))) + (w64 (Int.tdiv ((sa_5.size : Nat) : Int) 50))))),(6,iw 0)] [gz] rfl (en rfl (Ok.blk (Ok.restr [1,2,5,6] [(1,iw zb_0),(2,pt b1 0),(5,iw (w64 ((w64 (1 + ((na_4 : Nat) : Int))) + (w64 (Int.tdiv ((sa_5.size : Nat) : Int) 50))))),(6,iw 0)] rfl (Ok.loop (fun H' fr kb m => ∃ (zL4_5 : Int) (zL4_6 : Int),fr = [(1,iw zb_0),(2,pt b1 0),(5,iw zL4_5),(6,iw zL4_6)] ∧ kb = [.blk b1 [iw za_0,iw za_1,iw za_2,iw za_3,.slice Aa_4 na_4 ca_4,.string sa_5,.slice Aa_6 na_6 ca_6] 27] ∧ m = ((((na_4 : Nat) : Int)) - zL4_6).toNat ∧ SLe H H' ∧ 0 ≤ zL4_6 ∧ zL4_6 ≤ ((na_4 : Nat) : Int)) _ ⟨(w64 ((w64 (1 + ((na_4 : Nat) : Int))) + (w64 (Int.tdiv ((sa_5.size : Nat) : Int) 50)))),0,rfl,rfl,rfl,SLe.refl _,by decide,by omega⟩ ?_)))))))))
  rintro H5 _ _ mL4 ⟨zL4_5,zL4_6,rfl,rfl,hmL4,le6,fL4_0,fL4_1⟩
  refine Ok.seq (sr (g0 6 [(1,iw zb_0),(2,pt b1 0),(5,iw zL4_5),(6,iw zL4_6),(22,.bool (decide (zL4_6 < ((na_4 : Nat) : Int))))] [gz,gz,.g [.K 0 4],gz,gz,gz] rfl (cs (decide (zL4_6 < ((na_4 : Nat) : Int))) [22] (fun h8 => ?_) (fun h8 => ?_))))
  · have h8 := of_decide_eq_true h8
    refine g0 10 [(1,iw zb_0),(2,pt b1 0),(5,iw zL4_5),(6,iw zL4_6),(26,.bool (decide (zL4_5 ≤ zb_0)))] [gz,gz,gz,gz] rfl (en rfl (cd (decide (zL4_5 ≤ zb_0)) (fun h10 => ?_) (fun h10 => ?_)))
    · have h10 := of_decide_eq_true h10
      refine skn (Ok.seq (Ok.blk (Ok.reg ?_)))
      have ie12 : 0 ≤ zL4_6 ∧ zL4_6 < ((na_4 : Nat) : Int) := by omega
      obtain ⟨je12,cse12,we12,he12,de12⟩ := (LstIs.mono le6 ha_4).at_ zL4_6 ie12.1 ie12.2
      obtain ⟨ue12_0,le12_0,rfl,ve12_0,we12_0⟩ := wfl_cons we12
      obtain ⟨be12_0,rfl⟩ := wfv_bool ve12_0
      obtain ⟨ue12_1,le12_1,rfl,ve12_1,we12_1⟩ := wfl_cons we12_0
      obtain ⟨ze12_1,rfl⟩ := wfv_int ve12_1
      obtain ⟨ue12_2,le12_2,rfl,ve12_2,we12_2⟩ := wfl_cons we12_1
      obtain ⟨se12_2,rfl,te12_2⟩ := wfv_str ve12_2
      obtain rfl := wfl_nil we12_2
      refine g2 11 [(1,iw zb_0),(2,pt b1 0),(5,iw (w64 (zL4_5 + (w64 (Int.tdiv ((se12_2.size : Nat) : Int) 50))))),(6,iw zL4_6)] [gz,gz,.g [.K 0 4],gz,.ix,gz,.g [.X (.string se12_2)],gz,gz,gz,gz] (ex1 (And.intro je12 ie12) (ex1 (he12 (2) _ rfl) ex0)) rfl (Ok.segEnd rfl (Ok.blkN ?_))
      refine Ok.thenN (Ok.reg ?_)
      have k14 := wid (x := zL4_6 + 1) (by omega)
      refine g0 3 [(1,iw zb_0),(2,pt b1 0),(5,iw (w64 (zL4_5 + (w64 (Int.tdiv ((se12_2.size : Nat) : Int) 50))))),(6,iw (w64 (zL4_6 + 1)))] [gz,gz,gz] rfl (en rfl (Ok.restr [1,2,5,6] [(1,iw zb_0),(2,pt b1 0),(5,iw (w64 (zL4_5 + (w64 (Int.tdiv ((se12_2.size : Nat) : Int) 50))))),(6,iw (w64 (zL4_6 + 1)))] rfl ?_))
      exact Ok.again _ ⟨(w64 (zL4_5 + (w64 (Int.tdiv ((se12_2.size : Nat) : Int) 50)))),(w64 (zL4_6 + 1)),rfl,rfl,rfl,le6,by omega,by omega⟩ (by omega)
    have h10 := of_decide_eq_false h10
    refine Ok.exit_ (Ok.thenE (Ok.thenE (Ok.blkE (Ok.thenN (Ok.seq (sr (g0 1 [(1,iw zb_0),(2,pt b1 0),(5,iw zL4_5),(7,iw 0)] [gz] rfl (en rfl (Ok.blk (Ok.restr [1,2,5,7] [(1,iw zb_0),(2,pt b1 0),(5,iw zL4_5),(7,iw 0)] rfl (Ok.loop (fun H' fr kb m => ∃ (zL16_5 : Int) (zL16_7 : Int) (RL16 : PTs),fr = [(1,iw zb_0),(2,pt b1 0),(5,iw zL16_5),(7,iw zL16_7)] ∧ kb = [.blk b1 [iw za_0,iw za_1,iw za_2,iw za_3,.slice Aa_4 na_4 ca_4,.string sa_5,.slice Aa_6 na_6 ca_6] 27] ∧ m = ((((na_6 : Nat) : Int)) - zL16_7).toNat ∧ SLe H5 H' ∧ 0 ≤ zL16_7 ∧ zL16_7 ≤ ((na_6 : Nat) : Int) ∧ zL16_7 + ((RL16.len : Nat) : Int) = ((na_6 : Nat) : Int) ∧ RL16.depth ≤ ka_6.depth ∧ KidsAt H' RL16 Aa_6 (zL16_7).toNat) _ ⟨zL4_5,0,ka_6,rfl,rfl,rfl,SLe.refl _,by decide,by omega,by omega,by omega,(KidsIs.mono le6 ha_6).2.2⟩ ?_)))))))))))
    rintro H17 _ _ mL16 ⟨zL16_5,zL16_7,RL16,rfl,rfl,hmL16,le18,fL16_0,fL16_1,fL16_2,fL16_3,QL16⟩
    refine Ok.seq (sr (g0 6 [(1,iw zb_0),(2,pt b1 0),(5,iw zL16_5),(7,iw zL16_7),(44,.bool (decide (zL16_7 < ((na_6 : Nat) : Int))))] [gz,gz,.g [.K 0 6],gz,gz,gz] rfl (cs (decide (zL16_7 < ((na_6 : Nat) : Int))) [44] (fun h20 => ?_) (fun h20 => ?_))))
    · have h20 := of_decide_eq_true h20
      refine g0 10 [(1,iw zb_0),(2,pt b1 0),(5,iw zL16_5),(7,iw zL16_7),(48,.bool (decide (zL16_5 ≤ zb_0)))] [gz,gz,gz,gz] rfl (en rfl (cd (decide (zL16_5 ≤ zb_0)) (fun h22 => ?_) (fun h22 => ?_)))
      · have h22 := of_decide_eq_true h22
        refine skn (Ok.seq (Ok.blk (Ok.reg ?_)))
        have ie24 : 0 < RL16.len := by omega
        have ze24 : 0 ≤ zL16_7 ∧ zL16_7 < ((na_6 : Nat) : Int) := by omega
        obtain ⟨ke24,re24,rfl⟩ := PTs.open_ ie24
        obtain ⟨je24,⟨cse24,we24,he24⟩,ne24⟩ := (QL16).cons
        obtain ⟨ae24,be24,ce24,de24,se24,te24,kse24,rfl⟩ := PTs.node_ ke24
        obtain ⟨Ae24_4,ne24_4,ce24_4,Ae24_6,ne24_6,ce24_6,rfl,fe24_4,txe24,fe24_6⟩ := we24.open_
        have xe24 := PTs.len_cons (PT.node ae24 be24 ce24 de24 se24 te24 kse24) re24
        have ye24 := PTs.depth1 ae24 be24 ce24 de24 se24 te24 kse24 re24
        have ve24 := PTs.depth2 (PT.node ae24 be24 ce24 de24 se24 te24 kse24) re24
        have lfe24_4 := fe24_4.2.1
        have mfe24_4 := fe24_4.1
        have lfe24_6 := fe24_6.2.1
        have mfe24_6 := fe24_6.1
        refine g2 9 [(1,iw zb_0),(2,pt b1 0),(7,iw zL16_7),(51,iw zL16_5),(56,.agg #[iw ae24,iw be24,iw ce24,iw de24,.slice Ae24_4 ne24_4 ce24_4,.string te24,.slice Ae24_6 ne24_6 ce24_6]),(59,iw (w64 (zb_0 - zL16_5)))] [gz,gz,.g [.K 0 6],gz,.ix,.g [.X (iw ae24),.X (iw be24),.X (iw ce24),.X (iw de24),.X (.slice Ae24_4 ne24_4 ce24_4),.X (.string te24),.X (.slice Ae24_6 ne24_6 ce24_6)],gz,gz,gz] (ex1 (And.intro je24 ze24) (ex1 (cell0 (he24 0 _ rfl)) (ex1 (he24 (1) _ rfl) (ex1 (he24 (2) _ rfl) (ex1 (he24 (3) _ rfl) (ex1 (he24 (4) _ rfl) (ex1 (he24 (5) _ rfl) (ex1 (he24 (6) _ rfl) ex0)))))))) rfl (ef 10 rfl (ca (some 60) (ih kse24.depth (by omega) H17 ae24 be24 ce24 de24 Ae24_4 (ne24_4) (ce24_4) se24 te24 Ae24_6 (ne24_6) (ce24_6) kse24 (w64 (zb_0 - zL16_5)) fe24_4 txe24 fe24_6 (Nat.le_refl _)) ?_))
        rintro v25 H26 k28 le27 ⟨zra_0y29,rfl⟩
        refine g0 12 [(1,iw zb_0),(2,pt b1 0),(5,iw (w64 (zL16_5 + zra_0y29))),(7,iw zL16_7)] [gz,gz] rfl (Ok.segEnd rfl (Ok.blkN ?_))
        refine Ok.thenN (Ok.reg ?_)
        have k32 := wid (x := zL16_7 + 1) (by omega)
        refine g0 3 [(1,iw zb_0),(2,pt b1 0),(5,iw (w64 (zL16_5 + zra_0y29))),(7,iw (w64 (zL16_7 + 1)))] [gz,gz,gz] rfl (en rfl (Ok.restr [1,2,5,7] [(1,iw zb_0),(2,pt b1 0),(5,iw (w64 (zL16_5 + zra_0y29))),(7,iw (w64 (zL16_7 + 1)))] rfl ?_))
        exact Ok.again _ ⟨(w64 (zL16_5 + zra_0y29)),(w64 (zL16_7 + 1)),re24,rfl,rfl,rfl,(tr le18 le27),by omega,by omega,by omega,by omega,(KidsAt.cast (KidsAt.mono le27 ne24) (by omega))⟩ (by omega)
      have h22 := of_decide_eq_false h22
      refine Ok.exit_ (Ok.thenE (Ok.thenE (Ok.blkE (Ok.thenN (sr (g0 5 [(4,iw (if (w64 (zb_0 + 1)) < zL16_5 then (w64 (zb_0 + 1)) else zL16_5))] [gz,gz,gz,gz,gz] rfl (en rfl (Ok.ret_ (Ok.dropAll ?_)))))))))
      exact Ok.ret1 (v := iw (if (w64 (zb_0 + 1)) < zL16_5 then (w64 (zb_0 + 1)) else zL16_5)) (tr le6 le18) rfl rfl ⟨(if (w64 (zb_0 + 1)) < zL16_5 then (w64 (zb_0 + 1)) else zL16_5),rfl⟩
    have h20 := of_decide_eq_false h20
    refine g0 10 [(1,iw zb_0),(2,pt b1 0),(5,iw zL16_5),(7,iw zL16_7),(48,bF)] [gz,gz,gz,gz] rfl (en rfl (cF (Ok.exit_ (Ok.thenE (Ok.thenE (Ok.blkE (Ok.thenN (sr (g0 5 [(4,iw (if (w64 (zb_0 + 1)) < zL16_5 then (w64 (zb_0 + 1)) else zL16_5))] [gz,gz,gz,gz,gz] rfl (en rfl (Ok.ret_ (Ok.dropAll ?_))))))))))))
    exact Ok.ret1 (v := iw (if (w64 (zb_0 + 1)) < zL16_5 then (w64 (zb_0 + 1)) else zL16_5)) (tr le6 le18) rfl rfl ⟨(if (w64 (zb_0 + 1)) < zL16_5 then (w64 (zb_0 + 1)) else zL16_5),rfl⟩
  have h8 := of_decide_eq_false h8
  refine g0 10 [(1,iw zb_0),(2,pt b1 0),(5,iw zL4_5),(6,iw zL4_6),(26,bF)] [gz,gz,gz,gz] rfl (en rfl (cF (Ok.exit_ (Ok.thenE (Ok.thenE (Ok.blkE (Ok.thenN (Ok.seq (sr (g0 1 [(1,iw zb_0),(2,pt b1 0),(5,iw zL4_5),(7,iw 0)] [gz] rfl (en rfl (Ok.blk (Ok.restr [1,2,5,7] [(1,iw zb_0),(2,pt b1 0),(5,iw zL4_5),(7,iw 0)] rfl (Ok.loop (fun H' fr kb m => ∃ (zL38_5 : Int) (zL38_7 : Int) (RL38 : PTs),fr = [(1,iw zb_0),(2,pt b1 0),(5,iw zL38_5),(7,iw zL38_7)] ∧ kb = [.blk b1 [iw za_0,iw za_1,iw za_2,iw za_3,.slice Aa_4 na_4 ca_4,.string sa_5,.slice Aa_6 na_6 ca_6] 27] ∧ m = ((((na_6 : Nat) : Int)) - zL38_7).toNat ∧ SLe H5 H' ∧ 0 ≤ zL38_7 ∧ zL38_7 ≤ ((na_6 : Nat) : Int) ∧ zL38_7 + ((RL38.len : Nat) : Int) = ((na_6 : Nat) : Int) ∧ RL38.depth ≤ ka_6.depth ∧ KidsAt H' RL38 Aa_6 (zL38_7).toNat) _ ⟨zL4_5,0,ka_6,rfl,rfl,rfl,SLe.refl _,by decide,by omega,by omega,by omega,(KidsIs.mono le6 ha_6).2.2⟩ ?_))))))))))))))
  rintro H39 _ _ mL38 ⟨zL38_5,zL38_7,RL38,rfl,rfl,hmL38,le40,fL38_0,fL38_1,fL38_2,fL38_3,QL38⟩
  refine Ok.seq (sr (g0 6 [(1,iw zb_0),(2,pt b1 0),(5,iw zL38_5),(7,iw zL38_7),(44,.bool (decide (zL38_7 < ((na_6 : Nat) : Int))))] [gz,gz,.g [.K 0 6],gz,gz,gz] rfl (cs (decide (zL38_7 < ((na_6 : Nat) : Int))) [44] (fun h42 => ?_) (fun h42 => ?_))))
  · have h42 := of_decide_eq_true h42
    refine g0 10 [(1,iw zb_0),(2,pt b1 0),(5,iw zL38_5),(7,iw zL38_7),(48,.bool (decide (zL38_5 ≤ zb_0)))] [gz,gz,gz,gz] rfl (en rfl (cd (decide (zL38_5 ≤ zb_0)) (fun h44 => ?_) (fun h44 => ?_)))
    · have h44 := of_decide_eq_true h44
      refine skn (Ok.seq (Ok.blk (Ok.reg ?_)))
      have ie46 : 0 < RL38.len := by omega
      have ze46 : 0 ≤ zL38_7 ∧ zL38_7 < ((na_6 : Nat) : Int) := by omega
      obtain ⟨ke46,re46,rfl⟩ := PTs.open_ ie46
      obtain ⟨je46,⟨cse46,we46,he46⟩,ne46⟩ := (QL38).cons
      obtain ⟨ae46,be46,ce46,de46,se46,te46,kse46,rfl⟩ := PTs.node_ ke46
      obtain ⟨Ae46_4,ne46_4,ce46_4,Ae46_6,ne46_6,ce46_6,rfl,fe46_4,txe46,fe46_6⟩ := we46.open_
      have xe46 := PTs.len_cons (PT.node ae46 be46 ce46 de46 se46 te46 kse46) re46
      have ye46 := PTs.depth1 ae46 be46 ce46 de46 se46 te46 kse46 re46
      have ve46 := PTs.depth2 (PT.node ae46 be46 ce46 de46 se46 te46 kse46) re46
      have lfe46_4 := fe46_4.2.1
      have mfe46_4 := fe46_4.1
      have lfe46_6 := fe46_6.2.1
      have mfe46_6 := fe46_6.1
      refine g2 9 [(1,iw zb_0),(2,pt b1 0),(7,iw zL38_7),(51,iw zL38_5),(56,.agg #[iw ae46,iw be46,iw ce46,iw de46,.slice Ae46_4 ne46_4 ce46_4,.string te46,.slice Ae46_6 ne46_6 ce46_6]),(59,iw (w64 (zb_0 - zL38_5)))] [gz,gz,.g [.K 0 6],gz,.ix,.g [.X (iw ae46),.X (iw be46),.X (iw ce46),.X (iw de46),.X (.slice Ae46_4 ne46_4 ce46_4),.X (.string te46),.X (.slice Ae46_6 ne46_6 ce46_6)],gz,gz,gz] (ex1 (And.intro je46 ze46) (ex1 (cell0 (he46 0 _ rfl)) (ex1 (he46 (1) _ rfl) (ex1 (he46 (2) _ rfl) (ex1 (he46 (3) _ rfl) (ex1 (he46 (4) _ rfl) (ex1 (he46 (5) _ rfl) (ex1 (he46 (6) _ rfl) ex0)))))))) rfl (ef 10 rfl (ca (some 60) (ih kse46.depth (by omega) H39 ae46 be46 ce46 de46 Ae46_4 (ne46_4) (ce46_4) se46 te46 Ae46_6 (ne46_6) (ce46_6) kse46 (w64 (zb_0 - zL38_5)) fe46_4 txe46 fe46_6 (Nat.le_refl _)) ?_))
      rintro v47 H48 k50 le49 ⟨zra_0y51,rfl⟩
      refine g0 12 [(1,iw zb_0),(2,pt b1 0),(5,iw (w64 (zL38_5 + zra_0y51))),(7,iw zL38_7)] [gz,gz] rfl (Ok.segEnd rfl (Ok.blkN ?_))
      refine Ok.thenN (Ok.reg ?_)
      have k54 := wid (x := zL38_7 + 1) (by omega)
      refine g0 3 [(1,iw zb_0),(2,pt b1 0),(5,iw (w64 (zL38_5 + zra_0y51))),(7,iw (w64 (zL38_7 + 1)))] [gz,gz,gz] rfl (en rfl (Ok.restr [1,2,5,7] [(1,iw zb_0),(2,pt b1 0),(5,iw (w64 (zL38_5 + zra_0y51))),(7,iw (w64 (zL38_7 + 1)))] rfl ?_))
      exact Ok.again _ ⟨(w64 (zL38_5 + zra_0y51)),(w64 (zL38_7 + 1)),re46,rfl,rfl,rfl,(tr le40 le49),by omega,by omega,by omega,by omega,(KidsAt.cast (KidsAt.mono le49 ne46) (by omega))⟩ (by omega)
    have h44 := of_decide_eq_false h44
    refine Ok.exit_ (Ok.thenE (Ok.thenE (Ok.blkE (Ok.thenN (sr (g0 5 [(4,iw (if (w64 (zb_0 + 1)) < zL38_5 then (w64 (zb_0 + 1)) else zL38_5))] [gz,gz,gz,gz,gz] rfl (en rfl (Ok.ret_ (Ok.dropAll ?_)))))))))
    exact Ok.ret1 (v := iw (if (w64 (zb_0 + 1)) < zL38_5 then (w64 (zb_0 + 1)) else zL38_5)) (tr le6 le40) rfl rfl ⟨(if (w64 (zb_0 + 1)) < zL38_5 then (w64 (zb_0 + 1)) else zL38_5),rfl⟩
  have h42 := of_decide_eq_false h42
  refine g0 10 [(1,iw zb_0),(2,pt b1 0),(5,iw zL38_5),(7,iw zL38_7),(48,bF)] [gz,gz,gz,gz] rfl (en rfl (cF (Ok.exit_ (Ok.thenE (Ok.thenE (Ok.blkE (Ok.thenN (sr (g0 5 [(4,iw (if (w64 (zb_0 + 1)) < zL38_5 then (w64 (zb_0 + 1)) else zL38_5))] [gz,gz,gz,gz,gz] rfl (en rfl (Ok.ret_ (Ok.dropAll ?_))))))))))))
  exact Ok.ret1 (v := iw (if (w64 (zb_0 + 1)) < zL38_5 then (w64 (zb_0 + 1)) else zL38_5)) (tr le6 le40) rfl rfl ⟨(if (w64 (zb_0 + 1)) < zL38_5 then (w64 (zb_0 + 1)) else zL38_5),rfl⟩
theorem c20 (H : Snap) (za_0 : Int) (za_1 : Int) (za_2 : Int) (za_3 : Int) (Aa_4 : Option Addr) (na_4 : Nat) (ca_4 : Nat) (ga_4 : List (List Value)) (sa_5 : ByteArray) (Aa_6 : Option Addr) (na_6 : Nat) (ca_6 : Nat) (ka_6 : PTs) (zb_0 : Int) (ha_4 : LstIs H elV Aa_4 na_4 ga_4) (ta_5 : sa_5.size < 9223372036854775808) (ha_6 : KidsIs H Aa_6 na_6 ka_6) : Does Tryz.prog 20 [.agg #[iw za_0,iw za_1,iw za_2,iw za_3,.slice Aa_4 na_4 ca_4,.string sa_5,.slice Aa_6 na_6 ca_6],iw zb_0] H [] (fun v H' kp => ∃ (bra_0 : Bool),v = .bool bra_0) := by
  have lha_4 := ha_4.2.1
  have mha_4 := ha_4.1
  have lha_6 := ha_6.2.1
  have mha_6 := ha_6.1
  refine Does.of Tryz.func20 rfl rfl rfl rfl (fun w0 H0 kx => ?_)
  refine sr (g4 2 (fun b1 => [(1,iw zb_0),(2,pt b1 0)]) (fun b1 => [.blk b1 [iw za_0,iw za_1,iw za_2,iw za_3,.slice Aa_4 na_4 ca_4,.string sa_5,.slice Aa_6 na_6 ca_6] 27]) [.g [.N],gz] rfl (fun b1 => (en rfl ?_)))
  refine sr (g0 2 [(1,iw zb_0),(5,.agg #[iw za_0,iw za_1,iw za_2,iw za_3,.slice Aa_4 na_4 ca_4,.string sa_5,.slice Aa_6 na_6 ca_6]),(6,iw zb_0)] [.g [.K 0 0,.K 0 1,.K 0 2,.K 0 3,.K 0 4,.K 0 5,.K 0 6],gz] rfl (ef 3 rfl (ca (some 7) (c44 _ H za_0 za_1 za_2 za_3 Aa_4 (na_4) (ca_4) ga_4 sa_5 Aa_6 (na_6) (ca_6) ka_6 zb_0 ha_4 ta_5 ha_6 (Nat.le_refl _)) ?_)))
  rintro v3 H4 k6 le5 ⟨zra_0y7,rfl⟩
  refine g0 6 [(4,.bool (decide (zra_0y7 ≤ zb_0)))] [gz,gz,gz] rfl (en rfl (Ok.ret_ (Ok.dropAll ?_)))
  exact Ok.ret1 (v := .bool (decide (zra_0y7 ≤ zb_0))) le5 rfl rfl ⟨(decide (zra_0y7 ≤ zb_0)),rfl⟩
theorem c45 (H : Snap) : Does Tryz.prog 45 [] H [] (fun v H' kp => ∃ (Ara_0 : Option Addr) (nra_0 : Nat) (cra_0 : Nat) (zra_1 : Int),v = .agg #[.slice Ara_0 nra_0 cra_0,iw zra_1] ∧ WfS H' el41 Ara_0 nra_0 ∧ nra_0 = 0) := by
  refine Does.of Tryz.func45 rfl rfl rfl rfl (fun w0 H0 kx => ?_)
  refine sr (g4 1 (fun b1 => [(0,pt b1 0)]) (fun b1 => [.blk b1 [n0,iw 0] 34]) [.g [.N]] rfl (fun b1 => (en rfl ?_)))
  refine sr (g1 2 [(0,pt b1 0)] [.blk b1 [n0,iw 1] 34] [gz,.g [.K 0 0,.K 0 1]] rfl (en rfl (Ok.ret_ ?_)))
  exact Ok.ret1c (SLe.refl _) [.K 0 0,.K 0 1] (.agg #[n0,iw 1]) [b1,b1] rfl (by kernel_rfl) ⟨none,0,0,1,rfl,(WfS.nil _ _),rfl⟩
theorem c84 (H : Snap) (za_0 : Int) (zb_0 : Int) : Does Tryz.prog 84 [iw za_0,iw zb_0] H [] (fun v H' kp => ∃ (zra_0 : Int),v = iw zra_0) := by
  refine Does.of Tryz.func84 rfl rfl rfl rfl (fun w0 H0 kx => ?_)
  refine sr (g0 1 [(0,iw za_0),(1,iw zb_0)] [gz] rfl (en rfl (Ok.seq (sr (g0 2 [(0,iw za_0),(1,iw zb_0),(6,.bool (decide (zb_0 ≤ 0)))] [gz,gz] rfl (en rfl (cd (decide (zb_0 ≤ 0)) (fun h3 => ?_) (fun h3 => ?_))))))))
  · have h3 := of_decide_eq_true h3
    refine sr (g0 1 [(4,iw 0)] [gz] rfl (en rfl (Ok.ret_ (Ok.thenR ?_))))
    exact Ok.ret1 (v := iw 0) (SLe.refl _) rfl rfl ⟨0,rfl⟩
  have h3 := of_decide_eq_false h3
  refine skn (sr (g2 8 [(4,iw (Int.tmod (w64 ((Int.tmod za_0 zb_0) + zb_0)) zb_0))] [gz,gz,.dv,gz,gz,gz,.dv,gz] (ex1 (show IntKind.i64 = IntKind.i64 ∧ zb_0 ≠ 0 from ⟨rfl,(by omega)⟩) (ex1 (show IntKind.i64 = IntKind.i64 ∧ zb_0 ≠ 0 from ⟨rfl,(by omega)⟩) ex0)) rfl (en rfl (Ok.ret_ ?_))))
  exact Ok.ret1 (v := iw (Int.tmod (w64 ((Int.tmod za_0 zb_0) + zb_0)) zb_0)) (SLe.refl _) rfl rfl ⟨(Int.tmod (w64 ((Int.tmod za_0 zb_0) + zb_0)) zb_0),rfl⟩
theorem c121 (H : Snap) (sa_0 : ByteArray) (ta_0 : sa_0.size < 9223372036854775808) : Does Tryz.prog 121 [.string sa_0] H [] (fun v H' kp => ∃ (bra_0 : Bool),v = .bool bra_0) := by
  refine Does.of Tryz.func121 rfl rfl rfl rfl (fun w0 H0 kx => ?_)
  refine sr (g0 1 [(0,.string sa_0)] [gz] rfl (en rfl (Ok.seq (sr (g0 1 [(0,.string sa_0),(3,iw 0)] [gz] rfl (en rfl (Ok.blk (Ok.restr [0,3] [(0,.string sa_0),(3,iw 0)] rfl (Ok.loop (fun H' fr kb m => ∃ (zL3_3 : Int),fr = [(0,.string sa_0),(3,iw zL3_3)] ∧ kb = [] ∧ m = ((((sa_0.size : Nat) : Int)) - zL3_3).toNat ∧ SLe H H' ∧ 0 ≤ zL3_3 ∧ zL3_3 ≤ ((sa_0.size : Nat) : Int)) _ ⟨0,rfl,rfl,rfl,SLe.refl _,by decide,by omega⟩ ?_)))))))))
  rintro H4 _ _ mL3 ⟨zL3_3,rfl,rfl,hmL3,le5,fL3_0,fL3_1⟩
  refine Ok.seq (sr (g0 4 [(0,.string sa_0),(3,iw zL3_3),(8,.bool (decide (zL3_3 < ((sa_0.size : Nat) : Int))))] [gz,gz,gz,gz] rfl (en rfl (cd (decide (zL3_3 < ((sa_0.size : Nat) : Int))) (fun h7 => ?_) (fun h7 => ?_)))))
  · have h7 := of_decide_eq_true h7
    refine skn (Ok.seq (Ok.blk (sr (g2 4 [(0,.string sa_0),(3,iw zL3_3),(4,.int .u8 (byteAt sa_0 zL3_3))] [gz,gz,.ixs,gz] (ex1 (show 0 ≤ zL3_3 ∧ zL3_3 < ((sa_0.size : Nat) : Int) from (by omega)) ex0) rfl (en rfl (Ok.seq (Ok.regJ (ι := Bool) (fun y10 => [(0,.string sa_0),(3,iw zL3_3),(32,.bool y10)]) ?_ (fun J9 => ?_))))))))
    · rintro bJ9_32
      refine Ok.thenN (cd bJ9_32 (fun h11 => ?_) (fun h11 => ?_))
      · refine sr (g0 1 [(2,bF)] [gz] rfl (en rfl (Ok.ret_ (Ok.blkR (Ok.thenR (Ok.thenR (Ok.blkR (Ok.thenR ?_))))))))
        exact Ok.ret1 (v := bF) le5 rfl rfl ⟨false,rfl⟩
      refine Ok.skip_ (Ok.blkN (Ok.thenN (Ok.reg ?_)))
      have k14 := wid (x := zL3_3 + 1) (by omega)
      refine g0 3 [(0,.string sa_0),(3,iw (w64 (zL3_3 + 1)))] [gz,gz,gz] rfl (en rfl (Ok.restr [0,3] [(0,.string sa_0),(3,iw (w64 (zL3_3 + 1)))] rfl ?_))
      exact Ok.again _ ⟨(w64 (zL3_3 + 1)),rfl,rfl,rfl,le5,by omega,by omega⟩ (by omega)
    refine g0 3 [(0,.string sa_0),(3,iw zL3_3),(4,.int .u8 (byteAt sa_0 zL3_3)),(16,.bool (decide ((byteAt sa_0 zL3_3) ≥ 97)))] [gz,gz,gz] rfl (cs (decide ((byteAt sa_0 zL3_3) ≥ 97)) [16] (fun h16 => ?_) (fun h16 => ?_))
    · have h16 := of_decide_eq_true h16
      refine g0 7 [(0,.string sa_0),(3,iw zL3_3),(4,.int .u8 (byteAt sa_0 zL3_3)),(20,.bool (decide ((byteAt sa_0 zL3_3) ≤ 122)))] [gz,gz,gz,gz] rfl (cs (decide ((byteAt sa_0 zL3_3) ≤ 122)) [20] (fun h18 => ?_) (fun h18 => ?_))
      · have h18 := of_decide_eq_true h18
        refine g0 19 [(0,.string sa_0),(3,iw zL3_3),(32,bF)] [gz,gz,gz,gz,gz,gz,gz,gz,gz,gz,gz,gz] rfl (Ok.segEnd rfl (Ok.restr [0,3,32] [(0,.string sa_0),(3,iw zL3_3),(32,bF)] rfl ?_))
        exact J9 (false)
      have h18 := of_decide_eq_false h18
      refine g0 10 [(0,.string sa_0),(3,iw zL3_3),(4,.int .u8 (byteAt sa_0 zL3_3)),(20,bF),(23,.bool (decide ((byteAt sa_0 zL3_3) ≥ 48)))] [gz,gz,gz] rfl (cs (decide ((byteAt sa_0 zL3_3) ≥ 48)) [23] (fun h21 => ?_) (fun h21 => ?_))
      · have h21 := of_decide_eq_true h21
        refine g0 15 [(0,.string sa_0),(3,iw zL3_3),(4,.int .u8 (byteAt sa_0 zL3_3)),(28,.bool (decide ((byteAt sa_0 zL3_3) ≤ 57)))] [gz,gz,gz,gz,gz] rfl (cs (decide ((byteAt sa_0 zL3_3) ≤ 57)) [28] (fun h23 => ?_) (fun h23 => ?_))
        · have h23 := of_decide_eq_true h23
          refine g0 19 [(0,.string sa_0),(3,iw zL3_3),(32,bF)] [gz,gz,gz,gz] rfl (Ok.segEnd rfl (Ok.restr [0,3,32] [(0,.string sa_0),(3,iw zL3_3),(32,bF)] rfl ?_))
          exact J9 (false)
        have h23 := of_decide_eq_false h23
        refine g0 19 [(0,.string sa_0),(3,iw zL3_3),(32,.bool (!((byteAt sa_0 zL3_3) == 95)))] [gz,gz,gz,gz] rfl (Ok.segEnd rfl (Ok.restr [0,3,32] [(0,.string sa_0),(3,iw zL3_3),(32,.bool (!((byteAt sa_0 zL3_3) == 95)))] rfl ?_))
        exact J9 ((!((byteAt sa_0 zL3_3) == 95)))
      have h21 := of_decide_eq_false h21
      refine g0 19 [(0,.string sa_0),(3,iw zL3_3),(32,.bool (!((byteAt sa_0 zL3_3) == 95)))] [gz,gz,gz,gz,gz,gz,gz,gz,gz] rfl (Ok.segEnd rfl (Ok.restr [0,3,32] [(0,.string sa_0),(3,iw zL3_3),(32,.bool (!((byteAt sa_0 zL3_3) == 95)))] rfl ?_))
      exact J9 ((!((byteAt sa_0 zL3_3) == 95)))
    have h16 := of_decide_eq_false h16
    refine g0 10 [(0,.string sa_0),(3,iw zL3_3),(4,.int .u8 (byteAt sa_0 zL3_3)),(20,bF),(23,.bool (decide ((byteAt sa_0 zL3_3) ≥ 48)))] [gz,gz,gz,gz,gz,gz,gz] rfl (cs (decide ((byteAt sa_0 zL3_3) ≥ 48)) [23] (fun h28 => ?_) (fun h28 => ?_))
    · have h28 := of_decide_eq_true h28
      refine g0 15 [(0,.string sa_0),(3,iw zL3_3),(4,.int .u8 (byteAt sa_0 zL3_3)),(28,.bool (decide ((byteAt sa_0 zL3_3) ≤ 57)))] [gz,gz,gz,gz,gz] rfl (cs (decide ((byteAt sa_0 zL3_3) ≤ 57)) [28] (fun h30 => ?_) (fun h30 => ?_))
      · have h30 := of_decide_eq_true h30
        refine g0 19 [(0,.string sa_0),(3,iw zL3_3),(32,bF)] [gz,gz,gz,gz] rfl (Ok.segEnd rfl (Ok.restr [0,3,32] [(0,.string sa_0),(3,iw zL3_3),(32,bF)] rfl ?_))
        exact J9 (false)
      have h30 := of_decide_eq_false h30
      refine g0 19 [(0,.string sa_0),(3,iw zL3_3),(32,.bool (!((byteAt sa_0 zL3_3) == 95)))] [gz,gz,gz,gz] rfl (Ok.segEnd rfl (Ok.restr [0,3,32] [(0,.string sa_0),(3,iw zL3_3),(32,.bool (!((byteAt sa_0 zL3_3) == 95)))] rfl ?_))
      exact J9 ((!((byteAt sa_0 zL3_3) == 95)))
    have h28 := of_decide_eq_false h28
    refine g0 19 [(0,.string sa_0),(3,iw zL3_3),(32,.bool (!((byteAt sa_0 zL3_3) == 95)))] [gz,gz,gz,gz,gz,gz,gz,gz,gz] rfl (Ok.segEnd rfl (Ok.restr [0,3,32] [(0,.string sa_0),(3,iw zL3_3),(32,.bool (!((byteAt sa_0 zL3_3) == 95)))] rfl ?_))
    exact J9 ((!((byteAt sa_0 zL3_3) == 95)))
  have h7 := of_decide_eq_false h7
  refine Ok.exit_ (Ok.thenE (Ok.thenE (Ok.blkE (Ok.thenN (Ok.seq (Ok.regJ (ι := Bool) (fun y35 => [(2,.bool y35)]) ?_ (fun J34 => ?_)))))))
  · rintro bJ34_2
    refine Ok.thenN (Ok.ret_ ?_)
    exact Ok.ret1 (v := .bool bJ34_2) le5 rfl rfl ⟨bJ34_2,rfl⟩
  refine g0 4 [(0,.string sa_0),(36,.bool (decide (((sa_0.size : Nat) : Int) ≥ 1)))] [gz,gz,gz,gz] rfl (cs (decide (((sa_0.size : Nat) : Int) ≥ 1)) [36] (fun h37 => ?_) (fun h37 => ?_))
  · have h37 := of_decide_eq_true h37
    refine g0 9 [(2,.bool (decide (((sa_0.size : Nat) : Int) ≤ 32)))] [gz,gz,gz,gz,gz] rfl (Ok.segEnd rfl (Ok.restr [2] [(2,.bool (decide (((sa_0.size : Nat) : Int) ≤ 32)))] rfl ?_))
    exact J34 ((decide (((sa_0.size : Nat) : Int) ≤ 32)))
  have h37 := of_decide_eq_false h37
  refine g0 9 [(2,bF)] [gz,gz,gz,gz,gz] rfl (Ok.segEnd rfl (Ok.restr [2] [(2,bF)] rfl ?_))
  exact J34 (false)
theorem c85 (H : Snap) (sa_0 : ByteArray) (ta_0 : sa_0.size < 9223372036854775808) : Does Tryz.prog 85 [.string sa_0] H [] (fun v H' kp => ∃ (sra_0 : ByteArray),v = .string sra_0 ∧ sra_0.size < 9223372036854775808) := by
  refine Does.of Tryz.func85 rfl rfl rfl rfl (fun w0 H0 kx => ?_)
  refine sr (g0 1 [(0,.string sa_0)] [gz] rfl (en rfl (sr (g0 1 [(0,.string sa_0),(4,.string sa_0)] [gz] rfl (ef 2 rfl (ca (some 5) (c121 H sa_0 ta_0) ?_))))))
  rintro v3 H4 k6 le5 ⟨bra_0y7,rfl⟩
  refine g0 3 [(0,.string sa_0),(3,.bool bra_0y7)] [gz] rfl (en rfl (Ok.seq (Ok.seq (Ok.regJ (ι := Bool) (fun y10 => [(0,.string sa_0),(11,.bool y10)]) ?_ (fun J9 => ?_)))))
  · rintro bJ9_11
    refine Ok.thenN (cd bJ9_11 (fun h11 => ?_) (fun h11 => ?_))
    · refine sr (g0 2 [(2,.string sa_0)] [gz,gz] rfl (en rfl (Ok.ret_ (Ok.thenR ?_))))
      exact Ok.ret1 (v := .string sa_0) le5 rfl rfl ⟨sa_0,rfl,ta_0⟩
    refine skn (sr ?_)
    have tm14 := tmod_lit ((sa_0.size : Nat) : Int) 6 (by decide)
    refine g4 4 (fun b13 => [(13,sl b13 0 6 6),(16,iw (Int.tmod ((sa_0.size : Nat) : Int) 6))]) (fun b13 => [.blk b13 [.string ⟨#[97]⟩,.string ⟨#[98]⟩,.string ⟨#[99]⟩,.string ⟨#[100]⟩,.string ⟨#[101]⟩,.string ⟨#[102]⟩] 9]) [.g [.N],gz,gz,gz] rfl (fun b13 => (Ok.pubP 0 rfl [] rfl ?_))
    intro H15 le16 pf17
    have f19 : WfS H15 el9 (some ⟨b13,0,none⟩) 6 := (WfS.of_pre (xs := [.string ⟨#[97]⟩,.string ⟨#[98]⟩,.string ⟨#[99]⟩,.string ⟨#[100]⟩,.string ⟨#[101]⟩,.string ⟨#[102]⟩]) pf17 (Elems.snoc (Elems.snoc (Elems.snoc (Elems.snoc (Elems.snoc (Elems.snoc (Elems.nil el9) (mkl_cons (mkv_str _ (by decide)) mkl_nil)) (mkl_cons (mkv_str _ (by decide)) mkl_nil)) (mkl_cons (mkv_str _ (by decide)) mkl_nil)) (mkl_cons (mkv_str _ (by decide)) mkl_nil)) (mkl_cons (mkv_str _ (by decide)) mkl_nil)) (mkl_cons (mkv_str _ (by decide)) mkl_nil)) (by decide))
    have ie20 : 0 ≤ (Int.tmod ((sa_0.size : Nat) : Int) 6) ∧ (Int.tmod ((sa_0.size : Nat) : Int) 6) < ((6 : Nat) : Int) := by omega
    obtain ⟨je20,cse20,we20,he20⟩ := f19.at_ (Int.tmod ((sa_0.size : Nat) : Int) 6) ie20.1 ie20.2
    obtain ⟨ue20_0,le20_0,rfl,ve20_0,we20_0⟩ := wfl_cons we20
    obtain ⟨se20_0,rfl,te20_0⟩ := wfv_str ve20_0
    obtain rfl := wfl_nil we20_0
    refine g2 7 [(2,.string se20_0)] [.ix,.g [.X (.string se20_0)],gz] (ex1 (And.intro je20 ie20) (ex1 (cell0 (he20 0 _ rfl)) ex0)) rfl (en rfl (Ok.ret_ ?_))
    exact Ok.ret1 (v := .string se20_0) (tr le5 le16) rfl rfl ⟨se20_0,rfl,te20_0⟩
  refine g0 2 [(0,.string sa_0),(7,.bool bra_0y7)] [gz,gz] rfl (cs bra_0y7 [7] (fun h22 => ?_) (fun h22 => ?_))
  · refine g0 6 [(0,.string sa_0),(11,.bool (decide (((sa_0.size : Nat) : Int) ≤ 4)))] [gz,gz,gz,gz] rfl (Ok.segEnd rfl (Ok.restr [0,11] [(0,.string sa_0),(11,.bool (decide (((sa_0.size : Nat) : Int) ≤ 4)))] rfl ?_))
    exact J9 ((decide (((sa_0.size : Nat) : Int) ≤ 4)))
  refine g0 6 [(0,.string sa_0),(11,bF)] [gz,gz,gz,gz] rfl (Ok.segEnd rfl (Ok.restr [0,11] [(0,.string sa_0),(11,bF)] rfl ?_))
  exact J9 (false)
theorem c86 (H : Snap) (sa_0 : ByteArray) (ta_0 : sa_0.size < 9223372036854775808) : Does Tryz.prog 86 [.string sa_0] H [] (fun v H' kp => ∃ (bra_0 : Bool),v = .bool bra_0) := by
  refine Does.of Tryz.func86 rfl rfl rfl rfl (fun w0 H0 kx => ?_)
  refine sr (g0 1 [(0,.string sa_0)] [gz] rfl (en rfl (Ok.seq (Ok.regJ (ι := Bool) (fun y3 => [(2,.bool y3)]) ?_ (fun J2 => ?_)))))
  · rintro bJ2_2
    refine Ok.thenN (Ok.ret_ ?_)
    exact Ok.ret1 (v := .bool bJ2_2) (SLe.refl _) rfl rfl ⟨bJ2_2,rfl⟩
  refine g0 4 [(0,.string sa_0),(6,.bool (decide (((sa_0.size : Nat) : Int) ≥ 1)))] [gz,gz,gz,gz] rfl (cs (decide (((sa_0.size : Nat) : Int) ≥ 1)) [6] (fun h5 => ?_) (fun h5 => ?_))
  · have h5 := of_decide_eq_true h5
    refine g0 9 [(2,.bool (decide (((sa_0.size : Nat) : Int) ≤ 16)))] [gz,gz,gz,gz,gz] rfl (Ok.segEnd rfl (Ok.restr [2] [(2,.bool (decide (((sa_0.size : Nat) : Int) ≤ 16)))] rfl ?_))
    exact J2 ((decide (((sa_0.size : Nat) : Int) ≤ 16)))
  have h5 := of_decide_eq_false h5
  refine g0 9 [(2,bF)] [gz,gz,gz,gz,gz] rfl (Ok.segEnd rfl (Ok.restr [2] [(2,bF)] rfl ?_))
  exact J2 (false)
theorem c6 (H : Snap) (Aa_0 : Option Addr) (na_0 : Nat) (ca_0 : Nat) (za_1 : Int) (zb_0 : Int) (ha_0 : WfS H el41 Aa_0 na_0) : Does Tryz.prog 6 [.agg #[.slice Aa_0 na_0 ca_0,iw za_1],iw zb_0] H [] (fun v H' kp => ∃ (zra_0 : Int) (sra_1 : ByteArray) (zra_2 : Int) (zra_3 : Int) (brb_0 : Bool),v = .tuple #[.agg #[iw zra_0,.string sra_1,iw zra_2,iw zra_3],.bool brb_0] ∧ sra_1.size < 9223372036854775808) := by
  have lha_0 := ha_0.1
  refine Does.of Tryz.func6 rfl rfl rfl rfl (fun w0 H0 kx => ?_)
  refine sr (g4 3 (fun b1 => [(1,iw zb_0),(2,pt b1 0),(4,pt (b1+1) 0)]) (fun b1 => [.blk b1 [.slice Aa_0 na_0 ca_0,iw za_1] 34,.blk (b1+1) [iw 0,s0,iw 0,iw 0] 41]) [.g [.N],.g [.N],gz] rfl (fun b1 => (en rfl ?_)))
  refine Ok.seq (sr (g0 1 [(1,iw zb_0),(2,pt b1 0),(4,pt (b1+1) 0),(6,iw 0)] [gz] rfl (en rfl (Ok.blk (Ok.restr [1,2,4,6] [(1,iw zb_0),(2,pt b1 0),(4,pt (b1+1) 0),(6,iw 0)] rfl (Ok.loop (fun H' fr kb m => ∃ (zL3_6 : Int),fr = [(1,iw zb_0),(2,pt b1 0),(4,pt (b1+1) 0),(6,iw zL3_6)] ∧ kb = [.blk b1 [.slice Aa_0 na_0 ca_0,iw za_1] 34,.blk (b1+1) [iw 0,s0,iw 0,iw 0] 41] ∧ m = ((((na_0 : Nat) : Int)) - zL3_6).toNat ∧ SLe H H' ∧ 0 ≤ zL3_6 ∧ zL3_6 ≤ ((na_0 : Nat) : Int)) _ ⟨0,rfl,rfl,rfl,SLe.refl _,by decide,by omega⟩ ?_))))))
  rintro H4 _ _ mL3 ⟨zL3_6,rfl,rfl,hmL3,le5,fL3_0,fL3_1⟩
  refine Ok.seq (sr (g0 5 [(1,iw zb_0),(2,pt b1 0),(4,pt (b1+1) 0),(6,iw zL3_6),(11,.bool (decide (zL3_6 < ((na_0 : Nat) : Int))))] [gz,gz,.g [.K 0 0],gz,gz] rfl (en rfl (cd (decide (zL3_6 < ((na_0 : Nat) : Int))) (fun h7 => ?_) (fun h7 => ?_)))))
  · have h7 := of_decide_eq_true h7
    refine skn (Ok.seq (Ok.blk (sr ?_)))
    have ie9 : 0 ≤ zL3_6 ∧ zL3_6 < ((na_0 : Nat) : Int) := by omega
    obtain ⟨je9,cse9,we9,he9⟩ := (WfS.mono le5 ha_0).at_ zL3_6 ie9.1 ie9.2
    obtain ⟨ue9_0,le9_0,rfl,ve9_0,we9_0⟩ := wfl_cons we9
    obtain ⟨ze9_0,rfl⟩ := wfv_int ve9_0
    obtain ⟨ue9_1,le9_1,rfl,ve9_1,we9_1⟩ := wfl_cons we9_0
    obtain ⟨se9_1,rfl,te9_1⟩ := wfv_str ve9_1
    obtain ⟨ue9_2,le9_2,rfl,ve9_2,we9_2⟩ := wfl_cons we9_1
    obtain ⟨ze9_2,rfl⟩ := wfv_int ve9_2
    obtain ⟨ue9_3,le9_3,rfl,ve9_3,we9_3⟩ := wfl_cons we9_2
    obtain ⟨ze9_3,rfl⟩ := wfv_int ve9_3
    obtain rfl := wfl_nil we9_3
    refine g2 8 [(1,iw zb_0),(2,pt b1 0),(4,pt (b1+1) 0),(6,iw zL3_6),(21,.bool (ze9_0 == zb_0))] [gz,.g [.K 0 0],gz,.ix,gz,.g [.X (iw ze9_0)],gz,gz] (ex1 (And.intro je9 ie9) (ex1 (cell0 (he9 0 _ rfl)) ex0)) rfl (en rfl (cd (ze9_0 == zb_0) (fun h10 => ?_) (fun h10 => ?_)))
    · have h10 := eq_of_beq h10
      refine sr (g3 7 [(4,pt (b1+1) 0),(5,bT)] [.blk b1 [.slice Aa_0 na_0 ca_0,iw za_1] 34,.blk (b1+1) [iw ze9_0,.string se9_1,iw ze9_2,iw ze9_3] 41] [gz,.g [.K 0 0],gz,.ix,.g [.X (iw ze9_0),.X (.string se9_1),.X (iw ze9_2),.X (iw ze9_3)],.g [.K 1 0,.K 1 1,.K 1 2,.K 1 3],gz] (ex1 (And.intro je9 ie9) (ex1 (cell0 (he9 0 _ rfl)) (ex1 (he9 (1) _ rfl) (ex1 (he9 (2) _ rfl) (ex1 (he9 (3) _ rfl) ex0))))) rfl (en rfl (Ok.ret_ (Ok.blkR (Ok.thenR (Ok.thenR (Ok.blkR (Ok.thenR ?_))))))))
      exact Ok.ret2c le5 [.K 1 0,.K 1 1,.K 1 2,.K 1 3] (.agg #[iw ze9_0,.string se9_1,iw ze9_2,iw ze9_3]) (bT) [b1+1,b1+1,b1+1,b1+1] rfl (by kernel_rfl) rfl ⟨ze9_0,se9_1,ze9_2,ze9_3,true,rfl,te9_1⟩
    have h10 := ne_of_beq_false h10
    refine Ok.skip_ (Ok.blkN (Ok.thenN (Ok.reg ?_)))
    have k13 := wid (x := zL3_6 + 1) (by omega)
    refine g0 3 [(1,iw zb_0),(2,pt b1 0),(4,pt (b1+1) 0),(6,iw (w64 (zL3_6 + 1)))] [gz,gz,gz] rfl (en rfl (Ok.restr [1,2,4,6] [(1,iw zb_0),(2,pt b1 0),(4,pt (b1+1) 0),(6,iw (w64 (zL3_6 + 1)))] rfl ?_))
    exact Ok.again _ ⟨(w64 (zL3_6 + 1)),rfl,rfl,rfl,le5,by omega,by omega⟩ (by omega)
  have h7 := of_decide_eq_false h7
  refine Ok.exit_ (Ok.thenE (Ok.thenE (Ok.blkE (Ok.thenN (sr (g0 3 [(4,pt (b1+1) 0),(5,bF)] [gz,.g [.K 1 0,.K 1 1,.K 1 2,.K 1 3],gz] rfl (en rfl (Ok.ret_ ?_))))))))
  exact Ok.ret2c le5 [.K 1 0,.K 1 1,.K 1 2,.K 1 3] (.agg #[iw 0,s0,iw 0,iw 0]) (bF) [b1+1,b1+1,b1+1,b1+1] rfl (by kernel_rfl) rfl ⟨0,(⟨#[]⟩ : ByteArray),0,0,false,rfl,(by decide)⟩
theorem c87 (H : Snap) (Aa_0 : Option Addr) (na_0 : Nat) (ca_0 : Nat) (za_1 : Int) (zb_0 : Int) (ha_0 : WfS H el41 Aa_0 na_0) : Does Tryz.prog 87 [.agg #[.slice Aa_0 na_0 ca_0,iw za_1],iw zb_0] H [] (fun v H' kp => ∃ (bra_0 : Bool),v = .bool bra_0) := by
  have lha_0 := ha_0.1
  refine Does.of Tryz.func87 rfl rfl rfl rfl (fun w0 H0 kx => ?_)
  refine sr (g4 2 (fun b1 => [(1,iw zb_0),(2,pt b1 0)]) (fun b1 => [.blk b1 [.slice Aa_0 na_0 ca_0,iw za_1] 34]) [.g [.N],gz] rfl (fun b1 => (en rfl ?_)))
  refine sr (g0 2 [(1,iw zb_0),(8,.agg #[.slice Aa_0 na_0 ca_0,iw za_1]),(9,iw zb_0)] [.g [.K 0 0,.K 0 1],gz] rfl (ef 3 rfl (ca (some 10) (c6 H Aa_0 (na_0) (ca_0) za_1 zb_0 ha_0) ?_)))
  rintro v3 H4 k6 le5 ⟨zra_0y7,sra_1y7,zra_2y7,zra_3y7,brb_0y7,rfl,tra_1y7⟩
  refine g4 9 (fun b8 => [(1,iw zb_0),(5,pt b8 0),(6,.bool brb_0y7)]) (fun b8 => [.blk b1 [.slice Aa_0 na_0 ca_0,iw za_1] 34,.blk b8 [iw zra_0y7,.string sra_1y7,iw zra_2y7,iw zra_3y7] 41]) [gz,gz,gz,.g [.N],.g [.K 1 0,.K 1 1,.K 1 2,.K 1 3],gz] rfl (fun b8 => (en rfl ?_))
  refine Ok.seq (Ok.regJ (ι := Bool) (fun y10 => [(4,.bool y10)]) ?_ (fun J9 => ?_))
  · rintro bJ9_4
    refine Ok.thenN (Ok.ret_ (Ok.dropAll ?_))
    exact Ok.ret1 (v := .bool bJ9_4) le5 rfl rfl ⟨bJ9_4,rfl⟩
  refine g0 3 [(5,pt b8 0),(6,.bool brb_0y7),(15,.bool (zb_0 == 0))] [gz,gz,gz] rfl (cs (zb_0 == 0) [15] (fun h12 => ?_) (fun h12 => ?_))
  · have h12 := eq_of_beq h12
    refine g0 11 [(4,bT)] [gz,gz,gz,gz,gz,gz,gz,gz] rfl (Ok.segEnd rfl (Ok.restr [4] [(4,bT)] rfl ?_))
    exact J9 (true)
  have h12 := ne_of_beq_false h12
  refine g0 5 [(5,pt b8 0),(15,bF),(17,.bool brb_0y7)] [gz,gz] rfl (cs brb_0y7 [17] (fun h15 => ?_) (fun h15 => ?_))
  · refine g0 11 [(4,.bool (zra_2y7 == 6))] [gz,.g [.K 1 2],gz,gz,gz,gz] rfl (Ok.segEnd rfl (Ok.restr [4] [(4,.bool (zra_2y7 == 6))] rfl ?_))
    exact J9 ((zra_2y7 == 6))
  refine g0 11 [(4,bF)] [gz,gz,gz,gz,gz,gz] rfl (Ok.segEnd rfl (Ok.restr [4] [(4,bF)] rfl ?_))
  exact J9 (false)
theorem c47 (H : Snap) (Aa_0 : Option Addr) (na_0 : Nat) (ca_0 : Nat) (za_1 : Int) (zb_0 : Int) (zb_1 : Int) (zb_2 : Int) (sb_3 : ByteArray) (sb_4 : ByteArray) (zb_5 : Int) (zb_6 : Int) (sb_7 : ByteArray) (ha_0 : WfS H el41 Aa_0 na_0) (tb_3 : sb_3.size < 9223372036854775808) (tb_4 : sb_4.size < 9223372036854775808) (tb_7 : sb_7.size < 9223372036854775808) : Does Tryz.prog 47 [.agg #[.slice Aa_0 na_0 ca_0,iw za_1],.agg #[iw zb_0,iw zb_1,iw zb_2,.string sb_3,.string sb_4,iw zb_5,iw zb_6,.string sb_7]] H [] (fun v H' kp => ∃ (zra_0 : Int) (zra_1 : Int) (zra_2 : Int) (sra_3 : ByteArray) (sra_4 : ByteArray) (zra_5 : Int) (zra_6 : Int) (sra_7 : ByteArray),v = .agg #[iw zra_0,iw zra_1,iw zra_2,.string sra_3,.string sra_4,iw zra_5,iw zra_6,.string sra_7] ∧ sra_3.size < 9223372036854775808 ∧ sra_4.size < 9223372036854775808 ∧ sra_7.size < 9223372036854775808) := by
  have lha_0 := ha_0.1
  refine Does.of Tryz.func47 rfl rfl rfl rfl (fun w0 H0 kx => ?_)
  refine sr (g4 3 (fun b1 => [(2,pt b1 0),(3,pt (b1+1) 0),(4,pt (b1+1+1) 0)]) (fun b1 => [.blk b1 [.slice Aa_0 na_0 ca_0,iw za_1] 34,.blk (b1+1) [iw zb_0,iw zb_1,iw zb_2,.string sb_3,.string sb_4,iw zb_5,iw zb_6,.string sb_7] 105,.blk (b1+1+1) [iw 0,iw 0,iw 0,s0,s0,iw 0,iw 0,s0] 105]) [.g [.N],.g [.N],.g [.N]] rfl (fun b1 => (en rfl ?_)))
  refine Ok.seq (st [0,1,2] [] 36 ?_)
  refine tk 14 [(0,gz),(1,.g [.K 1 0]),(4,gz),(5,.g [.K 1 1]),(6,gz),(7,.g [.K 0 1]),(10,gz),(11,.g [.K 1 2]),(12,gz),(13,.g [.K 0 1]),(16,gz),(17,.g [.K 1 3]),(19,gz),(20,.g [.K 1 4]),(22,gz),(23,.g [.K 1 5]),(26,gz),(27,.g [.K 1 6]),(28,gz),(29,.g [.K 0 1]),(31,gz),(32,.g [.K 1 7])] [(2,pt b1 0),(3,pt (b1+1) 0),(4,pt (b1+1+1) 0),(7,iw zb_0),(11,iw zb_1),(13,iw za_1),(17,iw zb_2),(19,iw za_1),(23,.string sb_3),(26,.string sb_4),(29,iw zb_5),(33,iw zb_6),(35,iw za_1),(38,.string sb_7)] rfl ?_
  refine o2 2 34 13 rfl ?_ ?_
  · refine (ca (some 8) (c84 H zb_0 7) ?_)
    rintro v2 H3 k5 le4 ⟨zra_0y6,rfl⟩
    refine ws [0,1,2] le4 ?_
    refine tk 12 [(3,gz)] [(2,pt b1 0),(3,pt (b1+1) 0),(4,pt (b1+1+1) 0),(9,iw (w64 (1 + zra_0y6))),(11,iw zb_1),(13,iw za_1),(17,iw zb_2),(19,iw za_1),(23,.string sb_3),(26,.string sb_4),(29,iw zb_5),(33,iw zb_6),(35,iw za_1),(38,.string sb_7)] rfl ?_
    refine o2 8 34 11 rfl ?_ ?_
    · refine (ca (some 14) (c84 H3 zb_1 za_1) ?_)
      rintro v7 H8 k10 le9 ⟨zra_0y11,rfl⟩
      refine ws [0,1,2] (tr le4 le9) ?_
      refine tk 10 [(9,gz)] [(2,pt b1 0),(3,pt (b1+1) 0),(4,pt (b1+1+1) 0),(9,iw (w64 (1 + zra_0y6))),(15,iw (w64 (1 + zra_0y11))),(17,iw zb_2),(19,iw za_1),(23,.string sb_3),(26,.string sb_4),(29,iw zb_5),(33,iw zb_6),(35,iw za_1),(38,.string sb_7)] rfl ?_
      refine o2 14 34 9 rfl ?_ ?_
      · refine (ca (some 20) (c84 H8 zb_2 za_1) ?_)
        rintro v12 H13 k15 le14 ⟨zra_0y16,rfl⟩
        refine ws [0,1,2] (tr le4 (tr le9 le14)) ?_
        refine tk 8 [(15,gz)] [(2,pt b1 0),(3,pt (b1+1) 0),(4,pt (b1+1+1) 0),(9,iw (w64 (1 + zra_0y6))),(15,iw (w64 (1 + zra_0y11))),(21,iw (w64 (1 + zra_0y16))),(23,.string sb_3),(26,.string sb_4),(29,iw zb_5),(33,iw zb_6),(35,iw za_1),(38,.string sb_7)] rfl ?_
        refine o2 18 34 7 rfl ?_ ?_
        · refine (ca (some 24) (c85 H13 sb_3 tb_3) ?_)
          rintro v17 H18 k20 le19 ⟨sra_0y21,rfl,tra_0y21⟩
          refine ws [0,1,2] (tr le4 (tr le9 (tr le14 le19))) ?_
          refine o2 21 34 6 rfl ?_ ?_
          · refine (ca (some 27) (c85 H18 sb_4 tb_4) ?_)
            rintro v22 H23 k25 le24 ⟨sra_0y26,rfl,tra_0y26⟩
            refine ws [0,1,2] (tr le4 (tr le9 (tr le14 (tr le19 le24)))) ?_
            refine o2 24 34 5 rfl ?_ ?_
            · refine (ca (some 30) (c84 H23 zb_5 6) ?_)
              rintro v27 H28 k30 le29 ⟨zra_0y31,rfl⟩
              refine ws [0,1,2] (tr le4 (tr le9 (tr le14 (tr le19 (tr le24 le29))))) ?_
              refine tk 4 [(25,gz)] [(2,pt b1 0),(3,pt (b1+1) 0),(4,pt (b1+1+1) 0),(9,iw (w64 (1 + zra_0y6))),(15,iw (w64 (1 + zra_0y11))),(21,iw (w64 (1 + zra_0y16))),(24,.string sra_0y21),(27,.string sra_0y26),(31,iw (w64 (1 + zra_0y31))),(33,iw zb_6),(35,iw za_1),(38,.string sb_7)] rfl ?_
              refine o2 30 34 3 rfl ?_ ?_
              · refine (ca (some 36) (c84 H28 zb_6 za_1) ?_)
                rintro v32 H33 k35 le34 ⟨zra_0y36,rfl⟩
                refine ws [0,1,2] (tr le4 (tr le9 (tr le14 (tr le19 (tr le24 (tr le29 le34)))))) ?_
                refine tk 2 [(33,gz)] [(2,pt b1 0),(3,pt (b1+1) 0),(4,pt (b1+1+1) 0),(39,.agg #[iw (w64 (1 + zra_0y6)),iw (w64 (1 + zra_0y11)),iw (w64 (1 + zra_0y16)),.string sra_0y21,.string sra_0y26,iw (w64 (1 + zra_0y31)),iw zra_0y36,.string sb_7])] rfl ?_
                refine on 34 1 rfl (e4 (.g [.N]) (fun b37 => [(2,pt b1 0),(3,pt (b1+1) 0),(4,pt (b1+1+1) 0),(5,pt b37 0),(39,.agg #[iw (w64 (1 + zra_0y6)),iw (w64 (1 + zra_0y11)),iw (w64 (1 + zra_0y16)),.string sra_0y21,.string sra_0y26,iw (w64 (1 + zra_0y31)),iw zra_0y36,.string sb_7])]) (fun b37 => [.blk b1 [.slice Aa_0 na_0 ca_0,iw za_1] 34,.blk (b1+1) [iw zb_0,iw zb_1,iw zb_2,.string sb_3,.string sb_4,iw zb_5,iw zb_6,.string sb_7] 105,.blk (b1+1+1) [iw 0,iw 0,iw 0,s0,s0,iw 0,iw 0,s0] 105,.blk b37 [iw 0,iw 0,iw 0,s0,s0,iw 0,iw 0,s0] 105]) (fun b37 => ?_))
                refine ws [0,1,2] (tr le4 (tr le9 (tr le14 (tr le19 (tr le24 (tr le29 le34)))))) ?_
                refine on 35 0 rfl (e1 (.g [.K 3 0,.K 3 1,.K 3 2,.K 3 3,.K 3 4,.K 3 5,.K 3 6,.K 3 7]) [(2,pt b1 0),(3,pt (b1+1) 0),(4,pt (b1+1+1) 0),(5,pt b37 0)] [.blk b1 [.slice Aa_0 na_0 ca_0,iw za_1] 34,.blk (b1+1) [iw zb_0,iw zb_1,iw zb_2,.string sb_3,.string sb_4,iw zb_5,iw zb_6,.string sb_7] 105,.blk (b1+1+1) [iw 0,iw 0,iw 0,s0,s0,iw 0,iw 0,s0] 105,.blk b37 [iw (w64 (1 + zra_0y6)),iw (w64 (1 + zra_0y11)),iw (w64 (1 + zra_0y16)),.string sra_0y21,.string sra_0y26,iw (w64 (1 + zra_0y31)),iw zra_0y36,.string sb_7] 105] ?_)
                refine ws [0,1,2] (tr le4 (tr le9 (tr le14 (tr le19 (tr le24 (tr le29 le34)))))) ?_
                refine dn (Ok.seq (sr (g0 2 [(2,pt b1 0),(4,pt (b1+1+1) 0),(5,pt b37 0),(41,.string sb_7)] [gz,.g [.K 1 7]] rfl (ef 3 rfl (ca (some 42) (c86 H33 sb_7 tb_7) ?_)))))
                rintro v40 H41 k43 le42 ⟨bra_0y44,rfl⟩
                refine g0 4 [(2,pt b1 0),(4,pt (b1+1+1) 0),(5,pt b37 0),(43,.bool (!bra_0y44))] [gz] rfl (en rfl (cd (!bra_0y44) (fun h46 => ?_) (fun h46 => ?_)))
                · refine Ok.reg (g1 2 [(2,pt b1 0),(4,pt (b1+1+1) 0),(5,pt b37 0)] [.blk b1 [.slice Aa_0 na_0 ca_0,iw za_1] 34,.blk (b1+1) [iw zb_0,iw zb_1,iw zb_2,.string sb_3,.string sb_4,iw zb_5,iw zb_6,.string sb_7] 105,.blk (b1+1+1) [iw 0,iw 0,iw 0,s0,s0,iw 0,iw 0,s0] 105,.blk b37 [iw (w64 (1 + zra_0y6)),iw (w64 (1 + zra_0y11)),iw (w64 (1 + zra_0y16)),.string sra_0y21,.string sra_0y26,iw (w64 (1 + zra_0y31)),iw zra_0y36,.string ⟨#[45]⟩] 105] [gz,.g [.K 3 7]] rfl (en rfl (Ok.seq (sr (g0 3 [(4,pt (b1+1+1) 0),(5,pt b37 0),(45,.agg #[.slice Aa_0 na_0 ca_0,iw za_1]),(47,iw zra_0y36)] [.g [.K 0 0,.K 0 1],gz,.g [.K 3 6]] rfl (Ok.mask [false,false,true,true] [.blk (b1+1+1) [iw 0,iw 0,iw 0,s0,s0,iw 0,iw 0,s0] 105,.blk b37 [iw (w64 (1 + zra_0y6)),iw (w64 (1 + zra_0y11)),iw (w64 (1 + zra_0y16)),.string sra_0y21,.string sra_0y26,iw (w64 (1 + zra_0y31)),iw zra_0y36,.string ⟨#[45]⟩] 105] rfl (ef 4 rfl (ca (some 48) (c87 H41 Aa_0 (na_0) (ca_0) za_1 zra_0y36 (WfS.mono (tr le4 (tr le9 (tr le14 (tr le19 (tr le24 (tr le29 (tr le34 le42))))))) ha_0)) ?_))))))))
                  rintro v49 H50 k52 le51 ⟨bra_0y53,rfl⟩
                  refine g0 5 [(4,pt (b1+1+1) 0),(5,pt b37 0),(49,.bool (!bra_0y53))] [gz] rfl (en rfl (cd (!bra_0y53) (fun h55 => ?_) (fun h55 => ?_)))
                  · refine Ok.reg (g1 2 [(4,pt (b1+1+1) 0),(5,pt b37 0)] [.blk (b1+1+1) [iw 0,iw 0,iw 0,s0,s0,iw 0,iw 0,s0] 105,.blk b37 [iw (w64 (1 + zra_0y6)),iw (w64 (1 + zra_0y11)),iw (w64 (1 + zra_0y16)),.string sra_0y21,.string sra_0y26,iw (w64 (1 + zra_0y31)),iw 0,.string ⟨#[45]⟩] 105] [gz,.g [.K 1 6]] rfl (en rfl (sr (g1 2 [(4,pt (b1+1+1) 0)] [.blk (b1+1+1) [iw (w64 (1 + zra_0y6)),iw (w64 (1 + zra_0y11)),iw (w64 (1 + zra_0y16)),.string sra_0y21,.string sra_0y26,iw (w64 (1 + zra_0y31)),iw 0,.string ⟨#[45]⟩] 105,.blk b37 [iw (w64 (1 + zra_0y6)),iw (w64 (1 + zra_0y11)),iw (w64 (1 + zra_0y16)),.string sra_0y21,.string sra_0y26,iw (w64 (1 + zra_0y31)),iw 0,.string ⟨#[45]⟩] 105] [.g [.K 1 0,.K 1 1,.K 1 2,.K 1 3,.K 1 4,.K 1 5,.K 1 6,.K 1 7],.g [.K 0 0,.K 0 1,.K 0 2,.K 0 3,.K 0 4,.K 0 5,.K 0 6,.K 0 7]] rfl (en rfl (Ok.ret_ ?_))))))
                    exact Ok.ret1c (tr le4 (tr le9 (tr le14 (tr le19 (tr le24 (tr le29 (tr le34 (tr le42 le51)))))))) [.K 0 0,.K 0 1,.K 0 2,.K 0 3,.K 0 4,.K 0 5,.K 0 6,.K 0 7] (.agg #[iw (w64 (1 + zra_0y6)),iw (w64 (1 + zra_0y11)),iw (w64 (1 + zra_0y16)),.string sra_0y21,.string sra_0y26,iw (w64 (1 + zra_0y31)),iw 0,.string ⟨#[45]⟩]) [b1+1+1,b1+1+1,b1+1+1,b1+1+1,b1+1+1,b1+1+1,b1+1+1,b1+1+1] rfl (by kernel_rfl) ⟨(w64 (1 + zra_0y6)),(w64 (1 + zra_0y11)),(w64 (1 + zra_0y16)),sra_0y21,sra_0y26,(w64 (1 + zra_0y31)),0,(⟨#[45]⟩ : ByteArray),rfl,tra_0y21,tra_0y26,(by decide)⟩
                  refine skn (sr (g1 2 [(4,pt (b1+1+1) 0)] [.blk (b1+1+1) [iw (w64 (1 + zra_0y6)),iw (w64 (1 + zra_0y11)),iw (w64 (1 + zra_0y16)),.string sra_0y21,.string sra_0y26,iw (w64 (1 + zra_0y31)),iw zra_0y36,.string ⟨#[45]⟩] 105,.blk b37 [iw (w64 (1 + zra_0y6)),iw (w64 (1 + zra_0y11)),iw (w64 (1 + zra_0y16)),.string sra_0y21,.string sra_0y26,iw (w64 (1 + zra_0y31)),iw zra_0y36,.string ⟨#[45]⟩] 105] [.g [.K 1 0,.K 1 1,.K 1 2,.K 1 3,.K 1 4,.K 1 5,.K 1 6,.K 1 7],.g [.K 0 0,.K 0 1,.K 0 2,.K 0 3,.K 0 4,.K 0 5,.K 0 6,.K 0 7]] rfl (en rfl (Ok.ret_ ?_))))
                  exact Ok.ret1c (tr le4 (tr le9 (tr le14 (tr le19 (tr le24 (tr le29 (tr le34 (tr le42 le51)))))))) [.K 0 0,.K 0 1,.K 0 2,.K 0 3,.K 0 4,.K 0 5,.K 0 6,.K 0 7] (.agg #[iw (w64 (1 + zra_0y6)),iw (w64 (1 + zra_0y11)),iw (w64 (1 + zra_0y16)),.string sra_0y21,.string sra_0y26,iw (w64 (1 + zra_0y31)),iw zra_0y36,.string ⟨#[45]⟩]) [b1+1+1,b1+1+1,b1+1+1,b1+1+1,b1+1+1,b1+1+1,b1+1+1,b1+1+1] rfl (by kernel_rfl) ⟨(w64 (1 + zra_0y6)),(w64 (1 + zra_0y11)),(w64 (1 + zra_0y16)),sra_0y21,sra_0y26,(w64 (1 + zra_0y31)),zra_0y36,(⟨#[45]⟩ : ByteArray),rfl,tra_0y21,tra_0y26,(by decide)⟩
                refine skn (Ok.seq (sr (g0 3 [(4,pt (b1+1+1) 0),(5,pt b37 0),(45,.agg #[.slice Aa_0 na_0 ca_0,iw za_1]),(47,iw zra_0y36)] [.g [.K 0 0,.K 0 1],gz,.g [.K 3 6]] rfl (Ok.mask [false,false,true,true] [.blk (b1+1+1) [iw 0,iw 0,iw 0,s0,s0,iw 0,iw 0,s0] 105,.blk b37 [iw (w64 (1 + zra_0y6)),iw (w64 (1 + zra_0y11)),iw (w64 (1 + zra_0y16)),.string sra_0y21,.string sra_0y26,iw (w64 (1 + zra_0y31)),iw zra_0y36,.string sb_7] 105] rfl ?_))))
                refine ef 4 rfl (ca (some 48) (c87 H41 Aa_0 (na_0) (ca_0) za_1 zra_0y36 (WfS.mono (tr le4 (tr le9 (tr le14 (tr le19 (tr le24 (tr le29 (tr le34 le42))))))) ha_0)) ?_)
                rintro v60 H61 k63 le62 ⟨bra_0y64,rfl⟩
                refine g0 5 [(4,pt (b1+1+1) 0),(5,pt b37 0),(49,.bool (!bra_0y64))] [gz] rfl (en rfl (cd (!bra_0y64) (fun h66 => ?_) (fun h66 => ?_)))
                · refine Ok.reg (g1 2 [(4,pt (b1+1+1) 0),(5,pt b37 0)] [.blk (b1+1+1) [iw 0,iw 0,iw 0,s0,s0,iw 0,iw 0,s0] 105,.blk b37 [iw (w64 (1 + zra_0y6)),iw (w64 (1 + zra_0y11)),iw (w64 (1 + zra_0y16)),.string sra_0y21,.string sra_0y26,iw (w64 (1 + zra_0y31)),iw 0,.string sb_7] 105] [gz,.g [.K 1 6]] rfl (en rfl (sr (g1 2 [(4,pt (b1+1+1) 0)] [.blk (b1+1+1) [iw (w64 (1 + zra_0y6)),iw (w64 (1 + zra_0y11)),iw (w64 (1 + zra_0y16)),.string sra_0y21,.string sra_0y26,iw (w64 (1 + zra_0y31)),iw 0,.string sb_7] 105,.blk b37 [iw (w64 (1 + zra_0y6)),iw (w64 (1 + zra_0y11)),iw (w64 (1 + zra_0y16)),.string sra_0y21,.string sra_0y26,iw (w64 (1 + zra_0y31)),iw 0,.string sb_7] 105] [.g [.K 1 0,.K 1 1,.K 1 2,.K 1 3,.K 1 4,.K 1 5,.K 1 6,.K 1 7],.g [.K 0 0,.K 0 1,.K 0 2,.K 0 3,.K 0 4,.K 0 5,.K 0 6,.K 0 7]] rfl (en rfl (Ok.ret_ ?_))))))
                  exact Ok.ret1c (tr le4 (tr le9 (tr le14 (tr le19 (tr le24 (tr le29 (tr le34 (tr le42 le62)))))))) [.K 0 0,.K 0 1,.K 0 2,.K 0 3,.K 0 4,.K 0 5,.K 0 6,.K 0 7] (.agg #[iw (w64 (1 + zra_0y6)),iw (w64 (1 + zra_0y11)),iw (w64 (1 + zra_0y16)),.string sra_0y21,.string sra_0y26,iw (w64 (1 + zra_0y31)),iw 0,.string sb_7]) [b1+1+1,b1+1+1,b1+1+1,b1+1+1,b1+1+1,b1+1+1,b1+1+1,b1+1+1] rfl (by kernel_rfl) ⟨(w64 (1 + zra_0y6)),(w64 (1 + zra_0y11)),(w64 (1 + zra_0y16)),sra_0y21,sra_0y26,(w64 (1 + zra_0y31)),0,sb_7,rfl,tra_0y21,tra_0y26,tb_7⟩
                refine skn (sr (g1 2 [(4,pt (b1+1+1) 0)] [.blk (b1+1+1) [iw (w64 (1 + zra_0y6)),iw (w64 (1 + zra_0y11)),iw (w64 (1 + zra_0y16)),.string sra_0y21,.string sra_0y26,iw (w64 (1 + zra_0y31)),iw zra_0y36,.string sb_7] 105,.blk b37 [iw (w64 (1 + zra_0y6)),iw (w64 (1 + zra_0y11)),iw (w64 (1 + zra_0y16)),.string sra_0y21,.string sra_0y26,iw (w64 (1 + zra_0y31)),iw zra_0y36,.string sb_7] 105] [.g [.K 1 0,.K 1 1,.K 1 2,.K 1 3,.K 1 4,.K 1 5,.K 1 6,.K 1 7],.g [.K 0 0,.K 0 1,.K 0 2,.K 0 3,.K 0 4,.K 0 5,.K 0 6,.K 0 7]] rfl (en rfl (Ok.ret_ ?_))))
                exact Ok.ret1c (tr le4 (tr le9 (tr le14 (tr le19 (tr le24 (tr le29 (tr le34 (tr le42 le62)))))))) [.K 0 0,.K 0 1,.K 0 2,.K 0 3,.K 0 4,.K 0 5,.K 0 6,.K 0 7] (.agg #[iw (w64 (1 + zra_0y6)),iw (w64 (1 + zra_0y11)),iw (w64 (1 + zra_0y16)),.string sra_0y21,.string sra_0y26,iw (w64 (1 + zra_0y31)),iw zra_0y36,.string sb_7]) [b1+1+1,b1+1+1,b1+1+1,b1+1+1,b1+1+1,b1+1+1,b1+1+1,b1+1+1] rfl (by kernel_rfl) ⟨(w64 (1 + zra_0y6)),(w64 (1 + zra_0y11)),(w64 (1 + zra_0y16)),sra_0y21,sra_0y26,(w64 (1 + zra_0y31)),zra_0y36,sb_7,rfl,tra_0y21,tra_0y26,tb_7⟩
              refine (e4 (.g [.N]) (fun b70 => [(2,pt b1 0),(3,pt (b1+1) 0),(4,pt (b1+1+1) 0),(5,pt b70 0),(9,iw (w64 (1 + zra_0y6))),(15,iw (w64 (1 + zra_0y11))),(21,iw (w64 (1 + zra_0y16))),(24,.string sra_0y21),(27,.string sra_0y26),(31,iw (w64 (1 + zra_0y31))),(33,iw zb_6),(35,iw za_1),(38,.string sb_7)]) (fun b70 => [.blk b1 [.slice Aa_0 na_0 ca_0,iw za_1] 34,.blk (b1+1) [iw zb_0,iw zb_1,iw zb_2,.string sb_3,.string sb_4,iw zb_5,iw zb_6,.string sb_7] 105,.blk (b1+1+1) [iw 0,iw 0,iw 0,s0,s0,iw 0,iw 0,s0] 105,.blk b70 [iw 0,iw 0,iw 0,s0,s0,iw 0,iw 0,s0] 105]) (fun b70 => ?_))
              refine ws [0,1,2] (tr le4 (tr le9 (tr le14 (tr le19 (tr le24 le29))))) ?_
              refine on 30 2 rfl (ca (some 36) (c84 H28 zb_6 za_1) ?_)
              rintro v71 H72 k74 le73 ⟨zra_0y75,rfl⟩
              refine ws [0,1,2] (tr le4 (tr le9 (tr le14 (tr le19 (tr le24 (tr le29 le73)))))) ?_
              refine tk 1 [(33,gz)] [(2,pt b1 0),(3,pt (b1+1) 0),(4,pt (b1+1+1) 0),(5,pt b70 0),(39,.agg #[iw (w64 (1 + zra_0y6)),iw (w64 (1 + zra_0y11)),iw (w64 (1 + zra_0y16)),.string sra_0y21,.string sra_0y26,iw (w64 (1 + zra_0y31)),iw zra_0y75,.string sb_7])] rfl ?_
              refine on 35 0 rfl (e1 (.g [.K 3 0,.K 3 1,.K 3 2,.K 3 3,.K 3 4,.K 3 5,.K 3 6,.K 3 7]) [(2,pt b1 0),(3,pt (b1+1) 0),(4,pt (b1+1+1) 0),(5,pt b70 0)] [.blk b1 [.slice Aa_0 na_0 ca_0,iw za_1] 34,.blk (b1+1) [iw zb_0,iw zb_1,iw zb_2,.string sb_3,.string sb_4,iw zb_5,iw zb_6,.string sb_7] 105,.blk (b1+1+1) [iw 0,iw 0,iw 0,s0,s0,iw 0,iw 0,s0] 105,.blk b70 [iw (w64 (1 + zra_0y6)),iw (w64 (1 + zra_0y11)),iw (w64 (1 + zra_0y16)),.string sra_0y21,.string sra_0y26,iw (w64 (1 + zra_0y31)),iw zra_0y75,.string sb_7] 105] ?_)
              refine ws [0,1,2] (tr le4 (tr le9 (tr le14 (tr le19 (tr le24 (tr le29 le73)))))) ?_
              refine dn (Ok.seq (sr (g0 2 [(2,pt b1 0),(4,pt (b1+1+1) 0),(5,pt b70 0),(41,.string sb_7)] [gz,.g [.K 1 7]] rfl (ef 3 rfl (ca (some 42) (c86 H72 sb_7 tb_7) ?_)))))
              rintro v78 H79 k81 le80 ⟨bra_0y82,rfl⟩
              refine g0 4 [(2,pt b1 0),(4,pt (b1+1+1) 0),(5,pt b70 0),(43,.bool (!bra_0y82))] [gz] rfl (en rfl (cd (!bra_0y82) (fun h84 => ?_) (fun h84 => ?_)))
              · refine Ok.reg (g1 2 [(2,pt b1 0),(4,pt (b1+1+1) 0),(5,pt b70 0)] [.blk b1 [.slice Aa_0 na_0 ca_0,iw za_1] 34,.blk (b1+1) [iw zb_0,iw zb_1,iw zb_2,.string sb_3,.string sb_4,iw zb_5,iw zb_6,.string sb_7] 105,.blk (b1+1+1) [iw 0,iw 0,iw 0,s0,s0,iw 0,iw 0,s0] 105,.blk b70 [iw (w64 (1 + zra_0y6)),iw (w64 (1 + zra_0y11)),iw (w64 (1 + zra_0y16)),.string sra_0y21,.string sra_0y26,iw (w64 (1 + zra_0y31)),iw zra_0y75,.string ⟨#[45]⟩] 105] [gz,.g [.K 3 7]] rfl (en rfl (Ok.seq (sr (g0 3 [(4,pt (b1+1+1) 0),(5,pt b70 0),(45,.agg #[.slice Aa_0 na_0 ca_0,iw za_1]),(47,iw zra_0y75)] [.g [.K 0 0,.K 0 1],gz,.g [.K 3 6]] rfl (Ok.mask [false,false,true,true] [.blk (b1+1+1) [iw 0,iw 0,iw 0,s0,s0,iw 0,iw 0,s0] 105,.blk b70 [iw (w64 (1 + zra_0y6)),iw (w64 (1 + zra_0y11)),iw (w64 (1 + zra_0y16)),.string sra_0y21,.string sra_0y26,iw (w64 (1 + zra_0y31)),iw zra_0y75,.string ⟨#[45]⟩] 105] rfl (ef 4 rfl (ca (some 48) (c87 H79 Aa_0 (na_0) (ca_0) za_1 zra_0y75 (WfS.mono (tr le4 (tr le9 (tr le14 (tr le19 (tr le24 (tr le29 (tr le73 le80))))))) ha_0)) ?_))))))))
                rintro v87 H88 k90 le89 ⟨bra_0y91,rfl⟩
                refine g0 5 [(4,pt (b1+1+1) 0),(5,pt b70 0),(49,.bool (!bra_0y91))] [gz] rfl (en rfl (cd (!bra_0y91) (fun h93 => ?_) (fun h93 => ?_)))
                · refine Ok.reg (g1 2 [(4,pt (b1+1+1) 0),(5,pt b70 0)] [.blk (b1+1+1) [iw 0,iw 0,iw 0,s0,s0,iw 0,iw 0,s0] 105,.blk b70 [iw (w64 (1 + zra_0y6)),iw (w64 (1 + zra_0y11)),iw (w64 (1 + zra_0y16)),.string sra_0y21,.string sra_0y26,iw (w64 (1 + zra_0y31)),iw 0,.string ⟨#[45]⟩] 105] [gz,.g [.K 1 6]] rfl (en rfl (sr (g1 2 [(4,pt (b1+1+1) 0)] [.blk (b1+1+1) [iw (w64 (1 + zra_0y6)),iw (w64 (1 + zra_0y11)),iw (w64 (1 + zra_0y16)),.string sra_0y21,.string sra_0y26,iw (w64 (1 + zra_0y31)),iw 0,.string ⟨#[45]⟩] 105,.blk b70 [iw (w64 (1 + zra_0y6)),iw (w64 (1 + zra_0y11)),iw (w64 (1 + zra_0y16)),.string sra_0y21,.string sra_0y26,iw (w64 (1 + zra_0y31)),iw 0,.string ⟨#[45]⟩] 105] [.g [.K 1 0,.K 1 1,.K 1 2,.K 1 3,.K 1 4,.K 1 5,.K 1 6,.K 1 7],.g [.K 0 0,.K 0 1,.K 0 2,.K 0 3,.K 0 4,.K 0 5,.K 0 6,.K 0 7]] rfl (en rfl (Ok.ret_ ?_))))))
                  exact Ok.ret1c (tr le4 (tr le9 (tr le14 (tr le19 (tr le24 (tr le29 (tr le73 (tr le80 le89)))))))) [.K 0 0,.K 0 1,.K 0 2,.K 0 3,.K 0 4,.K 0 5,.K 0 6,.K 0 7] (.agg #[iw (w64 (1 + zra_0y6)),iw (w64 (1 + zra_0y11)),iw (w64 (1 + zra_0y16)),.string sra_0y21,.string sra_0y26,iw (w64 (1 + zra_0y31)),iw 0,.string ⟨#[45]⟩]) [b1+1+1,b1+1+1,b1+1+1,b1+1+1,b1+1+1,b1+1+1,b1+1+1,b1+1+1] rfl (by kernel_rfl) ⟨(w64 (1 + zra_0y6)),(w64 (1 + zra_0y11)),(w64 (1 + zra_0y16)),sra_0y21,sra_0y26,(w64 (1 + zra_0y31)),0,(⟨#[45]⟩ : ByteArray),rfl,tra_0y21,tra_0y26,(by decide)⟩
                refine skn (sr (g1 2 [(4,pt (b1+1+1) 0)] [.blk (b1+1+1) [iw (w64 (1 + zra_0y6)),iw (w64 (1 + zra_0y11)),iw (w64 (1 + zra_0y16)),.string sra_0y21,.string sra_0y26,iw (w64 (1 + zra_0y31)),iw zra_0y75,.string ⟨#[45]⟩] 105,.blk b70 [iw (w64 (1 + zra_0y6)),iw (w64 (1 + zra_0y11)),iw (w64 (1 + zra_0y16)),.string sra_0y21,.string sra_0y26,iw (w64 (1 + zra_0y31)),iw zra_0y75,.string ⟨#[45]⟩] 105] [.g [.K 1 0,.K 1 1,.K 1 2,.K 1 3,.K 1 4,.K 1 5,.K 1 6,.K 1 7],.g [.K 0 0,.K 0 1,.K 0 2,.K 0 3,.K 0 4,.K 0 5,.K 0 6,.K 0 7]] rfl (en rfl (Ok.ret_ ?_))))
                exact Ok.ret1c (tr le4 (tr le9 (tr le14 (tr le19 (tr le24 (tr le29 (tr le73 (tr le80 le89)))))))) [.K 0 0,.K 0 1,.K 0 2,.K 0 3,.K 0 4,.K 0 5,.K 0 6,.K 0 7] (.agg #[iw (w64 (1 + zra_0y6)),iw (w64 (1 + zra_0y11)),iw (w64 (1 + zra_0y16)),.string sra_0y21,.string sra_0y26,iw (w64 (1 + zra_0y31)),iw zra_0y75,.string ⟨#[45]⟩]) [b1+1+1,b1+1+1,b1+1+1,b1+1+1,b1+1+1,b1+1+1,b1+1+1,b1+1+1] rfl (by kernel_rfl) ⟨(w64 (1 + zra_0y6)),(w64 (1 + zra_0y11)),(w64 (1 + zra_0y16)),sra_0y21,sra_0y26,(w64 (1 + zra_0y31)),zra_0y75,(⟨#[45]⟩ : ByteArray),rfl,tra_0y21,tra_0y26,(by decide)⟩
              refine skn (Ok.seq (sr (g0 3 [(4,pt (b1+1+1) 0),(5,pt b70 0),(45,.agg #[.slice Aa_0 na_0 ca_0,iw za_1]),(47,iw zra_0y75)] [.g [.K 0 0,.K 0 1],gz,.g [.K 3 6]] rfl (Ok.mask [false,false,true,true] [.blk (b1+1+1) [iw 0,iw 0,iw 0,s0,s0,iw 0,iw 0,s0] 105,.blk b70 [iw (w64 (1 + zra_0y6)),iw (w64 (1 + zra_0y11)),iw (w64 (1 + zra_0y16)),.string sra_0y21,.string sra_0y26,iw (w64 (1 + zra_0y31)),iw zra_0y75,.string sb_7] 105] rfl ?_))))
              refine ef 4 rfl (ca (some 48) (c87 H79 Aa_0 (na_0) (ca_0) za_1 zra_0y75 (WfS.mono (tr le4 (tr le9 (tr le14 (tr le19 (tr le24 (tr le29 (tr le73 le80))))))) ha_0)) ?_)
              rintro v98 H99 k101 le100 ⟨bra_0y102,rfl⟩
              refine g0 5 [(4,pt (b1+1+1) 0),(5,pt b70 0),(49,.bool (!bra_0y102))] [gz] rfl (en rfl (cd (!bra_0y102) (fun h104 => ?_) (fun h104 => ?_)))
              · refine Ok.reg (g1 2 [(4,pt (b1+1+1) 0),(5,pt b70 0)] [.blk (b1+1+1) [iw 0,iw 0,iw 0,s0,s0,iw 0,iw 0,s0] 105,.blk b70 [iw (w64 (1 + zra_0y6)),iw (w64 (1 + zra_0y11)),iw (w64 (1 + zra_0y16)),.string sra_0y21,.string sra_0y26,iw (w64 (1 + zra_0y31)),iw 0,.string sb_7] 105] [gz,.g [.K 1 6]] rfl (en rfl (sr (g1 2 [(4,pt (b1+1+1) 0)] [.blk (b1+1+1) [iw (w64 (1 + zra_0y6)),iw (w64 (1 + zra_0y11)),iw (w64 (1 + zra_0y16)),.string sra_0y21,.string sra_0y26,iw (w64 (1 + zra_0y31)),iw 0,.string sb_7] 105,.blk b70 [iw (w64 (1 + zra_0y6)),iw (w64 (1 + zra_0y11)),iw (w64 (1 + zra_0y16)),.string sra_0y21,.string sra_0y26,iw (w64 (1 + zra_0y31)),iw 0,.string sb_7] 105] [.g [.K 1 0,.K 1 1,.K 1 2,.K 1 3,.K 1 4,.K 1 5,.K 1 6,.K 1 7],.g [.K 0 0,.K 0 1,.K 0 2,.K 0 3,.K 0 4,.K 0 5,.K 0 6,.K 0 7]] rfl (en rfl (Ok.ret_ ?_))))))
                exact Ok.ret1c (tr le4 (tr le9 (tr le14 (tr le19 (tr le24 (tr le29 (tr le73 (tr le80 le100)))))))) [.K 0 0,.K 0 1,.K 0 2,.K 0 3,.K 0 4,.K 0 5,.K 0 6,.K 0 7] (.agg #[iw (w64 (1 + zra_0y6)),iw (w64 (1 + zra_0y11)),iw (w64 (1 + zra_0y16)),.string sra_0y21,.string sra_0y26,iw (w64 (1 + zra_0y31)),iw 0,.string sb_7]) [b1+1+1,b1+1+1,b1+1+1,b1+1+1,b1+1+1,b1+1+1,b1+1+1,b1+1+1] rfl (by kernel_rfl) ⟨(w64 (1 + zra_0y6)),(w64 (1 + zra_0y11)),(w64 (1 + zra_0y16)),sra_0y21,sra_0y26,(w64 (1 + zra_0y31)),0,sb_7,rfl,tra_0y21,tra_0y26,tb_7⟩
              refine skn (sr (g1 2 [(4,pt (b1+1+1) 0)] [.blk (b1+1+1) [iw (w64 (1 + zra_0y6)),iw (w64 (1 + zra_0y11)),iw (w64 (1 + zra_0y16)),.string sra_0y21,.string sra_0y26,iw (w64 (1 + zra_0y31)),iw zra_0y75,.string sb_7] 105,.blk b70 [iw (w64 (1 + zra_0y6)),iw (w64 (1 + zra_0y11)),iw (w64 (1 + zra_0y16)),.string sra_0y21,.string sra_0y26,iw (w64 (1 + zra_0y31)),iw zra_0y75,.string sb_7] 105] [.g [.K 1 0,.K 1 1,.K 1 2,.K 1 3,.K 1 4,.K 1 5,.K 1 6,.K 1 7],.g [.K 0 0,.K 0 1,.K 0 2,.K 0 3,.K 0 4,.K 0 5,.K 0 6,.K 0 7]] rfl (en rfl (Ok.ret_ ?_))))
              exact Ok.ret1c (tr le4 (tr le9 (tr le14 (tr le19 (tr le24 (tr le29 (tr le73 (tr le80 le100)))))))) [.K 0 0,.K 0 1,.K 0 2,.K 0 3,.K 0 4,.K 0 5,.K 0 6,.K 0 7] (.agg #[iw (w64 (1 + zra_0y6)),iw (w64 (1 + zra_0y11)),iw (w64 (1 + zra_0y16)),.string sra_0y21,.string sra_0y26,iw (w64 (1 + zra_0y31)),iw zra_0y75,.string sb_7]) [b1+1+1,b1+1+1,b1+1+1,b1+1+1,b1+1+1,b1+1+1,b1+1+1,b1+1+1] rfl (by kernel_rfl) ⟨(w64 (1 + zra_0y6)),(w64 (1 + zra_0y11)),(w64 (1 + zra_0y16)),sra_0y21,sra_0y26,(w64 (1 + zra_0y31)),zra_0y75,sb_7,rfl,tra_0y21,tra_0y26,tb_7⟩
            refine (e4 (.g [.N]) (fun b108 => [(2,pt b1 0),(3,pt (b1+1) 0),(4,pt (b1+1+1) 0),(5,pt b108 0),(9,iw (w64 (1 + zra_0y6))),(15,iw (w64 (1 + zra_0y11))),(21,iw (w64 (1 + zra_0y16))),(24,.string sra_0y21),(27,.string sra_0y26),(29,iw zb_5),(33,iw zb_6),(35,iw za_1),(38,.string sb_7)]) (fun b108 => [.blk b1 [.slice Aa_0 na_0 ca_0,iw za_1] 34,.blk (b1+1) [iw zb_0,iw zb_1,iw zb_2,.string sb_3,.string sb_4,iw zb_5,iw zb_6,.string sb_7] 105,.blk (b1+1+1) [iw 0,iw 0,iw 0,s0,s0,iw 0,iw 0,s0] 105,.blk b108 [iw 0,iw 0,iw 0,s0,s0,iw 0,iw 0,s0] 105]) (fun b108 => ?_))
            refine ws [0,1,2] (tr le4 (tr le9 (tr le14 (tr le19 le24)))) ?_
            refine on 24 4 rfl (ca (some 30) (c84 H23 zb_5 6) ?_)
            rintro v109 H110 k112 le111 ⟨zra_0y113,rfl⟩
            refine ws [0,1,2] (tr le4 (tr le9 (tr le14 (tr le19 (tr le24 le111))))) ?_
            refine tk 3 [(25,gz)] [(2,pt b1 0),(3,pt (b1+1) 0),(4,pt (b1+1+1) 0),(5,pt b108 0),(9,iw (w64 (1 + zra_0y6))),(15,iw (w64 (1 + zra_0y11))),(21,iw (w64 (1 + zra_0y16))),(24,.string sra_0y21),(27,.string sra_0y26),(31,iw (w64 (1 + zra_0y113))),(33,iw zb_6),(35,iw za_1),(38,.string sb_7)] rfl ?_
            refine on 30 2 rfl (ca (some 36) (c84 H110 zb_6 za_1) ?_)
            rintro v114 H115 k117 le116 ⟨zra_0y118,rfl⟩
            refine ws [0,1,2] (tr le4 (tr le9 (tr le14 (tr le19 (tr le24 (tr le111 le116)))))) ?_
            refine tk 1 [(33,gz)] [(2,pt b1 0),(3,pt (b1+1) 0),(4,pt (b1+1+1) 0),(5,pt b108 0),(39,.agg #[iw (w64 (1 + zra_0y6)),iw (w64 (1 + zra_0y11)),iw (w64 (1 + zra_0y16)),.string sra_0y21,.string sra_0y26,iw (w64 (1 + zra_0y113)),iw zra_0y118,.string sb_7])] rfl ?_
            refine on 35 0 rfl (e1 (.g [.K 3 0,.K 3 1,.K 3 2,.K 3 3,.K 3 4,.K 3 5,.K 3 6,.K 3 7]) [(2,pt b1 0),(3,pt (b1+1) 0),(4,pt (b1+1+1) 0),(5,pt b108 0)] [.blk b1 [.slice Aa_0 na_0 ca_0,iw za_1] 34,.blk (b1+1) [iw zb_0,iw zb_1,iw zb_2,.string sb_3,.string sb_4,iw zb_5,iw zb_6,.string sb_7] 105,.blk (b1+1+1) [iw 0,iw 0,iw 0,s0,s0,iw 0,iw 0,s0] 105,.blk b108 [iw (w64 (1 + zra_0y6)),iw (w64 (1 + zra_0y11)),iw (w64 (1 + zra_0y16)),.string sra_0y21,.string sra_0y26,iw (w64 (1 + zra_0y113)),iw zra_0y118,.string sb_7] 105] ?_)
            refine ws [0,1,2] (tr le4 (tr le9 (tr le14 (tr le19 (tr le24 (tr le111 le116)))))) ?_
            refine dn (Ok.seq (sr (g0 2 [(2,pt b1 0),(4,pt (b1+1+1) 0),(5,pt b108 0),(41,.string sb_7)] [gz,.g [.K 1 7]] rfl (ef 3 rfl (ca (some 42) (c86 H115 sb_7 tb_7) ?_)))))
            rintro v121 H122 k124 le123 ⟨bra_0y125,rfl⟩
            refine g0 4 [(2,pt b1 0),(4,pt (b1+1+1) 0),(5,pt b108 0),(43,.bool (!bra_0y125))] [gz] rfl (en rfl (cd (!bra_0y125) (fun h127 => ?_) (fun h127 => ?_)))
            · refine Ok.reg (g1 2 [(2,pt b1 0),(4,pt (b1+1+1) 0),(5,pt b108 0)] [.blk b1 [.slice Aa_0 na_0 ca_0,iw za_1] 34,.blk (b1+1) [iw zb_0,iw zb_1,iw zb_2,.string sb_3,.string sb_4,iw zb_5,iw zb_6,.string sb_7] 105,.blk (b1+1+1) [iw 0,iw 0,iw 0,s0,s0,iw 0,iw 0,s0] 105,.blk b108 [iw (w64 (1 + zra_0y6)),iw (w64 (1 + zra_0y11)),iw (w64 (1 + zra_0y16)),.string sra_0y21,.string sra_0y26,iw (w64 (1 + zra_0y113)),iw zra_0y118,.string ⟨#[45]⟩] 105] [gz,.g [.K 3 7]] rfl (en rfl (Ok.seq (sr (g0 3 [(4,pt (b1+1+1) 0),(5,pt b108 0),(45,.agg #[.slice Aa_0 na_0 ca_0,iw za_1]),(47,iw zra_0y118)] [.g [.K 0 0,.K 0 1],gz,.g [.K 3 6]] rfl (Ok.mask [false,false,true,true] [.blk (b1+1+1) [iw 0,iw 0,iw 0,s0,s0,iw 0,iw 0,s0] 105,.blk b108 [iw (w64 (1 + zra_0y6)),iw (w64 (1 + zra_0y11)),iw (w64 (1 + zra_0y16)),.string sra_0y21,.string sra_0y26,iw (w64 (1 + zra_0y113)),iw zra_0y118,.string ⟨#[45]⟩] 105] rfl (ef 4 rfl (ca (some 48) (c87 H122 Aa_0 (na_0) (ca_0) za_1 zra_0y118 (WfS.mono (tr le4 (tr le9 (tr le14 (tr le19 (tr le24 (tr le111 (tr le116 le123))))))) ha_0)) ?_))))))))
              rintro v130 H131 k133 le132 ⟨bra_0y134,rfl⟩
              refine g0 5 [(4,pt (b1+1+1) 0),(5,pt b108 0),(49,.bool (!bra_0y134))] [gz] rfl (en rfl (cd (!bra_0y134) (fun h136 => ?_) (fun h136 => ?_)))
              · refine Ok.reg (g1 2 [(4,pt (b1+1+1) 0),(5,pt b108 0)] [.blk (b1+1+1) [iw 0,iw 0,iw 0,s0,s0,iw 0,iw 0,s0] 105,.blk b108 [iw (w64 (1 + zra_0y6)),iw (w64 (1 + zra_0y11)),iw (w64 (1 + zra_0y16)),.string sra_0y21,.string sra_0y26,iw (w64 (1 + zra_0y113)),iw 0,.string ⟨#[45]⟩] 105] [gz,.g [.K 1 6]] rfl (en rfl (sr (g1 2 [(4,pt (b1+1+1) 0)] [.blk (b1+1+1) [iw (w64 (1 + zra_0y6)),iw (w64 (1 + zra_0y11)),iw (w64 (1 + zra_0y16)),.string sra_0y21,.string sra_0y26,iw (w64 (1 + zra_0y113)),iw 0,.string ⟨#[45]⟩] 105,.blk b108 [iw (w64 (1 + zra_0y6)),iw (w64 (1 + zra_0y11)),iw (w64 (1 + zra_0y16)),.string sra_0y21,.string sra_0y26,iw (w64 (1 + zra_0y113)),iw 0,.string ⟨#[45]⟩] 105] [.g [.K 1 0,.K 1 1,.K 1 2,.K 1 3,.K 1 4,.K 1 5,.K 1 6,.K 1 7],.g [.K 0 0,.K 0 1,.K 0 2,.K 0 3,.K 0 4,.K 0 5,.K 0 6,.K 0 7]] rfl (en rfl (Ok.ret_ ?_))))))
                exact Ok.ret1c (tr le4 (tr le9 (tr le14 (tr le19 (tr le24 (tr le111 (tr le116 (tr le123 le132)))))))) [.K 0 0,.K 0 1,.K 0 2,.K 0 3,.K 0 4,.K 0 5,.K 0 6,.K 0 7] (.agg #[iw (w64 (1 + zra_0y6)),iw (w64 (1 + zra_0y11)),iw (w64 (1 + zra_0y16)),.string sra_0y21,.string sra_0y26,iw (w64 (1 + zra_0y113)),iw 0,.string ⟨#[45]⟩]) [b1+1+1,b1+1+1,b1+1+1,b1+1+1,b1+1+1,b1+1+1,b1+1+1,b1+1+1] rfl (by kernel_rfl) ⟨(w64 (1 + zra_0y6)),(w64 (1 + zra_0y11)),(w64 (1 + zra_0y16)),sra_0y21,sra_0y26,(w64 (1 + zra_0y113)),0,(⟨#[45]⟩ : ByteArray),rfl,tra_0y21,tra_0y26,(by decide)⟩
              refine skn (sr (g1 2 [(4,pt (b1+1+1) 0)] [.blk (b1+1+1) [iw (w64 (1 + zra_0y6)),iw (w64 (1 + zra_0y11)),iw (w64 (1 + zra_0y16)),.string sra_0y21,.string sra_0y26,iw (w64 (1 + zra_0y113)),iw zra_0y118,.string ⟨#[45]⟩] 105,.blk b108 [iw (w64 (1 + zra_0y6)),iw (w64 (1 + zra_0y11)),iw (w64 (1 + zra_0y16)),.string sra_0y21,.string sra_0y26,iw (w64 (1 + zra_0y113)),iw zra_0y118,.string ⟨#[45]⟩] 105] [.g [.K 1 0,.K 1 1,.K 1 2,.K 1 3,.K 1 4,.K 1 5,.K 1 6,.K 1 7],.g [.K 0 0,.K 0 1,.K 0 2,.K 0 3,.K 0 4,.K 0 5,.K 0 6,.K 0 7]] rfl (en rfl (Ok.ret_ ?_))))
              exact Ok.ret1c (tr le4 (tr le9 (tr le14 (tr le19 (tr le24 (tr le111 (tr le116 (tr le123 le132)))))))) [.K 0 0,.K 0 1,.K 0 2,.K 0 3,.K 0 4,.K 0 5,.K 0 6,.K 0 7] (.agg #[iw (w64 (1 + zra_0y6)),iw (w64 (1 + zra_0y11)),iw (w64 (1 + zra_0y16)),.string sra_0y21,.string sra_0y26,iw (w64 (1 + zra_0y113)),iw zra_0y118,.string ⟨#[45]⟩]) [b1+1+1,b1+1+1,b1+1+1,b1+1+1,b1+1+1,b1+1+1,b1+1+1,b1+1+1] rfl (by kernel_rfl) ⟨(w64 (1 + zra_0y6)),(w64 (1 + zra_0y11)),(w64 (1 + zra_0y16)),sra_0y21,sra_0y26,(w64 (1 + zra_0y113)),zra_0y118,(⟨#[45]⟩ : ByteArray),rfl,tra_0y21,tra_0y26,(by decide)⟩
            refine skn (Ok.seq (sr (g0 3 [(4,pt (b1+1+1) 0),(5,pt b108 0),(45,.agg #[.slice Aa_0 na_0 ca_0,iw za_1]),(47,iw zra_0y118)] [.g [.K 0 0,.K 0 1],gz,.g [.K 3 6]] rfl (Ok.mask [false,false,true,true] [.blk (b1+1+1) [iw 0,iw 0,iw 0,s0,s0,iw 0,iw 0,s0] 105,.blk b108 [iw (w64 (1 + zra_0y6)),iw (w64 (1 + zra_0y11)),iw (w64 (1 + zra_0y16)),.string sra_0y21,.string sra_0y26,iw (w64 (1 + zra_0y113)),iw zra_0y118,.string sb_7] 105] rfl ?_))))
            refine ef 4 rfl (ca (some 48) (c87 H122 Aa_0 (na_0) (ca_0) za_1 zra_0y118 (WfS.mono (tr le4 (tr le9 (tr le14 (tr le19 (tr le24 (tr le111 (tr le116 le123))))))) ha_0)) ?_)
            rintro v141 H142 k144 le143 ⟨bra_0y145,rfl⟩
            refine g0 5 [(4,pt (b1+1+1) 0),(5,pt b108 0),(49,.bool (!bra_0y145))] [gz] rfl (en rfl (cd (!bra_0y145) (fun h147 => ?_) (fun h147 => ?_)))
            · refine Ok.reg (g1 2 [(4,pt (b1+1+1) 0),(5,pt b108 0)] [.blk (b1+1+1) [iw 0,iw 0,iw 0,s0,s0,iw 0,iw 0,s0] 105,.blk b108 [iw (w64 (1 + zra_0y6)),iw (w64 (1 + zra_0y11)),iw (w64 (1 + zra_0y16)),.string sra_0y21,.string sra_0y26,iw (w64 (1 + zra_0y113)),iw 0,.string sb_7] 105] [gz,.g [.K 1 6]] rfl (en rfl (sr (g1 2 [(4,pt (b1+1+1) 0)] [.blk (b1+1+1) [iw (w64 (1 + zra_0y6)),iw (w64 (1 + zra_0y11)),iw (w64 (1 + zra_0y16)),.string sra_0y21,.string sra_0y26,iw (w64 (1 + zra_0y113)),iw 0,.string sb_7] 105,.blk b108 [iw (w64 (1 + zra_0y6)),iw (w64 (1 + zra_0y11)),iw (w64 (1 + zra_0y16)),.string sra_0y21,.string sra_0y26,iw (w64 (1 + zra_0y113)),iw 0,.string sb_7] 105] [.g [.K 1 0,.K 1 1,.K 1 2,.K 1 3,.K 1 4,.K 1 5,.K 1 6,.K 1 7],.g [.K 0 0,.K 0 1,.K 0 2,.K 0 3,.K 0 4,.K 0 5,.K 0 6,.K 0 7]] rfl (en rfl (Ok.ret_ ?_))))))
              exact Ok.ret1c (tr le4 (tr le9 (tr le14 (tr le19 (tr le24 (tr le111 (tr le116 (tr le123 le143)))))))) [.K 0 0,.K 0 1,.K 0 2,.K 0 3,.K 0 4,.K 0 5,.K 0 6,.K 0 7] (.agg #[iw (w64 (1 + zra_0y6)),iw (w64 (1 + zra_0y11)),iw (w64 (1 + zra_0y16)),.string sra_0y21,.string sra_0y26,iw (w64 (1 + zra_0y113)),iw 0,.string sb_7]) [b1+1+1,b1+1+1,b1+1+1,b1+1+1,b1+1+1,b1+1+1,b1+1+1,b1+1+1] rfl (by kernel_rfl) ⟨(w64 (1 + zra_0y6)),(w64 (1 + zra_0y11)),(w64 (1 + zra_0y16)),sra_0y21,sra_0y26,(w64 (1 + zra_0y113)),0,sb_7,rfl,tra_0y21,tra_0y26,tb_7⟩
            refine skn (sr (g1 2 [(4,pt (b1+1+1) 0)] [.blk (b1+1+1) [iw (w64 (1 + zra_0y6)),iw (w64 (1 + zra_0y11)),iw (w64 (1 + zra_0y16)),.string sra_0y21,.string sra_0y26,iw (w64 (1 + zra_0y113)),iw zra_0y118,.string sb_7] 105,.blk b108 [iw (w64 (1 + zra_0y6)),iw (w64 (1 + zra_0y11)),iw (w64 (1 + zra_0y16)),.string sra_0y21,.string sra_0y26,iw (w64 (1 + zra_0y113)),iw zra_0y118,.string sb_7] 105] [.g [.K 1 0,.K 1 1,.K 1 2,.K 1 3,.K 1 4,.K 1 5,.K 1 6,.K 1 7],.g [.K 0 0,.K 0 1,.K 0 2,.K 0 3,.K 0 4,.K 0 5,.K 0 6,.K 0 7]] rfl (en rfl (Ok.ret_ ?_))))
            exact Ok.ret1c (tr le4 (tr le9 (tr le14 (tr le19 (tr le24 (tr le111 (tr le116 (tr le123 le143)))))))) [.K 0 0,.K 0 1,.K 0 2,.K 0 3,.K 0 4,.K 0 5,.K 0 6,.K 0 7] (.agg #[iw (w64 (1 + zra_0y6)),iw (w64 (1 + zra_0y11)),iw (w64 (1 + zra_0y16)),.string sra_0y21,.string sra_0y26,iw (w64 (1 + zra_0y113)),iw zra_0y118,.string sb_7]) [b1+1+1,b1+1+1,b1+1+1,b1+1+1,b1+1+1,b1+1+1,b1+1+1,b1+1+1] rfl (by kernel_rfl) ⟨(w64 (1 + zra_0y6)),(w64 (1 + zra_0y11)),(w64 (1 + zra_0y16)),sra_0y21,sra_0y26,(w64 (1 + zra_0y113)),zra_0y118,sb_7,rfl,tra_0y21,tra_0y26,tb_7⟩
          refine (e4 (.g [.N]) (fun b151 => [(2,pt b1 0),(3,pt (b1+1) 0),(4,pt (b1+1+1) 0),(5,pt b151 0),(9,iw (w64 (1 + zra_0y6))),(15,iw (w64 (1 + zra_0y11))),(21,iw (w64 (1 + zra_0y16))),(24,.string sra_0y21),(26,.string sb_4),(29,iw zb_5),(33,iw zb_6),(35,iw za_1),(38,.string sb_7)]) (fun b151 => [.blk b1 [.slice Aa_0 na_0 ca_0,iw za_1] 34,.blk (b1+1) [iw zb_0,iw zb_1,iw zb_2,.string sb_3,.string sb_4,iw zb_5,iw zb_6,.string sb_7] 105,.blk (b1+1+1) [iw 0,iw 0,iw 0,s0,s0,iw 0,iw 0,s0] 105,.blk b151 [iw 0,iw 0,iw 0,s0,s0,iw 0,iw 0,s0] 105]) (fun b151 => ?_))
          refine ws [0,1,2] (tr le4 (tr le9 (tr le14 le19))) ?_
          refine on 21 5 rfl (ca (some 27) (c85 H18 sb_4 tb_4) ?_)
          rintro v152 H153 k155 le154 ⟨sra_0y156,rfl,tra_0y156⟩
          refine ws [0,1,2] (tr le4 (tr le9 (tr le14 (tr le19 le154)))) ?_
          refine on 24 4 rfl (ca (some 30) (c84 H153 zb_5 6) ?_)
          rintro v157 H158 k160 le159 ⟨zra_0y161,rfl⟩
          refine ws [0,1,2] (tr le4 (tr le9 (tr le14 (tr le19 (tr le154 le159))))) ?_
          refine tk 3 [(25,gz)] [(2,pt b1 0),(3,pt (b1+1) 0),(4,pt (b1+1+1) 0),(5,pt b151 0),(9,iw (w64 (1 + zra_0y6))),(15,iw (w64 (1 + zra_0y11))),(21,iw (w64 (1 + zra_0y16))),(24,.string sra_0y21),(27,.string sra_0y156),(31,iw (w64 (1 + zra_0y161))),(33,iw zb_6),(35,iw za_1),(38,.string sb_7)] rfl ?_
          refine on 30 2 rfl (ca (some 36) (c84 H158 zb_6 za_1) ?_)
          rintro v162 H163 k165 le164 ⟨zra_0y166,rfl⟩
          refine ws [0,1,2] (tr le4 (tr le9 (tr le14 (tr le19 (tr le154 (tr le159 le164)))))) ?_
          refine tk 1 [(33,gz)] [(2,pt b1 0),(3,pt (b1+1) 0),(4,pt (b1+1+1) 0),(5,pt b151 0),(39,.agg #[iw (w64 (1 + zra_0y6)),iw (w64 (1 + zra_0y11)),iw (w64 (1 + zra_0y16)),.string sra_0y21,.string sra_0y156,iw (w64 (1 + zra_0y161)),iw zra_0y166,.string sb_7])] rfl ?_
          refine on 35 0 rfl (e1 (.g [.K 3 0,.K 3 1,.K 3 2,.K 3 3,.K 3 4,.K 3 5,.K 3 6,.K 3 7]) [(2,pt b1 0),(3,pt (b1+1) 0),(4,pt (b1+1+1) 0),(5,pt b151 0)] [.blk b1 [.slice Aa_0 na_0 ca_0,iw za_1] 34,.blk (b1+1) [iw zb_0,iw zb_1,iw zb_2,.string sb_3,.string sb_4,iw zb_5,iw zb_6,.string sb_7] 105,.blk (b1+1+1) [iw 0,iw 0,iw 0,s0,s0,iw 0,iw 0,s0] 105,.blk b151 [iw (w64 (1 + zra_0y6)),iw (w64 (1 + zra_0y11)),iw (w64 (1 + zra_0y16)),.string sra_0y21,.string sra_0y156,iw (w64 (1 + zra_0y161)),iw zra_0y166,.string sb_7] 105] ?_)
          refine ws [0,1,2] (tr le4 (tr le9 (tr le14 (tr le19 (tr le154 (tr le159 le164)))))) ?_
          refine dn (Ok.seq (sr (g0 2 [(2,pt b1 0),(4,pt (b1+1+1) 0),(5,pt b151 0),(41,.string sb_7)] [gz,.g [.K 1 7]] rfl (ef 3 rfl (ca (some 42) (c86 H163 sb_7 tb_7) ?_)))))
          rintro v169 H170 k172 le171 ⟨bra_0y173,rfl⟩
          refine g0 4 [(2,pt b1 0),(4,pt (b1+1+1) 0),(5,pt b151 0),(43,.bool (!bra_0y173))] [gz] rfl (en rfl (cd (!bra_0y173) (fun h175 => ?_) (fun h175 => ?_)))
          · refine Ok.reg (g1 2 [(2,pt b1 0),(4,pt (b1+1+1) 0),(5,pt b151 0)] [.blk b1 [.slice Aa_0 na_0 ca_0,iw za_1] 34,.blk (b1+1) [iw zb_0,iw zb_1,iw zb_2,.string sb_3,.string sb_4,iw zb_5,iw zb_6,.string sb_7] 105,.blk (b1+1+1) [iw 0,iw 0,iw 0,s0,s0,iw 0,iw 0,s0] 105,.blk b151 [iw (w64 (1 + zra_0y6)),iw (w64 (1 + zra_0y11)),iw (w64 (1 + zra_0y16)),.string sra_0y21,.string sra_0y156,iw (w64 (1 + zra_0y161)),iw zra_0y166,.string ⟨#[45]⟩] 105] [gz,.g [.K 3 7]] rfl (en rfl (Ok.seq (sr (g0 3 [(4,pt (b1+1+1) 0),(5,pt b151 0),(45,.agg #[.slice Aa_0 na_0 ca_0,iw za_1]),(47,iw zra_0y166)] [.g [.K 0 0,.K 0 1],gz,.g [.K 3 6]] rfl (Ok.mask [false,false,true,true] [.blk (b1+1+1) [iw 0,iw 0,iw 0,s0,s0,iw 0,iw 0,s0] 105,.blk b151 [iw (w64 (1 + zra_0y6)),iw (w64 (1 + zra_0y11)),iw (w64 (1 + zra_0y16)),.string sra_0y21,.string sra_0y156,iw (w64 (1 + zra_0y161)),iw zra_0y166,.string ⟨#[45]⟩] 105] rfl (ef 4 rfl (ca (some 48) (c87 H170 Aa_0 (na_0) (ca_0) za_1 zra_0y166 (WfS.mono (tr le4 (tr le9 (tr le14 (tr le19 (tr le154 (tr le159 (tr le164 le171))))))) ha_0)) ?_))))))))
            rintro v178 H179 k181 le180 ⟨bra_0y182,rfl⟩
            refine g0 5 [(4,pt (b1+1+1) 0),(5,pt b151 0),(49,.bool (!bra_0y182))] [gz] rfl (en rfl (cd (!bra_0y182) (fun h184 => ?_) (fun h184 => ?_)))
            · refine Ok.reg (g1 2 [(4,pt (b1+1+1) 0),(5,pt b151 0)] [.blk (b1+1+1) [iw 0,iw 0,iw 0,s0,s0,iw 0,iw 0,s0] 105,.blk b151 [iw (w64 (1 + zra_0y6)),iw (w64 (1 + zra_0y11)),iw (w64 (1 + zra_0y16)),.string sra_0y21,.string sra_0y156,iw (w64 (1 + zra_0y161)),iw 0,.string ⟨#[45]⟩] 105] [gz,.g [.K 1 6]] rfl (en rfl (sr (g1 2 [(4,pt (b1+1+1) 0)] [.blk (b1+1+1) [iw (w64 (1 + zra_0y6)),iw (w64 (1 + zra_0y11)),iw (w64 (1 + zra_0y16)),.string sra_0y21,.string sra_0y156,iw (w64 (1 + zra_0y161)),iw 0,.string ⟨#[45]⟩] 105,.blk b151 [iw (w64 (1 + zra_0y6)),iw (w64 (1 + zra_0y11)),iw (w64 (1 + zra_0y16)),.string sra_0y21,.string sra_0y156,iw (w64 (1 + zra_0y161)),iw 0,.string ⟨#[45]⟩] 105] [.g [.K 1 0,.K 1 1,.K 1 2,.K 1 3,.K 1 4,.K 1 5,.K 1 6,.K 1 7],.g [.K 0 0,.K 0 1,.K 0 2,.K 0 3,.K 0 4,.K 0 5,.K 0 6,.K 0 7]] rfl (en rfl (Ok.ret_ ?_))))))
              exact Ok.ret1c (tr le4 (tr le9 (tr le14 (tr le19 (tr le154 (tr le159 (tr le164 (tr le171 le180)))))))) [.K 0 0,.K 0 1,.K 0 2,.K 0 3,.K 0 4,.K 0 5,.K 0 6,.K 0 7] (.agg #[iw (w64 (1 + zra_0y6)),iw (w64 (1 + zra_0y11)),iw (w64 (1 + zra_0y16)),.string sra_0y21,.string sra_0y156,iw (w64 (1 + zra_0y161)),iw 0,.string ⟨#[45]⟩]) [b1+1+1,b1+1+1,b1+1+1,b1+1+1,b1+1+1,b1+1+1,b1+1+1,b1+1+1] rfl (by kernel_rfl) ⟨(w64 (1 + zra_0y6)),(w64 (1 + zra_0y11)),(w64 (1 + zra_0y16)),sra_0y21,sra_0y156,(w64 (1 + zra_0y161)),0,(⟨#[45]⟩ : ByteArray),rfl,tra_0y21,tra_0y156,(by decide)⟩
            refine skn (sr (g1 2 [(4,pt (b1+1+1) 0)] [.blk (b1+1+1) [iw (w64 (1 + zra_0y6)),iw (w64 (1 + zra_0y11)),iw (w64 (1 + zra_0y16)),.string sra_0y21,.string sra_0y156,iw (w64 (1 + zra_0y161)),iw zra_0y166,.string ⟨#[45]⟩] 105,.blk b151 [iw (w64 (1 + zra_0y6)),iw (w64 (1 + zra_0y11)),iw (w64 (1 + zra_0y16)),.string sra_0y21,.string sra_0y156,iw (w64 (1 + zra_0y161)),iw zra_0y166,.string ⟨#[45]⟩] 105] [.g [.K 1 0,.K 1 1,.K 1 2,.K 1 3,.K 1 4,.K 1 5,.K 1 6,.K 1 7],.g [.K 0 0,.K 0 1,.K 0 2,.K 0 3,.K 0 4,.K 0 5,.K 0 6,.K 0 7]] rfl (en rfl (Ok.ret_ ?_))))
            exact Ok.ret1c (tr le4 (tr le9 (tr le14 (tr le19 (tr le154 (tr le159 (tr le164 (tr le171 le180)))))))) [.K 0 0,.K 0 1,.K 0 2,.K 0 3,.K 0 4,.K 0 5,.K 0 6,.K 0 7] (.agg #[iw (w64 (1 + zra_0y6)),iw (w64 (1 + zra_0y11)),iw (w64 (1 + zra_0y16)),.string sra_0y21,.string sra_0y156,iw (w64 (1 + zra_0y161)),iw zra_0y166,.string ⟨#[45]⟩]) [b1+1+1,b1+1+1,b1+1+1,b1+1+1,b1+1+1,b1+1+1,b1+1+1,b1+1+1] rfl (by kernel_rfl) ⟨(w64 (1 + zra_0y6)),(w64 (1 + zra_0y11)),(w64 (1 + zra_0y16)),sra_0y21,sra_0y156,(w64 (1 + zra_0y161)),zra_0y166,(⟨#[45]⟩ : ByteArray),rfl,tra_0y21,tra_0y156,(by decide)⟩
          refine skn (Ok.seq (sr (g0 3 [(4,pt (b1+1+1) 0),(5,pt b151 0),(45,.agg #[.slice Aa_0 na_0 ca_0,iw za_1]),(47,iw zra_0y166)] [.g [.K 0 0,.K 0 1],gz,.g [.K 3 6]] rfl (Ok.mask [false,false,true,true] [.blk (b1+1+1) [iw 0,iw 0,iw 0,s0,s0,iw 0,iw 0,s0] 105,.blk b151 [iw (w64 (1 + zra_0y6)),iw (w64 (1 + zra_0y11)),iw (w64 (1 + zra_0y16)),.string sra_0y21,.string sra_0y156,iw (w64 (1 + zra_0y161)),iw zra_0y166,.string sb_7] 105] rfl ?_))))
          refine ef 4 rfl (ca (some 48) (c87 H170 Aa_0 (na_0) (ca_0) za_1 zra_0y166 (WfS.mono (tr le4 (tr le9 (tr le14 (tr le19 (tr le154 (tr le159 (tr le164 le171))))))) ha_0)) ?_)
          rintro v189 H190 k192 le191 ⟨bra_0y193,rfl⟩
          refine g0 5 [(4,pt (b1+1+1) 0),(5,pt b151 0),(49,.bool (!bra_0y193))] [gz] rfl (en rfl (cd (!bra_0y193) (fun h195 => ?_) (fun h195 => ?_)))
          · refine Ok.reg (g1 2 [(4,pt (b1+1+1) 0),(5,pt b151 0)] [.blk (b1+1+1) [iw 0,iw 0,iw 0,s0,s0,iw 0,iw 0,s0] 105,.blk b151 [iw (w64 (1 + zra_0y6)),iw (w64 (1 + zra_0y11)),iw (w64 (1 + zra_0y16)),.string sra_0y21,.string sra_0y156,iw (w64 (1 + zra_0y161)),iw 0,.string sb_7] 105] [gz,.g [.K 1 6]] rfl (en rfl (sr (g1 2 [(4,pt (b1+1+1) 0)] [.blk (b1+1+1) [iw (w64 (1 + zra_0y6)),iw (w64 (1 + zra_0y11)),iw (w64 (1 + zra_0y16)),.string sra_0y21,.string sra_0y156,iw (w64 (1 + zra_0y161)),iw 0,.string sb_7] 105,.blk b151 [iw (w64 (1 + zra_0y6)),iw (w64 (1 + zra_0y11)),iw (w64 (1 + zra_0y16)),.string sra_0y21,.string sra_0y156,iw (w64 (1 + zra_0y161)),iw 0,.string sb_7] 105] [.g [.K 1 0,.K 1 1,.K 1 2,.K 1 3,.K 1 4,.K 1 5,.K 1 6,.K 1 7],.g [.K 0 0,.K 0 1,.K 0 2,.K 0 3,.K 0 4,.K 0 5,.K 0 6,.K 0 7]] rfl (en rfl (Ok.ret_ ?_))))))
            exact Ok.ret1c (tr le4 (tr le9 (tr le14 (tr le19 (tr le154 (tr le159 (tr le164 (tr le171 le191)))))))) [.K 0 0,.K 0 1,.K 0 2,.K 0 3,.K 0 4,.K 0 5,.K 0 6,.K 0 7] (.agg #[iw (w64 (1 + zra_0y6)),iw (w64 (1 + zra_0y11)),iw (w64 (1 + zra_0y16)),.string sra_0y21,.string sra_0y156,iw (w64 (1 + zra_0y161)),iw 0,.string sb_7]) [b1+1+1,b1+1+1,b1+1+1,b1+1+1,b1+1+1,b1+1+1,b1+1+1,b1+1+1] rfl (by kernel_rfl) ⟨(w64 (1 + zra_0y6)),(w64 (1 + zra_0y11)),(w64 (1 + zra_0y16)),sra_0y21,sra_0y156,(w64 (1 + zra_0y161)),0,sb_7,rfl,tra_0y21,tra_0y156,tb_7⟩
          refine skn (sr (g1 2 [(4,pt (b1+1+1) 0)] [.blk (b1+1+1) [iw (w64 (1 + zra_0y6)),iw (w64 (1 + zra_0y11)),iw (w64 (1 + zra_0y16)),.string sra_0y21,.string sra_0y156,iw (w64 (1 + zra_0y161)),iw zra_0y166,.string sb_7] 105,.blk b151 [iw (w64 (1 + zra_0y6)),iw (w64 (1 + zra_0y11)),iw (w64 (1 + zra_0y16)),.string sra_0y21,.string sra_0y156,iw (w64 (1 + zra_0y161)),iw zra_0y166,.string sb_7] 105] [.g [.K 1 0,.K 1 1,.K 1 2,.K 1 3,.K 1 4,.K 1 5,.K 1 6,.K 1 7],.g [.K 0 0,.K 0 1,.K 0 2,.K 0 3,.K 0 4,.K 0 5,.K 0 6,.K 0 7]] rfl (en rfl (Ok.ret_ ?_))))
          exact Ok.ret1c (tr le4 (tr le9 (tr le14 (tr le19 (tr le154 (tr le159 (tr le164 (tr le171 le191)))))))) [.K 0 0,.K 0 1,.K 0 2,.K 0 3,.K 0 4,.K 0 5,.K 0 6,.K 0 7] (.agg #[iw (w64 (1 + zra_0y6)),iw (w64 (1 + zra_0y11)),iw (w64 (1 + zra_0y16)),.string sra_0y21,.string sra_0y156,iw (w64 (1 + zra_0y161)),iw zra_0y166,.string sb_7]) [b1+1+1,b1+1+1,b1+1+1,b1+1+1,b1+1+1,b1+1+1,b1+1+1,b1+1+1] rfl (by kernel_rfl) ⟨(w64 (1 + zra_0y6)),(w64 (1 + zra_0y11)),(w64 (1 + zra_0y16)),sra_0y21,sra_0y156,(w64 (1 + zra_0y161)),zra_0y166,sb_7,rfl,tra_0y21,tra_0y156,tb_7⟩
        refine (e4 (.g [.N]) (fun b199 => [(2,pt b1 0),(3,pt (b1+1) 0),(4,pt (b1+1+1) 0),(5,pt b199 0),(9,iw (w64 (1 + zra_0y6))),(15,iw (w64 (1 + zra_0y11))),(21,iw (w64 (1 + zra_0y16))),(23,.string sb_3),(26,.string sb_4),(29,iw zb_5),(33,iw zb_6),(35,iw za_1),(38,.string sb_7)]) (fun b199 => [.blk b1 [.slice Aa_0 na_0 ca_0,iw za_1] 34,.blk (b1+1) [iw zb_0,iw zb_1,iw zb_2,.string sb_3,.string sb_4,iw zb_5,iw zb_6,.string sb_7] 105,.blk (b1+1+1) [iw 0,iw 0,iw 0,s0,s0,iw 0,iw 0,s0] 105,.blk b199 [iw 0,iw 0,iw 0,s0,s0,iw 0,iw 0,s0] 105]) (fun b199 => ?_))
        refine ws [0,1,2] (tr le4 (tr le9 le14)) ?_
        refine on 18 6 rfl (ca (some 24) (c85 H13 sb_3 tb_3) ?_)
        rintro v200 H201 k203 le202 ⟨sra_0y204,rfl,tra_0y204⟩
        refine ws [0,1,2] (tr le4 (tr le9 (tr le14 le202))) ?_
        refine on 21 5 rfl (ca (some 27) (c85 H201 sb_4 tb_4) ?_)
        rintro v205 H206 k208 le207 ⟨sra_0y209,rfl,tra_0y209⟩
        refine ws [0,1,2] (tr le4 (tr le9 (tr le14 (tr le202 le207)))) ?_
        refine on 24 4 rfl (ca (some 30) (c84 H206 zb_5 6) ?_)
        rintro v210 H211 k213 le212 ⟨zra_0y214,rfl⟩
        refine ws [0,1,2] (tr le4 (tr le9 (tr le14 (tr le202 (tr le207 le212))))) ?_
        refine tk 3 [(25,gz)] [(2,pt b1 0),(3,pt (b1+1) 0),(4,pt (b1+1+1) 0),(5,pt b199 0),(9,iw (w64 (1 + zra_0y6))),(15,iw (w64 (1 + zra_0y11))),(21,iw (w64 (1 + zra_0y16))),(24,.string sra_0y204),(27,.string sra_0y209),(31,iw (w64 (1 + zra_0y214))),(33,iw zb_6),(35,iw za_1),(38,.string sb_7)] rfl ?_
        refine on 30 2 rfl (ca (some 36) (c84 H211 zb_6 za_1) ?_)
        rintro v215 H216 k218 le217 ⟨zra_0y219,rfl⟩
        refine ws [0,1,2] (tr le4 (tr le9 (tr le14 (tr le202 (tr le207 (tr le212 le217)))))) ?_
        refine tk 1 [(33,gz)] [(2,pt b1 0),(3,pt (b1+1) 0),(4,pt (b1+1+1) 0),(5,pt b199 0),(39,.agg #[iw (w64 (1 + zra_0y6)),iw (w64 (1 + zra_0y11)),iw (w64 (1 + zra_0y16)),.string sra_0y204,.string sra_0y209,iw (w64 (1 + zra_0y214)),iw zra_0y219,.string sb_7])] rfl ?_
        refine on 35 0 rfl (e1 (.g [.K 3 0,.K 3 1,.K 3 2,.K 3 3,.K 3 4,.K 3 5,.K 3 6,.K 3 7]) [(2,pt b1 0),(3,pt (b1+1) 0),(4,pt (b1+1+1) 0),(5,pt b199 0)] [.blk b1 [.slice Aa_0 na_0 ca_0,iw za_1] 34,.blk (b1+1) [iw zb_0,iw zb_1,iw zb_2,.string sb_3,.string sb_4,iw zb_5,iw zb_6,.string sb_7] 105,.blk (b1+1+1) [iw 0,iw 0,iw 0,s0,s0,iw 0,iw 0,s0] 105,.blk b199 [iw (w64 (1 + zra_0y6)),iw (w64 (1 + zra_0y11)),iw (w64 (1 + zra_0y16)),.string sra_0y204,.string sra_0y209,iw (w64 (1 + zra_0y214)),iw zra_0y219,.string sb_7] 105] ?_)
        refine ws [0,1,2] (tr le4 (tr le9 (tr le14 (tr le202 (tr le207 (tr le212 le217)))))) ?_
        refine dn (Ok.seq (sr (g0 2 [(2,pt b1 0),(4,pt (b1+1+1) 0),(5,pt b199 0),(41,.string sb_7)] [gz,.g [.K 1 7]] rfl (ef 3 rfl (ca (some 42) (c86 H216 sb_7 tb_7) ?_)))))
        rintro v222 H223 k225 le224 ⟨bra_0y226,rfl⟩
        refine g0 4 [(2,pt b1 0),(4,pt (b1+1+1) 0),(5,pt b199 0),(43,.bool (!bra_0y226))] [gz] rfl (en rfl (cd (!bra_0y226) (fun h228 => ?_) (fun h228 => ?_)))
        · refine Ok.reg (g1 2 [(2,pt b1 0),(4,pt (b1+1+1) 0),(5,pt b199 0)] [.blk b1 [.slice Aa_0 na_0 ca_0,iw za_1] 34,.blk (b1+1) [iw zb_0,iw zb_1,iw zb_2,.string sb_3,.string sb_4,iw zb_5,iw zb_6,.string sb_7] 105,.blk (b1+1+1) [iw 0,iw 0,iw 0,s0,s0,iw 0,iw 0,s0] 105,.blk b199 [iw (w64 (1 + zra_0y6)),iw (w64 (1 + zra_0y11)),iw (w64 (1 + zra_0y16)),.string sra_0y204,.string sra_0y209,iw (w64 (1 + zra_0y214)),iw zra_0y219,.string ⟨#[45]⟩] 105] [gz,.g [.K 3 7]] rfl (en rfl (Ok.seq (sr (g0 3 [(4,pt (b1+1+1) 0),(5,pt b199 0),(45,.agg #[.slice Aa_0 na_0 ca_0,iw za_1]),(47,iw zra_0y219)] [.g [.K 0 0,.K 0 1],gz,.g [.K 3 6]] rfl (Ok.mask [false,false,true,true] [.blk (b1+1+1) [iw 0,iw 0,iw 0,s0,s0,iw 0,iw 0,s0] 105,.blk b199 [iw (w64 (1 + zra_0y6)),iw (w64 (1 + zra_0y11)),iw (w64 (1 + zra_0y16)),.string sra_0y204,.string sra_0y209,iw (w64 (1 + zra_0y214)),iw zra_0y219,.string ⟨#[45]⟩] 105] rfl (ef 4 rfl (ca (some 48) (c87 H223 Aa_0 (na_0) (ca_0) za_1 zra_0y219 (WfS.mono (tr le4 (tr le9 (tr le14 (tr le202 (tr le207 (tr le212 (tr le217 le224))))))) ha_0)) ?_))))))))
          rintro v231 H232 k234 le233 ⟨bra_0y235,rfl⟩
          refine g0 5 [(4,pt (b1+1+1) 0),(5,pt b199 0),(49,.bool (!bra_0y235))] [gz] rfl (en rfl (cd (!bra_0y235) (fun h237 => ?_) (fun h237 => ?_)))
          · refine Ok.reg (g1 2 [(4,pt (b1+1+1) 0),(5,pt b199 0)] [.blk (b1+1+1) [iw 0,iw 0,iw 0,s0,s0,iw 0,iw 0,s0] 105,.blk b199 [iw (w64 (1 + zra_0y6)),iw (w64 (1 + zra_0y11)),iw (w64 (1 + zra_0y16)),.string sra_0y204,.string sra_0y209,iw (w64 (1 + zra_0y214)),iw 0,.string ⟨#[45]⟩] 105] [gz,.g [.K 1 6]] rfl (en rfl (sr (g1 2 [(4,pt (b1+1+1) 0)] [.blk (b1+1+1) [iw (w64 (1 + zra_0y6)),iw (w64 (1 + zra_0y11)),iw (w64 (1 + zra_0y16)),.string sra_0y204,.string sra_0y209,iw (w64 (1 + zra_0y214)),iw 0,.string ⟨#[45]⟩] 105,.blk b199 [iw (w64 (1 + zra_0y6)),iw (w64 (1 + zra_0y11)),iw (w64 (1 + zra_0y16)),.string sra_0y204,.string sra_0y209,iw (w64 (1 + zra_0y214)),iw 0,.string ⟨#[45]⟩] 105] [.g [.K 1 0,.K 1 1,.K 1 2,.K 1 3,.K 1 4,.K 1 5,.K 1 6,.K 1 7],.g [.K 0 0,.K 0 1,.K 0 2,.K 0 3,.K 0 4,.K 0 5,.K 0 6,.K 0 7]] rfl (en rfl (Ok.ret_ ?_))))))
            exact Ok.ret1c (tr le4 (tr le9 (tr le14 (tr le202 (tr le207 (tr le212 (tr le217 (tr le224 le233)))))))) [.K 0 0,.K 0 1,.K 0 2,.K 0 3,.K 0 4,.K 0 5,.K 0 6,.K 0 7] (.agg #[iw (w64 (1 + zra_0y6)),iw (w64 (1 + zra_0y11)),iw (w64 (1 + zra_0y16)),.string sra_0y204,.string sra_0y209,iw (w64 (1 + zra_0y214)),iw 0,.string ⟨#[45]⟩]) [b1+1+1,b1+1+1,b1+1+1,b1+1+1,b1+1+1,b1+1+1,b1+1+1,b1+1+1] rfl (by kernel_rfl) ⟨(w64 (1 + zra_0y6)),(w64 (1 + zra_0y11)),(w64 (1 + zra_0y16)),sra_0y204,sra_0y209,(w64 (1 + zra_0y214)),0,(⟨#[45]⟩ : ByteArray),rfl,tra_0y204,tra_0y209,(by decide)⟩
          refine skn (sr (g1 2 [(4,pt (b1+1+1) 0)] [.blk (b1+1+1) [iw (w64 (1 + zra_0y6)),iw (w64 (1 + zra_0y11)),iw (w64 (1 + zra_0y16)),.string sra_0y204,.string sra_0y209,iw (w64 (1 + zra_0y214)),iw zra_0y219,.string ⟨#[45]⟩] 105,.blk b199 [iw (w64 (1 + zra_0y6)),iw (w64 (1 + zra_0y11)),iw (w64 (1 + zra_0y16)),.string sra_0y204,.string sra_0y209,iw (w64 (1 + zra_0y214)),iw zra_0y219,.string ⟨#[45]⟩] 105] [.g [.K 1 0,.K 1 1,.K 1 2,.K 1 3,.K 1 4,.K 1 5,.K 1 6,.K 1 7],.g [.K 0 0,.K 0 1,.K 0 2,.K 0 3,.K 0 4,.K 0 5,.K 0 6,.K 0 7]] rfl (en rfl (Ok.ret_ ?_))))
          exact Ok.ret1c (tr le4 (tr le9 (tr le14 (tr le202 (tr le207 (tr le212 (tr le217 (tr le224 le233)))))))) [.K 0 0,.K 0 1,.K 0 2,.K 0 3,.K 0 4,.K 0 5,.K 0 6,.K 0 7] (.agg #[iw (w64 (1 + zra_0y6)),iw (w64 (1 + zra_0y11)),iw (w64 (1 + zra_0y16)),.string sra_0y204,.string sra_0y209,iw (w64 (1 + zra_0y214)),iw zra_0y219,.string ⟨#[45]⟩]) [b1+1+1,b1+1+1,b1+1+1,b1+1+1,b1+1+1,b1+1+1,b1+1+1,b1+1+1] rfl (by kernel_rfl) ⟨(w64 (1 + zra_0y6)),(w64 (1 + zra_0y11)),(w64 (1 + zra_0y16)),sra_0y204,sra_0y209,(w64 (1 + zra_0y214)),zra_0y219,(⟨#[45]⟩ : ByteArray),rfl,tra_0y204,tra_0y209,(by decide)⟩
        refine skn (Ok.seq (sr (g0 3 [(4,pt (b1+1+1) 0),(5,pt b199 0),(45,.agg #[.slice Aa_0 na_0 ca_0,iw za_1]),(47,iw zra_0y219)] [.g [.K 0 0,.K 0 1],gz,.g [.K 3 6]] rfl (Ok.mask [false,false,true,true] [.blk (b1+1+1) [iw 0,iw 0,iw 0,s0,s0,iw 0,iw 0,s0] 105,.blk b199 [iw (w64 (1 + zra_0y6)),iw (w64 (1 + zra_0y11)),iw (w64 (1 + zra_0y16)),.string sra_0y204,.string sra_0y209,iw (w64 (1 + zra_0y214)),iw zra_0y219,.string sb_7] 105] rfl ?_))))
        refine ef 4 rfl (ca (some 48) (c87 H223 Aa_0 (na_0) (ca_0) za_1 zra_0y219 (WfS.mono (tr le4 (tr le9 (tr le14 (tr le202 (tr le207 (tr le212 (tr le217 le224))))))) ha_0)) ?_)
        rintro v242 H243 k245 le244 ⟨bra_0y246,rfl⟩
        refine g0 5 [(4,pt (b1+1+1) 0),(5,pt b199 0),(49,.bool (!bra_0y246))] [gz] rfl (en rfl (cd (!bra_0y246) (fun h248 => ?_) (fun h248 => ?_)))
        · refine Ok.reg (g1 2 [(4,pt (b1+1+1) 0),(5,pt b199 0)] [.blk (b1+1+1) [iw 0,iw 0,iw 0,s0,s0,iw 0,iw 0,s0] 105,.blk b199 [iw (w64 (1 + zra_0y6)),iw (w64 (1 + zra_0y11)),iw (w64 (1 + zra_0y16)),.string sra_0y204,.string sra_0y209,iw (w64 (1 + zra_0y214)),iw 0,.string sb_7] 105] [gz,.g [.K 1 6]] rfl (en rfl (sr (g1 2 [(4,pt (b1+1+1) 0)] [.blk (b1+1+1) [iw (w64 (1 + zra_0y6)),iw (w64 (1 + zra_0y11)),iw (w64 (1 + zra_0y16)),.string sra_0y204,.string sra_0y209,iw (w64 (1 + zra_0y214)),iw 0,.string sb_7] 105,.blk b199 [iw (w64 (1 + zra_0y6)),iw (w64 (1 + zra_0y11)),iw (w64 (1 + zra_0y16)),.string sra_0y204,.string sra_0y209,iw (w64 (1 + zra_0y214)),iw 0,.string sb_7] 105] [.g [.K 1 0,.K 1 1,.K 1 2,.K 1 3,.K 1 4,.K 1 5,.K 1 6,.K 1 7],.g [.K 0 0,.K 0 1,.K 0 2,.K 0 3,.K 0 4,.K 0 5,.K 0 6,.K 0 7]] rfl (en rfl (Ok.ret_ ?_))))))
          exact Ok.ret1c (tr le4 (tr le9 (tr le14 (tr le202 (tr le207 (tr le212 (tr le217 (tr le224 le244)))))))) [.K 0 0,.K 0 1,.K 0 2,.K 0 3,.K 0 4,.K 0 5,.K 0 6,.K 0 7] (.agg #[iw (w64 (1 + zra_0y6)),iw (w64 (1 + zra_0y11)),iw (w64 (1 + zra_0y16)),.string sra_0y204,.string sra_0y209,iw (w64 (1 + zra_0y214)),iw 0,.string sb_7]) [b1+1+1,b1+1+1,b1+1+1,b1+1+1,b1+1+1,b1+1+1,b1+1+1,b1+1+1] rfl (by kernel_rfl) ⟨(w64 (1 + zra_0y6)),(w64 (1 + zra_0y11)),(w64 (1 + zra_0y16)),sra_0y204,sra_0y209,(w64 (1 + zra_0y214)),0,sb_7,rfl,tra_0y204,tra_0y209,tb_7⟩
        refine skn (sr (g1 2 [(4,pt (b1+1+1) 0)] [.blk (b1+1+1) [iw (w64 (1 + zra_0y6)),iw (w64 (1 + zra_0y11)),iw (w64 (1 + zra_0y16)),.string sra_0y204,.string sra_0y209,iw (w64 (1 + zra_0y214)),iw zra_0y219,.string sb_7] 105,.blk b199 [iw (w64 (1 + zra_0y6)),iw (w64 (1 + zra_0y11)),iw (w64 (1 + zra_0y16)),.string sra_0y204,.string sra_0y209,iw (w64 (1 + zra_0y214)),iw zra_0y219,.string sb_7] 105] [.g [.K 1 0,.K 1 1,.K 1 2,.K 1 3,.K 1 4,.K 1 5,.K 1 6,.K 1 7],.g [.K 0 0,.K 0 1,.K 0 2,.K 0 3,.K 0 4,.K 0 5,.K 0 6,.K 0 7]] rfl (en rfl (Ok.ret_ ?_))))
        exact Ok.ret1c (tr le4 (tr le9 (tr le14 (tr le202 (tr le207 (tr le212 (tr le217 (tr le224 le244)))))))) [.K 0 0,.K 0 1,.K 0 2,.K 0 3,.K 0 4,.K 0 5,.K 0 6,.K 0 7] (.agg #[iw (w64 (1 + zra_0y6)),iw (w64 (1 + zra_0y11)),iw (w64 (1 + zra_0y16)),.string sra_0y204,.string sra_0y209,iw (w64 (1 + zra_0y214)),iw zra_0y219,.string sb_7]) [b1+1+1,b1+1+1,b1+1+1,b1+1+1,b1+1+1,b1+1+1,b1+1+1,b1+1+1] rfl (by kernel_rfl) ⟨(w64 (1 + zra_0y6)),(w64 (1 + zra_0y11)),(w64 (1 + zra_0y16)),sra_0y204,sra_0y209,(w64 (1 + zra_0y214)),zra_0y219,sb_7,rfl,tra_0y204,tra_0y209,tb_7⟩
      refine (e4 (.g [.N]) (fun b252 => [(2,pt b1 0),(3,pt (b1+1) 0),(4,pt (b1+1+1) 0),(5,pt b252 0),(9,iw (w64 (1 + zra_0y6))),(15,iw (w64 (1 + zra_0y11))),(17,iw zb_2),(19,iw za_1),(23,.string sb_3),(26,.string sb_4),(29,iw zb_5),(33,iw zb_6),(35,iw za_1),(38,.string sb_7)]) (fun b252 => [.blk b1 [.slice Aa_0 na_0 ca_0,iw za_1] 34,.blk (b1+1) [iw zb_0,iw zb_1,iw zb_2,.string sb_3,.string sb_4,iw zb_5,iw zb_6,.string sb_7] 105,.blk (b1+1+1) [iw 0,iw 0,iw 0,s0,s0,iw 0,iw 0,s0] 105,.blk b252 [iw 0,iw 0,iw 0,s0,s0,iw 0,iw 0,s0] 105]) (fun b252 => ?_))
      refine ws [0,1,2] (tr le4 le9) ?_
      refine on 14 8 rfl (ca (some 20) (c84 H8 zb_2 za_1) ?_)
      rintro v253 H254 k256 le255 ⟨zra_0y257,rfl⟩
      refine ws [0,1,2] (tr le4 (tr le9 le255)) ?_
      refine tk 7 [(15,gz)] [(2,pt b1 0),(3,pt (b1+1) 0),(4,pt (b1+1+1) 0),(5,pt b252 0),(9,iw (w64 (1 + zra_0y6))),(15,iw (w64 (1 + zra_0y11))),(21,iw (w64 (1 + zra_0y257))),(23,.string sb_3),(26,.string sb_4),(29,iw zb_5),(33,iw zb_6),(35,iw za_1),(38,.string sb_7)] rfl ?_
      refine on 18 6 rfl (ca (some 24) (c85 H254 sb_3 tb_3) ?_)
      rintro v258 H259 k261 le260 ⟨sra_0y262,rfl,tra_0y262⟩
      refine ws [0,1,2] (tr le4 (tr le9 (tr le255 le260))) ?_
      refine on 21 5 rfl (ca (some 27) (c85 H259 sb_4 tb_4) ?_)
      rintro v263 H264 k266 le265 ⟨sra_0y267,rfl,tra_0y267⟩
      refine ws [0,1,2] (tr le4 (tr le9 (tr le255 (tr le260 le265)))) ?_
      refine on 24 4 rfl (ca (some 30) (c84 H264 zb_5 6) ?_)
      rintro v268 H269 k271 le270 ⟨zra_0y272,rfl⟩
      refine ws [0,1,2] (tr le4 (tr le9 (tr le255 (tr le260 (tr le265 le270))))) ?_
      refine tk 3 [(25,gz)] [(2,pt b1 0),(3,pt (b1+1) 0),(4,pt (b1+1+1) 0),(5,pt b252 0),(9,iw (w64 (1 + zra_0y6))),(15,iw (w64 (1 + zra_0y11))),(21,iw (w64 (1 + zra_0y257))),(24,.string sra_0y262),(27,.string sra_0y267),(31,iw (w64 (1 + zra_0y272))),(33,iw zb_6),(35,iw za_1),(38,.string sb_7)] rfl ?_
      refine on 30 2 rfl (ca (some 36) (c84 H269 zb_6 za_1) ?_)
      rintro v273 H274 k276 le275 ⟨zra_0y277,rfl⟩
      refine ws [0,1,2] (tr le4 (tr le9 (tr le255 (tr le260 (tr le265 (tr le270 le275)))))) ?_
      refine tk 1 [(33,gz)] [(2,pt b1 0),(3,pt (b1+1) 0),(4,pt (b1+1+1) 0),(5,pt b252 0),(39,.agg #[iw (w64 (1 + zra_0y6)),iw (w64 (1 + zra_0y11)),iw (w64 (1 + zra_0y257)),.string sra_0y262,.string sra_0y267,iw (w64 (1 + zra_0y272)),iw zra_0y277,.string sb_7])] rfl ?_
      refine on 35 0 rfl (e1 (.g [.K 3 0,.K 3 1,.K 3 2,.K 3 3,.K 3 4,.K 3 5,.K 3 6,.K 3 7]) [(2,pt b1 0),(3,pt (b1+1) 0),(4,pt (b1+1+1) 0),(5,pt b252 0)] [.blk b1 [.slice Aa_0 na_0 ca_0,iw za_1] 34,.blk (b1+1) [iw zb_0,iw zb_1,iw zb_2,.string sb_3,.string sb_4,iw zb_5,iw zb_6,.string sb_7] 105,.blk (b1+1+1) [iw 0,iw 0,iw 0,s0,s0,iw 0,iw 0,s0] 105,.blk b252 [iw (w64 (1 + zra_0y6)),iw (w64 (1 + zra_0y11)),iw (w64 (1 + zra_0y257)),.string sra_0y262,.string sra_0y267,iw (w64 (1 + zra_0y272)),iw zra_0y277,.string sb_7] 105] ?_)
      refine ws [0,1,2] (tr le4 (tr le9 (tr le255 (tr le260 (tr le265 (tr le270 le275)))))) ?_
      refine dn (Ok.seq (sr (g0 2 [(2,pt b1 0),(4,pt (b1+1+1) 0),(5,pt b252 0),(41,.string sb_7)] [gz,.g [.K 1 7]] rfl (ef 3 rfl (ca (some 42) (c86 H274 sb_7 tb_7) ?_)))))
      rintro v280 H281 k283 le282 ⟨bra_0y284,rfl⟩
      refine g0 4 [(2,pt b1 0),(4,pt (b1+1+1) 0),(5,pt b252 0),(43,.bool (!bra_0y284))] [gz] rfl (en rfl (cd (!bra_0y284) (fun h286 => ?_) (fun h286 => ?_)))
      · refine Ok.reg (g1 2 [(2,pt b1 0),(4,pt (b1+1+1) 0),(5,pt b252 0)] [.blk b1 [.slice Aa_0 na_0 ca_0,iw za_1] 34,.blk (b1+1) [iw zb_0,iw zb_1,iw zb_2,.string sb_3,.string sb_4,iw zb_5,iw zb_6,.string sb_7] 105,.blk (b1+1+1) [iw 0,iw 0,iw 0,s0,s0,iw 0,iw 0,s0] 105,.blk b252 [iw (w64 (1 + zra_0y6)),iw (w64 (1 + zra_0y11)),iw (w64 (1 + zra_0y257)),.string sra_0y262,.string sra_0y267,iw (w64 (1 + zra_0y272)),iw zra_0y277,.string ⟨#[45]⟩] 105] [gz,.g [.K 3 7]] rfl (en rfl (Ok.seq (sr (g0 3 [(4,pt (b1+1+1) 0),(5,pt b252 0),(45,.agg #[.slice Aa_0 na_0 ca_0,iw za_1]),(47,iw zra_0y277)] [.g [.K 0 0,.K 0 1],gz,.g [.K 3 6]] rfl (Ok.mask [false,false,true,true] [.blk (b1+1+1) [iw 0,iw 0,iw 0,s0,s0,iw 0,iw 0,s0] 105,.blk b252 [iw (w64 (1 + zra_0y6)),iw (w64 (1 + zra_0y11)),iw (w64 (1 + zra_0y257)),.string sra_0y262,.string sra_0y267,iw (w64 (1 + zra_0y272)),iw zra_0y277,.string ⟨#[45]⟩] 105] rfl (ef 4 rfl (ca (some 48) (c87 H281 Aa_0 (na_0) (ca_0) za_1 zra_0y277 (WfS.mono (tr le4 (tr le9 (tr le255 (tr le260 (tr le265 (tr le270 (tr le275 le282))))))) ha_0)) ?_))))))))
        rintro v289 H290 k292 le291 ⟨bra_0y293,rfl⟩
        refine g0 5 [(4,pt (b1+1+1) 0),(5,pt b252 0),(49,.bool (!bra_0y293))] [gz] rfl (en rfl (cd (!bra_0y293) (fun h295 => ?_) (fun h295 => ?_)))
        · refine Ok.reg (g1 2 [(4,pt (b1+1+1) 0),(5,pt b252 0)] [.blk (b1+1+1) [iw 0,iw 0,iw 0,s0,s0,iw 0,iw 0,s0] 105,.blk b252 [iw (w64 (1 + zra_0y6)),iw (w64 (1 + zra_0y11)),iw (w64 (1 + zra_0y257)),.string sra_0y262,.string sra_0y267,iw (w64 (1 + zra_0y272)),iw 0,.string ⟨#[45]⟩] 105] [gz,.g [.K 1 6]] rfl (en rfl (sr (g1 2 [(4,pt (b1+1+1) 0)] [.blk (b1+1+1) [iw (w64 (1 + zra_0y6)),iw (w64 (1 + zra_0y11)),iw (w64 (1 + zra_0y257)),.string sra_0y262,.string sra_0y267,iw (w64 (1 + zra_0y272)),iw 0,.string ⟨#[45]⟩] 105,.blk b252 [iw (w64 (1 + zra_0y6)),iw (w64 (1 + zra_0y11)),iw (w64 (1 + zra_0y257)),.string sra_0y262,.string sra_0y267,iw (w64 (1 + zra_0y272)),iw 0,.string ⟨#[45]⟩] 105] [.g [.K 1 0,.K 1 1,.K 1 2,.K 1 3,.K 1 4,.K 1 5,.K 1 6,.K 1 7],.g [.K 0 0,.K 0 1,.K 0 2,.K 0 3,.K 0 4,.K 0 5,.K 0 6,.K 0 7]] rfl (en rfl (Ok.ret_ ?_))))))
          exact Ok.ret1c (tr le4 (tr le9 (tr le255 (tr le260 (tr le265 (tr le270 (tr le275 (tr le282 le291)))))))) [.K 0 0,.K 0 1,.K 0 2,.K 0 3,.K 0 4,.K 0 5,.K 0 6,.K 0 7] (.agg #[iw (w64 (1 + zra_0y6)),iw (w64 (1 + zra_0y11)),iw (w64 (1 + zra_0y257)),.string sra_0y262,.string sra_0y267,iw (w64 (1 + zra_0y272)),iw 0,.string ⟨#[45]⟩]) [b1+1+1,b1+1+1,b1+1+1,b1+1+1,b1+1+1,b1+1+1,b1+1+1,b1+1+1] rfl (by kernel_rfl) ⟨(w64 (1 + zra_0y6)),(w64 (1 + zra_0y11)),(w64 (1 + zra_0y257)),sra_0y262,sra_0y267,(w64 (1 + zra_0y272)),0,(⟨#[45]⟩ : ByteArray),rfl,tra_0y262,tra_0y267,(by decide)⟩
        refine skn (sr (g1 2 [(4,pt (b1+1+1) 0)] [.blk (b1+1+1) [iw (w64 (1 + zra_0y6)),iw (w64 (1 + zra_0y11)),iw (w64 (1 + zra_0y257)),.string sra_0y262,.string sra_0y267,iw (w64 (1 + zra_0y272)),iw zra_0y277,.string ⟨#[45]⟩] 105,.blk b252 [iw (w64 (1 + zra_0y6)),iw (w64 (1 + zra_0y11)),iw (w64 (1 + zra_0y257)),.string sra_0y262,.string sra_0y267,iw (w64 (1 + zra_0y272)),iw zra_0y277,.string ⟨#[45]⟩] 105] [.g [.K 1 0,.K 1 1,.K 1 2,.K 1 3,.K 1 4,.K 1 5,.K 1 6,.K 1 7],.g [.K 0 0,.K 0 1,.K 0 2,.K 0 3,.K 0 4,.K 0 5,.K 0 6,.K 0 7]] rfl (en rfl (Ok.ret_ ?_))))
        exact Ok.ret1c (tr le4 (tr le9 (tr le255 (tr le260 (tr le265 (tr le270 (tr le275 (tr le282 le291)))))))) [.K 0 0,.K 0 1,.K 0 2,.K 0 3,.K 0 4,.K 0 5,.K 0 6,.K 0 7] (.agg #[iw (w64 (1 + zra_0y6)),iw (w64 (1 + zra_0y11)),iw (w64 (1 + zra_0y257)),.string sra_0y262,.string sra_0y267,iw (w64 (1 + zra_0y272)),iw zra_0y277,.string ⟨#[45]⟩]) [b1+1+1,b1+1+1,b1+1+1,b1+1+1,b1+1+1,b1+1+1,b1+1+1,b1+1+1] rfl (by kernel_rfl) ⟨(w64 (1 + zra_0y6)),(w64 (1 + zra_0y11)),(w64 (1 + zra_0y257)),sra_0y262,sra_0y267,(w64 (1 + zra_0y272)),zra_0y277,(⟨#[45]⟩ : ByteArray),rfl,tra_0y262,tra_0y267,(by decide)⟩
      refine skn (Ok.seq (sr (g0 3 [(4,pt (b1+1+1) 0),(5,pt b252 0),(45,.agg #[.slice Aa_0 na_0 ca_0,iw za_1]),(47,iw zra_0y277)] [.g [.K 0 0,.K 0 1],gz,.g [.K 3 6]] rfl (Ok.mask [false,false,true,true] [.blk (b1+1+1) [iw 0,iw 0,iw 0,s0,s0,iw 0,iw 0,s0] 105,.blk b252 [iw (w64 (1 + zra_0y6)),iw (w64 (1 + zra_0y11)),iw (w64 (1 + zra_0y257)),.string sra_0y262,.string sra_0y267,iw (w64 (1 + zra_0y272)),iw zra_0y277,.string sb_7] 105] rfl ?_))))
      refine ef 4 rfl (ca (some 48) (c87 H281 Aa_0 (na_0) (ca_0) za_1 zra_0y277 (WfS.mono (tr le4 (tr le9 (tr le255 (tr le260 (tr le265 (tr le270 (tr le275 le282))))))) ha_0)) ?_)
      rintro v300 H301 k303 le302 ⟨bra_0y304,rfl⟩
      refine g0 5 [(4,pt (b1+1+1) 0),(5,pt b252 0),(49,.bool (!bra_0y304))] [gz] rfl (en rfl (cd (!bra_0y304) (fun h306 => ?_) (fun h306 => ?_)))
      · refine Ok.reg (g1 2 [(4,pt (b1+1+1) 0),(5,pt b252 0)] [.blk (b1+1+1) [iw 0,iw 0,iw 0,s0,s0,iw 0,iw 0,s0] 105,.blk b252 [iw (w64 (1 + zra_0y6)),iw (w64 (1 + zra_0y11)),iw (w64 (1 + zra_0y257)),.string sra_0y262,.string sra_0y267,iw (w64 (1 + zra_0y272)),iw 0,.string sb_7] 105] [gz,.g [.K 1 6]] rfl (en rfl (sr (g1 2 [(4,pt (b1+1+1) 0)] [.blk (b1+1+1) [iw (w64 (1 + zra_0y6)),iw (w64 (1 + zra_0y11)),iw (w64 (1 + zra_0y257)),.string sra_0y262,.string sra_0y267,iw (w64 (1 + zra_0y272)),iw 0,.string sb_7] 105,.blk b252 [iw (w64 (1 + zra_0y6)),iw (w64 (1 + zra_0y11)),iw (w64 (1 + zra_0y257)),.string sra_0y262,.string sra_0y267,iw (w64 (1 + zra_0y272)),iw 0,.string sb_7] 105] [.g [.K 1 0,.K 1 1,.K 1 2,.K 1 3,.K 1 4,.K 1 5,.K 1 6,.K 1 7],.g [.K 0 0,.K 0 1,.K 0 2,.K 0 3,.K 0 4,.K 0 5,.K 0 6,.K 0 7]] rfl (en rfl (Ok.ret_ ?_))))))
        exact Ok.ret1c (tr le4 (tr le9 (tr le255 (tr le260 (tr le265 (tr le270 (tr le275 (tr le282 le302)))))))) [.K 0 0,.K 0 1,.K 0 2,.K 0 3,.K 0 4,.K 0 5,.K 0 6,.K 0 7] (.agg #[iw (w64 (1 + zra_0y6)),iw (w64 (1 + zra_0y11)),iw (w64 (1 + zra_0y257)),.string sra_0y262,.string sra_0y267,iw (w64 (1 + zra_0y272)),iw 0,.string sb_7]) [b1+1+1,b1+1+1,b1+1+1,b1+1+1,b1+1+1,b1+1+1,b1+1+1,b1+1+1] rfl (by kernel_rfl) ⟨(w64 (1 + zra_0y6)),(w64 (1 + zra_0y11)),(w64 (1 + zra_0y257)),sra_0y262,sra_0y267,(w64 (1 + zra_0y272)),0,sb_7,rfl,tra_0y262,tra_0y267,tb_7⟩
      refine skn (sr (g1 2 [(4,pt (b1+1+1) 0)] [.blk (b1+1+1) [iw (w64 (1 + zra_0y6)),iw (w64 (1 + zra_0y11)),iw (w64 (1 + zra_0y257)),.string sra_0y262,.string sra_0y267,iw (w64 (1 + zra_0y272)),iw zra_0y277,.string sb_7] 105,.blk b252 [iw (w64 (1 + zra_0y6)),iw (w64 (1 + zra_0y11)),iw (w64 (1 + zra_0y257)),.string sra_0y262,.string sra_0y267,iw (w64 (1 + zra_0y272)),iw zra_0y277,.string sb_7] 105] [.g [.K 1 0,.K 1 1,.K 1 2,.K 1 3,.K 1 4,.K 1 5,.K 1 6,.K 1 7],.g [.K 0 0,.K 0 1,.K 0 2,.K 0 3,.K 0 4,.K 0 5,.K 0 6,.K 0 7]] rfl (en rfl (Ok.ret_ ?_))))
      exact Ok.ret1c (tr le4 (tr le9 (tr le255 (tr le260 (tr le265 (tr le270 (tr le275 (tr le282 le302)))))))) [.K 0 0,.K 0 1,.K 0 2,.K 0 3,.K 0 4,.K 0 5,.K 0 6,.K 0 7] (.agg #[iw (w64 (1 + zra_0y6)),iw (w64 (1 + zra_0y11)),iw (w64 (1 + zra_0y257)),.string sra_0y262,.string sra_0y267,iw (w64 (1 + zra_0y272)),iw zra_0y277,.string sb_7]) [b1+1+1,b1+1+1,b1+1+1,b1+1+1,b1+1+1,b1+1+1,b1+1+1,b1+1+1] rfl (by kernel_rfl) ⟨(w64 (1 + zra_0y6)),(w64 (1 + zra_0y11)),(w64 (1 + zra_0y257)),sra_0y262,sra_0y267,(w64 (1 + zra_0y272)),zra_0y277,sb_7,rfl,tra_0y262,tra_0y267,tb_7⟩
    refine (e4 (.g [.N]) (fun b310 => [(2,pt b1 0),(3,pt (b1+1) 0),(4,pt (b1+1+1) 0),(5,pt b310 0),(9,iw (w64 (1 + zra_0y6))),(11,iw zb_1),(13,iw za_1),(17,iw zb_2),(19,iw za_1),(23,.string sb_3),(26,.string sb_4),(29,iw zb_5),(33,iw zb_6),(35,iw za_1),(38,.string sb_7)]) (fun b310 => [.blk b1 [.slice Aa_0 na_0 ca_0,iw za_1] 34,.blk (b1+1) [iw zb_0,iw zb_1,iw zb_2,.string sb_3,.string sb_4,iw zb_5,iw zb_6,.string sb_7] 105,.blk (b1+1+1) [iw 0,iw 0,iw 0,s0,s0,iw 0,iw 0,s0] 105,.blk b310 [iw 0,iw 0,iw 0,s0,s0,iw 0,iw 0,s0] 105]) (fun b310 => ?_))
    refine ws [0,1,2] le4 ?_
    refine on 8 10 rfl (ca (some 14) (c84 H3 zb_1 za_1) ?_)
    rintro v311 H312 k314 le313 ⟨zra_0y315,rfl⟩
    refine ws [0,1,2] (tr le4 le313) ?_
    refine tk 9 [(9,gz)] [(2,pt b1 0),(3,pt (b1+1) 0),(4,pt (b1+1+1) 0),(5,pt b310 0),(9,iw (w64 (1 + zra_0y6))),(15,iw (w64 (1 + zra_0y315))),(17,iw zb_2),(19,iw za_1),(23,.string sb_3),(26,.string sb_4),(29,iw zb_5),(33,iw zb_6),(35,iw za_1),(38,.string sb_7)] rfl ?_
    refine on 14 8 rfl (ca (some 20) (c84 H312 zb_2 za_1) ?_)
    rintro v316 H317 k319 le318 ⟨zra_0y320,rfl⟩
    refine ws [0,1,2] (tr le4 (tr le313 le318)) ?_
    refine tk 7 [(15,gz)] [(2,pt b1 0),(3,pt (b1+1) 0),(4,pt (b1+1+1) 0),(5,pt b310 0),(9,iw (w64 (1 + zra_0y6))),(15,iw (w64 (1 + zra_0y315))),(21,iw (w64 (1 + zra_0y320))),(23,.string sb_3),(26,.string sb_4),(29,iw zb_5),(33,iw zb_6),(35,iw za_1),(38,.string sb_7)] rfl ?_
    refine on 18 6 rfl (ca (some 24) (c85 H317 sb_3 tb_3) ?_)
    rintro v321 H322 k324 le323 ⟨sra_0y325,rfl,tra_0y325⟩
    refine ws [0,1,2] (tr le4 (tr le313 (tr le318 le323))) ?_
    refine on 21 5 rfl (ca (some 27) (c85 H322 sb_4 tb_4) ?_)
    rintro v326 H327 k329 le328 ⟨sra_0y330,rfl,tra_0y330⟩
    refine ws [0,1,2] (tr le4 (tr le313 (tr le318 (tr le323 le328)))) ?_
    refine on 24 4 rfl (ca (some 30) (c84 H327 zb_5 6) ?_)
    rintro v331 H332 k334 le333 ⟨zra_0y335,rfl⟩
    refine ws [0,1,2] (tr le4 (tr le313 (tr le318 (tr le323 (tr le328 le333))))) ?_
    refine tk 3 [(25,gz)] [(2,pt b1 0),(3,pt (b1+1) 0),(4,pt (b1+1+1) 0),(5,pt b310 0),(9,iw (w64 (1 + zra_0y6))),(15,iw (w64 (1 + zra_0y315))),(21,iw (w64 (1 + zra_0y320))),(24,.string sra_0y325),(27,.string sra_0y330),(31,iw (w64 (1 + zra_0y335))),(33,iw zb_6),(35,iw za_1),(38,.string sb_7)] rfl ?_
    refine on 30 2 rfl (ca (some 36) (c84 H332 zb_6 za_1) ?_)
    rintro v336 H337 k339 le338 ⟨zra_0y340,rfl⟩
    refine ws [0,1,2] (tr le4 (tr le313 (tr le318 (tr le323 (tr le328 (tr le333 le338)))))) ?_
    refine tk 1 [(33,gz)] [(2,pt b1 0),(3,pt (b1+1) 0),(4,pt (b1+1+1) 0),(5,pt b310 0),(39,.agg #[iw (w64 (1 + zra_0y6)),iw (w64 (1 + zra_0y315)),iw (w64 (1 + zra_0y320)),.string sra_0y325,.string sra_0y330,iw (w64 (1 + zra_0y335)),iw zra_0y340,.string sb_7])] rfl ?_
    refine on 35 0 rfl (e1 (.g [.K 3 0,.K 3 1,.K 3 2,.K 3 3,.K 3 4,.K 3 5,.K 3 6,.K 3 7]) [(2,pt b1 0),(3,pt (b1+1) 0),(4,pt (b1+1+1) 0),(5,pt b310 0)] [.blk b1 [.slice Aa_0 na_0 ca_0,iw za_1] 34,.blk (b1+1) [iw zb_0,iw zb_1,iw zb_2,.string sb_3,.string sb_4,iw zb_5,iw zb_6,.string sb_7] 105,.blk (b1+1+1) [iw 0,iw 0,iw 0,s0,s0,iw 0,iw 0,s0] 105,.blk b310 [iw (w64 (1 + zra_0y6)),iw (w64 (1 + zra_0y315)),iw (w64 (1 + zra_0y320)),.string sra_0y325,.string sra_0y330,iw (w64 (1 + zra_0y335)),iw zra_0y340,.string sb_7] 105] ?_)
    refine ws [0,1,2] (tr le4 (tr le313 (tr le318 (tr le323 (tr le328 (tr le333 le338)))))) ?_
    refine dn (Ok.seq (sr (g0 2 [(2,pt b1 0),(4,pt (b1+1+1) 0),(5,pt b310 0),(41,.string sb_7)] [gz,.g [.K 1 7]] rfl (ef 3 rfl (ca (some 42) (c86 H337 sb_7 tb_7) ?_)))))
    rintro v343 H344 k346 le345 ⟨bra_0y347,rfl⟩
    refine g0 4 [(2,pt b1 0),(4,pt (b1+1+1) 0),(5,pt b310 0),(43,.bool (!bra_0y347))] [gz] rfl (en rfl (cd (!bra_0y347) (fun h349 => ?_) (fun h349 => ?_)))
    · refine Ok.reg (g1 2 [(2,pt b1 0),(4,pt (b1+1+1) 0),(5,pt b310 0)] [.blk b1 [.slice Aa_0 na_0 ca_0,iw za_1] 34,.blk (b1+1) [iw zb_0,iw zb_1,iw zb_2,.string sb_3,.string sb_4,iw zb_5,iw zb_6,.string sb_7] 105,.blk (b1+1+1) [iw 0,iw 0,iw 0,s0,s0,iw 0,iw 0,s0] 105,.blk b310 [iw (w64 (1 + zra_0y6)),iw (w64 (1 + zra_0y315)),iw (w64 (1 + zra_0y320)),.string sra_0y325,.string sra_0y330,iw (w64 (1 + zra_0y335)),iw zra_0y340,.string ⟨#[45]⟩] 105] [gz,.g [.K 3 7]] rfl (en rfl (Ok.seq (sr (g0 3 [(4,pt (b1+1+1) 0),(5,pt b310 0),(45,.agg #[.slice Aa_0 na_0 ca_0,iw za_1]),(47,iw zra_0y340)] [.g [.K 0 0,.K 0 1],gz,.g [.K 3 6]] rfl (Ok.mask [false,false,true,true] [.blk (b1+1+1) [iw 0,iw 0,iw 0,s0,s0,iw 0,iw 0,s0] 105,.blk b310 [iw (w64 (1 + zra_0y6)),iw (w64 (1 + zra_0y315)),iw (w64 (1 + zra_0y320)),.string sra_0y325,.string sra_0y330,iw (w64 (1 + zra_0y335)),iw zra_0y340,.string ⟨#[45]⟩] 105] rfl (ef 4 rfl (ca (some 48) (c87 H344 Aa_0 (na_0) (ca_0) za_1 zra_0y340 (WfS.mono (tr le4 (tr le313 (tr le318 (tr le323 (tr le328 (tr le333 (tr le338 le345))))))) ha_0)) ?_))))))))
      rintro v352 H353 k355 le354 ⟨bra_0y356,rfl⟩
      refine g0 5 [(4,pt (b1+1+1) 0),(5,pt b310 0),(49,.bool (!bra_0y356))] [gz] rfl (en rfl (cd (!bra_0y356) (fun h358 => ?_) (fun h358 => ?_)))
      · refine Ok.reg (g1 2 [(4,pt (b1+1+1) 0),(5,pt b310 0)] [.blk (b1+1+1) [iw 0,iw 0,iw 0,s0,s0,iw 0,iw 0,s0] 105,.blk b310 [iw (w64 (1 + zra_0y6)),iw (w64 (1 + zra_0y315)),iw (w64 (1 + zra_0y320)),.string sra_0y325,.string sra_0y330,iw (w64 (1 + zra_0y335)),iw 0,.string ⟨#[45]⟩] 105] [gz,.g [.K 1 6]] rfl (en rfl (sr (g1 2 [(4,pt (b1+1+1) 0)] [.blk (b1+1+1) [iw (w64 (1 + zra_0y6)),iw (w64 (1 + zra_0y315)),iw (w64 (1 + zra_0y320)),.string sra_0y325,.string sra_0y330,iw (w64 (1 + zra_0y335)),iw 0,.string ⟨#[45]⟩] 105,.blk b310 [iw (w64 (1 + zra_0y6)),iw (w64 (1 + zra_0y315)),iw (w64 (1 + zra_0y320)),.string sra_0y325,.string sra_0y330,iw (w64 (1 + zra_0y335)),iw 0,.string ⟨#[45]⟩] 105] [.g [.K 1 0,.K 1 1,.K 1 2,.K 1 3,.K 1 4,.K 1 5,.K 1 6,.K 1 7],.g [.K 0 0,.K 0 1,.K 0 2,.K 0 3,.K 0 4,.K 0 5,.K 0 6,.K 0 7]] rfl (en rfl (Ok.ret_ ?_))))))
        exact Ok.ret1c (tr le4 (tr le313 (tr le318 (tr le323 (tr le328 (tr le333 (tr le338 (tr le345 le354)))))))) [.K 0 0,.K 0 1,.K 0 2,.K 0 3,.K 0 4,.K 0 5,.K 0 6,.K 0 7] (.agg #[iw (w64 (1 + zra_0y6)),iw (w64 (1 + zra_0y315)),iw (w64 (1 + zra_0y320)),.string sra_0y325,.string sra_0y330,iw (w64 (1 + zra_0y335)),iw 0,.string ⟨#[45]⟩]) [b1+1+1,b1+1+1,b1+1+1,b1+1+1,b1+1+1,b1+1+1,b1+1+1,b1+1+1] rfl (by kernel_rfl) ⟨(w64 (1 + zra_0y6)),(w64 (1 + zra_0y315)),(w64 (1 + zra_0y320)),sra_0y325,sra_0y330,(w64 (1 + zra_0y335)),0,(⟨#[45]⟩ : ByteArray),rfl,tra_0y325,tra_0y330,(by decide)⟩
      refine skn (sr (g1 2 [(4,pt (b1+1+1) 0)] [.blk (b1+1+1) [iw (w64 (1 + zra_0y6)),iw (w64 (1 + zra_0y315)),iw (w64 (1 + zra_0y320)),.string sra_0y325,.string sra_0y330,iw (w64 (1 + zra_0y335)),iw zra_0y340,.string ⟨#[45]⟩] 105,.blk b310 [iw (w64 (1 + zra_0y6)),iw (w64 (1 + zra_0y315)),iw (w64 (1 + zra_0y320)),.string sra_0y325,.string sra_0y330,iw (w64 (1 + zra_0y335)),iw zra_0y340,.string ⟨#[45]⟩] 105] [.g [.K 1 0,.K 1 1,.K 1 2,.K 1 3,.K 1 4,.K 1 5,.K 1 6,.K 1 7],.g [.K 0 0,.K 0 1,.K 0 2,.K 0 3,.K 0 4,.K 0 5,.K 0 6,.K 0 7]] rfl (en rfl (Ok.ret_ ?_))))
      exact Ok.ret1c (tr le4 (tr le313 (tr le318 (tr le323 (tr le328 (tr le333 (tr le338 (tr le345 le354)))))))) [.K 0 0,.K 0 1,.K 0 2,.K 0 3,.K 0 4,.K 0 5,.K 0 6,.K 0 7] (.agg #[iw (w64 (1 + zra_0y6)),iw (w64 (1 + zra_0y315)),iw (w64 (1 + zra_0y320)),.string sra_0y325,.string sra_0y330,iw (w64 (1 + zra_0y335)),iw zra_0y340,.string ⟨#[45]⟩]) [b1+1+1,b1+1+1,b1+1+1,b1+1+1,b1+1+1,b1+1+1,b1+1+1,b1+1+1] rfl (by kernel_rfl) ⟨(w64 (1 + zra_0y6)),(w64 (1 + zra_0y315)),(w64 (1 + zra_0y320)),sra_0y325,sra_0y330,(w64 (1 + zra_0y335)),zra_0y340,(⟨#[45]⟩ : ByteArray),rfl,tra_0y325,tra_0y330,(by decide)⟩
    refine skn (Ok.seq (sr (g0 3 [(4,pt (b1+1+1) 0),(5,pt b310 0),(45,.agg #[.slice Aa_0 na_0 ca_0,iw za_1]),(47,iw zra_0y340)] [.g [.K 0 0,.K 0 1],gz,.g [.K 3 6]] rfl (Ok.mask [false,false,true,true] [.blk (b1+1+1) [iw 0,iw 0,iw 0,s0,s0,iw 0,iw 0,s0] 105,.blk b310 [iw (w64 (1 + zra_0y6)),iw (w64 (1 + zra_0y315)),iw (w64 (1 + zra_0y320)),.string sra_0y325,.string sra_0y330,iw (w64 (1 + zra_0y335)),iw zra_0y340,.string sb_7] 105] rfl ?_))))
    refine ef 4 rfl (ca (some 48) (c87 H344 Aa_0 (na_0) (ca_0) za_1 zra_0y340 (WfS.mono (tr le4 (tr le313 (tr le318 (tr le323 (tr le328 (tr le333 (tr le338 le345))))))) ha_0)) ?_)
    rintro v363 H364 k366 le365 ⟨bra_0y367,rfl⟩
    refine g0 5 [(4,pt (b1+1+1) 0),(5,pt b310 0),(49,.bool (!bra_0y367))] [gz] rfl (en rfl (cd (!bra_0y367) (fun h369 => ?_) (fun h369 => ?_)))
    · refine Ok.reg (g1 2 [(4,pt (b1+1+1) 0),(5,pt b310 0)] [.blk (b1+1+1) [iw 0,iw 0,iw 0,s0,s0,iw 0,iw 0,s0] 105,.blk b310 [iw (w64 (1 + zra_0y6)),iw (w64 (1 + zra_0y315)),iw (w64 (1 + zra_0y320)),.string sra_0y325,.string sra_0y330,iw (w64 (1 + zra_0y335)),iw 0,.string sb_7] 105] [gz,.g [.K 1 6]] rfl (en rfl (sr (g1 2 [(4,pt (b1+1+1) 0)] [.blk (b1+1+1) [iw (w64 (1 + zra_0y6)),iw (w64 (1 + zra_0y315)),iw (w64 (1 + zra_0y320)),.string sra_0y325,.string sra_0y330,iw (w64 (1 + zra_0y335)),iw 0,.string sb_7] 105,.blk b310 [iw (w64 (1 + zra_0y6)),iw (w64 (1 + zra_0y315)),iw (w64 (1 + zra_0y320)),.string sra_0y325,.string sra_0y330,iw (w64 (1 + zra_0y335)),iw 0,.string sb_7] 105] [.g [.K 1 0,.K 1 1,.K 1 2,.K 1 3,.K 1 4,.K 1 5,.K 1 6,.K 1 7],.g [.K 0 0,.K 0 1,.K 0 2,.K 0 3,.K 0 4,.K 0 5,.K 0 6,.K 0 7]] rfl (en rfl (Ok.ret_ ?_))))))
      exact Ok.ret1c (tr le4 (tr le313 (tr le318 (tr le323 (tr le328 (tr le333 (tr le338 (tr le345 le365)))))))) [.K 0 0,.K 0 1,.K 0 2,.K 0 3,.K 0 4,.K 0 5,.K 0 6,.K 0 7] (.agg #[iw (w64 (1 + zra_0y6)),iw (w64 (1 + zra_0y315)),iw (w64 (1 + zra_0y320)),.string sra_0y325,.string sra_0y330,iw (w64 (1 + zra_0y335)),iw 0,.string sb_7]) [b1+1+1,b1+1+1,b1+1+1,b1+1+1,b1+1+1,b1+1+1,b1+1+1,b1+1+1] rfl (by kernel_rfl) ⟨(w64 (1 + zra_0y6)),(w64 (1 + zra_0y315)),(w64 (1 + zra_0y320)),sra_0y325,sra_0y330,(w64 (1 + zra_0y335)),0,sb_7,rfl,tra_0y325,tra_0y330,tb_7⟩
    refine skn (sr (g1 2 [(4,pt (b1+1+1) 0)] [.blk (b1+1+1) [iw (w64 (1 + zra_0y6)),iw (w64 (1 + zra_0y315)),iw (w64 (1 + zra_0y320)),.string sra_0y325,.string sra_0y330,iw (w64 (1 + zra_0y335)),iw zra_0y340,.string sb_7] 105,.blk b310 [iw (w64 (1 + zra_0y6)),iw (w64 (1 + zra_0y315)),iw (w64 (1 + zra_0y320)),.string sra_0y325,.string sra_0y330,iw (w64 (1 + zra_0y335)),iw zra_0y340,.string sb_7] 105] [.g [.K 1 0,.K 1 1,.K 1 2,.K 1 3,.K 1 4,.K 1 5,.K 1 6,.K 1 7],.g [.K 0 0,.K 0 1,.K 0 2,.K 0 3,.K 0 4,.K 0 5,.K 0 6,.K 0 7]] rfl (en rfl (Ok.ret_ ?_))))
    exact Ok.ret1c (tr le4 (tr le313 (tr le318 (tr le323 (tr le328 (tr le333 (tr le338 (tr le345 le365)))))))) [.K 0 0,.K 0 1,.K 0 2,.K 0 3,.K 0 4,.K 0 5,.K 0 6,.K 0 7] (.agg #[iw (w64 (1 + zra_0y6)),iw (w64 (1 + zra_0y315)),iw (w64 (1 + zra_0y320)),.string sra_0y325,.string sra_0y330,iw (w64 (1 + zra_0y335)),iw zra_0y340,.string sb_7]) [b1+1+1,b1+1+1,b1+1+1,b1+1+1,b1+1+1,b1+1+1,b1+1+1,b1+1+1] rfl (by kernel_rfl) ⟨(w64 (1 + zra_0y6)),(w64 (1 + zra_0y315)),(w64 (1 + zra_0y320)),sra_0y325,sra_0y330,(w64 (1 + zra_0y335)),zra_0y340,sb_7,rfl,tra_0y325,tra_0y330,tb_7⟩
  refine (e4 (.g [.N]) (fun b373 => [(2,pt b1 0),(3,pt (b1+1) 0),(4,pt (b1+1+1) 0),(5,pt b373 0),(7,iw zb_0),(11,iw zb_1),(13,iw za_1),(17,iw zb_2),(19,iw za_1),(23,.string sb_3),(26,.string sb_4),(29,iw zb_5),(33,iw zb_6),(35,iw za_1),(38,.string sb_7)]) (fun b373 => [.blk b1 [.slice Aa_0 na_0 ca_0,iw za_1] 34,.blk (b1+1) [iw zb_0,iw zb_1,iw zb_2,.string sb_3,.string sb_4,iw zb_5,iw zb_6,.string sb_7] 105,.blk (b1+1+1) [iw 0,iw 0,iw 0,s0,s0,iw 0,iw 0,s0] 105,.blk b373 [iw 0,iw 0,iw 0,s0,s0,iw 0,iw 0,s0] 105]) (fun b373 => ?_))
  refine ws [0,1,2] (SLe.refl _) ?_
  refine on 2 12 rfl (ca (some 8) (c84 H zb_0 7) ?_)
  rintro v374 H375 k377 le376 ⟨zra_0y378,rfl⟩
  refine ws [0,1,2] le376 ?_
  refine tk 11 [(3,gz)] [(2,pt b1 0),(3,pt (b1+1) 0),(4,pt (b1+1+1) 0),(5,pt b373 0),(9,iw (w64 (1 + zra_0y378))),(11,iw zb_1),(13,iw za_1),(17,iw zb_2),(19,iw za_1),(23,.string sb_3),(26,.string sb_4),(29,iw zb_5),(33,iw zb_6),(35,iw za_1),(38,.string sb_7)] rfl ?_
  refine on 8 10 rfl (ca (some 14) (c84 H375 zb_1 za_1) ?_)
  rintro v379 H380 k382 le381 ⟨zra_0y383,rfl⟩
  refine ws [0,1,2] (tr le376 le381) ?_
  refine tk 9 [(9,gz)] [(2,pt b1 0),(3,pt (b1+1) 0),(4,pt (b1+1+1) 0),(5,pt b373 0),(9,iw (w64 (1 + zra_0y378))),(15,iw (w64 (1 + zra_0y383))),(17,iw zb_2),(19,iw za_1),(23,.string sb_3),(26,.string sb_4),(29,iw zb_5),(33,iw zb_6),(35,iw za_1),(38,.string sb_7)] rfl ?_
  refine on 14 8 rfl (ca (some 20) (c84 H380 zb_2 za_1) ?_)
  rintro v384 H385 k387 le386 ⟨zra_0y388,rfl⟩
  refine ws [0,1,2] (tr le376 (tr le381 le386)) ?_
  refine tk 7 [(15,gz)] [(2,pt b1 0),(3,pt (b1+1) 0),(4,pt (b1+1+1) 0),(5,pt b373 0),(9,iw (w64 (1 + zra_0y378))),(15,iw (w64 (1 + zra_0y383))),(21,iw (w64 (1 + zra_0y388))),(23,.string sb_3),(26,.string sb_4),(29,iw zb_5),(33,iw zb_6),(35,iw za_1),(38,.string sb_7)] rfl ?_
  refine on 18 6 rfl (ca (some 24) (c85 H385 sb_3 tb_3) ?_)
  rintro v389 H390 k392 le391 ⟨sra_0y393,rfl,tra_0y393⟩
  refine ws [0,1,2] (tr le376 (tr le381 (tr le386 le391))) ?_
  refine on 21 5 rfl (ca (some 27) (c85 H390 sb_4 tb_4) ?_)
  rintro v394 H395 k397 le396 ⟨sra_0y398,rfl,tra_0y398⟩
  refine ws [0,1,2] (tr le376 (tr le381 (tr le386 (tr le391 le396)))) ?_
  refine on 24 4 rfl (ca (some 30) (c84 H395 zb_5 6) ?_)
  rintro v399 H400 k402 le401 ⟨zra_0y403,rfl⟩
  refine ws [0,1,2] (tr le376 (tr le381 (tr le386 (tr le391 (tr le396 le401))))) ?_
  refine tk 3 [(25,gz)] [(2,pt b1 0),(3,pt (b1+1) 0),(4,pt (b1+1+1) 0),(5,pt b373 0),(9,iw (w64 (1 + zra_0y378))),(15,iw (w64 (1 + zra_0y383))),(21,iw (w64 (1 + zra_0y388))),(24,.string sra_0y393),(27,.string sra_0y398),(31,iw (w64 (1 + zra_0y403))),(33,iw zb_6),(35,iw za_1),(38,.string sb_7)] rfl ?_
  refine on 30 2 rfl (ca (some 36) (c84 H400 zb_6 za_1) ?_)
  rintro v404 H405 k407 le406 ⟨zra_0y408,rfl⟩
  refine ws [0,1,2] (tr le376 (tr le381 (tr le386 (tr le391 (tr le396 (tr le401 le406)))))) ?_
  refine tk 1 [(33,gz)] [(2,pt b1 0),(3,pt (b1+1) 0),(4,pt (b1+1+1) 0),(5,pt b373 0),(39,.agg #[iw (w64 (1 + zra_0y378)),iw (w64 (1 + zra_0y383)),iw (w64 (1 + zra_0y388)),.string sra_0y393,.string sra_0y398,iw (w64 (1 + zra_0y403)),iw zra_0y408,.string sb_7])] rfl ?_
  refine on 35 0 rfl (e1 (.g [.K 3 0,.K 3 1,.K 3 2,.K 3 3,.K 3 4,.K 3 5,.K 3 6,.K 3 7]) [(2,pt b1 0),(3,pt (b1+1) 0),(4,pt (b1+1+1) 0),(5,pt b373 0)] [.blk b1 [.slice Aa_0 na_0 ca_0,iw za_1] 34,.blk (b1+1) [iw zb_0,iw zb_1,iw zb_2,.string sb_3,.string sb_4,iw zb_5,iw zb_6,.string sb_7] 105,.blk (b1+1+1) [iw 0,iw 0,iw 0,s0,s0,iw 0,iw 0,s0] 105,.blk b373 [iw (w64 (1 + zra_0y378)),iw (w64 (1 + zra_0y383)),iw (w64 (1 + zra_0y388)),.string sra_0y393,.string sra_0y398,iw (w64 (1 + zra_0y403)),iw zra_0y408,.string sb_7] 105] ?_)
  refine ws [0,1,2] (tr le376 (tr le381 (tr le386 (tr le391 (tr le396 (tr le401 le406)))))) ?_
  refine dn (Ok.seq (sr (g0 2 [(2,pt b1 0),(4,pt (b1+1+1) 0),(5,pt b373 0),(41,.string sb_7)] [gz,.g [.K 1 7]] rfl (ef 3 rfl (ca (some 42) (c86 H405 sb_7 tb_7) ?_)))))
  rintro v411 H412 k414 le413 ⟨bra_0y415,rfl⟩
  refine g0 4 [(2,pt b1 0),(4,pt (b1+1+1) 0),(5,pt b373 0),(43,.bool (!bra_0y415))] [gz] rfl (en rfl (cd (!bra_0y415) (fun h417 => ?_) (fun h417 => ?_)))
  · refine Ok.reg (g1 2 [(2,pt b1 0),(4,pt (b1+1+1) 0),(5,pt b373 0)] [.blk b1 [.slice Aa_0 na_0 ca_0,iw za_1] 34,.blk (b1+1) [iw zb_0,iw zb_1,iw zb_2,.string sb_3,.string sb_4,iw zb_5,iw zb_6,.string sb_7] 105,.blk (b1+1+1) [iw 0,iw 0,iw 0,s0,s0,iw 0,iw 0,s0] 105,.blk b373 [iw (w64 (1 + zra_0y378)),iw (w64 (1 + zra_0y383)),iw (w64 (1 + zra_0y388)),.string sra_0y393,.string sra_0y398,iw (w64 (1 + zra_0y403)),iw zra_0y408,.string ⟨#[45]⟩] 105] [gz,.g [.K 3 7]] rfl (en rfl (Ok.seq (sr (g0 3 [(4,pt (b1+1+1) 0),(5,pt b373 0),(45,.agg #[.slice Aa_0 na_0 ca_0,iw za_1]),(47,iw zra_0y408)] [.g [.K 0 0,.K 0 1],gz,.g [.K 3 6]] rfl (Ok.mask [false,false,true,true] [.blk (b1+1+1) [iw 0,iw 0,iw 0,s0,s0,iw 0,iw 0,s0] 105,.blk b373 [iw (w64 (1 + zra_0y378)),iw (w64 (1 + zra_0y383)),iw (w64 (1 + zra_0y388)),.string sra_0y393,.string sra_0y398,iw (w64 (1 + zra_0y403)),iw zra_0y408,.string ⟨#[45]⟩] 105] rfl (ef 4 rfl (ca (some 48) (c87 H412 Aa_0 (na_0) (ca_0) za_1 zra_0y408 (WfS.mono (tr le376 (tr le381 (tr le386 (tr le391 (tr le396 (tr le401 (tr le406 le413))))))) ha_0)) ?_))))))))
    rintro v420 H421 k423 le422 ⟨bra_0y424,rfl⟩
    refine g0 5 [(4,pt (b1+1+1) 0),(5,pt b373 0),(49,.bool (!bra_0y424))] [gz] rfl (en rfl (cd (!bra_0y424) (fun h426 => ?_) (fun h426 => ?_)))
    · refine Ok.reg (g1 2 [(4,pt (b1+1+1) 0),(5,pt b373 0)] [.blk (b1+1+1) [iw 0,iw 0,iw 0,s0,s0,iw 0,iw 0,s0] 105,.blk b373 [iw (w64 (1 + zra_0y378)),iw (w64 (1 + zra_0y383)),iw (w64 (1 + zra_0y388)),.string sra_0y393,.string sra_0y398,iw (w64 (1 + zra_0y403)),iw 0,.string ⟨#[45]⟩] 105] [gz,.g [.K 1 6]] rfl (en rfl (sr (g1 2 [(4,pt (b1+1+1) 0)] [.blk (b1+1+1) [iw (w64 (1 + zra_0y378)),iw (w64 (1 + zra_0y383)),iw (w64 (1 + zra_0y388)),.string sra_0y393,.string sra_0y398,iw (w64 (1 + zra_0y403)),iw 0,.string ⟨#[45]⟩] 105,.blk b373 [iw (w64 (1 + zra_0y378)),iw (w64 (1 + zra_0y383)),iw (w64 (1 + zra_0y388)),.string sra_0y393,.string sra_0y398,iw (w64 (1 + zra_0y403)),iw 0,.string ⟨#[45]⟩] 105] [.g [.K 1 0,.K 1 1,.K 1 2,.K 1 3,.K 1 4,.K 1 5,.K 1 6,.K 1 7],.g [.K 0 0,.K 0 1,.K 0 2,.K 0 3,.K 0 4,.K 0 5,.K 0 6,.K 0 7]] rfl (en rfl (Ok.ret_ ?_))))))
      exact Ok.ret1c (tr le376 (tr le381 (tr le386 (tr le391 (tr le396 (tr le401 (tr le406 (tr le413 le422)))))))) [.K 0 0,.K 0 1,.K 0 2,.K 0 3,.K 0 4,.K 0 5,.K 0 6,.K 0 7] (.agg #[iw (w64 (1 + zra_0y378)),iw (w64 (1 + zra_0y383)),iw (w64 (1 + zra_0y388)),.string sra_0y393,.string sra_0y398,iw (w64 (1 + zra_0y403)),iw 0,.string ⟨#[45]⟩]) [b1+1+1,b1+1+1,b1+1+1,b1+1+1,b1+1+1,b1+1+1,b1+1+1,b1+1+1] rfl (by kernel_rfl) ⟨(w64 (1 + zra_0y378)),(w64 (1 + zra_0y383)),(w64 (1 + zra_0y388)),sra_0y393,sra_0y398,(w64 (1 + zra_0y403)),0,(⟨#[45]⟩ : ByteArray),rfl,tra_0y393,tra_0y398,(by decide)⟩
    refine skn (sr (g1 2 [(4,pt (b1+1+1) 0)] [.blk (b1+1+1) [iw (w64 (1 + zra_0y378)),iw (w64 (1 + zra_0y383)),iw (w64 (1 + zra_0y388)),.string sra_0y393,.string sra_0y398,iw (w64 (1 + zra_0y403)),iw zra_0y408,.string ⟨#[45]⟩] 105,.blk b373 [iw (w64 (1 + zra_0y378)),iw (w64 (1 + zra_0y383)),iw (w64 (1 + zra_0y388)),.string sra_0y393,.string sra_0y398,iw (w64 (1 + zra_0y403)),iw zra_0y408,.string ⟨#[45]⟩] 105] [.g [.K 1 0,.K 1 1,.K 1 2,.K 1 3,.K 1 4,.K 1 5,.K 1 6,.K 1 7],.g [.K 0 0,.K 0 1,.K 0 2,.K 0 3,.K 0 4,.K 0 5,.K 0 6,.K 0 7]] rfl (en rfl (Ok.ret_ ?_))))
    exact Ok.ret1c (tr le376 (tr le381 (tr le386 (tr le391 (tr le396 (tr le401 (tr le406 (tr le413 le422)))))))) [.K 0 0,.K 0 1,.K 0 2,.K 0 3,.K 0 4,.K 0 5,.K 0 6,.K 0 7] (.agg #[iw (w64 (1 + zra_0y378)),iw (w64 (1 + zra_0y383)),iw (w64 (1 + zra_0y388)),.string sra_0y393,.string sra_0y398,iw (w64 (1 + zra_0y403)),iw zra_0y408,.string ⟨#[45]⟩]) [b1+1+1,b1+1+1,b1+1+1,b1+1+1,b1+1+1,b1+1+1,b1+1+1,b1+1+1] rfl (by kernel_rfl) ⟨(w64 (1 + zra_0y378)),(w64 (1 + zra_0y383)),(w64 (1 + zra_0y388)),sra_0y393,sra_0y398,(w64 (1 + zra_0y403)),zra_0y408,(⟨#[45]⟩ : ByteArray),rfl,tra_0y393,tra_0y398,(by decide)⟩
  refine skn (Ok.seq (sr (g0 3 [(4,pt (b1+1+1) 0),(5,pt b373 0),(45,.agg #[.slice Aa_0 na_0 ca_0,iw za_1]),(47,iw zra_0y408)] [.g [.K 0 0,.K 0 1],gz,.g [.K 3 6]] rfl (Ok.mask [false,false,true,true] [.blk (b1+1+1) [iw 0,iw 0,iw 0,s0,s0,iw 0,iw 0,s0] 105,.blk b373 [iw (w64 (1 + zra_0y378)),iw (w64 (1 + zra_0y383)),iw (w64 (1 + zra_0y388)),.string sra_0y393,.string sra_0y398,iw (w64 (1 + zra_0y403)),iw zra_0y408,.string sb_7] 105] rfl ?_))))
  refine ef 4 rfl (ca (some 48) (c87 H412 Aa_0 (na_0) (ca_0) za_1 zra_0y408 (WfS.mono (tr le376 (tr le381 (tr le386 (tr le391 (tr le396 (tr le401 (tr le406 le413))))))) ha_0)) ?_)
  rintro v431 H432 k434 le433 ⟨bra_0y435,rfl⟩
  refine g0 5 [(4,pt (b1+1+1) 0),(5,pt b373 0),(49,.bool (!bra_0y435))] [gz] rfl (en rfl (cd (!bra_0y435) (fun h437 => ?_) (fun h437 => ?_)))
  · refine Ok.reg (g1 2 [(4,pt (b1+1+1) 0),(5,pt b373 0)] [.blk (b1+1+1) [iw 0,iw 0,iw 0,s0,s0,iw 0,iw 0,s0] 105,.blk b373 [iw (w64 (1 + zra_0y378)),iw (w64 (1 + zra_0y383)),iw (w64 (1 + zra_0y388)),.string sra_0y393,.string sra_0y398,iw (w64 (1 + zra_0y403)),iw 0,.string sb_7] 105] [gz,.g [.K 1 6]] rfl (en rfl (sr (g1 2 [(4,pt (b1+1+1) 0)] [.blk (b1+1+1) [iw (w64 (1 + zra_0y378)),iw (w64 (1 + zra_0y383)),iw (w64 (1 + zra_0y388)),.string sra_0y393,.string sra_0y398,iw (w64 (1 + zra_0y403)),iw 0,.string sb_7] 105,.blk b373 [iw (w64 (1 + zra_0y378)),iw (w64 (1 + zra_0y383)),iw (w64 (1 + zra_0y388)),.string sra_0y393,.string sra_0y398,iw (w64 (1 + zra_0y403)),iw 0,.string sb_7] 105] [.g [.K 1 0,.K 1 1,.K 1 2,.K 1 3,.K 1 4,.K 1 5,.K 1 6,.K 1 7],.g [.K 0 0,.K 0 1,.K 0 2,.K 0 3,.K 0 4,.K 0 5,.K 0 6,.K 0 7]] rfl (en rfl (Ok.ret_ ?_))))))
    exact Ok.ret1c (tr le376 (tr le381 (tr le386 (tr le391 (tr le396 (tr le401 (tr le406 (tr le413 le433)))))))) [.K 0 0,.K 0 1,.K 0 2,.K 0 3,.K 0 4,.K 0 5,.K 0 6,.K 0 7] (.agg #[iw (w64 (1 + zra_0y378)),iw (w64 (1 + zra_0y383)),iw (w64 (1 + zra_0y388)),.string sra_0y393,.string sra_0y398,iw (w64 (1 + zra_0y403)),iw 0,.string sb_7]) [b1+1+1,b1+1+1,b1+1+1,b1+1+1,b1+1+1,b1+1+1,b1+1+1,b1+1+1] rfl (by kernel_rfl) ⟨(w64 (1 + zra_0y378)),(w64 (1 + zra_0y383)),(w64 (1 + zra_0y388)),sra_0y393,sra_0y398,(w64 (1 + zra_0y403)),0,sb_7,rfl,tra_0y393,tra_0y398,tb_7⟩
  refine skn (sr (g1 2 [(4,pt (b1+1+1) 0)] [.blk (b1+1+1) [iw (w64 (1 + zra_0y378)),iw (w64 (1 + zra_0y383)),iw (w64 (1 + zra_0y388)),.string sra_0y393,.string sra_0y398,iw (w64 (1 + zra_0y403)),iw zra_0y408,.string sb_7] 105,.blk b373 [iw (w64 (1 + zra_0y378)),iw (w64 (1 + zra_0y383)),iw (w64 (1 + zra_0y388)),.string sra_0y393,.string sra_0y398,iw (w64 (1 + zra_0y403)),iw zra_0y408,.string sb_7] 105] [.g [.K 1 0,.K 1 1,.K 1 2,.K 1 3,.K 1 4,.K 1 5,.K 1 6,.K 1 7],.g [.K 0 0,.K 0 1,.K 0 2,.K 0 3,.K 0 4,.K 0 5,.K 0 6,.K 0 7]] rfl (en rfl (Ok.ret_ ?_))))
  exact Ok.ret1c (tr le376 (tr le381 (tr le386 (tr le391 (tr le396 (tr le401 (tr le406 (tr le413 le433)))))))) [.K 0 0,.K 0 1,.K 0 2,.K 0 3,.K 0 4,.K 0 5,.K 0 6,.K 0 7] (.agg #[iw (w64 (1 + zra_0y378)),iw (w64 (1 + zra_0y383)),iw (w64 (1 + zra_0y388)),.string sra_0y393,.string sra_0y398,iw (w64 (1 + zra_0y403)),iw zra_0y408,.string sb_7]) [b1+1+1,b1+1+1,b1+1+1,b1+1+1,b1+1+1,b1+1+1,b1+1+1,b1+1+1] rfl (by kernel_rfl) ⟨(w64 (1 + zra_0y378)),(w64 (1 + zra_0y383)),(w64 (1 + zra_0y388)),sra_0y393,sra_0y398,(w64 (1 + zra_0y403)),zra_0y408,sb_7,rfl,tra_0y393,tra_0y398,tb_7⟩
theorem c115 (H : Snap) (Aa_0 : Option Addr) (na_0 : Nat) (ca_0 : Nat) (za_1 : Int) (zb_0 : Int) (ha_0 : WfS H el41 Aa_0 na_0) : Does Tryz.prog 115 [.agg #[.slice Aa_0 na_0 ca_0,iw za_1],iw zb_0] H [] (fun v H' kp => ∃ (zra_0 : Int),v = iw zra_0) := by
  have lha_0 := ha_0.1
  refine Does.of Tryz.func115 rfl rfl rfl rfl (fun w0 H0 kx => ?_)
  refine sr (g4 2 (fun b1 => [(1,iw zb_0),(2,pt b1 0)]) (fun b1 => [.blk b1 [.slice Aa_0 na_0 ca_0,iw za_1] 34]) [.g [.N],gz] rfl (fun b1 => (en rfl ?_)))
  refine sr (g0 1 [(1,iw zb_0),(2,pt b1 0),(5,iw 0)] [gz] rfl (en rfl (Ok.seq (Ok.blk (Ok.restr [1,2,5] [(1,iw zb_0),(2,pt b1 0),(5,iw 0)] rfl (Ok.loop (fun H' fr kb m => ∃ (zL3_1 : Int) (zL3_5 : Int),fr = [(1,iw zL3_1),(2,pt b1 0),(5,iw zL3_5)] ∧ kb = [.blk b1 [.slice Aa_0 na_0 ca_0,iw za_1] 34] ∧ m = ((9) - zL3_5).toNat ∧ SLe H H' ∧ 0 ≤ zL3_5 ∧ zL3_5 ≤ 9) _ ⟨zb_0,0,rfl,rfl,rfl,SLe.refl _,by decide,by omega⟩ ?_))))))
  rintro H4 _ _ mL3 ⟨zL3_1,zL3_5,rfl,rfl,hmL3,le5,fL3_0,fL3_1⟩
  refine Ok.seq (sr (g0 3 [(1,iw zL3_1),(2,pt b1 0),(5,iw zL3_5),(10,.bool (zL3_1 != 0))] [gz,gz,gz] rfl (cs (zL3_1 != 0) [10] (fun h7 => ?_) (fun h7 => ?_))))
  · refine g0 6 [(1,iw zL3_1),(2,pt b1 0),(5,iw zL3_5),(13,.bool (decide (zL3_5 ≤ 8)))] [gz,gz,gz] rfl (en rfl (cd (decide (zL3_5 ≤ 8)) (fun h9 => ?_) (fun h9 => ?_)))
    · have h9 := of_decide_eq_true h9
      refine skn (Ok.blk (sr (g0 2 [(2,pt b1 0),(5,iw zL3_5),(15,.agg #[.slice Aa_0 na_0 ca_0,iw za_1]),(16,iw zL3_1)] [.g [.K 0 0,.K 0 1],gz] rfl (ef 3 rfl (ca (some 17) (c6 H4 Aa_0 (na_0) (ca_0) za_1 zL3_1 (WfS.mono le5 ha_0)) ?_)))))
      rintro v11 H12 k14 le13 ⟨zra_0y15,sra_1y15,zra_2y15,zra_3y15,brb_0y15,rfl,tra_1y15⟩
      refine g4 9 (fun b16 => [(2,pt b1 0),(5,iw zL3_5),(6,pt b16 0),(7,.bool brb_0y15)]) (fun b16 => [.blk b1 [.slice Aa_0 na_0 ca_0,iw za_1] 34,.blk b16 [iw zra_0y15,.string sra_1y15,iw zra_2y15,iw zra_3y15] 41]) [gz,gz,gz,.g [.N],.g [.K 1 0,.K 1 1,.K 1 2,.K 1 3],gz] rfl (fun b16 => (en rfl ?_))
      refine Ok.seq (sr (g0 2 [(2,pt b1 0),(5,iw zL3_5),(6,pt b16 0),(21,.bool (!brb_0y15))] [gz,gz] rfl (en rfl (cd (!brb_0y15) (fun h18 => ?_) (fun h18 => ?_)))))
      · refine sr (g0 1 [(4,iw 9)] [gz] rfl (en rfl (Ok.ret_ (Ok.thenR (Ok.blkR (Ok.thenR (Ok.blkR (Ok.thenR (Ok.dropAll ?_)))))))))
        exact Ok.ret1 (v := iw 9) (tr le5 le13) rfl rfl ⟨9,rfl⟩
      refine skn (sr (g0 3 [(1,iw zra_3y15),(2,pt b1 0),(5,iw zL3_5)] [gz,.g [.K 1 3],gz] rfl (en rfl (Ok.reg ?_))))
      have k22 := wid (x := zL3_5 + 1) (by omega)
      refine g0 3 [(1,iw zra_3y15),(2,pt b1 0),(5,iw (w64 (zL3_5 + 1)))] [gz,gz,gz] rfl (Ok.segEnd rfl (Ok.blkN ?_))
      refine Ok.thenN (Ok.restr [1,2,5] [(1,iw zra_3y15),(2,pt b1 0),(5,iw (w64 (zL3_5 + 1)))] rfl ?_)
      refine Ok.mask [true,false] [.blk b1 [.slice Aa_0 na_0 ca_0,iw za_1] 34] rfl ?_
      exact Ok.again _ ⟨zra_3y15,(w64 (zL3_5 + 1)),rfl,rfl,rfl,(tr le5 le13),by omega,by omega⟩ (by omega)
    have h9 := of_decide_eq_false h9
    refine Ok.exit_ (Ok.thenE (Ok.thenE (Ok.blkE (Ok.thenN (sr (g0 2 [(4,iw zL3_5)] [gz,gz] rfl (en rfl (Ok.ret_ (Ok.dropAll ?_)))))))))
    exact Ok.ret1 (v := iw zL3_5) le5 rfl rfl ⟨zL3_5,rfl⟩
  refine g0 6 [(1,iw zL3_1),(2,pt b1 0),(5,iw zL3_5),(13,bF)] [gz,gz,gz] rfl (en rfl (cF (Ok.exit_ (Ok.thenE (Ok.thenE (Ok.blkE (Ok.thenN (sr (g0 2 [(4,iw zL3_5)] [gz,gz] rfl (en rfl (Ok.ret_ (Ok.dropAll ?_))))))))))))
  exact Ok.ret1 (v := iw zL3_5) le5 rfl rfl ⟨zL3_5,rfl⟩
theorem c116 (H : Snap) (Aa_0 : Option Addr) (na_0 : Nat) (ca_0 : Nat) (za_1 : Int) (zb_0 : Int) (sb_1 : ByteArray) (zb_2 : Int) (zb_3 : Int) (zc_0 : Int) (zc_1 : Int) (ha_0 : WfS H el41 Aa_0 na_0) (tb_1 : sb_1.size < 9223372036854775808) : Does Tryz.prog 116 [.agg #[.slice Aa_0 na_0 ca_0,iw za_1],.agg #[iw zb_0,.string sb_1,iw zb_2,iw zb_3],.agg #[iw zc_0,iw zc_1]] H [] (fun v H' kp => ∃ (bra_0 : Bool),v = .bool bra_0) := by
  have lha_0 := ha_0.1
  refine Does.of Tryz.func116 rfl rfl rfl rfl (fun w0 H0 kx => ?_)
  refine sr (g4 4 (fun b1 => [(3,pt b1 0),(4,pt (b1+1) 0),(5,pt (b1+1+1) 0)]) (fun b1 => [.blk b1 [.slice Aa_0 na_0 ca_0,iw za_1] 34,.blk (b1+1) [iw zb_0,.string sb_1,iw zb_2,iw zb_3] 41,.blk (b1+1+1) [iw zc_0,iw zc_1] 159]) [.g [.N],.g [.N],.g [.N],gz] rfl (fun b1 => (en rfl ?_)))
  refine Ok.seq (sr (g0 1 [(3,pt b1 0),(4,pt (b1+1) 0),(5,pt (b1+1+1) 0),(7,iw 0)] [gz] rfl (en rfl (Ok.blk (Ok.restr [3,4,5,7] [(3,pt b1 0),(4,pt (b1+1) 0),(5,pt (b1+1+1) 0),(7,iw 0)] rfl (Ok.loop (fun H' fr kb m => ∃ (zL3_7 : Int),fr = [(3,pt b1 0),(4,pt (b1+1) 0),(5,pt (b1+1+1) 0),(7,iw zL3_7)] ∧ kb = [.blk b1 [.slice Aa_0 na_0 ca_0,iw za_1] 34,.blk (b1+1) [iw zb_0,.string sb_1,iw zb_2,iw zb_3] 41,.blk (b1+1+1) [iw zc_0,iw zc_1] 159] ∧ m = ((((na_0 : Nat) : Int)) - zL3_7).toNat ∧ SLe H H' ∧ 0 ≤ zL3_7 ∧ zL3_7 ≤ ((na_0 : Nat) : Int)) _ ⟨0,rfl,rfl,rfl,SLe.refl _,by decide,by omega⟩ ?_))))))
  rintro H4 _ _ mL3 ⟨zL3_7,rfl,rfl,hmL3,le5,fL3_0,fL3_1⟩
  refine Ok.seq (sr (g0 5 [(3,pt b1 0),(4,pt (b1+1) 0),(5,pt (b1+1+1) 0),(7,iw zL3_7),(14,.bool (decide (zL3_7 < ((na_0 : Nat) : Int))))] [gz,gz,.g [.K 0 0],gz,gz] rfl (en rfl (cd (decide (zL3_7 < ((na_0 : Nat) : Int))) (fun h7 => ?_) (fun h7 => ?_)))))
  · have h7 := of_decide_eq_true h7
    refine skn (Ok.seq (Ok.blk (sr ?_)))
    have ie9 : 0 ≤ zL3_7 ∧ zL3_7 < ((na_0 : Nat) : Int) := by omega
    obtain ⟨je9,cse9,we9,he9⟩ := (WfS.mono le5 ha_0).at_ zL3_7 ie9.1 ie9.2
    obtain ⟨ue9_0,le9_0,rfl,ve9_0,we9_0⟩ := wfl_cons we9
    obtain ⟨ze9_0,rfl⟩ := wfv_int ve9_0
    obtain ⟨ue9_1,le9_1,rfl,ve9_1,we9_1⟩ := wfl_cons we9_0
    obtain ⟨se9_1,rfl,te9_1⟩ := wfv_str ve9_1
    obtain ⟨ue9_2,le9_2,rfl,ve9_2,we9_2⟩ := wfl_cons we9_1
    obtain ⟨ze9_2,rfl⟩ := wfv_int ve9_2
    obtain ⟨ue9_3,le9_3,rfl,ve9_3,we9_3⟩ := wfl_cons we9_2
    obtain ⟨ze9_3,rfl⟩ := wfv_int ve9_3
    obtain rfl := wfl_nil we9_3
    refine g5 7 (fun b8 => [(3,pt b1 0),(4,pt (b1+1) 0),(5,pt (b1+1+1) 0),(7,iw zL3_7),(8,pt b8 0)]) (fun b8 => [.blk b1 [.slice Aa_0 na_0 ca_0,iw za_1] 34,.blk (b1+1) [iw zb_0,.string sb_1,iw zb_2,iw zb_3] 41,.blk (b1+1+1) [iw zc_0,iw zc_1] 159,.blk b8 [iw ze9_0,.string se9_1,iw ze9_2,iw ze9_3] 41]) [gz,.g [.K 0 0],gz,.ix,.g [.X (iw ze9_0),.X (.string se9_1),.X (iw ze9_2),.X (iw ze9_3)],.g [.N],.g [.K 3 0,.K 3 1,.K 3 2,.K 3 3]] (fun b8 => (ex1 (And.intro je9 ie9) (ex1 (cell0 (he9 0 _ rfl)) (ex1 (he9 (1) _ rfl) (ex1 (he9 (2) _ rfl) (ex1 (he9 (3) _ rfl) ex0)))))) rfl (fun b8 => (en rfl ?_))
    refine Ok.seq (Ok.regJ (ι := Bool) (fun y11 => [(3,pt b1 0),(4,pt (b1+1) 0),(5,pt (b1+1+1) 0),(7,iw zL3_7),(47,.bool y11)]) ?_ (fun J10 => ?_))
    · rintro bJ10_47
      refine Ok.thenN (cd bJ10_47 (fun h12 => ?_) (fun h12 => ?_))
      · refine sr (g0 1 [(6,bT)] [gz] rfl (en rfl (Ok.ret_ (Ok.blkR (Ok.thenR (Ok.thenR (Ok.blkR (Ok.thenR (Ok.dropAll ?_)))))))))
        exact Ok.ret1 (v := bT) le5 rfl rfl ⟨true,rfl⟩
      refine Ok.skip_ (Ok.blkN (Ok.thenN (Ok.reg ?_)))
      have k15 := wid (x := zL3_7 + 1) (by omega)
      refine g0 3 [(3,pt b1 0),(4,pt (b1+1) 0),(5,pt (b1+1+1) 0),(7,iw (w64 (zL3_7 + 1)))] [gz,gz,gz] rfl (en rfl (Ok.restr [3,4,5,7] [(3,pt b1 0),(4,pt (b1+1) 0),(5,pt (b1+1+1) 0),(7,iw (w64 (zL3_7 + 1)))] rfl (Ok.mask [true,true,true,false] [.blk b1 [.slice Aa_0 na_0 ca_0,iw za_1] 34,.blk (b1+1) [iw zb_0,.string sb_1,iw zb_2,iw zb_3] 41,.blk (b1+1+1) [iw zc_0,iw zc_1] 159] rfl ?_)))
      exact Ok.again _ ⟨(w64 (zL3_7 + 1)),rfl,rfl,rfl,le5,by omega,by omega⟩ (by omega)
    refine g0 6 [(3,pt b1 0),(4,pt (b1+1) 0),(5,pt (b1+1+1) 0),(7,iw zL3_7),(8,pt b8 0),(27,.bool (ze9_3 == zb_3))] [gz,.g [.K 3 3],gz,.g [.K 1 3],gz,gz] rfl (cs (ze9_3 == zb_3) [27] (fun h17 => ?_) (fun h17 => ?_))
    · have h17 := eq_of_beq h17
      refine g0 13 [(3,pt b1 0),(4,pt (b1+1) 0),(5,pt (b1+1+1) 0),(7,iw zL3_7),(8,pt b8 0),(34,.bool (se9_1.toList == sb_1.toList))] [gz,.g [.K 3 1],gz,.g [.K 1 1],gz,gz,gz] rfl (cs (se9_1.toList == sb_1.toList) [34] (fun h19 => ?_) (fun h19 => ?_))
      · refine g0 20 [(3,pt b1 0),(4,pt (b1+1) 0),(5,pt (b1+1+1) 0),(7,iw zL3_7),(8,pt b8 0),(41,.bool (ze9_0 != zc_0))] [gz,.g [.K 3 0],gz,.g [.K 2 0],gz,gz,gz] rfl (cs (ze9_0 != zc_0) [41] (fun h21 => ?_) (fun h21 => ?_))
        · refine g0 26 [(3,pt b1 0),(4,pt (b1+1) 0),(5,pt (b1+1+1) 0),(7,iw zL3_7),(47,.bool (ze9_0 != zc_1))] [gz,.g [.K 3 0],gz,.g [.K 2 1],gz,gz] rfl (Ok.segEnd rfl (Ok.restr [3,4,5,7,47] [(3,pt b1 0),(4,pt (b1+1) 0),(5,pt (b1+1+1) 0),(7,iw zL3_7),(47,.bool (ze9_0 != zc_1))] rfl ?_))
          exact J10 ((ze9_0 != zc_1))
        refine g0 26 [(3,pt b1 0),(4,pt (b1+1) 0),(5,pt (b1+1+1) 0),(7,iw zL3_7),(47,bF)] [gz,gz,gz,gz,gz,gz] rfl (Ok.segEnd rfl (Ok.restr [3,4,5,7,47] [(3,pt b1 0),(4,pt (b1+1) 0),(5,pt (b1+1+1) 0),(7,iw zL3_7),(47,bF)] rfl ?_))
        exact J10 (false)
      refine g0 26 [(3,pt b1 0),(4,pt (b1+1) 0),(5,pt (b1+1+1) 0),(7,iw zL3_7),(47,bF)] [gz,gz,gz,gz,gz,gz,gz,gz,gz,gz,gz,gz,gz] rfl (Ok.segEnd rfl (Ok.restr [3,4,5,7,47] [(3,pt b1 0),(4,pt (b1+1) 0),(5,pt (b1+1+1) 0),(7,iw zL3_7),(47,bF)] rfl ?_))
      exact J10 (false)
    have h17 := ne_of_beq_false h17
    refine g0 26 [(3,pt b1 0),(4,pt (b1+1) 0),(5,pt (b1+1+1) 0),(7,iw zL3_7),(47,bF)] [gz,gz,gz,gz,gz,gz,gz,gz,gz,gz,gz,gz,gz,gz,gz,gz,gz,gz,gz,gz] rfl (Ok.segEnd rfl (Ok.restr [3,4,5,7,47] [(3,pt b1 0),(4,pt (b1+1) 0),(5,pt (b1+1+1) 0),(7,iw zL3_7),(47,bF)] rfl ?_))
    exact J10 (false)
  have h7 := of_decide_eq_false h7
  refine Ok.exit_ (Ok.thenE (Ok.thenE (Ok.blkE (Ok.thenN (sr (g0 2 [(49,.string sb_1)] [gz,.g [.K 1 1]] rfl (ef 3 rfl (ca (some 50) (c121 H4 sb_1 tb_1) ?_))))))))
  rintro v27 H28 k30 le29 ⟨bra_0y31,rfl⟩
  refine g0 4 [(9,.bool bra_0y31)] [gz] rfl (en rfl (sr (g0 3 [(6,.bool (!bra_0y31))] [gz,gz,gz] rfl (en rfl (Ok.ret_ (Ok.dropAll ?_))))))
  exact Ok.ret1 (v := .bool (!bra_0y31)) (tr le5 le29) rfl rfl ⟨(!bra_0y31),rfl⟩
theorem c117 (H : Snap) (Aa_0 : Option Addr) (na_0 : Nat) (ca_0 : Nat) (za_1 : Int) (zb_0 : Int) (sb_1 : ByteArray) (zb_2 : Int) (zb_3 : Int) (ha_0 : WfS H el41 Aa_0 na_0) (tb_1 : sb_1.size < 9223372036854775808) (hq0 : na_0 ≤ 1000) : Does Tryz.prog 117 [.agg #[.slice Aa_0 na_0 ca_0,iw za_1],.agg #[iw zb_0,.string sb_1,iw zb_2,iw zb_3]] H [] (fun v H' kp => ∃ (Ara_0 : Option Addr) (nra_0 : Nat) (cra_0 : Nat) (zra_1 : Int),v = .agg #[.slice Ara_0 nra_0 cra_0,iw zra_1] ∧ WfS H' el41 Ara_0 nra_0 ∧ nra_0 ≤ na_0 + 1) := by
  have lha_0 := ha_0.1
  refine Does.of Tryz.func117 rfl rfl rfl rfl (fun w0 H0 kx => ?_)
  refine sr (g4 3 (fun b1 => [(2,pt b1 0),(3,pt (b1+1) 0),(4,pt (b1+1+1) 0)]) (fun b1 => [.blk b1 [.slice Aa_0 na_0 ca_0,iw za_1] 34,.blk (b1+1) [iw zb_0,.string sb_1,iw zb_2,iw zb_3] 41,.blk (b1+1+1) [n0,iw 0] 34]) [.g [.N],.g [.N],.g [.N]] rfl (fun b1 => (en rfl ?_)))
  refine sr (g1 4 [(2,pt b1 0),(3,pt (b1+1) 0),(4,pt (b1+1+1) 0)] [.blk b1 [.slice Aa_0 na_0 ca_0,iw za_1] 34,.blk (b1+1) [iw za_1,.string sb_1,iw zb_2,iw zb_3] 41,.blk (b1+1+1) [n0,iw 0] 34] [gz,.g [.K 0 1],gz,.g [.K 1 0]] rfl (en rfl (Ok.seq (st [0,1,2] [] 10 (tk 5 [(0,gz),(1,.g [.K 0 1]),(2,gz),(4,gz),(5,.g [.K 0 0])] [(3,pt (b1+1) 0),(4,pt (b1+1+1) 0),(11,iw (w64 (za_1 + 1))),(14,.slice Aa_0 na_0 ca_0)] rfl (o2 3 8 4 rfl ?_ ?_))))))
  · refine (e4 (.g [.N]) (fun b3 => [(3,pt (b1+1) 0),(4,pt (b1+1+1) 0),(11,iw (w64 (za_1 + 1))),(12,sl b3 0 0 0),(14,.slice Aa_0 na_0 ca_0)]) (fun b3 => [.blk b1 [.slice Aa_0 na_0 ca_0,iw za_1] 34,.blk (b1+1) [iw za_1,.string sb_1,iw zb_2,iw zb_3] 41,.blk (b1+1+1) [n0,iw 0] 34,.blk b3 [] 41]) (fun b3 => ?_))
    refine ws [0,1,2] (SLe.refl _) ?_
    refine o2 6 8 3 rfl ?_ ?_
    · refine Eff.blkRow (b := b3) (t := 41) (cs := []) 3 (n := 0) (cap := 0) (sz := 4) rfl rfl rfl rfl [] rfl ?_
      refine (Eff.appendS (el := el41) (t := 32) (d := some 15) (A := Aa_0) (m := na_0) (c := ca_0) 3 rfl (by kernel_rfl) 100000000 (by kernel_rfl) (by omega) rfl rfl ha_0 (Elems.nil el41) (fun A4 cap5 x6 E7 => ?_))
      refine ws [0,1,2] (SLe.refl _) ?_
      refine tk 2 [(7,gz)] [(3,pt (b1+1) 0),(4,pt (b1+1+1) 0),(16,.agg #[.slice A4 ((0 + na_0)) cap5,iw (w64 (za_1 + 1))])] rfl ?_
      refine on 8 1 rfl (e4 (.g [.N]) (fun b8 => [(3,pt (b1+1) 0),(4,pt (b1+1+1) 0),(5,pt b8 0),(16,.agg #[.slice A4 ((0 + na_0)) cap5,iw (w64 (za_1 + 1))])]) (fun b8 => [.blk b1 [.slice Aa_0 na_0 ca_0,iw za_1] 34,.blk (b1+1) [iw za_1,.string sb_1,iw zb_2,iw zb_3] 41,.blk (b1+1+1) [n0,iw 0] 34,.row (.slice A4 ((0 + na_0)) cap5) ((0 + na_0)) 4 41 x6,.blk b8 [n0,iw 0] 34]) (fun b8 => ?_))
      refine ws [0,1,2] (SLe.refl _) ?_
      refine on 9 0 rfl (e1 (.g [.K 4 0,.K 4 1]) [(3,pt (b1+1) 0),(4,pt (b1+1+1) 0),(5,pt b8 0)] [.blk b1 [.slice Aa_0 na_0 ca_0,iw za_1] 34,.blk (b1+1) [iw za_1,.string sb_1,iw zb_2,iw zb_3] 41,.blk (b1+1+1) [n0,iw 0] 34,.row (.slice A4 ((0 + na_0)) cap5) ((0 + na_0)) 4 41 x6,.blk b8 [.slice A4 ((0 + na_0)) cap5,iw (w64 (za_1 + 1))] 34] ?_)
      refine ws [0,1,2] (SLe.refl _) ?_
      refine dn (sr (g4 4 (fun b10 => [(4,pt (b1+1+1) 0),(5,pt b8 0),(18,.slice A4 ((0 + na_0)) cap5),(20,sl b10 0 1 1)]) (fun b10 => [.blk b1 [.slice Aa_0 na_0 ca_0,iw za_1] 34,.blk (b1+1) [iw za_1,.string sb_1,iw zb_2,iw zb_3] 41,.blk (b1+1+1) [n0,iw 0] 34,.row (.slice A4 ((0 + na_0)) cap5) ((0 + na_0)) 4 41 x6,.blk b8 [.slice A4 ((0 + na_0)) cap5,iw (w64 (za_1 + 1))] 34,.blk b10 [iw za_1,.string sb_1,iw zb_2,iw zb_3] 41]) [gz,.g [.K 4 0],.g [.K 1 0,.K 1 1,.K 1 2,.K 1 3],.g [.N]] rfl (fun b10 => (Ok.mask [false,false,true,true,true,true] [.blk (b1+1+1) [n0,iw 0] 34,.row (.slice A4 ((0 + na_0)) cap5) ((0 + na_0)) 4 41 x6,.blk b8 [.slice A4 ((0 + na_0)) cap5,iw (w64 (za_1 + 1))] 34,.blk b10 [iw za_1,.string sb_1,iw zb_2,iw zb_3] 41] rfl ?_))))
      refine ef 5 rfl (Eff.appendN (t := 32) (d := some 21) (ad := ⟨b10,0,none⟩) (m := 1) (c := 1) 1 rfl (by kernel_rfl) 100000000 (by kernel_rfl) (by omega) rfl [iw za_1,.string sb_1,iw zb_2,iw zb_3] (reads_blk (cs := [iw za_1,.string sb_1,iw zb_2,iw zb_3]) 3 rfl 0 4) rfl rfl (by omega) (fun g11 cap12 => ?_))
      have E14 : Elems H el41 ((0 + na_0) + 1) (x6 ++ [iw za_1,.string sb_1,iw zb_2,iw zb_3]) := (Elems.snoc E7 (mkl_cons (mkv_int _ _) (mkl_cons (mkv_str _ tb_1) (mkl_cons (mkv_int _ _) (mkl_cons (mkv_int _ _) mkl_nil)))))
      generalize (x6 ++ [iw za_1,.string sb_1,iw zb_2,iw zb_3]) = x13 at E14 ⊢
      refine g1 7 [(4,pt (b1+1+1) 0),(5,pt b8 0)] [.blk (b1+1+1) [n0,iw 0] 34,.row (.slice ((some ⟨g11,0,none⟩)) (((0 + na_0) + 1)) cap12) (((0 + na_0) + 1)) 4 41 x13,.blk b8 [.slice ((some ⟨g11,0,none⟩)) (((0 + na_0) + 1)) cap12,iw (w64 (za_1 + 1))] 34,.blk b10 [iw za_1,.string sb_1,iw zb_2,iw zb_3] 41] [gz,.g [.K 2 0]] rfl (en rfl (sr (g1 2 [(4,pt (b1+1+1) 0)] [.blk (b1+1+1) [.slice ((some ⟨g11,0,none⟩)) (((0 + na_0) + 1)) cap12,iw (w64 (za_1 + 1))] 34,.row (.slice ((some ⟨g11,0,none⟩)) (((0 + na_0) + 1)) cap12) (((0 + na_0) + 1)) 4 41 x13,.blk b8 [.slice ((some ⟨g11,0,none⟩)) (((0 + na_0) + 1)) cap12,iw (w64 (za_1 + 1))] 34,.blk b10 [iw za_1,.string sb_1,iw zb_2,iw zb_3] 41] [.g [.K 2 0,.K 2 1],.g [.K 0 0,.K 0 1]] rfl (Ok.mask [true,true,false,false] [.blk (b1+1+1) [.slice ((some ⟨g11,0,none⟩)) (((0 + na_0) + 1)) cap12,iw (w64 (za_1 + 1))] 34,.row (.slice ((some ⟨g11,0,none⟩)) (((0 + na_0) + 1)) cap12) (((0 + na_0) + 1)) 4 41 x13] rfl (en rfl (Ok.ret_ (Ok.pubS 1 rfl E14 (by omega) [.blk (b1+1+1) [.slice ((some ⟨g11,0,none⟩)) (((0 + na_0) + 1)) cap12,iw (w64 (za_1 + 1))] 34] rfl ?_)))))))
      intro H18 le19 f20
      exact Ok.ret1c le19 [.K 0 0,.K 0 1] (.agg #[.slice ((some ⟨g11,0,none⟩)) (((0 + na_0) + 1)) cap12,iw (w64 (za_1 + 1))]) [b1+1+1,b1+1+1] rfl (by kernel_rfl) ⟨((some ⟨g11,0,none⟩)),((0 + na_0) + 1),cap12,(w64 (za_1 + 1)),rfl,f20,(by omega)⟩
    refine (e4 (.g [.N]) (fun b21 => [(3,pt (b1+1) 0),(4,pt (b1+1+1) 0),(5,pt b21 0),(11,iw (w64 (za_1 + 1))),(12,sl b3 0 0 0),(14,.slice Aa_0 na_0 ca_0)]) (fun b21 => [.blk b1 [.slice Aa_0 na_0 ca_0,iw za_1] 34,.blk (b1+1) [iw za_1,.string sb_1,iw zb_2,iw zb_3] 41,.blk (b1+1+1) [n0,iw 0] 34,.blk b3 [] 41,.blk b21 [n0,iw 0] 34]) (fun b21 => ?_))
    refine ws [0,1,2] (SLe.refl _) ?_
    refine Ok.blkRow (b := b3) (t := 41) (cs := []) 3 (n := 0) (cap := 0) (sz := 4) rfl rfl rfl rfl [] rfl ?_
    refine on 6 2 rfl (Eff.appendS (el := el41) (t := 32) (d := some 15) (A := Aa_0) (m := na_0) (c := ca_0) 3 rfl (by kernel_rfl) 100000000 (by kernel_rfl) (by omega) rfl rfl ha_0 (Elems.nil el41) (fun A22 cap23 x24 E25 => ?_))
    refine ws [0,1,2] (SLe.refl _) ?_
    refine tk 1 [(7,gz)] [(3,pt (b1+1) 0),(4,pt (b1+1+1) 0),(5,pt b21 0),(16,.agg #[.slice A22 ((0 + na_0)) cap23,iw (w64 (za_1 + 1))])] rfl ?_
    refine on 9 0 rfl (e1 (.g [.K 4 0,.K 4 1]) [(3,pt (b1+1) 0),(4,pt (b1+1+1) 0),(5,pt b21 0)] [.blk b1 [.slice Aa_0 na_0 ca_0,iw za_1] 34,.blk (b1+1) [iw za_1,.string sb_1,iw zb_2,iw zb_3] 41,.blk (b1+1+1) [n0,iw 0] 34,.row (.slice A22 ((0 + na_0)) cap23) ((0 + na_0)) 4 41 x24,.blk b21 [.slice A22 ((0 + na_0)) cap23,iw (w64 (za_1 + 1))] 34] ?_)
    refine ws [0,1,2] (SLe.refl _) ?_
    refine dn (sr (g4 4 (fun b27 => [(4,pt (b1+1+1) 0),(5,pt b21 0),(18,.slice A22 ((0 + na_0)) cap23),(20,sl b27 0 1 1)]) (fun b27 => [.blk b1 [.slice Aa_0 na_0 ca_0,iw za_1] 34,.blk (b1+1) [iw za_1,.string sb_1,iw zb_2,iw zb_3] 41,.blk (b1+1+1) [n0,iw 0] 34,.row (.slice A22 ((0 + na_0)) cap23) ((0 + na_0)) 4 41 x24,.blk b21 [.slice A22 ((0 + na_0)) cap23,iw (w64 (za_1 + 1))] 34,.blk b27 [iw za_1,.string sb_1,iw zb_2,iw zb_3] 41]) [gz,.g [.K 4 0],.g [.K 1 0,.K 1 1,.K 1 2,.K 1 3],.g [.N]] rfl (fun b27 => (Ok.mask [false,false,true,true,true,true] [.blk (b1+1+1) [n0,iw 0] 34,.row (.slice A22 ((0 + na_0)) cap23) ((0 + na_0)) 4 41 x24,.blk b21 [.slice A22 ((0 + na_0)) cap23,iw (w64 (za_1 + 1))] 34,.blk b27 [iw za_1,.string sb_1,iw zb_2,iw zb_3] 41] rfl ?_))))
    refine ef 5 rfl (Eff.appendN (t := 32) (d := some 21) (ad := ⟨b27,0,none⟩) (m := 1) (c := 1) 1 rfl (by kernel_rfl) 100000000 (by kernel_rfl) (by omega) rfl [iw za_1,.string sb_1,iw zb_2,iw zb_3] (reads_blk (cs := [iw za_1,.string sb_1,iw zb_2,iw zb_3]) 3 rfl 0 4) rfl rfl (by omega) (fun g28 cap29 => ?_))
    have E31 : Elems H el41 ((0 + na_0) + 1) (x24 ++ [iw za_1,.string sb_1,iw zb_2,iw zb_3]) := (Elems.snoc E25 (mkl_cons (mkv_int _ _) (mkl_cons (mkv_str _ tb_1) (mkl_cons (mkv_int _ _) (mkl_cons (mkv_int _ _) mkl_nil)))))
    generalize (x24 ++ [iw za_1,.string sb_1,iw zb_2,iw zb_3]) = x30 at E31 ⊢
    refine g1 7 [(4,pt (b1+1+1) 0),(5,pt b21 0)] [.blk (b1+1+1) [n0,iw 0] 34,.row (.slice ((some ⟨g28,0,none⟩)) (((0 + na_0) + 1)) cap29) (((0 + na_0) + 1)) 4 41 x30,.blk b21 [.slice ((some ⟨g28,0,none⟩)) (((0 + na_0) + 1)) cap29,iw (w64 (za_1 + 1))] 34,.blk b27 [iw za_1,.string sb_1,iw zb_2,iw zb_3] 41] [gz,.g [.K 2 0]] rfl (en rfl (sr (g1 2 [(4,pt (b1+1+1) 0)] [.blk (b1+1+1) [.slice ((some ⟨g28,0,none⟩)) (((0 + na_0) + 1)) cap29,iw (w64 (za_1 + 1))] 34,.row (.slice ((some ⟨g28,0,none⟩)) (((0 + na_0) + 1)) cap29) (((0 + na_0) + 1)) 4 41 x30,.blk b21 [.slice ((some ⟨g28,0,none⟩)) (((0 + na_0) + 1)) cap29,iw (w64 (za_1 + 1))] 34,.blk b27 [iw za_1,.string sb_1,iw zb_2,iw zb_3] 41] [.g [.K 2 0,.K 2 1],.g [.K 0 0,.K 0 1]] rfl (Ok.mask [true,true,false,false] [.blk (b1+1+1) [.slice ((some ⟨g28,0,none⟩)) (((0 + na_0) + 1)) cap29,iw (w64 (za_1 + 1))] 34,.row (.slice ((some ⟨g28,0,none⟩)) (((0 + na_0) + 1)) cap29) (((0 + na_0) + 1)) 4 41 x30] rfl (en rfl (Ok.ret_ (Ok.pubS 1 rfl E31 (by omega) [.blk (b1+1+1) [.slice ((some ⟨g28,0,none⟩)) (((0 + na_0) + 1)) cap29,iw (w64 (za_1 + 1))] 34] rfl ?_)))))))
    intro H35 le36 f37
    exact Ok.ret1c le36 [.K 0 0,.K 0 1] (.agg #[.slice ((some ⟨g28,0,none⟩)) (((0 + na_0) + 1)) cap29,iw (w64 (za_1 + 1))]) [b1+1+1,b1+1+1] rfl (by kernel_rfl) ⟨((some ⟨g28,0,none⟩)),((0 + na_0) + 1),cap29,(w64 (za_1 + 1)),rfl,f37,(by omega)⟩
  refine (e4 (.g [.N]) (fun b38 => [(3,pt (b1+1) 0),(4,pt (b1+1+1) 0),(5,pt b38 0),(11,iw (w64 (za_1 + 1))),(14,.slice Aa_0 na_0 ca_0)]) (fun b38 => [.blk b1 [.slice Aa_0 na_0 ca_0,iw za_1] 34,.blk (b1+1) [iw za_1,.string sb_1,iw zb_2,iw zb_3] 41,.blk (b1+1+1) [n0,iw 0] 34,.blk b38 [n0,iw 0] 34]) (fun b38 => ?_))
  refine ws [0,1,2] (SLe.refl _) ?_
  refine on 3 3 rfl (e4 (.g [.N]) (fun b39 => [(3,pt (b1+1) 0),(4,pt (b1+1+1) 0),(5,pt b38 0),(11,iw (w64 (za_1 + 1))),(12,sl b39 0 0 0),(14,.slice Aa_0 na_0 ca_0)]) (fun b39 => [.blk b1 [.slice Aa_0 na_0 ca_0,iw za_1] 34,.blk (b1+1) [iw za_1,.string sb_1,iw zb_2,iw zb_3] 41,.blk (b1+1+1) [n0,iw 0] 34,.blk b38 [n0,iw 0] 34,.blk b39 [] 41]) (fun b39 => ?_))
  refine ws [0,1,2] (SLe.refl _) ?_
  refine Ok.blkRow (b := b39) (t := 41) (cs := []) 4 (n := 0) (cap := 0) (sz := 4) rfl rfl rfl rfl [] rfl ?_
  refine on 6 2 rfl (Eff.appendS (el := el41) (t := 32) (d := some 15) (A := Aa_0) (m := na_0) (c := ca_0) 4 rfl (by kernel_rfl) 100000000 (by kernel_rfl) (by omega) rfl rfl ha_0 (Elems.nil el41) (fun A40 cap41 x42 E43 => ?_))
  refine ws [0,1,2] (SLe.refl _) ?_
  refine tk 1 [(7,gz)] [(3,pt (b1+1) 0),(4,pt (b1+1+1) 0),(5,pt b38 0),(16,.agg #[.slice A40 ((0 + na_0)) cap41,iw (w64 (za_1 + 1))])] rfl ?_
  refine on 9 0 rfl (e1 (.g [.K 3 0,.K 3 1]) [(3,pt (b1+1) 0),(4,pt (b1+1+1) 0),(5,pt b38 0)] [.blk b1 [.slice Aa_0 na_0 ca_0,iw za_1] 34,.blk (b1+1) [iw za_1,.string sb_1,iw zb_2,iw zb_3] 41,.blk (b1+1+1) [n0,iw 0] 34,.blk b38 [.slice A40 ((0 + na_0)) cap41,iw (w64 (za_1 + 1))] 34,.row (.slice A40 ((0 + na_0)) cap41) ((0 + na_0)) 4 41 x42] ?_)
  refine ws [0,1,2] (SLe.refl _) ?_
  refine dn (sr (g4 4 (fun b45 => [(4,pt (b1+1+1) 0),(5,pt b38 0),(18,.slice A40 ((0 + na_0)) cap41),(20,sl b45 0 1 1)]) (fun b45 => [.blk b1 [.slice Aa_0 na_0 ca_0,iw za_1] 34,.blk (b1+1) [iw za_1,.string sb_1,iw zb_2,iw zb_3] 41,.blk (b1+1+1) [n0,iw 0] 34,.blk b38 [.slice A40 ((0 + na_0)) cap41,iw (w64 (za_1 + 1))] 34,.row (.slice A40 ((0 + na_0)) cap41) ((0 + na_0)) 4 41 x42,.blk b45 [iw za_1,.string sb_1,iw zb_2,iw zb_3] 41]) [gz,.g [.K 3 0],.g [.K 1 0,.K 1 1,.K 1 2,.K 1 3],.g [.N]] rfl (fun b45 => (Ok.mask [false,false,true,true,true,true] [.blk (b1+1+1) [n0,iw 0] 34,.blk b38 [.slice A40 ((0 + na_0)) cap41,iw (w64 (za_1 + 1))] 34,.row (.slice A40 ((0 + na_0)) cap41) ((0 + na_0)) 4 41 x42,.blk b45 [iw za_1,.string sb_1,iw zb_2,iw zb_3] 41] rfl ?_))))
  refine ef 5 rfl (Eff.appendN (t := 32) (d := some 21) (ad := ⟨b45,0,none⟩) (m := 1) (c := 1) 2 rfl (by kernel_rfl) 100000000 (by kernel_rfl) (by omega) rfl [iw za_1,.string sb_1,iw zb_2,iw zb_3] (reads_blk (cs := [iw za_1,.string sb_1,iw zb_2,iw zb_3]) 3 rfl 0 4) rfl rfl (by omega) (fun g46 cap47 => ?_))
  have E49 : Elems H el41 ((0 + na_0) + 1) (x42 ++ [iw za_1,.string sb_1,iw zb_2,iw zb_3]) := (Elems.snoc E43 (mkl_cons (mkv_int _ _) (mkl_cons (mkv_str _ tb_1) (mkl_cons (mkv_int _ _) (mkl_cons (mkv_int _ _) mkl_nil)))))
  generalize (x42 ++ [iw za_1,.string sb_1,iw zb_2,iw zb_3]) = x48 at E49 ⊢
  refine g1 7 [(4,pt (b1+1+1) 0),(5,pt b38 0)] [.blk (b1+1+1) [n0,iw 0] 34,.blk b38 [.slice ((some ⟨g46,0,none⟩)) (((0 + na_0) + 1)) cap47,iw (w64 (za_1 + 1))] 34,.row (.slice ((some ⟨g46,0,none⟩)) (((0 + na_0) + 1)) cap47) (((0 + na_0) + 1)) 4 41 x48,.blk b45 [iw za_1,.string sb_1,iw zb_2,iw zb_3] 41] [gz,.g [.K 1 0]] rfl (en rfl (sr (g1 2 [(4,pt (b1+1+1) 0)] [.blk (b1+1+1) [.slice ((some ⟨g46,0,none⟩)) (((0 + na_0) + 1)) cap47,iw (w64 (za_1 + 1))] 34,.blk b38 [.slice ((some ⟨g46,0,none⟩)) (((0 + na_0) + 1)) cap47,iw (w64 (za_1 + 1))] 34,.row (.slice ((some ⟨g46,0,none⟩)) (((0 + na_0) + 1)) cap47) (((0 + na_0) + 1)) 4 41 x48,.blk b45 [iw za_1,.string sb_1,iw zb_2,iw zb_3] 41] [.g [.K 1 0,.K 1 1],.g [.K 0 0,.K 0 1]] rfl (Ok.mask [true,false,true,false] [.blk (b1+1+1) [.slice ((some ⟨g46,0,none⟩)) (((0 + na_0) + 1)) cap47,iw (w64 (za_1 + 1))] 34,.row (.slice ((some ⟨g46,0,none⟩)) (((0 + na_0) + 1)) cap47) (((0 + na_0) + 1)) 4 41 x48] rfl (en rfl (Ok.ret_ (Ok.pubS 1 rfl E49 (by omega) [.blk (b1+1+1) [.slice ((some ⟨g46,0,none⟩)) (((0 + na_0) + 1)) cap47,iw (w64 (za_1 + 1))] 34] rfl ?_)))))))
  intro H53 le54 f55
  exact Ok.ret1c le54 [.K 0 0,.K 0 1] (.agg #[.slice ((some ⟨g46,0,none⟩)) (((0 + na_0) + 1)) cap47,iw (w64 (za_1 + 1))]) [b1+1+1,b1+1+1] rfl (by kernel_rfl) ⟨((some ⟨g46,0,none⟩)),((0 + na_0) + 1),cap47,(w64 (za_1 + 1)),rfl,f55,(by omega)⟩
theorem c80 (H : Snap) (Aa_0 : Option Addr) (na_0 : Nat) (ca_0 : Nat) (za_1 : Int) (zb_0 : Int) (zb_1 : Int) (zb_2 : Int) (sb_3 : ByteArray) (sb_4 : ByteArray) (zb_5 : Int) (zb_6 : Int) (sb_7 : ByteArray) (ha_0 : WfS H el41 Aa_0 na_0) (tb_3 : sb_3.size < 9223372036854775808) (tb_4 : sb_4.size < 9223372036854775808) (tb_7 : sb_7.size < 9223372036854775808) (hq0 : na_0 ≤ 900) : Does Tryz.prog 80 [.agg #[.slice Aa_0 na_0 ca_0,iw za_1],.agg #[iw zb_0,iw zb_1,iw zb_2,.string sb_3,.string sb_4,iw zb_5,iw zb_6,.string sb_7]] H [] (fun v H' kp => ∃ (Ara_0 : Option Addr) (nra_0 : Nat) (cra_0 : Nat) (zra_1 : Int) (zrb_0 : Int),v = .tuple #[.agg #[.slice Ara_0 nra_0 cra_0,iw zra_1],iw zrb_0] ∧ WfS H' el41 Ara_0 nra_0 ∧ nra_0 ≤ na_0 + 2) := by
  have lha_0 := ha_0.1
  refine Does.of Tryz.func80 rfl rfl rfl rfl (fun w0 H0 kx => ?_)
  refine sr (g4 4 (fun b1 => [(2,pt b1 0),(3,pt (b1+1) 0),(4,pt (b1+1+1) 0)]) (fun b1 => [.blk b1 [.slice Aa_0 na_0 ca_0,iw za_1] 34,.blk (b1+1) [iw zb_0,iw zb_1,iw zb_2,.string sb_3,.string sb_4,iw zb_5,iw zb_6,.string sb_7] 105,.blk (b1+1+1) [n0,iw 0] 34]) [.g [.N],.g [.N],.g [.N],gz] rfl (fun b1 => (en rfl ?_)))
  refine Ok.seq (Ok.seq (Ok.regJ (ι := Bool) (fun y3 => [(2,pt b1 0),(3,pt (b1+1) 0),(4,pt (b1+1+1) 0),(14,.bool y3)]) ?_ (fun J2 => ?_)))
  · rintro bJ2_14
    refine Ok.thenN (cd bJ2_14 (fun h4 => ?_) (fun h4 => ?_))
    · refine sr (g0 3 [(4,pt (b1+1+1) 0),(5,iw 7)] [gz,.g [.K 2 0,.K 2 1],gz] rfl (Ok.mask [false,false,true] [.blk (b1+1+1) [n0,iw 0] 34] rfl ?_))
      refine en rfl (Ok.ret_ (Ok.thenR ?_))
      exact Ok.ret2c (SLe.refl _) [.K 0 0,.K 0 1] (.agg #[n0,iw 0]) (iw 7) [b1+1+1,b1+1+1] rfl (by kernel_rfl) rfl ⟨none,0,0,0,7,rfl,(WfS.nil _ _),(by omega)⟩
    refine skn (Ok.seq (sr (g0 3 [(2,pt b1 0),(3,pt (b1+1) 0),(4,pt (b1+1+1) 0),(16,.agg #[.slice Aa_0 na_0 ca_0,iw za_1]),(18,iw zb_6)] [.g [.K 0 0,.K 0 1],gz,.g [.K 1 6]] rfl (ef 4 rfl (ca (some 19) (c87 H Aa_0 (na_0) (ca_0) za_1 zb_6 ha_0) ?_)))))
    rintro v7 H8 k10 le9 ⟨bra_0y11,rfl⟩
    refine g0 6 [(2,pt b1 0),(3,pt (b1+1) 0),(4,pt (b1+1+1) 0),(21,.bool (!bra_0y11))] [gz,gz] rfl (cs (!bra_0y11) [21] (fun h13 => ?_) (fun h13 => ?_))
    · refine g0 12 [(2,pt b1 0),(3,pt (b1+1) 0),(4,pt (b1+1+1) 0),(27,bT)] [gz,gz,gz,gz,gz,gz] rfl (en rfl (cT (sr (g0 3 [(4,pt (b1+1+1) 0),(5,iw 63)] [gz,.g [.K 2 0,.K 2 1],gz] rfl (Ok.mask [false,false,true] [.blk (b1+1+1) [n0,iw 0] 34] rfl (en rfl (Ok.ret_ (Ok.thenR ?_))))))))
      exact Ok.ret2c le9 [.K 0 0,.K 0 1] (.agg #[n0,iw 0]) (iw 63) [b1+1+1,b1+1+1] rfl (by kernel_rfl) rfl ⟨none,0,0,0,63,rfl,(WfS.nil _ _),(by omega)⟩
    refine g0 9 [(2,pt b1 0),(3,pt (b1+1) 0),(4,pt (b1+1+1) 0),(21,bF),(22,.agg #[.slice Aa_0 na_0 ca_0,iw za_1]),(24,iw zb_6)] [.g [.K 0 0,.K 0 1],gz,.g [.K 1 6]] rfl (ef 10 rfl (ca (some 25) (c115 H8 Aa_0 (na_0) (ca_0) za_1 zb_6 (WfS.mono le9 ha_0)) ?_))
    rintro v17 H18 k20 le19 ⟨zra_0y21,rfl⟩
    refine g0 12 [(2,pt b1 0),(3,pt (b1+1) 0),(4,pt (b1+1+1) 0),(27,.bool (decide (zra_0y21 ≥ 8)))] [gz,gz] rfl (en rfl (cd (decide (zra_0y21 ≥ 8)) (fun h23 => ?_) (fun h23 => ?_)))
    · have h23 := of_decide_eq_true h23
      refine sr (g0 3 [(4,pt (b1+1+1) 0),(5,iw 63)] [gz,.g [.K 2 0,.K 2 1],gz] rfl (Ok.mask [false,false,true] [.blk (b1+1+1) [n0,iw 0] 34] rfl ?_))
      refine en rfl (Ok.ret_ (Ok.thenR ?_))
      exact Ok.ret2c (tr le9 le19) [.K 0 0,.K 0 1] (.agg #[n0,iw 0]) (iw 63) [b1+1+1,b1+1+1] rfl (by kernel_rfl) rfl ⟨none,0,0,0,63,rfl,(WfS.nil _ _),(by omega)⟩
    have h23 := of_decide_eq_false h23
    refine skn (sr (g4 9 (fun b25 => [(2,pt b1 0),(4,pt (b1+1+1) 0),(6,pt b25 0)]) (fun b25 => [.blk b1 [.slice Aa_0 na_0 ca_0,iw za_1] 34,.blk (b1+1) [iw zb_0,iw zb_1,iw zb_2,.string sb_3,.string sb_4,iw zb_5,iw zb_6,.string sb_7] 105,.blk (b1+1+1) [n0,iw 0] 34,.blk b25 [iw 0,.string sb_3,iw zb_5,iw zb_6] 41]) [gz,.g [.K 1 3],gz,.g [.K 1 5],gz,.g [.K 1 6],gz,.g [.N],.g [.K 3 0,.K 3 1,.K 3 2,.K 3 3]] rfl (fun b25 => (en rfl ?_))))
    refine Ok.seq (sr (g0 3 [(2,pt b1 0),(4,pt (b1+1+1) 0),(6,pt b25 0),(36,.agg #[.slice Aa_0 na_0 ca_0,iw za_1]),(37,.agg #[iw 0,.string sb_3,iw zb_5,iw zb_6]),(38,.agg #[iw 0,iw 0])] [.g [.K 0 0,.K 0 1],.g [.K 3 0,.K 3 1,.K 3 2,.K 3 3],gz] rfl (ef 4 rfl (ca (some 39) (c116 H18 Aa_0 (na_0) (ca_0) za_1 0 sb_3 zb_5 zb_6 0 0 (WfS.mono (tr le9 le19) ha_0) tb_3) ?_))))
    rintro v27 H28 k30 le29 ⟨bra_0y31,rfl⟩
    refine en rfl (cd bra_0y31 (fun h33 => ?_) (fun h33 => ?_))
    · refine sr (g0 3 [(4,pt (b1+1+1) 0),(5,iw 60)] [gz,.g [.K 2 0,.K 2 1],gz] rfl (Ok.mask [false,false,true,false] [.blk (b1+1+1) [n0,iw 0] 34] rfl ?_))
      refine en rfl (Ok.ret_ (Ok.thenR ?_))
      exact Ok.ret2c (tr le9 (tr le19 le29)) [.K 0 0,.K 0 1] (.agg #[n0,iw 0]) (iw 60) [b1+1+1,b1+1+1] rfl (by kernel_rfl) rfl ⟨none,0,0,0,60,rfl,(WfS.nil _ _),(by omega)⟩
    refine skn (Ok.seq (Ok.seq (Ok.regJ (ι := Bool) (fun y36 => [(2,pt b1 0),(4,pt (b1+1+1) 0),(6,pt b25 0),(49,.bool y36)]) ?_ (fun J35 => ?_))))
    · rintro bJ35_49
      refine Ok.thenN (cd bJ35_49 (fun h37 => ?_) (fun h37 => ?_))
      · refine sr (g0 3 [(4,pt (b1+1+1) 0),(5,iw 2)] [gz,.g [.K 2 0,.K 2 1],gz] rfl (Ok.mask [false,false,true,false] [.blk (b1+1+1) [n0,iw 0] 34] rfl ?_))
        refine en rfl (Ok.ret_ (Ok.thenR ?_))
        exact Ok.ret2c (tr le9 (tr le19 le29)) [.K 0 0,.K 0 1] (.agg #[n0,iw 0]) (iw 2) [b1+1+1,b1+1+1] rfl (by kernel_rfl) rfl ⟨none,0,0,0,2,rfl,(WfS.nil _ _),(by omega)⟩
      refine skn (sr (g0 2 [(4,pt (b1+1+1) 0),(51,.agg #[.slice Aa_0 na_0 ca_0,iw za_1]),(52,.agg #[iw 0,.string sb_3,iw zb_5,iw zb_6])] [.g [.K 0 0,.K 0 1],.g [.K 3 0,.K 3 1,.K 3 2,.K 3 3]] rfl (Ok.mask [false,false,true,false] [.blk (b1+1+1) [n0,iw 0] 34] rfl ?_)))
      refine ef 3 rfl (ca (some 53) (c117 H28 Aa_0 (na_0) (ca_0) za_1 0 sb_3 zb_5 zb_6 (WfS.mono (tr le9 (tr le19 le29)) ha_0) tb_3 (by omega)) ?_)
      rintro v40 H41 k43 le42 ⟨Ara_0y44,nra_0y44,cra_0y44,zra_1y44,rfl,hra_0y44,py44_0⟩
      have lhra_0y44 := hra_0y44.1
      refine g1 5 [(4,pt (b1+1+1) 0),(5,iw 0)] [.blk (b1+1+1) [.slice Ara_0y44 nra_0y44 cra_0y44,iw zra_1y44] 34] [.g [.K 0 0,.K 0 1],gz] rfl (en rfl (Ok.ret_ ?_))
      exact Ok.ret2c (tr le9 (tr le19 (tr le29 le42))) [.K 0 0,.K 0 1] (.agg #[.slice Ara_0y44 nra_0y44 cra_0y44,iw zra_1y44]) (iw 0) [b1+1+1,b1+1+1] rfl (by kernel_rfl) rfl ⟨Ara_0y44,nra_0y44,cra_0y44,zra_1y44,0,rfl,hra_0y44,(by omega)⟩
    refine g0 5 [(2,pt b1 0),(4,pt (b1+1+1) 0),(6,pt b25 0),(45,.bool (decide (((na_0 : Nat) : Int) ≥ 64)))] [gz,.g [.K 0 0],gz,gz,gz] rfl (cs (decide (((na_0 : Nat) : Int) ≥ 64)) [45] (fun h47 => ?_) (fun h47 => ?_))
    · have h47 := of_decide_eq_true h47
      refine g0 9 [(2,pt b1 0),(4,pt (b1+1+1) 0),(6,pt b25 0),(49,bT)] [gz,gz,gz,gz] rfl (Ok.segEnd rfl (Ok.restr [2,4,6,49] [(2,pt b1 0),(4,pt (b1+1+1) 0),(6,pt b25 0),(49,bT)] rfl ?_))
      exact J35 (true)
    have h47 := of_decide_eq_false h47
    refine g0 9 [(2,pt b1 0),(4,pt (b1+1+1) 0),(6,pt b25 0),(49,.bool (decide (za_1 ≥ 1073741824)))] [gz,.g [.K 0 1],gz,gz] rfl (Ok.segEnd rfl (Ok.restr [2,4,6,49] [(2,pt b1 0),(4,pt (b1+1+1) 0),(6,pt b25 0),(49,.bool (decide (za_1 ≥ 1073741824)))] rfl ?_))
    exact J35 ((decide (za_1 ≥ 1073741824)))
  refine g0 4 [(2,pt b1 0),(3,pt (b1+1) 0),(4,pt (b1+1+1) 0),(10,.bool (decide (zb_5 < 1)))] [gz,.g [.K 1 5],gz,gz] rfl (cs (decide (zb_5 < 1)) [10] (fun h51 => ?_) (fun h51 => ?_))
  · have h51 := of_decide_eq_true h51
    refine g0 8 [(2,pt b1 0),(3,pt (b1+1) 0),(4,pt (b1+1+1) 0),(14,bT)] [gz,gz,gz,gz] rfl (Ok.segEnd rfl (Ok.restr [2,3,4,14] [(2,pt b1 0),(3,pt (b1+1) 0),(4,pt (b1+1+1) 0),(14,bT)] rfl ?_))
    exact J2 (true)
  have h51 := of_decide_eq_false h51
  refine g0 8 [(2,pt b1 0),(3,pt (b1+1) 0),(4,pt (b1+1+1) 0),(14,.bool (decide (zb_5 > 6)))] [gz,.g [.K 1 5],gz,gz] rfl (Ok.segEnd rfl (Ok.restr [2,3,4,14] [(2,pt b1 0),(3,pt (b1+1) 0),(4,pt (b1+1+1) 0),(14,.bool (decide (zb_5 > 6)))] rfl ?_))
  exact J2 ((decide (zb_5 > 6)))
theorem c118 (H : Snap) (Aa_0 : Option Addr) (na_0 : Nat) (ca_0 : Nat) (za_1 : Int) (zb_0 : Int) (zb_1 : Int) (ha_0 : WfS H el41 Aa_0 na_0) (hq0 : na_0 ≤ 1000) : Does Tryz.prog 118 [.agg #[.slice Aa_0 na_0 ca_0,iw za_1],.agg #[iw zb_0,iw zb_1]] H [] (fun v H' kp => ∃ (Ara_0 : Option Addr) (nra_0 : Nat) (cra_0 : Nat) (zra_1 : Int),v = .agg #[.slice Ara_0 nra_0 cra_0,iw zra_1] ∧ WfS H' el41 Ara_0 nra_0 ∧ nra_0 ≤ na_0) := by
  have lha_0 := ha_0.1
  refine Does.of Tryz.func118 rfl rfl rfl rfl (fun w0 H0 kx => ?_)
  refine sr (g4 3 (fun b1 => [(2,pt b1 0),(3,pt (b1+1) 0),(4,pt (b1+1+1) 0)]) (fun b1 => [.blk b1 [.slice Aa_0 na_0 ca_0,iw za_1] 34,.blk (b1+1) [iw zb_0,iw zb_1] 159,.blk (b1+1+1) [n0,iw 0] 34]) [.g [.N],.g [.N],.g [.N]] rfl (fun b1 => (en rfl ?_)))
  refine sr (g4 5 (fun b2 => [(2,pt b1 0),(3,pt (b1+1) 0),(4,pt (b1+1+1) 0),(5,pt b2 0)]) (fun b2 => [.blk b1 [.slice Aa_0 na_0 ca_0,iw za_1] 34,.blk (b1+1) [iw zb_0,iw zb_1] 159,.blk (b1+1+1) [n0,iw 0] 34,.blk b2 [n0,iw za_1] 34]) [gz,.g [.K 0 1],gz,.g [.N],.g [.K 3 0,.K 3 1]] rfl (fun b2 => (en rfl ?_)))
  refine Ok.seq (sr (g0 1 [(2,pt b1 0),(3,pt (b1+1) 0),(4,pt (b1+1+1) 0),(5,pt b2 0),(6,iw 0)] [gz] rfl (en rfl (Ok.blk (Ok.nilRow 4 41 (Ok.restr [2,3,4,5,6] [(2,pt b1 0),(3,pt (b1+1) 0),(4,pt (b1+1+1) 0),(5,pt b2 0),(6,iw 0)] rfl (Ok.loop (fun H' fr kb m => ∃ (zL4_6 : Int) (AL4r4 : Option Addr) (nL4r4 : Nat) (cL4r4 : Nat) (xL4r4 : List Value),fr = [(2,pt b1 0),(3,pt (b1+1) 0),(4,pt (b1+1+1) 0),(5,pt b2 0),(6,iw zL4_6)] ∧ kb = [.blk b1 [.slice Aa_0 na_0 ca_0,iw za_1] 34,.blk (b1+1) [iw zb_0,iw zb_1] 159,.blk (b1+1+1) [n0,iw 0] 34,.blk b2 [.slice AL4r4 nL4r4 cL4r4,iw za_1] 34,.row (.slice AL4r4 nL4r4 cL4r4) nL4r4 4 41 xL4r4] ∧ m = ((((na_0 : Nat) : Int)) - zL4_6).toNat ∧ SLe H H' ∧ 0 ≤ zL4_6 ∧ zL4_6 ≤ ((na_0 : Nat) : Int) ∧ ((nL4r4 : Nat) : Int) ≤ zL4_6 ∧ Elems H' el41 nL4r4 xL4r4) _ ⟨0,none,0,0,[],rfl,rfl,rfl,SLe.refl _,by decide,by omega,by omega,(Elems.nil el41)⟩ ?_)))))))
  rintro H5 _ _ mL4 ⟨zL4_6,AL4r4,nL4r4,cL4r4,xL4r4,rfl,rfl,hmL4,le6,fL4_0,fL4_1,fL4_2,EL4r4⟩
  refine Ok.seq (sr (g0 5 [(2,pt b1 0),(3,pt (b1+1) 0),(4,pt (b1+1+1) 0),(5,pt b2 0),(6,iw zL4_6),(14,.bool (decide (zL4_6 < ((na_0 : Nat) : Int))))] [gz,gz,.g [.K 0 0],gz,gz] rfl (en rfl (cd (decide (zL4_6 < ((na_0 : Nat) : Int))) (fun h8 => ?_) (fun h8 => ?_)))))
  · have h8 := of_decide_eq_true h8
    refine skn (Ok.seq (Ok.blk (Ok.seq (st [0,1,2,3,4] [] 20 ?_))))
    have ie9 : 0 ≤ zL4_6 ∧ zL4_6 < ((na_0 : Nat) : Int) := by omega
    obtain ⟨je9,cse9,we9,he9⟩ := (WfS.mono le6 ha_0).at_ zL4_6 ie9.1 ie9.2
    obtain ⟨ue9_0,le9_0,rfl,ve9_0,we9_0⟩ := wfl_cons we9
    obtain ⟨ze9_0,rfl⟩ := wfv_int ve9_0
    obtain ⟨ue9_1,le9_1,rfl,ve9_1,we9_1⟩ := wfl_cons we9_0
    obtain ⟨se9_1,rfl,te9_1⟩ := wfv_str ve9_1
    obtain ⟨ue9_2,le9_2,rfl,ve9_2,we9_2⟩ := wfl_cons we9_1
    obtain ⟨ze9_2,rfl⟩ := wfv_int ve9_2
    obtain ⟨ue9_3,le9_3,rfl,ve9_3,we9_3⟩ := wfl_cons we9_2
    obtain ⟨ze9_3,rfl⟩ := wfv_int ve9_3
    obtain rfl := wfl_nil we9_3
    refine tx 10 [(0,gz),(1,.g [.K 0 0]),(2,gz),(3,.ix),(4,gz),(5,.g [.X (iw ze9_0)]),(6,gz),(7,.g [.K 1 0]),(8,gz),(9,gz)] [(2,pt b1 0),(3,pt (b1+1) 0),(4,pt (b1+1+1) 0),(5,pt b2 0),(6,iw zL4_6),(26,.bool (ze9_0 != zb_0))] (ex1 (And.intro je9 ie9) (ex1 (cell0 (he9 0 _ rfl)) ex0)) rfl ?_
    refine cs (ze9_0 != zb_0) [26] (fun h10 => ?_) (fun h10 => ?_)
    · refine tx 0 [(10,gz),(11,.g [.K 0 0]),(12,gz),(13,.ix),(14,gz),(15,.g [.X (iw ze9_0)]),(16,gz),(17,.g [.K 1 1]),(18,gz),(19,gz)] [(2,pt b1 0),(3,pt (b1+1) 0),(4,pt (b1+1+1) 0),(5,pt b2 0),(6,iw zL4_6),(36,.bool (ze9_0 != zb_1))] (ex1 (And.intro je9 ie9) (ex1 (cell0 (he9 0 _ rfl)) ex0)) rfl ?_
      refine dn (cd (ze9_0 != zb_1) (fun h11 => ?_) (fun h11 => ?_))
      · refine st [0,1,2,3] [10] 11 ?_
        refine tx 4 [(0,gz),(1,.g [.K 3 0]),(2,gz),(3,.g [.K 0 0]),(4,gz),(5,.ix),(6,.g [.X (iw ze9_0),.X (.string se9_1),.X (iw ze9_2),.X (iw ze9_3)])] [(2,pt b1 0),(3,pt (b1+1) 0),(4,pt (b1+1+1) 0),(5,pt b2 0),(6,iw zL4_6),(38,.slice AL4r4 nL4r4 cL4r4),(43,.agg #[iw ze9_0,.string se9_1,iw ze9_2,iw ze9_3])] (ex1 (And.intro je9 ie9) (ex1 (cell0 (he9 0 _ rfl)) (ex1 (he9 (1) _ rfl) (ex1 (he9 (2) _ rfl) (ex1 (he9 (3) _ rfl) ex0))))) rfl ?_
        refine on 7 3 rfl (e4 (.g [.N]) (fun b12 => [(2,pt b1 0),(3,pt (b1+1) 0),(4,pt (b1+1+1) 0),(5,pt b2 0),(6,iw zL4_6),(38,.slice AL4r4 nL4r4 cL4r4),(44,sl b12 0 1 1)]) (fun b12 => [.blk b1 [.slice Aa_0 na_0 ca_0,iw za_1] 34,.blk (b1+1) [iw zb_0,iw zb_1] 159,.blk (b1+1+1) [n0,iw 0] 34,.blk b2 [.slice AL4r4 nL4r4 cL4r4,iw za_1] 34,.row (.slice AL4r4 nL4r4 cL4r4) nL4r4 4 41 xL4r4,.blk b12 [iw ze9_0,.string se9_1,iw ze9_2,iw ze9_3] 41]) (fun b12 => ?_))
        refine ws [0,1,2,3] (SLe.refl _) ?_
        refine on 8 2 rfl (Eff.appendN (t := 32) (d := some 45) (ad := ⟨b12,0,none⟩) (m := 1) (c := 1) 4 rfl (by kernel_rfl) 100000000 (by kernel_rfl) (by omega) rfl [iw ze9_0,.string se9_1,iw ze9_2,iw ze9_3] (reads_blk (cs := [iw ze9_0,.string se9_1,iw ze9_2,iw ze9_3]) 5 rfl 0 4) rfl rfl (by omega) (fun g13 cap14 => ?_))
        have E16 : Elems H5 el41 (nL4r4 + 1) (xL4r4 ++ [iw ze9_0,.string se9_1,iw ze9_2,iw ze9_3]) := (Elems.snoc EL4r4 (mkl_cons (mkv_int _ _) (mkl_cons (mkv_str _ te9_1) (mkl_cons (mkv_int _ _) (mkl_cons (mkv_int _ _) mkl_nil)))))
        generalize (xL4r4 ++ [iw ze9_0,.string se9_1,iw ze9_2,iw ze9_3]) = x15 at E16 ⊢
        refine ws [0,1,2,3] (SLe.refl _) ?_
        refine tk 1 [(9,gz)] [(2,pt b1 0),(3,pt (b1+1) 0),(4,pt (b1+1+1) 0),(5,pt b2 0),(6,iw zL4_6),(45,.slice ((some ⟨g13,0,none⟩)) ((nL4r4 + 1)) cap14),(46,pt b2 0)] rfl ?_
        refine Ok.toE (ol 10 0 rfl (e1 (.g [.K 3 0]) [(2,pt b1 0),(3,pt (b1+1) 0),(4,pt (b1+1+1) 0),(5,pt b2 0),(6,iw zL4_6)] [.blk b1 [.slice Aa_0 na_0 ca_0,iw za_1] 34,.blk (b1+1) [iw zb_0,iw zb_1] 159,.blk (b1+1+1) [n0,iw 0] 34,.blk b2 [.slice ((some ⟨g13,0,none⟩)) ((nL4r4 + 1)) cap14,iw za_1] 34,.row (.slice ((some ⟨g13,0,none⟩)) ((nL4r4 + 1)) cap14) ((nL4r4 + 1)) 4 41 x15,.blk b12 [iw ze9_0,.string se9_1,iw ze9_2,iw ze9_3] 41] ?_))
        refine Ok.doneE (by kernel_rfl) ?_
        refine Ok.blkN (Ok.thenN (Ok.reg ?_))
        have k20 := wid (x := zL4_6 + 1) (by omega)
        refine g0 3 [(2,pt b1 0),(3,pt (b1+1) 0),(4,pt (b1+1+1) 0),(5,pt b2 0),(6,iw (w64 (zL4_6 + 1)))] [gz,gz,gz] rfl (en rfl (Ok.restr [2,3,4,5,6] [(2,pt b1 0),(3,pt (b1+1) 0),(4,pt (b1+1+1) 0),(5,pt b2 0),(6,iw (w64 (zL4_6 + 1)))] rfl (Ok.mask [true,true,true,true,true,false] [.blk b1 [.slice Aa_0 na_0 ca_0,iw za_1] 34,.blk (b1+1) [iw zb_0,iw zb_1] 159,.blk (b1+1+1) [n0,iw 0] 34,.blk b2 [.slice ((some ⟨g13,0,none⟩)) ((nL4r4 + 1)) cap14,iw za_1] 34,.row (.slice ((some ⟨g13,0,none⟩)) ((nL4r4 + 1)) cap14) ((nL4r4 + 1)) 4 41 x15] rfl ?_)))
        exact Ok.again _ ⟨(w64 (zL4_6 + 1)),((some ⟨g13,0,none⟩)),(nL4r4 + 1),cap14,x15,rfl,rfl,rfl,le6,by omega,by omega,by omega,E16⟩ (by omega)
      refine Ok.skip_ (Ok.blkN (Ok.thenN (Ok.reg ?_)))
      have k22 := wid (x := zL4_6 + 1) (by omega)
      refine g0 3 [(2,pt b1 0),(3,pt (b1+1) 0),(4,pt (b1+1+1) 0),(5,pt b2 0),(6,iw (w64 (zL4_6 + 1)))] [gz,gz,gz] rfl (en rfl (Ok.restr [2,3,4,5,6] [(2,pt b1 0),(3,pt (b1+1) 0),(4,pt (b1+1+1) 0),(5,pt b2 0),(6,iw (w64 (zL4_6 + 1)))] rfl ?_))
      exact Ok.again _ ⟨(w64 (zL4_6 + 1)),AL4r4,nL4r4,cL4r4,xL4r4,rfl,rfl,rfl,le6,by omega,by omega,by omega,EL4r4⟩ (by omega)
    refine tk 0 [(10,gz),(11,gz),(12,gz),(13,gz),(14,gz),(15,gz),(16,gz),(17,gz),(18,gz),(19,gz)] [(2,pt b1 0),(3,pt (b1+1) 0),(4,pt (b1+1+1) 0),(5,pt b2 0),(6,iw zL4_6),(36,bF)] rfl ?_
    refine dn (cF (Ok.skip_ (Ok.blkN (Ok.thenN (Ok.reg ?_)))))
    have k24 := wid (x := zL4_6 + 1) (by omega)
    refine g0 3 [(2,pt b1 0),(3,pt (b1+1) 0),(4,pt (b1+1+1) 0),(5,pt b2 0),(6,iw (w64 (zL4_6 + 1)))] [gz,gz,gz] rfl (en rfl (Ok.restr [2,3,4,5,6] [(2,pt b1 0),(3,pt (b1+1) 0),(4,pt (b1+1+1) 0),(5,pt b2 0),(6,iw (w64 (zL4_6 + 1)))] rfl ?_))
    exact Ok.again _ ⟨(w64 (zL4_6 + 1)),AL4r4,nL4r4,cL4r4,xL4r4,rfl,rfl,rfl,le6,by omega,by omega,by omega,EL4r4⟩ (by omega)
  have h8 := of_decide_eq_false h8
  refine Ok.exit_ (Ok.thenE (Ok.thenE (Ok.blkE (Ok.thenN (sr (g1 2 [(4,pt (b1+1+1) 0)] [.blk b1 [.slice Aa_0 na_0 ca_0,iw za_1] 34,.blk (b1+1) [iw zb_0,iw zb_1] 159,.blk (b1+1+1) [.slice AL4r4 nL4r4 cL4r4,iw za_1] 34,.blk b2 [.slice AL4r4 nL4r4 cL4r4,iw za_1] 34,.row (.slice AL4r4 nL4r4 cL4r4) nL4r4 4 41 xL4r4] [.g [.K 3 0,.K 3 1],.g [.K 2 0,.K 2 1]] rfl (en rfl (Ok.ret_ (Ok.pubS 4 rfl EL4r4 (by omega) [.blk b1 [.slice Aa_0 na_0 ca_0,iw za_1] 34,.blk (b1+1) [iw zb_0,iw zb_1] 159,.blk (b1+1+1) [.slice AL4r4 nL4r4 cL4r4,iw za_1] 34,.blk b2 [.slice AL4r4 nL4r4 cL4r4,iw za_1] 34] rfl ?_)))))))))
  intro H26 le27 f28
  exact Ok.ret1c (tr le6 le27) [.K 2 0,.K 2 1] (.agg #[.slice AL4r4 nL4r4 cL4r4,iw za_1]) [b1+1+1,b1+1+1] rfl (by kernel_rfl) ⟨AL4r4,nL4r4,cL4r4,za_1,rfl,f28,(by omega)⟩
theorem c119 (H : Snap) (Aa_0 : Option Addr) (na_0 : Nat) (ca_0 : Nat) (za_1 : Int) (zb_0 : Int) (sb_1 : ByteArray) (zb_2 : Int) (zb_3 : Int) (ha_0 : WfS H el41 Aa_0 na_0) (tb_1 : sb_1.size < 9223372036854775808) (hq0 : na_0 ≤ 1000) : Does Tryz.prog 119 [.agg #[.slice Aa_0 na_0 ca_0,iw za_1],.agg #[iw zb_0,.string sb_1,iw zb_2,iw zb_3]] H [] (fun v H' kp => ∃ (Ara_0 : Option Addr) (nra_0 : Nat) (cra_0 : Nat) (zra_1 : Int),v = .agg #[.slice Ara_0 nra_0 cra_0,iw zra_1] ∧ WfS H' el41 Ara_0 nra_0 ∧ nra_0 ≤ na_0) := by
  have lha_0 := ha_0.1
  refine Does.of Tryz.func119 rfl rfl rfl rfl (fun w0 H0 kx => ?_)
  refine sr (g4 3 (fun b1 => [(2,pt b1 0),(3,pt (b1+1) 0),(4,pt (b1+1+1) 0)]) (fun b1 => [.blk b1 [.slice Aa_0 na_0 ca_0,iw za_1] 34,.blk (b1+1) [iw zb_0,.string sb_1,iw zb_2,iw zb_3] 41,.blk (b1+1+1) [n0,iw 0] 34]) [.g [.N],.g [.N],.g [.N]] rfl (fun b1 => (en rfl ?_)))
  refine sr (g4 5 (fun b2 => [(2,pt b1 0),(3,pt (b1+1) 0),(4,pt (b1+1+1) 0),(5,pt b2 0)]) (fun b2 => [.blk b1 [.slice Aa_0 na_0 ca_0,iw za_1] 34,.blk (b1+1) [iw zb_0,.string sb_1,iw zb_2,iw zb_3] 41,.blk (b1+1+1) [n0,iw 0] 34,.blk b2 [n0,iw za_1] 34]) [gz,.g [.K 0 1],gz,.g [.N],.g [.K 3 0,.K 3 1]] rfl (fun b2 => (en rfl ?_)))
  refine Ok.seq (sr (g0 1 [(2,pt b1 0),(3,pt (b1+1) 0),(4,pt (b1+1+1) 0),(5,pt b2 0),(6,iw 0)] [gz] rfl (en rfl (Ok.blk (Ok.nilRow 4 41 (Ok.restr [2,3,4,5,6] [(2,pt b1 0),(3,pt (b1+1) 0),(4,pt (b1+1+1) 0),(5,pt b2 0),(6,iw 0)] rfl (Ok.loop (fun H' fr kb m => ∃ (zL4_6 : Int) (AL4r4 : Option Addr) (nL4r4 : Nat) (cL4r4 : Nat) (xL4r4 : List Value),fr = [(2,pt b1 0),(3,pt (b1+1) 0),(4,pt (b1+1+1) 0),(5,pt b2 0),(6,iw zL4_6)] ∧ kb = [.blk b1 [.slice Aa_0 na_0 ca_0,iw za_1] 34,.blk (b1+1) [iw zb_0,.string sb_1,iw zb_2,iw zb_3] 41,.blk (b1+1+1) [n0,iw 0] 34,.blk b2 [.slice AL4r4 nL4r4 cL4r4,iw za_1] 34,.row (.slice AL4r4 nL4r4 cL4r4) nL4r4 4 41 xL4r4] ∧ m = ((((na_0 : Nat) : Int)) - zL4_6).toNat ∧ SLe H H' ∧ 0 ≤ zL4_6 ∧ zL4_6 ≤ ((na_0 : Nat) : Int) ∧ ((nL4r4 : Nat) : Int) ≤ zL4_6 ∧ Elems H' el41 nL4r4 xL4r4) _ ⟨0,none,0,0,[],rfl,rfl,rfl,SLe.refl _,by decide,by omega,by omega,(Elems.nil el41)⟩ ?_)))))))
  rintro H5 _ _ mL4 ⟨zL4_6,AL4r4,nL4r4,cL4r4,xL4r4,rfl,rfl,hmL4,le6,fL4_0,fL4_1,fL4_2,EL4r4⟩
  refine Ok.seq (sr (g0 5 [(2,pt b1 0),(3,pt (b1+1) 0),(4,pt (b1+1+1) 0),(5,pt b2 0),(6,iw zL4_6),(14,.bool (decide (zL4_6 < ((na_0 : Nat) : Int))))] [gz,gz,.g [.K 0 0],gz,gz] rfl (en rfl (cd (decide (zL4_6 < ((na_0 : Nat) : Int))) (fun h8 => ?_) (fun h8 => ?_)))))
  · have h8 := of_decide_eq_true h8
    refine skn (Ok.seq (Ok.blk (Ok.seq (st [0,1,2,3,4] [] 9 ?_))))
    have ie9 : 0 ≤ zL4_6 ∧ zL4_6 < ((na_0 : Nat) : Int) := by omega
    obtain ⟨je9,cse9,we9,he9⟩ := (WfS.mono le6 ha_0).at_ zL4_6 ie9.1 ie9.2
    obtain ⟨ue9_0,le9_0,rfl,ve9_0,we9_0⟩ := wfl_cons we9
    obtain ⟨ze9_0,rfl⟩ := wfv_int ve9_0
    obtain ⟨ue9_1,le9_1,rfl,ve9_1,we9_1⟩ := wfl_cons we9_0
    obtain ⟨se9_1,rfl,te9_1⟩ := wfv_str ve9_1
    obtain ⟨ue9_2,le9_2,rfl,ve9_2,we9_2⟩ := wfl_cons we9_1
    obtain ⟨ze9_2,rfl⟩ := wfv_int ve9_2
    obtain ⟨ue9_3,le9_3,rfl,ve9_3,we9_3⟩ := wfl_cons we9_2
    obtain ⟨ze9_3,rfl⟩ := wfv_int ve9_3
    obtain rfl := wfl_nil we9_3
    refine tx 0 [(0,gz),(1,.g [.K 0 0]),(2,gz),(3,.ix),(4,gz),(5,.g [.X (iw ze9_0)]),(6,gz),(7,.g [.K 1 0]),(8,gz)] [(2,pt b1 0),(3,pt (b1+1) 0),(4,pt (b1+1+1) 0),(5,pt b2 0),(6,iw zL4_6),(25,.bool (ze9_0 == zb_0))] (ex1 (And.intro je9 ie9) (ex1 (cell0 (he9 0 _ rfl)) ex0)) rfl ?_
    refine dn (cd (ze9_0 == zb_0) (fun h10 => ?_) (fun h10 => ?_))
    · have h10 := eq_of_beq h10
      refine Ok.reg (g4 4 (fun b11 => [(2,pt b1 0),(3,pt (b1+1) 0),(4,pt (b1+1+1) 0),(5,pt b2 0),(6,iw zL4_6),(27,.slice AL4r4 nL4r4 cL4r4),(29,sl b11 0 1 1)]) (fun b11 => [.blk b1 [.slice Aa_0 na_0 ca_0,iw za_1] 34,.blk (b1+1) [iw zb_0,.string sb_1,iw zb_2,iw zb_3] 41,.blk (b1+1+1) [n0,iw 0] 34,.blk b2 [.slice AL4r4 nL4r4 cL4r4,iw za_1] 34,.row (.slice AL4r4 nL4r4 cL4r4) nL4r4 4 41 xL4r4,.blk b11 [iw zb_0,.string sb_1,iw zb_2,iw zb_3] 41]) [gz,.g [.K 3 0],.g [.K 1 0,.K 1 1,.K 1 2,.K 1 3],.g [.N]] rfl (fun b11 => (ef 5 rfl (Eff.appendN (t := 32) (d := some 30) (ad := ⟨b11,0,none⟩) (m := 1) (c := 1) 4 rfl (by kernel_rfl) 100000000 (by kernel_rfl) (by omega) rfl [iw zb_0,.string sb_1,iw zb_2,iw zb_3] (reads_blk (cs := [iw zb_0,.string sb_1,iw zb_2,iw zb_3]) 5 rfl 0 4) rfl rfl (by omega) (fun g12 cap13 => ?_)))))
      have E15 : Elems H5 el41 (nL4r4 + 1) (xL4r4 ++ [iw zb_0,.string sb_1,iw zb_2,iw zb_3]) := (Elems.snoc EL4r4 (mkl_cons (mkv_int _ _) (mkl_cons (mkv_str _ tb_1) (mkl_cons (mkv_int _ _) (mkl_cons (mkv_int _ _) mkl_nil)))))
      generalize (xL4r4 ++ [iw zb_0,.string sb_1,iw zb_2,iw zb_3]) = x14 at E15 ⊢
      refine g1 7 [(2,pt b1 0),(3,pt (b1+1) 0),(4,pt (b1+1+1) 0),(5,pt b2 0),(6,iw zL4_6)] [.blk b1 [.slice Aa_0 na_0 ca_0,iw za_1] 34,.blk (b1+1) [iw zb_0,.string sb_1,iw zb_2,iw zb_3] 41,.blk (b1+1+1) [n0,iw 0] 34,.blk b2 [.slice ((some ⟨g12,0,none⟩)) ((nL4r4 + 1)) cap13,iw za_1] 34,.row (.slice ((some ⟨g12,0,none⟩)) ((nL4r4 + 1)) cap13) ((nL4r4 + 1)) 4 41 x14,.blk b11 [iw zb_0,.string sb_1,iw zb_2,iw zb_3] 41] [gz,.g [.K 3 0]] rfl (Ok.segEnd rfl (Ok.blkN ?_))
      refine Ok.thenN (Ok.reg ?_)
      have k19 := wid (x := zL4_6 + 1) (by omega)
      refine g0 3 [(2,pt b1 0),(3,pt (b1+1) 0),(4,pt (b1+1+1) 0),(5,pt b2 0),(6,iw (w64 (zL4_6 + 1)))] [gz,gz,gz] rfl (en rfl (Ok.restr [2,3,4,5,6] [(2,pt b1 0),(3,pt (b1+1) 0),(4,pt (b1+1+1) 0),(5,pt b2 0),(6,iw (w64 (zL4_6 + 1)))] rfl (Ok.mask [true,true,true,true,true,false] [.blk b1 [.slice Aa_0 na_0 ca_0,iw za_1] 34,.blk (b1+1) [iw zb_0,.string sb_1,iw zb_2,iw zb_3] 41,.blk (b1+1+1) [n0,iw 0] 34,.blk b2 [.slice ((some ⟨g12,0,none⟩)) ((nL4r4 + 1)) cap13,iw za_1] 34,.row (.slice ((some ⟨g12,0,none⟩)) ((nL4r4 + 1)) cap13) ((nL4r4 + 1)) 4 41 x14] rfl ?_)))
      exact Ok.again _ ⟨(w64 (zL4_6 + 1)),((some ⟨g12,0,none⟩)),(nL4r4 + 1),cap13,x14,rfl,rfl,rfl,le6,by omega,by omega,by omega,E15⟩ (by omega)
    have h10 := ne_of_beq_false h10
    refine st [0,1,2,3] [10] 11 ?_
    refine tx 4 [(0,gz),(1,.g [.K 3 0]),(2,gz),(3,.g [.K 0 0]),(4,gz),(5,.ix),(6,.g [.X (iw ze9_0),.X (.string se9_1),.X (iw ze9_2),.X (iw ze9_3)])] [(2,pt b1 0),(3,pt (b1+1) 0),(4,pt (b1+1+1) 0),(5,pt b2 0),(6,iw zL4_6),(33,.slice AL4r4 nL4r4 cL4r4),(38,.agg #[iw ze9_0,.string se9_1,iw ze9_2,iw ze9_3])] (ex1 (And.intro je9 ie9) (ex1 (cell0 (he9 0 _ rfl)) (ex1 (he9 (1) _ rfl) (ex1 (he9 (2) _ rfl) (ex1 (he9 (3) _ rfl) ex0))))) rfl ?_
    refine on 7 3 rfl (e4 (.g [.N]) (fun b20 => [(2,pt b1 0),(3,pt (b1+1) 0),(4,pt (b1+1+1) 0),(5,pt b2 0),(6,iw zL4_6),(33,.slice AL4r4 nL4r4 cL4r4),(39,sl b20 0 1 1)]) (fun b20 => [.blk b1 [.slice Aa_0 na_0 ca_0,iw za_1] 34,.blk (b1+1) [iw zb_0,.string sb_1,iw zb_2,iw zb_3] 41,.blk (b1+1+1) [n0,iw 0] 34,.blk b2 [.slice AL4r4 nL4r4 cL4r4,iw za_1] 34,.row (.slice AL4r4 nL4r4 cL4r4) nL4r4 4 41 xL4r4,.blk b20 [iw ze9_0,.string se9_1,iw ze9_2,iw ze9_3] 41]) (fun b20 => ?_))
    refine ws [0,1,2,3] (SLe.refl _) ?_
    refine on 8 2 rfl (Eff.appendN (t := 32) (d := some 40) (ad := ⟨b20,0,none⟩) (m := 1) (c := 1) 4 rfl (by kernel_rfl) 100000000 (by kernel_rfl) (by omega) rfl [iw ze9_0,.string se9_1,iw ze9_2,iw ze9_3] (reads_blk (cs := [iw ze9_0,.string se9_1,iw ze9_2,iw ze9_3]) 5 rfl 0 4) rfl rfl (by omega) (fun g21 cap22 => ?_))
    have E24 : Elems H5 el41 (nL4r4 + 1) (xL4r4 ++ [iw ze9_0,.string se9_1,iw ze9_2,iw ze9_3]) := (Elems.snoc EL4r4 (mkl_cons (mkv_int _ _) (mkl_cons (mkv_str _ te9_1) (mkl_cons (mkv_int _ _) (mkl_cons (mkv_int _ _) mkl_nil)))))
    generalize (xL4r4 ++ [iw ze9_0,.string se9_1,iw ze9_2,iw ze9_3]) = x23 at E24 ⊢
    refine ws [0,1,2,3] (SLe.refl _) ?_
    refine tk 1 [(9,gz)] [(2,pt b1 0),(3,pt (b1+1) 0),(4,pt (b1+1+1) 0),(5,pt b2 0),(6,iw zL4_6),(40,.slice ((some ⟨g21,0,none⟩)) ((nL4r4 + 1)) cap22),(41,pt b2 0)] rfl ?_
    refine Ok.toE (ol 10 0 rfl (e1 (.g [.K 3 0]) [(2,pt b1 0),(3,pt (b1+1) 0),(4,pt (b1+1+1) 0),(5,pt b2 0),(6,iw zL4_6)] [.blk b1 [.slice Aa_0 na_0 ca_0,iw za_1] 34,.blk (b1+1) [iw zb_0,.string sb_1,iw zb_2,iw zb_3] 41,.blk (b1+1+1) [n0,iw 0] 34,.blk b2 [.slice ((some ⟨g21,0,none⟩)) ((nL4r4 + 1)) cap22,iw za_1] 34,.row (.slice ((some ⟨g21,0,none⟩)) ((nL4r4 + 1)) cap22) ((nL4r4 + 1)) 4 41 x23,.blk b20 [iw ze9_0,.string se9_1,iw ze9_2,iw ze9_3] 41] ?_))
    refine Ok.doneE (by kernel_rfl) ?_
    refine Ok.blkN (Ok.thenN (Ok.reg ?_))
    have k28 := wid (x := zL4_6 + 1) (by omega)
    refine g0 3 [(2,pt b1 0),(3,pt (b1+1) 0),(4,pt (b1+1+1) 0),(5,pt b2 0),(6,iw (w64 (zL4_6 + 1)))] [gz,gz,gz] rfl (en rfl (Ok.restr [2,3,4,5,6] [(2,pt b1 0),(3,pt (b1+1) 0),(4,pt (b1+1+1) 0),(5,pt b2 0),(6,iw (w64 (zL4_6 + 1)))] rfl (Ok.mask [true,true,true,true,true,false] [.blk b1 [.slice Aa_0 na_0 ca_0,iw za_1] 34,.blk (b1+1) [iw zb_0,.string sb_1,iw zb_2,iw zb_3] 41,.blk (b1+1+1) [n0,iw 0] 34,.blk b2 [.slice ((some ⟨g21,0,none⟩)) ((nL4r4 + 1)) cap22,iw za_1] 34,.row (.slice ((some ⟨g21,0,none⟩)) ((nL4r4 + 1)) cap22) ((nL4r4 + 1)) 4 41 x23] rfl ?_)))
    exact Ok.again _ ⟨(w64 (zL4_6 + 1)),((some ⟨g21,0,none⟩)),(nL4r4 + 1),cap22,x23,rfl,rfl,rfl,le6,by omega,by omega,by omega,E24⟩ (by omega)
  have h8 := of_decide_eq_false h8
  refine Ok.exit_ (Ok.thenE (Ok.thenE (Ok.blkE (Ok.thenN (sr (g1 2 [(4,pt (b1+1+1) 0)] [.blk b1 [.slice Aa_0 na_0 ca_0,iw za_1] 34,.blk (b1+1) [iw zb_0,.string sb_1,iw zb_2,iw zb_3] 41,.blk (b1+1+1) [.slice AL4r4 nL4r4 cL4r4,iw za_1] 34,.blk b2 [.slice AL4r4 nL4r4 cL4r4,iw za_1] 34,.row (.slice AL4r4 nL4r4 cL4r4) nL4r4 4 41 xL4r4] [.g [.K 3 0,.K 3 1],.g [.K 2 0,.K 2 1]] rfl (en rfl (Ok.ret_ (Ok.pubS 4 rfl EL4r4 (by omega) [.blk b1 [.slice Aa_0 na_0 ca_0,iw za_1] 34,.blk (b1+1) [iw zb_0,.string sb_1,iw zb_2,iw zb_3] 41,.blk (b1+1+1) [.slice AL4r4 nL4r4 cL4r4,iw za_1] 34,.blk b2 [.slice AL4r4 nL4r4 cL4r4,iw za_1] 34] rfl ?_)))))))))
  intro H30 le31 f32
  exact Ok.ret1c (tr le6 le31) [.K 2 0,.K 2 1] (.agg #[.slice AL4r4 nL4r4 cL4r4,iw za_1]) [b1+1+1,b1+1+1] rfl (by kernel_rfl) ⟨AL4r4,nL4r4,cL4r4,za_1,rfl,f32,(by omega)⟩
theorem c134 (H : Snap) (Aa_0 : Option Addr) (na_0 : Nat) (ca_0 : Nat) (za_1 : Int) (zb_0 : Int) (zc_0 : Int) (ha_0 : WfS H el41 Aa_0 na_0) : Does Tryz.prog 134 [.agg #[.slice Aa_0 na_0 ca_0,iw za_1],iw zb_0,iw zc_0] H [] (fun v H' kp => ∃ (bra_0 : Bool),v = .bool bra_0) := by
  have lha_0 := ha_0.1
  refine Does.of Tryz.func134 rfl rfl rfl rfl (fun w0 H0 kx => ?_)
  refine sr (g4 2 (fun b1 => [(1,iw zb_0),(2,iw zc_0),(3,pt b1 0)]) (fun b1 => [.blk b1 [.slice Aa_0 na_0 ca_0,iw za_1] 34]) [.g [.N],gz] rfl (fun b1 => (en rfl ?_)))
  refine Ok.seq (sr (g0 1 [(1,iw zb_0),(2,iw zc_0),(3,pt b1 0),(7,iw 0)] [gz] rfl (en rfl (Ok.blk (Ok.restr [1,2,3,7] [(1,iw zb_0),(2,iw zc_0),(3,pt b1 0),(7,iw 0)] rfl (Ok.loop (fun H' fr kb m => ∃ (zL3_1 : Int) (zL3_7 : Int),fr = [(1,iw zL3_1),(2,iw zc_0),(3,pt b1 0),(7,iw zL3_7)] ∧ kb = [.blk b1 [.slice Aa_0 na_0 ca_0,iw za_1] 34] ∧ m = ((9) - zL3_7).toNat ∧ SLe H H' ∧ 0 ≤ zL3_7 ∧ zL3_7 ≤ 9) _ ⟨zb_0,0,rfl,rfl,rfl,SLe.refl _,by decide,by omega⟩ ?_))))))
  rintro H4 _ _ mL3 ⟨zL3_1,zL3_7,rfl,rfl,hmL3,le5,fL3_0,fL3_1⟩
  refine Ok.seq (sr (g0 3 [(1,iw zL3_1),(2,iw zc_0),(3,pt b1 0),(7,iw zL3_7),(12,.bool (zL3_1 != 0))] [gz,gz,gz] rfl (cs (zL3_1 != 0) [12] (fun h7 => ?_) (fun h7 => ?_))))
  · refine g0 6 [(1,iw zL3_1),(2,iw zc_0),(3,pt b1 0),(7,iw zL3_7),(15,.bool (decide (zL3_7 ≤ 8)))] [gz,gz,gz] rfl (en rfl (cd (decide (zL3_7 ≤ 8)) (fun h9 => ?_) (fun h9 => ?_)))
    · have h9 := of_decide_eq_true h9
      refine skn (Ok.seq (Ok.blk (Ok.seq (sr (g0 3 [(1,iw zL3_1),(2,iw zc_0),(3,pt b1 0),(7,iw zL3_7),(20,.bool (zL3_1 == zc_0))] [gz,gz,gz] rfl (en rfl (cd (zL3_1 == zc_0) (fun h11 => ?_) (fun h11 => ?_))))))))
      · have h11 := eq_of_beq h11
        refine sr (g0 1 [(6,bT)] [gz] rfl (en rfl (Ok.ret_ (Ok.thenR (Ok.blkR (Ok.thenR (Ok.thenR (Ok.blkR (Ok.thenR (Ok.dropAll ?_))))))))))
        exact Ok.ret1 (v := bT) le5 rfl rfl ⟨true,rfl⟩
      have h11 := ne_of_beq_false h11
      refine skn (sr (g0 2 [(2,iw zc_0),(3,pt b1 0),(7,iw zL3_7),(22,.agg #[.slice Aa_0 na_0 ca_0,iw za_1]),(23,iw zL3_1)] [.g [.K 0 0,.K 0 1],gz] rfl (ef 3 rfl (ca (some 24) (c6 H4 Aa_0 (na_0) (ca_0) za_1 zL3_1 (WfS.mono le5 ha_0)) ?_))))
      rintro v14 H15 k17 le16 ⟨zra_0y18,sra_1y18,zra_2y18,zra_3y18,brb_0y18,rfl,tra_1y18⟩
      refine g4 9 (fun b19 => [(2,iw zc_0),(3,pt b1 0),(7,iw zL3_7),(8,pt b19 0)]) (fun b19 => [.blk b1 [.slice Aa_0 na_0 ca_0,iw za_1] 34,.blk b19 [iw zra_0y18,.string sra_1y18,iw zra_2y18,iw zra_3y18] 41]) [gz,gz,gz,.g [.N],.g [.K 1 0,.K 1 1,.K 1 2,.K 1 3],gz] rfl (fun b19 => (en rfl ?_))
      refine Ok.reg (g0 3 [(1,iw zra_3y18),(2,iw zc_0),(3,pt b1 0),(7,iw zL3_7)] [gz,.g [.K 1 3],gz] rfl (Ok.segEnd rfl (Ok.blkN ?_)))
      refine Ok.thenN (Ok.reg ?_)
      have k22 := wid (x := zL3_7 + 1) (by omega)
      refine g0 3 [(1,iw zra_3y18),(2,iw zc_0),(3,pt b1 0),(7,iw (w64 (zL3_7 + 1)))] [gz,gz,gz] rfl (en rfl (Ok.restr [1,2,3,7] [(1,iw zra_3y18),(2,iw zc_0),(3,pt b1 0),(7,iw (w64 (zL3_7 + 1)))] rfl (Ok.mask [true,false] [.blk b1 [.slice Aa_0 na_0 ca_0,iw za_1] 34] rfl ?_)))
      exact Ok.again _ ⟨zra_3y18,(w64 (zL3_7 + 1)),rfl,rfl,rfl,(tr le5 le16),by omega,by omega⟩ (by omega)
    have h9 := of_decide_eq_false h9
    refine Ok.exit_ (Ok.thenE (Ok.thenE (Ok.blkE (Ok.thenN (sr (g0 1 [(6,bF)] [gz] rfl (en rfl (Ok.ret_ (Ok.dropAll ?_)))))))))
    exact Ok.ret1 (v := bF) le5 rfl rfl ⟨false,rfl⟩
  refine g0 6 [(1,iw zL3_1),(2,iw zc_0),(3,pt b1 0),(7,iw zL3_7),(15,bF)] [gz,gz,gz] rfl (en rfl (cF (Ok.exit_ (Ok.thenE (Ok.thenE (Ok.blkE (Ok.thenN (sr (g0 1 [(6,bF)] [gz] rfl (en rfl (Ok.ret_ (Ok.dropAll ?_))))))))))))
  exact Ok.ret1 (v := bF) le5 rfl rfl ⟨false,rfl⟩
theorem c120 (H : Snap) (Aa_0 : Option Addr) (na_0 : Nat) (ca_0 : Nat) (za_1 : Int) (zb_0 : Int) (sb_1 : ByteArray) (zb_2 : Int) (zb_3 : Int) (zc_0 : Int) (ha_0 : WfS H el41 Aa_0 na_0) (tb_1 : sb_1.size < 9223372036854775808) (hq0 : na_0 ≤ 900) : Does Tryz.prog 120 [.agg #[.slice Aa_0 na_0 ca_0,iw za_1],.agg #[iw zb_0,.string sb_1,iw zb_2,iw zb_3],iw zc_0] H [] (fun v H' kp => ∃ (Ara_0 : Option Addr) (nra_0 : Nat) (cra_0 : Nat) (zra_1 : Int) (zrb_0 : Int),v = .tuple #[.agg #[.slice Ara_0 nra_0 cra_0,iw zra_1],iw zrb_0] ∧ WfS H' el41 Ara_0 nra_0 ∧ nra_0 ≤ na_0 + 2) := by
  have lha_0 := ha_0.1
  refine Does.of Tryz.func120 rfl rfl rfl rfl (fun w0 H0 kx => ?_)
  refine sr (g4 4 (fun b1 => [(2,iw zc_0),(3,pt b1 0),(4,pt (b1+1) 0),(6,pt (b1+1+1) 0)]) (fun b1 => [.blk b1 [.slice Aa_0 na_0 ca_0,iw za_1] 34,.blk (b1+1) [iw zb_0,.string sb_1,iw zb_2,iw zb_3] 41,.blk (b1+1+1) [n0,iw 0] 34]) [.g [.N],.g [.N],.g [.N],gz] rfl (fun b1 => (en rfl ?_)))
  refine Ok.seq (sr (g0 2 [(2,iw zc_0),(3,pt b1 0),(4,pt (b1+1) 0),(6,pt (b1+1+1) 0),(10,.agg #[.slice Aa_0 na_0 ca_0,iw za_1]),(11,iw zc_0)] [.g [.K 0 0,.K 0 1],gz] rfl (ef 3 rfl (ca (some 12) (c87 H Aa_0 (na_0) (ca_0) za_1 zc_0 ha_0) ?_))))
  rintro v3 H4 k6 le5 ⟨bra_0y7,rfl⟩
  refine g0 5 [(2,iw zc_0),(3,pt b1 0),(4,pt (b1+1) 0),(6,pt (b1+1+1) 0),(14,.bool (!bra_0y7))] [gz,gz] rfl (cs (!bra_0y7) [14] (fun h9 => ?_) (fun h9 => ?_))
  · refine g0 11 [(2,iw zc_0),(3,pt b1 0),(4,pt (b1+1) 0),(6,pt (b1+1+1) 0),(20,bT)] [gz,gz,gz,gz,gz,gz] rfl (en rfl (cT (sr (g0 3 [(6,pt (b1+1+1) 0),(7,iw 63)] [gz,.g [.K 2 0,.K 2 1],gz] rfl (Ok.mask [false,false,true] [.blk (b1+1+1) [n0,iw 0] 34] rfl (en rfl (Ok.ret_ (Ok.thenR ?_))))))))
    exact Ok.ret2c le5 [.K 0 0,.K 0 1] (.agg #[n0,iw 0]) (iw 63) [b1+1+1,b1+1+1] rfl (by kernel_rfl) rfl ⟨none,0,0,0,63,rfl,(WfS.nil _ _),(by omega)⟩
  refine g0 9 [(2,iw zc_0),(3,pt b1 0),(4,pt (b1+1) 0),(6,pt (b1+1+1) 0),(14,bF),(15,.agg #[.slice Aa_0 na_0 ca_0,iw za_1]),(16,iw zc_0),(18,iw zb_0)] [.g [.K 0 0,.K 0 1],gz,gz,.g [.K 1 0]] rfl (ef 10 rfl (ca (some 19) (c134 H4 Aa_0 (na_0) (ca_0) za_1 zc_0 zb_0 (WfS.mono le5 ha_0)) ?_))
  rintro v13 H14 k16 le15 ⟨bra_0y17,rfl⟩
  refine g0 11 [(2,iw zc_0),(3,pt b1 0),(4,pt (b1+1) 0),(6,pt (b1+1+1) 0),(20,.bool bra_0y17)] [gz] rfl (en rfl (cd bra_0y17 (fun h19 => ?_) (fun h19 => ?_)))
  · refine sr (g0 3 [(6,pt (b1+1+1) 0),(7,iw 63)] [gz,.g [.K 2 0,.K 2 1],gz] rfl (Ok.mask [false,false,true] [.blk (b1+1+1) [n0,iw 0] 34] rfl ?_))
    refine en rfl (Ok.ret_ (Ok.thenR ?_))
    exact Ok.ret2c (tr le5 le15) [.K 0 0,.K 0 1] (.agg #[n0,iw 0]) (iw 63) [b1+1+1,b1+1+1] rfl (by kernel_rfl) rfl ⟨none,0,0,0,63,rfl,(WfS.nil _ _),(by omega)⟩
  refine skn (sr (g1 3 [(3,pt b1 0),(4,pt (b1+1) 0),(6,pt (b1+1+1) 0)] [.blk b1 [.slice Aa_0 na_0 ca_0,iw za_1] 34,.blk (b1+1) [iw zb_0,.string sb_1,iw zb_2,iw zc_0] 41,.blk (b1+1+1) [n0,iw 0] 34] [gz,gz,.g [.K 1 3]] rfl (en rfl (sr (g0 2 [(3,pt b1 0),(4,pt (b1+1) 0),(6,pt (b1+1+1) 0),(24,.agg #[.slice Aa_0 na_0 ca_0,iw za_1]),(25,.agg #[iw zb_0,.string sb_1,iw zb_2,iw zc_0])] [.g [.K 0 0,.K 0 1],.g [.K 1 0,.K 1 1,.K 1 2,.K 1 3]] rfl (ef 3 rfl (ca (some 26) (c119 H14 Aa_0 (na_0) (ca_0) za_1 zb_0 sb_1 zb_2 zc_0 (WfS.mono (tr le5 le15) ha_0) tb_1 (by omega)) ?_)))))))
  rintro v23 H24 k26 le25 ⟨Ara_0y27,nra_0y27,cra_0y27,zra_1y27,rfl,hra_0y27,py27_0⟩
  have lhra_0y27 := hra_0y27.1
  refine g4 5 (fun b28 => [(3,pt b1 0),(4,pt (b1+1) 0),(6,pt (b1+1+1) 0),(8,pt b28 0)]) (fun b28 => [.blk b1 [.slice Aa_0 na_0 ca_0,iw za_1] 34,.blk (b1+1) [iw zb_0,.string sb_1,iw zb_2,iw zc_0] 41,.blk (b1+1+1) [n0,iw 0] 34,.blk b28 [.slice Ara_0y27 nra_0y27 cra_0y27,iw zra_1y27] 34]) [.g [.N],.g [.K 3 0,.K 3 1]] rfl (fun b28 => (en rfl ?_))
  refine Ok.seq (sr (g0 1 [(3,pt b1 0),(4,pt (b1+1) 0),(6,pt (b1+1+1) 0),(8,pt b28 0),(9,iw 0)] [gz] rfl (en rfl (Ok.blk (Ok.restr [3,4,6,8,9] [(3,pt b1 0),(4,pt (b1+1) 0),(6,pt (b1+1+1) 0),(8,pt b28 0),(9,iw 0)] rfl (Ok.loop (fun H' fr kb m => ∃ (zL30_9 : Int),fr = [(3,pt b1 0),(4,pt (b1+1) 0),(6,pt (b1+1+1) 0),(8,pt b28 0),(9,iw zL30_9)] ∧ kb = [.blk b1 [.slice Aa_0 na_0 ca_0,iw za_1] 34,.blk (b1+1) [iw zb_0,.string sb_1,iw zb_2,iw zc_0] 41,.blk (b1+1+1) [n0,iw 0] 34,.blk b28 [.slice Ara_0y27 nra_0y27 cra_0y27,iw zra_1y27] 34] ∧ m = ((((nra_0y27 : Nat) : Int)) - zL30_9).toNat ∧ SLe H24 H' ∧ 0 ≤ zL30_9 ∧ zL30_9 ≤ ((nra_0y27 : Nat) : Int)) _ ⟨0,rfl,rfl,rfl,SLe.refl _,by decide,by omega⟩ ?_))))))
  rintro H31 _ _ mL30 ⟨zL30_9,rfl,rfl,hmL30,le32,fL30_0,fL30_1⟩
  refine Ok.seq (sr (g0 5 [(3,pt b1 0),(4,pt (b1+1) 0),(6,pt (b1+1+1) 0),(8,pt b28 0),(9,iw zL30_9),(31,.bool (decide (zL30_9 < ((nra_0y27 : Nat) : Int))))] [gz,gz,.g [.K 3 0],gz,gz] rfl (en rfl (cd (decide (zL30_9 < ((nra_0y27 : Nat) : Int))) (fun h34 => ?_) (fun h34 => ?_)))))
  · have h34 := of_decide_eq_true h34
    refine skn (Ok.seq (Ok.blk (Ok.seq (st [0,1,2,3] [] 9 ?_))))
    have ie35 : 0 ≤ zL30_9 ∧ zL30_9 < ((nra_0y27 : Nat) : Int) := by omega
    obtain ⟨je35,cse35,we35,he35⟩ := (WfS.mono le32 hra_0y27).at_ zL30_9 ie35.1 ie35.2
    obtain ⟨ue35_0,le35_0,rfl,ve35_0,we35_0⟩ := wfl_cons we35
    obtain ⟨ze35_0,rfl⟩ := wfv_int ve35_0
    obtain ⟨ue35_1,le35_1,rfl,ve35_1,we35_1⟩ := wfl_cons we35_0
    obtain ⟨se35_1,rfl,te35_1⟩ := wfv_str ve35_1
    obtain ⟨ue35_2,le35_2,rfl,ve35_2,we35_2⟩ := wfl_cons we35_1
    obtain ⟨ze35_2,rfl⟩ := wfv_int ve35_2
    obtain ⟨ue35_3,le35_3,rfl,ve35_3,we35_3⟩ := wfl_cons we35_2
    obtain ⟨ze35_3,rfl⟩ := wfv_int ve35_3
    obtain rfl := wfl_nil we35_3
    refine tx 2 [(0,.g [.K 3 0,.K 3 1]),(1,gz),(2,.g [.K 3 0]),(3,gz),(4,.ix),(5,gz),(6,.g [.X (iw ze35_0)])] [(3,pt b1 0),(4,pt (b1+1) 0),(6,pt (b1+1+1) 0),(8,pt b28 0),(9,iw zL30_9),(34,.agg #[.slice Ara_0y27 nra_0y27 cra_0y27,iw zra_1y27]),(40,iw ze35_0)] (ex1 (And.intro je35 ie35) (ex1 (cell0 (he35 0 _ rfl)) ex0)) rfl ?_
    refine on 7 1 rfl (ca (some 41) (c115 H31 Ara_0y27 (nra_0y27) (cra_0y27) zra_1y27 ze35_0 (WfS.mono le32 hra_0y27)) ?_)
    rintro v36 H37 k39 le38 ⟨zra_0y40,rfl⟩
    refine ws [0,1,2,3] le38 ?_
    refine tk 0 [(8,gz)] [(3,pt b1 0),(4,pt (b1+1) 0),(6,pt (b1+1+1) 0),(8,pt b28 0),(9,iw zL30_9),(42,.bool (decide (zra_0y40 > 8)))] rfl ?_
    refine dn (cd (decide (zra_0y40 > 8)) (fun h41 => ?_) (fun h41 => ?_))
    · have h41 := of_decide_eq_true h41
      refine sr (g0 3 [(6,pt (b1+1+1) 0),(7,iw 63)] [gz,.g [.K 2 0,.K 2 1],gz] rfl (en rfl (Ok.ret_ (Ok.blkR (Ok.thenR (Ok.thenR (Ok.blkR (Ok.thenR ?_))))))))
      exact Ok.ret2c (tr le5 (tr le15 (tr le25 (tr le32 le38)))) [.K 2 0,.K 2 1] (.agg #[n0,iw 0]) (iw 63) [b1+1+1,b1+1+1] rfl (by kernel_rfl) rfl ⟨none,0,0,0,63,rfl,(WfS.nil _ _),(by omega)⟩
    have h41 := of_decide_eq_false h41
    refine Ok.skip_ (Ok.blkN (Ok.thenN (Ok.reg ?_)))
    have k44 := wid (x := zL30_9 + 1) (by omega)
    refine g0 3 [(3,pt b1 0),(4,pt (b1+1) 0),(6,pt (b1+1+1) 0),(8,pt b28 0),(9,iw (w64 (zL30_9 + 1)))] [gz,gz,gz] rfl (en rfl (Ok.restr [3,4,6,8,9] [(3,pt b1 0),(4,pt (b1+1) 0),(6,pt (b1+1+1) 0),(8,pt b28 0),(9,iw (w64 (zL30_9 + 1)))] rfl ?_))
    exact Ok.again _ ⟨(w64 (zL30_9 + 1)),rfl,rfl,rfl,(tr le32 le38),by omega,by omega⟩ (by omega)
  have h34 := of_decide_eq_false h34
  refine Ok.exit_ (Ok.thenE (Ok.thenE (Ok.blkE (Ok.thenN (Ok.seq (sr (g0 7 [(6,pt (b1+1+1) 0),(8,pt b28 0),(44,.agg #[.slice Aa_0 na_0 ca_0,iw za_1]),(45,.agg #[iw zb_0,.string sb_1,iw zb_2,iw zc_0]),(50,.agg #[iw zb_0,iw zb_0])] [.g [.K 0 0,.K 0 1],.g [.K 1 0,.K 1 1,.K 1 2,.K 1 3],gz,.g [.K 1 0],gz,.g [.K 1 0],gz] rfl (ef 8 rfl (ca (some 51) (c116 H31 Aa_0 (na_0) (ca_0) za_1 zb_0 sb_1 zb_2 zc_0 zb_0 zb_0 (WfS.mono (tr le5 (tr le15 (tr le25 le32))) ha_0) tb_1) ?_)))))))))
  rintro v46 H47 k49 le48 ⟨bra_0y50,rfl⟩
  refine en rfl (cd bra_0y50 (fun h52 => ?_) (fun h52 => ?_))
  · refine sr (g0 3 [(6,pt (b1+1+1) 0),(7,iw 60)] [gz,.g [.K 2 0,.K 2 1],gz] rfl (en rfl (Ok.ret_ (Ok.thenR ?_))))
    exact Ok.ret2c (tr le5 (tr le15 (tr le25 (tr le32 le48)))) [.K 2 0,.K 2 1] (.agg #[n0,iw 0]) (iw 60) [b1+1+1,b1+1+1] rfl (by kernel_rfl) rfl ⟨none,0,0,0,60,rfl,(WfS.nil _ _),(by omega)⟩
  refine skn (sr (g1 3 [(6,pt (b1+1+1) 0),(7,iw 0)] [.blk b1 [.slice Aa_0 na_0 ca_0,iw za_1] 34,.blk (b1+1) [iw zb_0,.string sb_1,iw zb_2,iw zc_0] 41,.blk (b1+1+1) [.slice Ara_0y27 nra_0y27 cra_0y27,iw zra_1y27] 34,.blk b28 [.slice Ara_0y27 nra_0y27 cra_0y27,iw zra_1y27] 34] [.g [.K 3 0,.K 3 1],.g [.K 2 0,.K 2 1],gz] rfl (en rfl (Ok.ret_ ?_))))
  exact Ok.ret2c (tr le5 (tr le15 (tr le25 (tr le32 le48)))) [.K 2 0,.K 2 1] (.agg #[.slice Ara_0y27 nra_0y27 cra_0y27,iw zra_1y27]) (iw 0) [b1+1+1,b1+1+1] rfl (by kernel_rfl) rfl ⟨Ara_0y27,nra_0y27,cra_0y27,zra_1y27,0,rfl,(WfS.mono (tr le32 le48) hra_0y27),(by omega)⟩
theorem c81 (H : Snap) (Aa_0 : Option Addr) (na_0 : Nat) (ca_0 : Nat) (za_1 : Int) (zb_0 : Int) (zb_1 : Int) (zb_2 : Int) (sb_3 : ByteArray) (sb_4 : ByteArray) (zb_5 : Int) (zb_6 : Int) (sb_7 : ByteArray) (ha_0 : WfS H el41 Aa_0 na_0) (tb_3 : sb_3.size < 9223372036854775808) (tb_4 : sb_4.size < 9223372036854775808) (tb_7 : sb_7.size < 9223372036854775808) (hq0 : na_0 ≤ 900) : Does Tryz.prog 81 [.agg #[.slice Aa_0 na_0 ca_0,iw za_1],.agg #[iw zb_0,iw zb_1,iw zb_2,.string sb_3,.string sb_4,iw zb_5,iw zb_6,.string sb_7]] H [] (fun v H' kp => ∃ (Ara_0 : Option Addr) (nra_0 : Nat) (cra_0 : Nat) (zra_1 : Int) (zrb_0 : Int),v = .tuple #[.agg #[.slice Ara_0 nra_0 cra_0,iw zra_1],iw zrb_0] ∧ WfS H' el41 Ara_0 nra_0 ∧ nra_0 ≤ na_0 + 2) := by
  have lha_0 := ha_0.1
  refine Does.of Tryz.func81 rfl rfl rfl rfl (fun w0 H0 kx => ?_)
  refine sr (g4 4 (fun b1 => [(2,pt b1 0),(3,pt (b1+1) 0),(4,pt (b1+1+1) 0)]) (fun b1 => [.blk b1 [.slice Aa_0 na_0 ca_0,iw za_1] 34,.blk (b1+1) [iw zb_0,iw zb_1,iw zb_2,.string sb_3,.string sb_4,iw zb_5,iw zb_6,.string sb_7] 105,.blk (b1+1+1) [n0,iw 0] 34]) [.g [.N],.g [.N],.g [.N],gz] rfl (fun b1 => (en rfl ?_)))
  refine sr (g0 3 [(2,pt b1 0),(3,pt (b1+1) 0),(4,pt (b1+1+1) 0),(10,.agg #[.slice Aa_0 na_0 ca_0,iw za_1]),(12,iw zb_1)] [.g [.K 0 0,.K 0 1],gz,.g [.K 1 1]] rfl (ef 4 rfl (ca (some 13) (c6 H Aa_0 (na_0) (ca_0) za_1 zb_1 ha_0) ?_)))
  rintro v3 H4 k6 le5 ⟨zra_0y7,sra_1y7,zra_2y7,zra_3y7,brb_0y7,rfl,tra_1y7⟩
  refine g4 10 (fun b8 => [(2,pt b1 0),(3,pt (b1+1) 0),(4,pt (b1+1+1) 0),(6,pt b8 0),(7,.bool brb_0y7)]) (fun b8 => [.blk b1 [.slice Aa_0 na_0 ca_0,iw za_1] 34,.blk (b1+1) [iw zb_0,iw zb_1,iw zb_2,.string sb_3,.string sb_4,iw zb_5,iw zb_6,.string sb_7] 105,.blk (b1+1+1) [n0,iw 0] 34,.blk b8 [iw zra_0y7,.string sra_1y7,iw zra_2y7,iw zra_3y7] 41]) [gz,gz,gz,.g [.N],.g [.K 3 0,.K 3 1,.K 3 2,.K 3 3],gz] rfl (fun b8 => (en rfl ?_))
  refine Ok.seq (sr (g0 2 [(2,pt b1 0),(3,pt (b1+1) 0),(4,pt (b1+1+1) 0),(6,pt b8 0),(17,.bool (!brb_0y7))] [gz,gz] rfl (en rfl (cd (!brb_0y7) (fun h10 => ?_) (fun h10 => ?_)))))
  · refine sr (g0 3 [(4,pt (b1+1+1) 0),(5,iw 61)] [gz,.g [.K 2 0,.K 2 1],gz] rfl (Ok.mask [false,false,true,false] [.blk (b1+1+1) [n0,iw 0] 34] rfl ?_))
    refine en rfl (Ok.ret_ (Ok.thenR ?_))
    exact Ok.ret2c le5 [.K 0 0,.K 0 1] (.agg #[n0,iw 0]) (iw 61) [b1+1+1,b1+1+1] rfl (by kernel_rfl) rfl ⟨none,0,0,0,61,rfl,(WfS.nil _ _),(by omega)⟩
  refine skn (Ok.seq (sr (g0 2 [(2,pt b1 0),(3,pt (b1+1) 0),(4,pt (b1+1+1) 0),(6,pt b8 0),(20,iw zb_0)] [gz,.g [.K 1 0]] rfl (en rfl (Ok.blk (sr (g0 2 [(2,pt b1 0),(3,pt (b1+1) 0),(4,pt (b1+1+1) 0),(6,pt b8 0),(20,iw zb_0),(21,.bool (zb_0 == 2))] [gz,gz] rfl (en rfl (cd (zb_0 == 2) (fun h14 => ?_) (fun h14 => ?_))))))))))
  · have h14 := eq_of_beq h14
    refine Ok.seq (sr (g0 1 [(2,pt b1 0),(4,pt (b1+1+1) 0),(6,pt b8 0),(8,iw 0)] [gz] rfl (en rfl (Ok.blk (Ok.restr [2,4,6,8] [(2,pt b1 0),(4,pt (b1+1+1) 0),(6,pt b8 0),(8,iw 0)] rfl (Ok.loop (fun H' fr kb m => ∃ (zL16_8 : Int),fr = [(2,pt b1 0),(4,pt (b1+1+1) 0),(6,pt b8 0),(8,iw zL16_8)] ∧ kb = [.blk b1 [.slice Aa_0 na_0 ca_0,iw za_1] 34,.blk (b1+1) [iw zb_0,iw zb_1,iw zb_2,.string sb_3,.string sb_4,iw zb_5,iw zb_6,.string sb_7] 105,.blk (b1+1+1) [n0,iw 0] 34,.blk b8 [iw zra_0y7,.string sra_1y7,iw zra_2y7,iw zra_3y7] 41] ∧ m = ((((na_0 : Nat) : Int)) - zL16_8).toNat ∧ SLe H4 H' ∧ 0 ≤ zL16_8 ∧ zL16_8 ≤ ((na_0 : Nat) : Int)) _ ⟨0,rfl,rfl,rfl,SLe.refl _,by decide,by omega⟩ ?_))))))
    rintro H17 _ _ mL16 ⟨zL16_8,rfl,rfl,hmL16,le18,fL16_0,fL16_1⟩
    refine Ok.seq (sr (g0 5 [(2,pt b1 0),(4,pt (b1+1+1) 0),(6,pt b8 0),(8,iw zL16_8),(27,.bool (decide (zL16_8 < ((na_0 : Nat) : Int))))] [gz,gz,.g [.K 0 0],gz,gz] rfl (en rfl (cd (decide (zL16_8 < ((na_0 : Nat) : Int))) (fun h20 => ?_) (fun h20 => ?_)))))
    · have h20 := of_decide_eq_true h20
      refine skn (Ok.seq (Ok.blk (Ok.seq (st [0,1,2,3] [] 9 ?_))))
      have ie21 : 0 ≤ zL16_8 ∧ zL16_8 < ((na_0 : Nat) : Int) := by omega
      obtain ⟨je21,cse21,we21,he21⟩ := (WfS.mono (tr le5 le18) ha_0).at_ zL16_8 ie21.1 ie21.2
      obtain ⟨ue21_0,le21_0,rfl,ve21_0,we21_0⟩ := wfl_cons we21
      obtain ⟨ze21_0,rfl⟩ := wfv_int ve21_0
      obtain ⟨ue21_1,le21_1,rfl,ve21_1,we21_1⟩ := wfl_cons we21_0
      obtain ⟨se21_1,rfl,te21_1⟩ := wfv_str ve21_1
      obtain ⟨ue21_2,le21_2,rfl,ve21_2,we21_2⟩ := wfl_cons we21_1
      obtain ⟨ze21_2,rfl⟩ := wfv_int ve21_2
      obtain ⟨ue21_3,le21_3,rfl,ve21_3,we21_3⟩ := wfl_cons we21_2
      obtain ⟨ze21_3,rfl⟩ := wfv_int ve21_3
      obtain rfl := wfl_nil we21_3
      refine tx 0 [(0,gz),(1,.g [.K 0 0]),(2,gz),(3,.ix),(4,gz),(5,.g [.X (iw ze21_3)]),(6,gz),(7,.g [.K 3 0]),(8,gz)] [(2,pt b1 0),(4,pt (b1+1+1) 0),(6,pt b8 0),(8,iw zL16_8),(38,.bool (ze21_3 == zra_0y7))] (ex1 (And.intro je21 ie21) (ex1 (he21 (3) _ rfl) ex0)) rfl ?_
      refine dn (cd (ze21_3 == zra_0y7) (fun h22 => ?_) (fun h22 => ?_))
      · have h22 := eq_of_beq h22
        refine sr (g0 3 [(4,pt (b1+1+1) 0),(5,iw 63)] [gz,.g [.K 2 0,.K 2 1],gz] rfl (en rfl (Ok.ret_ (Ok.blkR (Ok.thenR (Ok.thenR (Ok.blkR (Ok.thenR (Ok.blkR (Ok.thenR ?_))))))))))
        exact Ok.ret2c (tr le5 le18) [.K 2 0,.K 2 1] (.agg #[n0,iw 0]) (iw 63) [b1+1+1,b1+1+1] rfl (by kernel_rfl) rfl ⟨none,0,0,0,63,rfl,(WfS.nil _ _),(by omega)⟩
      have h22 := ne_of_beq_false h22
      refine Ok.skip_ (Ok.blkN (Ok.thenN (Ok.reg ?_)))
      have k25 := wid (x := zL16_8 + 1) (by omega)
      refine g0 3 [(2,pt b1 0),(4,pt (b1+1+1) 0),(6,pt b8 0),(8,iw (w64 (zL16_8 + 1)))] [gz,gz,gz] rfl (en rfl (Ok.restr [2,4,6,8] [(2,pt b1 0),(4,pt (b1+1+1) 0),(6,pt b8 0),(8,iw (w64 (zL16_8 + 1)))] rfl ?_))
      exact Ok.again _ ⟨(w64 (zL16_8 + 1)),rfl,rfl,rfl,le18,by omega,by omega⟩ (by omega)
    have h20 := of_decide_eq_false h20
    refine Ok.exit_ (Ok.thenE (Ok.thenE (Ok.blkE (Ok.thenN (sr (g0 6 [(4,pt (b1+1+1) 0),(40,.agg #[.slice Aa_0 na_0 ca_0,iw za_1]),(45,.agg #[iw zra_0y7,iw zra_0y7])] [.g [.K 0 0,.K 0 1],gz,.g [.K 3 0],gz,.g [.K 3 0],gz] rfl (ef 7 rfl (ca (some 46) (c118 H17 Aa_0 (na_0) (ca_0) za_1 zra_0y7 zra_0y7 (WfS.mono (tr le5 le18) ha_0) (by omega)) ?_))))))))
    rintro v27 H28 k30 le29 ⟨Ara_0y31,nra_0y31,cra_0y31,zra_1y31,rfl,hra_0y31,py31_0⟩
    have lhra_0y31 := hra_0y31.1
    refine g1 9 [(4,pt (b1+1+1) 0),(5,iw 0)] [.blk b1 [.slice Aa_0 na_0 ca_0,iw za_1] 34,.blk (b1+1) [iw zb_0,iw zb_1,iw zb_2,.string sb_3,.string sb_4,iw zb_5,iw zb_6,.string sb_7] 105,.blk (b1+1+1) [.slice Ara_0y31 nra_0y31 cra_0y31,iw zra_1y31] 34,.blk b8 [iw zra_0y7,.string sra_1y7,iw zra_2y7,iw zra_3y7] 41] [.g [.K 2 0,.K 2 1],gz] rfl (en rfl (Ok.ret_ (Ok.blkR (Ok.thenR ?_))))
    exact Ok.ret2c (tr le5 (tr le18 le29)) [.K 2 0,.K 2 1] (.agg #[.slice Ara_0y31 nra_0y31 cra_0y31,iw zra_1y31]) (iw 0) [b1+1+1,b1+1+1] rfl (by kernel_rfl) rfl ⟨Ara_0y31,nra_0y31,cra_0y31,zra_1y31,0,rfl,hra_0y31,(by omega)⟩
  have h14 := ne_of_beq_false h14
  refine sr (g0 2 [(2,pt b1 0),(3,pt (b1+1) 0),(4,pt (b1+1+1) 0),(6,pt b8 0),(20,iw zb_0),(47,.bool (zb_0 == 3))] [gz,gz] rfl (en rfl (cd (zb_0 == 3) (fun h34 => ?_) (fun h34 => ?_))))
  · have h34 := eq_of_beq h34
    refine sr (g1 4 [(2,pt b1 0),(4,pt (b1+1+1) 0),(6,pt b8 0)] [.blk b1 [.slice Aa_0 na_0 ca_0,iw za_1] 34,.blk (b1+1) [iw zb_0,iw zb_1,iw zb_2,.string sb_3,.string sb_4,iw zb_5,iw zb_6,.string sb_7] 105,.blk (b1+1+1) [n0,iw 0] 34,.blk b8 [iw zra_0y7,.string sb_3,iw zra_2y7,iw zra_3y7] 41] [gz,.g [.K 1 3],gz,.g [.K 3 1]] rfl (en rfl (Ok.seq (sr (g0 7 [(2,pt b1 0),(4,pt (b1+1+1) 0),(6,pt b8 0),(52,.agg #[.slice Aa_0 na_0 ca_0,iw za_1]),(53,.agg #[iw zra_0y7,.string sb_3,iw zra_2y7,iw zra_3y7]),(58,.agg #[iw zra_0y7,iw zra_0y7])] [.g [.K 0 0,.K 0 1],.g [.K 3 0,.K 3 1,.K 3 2,.K 3 3],gz,.g [.K 3 0],gz,.g [.K 3 0],gz] rfl (ef 8 rfl (ca (some 59) (c116 H4 Aa_0 (na_0) (ca_0) za_1 zra_0y7 sb_3 zra_2y7 zra_3y7 zra_0y7 zra_0y7 (WfS.mono le5 ha_0) tb_3) ?_)))))))
    rintro v37 H38 k40 le39 ⟨bra_0y41,rfl⟩
    refine en rfl (cd bra_0y41 (fun h43 => ?_) (fun h43 => ?_))
    · refine sr (g0 3 [(4,pt (b1+1+1) 0),(5,iw 60)] [gz,.g [.K 2 0,.K 2 1],gz] rfl (en rfl (Ok.ret_ (Ok.thenR (Ok.blkR (Ok.thenR ?_))))))
      exact Ok.ret2c (tr le5 le39) [.K 2 0,.K 2 1] (.agg #[n0,iw 0]) (iw 60) [b1+1+1,b1+1+1] rfl (by kernel_rfl) rfl ⟨none,0,0,0,60,rfl,(WfS.nil _ _),(by omega)⟩
    refine skn (sr (g0 2 [(4,pt (b1+1+1) 0),(61,.agg #[.slice Aa_0 na_0 ca_0,iw za_1]),(62,.agg #[iw zra_0y7,.string sb_3,iw zra_2y7,iw zra_3y7])] [.g [.K 0 0,.K 0 1],.g [.K 3 0,.K 3 1,.K 3 2,.K 3 3]] rfl (ef 3 rfl (ca (some 63) (c119 H38 Aa_0 (na_0) (ca_0) za_1 zra_0y7 sb_3 zra_2y7 zra_3y7 (WfS.mono (tr le5 le39) ha_0) tb_3 (by omega)) ?_))))
    rintro v46 H47 k49 le48 ⟨Ara_0y50,nra_0y50,cra_0y50,zra_1y50,rfl,hra_0y50,py50_0⟩
    have lhra_0y50 := hra_0y50.1
    refine g1 5 [(4,pt (b1+1+1) 0),(5,iw 0)] [.blk b1 [.slice Aa_0 na_0 ca_0,iw za_1] 34,.blk (b1+1) [iw zb_0,iw zb_1,iw zb_2,.string sb_3,.string sb_4,iw zb_5,iw zb_6,.string sb_7] 105,.blk (b1+1+1) [.slice Ara_0y50 nra_0y50 cra_0y50,iw zra_1y50] 34,.blk b8 [iw zra_0y7,.string sb_3,iw zra_2y7,iw zra_3y7] 41] [.g [.K 2 0,.K 2 1],gz] rfl (en rfl (Ok.ret_ (Ok.blkR (Ok.thenR ?_))))
    exact Ok.ret2c (tr le5 (tr le39 le48)) [.K 2 0,.K 2 1] (.agg #[.slice Ara_0y50 nra_0y50 cra_0y50,iw zra_1y50]) (iw 0) [b1+1+1,b1+1+1] rfl (by kernel_rfl) rfl ⟨Ara_0y50,nra_0y50,cra_0y50,zra_1y50,0,rfl,hra_0y50,(by omega)⟩
  have h34 := ne_of_beq_false h34
  refine sr (g0 2 [(2,pt b1 0),(3,pt (b1+1) 0),(4,pt (b1+1+1) 0),(6,pt b8 0),(64,.bool (zb_0 == 4))] [gz,gz] rfl (en rfl (cd (zb_0 == 4) (fun h53 => ?_) (fun h53 => ?_))))
  · have h53 := eq_of_beq h53
    refine Ok.seq (sr (g0 3 [(2,pt b1 0),(4,pt (b1+1+1) 0),(6,pt b8 0),(68,.bool (zra_2y7 != 2))] [gz,.g [.K 3 2],gz] rfl (en rfl (cd (zra_2y7 != 2) (fun h55 => ?_) (fun h55 => ?_)))))
    · refine sr (g0 3 [(4,pt (b1+1+1) 0),(5,iw 62)] [gz,.g [.K 2 0,.K 2 1],gz] rfl (en rfl (Ok.ret_ (Ok.thenR (Ok.blkR (Ok.thenR ?_))))))
      exact Ok.ret2c le5 [.K 2 0,.K 2 1] (.agg #[n0,iw 0]) (iw 62) [b1+1+1,b1+1+1] rfl (by kernel_rfl) rfl ⟨none,0,0,0,62,rfl,(WfS.nil _ _),(by omega)⟩
    refine skn (sr (g1 2 [(2,pt b1 0),(4,pt (b1+1+1) 0),(6,pt b8 0)] [.blk b1 [.slice Aa_0 na_0 ca_0,iw za_1] 34,.blk (b1+1) [iw zb_0,iw zb_1,iw zb_2,.string sb_3,.string sb_4,iw zb_5,iw zb_6,.string sb_7] 105,.blk (b1+1+1) [n0,iw 0] 34,.blk b8 [iw zra_0y7,.string sra_1y7,iw 3,iw zra_3y7] 41] [gz,.g [.K 3 2]] rfl (en rfl (sr (g0 2 [(4,pt (b1+1+1) 0),(71,.agg #[.slice Aa_0 na_0 ca_0,iw za_1]),(72,.agg #[iw zra_0y7,.string sra_1y7,iw 3,iw zra_3y7])] [.g [.K 0 0,.K 0 1],.g [.K 3 0,.K 3 1,.K 3 2,.K 3 3]] rfl (ef 3 rfl (ca (some 73) (c119 H4 Aa_0 (na_0) (ca_0) za_1 zra_0y7 sra_1y7 3 zra_3y7 (WfS.mono le5 ha_0) tra_1y7 (by omega)) ?_)))))))
    rintro v59 H60 k62 le61 ⟨Ara_0y63,nra_0y63,cra_0y63,zra_1y63,rfl,hra_0y63,py63_0⟩
    have lhra_0y63 := hra_0y63.1
    refine g1 5 [(4,pt (b1+1+1) 0),(5,iw 0)] [.blk b1 [.slice Aa_0 na_0 ca_0,iw za_1] 34,.blk (b1+1) [iw zb_0,iw zb_1,iw zb_2,.string sb_3,.string sb_4,iw zb_5,iw zb_6,.string sb_7] 105,.blk (b1+1+1) [.slice Ara_0y63 nra_0y63 cra_0y63,iw zra_1y63] 34,.blk b8 [iw zra_0y7,.string sra_1y7,iw 3,iw zra_3y7] 41] [.g [.K 2 0,.K 2 1],gz] rfl (en rfl (Ok.ret_ (Ok.blkR (Ok.thenR ?_))))
    exact Ok.ret2c (tr le5 le61) [.K 2 0,.K 2 1] (.agg #[.slice Ara_0y63 nra_0y63 cra_0y63,iw zra_1y63]) (iw 0) [b1+1+1,b1+1+1] rfl (by kernel_rfl) rfl ⟨Ara_0y63,nra_0y63,cra_0y63,zra_1y63,0,rfl,hra_0y63,(by omega)⟩
  have h53 := ne_of_beq_false h53
  refine Ok.skip_ (Ok.blkN (Ok.thenN (sr (g0 4 [(4,pt (b1+1+1) 0),(74,.agg #[.slice Aa_0 na_0 ca_0,iw za_1]),(75,.agg #[iw zra_0y7,.string sra_1y7,iw zra_2y7,iw zra_3y7]),(77,iw zb_6)] [.g [.K 0 0,.K 0 1],.g [.K 3 0,.K 3 1,.K 3 2,.K 3 3],gz,.g [.K 1 6]] rfl (ef 5 rfl (ca (some 78) (c120 H4 Aa_0 (na_0) (ca_0) za_1 zra_0y7 sra_1y7 zra_2y7 zra_3y7 zb_6 (WfS.mono le5 ha_0) tra_1y7 (by omega)) ?_))))))
  rintro v66 H67 k69 le68 ⟨Ara_0y70,nra_0y70,cra_0y70,zra_1y70,zrb_0y70,rfl,hra_0y70,py70_0⟩
  have lhra_0y70 := hra_0y70.1
  refine g1 9 [(4,pt (b1+1+1) 0),(5,iw zrb_0y70)] [.blk b1 [.slice Aa_0 na_0 ca_0,iw za_1] 34,.blk (b1+1) [iw zb_0,iw zb_1,iw zb_2,.string sb_3,.string sb_4,iw zb_5,iw zb_6,.string sb_7] 105,.blk (b1+1+1) [.slice Ara_0y70 nra_0y70 cra_0y70,iw zra_1y70] 34,.blk b8 [iw zra_0y7,.string sra_1y7,iw zra_2y7,iw zra_3y7] 41] [gz,gz,.g [.K 2 0,.K 2 1],gz] rfl (en rfl (Ok.ret_ ?_))
  exact Ok.ret2c (tr le5 le68) [.K 2 0,.K 2 1] (.agg #[.slice Ara_0y70 nra_0y70 cra_0y70,iw zra_1y70]) (iw zrb_0y70) [b1+1+1,b1+1+1] rfl (by kernel_rfl) rfl ⟨Ara_0y70,nra_0y70,cra_0y70,zra_1y70,zrb_0y70,rfl,hra_0y70,(by omega)⟩
theorem c82 (H : Snap) (Aa_0 : Option Addr) (na_0 : Nat) (ca_0 : Nat) (za_1 : Int) (zb_0 : Int) (zb_1 : Int) (zb_2 : Int) (sb_3 : ByteArray) (sb_4 : ByteArray) (zb_5 : Int) (zb_6 : Int) (sb_7 : ByteArray) (ha_0 : WfS H el41 Aa_0 na_0) (tb_3 : sb_3.size < 9223372036854775808) (tb_4 : sb_4.size < 9223372036854775808) (tb_7 : sb_7.size < 9223372036854775808) (hq0 : na_0 ≤ 900) : Does Tryz.prog 82 [.agg #[.slice Aa_0 na_0 ca_0,iw za_1],.agg #[iw zb_0,iw zb_1,iw zb_2,.string sb_3,.string sb_4,iw zb_5,iw zb_6,.string sb_7]] H [] (fun v H' kp => ∃ (Ara_0 : Option Addr) (nra_0 : Nat) (cra_0 : Nat) (zra_1 : Int) (zrb_0 : Int),v = .tuple #[.agg #[.slice Ara_0 nra_0 cra_0,iw zra_1],iw zrb_0] ∧ WfS H' el41 Ara_0 nra_0 ∧ nra_0 ≤ na_0 + 2) := by
  have lha_0 := ha_0.1
  refine Does.of Tryz.func82 rfl rfl rfl rfl (fun w0 H0 kx => ?_)
  refine sr (g4 4 (fun b1 => [(2,pt b1 0),(3,pt (b1+1) 0),(4,pt (b1+1+1) 0)]) (fun b1 => [.blk b1 [.slice Aa_0 na_0 ca_0,iw za_1] 34,.blk (b1+1) [iw zb_0,iw zb_1,iw zb_2,.string sb_3,.string sb_4,iw zb_5,iw zb_6,.string sb_7] 105,.blk (b1+1+1) [n0,iw 0] 34]) [.g [.N],.g [.N],.g [.N],gz] rfl (fun b1 => (en rfl ?_)))
  refine sr (g0 3 [(2,pt b1 0),(3,pt (b1+1) 0),(4,pt (b1+1+1) 0),(11,.agg #[.slice Aa_0 na_0 ca_0,iw za_1]),(13,iw zb_1)] [.g [.K 0 0,.K 0 1],gz,.g [.K 1 1]] rfl (ef 4 rfl (ca (some 14) (c6 H Aa_0 (na_0) (ca_0) za_1 zb_1 ha_0) ?_)))
  rintro v3 H4 k6 le5 ⟨zra_0y7,sra_1y7,zra_2y7,zra_3y7,brb_0y7,rfl,tra_1y7⟩
  refine g4 10 (fun b8 => [(2,pt b1 0),(3,pt (b1+1) 0),(4,pt (b1+1+1) 0),(6,pt b8 0),(7,.bool brb_0y7)]) (fun b8 => [.blk b1 [.slice Aa_0 na_0 ca_0,iw za_1] 34,.blk (b1+1) [iw zb_0,iw zb_1,iw zb_2,.string sb_3,.string sb_4,iw zb_5,iw zb_6,.string sb_7] 105,.blk (b1+1+1) [n0,iw 0] 34,.blk b8 [iw zra_0y7,.string sra_1y7,iw zra_2y7,iw zra_3y7] 41]) [gz,gz,gz,.g [.N],.g [.K 3 0,.K 3 1,.K 3 2,.K 3 3],gz] rfl (fun b8 => (en rfl ?_))
  refine Ok.seq (sr (g0 2 [(2,pt b1 0),(3,pt (b1+1) 0),(4,pt (b1+1+1) 0),(6,pt b8 0),(18,.bool (!brb_0y7))] [gz,gz] rfl (en rfl (cd (!brb_0y7) (fun h10 => ?_) (fun h10 => ?_)))))
  · refine sr (g0 3 [(4,pt (b1+1+1) 0),(5,iw 61)] [gz,.g [.K 2 0,.K 2 1],gz] rfl (Ok.mask [false,false,true,false] [.blk (b1+1+1) [n0,iw 0] 34] rfl ?_))
    refine en rfl (Ok.ret_ (Ok.thenR ?_))
    exact Ok.ret2c le5 [.K 0 0,.K 0 1] (.agg #[n0,iw 0]) (iw 61) [b1+1+1,b1+1+1] rfl (by kernel_rfl) rfl ⟨none,0,0,0,61,rfl,(WfS.nil _ _),(by omega)⟩
  refine skn (Ok.seq (sr (g0 3 [(2,pt b1 0),(3,pt (b1+1) 0),(4,pt (b1+1+1) 0),(6,pt b8 0),(22,.bool (zra_2y7 != 4))] [gz,.g [.K 3 2],gz] rfl (en rfl (cd (zra_2y7 != 4) (fun h13 => ?_) (fun h13 => ?_))))))
  · refine sr (g0 3 [(4,pt (b1+1+1) 0),(5,iw 7)] [gz,.g [.K 2 0,.K 2 1],gz] rfl (Ok.mask [false,false,true,false] [.blk (b1+1+1) [n0,iw 0] 34] rfl ?_))
    refine en rfl (Ok.ret_ (Ok.thenR ?_))
    exact Ok.ret2c le5 [.K 0 0,.K 0 1] (.agg #[n0,iw 0]) (iw 7) [b1+1+1,b1+1+1] rfl (by kernel_rfl) rfl ⟨none,0,0,0,7,rfl,(WfS.nil _ _),(by omega)⟩
  refine skn (Ok.seq (sr (g0 2 [(2,pt b1 0),(3,pt (b1+1) 0),(4,pt (b1+1+1) 0),(6,pt b8 0),(25,.string sb_7)] [gz,.g [.K 1 7]] rfl (ef 3 rfl (ca (some 26) (c86 H4 sb_7 tb_7) ?_)))))
  rintro v16 H17 k19 le18 ⟨bra_0y20,rfl⟩
  refine g0 4 [(2,pt b1 0),(3,pt (b1+1) 0),(4,pt (b1+1+1) 0),(6,pt b8 0),(27,.bool (!bra_0y20))] [gz] rfl (en rfl (cd (!bra_0y20) (fun h22 => ?_) (fun h22 => ?_)))
  · refine sr (g0 3 [(4,pt (b1+1+1) 0),(5,iw 1)] [gz,.g [.K 2 0,.K 2 1],gz] rfl (Ok.mask [false,false,true,false] [.blk (b1+1+1) [n0,iw 0] 34] rfl ?_))
    refine en rfl (Ok.ret_ (Ok.thenR ?_))
    exact Ok.ret2c (tr le5 le18) [.K 0 0,.K 0 1] (.agg #[n0,iw 0]) (iw 1) [b1+1+1,b1+1+1] rfl (by kernel_rfl) rfl ⟨none,0,0,0,1,rfl,(WfS.nil _ _),(by omega)⟩
  refine skn (sr (g4 7 (fun b24 => [(2,pt b1 0),(3,pt (b1+1) 0),(4,pt (b1+1+1) 0),(6,pt b8 0),(8,pt b24 0)]) (fun b24 => [.blk b1 [.slice Aa_0 na_0 ca_0,iw za_1] 34,.blk (b1+1) [iw zb_0,iw zb_1,iw zb_2,.string sb_3,.string sb_4,iw zb_5,iw zb_6,.string sb_7] 105,.blk (b1+1+1) [n0,iw 0] 34,.blk b8 [iw zra_0y7,.string sra_1y7,iw zra_2y7,iw zra_3y7] 41,.blk b24 [iw 0,.string sb_3,iw 4,iw zra_3y7] 41]) [gz,.g [.K 1 3],gz,.g [.K 3 3],gz,.g [.N],.g [.K 4 0,.K 4 1,.K 4 2,.K 4 3]] rfl (fun b24 => (en rfl ?_))))
  refine sr (g4 7 (fun b25 => [(2,pt b1 0),(3,pt (b1+1) 0),(4,pt (b1+1+1) 0),(6,pt b8 0),(8,pt b24 0),(9,pt b25 0)]) (fun b25 => [.blk b1 [.slice Aa_0 na_0 ca_0,iw za_1] 34,.blk (b1+1) [iw zb_0,iw zb_1,iw zb_2,.string sb_3,.string sb_4,iw zb_5,iw zb_6,.string sb_7] 105,.blk (b1+1+1) [n0,iw 0] 34,.blk b8 [iw zra_0y7,.string sra_1y7,iw zra_2y7,iw zra_3y7] 41,.blk b24 [iw 0,.string sb_3,iw 4,iw zra_3y7] 41,.blk b25 [iw 0,.string sb_4,iw 4,iw zra_3y7] 41]) [gz,.g [.K 1 4],gz,.g [.K 3 3],gz,.g [.N],.g [.K 5 0,.K 5 1,.K 5 2,.K 5 3]] rfl (fun b25 => (en rfl ?_)))
  refine Ok.seq (sr (g0 7 [(2,pt b1 0),(3,pt (b1+1) 0),(4,pt (b1+1+1) 0),(6,pt b8 0),(8,pt b24 0),(9,pt b25 0),(39,.agg #[.slice Aa_0 na_0 ca_0,iw za_1]),(40,.agg #[iw 0,.string sb_3,iw 4,iw zra_3y7]),(45,.agg #[iw zra_0y7,iw zra_0y7])] [.g [.K 0 0,.K 0 1],.g [.K 4 0,.K 4 1,.K 4 2,.K 4 3],gz,.g [.K 3 0],gz,.g [.K 3 0],gz] rfl (ef 8 rfl (ca (some 46) (c116 H17 Aa_0 (na_0) (ca_0) za_1 0 sb_3 4 zra_3y7 zra_0y7 zra_0y7 (WfS.mono (tr le5 le18) ha_0) tb_3) ?_))))
  rintro v27 H28 k30 le29 ⟨bra_0y31,rfl⟩
  refine g0 9 [(2,pt b1 0),(3,pt (b1+1) 0),(4,pt (b1+1+1) 0),(6,pt b8 0),(8,pt b24 0),(9,pt b25 0),(47,.bool bra_0y31)] [gz] rfl (cs bra_0y31 [47] (fun h33 => ?_) (fun h33 => ?_))
  · refine g0 25 [(2,pt b1 0),(4,pt (b1+1+1) 0),(6,pt b8 0),(8,pt b24 0),(9,pt b25 0),(63,bT)] [gz,gz,gz,gz,gz,gz,gz,gz,gz,gz,gz,gz,gz,gz,gz,gz] rfl (en rfl (cT (sr (g0 3 [(4,pt (b1+1+1) 0),(5,iw 60)] [gz,.g [.K 2 0,.K 2 1],gz] rfl (Ok.mask [false,false,true,false,false,false] [.blk (b1+1+1) [n0,iw 0] 34] rfl (en rfl (Ok.ret_ (Ok.thenR ?_))))))))
    exact Ok.ret2c (tr le5 (tr le18 le29)) [.K 0 0,.K 0 1] (.agg #[n0,iw 0]) (iw 60) [b1+1+1,b1+1+1] rfl (by kernel_rfl) rfl ⟨none,0,0,0,60,rfl,(WfS.nil _ _),(by omega)⟩
  refine g0 16 [(2,pt b1 0),(3,pt (b1+1) 0),(4,pt (b1+1+1) 0),(6,pt b8 0),(8,pt b24 0),(9,pt b25 0),(47,bF),(48,.agg #[.slice Aa_0 na_0 ca_0,iw za_1]),(49,.agg #[iw 0,.string sb_4,iw 4,iw zra_3y7]),(54,.agg #[iw zra_0y7,iw zra_0y7])] [.g [.K 0 0,.K 0 1],.g [.K 5 0,.K 5 1,.K 5 2,.K 5 3],gz,.g [.K 3 0],gz,.g [.K 3 0],gz] rfl (ef 17 rfl (ca (some 55) (c116 H28 Aa_0 (na_0) (ca_0) za_1 0 sb_4 4 zra_3y7 zra_0y7 zra_0y7 (WfS.mono (tr le5 (tr le18 le29)) ha_0) tb_4) ?_))
  rintro v37 H38 k40 le39 ⟨bra_0y41,rfl⟩
  refine g0 19 [(2,pt b1 0),(3,pt (b1+1) 0),(4,pt (b1+1+1) 0),(6,pt b8 0),(8,pt b24 0),(9,pt b25 0),(57,.bool bra_0y41)] [gz,gz] rfl (cs bra_0y41 [57] (fun h43 => ?_) (fun h43 => ?_))
  · refine g0 25 [(2,pt b1 0),(4,pt (b1+1+1) 0),(6,pt b8 0),(8,pt b24 0),(9,pt b25 0),(63,bT)] [gz,gz,gz,gz,gz,gz] rfl (en rfl (cT (sr (g0 3 [(4,pt (b1+1+1) 0),(5,iw 60)] [gz,.g [.K 2 0,.K 2 1],gz] rfl (Ok.mask [false,false,true,false,false,false] [.blk (b1+1+1) [n0,iw 0] 34] rfl (en rfl (Ok.ret_ (Ok.thenR ?_))))))))
    exact Ok.ret2c (tr le5 (tr le18 (tr le29 le39))) [.K 0 0,.K 0 1] (.agg #[n0,iw 0]) (iw 60) [b1+1+1,b1+1+1] rfl (by kernel_rfl) rfl ⟨none,0,0,0,60,rfl,(WfS.nil _ _),(by omega)⟩
  refine g0 25 [(2,pt b1 0),(4,pt (b1+1+1) 0),(6,pt b8 0),(8,pt b24 0),(9,pt b25 0),(63,.bool (sb_3.toList == sb_4.toList))] [gz,.g [.K 1 3],gz,.g [.K 1 4],gz,gz] rfl (en rfl (cd (sb_3.toList == sb_4.toList) (fun h47 => ?_) (fun h47 => ?_)))
  · refine sr (g0 3 [(4,pt (b1+1+1) 0),(5,iw 60)] [gz,.g [.K 2 0,.K 2 1],gz] rfl (Ok.mask [false,false,true,false,false,false] [.blk (b1+1+1) [n0,iw 0] 34] rfl ?_))
    refine en rfl (Ok.ret_ (Ok.thenR ?_))
    exact Ok.ret2c (tr le5 (tr le18 (tr le29 le39))) [.K 0 0,.K 0 1] (.agg #[n0,iw 0]) (iw 60) [b1+1+1,b1+1+1] rfl (by kernel_rfl) rfl ⟨none,0,0,0,60,rfl,(WfS.nil _ _),(by omega)⟩
  refine skn (Ok.seq (Ok.seq (Ok.regJ (ι := Bool) (fun y50 => [(2,pt b1 0),(4,pt (b1+1+1) 0),(6,pt b8 0),(8,pt b24 0),(9,pt b25 0),(73,.bool y50)]) ?_ (fun J49 => ?_))))
  · rintro bJ49_73
    refine Ok.thenN (cd bJ49_73 (fun h51 => ?_) (fun h51 => ?_))
    · refine sr (g0 3 [(4,pt (b1+1+1) 0),(5,iw 2)] [gz,.g [.K 2 0,.K 2 1],gz] rfl (Ok.mask [false,false,true,false,false,false] [.blk (b1+1+1) [n0,iw 0] 34] rfl ?_))
      refine en rfl (Ok.ret_ (Ok.thenR ?_))
      exact Ok.ret2c (tr le5 (tr le18 (tr le29 le39))) [.K 0 0,.K 0 1] (.agg #[n0,iw 0]) (iw 2) [b1+1+1,b1+1+1] rfl (by kernel_rfl) rfl ⟨none,0,0,0,2,rfl,(WfS.nil _ _),(by omega)⟩
    refine skn (Ok.seq (st [0,1,3,4,5] [] 13 ?_))
    refine tk 5 [(0,.g [.K 0 0,.K 0 1]),(1,gz),(2,.g [.K 2 0]),(3,gz),(4,.g [.K 2 0]),(5,gz),(7,.g [.K 3 0,.K 3 1,.K 3 2,.K 3 3]),(9,.g [.K 4 0,.K 4 1,.K 4 2,.K 4 3])] [(4,pt (b1+1+1) 0),(75,.agg #[.slice Aa_0 na_0 ca_0,iw za_1]),(80,.agg #[iw zra_0y7,iw zra_0y7]),(82,.agg #[iw 0,.string sb_3,iw 4,iw zra_3y7]),(84,.agg #[iw 0,.string sb_4,iw 4,iw zra_3y7])] rfl ?_
    refine on 6 4 rfl (ca (some 81) (c118 H38 Aa_0 (na_0) (ca_0) za_1 zra_0y7 zra_0y7 (WfS.mono (tr le5 (tr le18 (tr le29 le39))) ha_0) (by omega)) ?_)
    rintro v53 H54 k56 le55 ⟨Ara_0y57,nra_0y57,cra_0y57,zra_1y57,rfl,hra_0y57,py57_0⟩
    have lhra_0y57 := hra_0y57.1
    refine ws [0,1,3,4,5] le55 ?_
    refine on 8 3 rfl (ca (some 83) (c117 H54 Ara_0y57 (nra_0y57) (cra_0y57) zra_1y57 0 sb_3 4 zra_3y7 hra_0y57 tb_3 (by omega)) ?_)
    rintro v58 H59 k61 le60 ⟨Ara_0y62,nra_0y62,cra_0y62,zra_1y62,rfl,hra_0y62,py62_0⟩
    have lhra_0y62 := hra_0y62.1
    refine ws [0,1,3,4,5] (tr le55 le60) ?_
    refine on 10 2 rfl (ca (some 85) (c117 H59 Ara_0y62 (nra_0y62) (cra_0y62) zra_1y62 0 sb_4 4 zra_3y7 hra_0y62 tb_4 (by omega)) ?_)
    rintro v63 H64 k66 le65 ⟨Ara_0y67,nra_0y67,cra_0y67,zra_1y67,rfl,hra_0y67,py67_0⟩
    have lhra_0y67 := hra_0y67.1
    refine ws [0,1,3,4,5] (tr le55 (tr le60 le65)) ?_
    refine on 11 1 rfl (e1 (.g [.K 2 0,.K 2 1]) [(4,pt (b1+1+1) 0)] [.blk b1 [.slice Aa_0 na_0 ca_0,iw za_1] 34,.blk (b1+1) [iw zb_0,iw zb_1,iw zb_2,.string sb_3,.string sb_4,iw zb_5,iw zb_6,.string sb_7] 105,.blk (b1+1+1) [.slice Ara_0y67 nra_0y67 cra_0y67,iw zra_1y67] 34,.blk b8 [iw zra_0y7,.string sra_1y7,iw zra_2y7,iw zra_3y7] 41,.blk b24 [iw 0,.string sb_3,iw 4,iw zra_3y7] 41,.blk b25 [iw 0,.string sb_4,iw 4,iw zra_3y7] 41] ?_)
    refine ws [0,1,3,4,5] (tr le55 (tr le60 le65)) ?_
    refine on 12 0 rfl (e0 (gz) [(4,pt (b1+1+1) 0),(5,iw 0)] ?_)
    refine ws [0,1,3,4,5] (tr le55 (tr le60 le65)) ?_
    refine dn (Ok.ret_ ?_)
    exact Ok.ret2c (tr le5 (tr le18 (tr le29 (tr le39 (tr le55 (tr le60 le65)))))) [.K 2 0,.K 2 1] (.agg #[.slice Ara_0y67 nra_0y67 cra_0y67,iw zra_1y67]) (iw 0) [b1+1+1,b1+1+1] rfl (by kernel_rfl) rfl ⟨Ara_0y67,nra_0y67,cra_0y67,zra_1y67,0,rfl,hra_0y67,(by omega)⟩
  refine g0 5 [(2,pt b1 0),(4,pt (b1+1+1) 0),(6,pt b8 0),(8,pt b24 0),(9,pt b25 0),(69,.bool (decide (((na_0 : Nat) : Int) ≥ 64)))] [gz,.g [.K 0 0],gz,gz,gz] rfl (cs (decide (((na_0 : Nat) : Int) ≥ 64)) [69] (fun h71 => ?_) (fun h71 => ?_))
  · have h71 := of_decide_eq_true h71
    refine g0 9 [(2,pt b1 0),(4,pt (b1+1+1) 0),(6,pt b8 0),(8,pt b24 0),(9,pt b25 0),(73,bT)] [gz,gz,gz,gz] rfl (Ok.segEnd rfl (Ok.restr [2,4,6,8,9,73] [(2,pt b1 0),(4,pt (b1+1+1) 0),(6,pt b8 0),(8,pt b24 0),(9,pt b25 0),(73,bT)] rfl ?_))
    exact J49 (true)
  have h71 := of_decide_eq_false h71
  refine g0 9 [(2,pt b1 0),(4,pt (b1+1+1) 0),(6,pt b8 0),(8,pt b24 0),(9,pt b25 0),(73,.bool (decide (za_1 > 1073741822)))] [gz,.g [.K 0 1],gz,gz] rfl (Ok.segEnd rfl (Ok.restr [2,4,6,8,9,73] [(2,pt b1 0),(4,pt (b1+1+1) 0),(6,pt b8 0),(8,pt b24 0),(9,pt b25 0),(73,.bool (decide (za_1 > 1073741822)))] rfl ?_))
  exact J49 ((decide (za_1 > 1073741822)))
theorem c83 (H : Snap) (Aa_0 : Option Addr) (na_0 : Nat) (ca_0 : Nat) (za_1 : Int) (zb_0 : Int) (zb_1 : Int) (zb_2 : Int) (sb_3 : ByteArray) (sb_4 : ByteArray) (zb_5 : Int) (zb_6 : Int) (sb_7 : ByteArray) (ha_0 : WfS H el41 Aa_0 na_0) (tb_3 : sb_3.size < 9223372036854775808) (tb_4 : sb_4.size < 9223372036854775808) (tb_7 : sb_7.size < 9223372036854775808) (hq0 : na_0 ≤ 900) : Does Tryz.prog 83 [.agg #[.slice Aa_0 na_0 ca_0,iw za_1],.agg #[iw zb_0,iw zb_1,iw zb_2,.string sb_3,.string sb_4,iw zb_5,iw zb_6,.string sb_7]] H [] (fun v H' kp => ∃ (Ara_0 : Option Addr) (nra_0 : Nat) (cra_0 : Nat) (zra_1 : Int) (zrb_0 : Int),v = .tuple #[.agg #[.slice Ara_0 nra_0 cra_0,iw zra_1],iw zrb_0] ∧ WfS H' el41 Ara_0 nra_0 ∧ nra_0 ≤ na_0 + 2) := by
  have lha_0 := ha_0.1
  refine Does.of Tryz.func83 rfl rfl rfl rfl (fun w0 H0 kx => ?_)
  refine sr (g4 4 (fun b1 => [(2,pt b1 0),(3,pt (b1+1) 0),(4,pt (b1+1+1) 0)]) (fun b1 => [.blk b1 [.slice Aa_0 na_0 ca_0,iw za_1] 34,.blk (b1+1) [iw zb_0,iw zb_1,iw zb_2,.string sb_3,.string sb_4,iw zb_5,iw zb_6,.string sb_7] 105,.blk (b1+1+1) [n0,iw 0] 34]) [.g [.N],.g [.N],.g [.N],gz] rfl (fun b1 => (en rfl ?_)))
  refine sr (g0 3 [(2,pt b1 0),(3,pt (b1+1) 0),(4,pt (b1+1+1) 0),(12,.agg #[.slice Aa_0 na_0 ca_0,iw za_1]),(14,iw zb_1)] [.g [.K 0 0,.K 0 1],gz,.g [.K 1 1]] rfl (ef 4 rfl (ca (some 15) (c6 H Aa_0 (na_0) (ca_0) za_1 zb_1 ha_0) ?_)))
  rintro v3 H4 k6 le5 ⟨zra_0y7,sra_1y7,zra_2y7,zra_3y7,brb_0y7,rfl,tra_1y7⟩
  refine g4 10 (fun b8 => [(2,pt b1 0),(3,pt (b1+1) 0),(4,pt (b1+1+1) 0),(6,pt b8 0),(7,.bool brb_0y7)]) (fun b8 => [.blk b1 [.slice Aa_0 na_0 ca_0,iw za_1] 34,.blk (b1+1) [iw zb_0,iw zb_1,iw zb_2,.string sb_3,.string sb_4,iw zb_5,iw zb_6,.string sb_7] 105,.blk (b1+1+1) [n0,iw 0] 34,.blk b8 [iw zra_0y7,.string sra_1y7,iw zra_2y7,iw zra_3y7] 41]) [gz,gz,gz,.g [.N],.g [.K 3 0,.K 3 1,.K 3 2,.K 3 3],gz] rfl (fun b8 => (en rfl ?_))
  refine sr (g0 3 [(2,pt b1 0),(3,pt (b1+1) 0),(4,pt (b1+1+1) 0),(6,pt b8 0),(7,.bool brb_0y7),(19,.agg #[.slice Aa_0 na_0 ca_0,iw za_1]),(21,iw zb_2)] [.g [.K 0 0,.K 0 1],gz,.g [.K 1 2]] rfl (ef 4 rfl (ca (some 22) (c6 H4 Aa_0 (na_0) (ca_0) za_1 zb_2 (WfS.mono le5 ha_0)) ?_)))
  rintro v10 H11 k13 le12 ⟨zra_0y14,sra_1y14,zra_2y14,zra_3y14,brb_0y14,rfl,tra_1y14⟩
  refine g4 10 (fun b15 => [(2,pt b1 0),(3,pt (b1+1) 0),(4,pt (b1+1+1) 0),(6,pt b8 0),(7,.bool brb_0y7),(8,pt b15 0),(9,.bool brb_0y14)]) (fun b15 => [.blk b1 [.slice Aa_0 na_0 ca_0,iw za_1] 34,.blk (b1+1) [iw zb_0,iw zb_1,iw zb_2,.string sb_3,.string sb_4,iw zb_5,iw zb_6,.string sb_7] 105,.blk (b1+1+1) [n0,iw 0] 34,.blk b8 [iw zra_0y7,.string sra_1y7,iw zra_2y7,iw zra_3y7] 41,.blk b15 [iw zra_0y14,.string sra_1y14,iw zra_2y14,iw zra_3y14] 41]) [gz,gz,gz,.g [.N],.g [.K 4 0,.K 4 1,.K 4 2,.K 4 3],gz] rfl (fun b15 => (en rfl ?_))
  refine Ok.seq (Ok.seq (Ok.regJ (ι := Bool) (fun y17 => [(2,pt b1 0),(3,pt (b1+1) 0),(4,pt (b1+1+1) 0),(6,pt b8 0),(8,pt b15 0),(37,.bool y17)]) ?_ (fun J16 => ?_)))
  · rintro bJ16_37
    refine Ok.thenN (cd bJ16_37 (fun h18 => ?_) (fun h18 => ?_))
    · refine sr (g0 3 [(4,pt (b1+1+1) 0),(5,iw 61)] [gz,.g [.K 2 0,.K 2 1],gz] rfl (Ok.mask [false,false,true,false,false] [.blk (b1+1+1) [n0,iw 0] 34] rfl ?_))
      refine en rfl (Ok.ret_ (Ok.thenR ?_))
      exact Ok.ret2c (tr le5 le12) [.K 0 0,.K 0 1] (.agg #[n0,iw 0]) (iw 61) [b1+1+1,b1+1+1] rfl (by kernel_rfl) rfl ⟨none,0,0,0,61,rfl,(WfS.nil _ _),(by omega)⟩
    refine skn (Ok.seq (Ok.seq (Ok.regJ (ι := Bool) (fun y21 => [(2,pt b1 0),(3,pt (b1+1) 0),(4,pt (b1+1+1) 0),(6,pt b8 0),(8,pt b15 0),(46,.bool y21)]) ?_ (fun J20 => ?_))))
    · rintro bJ20_46
      refine Ok.thenN (cd bJ20_46 (fun h22 => ?_) (fun h22 => ?_))
      · refine sr (g0 3 [(4,pt (b1+1+1) 0),(5,iw 7)] [gz,.g [.K 2 0,.K 2 1],gz] rfl (Ok.mask [false,false,true,false,false] [.blk (b1+1+1) [n0,iw 0] 34] rfl ?_))
        refine en rfl (Ok.ret_ (Ok.thenR ?_))
        exact Ok.ret2c (tr le5 le12) [.K 0 0,.K 0 1] (.agg #[n0,iw 0]) (iw 7) [b1+1+1,b1+1+1] rfl (by kernel_rfl) rfl ⟨none,0,0,0,7,rfl,(WfS.nil _ _),(by omega)⟩
      refine skn (Ok.seq (sr (g0 5 [(2,pt b1 0),(3,pt (b1+1) 0),(4,pt (b1+1+1) 0),(6,pt b8 0),(8,pt b15 0),(52,.bool (zra_3y7 != zra_3y14))] [gz,.g [.K 3 3],gz,.g [.K 4 3],gz] rfl (en rfl (cd (zra_3y7 != zra_3y14) (fun h25 => ?_) (fun h25 => ?_))))))
      · refine sr (g0 3 [(4,pt (b1+1+1) 0),(5,iw 63)] [gz,.g [.K 2 0,.K 2 1],gz] rfl (Ok.mask [false,false,true,false,false] [.blk (b1+1+1) [n0,iw 0] 34] rfl ?_))
        refine en rfl (Ok.ret_ (Ok.thenR ?_))
        exact Ok.ret2c (tr le5 le12) [.K 0 0,.K 0 1] (.agg #[n0,iw 0]) (iw 63) [b1+1+1,b1+1+1] rfl (by kernel_rfl) rfl ⟨none,0,0,0,63,rfl,(WfS.nil _ _),(by omega)⟩
      refine skn (Ok.seq (sr (g0 2 [(2,pt b1 0),(3,pt (b1+1) 0),(4,pt (b1+1+1) 0),(6,pt b8 0),(8,pt b15 0),(55,.string sb_7)] [gz,.g [.K 1 7]] rfl (ef 3 rfl (ca (some 56) (c86 H11 sb_7 tb_7) ?_)))))
      rintro v28 H29 k31 le30 ⟨bra_0y32,rfl⟩
      refine g0 4 [(2,pt b1 0),(3,pt (b1+1) 0),(4,pt (b1+1+1) 0),(6,pt b8 0),(8,pt b15 0),(57,.bool (!bra_0y32))] [gz] rfl (en rfl (cd (!bra_0y32) (fun h34 => ?_) (fun h34 => ?_)))
      · refine sr (g0 3 [(4,pt (b1+1+1) 0),(5,iw 1)] [gz,.g [.K 2 0,.K 2 1],gz] rfl (Ok.mask [false,false,true,false,false] [.blk (b1+1+1) [n0,iw 0] 34] rfl ?_))
        refine en rfl (Ok.ret_ (Ok.thenR ?_))
        exact Ok.ret2c (tr le5 (tr le12 le30)) [.K 0 0,.K 0 1] (.agg #[n0,iw 0]) (iw 1) [b1+1+1,b1+1+1] rfl (by kernel_rfl) rfl ⟨none,0,0,0,1,rfl,(WfS.nil _ _),(by omega)⟩
      refine skn (sr (g4 7 (fun b36 => [(2,pt b1 0),(4,pt (b1+1+1) 0),(6,pt b8 0),(8,pt b15 0),(10,pt b36 0)]) (fun b36 => [.blk b1 [.slice Aa_0 na_0 ca_0,iw za_1] 34,.blk (b1+1) [iw zb_0,iw zb_1,iw zb_2,.string sb_3,.string sb_4,iw zb_5,iw zb_6,.string sb_7] 105,.blk (b1+1+1) [n0,iw 0] 34,.blk b8 [iw zra_0y7,.string sra_1y7,iw zra_2y7,iw zra_3y7] 41,.blk b15 [iw zra_0y14,.string sra_1y14,iw zra_2y14,iw zra_3y14] 41,.blk b36 [iw 0,.string sb_3,iw 4,iw zra_3y7] 41]) [gz,.g [.K 1 3],gz,.g [.K 3 3],gz,.g [.N],.g [.K 5 0,.K 5 1,.K 5 2,.K 5 3]] rfl (fun b36 => (en rfl ?_))))
      refine Ok.seq (sr (g0 7 [(2,pt b1 0),(4,pt (b1+1+1) 0),(6,pt b8 0),(8,pt b15 0),(10,pt b36 0),(64,.agg #[.slice Aa_0 na_0 ca_0,iw za_1]),(65,.agg #[iw 0,.string sb_3,iw 4,iw zra_3y7]),(70,.agg #[iw zra_0y7,iw zra_0y14])] [.g [.K 0 0,.K 0 1],.g [.K 5 0,.K 5 1,.K 5 2,.K 5 3],gz,.g [.K 3 0],gz,.g [.K 4 0],gz] rfl (ef 8 rfl (ca (some 71) (c116 H29 Aa_0 (na_0) (ca_0) za_1 0 sb_3 4 zra_3y7 zra_0y7 zra_0y14 (WfS.mono (tr le5 (tr le12 le30)) ha_0) tb_3) ?_))))
      rintro v38 H39 k41 le40 ⟨bra_0y42,rfl⟩
      refine en rfl (cd bra_0y42 (fun h44 => ?_) (fun h44 => ?_))
      · refine sr (g0 3 [(4,pt (b1+1+1) 0),(5,iw 60)] [gz,.g [.K 2 0,.K 2 1],gz] rfl (Ok.mask [false,false,true,false,false,false] [.blk (b1+1+1) [n0,iw 0] 34] rfl ?_))
        refine en rfl (Ok.ret_ (Ok.thenR ?_))
        exact Ok.ret2c (tr le5 (tr le12 (tr le30 le40))) [.K 0 0,.K 0 1] (.agg #[n0,iw 0]) (iw 60) [b1+1+1,b1+1+1] rfl (by kernel_rfl) rfl ⟨none,0,0,0,60,rfl,(WfS.nil _ _),(by omega)⟩
      refine skn (Ok.seq (sr (g0 3 [(2,pt b1 0),(4,pt (b1+1+1) 0),(6,pt b8 0),(8,pt b15 0),(10,pt b36 0),(75,.bool (decide (za_1 ≥ 1073741824)))] [gz,.g [.K 0 1],gz] rfl (en rfl (cd (decide (za_1 ≥ 1073741824)) (fun h47 => ?_) (fun h47 => ?_))))))
      · have h47 := of_decide_eq_true h47
        refine sr (g0 3 [(4,pt (b1+1+1) 0),(5,iw 2)] [gz,.g [.K 2 0,.K 2 1],gz] rfl (Ok.mask [false,false,true,false,false,false] [.blk (b1+1+1) [n0,iw 0] 34] rfl ?_))
        refine en rfl (Ok.ret_ (Ok.thenR ?_))
        exact Ok.ret2c (tr le5 (tr le12 (tr le30 le40))) [.K 0 0,.K 0 1] (.agg #[n0,iw 0]) (iw 2) [b1+1+1,b1+1+1] rfl (by kernel_rfl) rfl ⟨none,0,0,0,2,rfl,(WfS.nil _ _),(by omega)⟩
      have h47 := of_decide_eq_false h47
      refine skn (Ok.seq (st [0,1,3,4,5] [] 11 ?_))
      refine tk 4 [(0,.g [.K 0 0,.K 0 1]),(1,gz),(2,.g [.K 2 0]),(3,gz),(4,.g [.K 3 0]),(5,gz),(7,.g [.K 4 0,.K 4 1,.K 4 2,.K 4 3])] [(4,pt (b1+1+1) 0),(77,.agg #[.slice Aa_0 na_0 ca_0,iw za_1]),(82,.agg #[iw zra_0y7,iw zra_0y14]),(84,.agg #[iw 0,.string sb_3,iw 4,iw zra_3y7])] rfl ?_
      refine on 6 3 rfl (ca (some 83) (c118 H39 Aa_0 (na_0) (ca_0) za_1 zra_0y7 zra_0y14 (WfS.mono (tr le5 (tr le12 (tr le30 le40))) ha_0) (by omega)) ?_)
      rintro v49 H50 k52 le51 ⟨Ara_0y53,nra_0y53,cra_0y53,zra_1y53,rfl,hra_0y53,py53_0⟩
      have lhra_0y53 := hra_0y53.1
      refine ws [0,1,3,4,5] le51 ?_
      refine on 8 2 rfl (ca (some 85) (c117 H50 Ara_0y53 (nra_0y53) (cra_0y53) zra_1y53 0 sb_3 4 zra_3y7 hra_0y53 tb_3 (by omega)) ?_)
      rintro v54 H55 k57 le56 ⟨Ara_0y58,nra_0y58,cra_0y58,zra_1y58,rfl,hra_0y58,py58_0⟩
      have lhra_0y58 := hra_0y58.1
      refine ws [0,1,3,4,5] (tr le51 le56) ?_
      refine on 9 1 rfl (e1 (.g [.K 2 0,.K 2 1]) [(4,pt (b1+1+1) 0)] [.blk b1 [.slice Aa_0 na_0 ca_0,iw za_1] 34,.blk (b1+1) [iw zb_0,iw zb_1,iw zb_2,.string sb_3,.string sb_4,iw zb_5,iw zb_6,.string sb_7] 105,.blk (b1+1+1) [.slice Ara_0y58 nra_0y58 cra_0y58,iw zra_1y58] 34,.blk b8 [iw zra_0y7,.string sra_1y7,iw zra_2y7,iw zra_3y7] 41,.blk b15 [iw zra_0y14,.string sra_1y14,iw zra_2y14,iw zra_3y14] 41,.blk b36 [iw 0,.string sb_3,iw 4,iw zra_3y7] 41] ?_)
      refine ws [0,1,3,4,5] (tr le51 le56) ?_
      refine on 10 0 rfl (e0 (gz) [(4,pt (b1+1+1) 0),(5,iw 0)] ?_)
      refine ws [0,1,3,4,5] (tr le51 le56) ?_
      refine dn (Ok.ret_ ?_)
      exact Ok.ret2c (tr le5 (tr le12 (tr le30 (tr le40 (tr le51 le56))))) [.K 2 0,.K 2 1] (.agg #[.slice Ara_0y58 nra_0y58 cra_0y58,iw zra_1y58]) (iw 0) [b1+1+1,b1+1+1] rfl (by kernel_rfl) rfl ⟨Ara_0y58,nra_0y58,cra_0y58,zra_1y58,0,rfl,hra_0y58,(by omega)⟩
    refine g0 4 [(2,pt b1 0),(3,pt (b1+1) 0),(4,pt (b1+1+1) 0),(6,pt b8 0),(8,pt b15 0),(42,.bool (zra_2y7 != 4))] [gz,.g [.K 3 2],gz,gz] rfl (cs (zra_2y7 != 4) [42] (fun h62 => ?_) (fun h62 => ?_))
    · refine g0 8 [(2,pt b1 0),(3,pt (b1+1) 0),(4,pt (b1+1+1) 0),(6,pt b8 0),(8,pt b15 0),(46,bT)] [gz,gz,gz,gz] rfl (Ok.segEnd rfl (Ok.restr [2,3,4,6,8,46] [(2,pt b1 0),(3,pt (b1+1) 0),(4,pt (b1+1+1) 0),(6,pt b8 0),(8,pt b15 0),(46,bT)] rfl ?_))
      exact J20 (true)
    refine g0 8 [(2,pt b1 0),(3,pt (b1+1) 0),(4,pt (b1+1+1) 0),(6,pt b8 0),(8,pt b15 0),(46,.bool (zra_2y14 != 4))] [gz,.g [.K 4 2],gz,gz] rfl (Ok.segEnd rfl (Ok.restr [2,3,4,6,8,46] [(2,pt b1 0),(3,pt (b1+1) 0),(4,pt (b1+1+1) 0),(6,pt b8 0),(8,pt b15 0),(46,.bool (zra_2y14 != 4))] rfl ?_))
    exact J20 ((zra_2y14 != 4))
  refine g0 3 [(2,pt b1 0),(3,pt (b1+1) 0),(4,pt (b1+1+1) 0),(6,pt b8 0),(8,pt b15 0),(9,.bool brb_0y14),(27,.bool (!brb_0y7))] [gz,gz,gz] rfl (cs (!brb_0y7) [27] (fun h66 => ?_) (fun h66 => ?_))
  · refine g0 13 [(2,pt b1 0),(3,pt (b1+1) 0),(4,pt (b1+1+1) 0),(6,pt b8 0),(8,pt b15 0),(37,bT)] [gz,gz,gz,gz,gz,gz,gz,gz,gz,gz] rfl (Ok.segEnd rfl (Ok.restr [2,3,4,6,8,37] [(2,pt b1 0),(3,pt (b1+1) 0),(4,pt (b1+1+1) 0),(6,pt b8 0),(8,pt b15 0),(37,bT)] rfl ?_))
    exact J16 (true)
  refine g0 7 [(2,pt b1 0),(3,pt (b1+1) 0),(4,pt (b1+1+1) 0),(6,pt b8 0),(8,pt b15 0),(31,.bool (!brb_0y14))] [gz,gz,gz,gz] rfl (cs (!brb_0y14) [31] (fun h69 => ?_) (fun h69 => ?_))
  · refine g0 13 [(2,pt b1 0),(3,pt (b1+1) 0),(4,pt (b1+1+1) 0),(6,pt b8 0),(8,pt b15 0),(37,bT)] [gz,gz,gz,gz,gz,gz] rfl (Ok.segEnd rfl (Ok.restr [2,3,4,6,8,37] [(2,pt b1 0),(3,pt (b1+1) 0),(4,pt (b1+1+1) 0),(6,pt b8 0),(8,pt b15 0),(37,bT)] rfl ?_))
    exact J16 (true)
  refine g0 13 [(2,pt b1 0),(3,pt (b1+1) 0),(4,pt (b1+1+1) 0),(6,pt b8 0),(8,pt b15 0),(37,.bool (zra_0y7 == zra_0y14))] [gz,.g [.K 3 0],gz,.g [.K 4 0],gz,gz] rfl (Ok.segEnd rfl (Ok.restr [2,3,4,6,8,37] [(2,pt b1 0),(3,pt (b1+1) 0),(4,pt (b1+1+1) 0),(6,pt b8 0),(8,pt b15 0),(37,.bool (zra_0y7 == zra_0y14))] rfl ?_))
  exact J16 ((zra_0y7 == zra_0y14))
end Go.Proofs.YtdifenljfklolaaGreatDoor
