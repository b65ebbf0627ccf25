/- X9b -/
import Derived.Test.YtdehaeillolhbaaX9
set_option linter.unusedVariables false
set_option linter.unusedSimpArgs false
set_option maxRecDepth 100000
set_option maxHeartbeats 4000000
namespace Go.cy.jV
open Go.Proofs
noncomputable section
theorem L11 (k:Nat) (A:aE) (a1:List au) (Z:Int) (a3:Int) (r:(List Int)×cD×cA×aE) (I:UT k A a1 Z a3=some r):PF Try.prog fK 11 [E 0,lI a1,g Z,g a3] [R0 A] [] (λ p fr tk=>p=.fX [lM r.1 0,.agg (sf r.2.1),.agg (yH r.2.2.1)]/\fr=[R0 r.2.2.2]/\tk=[r.1.length]):=by
 unfold UT at I;refine qP Try.func11 ?_;refine .region (qX 3 [0,1,2] [] [(0,E 0),(1,lI a1),(2,g Z),(3,g a3),(8,v0),(9,E 1),(10,E 2)] [R0 A,R1,R2] [] ?_);refine qr 2 ?_;refine qM 1 ?_;refine aq I λ r1 e2 I=>qG [] [] (L21 k a1 _ e2) trivial ?_;refine qR 2 ?_;refine aq I λ x3 e4 I=>PO.cut 15 (cu (λ v1=>PS.of 192 [(0,E 0),(1,lI a1),(2,g Z),(3,g a3),(8,v0),(9,E 1),(10,E 2),(11,.fn 26 [] []),(38,vB v1)] [R0 A,R1,R2] [] 1 0) x3) ?_ ?_
 ·refine qC 23 e4 (λ e4=>?_) λ e4=>?_
  ·exact qW 15 true [0,1,2] [] e4
  refine qR 4 ?_;refine aq e4 λ x6 e7 e4=>PO.cut 11 (cu (λ v2=>PS.of 192 [(0,E 0),(1,lI a1),(2,g Z),(3,g a3),(8,v0),(9,E 1),(10,E 2),(11,.fn 26 [] []),(38,vB v2)] [R0 A,R1,R2] [] 1 0) x6) ?_ ?_
  ·refine qC 27 e7 (λ e7=>?_) λ e7=>?_
   ·exact qW 11 true [0,1,2] [] e7
   refine qR 4 ?_;refine aq e7 λ x9 jf e7=>PO.cut 7 (cu (λ v3=>PS.of 192 [(0,E 0),(1,lI a1),(2,g Z),(3,g a3),(8,v0),(9,E 1),(10,E 2),(11,.fn 26 [] []),(38,vB v3)] [R0 A,R1,R2] [] 1 0) x9) ?_ ?_
   ·refine qC 31 jf (λ jf=>?_) λ jf=>?_
    ·exact qW 7 true [0,1,2] [] jf
    refine qR 4 ?_;refine aq jf λ DN lz jf=>PO.cut 3 (cu (λ v4=>PS.of 192 [(0,E 0),(1,lI a1),(2,g Z),(3,g a3),(8,v0),(9,E 1),(10,E 2),(11,.fn 26 [] []),(38,vB v4)] [R0 A,R1,R2] [] 1 0) DN) ?_ ?_
    ·refine qC 35 lz (λ lz=>?_) λ lz=>?_
     ·exact qW 3 true [0,1,2] [] lz
     exact qW 3 (decide (a3 > 10000)) [0,1,2] [] lz
    rintro _ ⟨v4,KV,rfl⟩;refine KV.on ?_;exact⟨v4,qw [0,1,2] [],qs jf⟩
   rintro _ ⟨v3,Ca,rfl⟩;refine Ca.on ?_;exact⟨v3,qw [0,1,2] [],qs e7⟩
  rintro _ ⟨v2,w17,rfl⟩;refine w17.on ?_;exact⟨v2,qw [0,1,2] [],qs e4⟩
 rintro _ ⟨v1,FX,rfl⟩;refine FX.on (qD I (λ I=>?_) λ I=>?_)
 ·refine qM 1 ?_;refine aq I λ jl Wr I=>?_;refine PO.xw rfl rfl rfl rfl rfl (ks:=[]) (ts:=[]) (fr1:=[]) rfl rfl rfl trivial (Wf k 1 0 _ Wr) ?_;rintro _ _ _ ⟨rfl,rfl,rfl⟩;refine⟨_,_,rfl,rfl,?_⟩;refine qX 6 [0,1,2] [0] [(8,lM jl.1 0),(9,E 1),(10,E 2)] [R0 A,Bs jl.2.1,N6 jl.2.2] [jl.1.length] ?_;cases I;exact .ret (qf [0] [0])
 refine .aZ (qL 5 ?_);refine aq I λ F0 AV I=>qG [] [] (L18 k a1 _ AV) trivial ?_;refine aq I λ bV yT I=>qG [3] [] (X6 k F0 _ yT) ⟨⟨_,rfl,rfl,rfl⟩,trivial⟩ ?_;refine qX 3 [0,1,2,4] [] [(0,E 0),(1,lI a1),(8,v0),(9,E 1),(10,E 2),(11,.fn 26 [] []),(12,E 3)] [R0 A,R1,R2,V0 a1 Z a3 bV.1] [] ?_;refine qM 4 ?_;refine qS kF ?_;refine qN 1 ?_;refine qD I (λ I=>?_) λ I=>?_
 ·refine qM 2 ?_;refine qI gM I λ y5 I=>?_;refine qk 2 [0,1,2] [] [(8,v0),(9,E 1),(10,E 2),(59,.fn 26 [] []),(63,g y5.bM)] [R0 A,R1,R2] [] ?_;refine aq I λ DE xY I=>?_;refine PO.xw rfl rfl rfl rfl rfl (ks:=[]) (ts:=[]) (fr1:=[]) rfl rfl rfl trivial (Wf k 150 y5.bM _ xY) ?_;rintro _ _ _ ⟨rfl,rfl,rfl⟩;refine⟨_,_,rfl,rfl,?_⟩;refine qX 6 [0,1,2] [0] [(8,lM DE.1 0),(9,E 1),(10,E 2)] [R0 A,Bs DE.2.1,N6 DE.2.2] [DE.1.length] ?_;cases I;exact .ret (qf [0] [0])
 refine .aZ (qM 1 ?_);refine qS gM ?_;refine qN 1 ?_;refine qD I (λ I=>?_) λ I=>?_
 ·refine qJ ?_;refine qX 5 [0,1,2] [] [(8,v0),(9,E 1),(10,E 2)] [R0 A,R1,R2] [] ?_;refine PC.gb (s':=PS.of 192 [(8,.aS 1 (List.map br ([] : List Int)) (some 0)),(9,E 1),(10,E 2)] [R0 A,R1,R2] [0] 1 0) (qm [0,1,2] [] 1 aA.z.c.c.c ⟨⟨_,_,rfl,rfl,.Ja 1 0 rfl rfl⟩,aG.z.c.c⟩) ?_;cases I;exact .ret (qf [0] [0])
 refine .aZ (qL 4 ?_);refine qS kF ?_;refine qN 2 ?_;refine qK 3 ?_;refine aq I λ Zd pI I=>PC.bQ (λ s=>∃ (hH:aE),bc s (PS.of 192 [(0,E 0),(8,v0),(9,E 1),(10,E 2),(11,.fn 26 [] []),(12,E 3),(13,g (w (4 * (bV.1.length:Int))))] [R0 hH,R1,R2,V0 a1 Z a3 bV.1] [] 1 0)/\.inl hH=Zd) ?_ ?_
 ·refine PC.loop (λ UR s=>∃ (fT:Int) (yq:aE),bc s (PS.of 192 [(0,E 0),(8,v0),(9,E 1),(10,E 2),(11,.fn 26 [] []),(12,E 3),(13,g (w (4 * (bV.1.length:Int)))),(79,g (w (4 * (bV.1.length:Int)))),(80,g fT)] [R0 yq,R1,R2,V0 a1 Z a3 bV.1] [] 1 0)/\sh k bV UR fT yq=some Zd) (λ UR s=>?_) k ⟨0,A,qw [0,1,2,3] [],pI⟩;rintro⟨fT,yq,Sn,pI⟩;refine Sn.c ?_;obtain _ | UR:=UR
  · rw[sh] at pI; cases pI
  rw[sh] at pI;refine qr 2 ?_;refine qD pI (λ pI=>?_) λ pI=>?_
  ·refine .aZ (PC.block ?_);refine qL 1 ?_;refine aq pI λ wg OO pI=>qG [0] [] (L28 k yq 1 _ OO) ⟨⟨_,rfl,rfl,rfl⟩,trivial⟩ ?_;refine qN 1 ?_;refine .lone (qD pI (λ pI=>?_) λ pI=>?_)
   ·refine qM 2 ?_;refine aq pI λ SB yR pI=>qG [0] [] (Y6 k wg.2 _ yR) ⟨⟨_,rfl,rfl,rfl⟩,trivial⟩ ?_;refine qk 0 [0,1,2,3] [] [(0,E 0),(8,v0),(9,E 1),(10,E 2),(11,.fn 26 [] []),(12,E 3),(13,g (w (4 * (bV.1.length:Int)))),(79,g (w (4 * (bV.1.length:Int)))),(80,g fT),(85,.fn 26 [] []),(87,g SB.1)] [R0 SB.2,R1,R2,V0 a1 Z a3 bV.1] [] ?_;refine aq pI λ Q4 e43 pI=>?_;refine PO.xw rfl rfl rfl rfl rfl (ks:=[]) (ts:=[]) (fr1:=[]) rfl rfl rfl trivial (Wf k SB.1 0 _ e43) ?_;rintro _ _ _ ⟨rfl,rfl,rfl⟩;refine⟨_,_,rfl,rfl,?_⟩;refine qX 6 [0,1,2,3] [0] [(0,E 0),(8,lM Q4.1 0),(9,E 1),(10,E 2),(11,.fn 26 [] []),(12,E 3),(13,g (w (4 * (bV.1.length:Int)))),(79,g (w (4 * (bV.1.length:Int)))),(80,g fT)] [R0 SB.2,Bs Q4.2.1,N6 Q4.2.2,V0 a1 Z a3 bV.1] [Q4.1.length] ?_;cases pI;cases I;exact .ret (bk.ct (bh.ret (aC.ct (qf [0] [0]))))
   refine .aZ (PC.skip (bk.end ?_));refine .lone (qr 3 ?_);exact .skip (bh.mk (Nat.lt_succ_self _) ⟨w (fT+1),wg.2,qw [0,1,2,3] [],pI⟩)
  exact .exit (bh.exit (aC.eF ⟨yq,qw [0,1,2,3] [],qs pI⟩))
 rintro _ ⟨hH,w44,rfl⟩;refine w44.c ?_;have I:=fD I;refine qL 5 ?_;refine qS kF ?_;refine C5 I λ Wm UO SA I=>PO.one rfl (NI (c:=aK 4) (z:=(ay.mk false 0 0 0 0 0 0 0 0 0 0 0 0 false false false 0 0 none)) (m:=4) N5 rfl rfl rfl (by kernel_rfl) rfl rfl rfl Wm UO SA) rfl ?_;refine qY 3 [(0,E 0),(8,v0),(9,E 1),(10,E 2),(11,.fn 26 [] []),(12,E 3),(13,g (w (4 * (bV.1.length:Int))))] [R0 hH,R1,R2,jX a1 Z a3 bV.1 (.sl 4 0 (Int.toNat (bV.1.length:Int)) (Int.toNat (bV.1.length:Int))),jZ (List.replicate (Int.toNat (bV.1.length:Int) * 4) (ay.mk false 0 0 0 0 0 0 0 0 0 0 0 0 false false false 0 0 none))] [] ?_;refine qM 4 ?_;refine qS kF ?_;refine qN 1 ?_;refine aq I λ Ze rB I=>PC.bQ (λ s=>∃ (rA:aE) (im:List au) (iS:Int) (jF:Int) (dx:List Int) (Bt:List ay),bc s (PS.of 192 [(0,E 0),(8,v0),(9,E 1),(10,E 2),(11,.fn 26 [] []),(12,E 3),(13,g (w (4 * (bV.1.length:Int))))] [R0 rA,R1,R2,jX im iS jF dx (.sl 4 0 (Int.toNat (bV.1.length:Int)) (Int.toNat (bV.1.length:Int))),jZ Bt] [] 1 0)/\.inl (rA,im,iS,jF,dx,Bt)=Ze) ?_ ?_
 ·refine PC.loop (λ US s=>∃ (DF:Int) (OP:aE) (OQ:List au) (OS:Int) (FG:Int) (FH:List Int) (FI:List ay),bc s (PS.of 192 [(0,E 0),(8,v0),(9,E 1),(10,E 2),(11,.fn 26 [] []),(12,E 3),(13,g (w (4 * (bV.1.length:Int)))),(106,g (bV.1.length:Int)),(107,g DF)] [R0 OP,R1,R2,jX OQ OS FG FH (.sl 4 0 (Int.toNat (bV.1.length:Int)) (Int.toNat (bV.1.length:Int))),jZ FI] [] 1 0)/\oF k bV US DF OP OQ OS FG FH FI=some Ze) (λ US s=>?_) k ⟨0,hH,a1,Z,a3,bV.1,List.replicate (Int.toNat (bV.1.length:Int) * 4) (ay.mk false 0 0 0 0 0 0 0 0 0 0 0 0 false false false 0 0 none),qm [0,1,2,3,4] [] 0 (aA.c (aA.c (aA.c (aA.c ⟨⟨_,_,rfl,rfl,eT rfl,aT.refl _⟩,aA.z⟩)))) aG.z.c.c.c.c.c.c.c.c.c,rB⟩;rintro⟨DF,OP,OQ,OS,FG,FH,FI,Wn,rB⟩;refine Wn.c ?_;obtain _ | US:=US
  · rw[oF] at rB; cases rB
  rw[oF] at rB;refine qr 2 ?_;refine qD rB (λ rB=>?_) λ rB=>?_
  ·refine .aZ (PC.block ?_);refine qr 3 ?_;refine qL 2 ?_;refine aq rB λ ij tO rB=>?_;refine PO.call rfl rfl rfl rfl (ks:=[0,3,4]) (ts:=[]) (fr1:=[R0 OP,jX OQ OS FG FH (.sl 2 0 (Int.toNat (bV.1.length:Int)) (Int.toNat (bV.1.length:Int))),R7 FI]) rfl rfl rfl ⟨⟨_,rfl,rfl,rfl⟩,⟨⟨_,rfl,rfl,rfl⟩,⟨⟨_,rfl,rfl,eT rfl⟩,trivial⟩⟩⟩ (Yc k DF OP OQ OS FG FH (Int.toNat (bV.1.length:Int)) FI _ tO) ?_;rintro _ _ _ ⟨rfl,rfl,rfl⟩;refine⟨_,_,rfl,(cF rfl (cF rfl (cF (oQ (eT rfl)) ki))),?_⟩;refine qN 1 ?_;refine .lone (qD rB (λ rB=>?_) λ rB=>?_)
   ·refine qM 2 ?_;refine aq rB λ SC e57 rB=>qG [0] [] (Y6 k ij.2.1 _ e57) ⟨⟨_,rfl,rfl,rfl⟩,trivial⟩ ?_;refine qt 0 [(0,E 0),(8,v0),(9,E 1),(10,E 2),(11,.fn 26 [] []),(12,E 3),(13,g (w (4 * (bV.1.length:Int)))),(106,g (bV.1.length:Int)),(107,g DF),(114,.fn 26 [] []),(116,g SC.1)] [R0 SC.2,R1,R2,jX ij.2.2.1 ij.2.2.2.1 ij.2.2.2.2.1 ij.2.2.2.2.2.1 (.sl 4 0 (Int.toNat (bV.1.length:Int)) (Int.toNat (bV.1.length:Int))),jZ ij.2.2.2.2.2.2] [] ?_;refine aq rB λ Q5 e59 rB=>?_;refine PO.xw rfl rfl rfl rfl rfl (ks:=[]) (ts:=[]) (fr1:=[]) rfl rfl rfl trivial (Wf k SC.1 0 _ e59) ?_;rintro _ _ _ ⟨rfl,rfl,rfl⟩;refine⟨_,_,rfl,rfl,?_⟩;refine qY 6 [(0,E 0),(8,lM Q5.1 0),(9,E 1),(10,E 2),(11,.fn 26 [] []),(12,E 3),(13,g (w (4 * (bV.1.length:Int)))),(106,g (bV.1.length:Int)),(107,g DF)] [R0 SC.2,Bs Q5.2.1,N6 Q5.2.2,jX ij.2.2.1 ij.2.2.2.1 ij.2.2.2.2.1 ij.2.2.2.2.2.1 (.sl 4 0 (Int.toNat (bV.1.length:Int)) (Int.toNat (bV.1.length:Int))),jZ ij.2.2.2.2.2.2] [Q5.1.length] ?_;cases rB;cases I;exact .ret (bk.ct (bh.ret (aC.ct (qf [0] [0]))))
   refine .aZ (PC.skip (bk.end ?_));refine .lone (qr 3 ?_);exact .skip (bh.mk (Nat.lt_succ_self _) ⟨w (DF+1),ij.2.1,ij.2.2.1,ij.2.2.2.1,ij.2.2.2.2.1,ij.2.2.2.2.2.1,ij.2.2.2.2.2.2,qm [0,1,2,3,4] [] 0 (aA.c (aA.c (aA.c (aA.c ⟨⟨_,_,rfl,rfl,eT rfl,aT.refl _⟩,aA.z⟩)))) aG.z.c.c.c.c.c.c.c.c.c,rB⟩)
  exact .exit (bh.exit (aC.eF ⟨OP,OQ,OS,FG,FH,FI,qm [0,1,2,3,4] [] 0 (aA.c (aA.c (aA.c (aA.c ⟨⟨_,_,rfl,rfl,eT rfl,aT.refl _⟩,aA.z⟩)))) aG.z.c.c.c.c.c.c.c,qs rB⟩))
 rintro _ ⟨rA,im,iS,jF,dx,Bt,Ws,rfl⟩;refine Ws.c ?_;have I:=fD I;refine qL 2 ?_;refine aq I λ gS e62 I=>qG [0] [] (L31 k rA (w (4 * (bV.1.length:Int))) _ e62) ⟨⟨_,rfl,rfl,rfl⟩,trivial⟩ ?_;refine .nil (.region (qY 3 [(0,E 0),(8,v0),(9,E 1),(10,E 2),(11,.fn 26 [] []),(12,E 3),(15,E 5)] [R0 gS.2,R1,R2,jX im iS jF dx (.sl 4 0 (Int.toNat (bV.1.length:Int)) (Int.toNat (bV.1.length:Int))),jZ Bt,KQ] [] ?_));refine qK 2 ?_;refine aq I λ x63 F7 I=>PC.bQ (λ s=>∃ (nN:Option (Option Nat)) (oO:List ay) (fq:ay),bc s (PS.of 192 [(0,E 0),(8,v0),(9,E 1),(10,E 2),(11,.fn 26 [] []),(15,cN 4 3 19 nN 0)] [R0 gS.2,R1,R2,Kr oO,⟨0,(aK 3 fq)⟩] [] 1 0)/\(nN,oO,fq)=x63) ?_ ?_
 ·refine PC.m8 ?_;refine .region (qY 1 [(0,E 0),(8,v0),(9,E 1),(10,E 2),(11,.fn 26 [] []),(12,E 3),(15,E 5),(127,g 0),(128,vB true)] [R0 gS.2,R1,R2,jX im iS jF dx (.sl 4 0 (Int.toNat (bV.1.length:Int)) (Int.toNat (bV.1.length:Int))),jZ Bt,KQ] [] ?_);refine PC.cond rfl (λ _=>?_) (λ h65=>Bool.noConfusion h65);refine .aZ (aq F7 λ x66 IV F7=>PC.bQ (λ s=>∃ (jH:Option (Option Nat)) (kb:List ay) (eN:ay),bc s (PS.of 192 [(0,E 0),(8,v0),(9,E 1),(10,E 2),(11,.fn 26 [] []),(12,E 3),(15,cN 5 4 19 jH 0),(127,g 0)] [R0 gS.2,R1,R2,jX im iS jF dx (.sl 4 0 (Int.toNat (bV.1.length:Int)) (Int.toNat (bV.1.length:Int))),jZ kb,⟨0,(aK 4 eN)⟩] [] 1 0)/\(jH,kb,eN)=x66) ?_ ?_)
  ·refine .region (qY 2 [(0,E 0),(8,v0),(9,E 1),(10,E 2),(11,.fn 26 [] []),(12,E 3),(15,E 5),(16,g 0),(127,g 0)] [R0 gS.2,R1,R2,jX im iS jF dx (.sl 4 0 (Int.toNat (bV.1.length:Int)) (Int.toNat (bV.1.length:Int))),jZ Bt,KQ] [] ?_);refine qo [0,1,2,3,4,5,6,7,8,9,10,11,12,13] ?_;refine qt 8 [(0,E 0),(8,v0),(9,E 1),(10,E 2),(11,.fn 26 [] []),(12,E 3),(15,E 5),(16,g 0),(127,g 0),(133,.sl 4 0 (Int.toNat (bV.1.length:Int)) (Int.toNat (bV.1.length:Int))),(137,lN dx)] [R0 gS.2,R1,R2,jX im iS jF dx (.sl 4 0 (Int.toNat (bV.1.length:Int)) (Int.toNat (bV.1.length:Int))),jZ Bt,KQ] [] ?_;refine qS kF ?_;refine qt 2 [(0,E 0),(8,v0),(9,E 1),(10,E 2),(11,.fn 26 [] []),(12,E 3),(15,E 5),(127,g 0),(133,.sl 4 0 (Int.toNat (bV.1.length:Int)) (Int.toNat (bV.1.length:Int))),(139,g (w ((dx.length:Int) - 1))),(140,g 0)] [R0 gS.2,R1,R2,jX im iS jF dx (.sl 4 0 (Int.toNat (bV.1.length:Int)) (Int.toNat (bV.1.length:Int))),jZ Bt,KQ] [] ?_;refine ic IV λ h68 h69 IV=>PO.aX rfl (mE N5 rfl rfl rfl h68 h69) rfl ?_;refine qt 0 [(0,E 0),(8,v0),(9,E 1),(10,E 2),(11,.fn 26 [] []),(12,E 3),(15,E 5),(127,g 0),(140,g 0),(141,.ptr 4 (0+Int.toNat (w ((dx.length:Int) - 1)) * 76))] [R0 gS.2,R1,R2,jX im iS jF dx (.sl 4 0 (Int.toNat (bV.1.length:Int)) (Int.toNat (bV.1.length:Int))),jZ Bt,KQ] [] ?_;refine ic IV λ h70 Wp IV=>PO.aX rfl (ku (l:=5) (j:=4 * Int.toNat (w ((dx.length:Int) - 1))+Int.toNat 0) (sz:=19) Ow rfl rfl rfl h70 Wp (by omega)) rfl ?_;refine qY 1 [(0,E 0),(8,v0),(9,E 1),(10,E 2),(11,.fn 26 [] []),(12,E 3),(15,E 5),(17,cN 5 4 19 (some (some (4 * Int.toNat (w ((dx.length:Int) - 1))+Int.toNat 0))) 0),(127,g 0)] [R0 gS.2,R1,R2,jX im iS jF dx (.sl 4 0 (Int.toNat (bV.1.length:Int)) (Int.toNat (bV.1.length:Int))),jZ Bt,KQ] [] ?_;refine .region (qt 1 [(0,E 0),(8,v0),(9,E 1),(10,E 2),(11,.fn 26 [] []),(12,E 3),(15,E 5),(17,cN 5 4 19 (some (some (4 * Int.toNat (w ((dx.length:Int) - 1))+Int.toNat 0))) 0),(127,g 0),(143,cN 5 4 19 (some (some (4 * Int.toNat (w ((dx.length:Int) - 1))+Int.toNat 0))) 0)] [R0 gS.2,R1,R2,jX im iS jF dx (.sl 4 0 (Int.toNat (bV.1.length:Int)) (Int.toNat (bV.1.length:Int))),jZ Bt,KQ] [] ?_);refine iH IV λ yh h72 IV=>PO.aX rfl (dC rfl (bG h72)) rfl ?_;refine PO.aX rfl (bX (o':=0) rfl (bG h72) (λ _ _=>rfl)) rfl ?_;refine PO.aX rfl (dX rfl (fZ (q:=vB yh.gE) (z:=(ay.mk false 0 0 0 0 0 0 0 0 0 0 0 0 false false false 0 0 none)) cU rfl rfl h72 rfl)) rfl ?_;refine qt 1 [(0,E 0),(8,v0),(9,E 1),(10,E 2),(11,.fn 26 [] []),(12,E 3),(15,E 5),(17,cN 5 4 19 (some (some (4 * Int.toNat (w ((dx.length:Int) - 1))+Int.toNat 0))) 0),(127,g 0),(147,vB yh.gE)] [R0 gS.2,R1,R2,jX im iS jF dx (.sl 4 0 (Int.toNat (bV.1.length:Int)) (Int.toNat (bV.1.length:Int))),jZ Bt,KQ] [] ?_;refine aq IV λ x73 A2 IV=>PO.cut 4 (λ s=>∃ (j9:Bool) (iB:List ay) (rM:ay),bc s (PS.of 192 [(0,E 0),(8,v0),(9,E 1),(10,E 2),(11,.fn 26 [] []),(12,E 3),(15,E 5),(17,cN 5 4 19 (some (some (4 * Int.toNat (w ((dx.length:Int) - 1))+Int.toNat 0))) 0),(127,g 0),(151,vB j9)] [R0 gS.2,R1,R2,jX im iS jF dx (.sl 4 0 (Int.toNat (bV.1.length:Int)) (Int.toNat (bV.1.length:Int))),jZ iB,⟨0,(aK 4 rM)⟩] [] 1 0)/\(j9,iB,rM)=x73) ?_ ?_
   ·refine qC 147 A2 (λ A2=>?_) λ A2=>?_
    ·refine qt 2 [(0,E 0),(8,v0),(9,E 1),(10,E 2),(11,.fn 26 [] []),(12,E 3),(15,E 5),(17,cN 5 4 19 (some (some (4 * Int.toNat (w ((dx.length:Int) - 1))+Int.toNat 0))) 0),(127,g 0),(147,vB true),(148,cN 5 4 19 (some (some (4 * Int.toNat (w ((dx.length:Int) - 1))+Int.toNat 0))) 0),(149,E 5)] [R0 gS.2,R1,R2,jX im iS jF dx (.sl 4 0 (Int.toNat (bV.1.length:Int)) (Int.toNat (bV.1.length:Int))),jZ Bt,KQ] [] ?_;refine aq A2 λ Bu e77 A2=>?_;refine PO.call rfl rfl rfl rfl (ks:=[4,5]) (ts:=[]) (fr1:=[AJ Bt,KQ]) rfl rfl (bT rfl (bT rfl nm)) ⟨⟨_,rfl,rfl,eT rfl⟩,⟨⟨_,rfl,rfl,rfl⟩,trivial⟩⟩ (Ez k (some (some (4 * Int.toNat (w ((dx.length:Int) - 1))+Int.toNat 0))) (some none) Bt (ay.mk false 0 0 0 0 0 0 0 0 0 0 0 0 false false false 0 0 none) _ e77) ?_;rintro _ _ _ ⟨rfl,rfl,rfl⟩;refine⟨_,_,rfl,(cF (oQ (eT rfl)) (cF (oQ (ef Bu.2.2 rfl)) ki)),?_⟩;refine qN 1 ?_;exact⟨Bu.1,Bu.2.1,Bu.2.2,qm [0,1,2,3,4,5] [] 0 (aA.c (aA.c (aA.c (aA.c ⟨⟨_,_,rfl,rfl,eT rfl,aT.refl _⟩,⟨⟨_,_,rfl,rfl,ef Bu.2.2 rfl,(aT.refl _)⟩,aA.z⟩⟩)))) aG.z.c.c.c.c.c.c.c.c.c.c,qs A2⟩
    refine qN 4 ?_;exact⟨false,Bt,(ay.mk false 0 0 0 0 0 0 0 0 0 0 0 0 false false false 0 0 none),qm [0,1,2,3,4,5] [] 0 (aA.c (aA.c (aA.c (aA.c ⟨⟨_,_,rfl,rfl,eT rfl,aT.refl _⟩,aA.z.c⟩)))) aG.z.c.c.c.c.c.c.c.c.c.c,qs A2⟩
   rintro _ ⟨j9,iB,rM,w78,rfl⟩;refine w78.on (.lone (qD IV (λ IV=>?_) λ IV=>?_))
   ·refine .region (qY 2 [(0,E 0),(8,v0),(9,E 1),(10,E 2),(11,.fn 26 [] []),(12,E 3),(15,cN 5 4 19 (some (some (4 * Int.toNat (w ((dx.length:Int) - 1))+Int.toNat 0))) 0),(127,g 0)] [R0 gS.2,R1,R2,jX im iS jF dx (.sl 4 0 (Int.toNat (bV.1.length:Int)) (Int.toNat (bV.1.length:Int))),jZ iB,⟨0,(aK 4 rM)⟩] [] ?_);exact .skip (aC.end ⟨some (some (4 * Int.toNat (w ((dx.length:Int) - 1))+Int.toNat 0)),iB,rM,qm [0,1,2,3,4,5] [] 0 (aA.c (aA.c (aA.c (aA.c ⟨⟨_,_,rfl,rfl,eT rfl,aT.refl _⟩,⟨⟨_,_,rfl,rfl,ef rM rfl,(aT.refl _)⟩,aA.z⟩⟩)))) aG.z.c.c.c.c.c.c.c.c,qs IV⟩)
   exact .aZ (PC.skip (aC.end ⟨some none,iB,rM,qm [0,1,2,3,4,5] [] 0 (aA.c (aA.c (aA.c (aA.c ⟨⟨_,_,rfl,rfl,eT rfl,aT.refl _⟩,⟨⟨_,_,rfl,rfl,ef rM rfl,(aT.refl _)⟩,aA.z⟩⟩)))) aG.z.c.c.c.c.c.c.c.c,qs IV⟩))
  rintro _ ⟨jH,kb,eN,w80,rfl⟩;refine w80.c (.lone (.region (qY 2 [(0,E 0),(8,v0),(9,E 1),(10,E 2),(11,.fn 26 [] []),(12,E 3),(15,cN 5 4 19 jH 0),(127,g 1)] [R0 gS.2,R1,R2,jX im iS jF dx (.sl 4 0 (Int.toNat (bV.1.length:Int)) (Int.toNat (bV.1.length:Int))),jZ kb,⟨0,(aK 4 eN)⟩] [] ?_)));refine .skip (gi.end ?_);refine PC.m8 ?_;refine .region (qY 1 [(0,E 0),(8,v0),(9,E 1),(10,E 2),(11,.fn 26 [] []),(12,E 3),(15,cN 5 4 19 jH 0),(127,g 1),(128,vB true)] [R0 gS.2,R1,R2,jX im iS jF dx (.sl 4 0 (Int.toNat (bV.1.length:Int)) (Int.toNat (bV.1.length:Int))),jZ kb,⟨0,(aK 4 eN)⟩] [] ?_);refine PC.cond rfl (λ _=>?_) (λ h81=>Bool.noConfusion h81);refine .aZ (aq F7 λ x82 IW F7=>PC.bQ (λ s=>∃ (oR:Option (Option Nat)) (oS:List ay) (mX:ay),bc s (PS.of 192 [(0,E 0),(8,v0),(9,E 1),(10,E 2),(11,.fn 26 [] []),(12,E 3),(15,cN 5 4 19 oR 0),(127,g 1)] [R0 gS.2,R1,R2,jX im iS jF dx (.sl 4 0 (Int.toNat (bV.1.length:Int)) (Int.toNat (bV.1.length:Int))),jZ oS,⟨0,(aK 4 mX)⟩] [] 1 0)/\(oR,oS,mX)=x82) ?_ ?_)
  ·refine .region (qY 2 [(0,E 0),(8,v0),(9,E 1),(10,E 2),(11,.fn 26 [] []),(12,E 3),(15,cN 5 4 19 jH 0),(16,g 1),(127,g 1)] [R0 gS.2,R1,R2,jX im iS jF dx (.sl 4 0 (Int.toNat (bV.1.length:Int)) (Int.toNat (bV.1.length:Int))),jZ kb,⟨0,(aK 4 eN)⟩] [] ?_);refine qo [0,1,2,3,4,5,6,7,8,9,10,11,12,13] ?_;refine qt 8 [(0,E 0),(8,v0),(9,E 1),(10,E 2),(11,.fn 26 [] []),(12,E 3),(15,cN 5 4 19 jH 0),(16,g 1),(127,g 1),(133,.sl 4 0 (Int.toNat (bV.1.length:Int)) (Int.toNat (bV.1.length:Int))),(137,lN dx)] [R0 gS.2,R1,R2,jX im iS jF dx (.sl 4 0 (Int.toNat (bV.1.length:Int)) (Int.toNat (bV.1.length:Int))),jZ kb,⟨0,(aK 4 eN)⟩] [] ?_;refine qS kF ?_;refine qt 2 [(0,E 0),(8,v0),(9,E 1),(10,E 2),(11,.fn 26 [] []),(12,E 3),(15,cN 5 4 19 jH 0),(127,g 1),(133,.sl 4 0 (Int.toNat (bV.1.length:Int)) (Int.toNat (bV.1.length:Int))),(139,g (w ((dx.length:Int) - 1))),(140,g 1)] [R0 gS.2,R1,R2,jX im iS jF dx (.sl 4 0 (Int.toNat (bV.1.length:Int)) (Int.toNat (bV.1.length:Int))),jZ kb,⟨0,(aK 4 eN)⟩] [] ?_;refine ic IW λ h84 h85 IW=>PO.aX rfl (mE N5 rfl rfl rfl h84 h85) rfl ?_;refine qt 0 [(0,E 0),(8,v0),(9,E 1),(10,E 2),(11,.fn 26 [] []),(12,E 3),(15,cN 5 4 19 jH 0),(127,g 1),(140,g 1),(141,.ptr 4 (0+Int.toNat (w ((dx.length:Int) - 1)) * 76))] [R0 gS.2,R1,R2,jX im iS jF dx (.sl 4 0 (Int.toNat (bV.1.length:Int)) (Int.toNat (bV.1.length:Int))),jZ kb,⟨0,(aK 4 eN)⟩] [] ?_;refine ic IW λ h86 Zf IW=>PO.aX rfl (ku (l:=5) (j:=4 * Int.toNat (w ((dx.length:Int) - 1))+Int.toNat 1) (sz:=19) Ow rfl rfl rfl h86 Zf (by omega)) rfl ?_;refine qY 1 [(0,E 0),(8,v0),(9,E 1),(10,E 2),(11,.fn 26 [] []),(12,E 3),(15,cN 5 4 19 jH 0),(17,cN 5 4 19 (some (some (4 * Int.toNat (w ((dx.length:Int) - 1))+Int.toNat 1))) 0),(127,g 1)] [R0 gS.2,R1,R2,jX im iS jF dx (.sl 4 0 (Int.toNat (bV.1.length:Int)) (Int.toNat (bV.1.length:Int))),jZ kb,⟨0,(aK 4 eN)⟩] [] ?_;refine .region (qt 1 [(0,E 0),(8,v0),(9,E 1),(10,E 2),(11,.fn 26 [] []),(12,E 3),(15,cN 5 4 19 jH 0),(17,cN 5 4 19 (some (some (4 * Int.toNat (w ((dx.length:Int) - 1))+Int.toNat 1))) 0),(127,g 1),(143,cN 5 4 19 (some (some (4 * Int.toNat (w ((dx.length:Int) - 1))+Int.toNat 1))) 0)] [R0 gS.2,R1,R2,jX im iS jF dx (.sl 4 0 (Int.toNat (bV.1.length:Int)) (Int.toNat (bV.1.length:Int))),jZ kb,⟨0,(aK 4 eN)⟩] [] ?_);refine iH IW λ Pu h88 IW=>PO.aX rfl (dC rfl (bG h88)) rfl ?_;refine PO.aX rfl (bX (o':=0) rfl (bG h88) (λ _ _=>rfl)) rfl ?_;refine PO.aX rfl (dX rfl (fZ (q:=vB Pu.gE) (z:=eN) cU rfl rfl h88 rfl)) rfl ?_;refine qt 1 [(0,E 0),(8,v0),(9,E 1),(10,E 2),(11,.fn 26 [] []),(12,E 3),(15,cN 5 4 19 jH 0),(17,cN 5 4 19 (some (some (4 * Int.toNat (w ((dx.length:Int) - 1))+Int.toNat 1))) 0),(127,g 1),(147,vB Pu.gE)] [R0 gS.2,R1,R2,jX im iS jF dx (.sl 4 0 (Int.toNat (bV.1.length:Int)) (Int.toNat (bV.1.length:Int))),jZ kb,⟨0,(aK 4 eN)⟩] [] ?_;refine aq IW λ x89 OU IW=>PO.cut 4 (λ s=>∃ (Lg:Bool) (Cl:List ay) (za:ay),bc s (PS.of 192 [(0,E 0),(8,v0),(9,E 1),(10,E 2),(11,.fn 26 [] []),(12,E 3),(15,cN 5 4 19 jH 0),(17,cN 5 4 19 (some (some (4 * Int.toNat (w ((dx.length:Int) - 1))+Int.toNat 1))) 0),(127,g 1),(151,vB Lg)] [R0 gS.2,R1,R2,jX im iS jF dx (.sl 4 0 (Int.toNat (bV.1.length:Int)) (Int.toNat (bV.1.length:Int))),jZ Cl,⟨0,(aK 4 za)⟩] [] 1 0)/\(Lg,Cl,za)=x89) ?_ ?_
   ·refine qC 147 OU (λ OU=>?_) λ OU=>?_
    ·refine qt 2 [(0,E 0),(8,v0),(9,E 1),(10,E 2),(11,.fn 26 [] []),(12,E 3),(15,cN 5 4 19 jH 0),(17,cN 5 4 19 (some (some (4 * Int.toNat (w ((dx.length:Int) - 1))+Int.toNat 1))) 0),(127,g 1),(147,vB true),(148,cN 5 4 19 (some (some (4 * Int.toNat (w ((dx.length:Int) - 1))+Int.toNat 1))) 0),(149,cN 5 4 19 jH 0)] [R0 gS.2,R1,R2,jX im iS jF dx (.sl 4 0 (Int.toNat (bV.1.length:Int)) (Int.toNat (bV.1.length:Int))),jZ kb,⟨0,(aK 4 eN)⟩] [] ?_;refine aq OU λ OT e93 OU=>?_;refine PO.call rfl rfl rfl rfl (ks:=[4,5]) (ts:=[]) (fr1:=[AJ kb,⟨0,(aK 0 eN)⟩]) rfl rfl (bT rfl (bT (eD rfl rfl) nm)) ⟨⟨_,rfl,rfl,eT rfl⟩,⟨⟨_,rfl,rfl,ef eN rfl⟩,trivial⟩⟩ (Ez k (some (some (4 * Int.toNat (w ((dx.length:Int) - 1))+Int.toNat 1))) jH kb eN _ e93) ?_;rintro _ _ _ ⟨rfl,rfl,rfl⟩;refine⟨_,_,rfl,(cF (oQ (eT rfl)) (cF (oQ (ef OT.2.2 rfl)) ki)),?_⟩;refine qN 1 ?_;exact⟨OT.1,OT.2.1,OT.2.2,qm [0,1,2,3,4,5] [] 0 (aA.c (aA.c (aA.c (aA.c ⟨⟨_,_,rfl,rfl,eT rfl,aT.refl _⟩,⟨⟨_,_,rfl,rfl,ef OT.2.2 rfl,(aT.refl _)⟩,aA.z⟩⟩)))) (aG.c (aG.c (aG.c (aG.c (aG.c (aG.c ⟨⟨_,_,rfl,eD rfl rfl,.refl _⟩,aG.z.c.c.c⟩)))))),qs OU⟩
    refine qN 4 ?_;exact⟨false,kb,eN,qm [0,1,2,3,4,5] [] 0 (aA.c (aA.c (aA.c (aA.c ⟨⟨_,_,rfl,rfl,eT rfl,aT.refl _⟩,⟨⟨_,_,rfl,rfl,ef eN rfl,(aT.refl _)⟩,aA.z⟩⟩)))) (aG.c (aG.c (aG.c (aG.c (aG.c (aG.c ⟨⟨_,_,rfl,eD rfl rfl,.refl _⟩,aG.z.c.c.c⟩)))))),qs OU⟩
   rintro _ ⟨Lg,Cl,za,w94,rfl⟩;refine w94.on (.lone (qD IW (λ IW=>?_) λ IW=>?_))
   ·refine .region (qY 2 [(0,E 0),(8,v0),(9,E 1),(10,E 2),(11,.fn 26 [] []),(12,E 3),(15,cN 5 4 19 (some (some (4 * Int.toNat (w ((dx.length:Int) - 1))+Int.toNat 1))) 0),(127,g 1)] [R0 gS.2,R1,R2,jX im iS jF dx (.sl 4 0 (Int.toNat (bV.1.length:Int)) (Int.toNat (bV.1.length:Int))),jZ Cl,⟨0,(aK 4 za)⟩] [] ?_);exact .skip (aC.end ⟨some (some (4 * Int.toNat (w ((dx.length:Int) - 1))+Int.toNat 1)),Cl,za,qm [0,1,2,3,4,5] [] 0 (aA.c (aA.c (aA.c (aA.c ⟨⟨_,_,rfl,rfl,eT rfl,aT.refl _⟩,⟨⟨_,_,rfl,rfl,ef za rfl,(aT.refl _)⟩,aA.z⟩⟩)))) aG.z.c.c.c.c.c.c.c.c,qs IW⟩)
   exact .aZ (PC.skip (aC.end ⟨jH,Cl,za,qm [0,1,2,3,4,5] [] 0 (aA.c (aA.c (aA.c (aA.c ⟨⟨_,_,rfl,rfl,eT rfl,aT.refl _⟩,⟨⟨_,_,rfl,rfl,ef za rfl,(aT.refl _)⟩,aA.z⟩⟩)))) (aG.c (aG.c (aG.c (aG.c (aG.c (aG.c ⟨⟨_,_,rfl,eD rfl rfl,.refl _⟩,aG.z.c⟩)))))),qs IW⟩))
  rintro _ ⟨oR,oS,mX,Wt,rfl⟩;refine Wt.c (.lone (.region (qY 2 [(0,E 0),(8,v0),(9,E 1),(10,E 2),(11,.fn 26 [] []),(12,E 3),(15,cN 5 4 19 oR 0),(127,g 2)] [R0 gS.2,R1,R2,jX im iS jF dx (.sl 4 0 (Int.toNat (bV.1.length:Int)) (Int.toNat (bV.1.length:Int))),jZ oS,⟨0,(aK 4 mX)⟩] [] ?_)));refine .skip (gi.end ?_);refine PC.m8 ?_;refine .region (qY 1 [(0,E 0),(8,v0),(9,E 1),(10,E 2),(11,.fn 26 [] []),(12,E 3),(15,cN 5 4 19 oR 0),(127,g 2),(128,vB true)] [R0 gS.2,R1,R2,jX im iS jF dx (.sl 4 0 (Int.toNat (bV.1.length:Int)) (Int.toNat (bV.1.length:Int))),jZ oS,⟨0,(aK 4 mX)⟩] [] ?_);refine PC.cond rfl (λ _=>?_) (λ h97=>Bool.noConfusion h97);refine .aZ (aq F7 λ Zg vY F7=>PC.bQ (λ s=>∃ (oV:Option (Option Nat)) (oW:List ay) (mY:ay),bc s (PS.of 192 [(0,E 0),(8,v0),(9,E 1),(10,E 2),(11,.fn 26 [] []),(12,E 3),(15,cN 5 4 19 oV 0),(127,g 2)] [R0 gS.2,R1,R2,jX im iS jF dx (.sl 4 0 (Int.toNat (bV.1.length:Int)) (Int.toNat (bV.1.length:Int))),jZ oW,⟨0,(aK 4 mY)⟩] [] 1 0)/\(oV,oW,mY)=Zg) ?_ ?_)
  ·refine .region (qY 2 [(0,E 0),(8,v0),(9,E 1),(10,E 2),(11,.fn 26 [] []),(12,E 3),(15,cN 5 4 19 oR 0),(16,g 2),(127,g 2)] [R0 gS.2,R1,R2,jX im iS jF dx (.sl 4 0 (Int.toNat (bV.1.length:Int)) (Int.toNat (bV.1.length:Int))),jZ oS,⟨0,(aK 4 mX)⟩] [] ?_);refine qo [0,1,2,3,4,5,6,7,8,9,10,11,12,13] ?_;refine qt 8 [(0,E 0),(8,v0),(9,E 1),(10,E 2),(11,.fn 26 [] []),(12,E 3),(15,cN 5 4 19 oR 0),(16,g 2),(127,g 2),(133,.sl 4 0 (Int.toNat (bV.1.length:Int)) (Int.toNat (bV.1.length:Int))),(137,lN dx)] [R0 gS.2,R1,R2,jX im iS jF dx (.sl 4 0 (Int.toNat (bV.1.length:Int)) (Int.toNat (bV.1.length:Int))),jZ oS,⟨0,(aK 4 mX)⟩] [] ?_;refine qS kF ?_;refine qt 2 [(0,E 0),(8,v0),(9,E 1),(10,E 2),(11,.fn 26 [] []),(12,E 3),(15,cN 5 4 19 oR 0),(127,g 2),(133,.sl 4 0 (Int.toNat (bV.1.length:Int)) (Int.toNat (bV.1.length:Int))),(139,g (w ((dx.length:Int) - 1))),(140,g 2)] [R0 gS.2,R1,R2,jX im iS jF dx (.sl 4 0 (Int.toNat (bV.1.length:Int)) (Int.toNat (bV.1.length:Int))),jZ oS,⟨0,(aK 4 mX)⟩] [] ?_;refine ic vY λ acK acL vY=>PO.aX rfl (mE N5 rfl rfl rfl acK acL) rfl ?_;refine qt 0 [(0,E 0),(8,v0),(9,E 1),(10,E 2),(11,.fn 26 [] []),(12,E 3),(15,cN 5 4 19 oR 0),(127,g 2),(140,g 2),(141,.ptr 4 (0+Int.toNat (w ((dx.length:Int) - 1)) * 76))] [R0 gS.2,R1,R2,jX im iS jF dx (.sl 4 0 (Int.toNat (bV.1.length:Int)) (Int.toNat (bV.1.length:Int))),jZ oS,⟨0,(aK 4 mX)⟩] [] ?_;refine ic vY λ acM Tl vY=>PO.aX rfl (ku (l:=5) (j:=4 * Int.toNat (w ((dx.length:Int) - 1))+Int.toNat 2) (sz:=19) Ow rfl rfl rfl acM Tl (by omega)) rfl ?_;refine qY 1 [(0,E 0),(8,v0),(9,E 1),(10,E 2),(11,.fn 26 [] []),(12,E 3),(15,cN 5 4 19 oR 0),(17,cN 5 4 19 (some (some (4 * Int.toNat (w ((dx.length:Int) - 1))+Int.toNat 2))) 0),(127,g 2)] [R0 gS.2,R1,R2,jX im iS jF dx (.sl 4 0 (Int.toNat (bV.1.length:Int)) (Int.toNat (bV.1.length:Int))),jZ oS,⟨0,(aK 4 mX)⟩] [] ?_;refine .region (qt 1 [(0,E 0),(8,v0),(9,E 1),(10,E 2),(11,.fn 26 [] []),(12,E 3),(15,cN 5 4 19 oR 0),(17,cN 5 4 19 (some (some (4 * Int.toNat (w ((dx.length:Int) - 1))+Int.toNat 2))) 0),(127,g 2),(143,cN 5 4 19 (some (some (4 * Int.toNat (w ((dx.length:Int) - 1))+Int.toNat 2))) 0)] [R0 gS.2,R1,R2,jX im iS jF dx (.sl 4 0 (Int.toNat (bV.1.length:Int)) (Int.toNat (bV.1.length:Int))),jZ oS,⟨0,(aK 4 mX)⟩] [] ?_);refine iH vY λ Pv Js vY=>PO.aX rfl (dC rfl (bG Js)) rfl ?_;refine PO.aX rfl (bX (o':=0) rfl (bG Js) (λ _ _=>rfl)) rfl ?_;refine PO.aX rfl (dX rfl (fZ (q:=vB Pv.gE) (z:=mX) cU rfl rfl Js rfl)) rfl ?_;refine qt 1 [(0,E 0),(8,v0),(9,E 1),(10,E 2),(11,.fn 26 [] []),(12,E 3),(15,cN 5 4 19 oR 0),(17,cN 5 4 19 (some (some (4 * Int.toNat (w ((dx.length:Int) - 1))+Int.toNat 2))) 0),(127,g 2),(147,vB Pv.gE)] [R0 gS.2,R1,R2,jX im iS jF dx (.sl 4 0 (Int.toNat (bV.1.length:Int)) (Int.toNat (bV.1.length:Int))),jZ oS,⟨0,(aK 4 mX)⟩] [] ?_;refine aq vY λ Tm yj vY=>PO.cut 4 (λ s=>∃ (Lh:Bool) (Cm:List ay) (oU:ay),bc s (PS.of 192 [(0,E 0),(8,v0),(9,E 1),(10,E 2),(11,.fn 26 [] []),(12,E 3),(15,cN 5 4 19 oR 0),(17,cN 5 4 19 (some (some (4 * Int.toNat (w ((dx.length:Int) - 1))+Int.toNat 2))) 0),(127,g 2),(151,vB Lh)] [R0 gS.2,R1,R2,jX im iS jF dx (.sl 4 0 (Int.toNat (bV.1.length:Int)) (Int.toNat (bV.1.length:Int))),jZ Cm,⟨0,(aK 4 oU)⟩] [] 1 0)/\(Lh,Cm,oU)=Tm) ?_ ?_
   ·refine qC 147 yj (λ yj=>?_) λ yj=>?_
    ·refine qt 2 [(0,E 0),(8,v0),(9,E 1),(10,E 2),(11,.fn 26 [] []),(12,E 3),(15,cN 5 4 19 oR 0),(17,cN 5 4 19 (some (some (4 * Int.toNat (w ((dx.length:Int) - 1))+Int.toNat 2))) 0),(127,g 2),(147,vB true),(148,cN 5 4 19 (some (some (4 * Int.toNat (w ((dx.length:Int) - 1))+Int.toNat 2))) 0),(149,cN 5 4 19 oR 0)] [R0 gS.2,R1,R2,jX im iS jF dx (.sl 4 0 (Int.toNat (bV.1.length:Int)) (Int.toNat (bV.1.length:Int))),jZ oS,⟨0,(aK 4 mX)⟩] [] ?_;refine aq yj λ yi Tn yj=>?_;refine PO.call rfl rfl rfl rfl (ks:=[4,5]) (ts:=[]) (fr1:=[AJ oS,⟨0,(aK 0 mX)⟩]) rfl rfl (bT rfl (bT (eD rfl rfl) nm)) ⟨⟨_,rfl,rfl,eT rfl⟩,⟨⟨_,rfl,rfl,ef mX rfl⟩,trivial⟩⟩ (Ez k (some (some (4 * Int.toNat (w ((dx.length:Int) - 1))+Int.toNat 2))) oR oS mX _ Tn) ?_;rintro _ _ _ ⟨rfl,rfl,rfl⟩;refine⟨_,_,rfl,(cF (oQ (eT rfl)) (cF (oQ (ef yi.2.2 rfl)) ki)),?_⟩;refine qN 1 ?_;exact⟨yi.1,yi.2.1,yi.2.2,qm [0,1,2,3,4,5] [] 0 (aA.c (aA.c (aA.c (aA.c ⟨⟨_,_,rfl,rfl,eT rfl,aT.refl _⟩,⟨⟨_,_,rfl,rfl,ef yi.2.2 rfl,(aT.refl _)⟩,aA.z⟩⟩)))) (aG.c (aG.c (aG.c (aG.c (aG.c (aG.c ⟨⟨_,_,rfl,eD rfl rfl,.refl _⟩,aG.z.c.c.c⟩)))))),qs yj⟩
    refine qN 4 ?_;exact⟨false,oS,mX,qm [0,1,2,3,4,5] [] 0 (aA.c (aA.c (aA.c (aA.c ⟨⟨_,_,rfl,rfl,eT rfl,aT.refl _⟩,⟨⟨_,_,rfl,rfl,ef mX rfl,(aT.refl _)⟩,aA.z⟩⟩)))) (aG.c (aG.c (aG.c (aG.c (aG.c (aG.c ⟨⟨_,_,rfl,eD rfl rfl,.refl _⟩,aG.z.c.c.c⟩)))))),qs yj⟩
   rintro _ ⟨Lh,Cm,oU,acN,rfl⟩;refine acN.on (.lone (qD vY (λ vY=>?_) λ vY=>?_))
   ·refine .region (qY 2 [(0,E 0),(8,v0),(9,E 1),(10,E 2),(11,.fn 26 [] []),(12,E 3),(15,cN 5 4 19 (some (some (4 * Int.toNat (w ((dx.length:Int) - 1))+Int.toNat 2))) 0),(127,g 2)] [R0 gS.2,R1,R2,jX im iS jF dx (.sl 4 0 (Int.toNat (bV.1.length:Int)) (Int.toNat (bV.1.length:Int))),jZ Cm,⟨0,(aK 4 oU)⟩] [] ?_);exact .skip (aC.end ⟨some (some (4 * Int.toNat (w ((dx.length:Int) - 1))+Int.toNat 2)),Cm,oU,qm [0,1,2,3,4,5] [] 0 (aA.c (aA.c (aA.c (aA.c ⟨⟨_,_,rfl,rfl,eT rfl,aT.refl _⟩,⟨⟨_,_,rfl,rfl,ef oU rfl,(aT.refl _)⟩,aA.z⟩⟩)))) aG.z.c.c.c.c.c.c.c.c,qs vY⟩)
   exact .aZ (PC.skip (aC.end ⟨oR,Cm,oU,qm [0,1,2,3,4,5] [] 0 (aA.c (aA.c (aA.c (aA.c ⟨⟨_,_,rfl,rfl,eT rfl,aT.refl _⟩,⟨⟨_,_,rfl,rfl,ef oU rfl,(aT.refl _)⟩,aA.z⟩⟩)))) (aG.c (aG.c (aG.c (aG.c (aG.c (aG.c ⟨⟨_,_,rfl,eD rfl rfl,.refl _⟩,aG.z.c⟩)))))),qs vY⟩))
  rintro _ ⟨oV,oW,mY,acO,rfl⟩;refine acO.c (.lone (.region (qY 2 [(0,E 0),(8,v0),(9,E 1),(10,E 2),(11,.fn 26 [] []),(12,E 3),(15,cN 5 4 19 oV 0),(127,g 3)] [R0 gS.2,R1,R2,jX im iS jF dx (.sl 4 0 (Int.toNat (bV.1.length:Int)) (Int.toNat (bV.1.length:Int))),jZ oW,⟨0,(aK 4 mY)⟩] [] ?_)));refine .skip (gi.end ?_);refine PC.m8 ?_;refine .region (qY 1 [(0,E 0),(8,v0),(9,E 1),(10,E 2),(11,.fn 26 [] []),(12,E 3),(15,cN 5 4 19 oV 0),(127,g 3),(128,vB true)] [R0 gS.2,R1,R2,jX im iS jF dx (.sl 4 0 (Int.toNat (bV.1.length:Int)) (Int.toNat (bV.1.length:Int))),jZ oW,⟨0,(aK 4 mY)⟩] [] ?_);refine PC.cond rfl (λ _=>?_) (λ acP=>Bool.noConfusion acP);refine .aZ (aq F7 λ acQ wu F7=>PC.bQ (λ s=>∃ (D7:Option (Option Nat)) (D8:List ay) (Cq:ay),bc s (PS.of 192 [(0,E 0),(8,v0),(9,E 1),(10,E 2),(11,.fn 26 [] []),(12,E 3),(15,cN 5 4 19 D7 0),(127,g 3)] [R0 gS.2,R1,R2,jX im iS jF dx (.sl 4 0 (Int.toNat (bV.1.length:Int)) (Int.toNat (bV.1.length:Int))),jZ D8,⟨0,(aK 4 Cq)⟩] [] 1 0)/\(D7,D8,Cq)=acQ) ?_ ?_)
  ·refine .region (qY 2 [(0,E 0),(8,v0),(9,E 1),(10,E 2),(11,.fn 26 [] []),(12,E 3),(15,cN 5 4 19 oV 0),(16,g 3),(127,g 3)] [R0 gS.2,R1,R2,jX im iS jF dx (.sl 4 0 (Int.toNat (bV.1.length:Int)) (Int.toNat (bV.1.length:Int))),jZ oW,⟨0,(aK 4 mY)⟩] [] ?_);refine qo [0,1,2,3,4,5,6,7,8,9,10,11,12,13] ?_;refine qt 8 [(0,E 0),(8,v0),(9,E 1),(10,E 2),(11,.fn 26 [] []),(12,E 3),(15,cN 5 4 19 oV 0),(16,g 3),(127,g 3),(133,.sl 4 0 (Int.toNat (bV.1.length:Int)) (Int.toNat (bV.1.length:Int))),(137,lN dx)] [R0 gS.2,R1,R2,jX im iS jF dx (.sl 4 0 (Int.toNat (bV.1.length:Int)) (Int.toNat (bV.1.length:Int))),jZ oW,⟨0,(aK 4 mY)⟩] [] ?_;refine qS kF ?_;refine qt 2 [(0,E 0),(8,v0),(9,E 1),(10,E 2),(11,.fn 26 [] []),(12,E 3),(15,cN 5 4 19 oV 0),(127,g 3),(133,.sl 4 0 (Int.toNat (bV.1.length:Int)) (Int.toNat (bV.1.length:Int))),(139,g (w ((dx.length:Int) - 1))),(140,g 3)] [R0 gS.2,R1,R2,jX im iS jF dx (.sl 4 0 (Int.toNat (bV.1.length:Int)) (Int.toNat (bV.1.length:Int))),jZ oW,⟨0,(aK 4 mY)⟩] [] ?_;refine ic wu λ acR acS wu=>PO.aX rfl (mE N5 rfl rfl rfl acR acS) rfl ?_;refine qt 0 [(0,E 0),(8,v0),(9,E 1),(10,E 2),(11,.fn 26 [] []),(12,E 3),(15,cN 5 4 19 oV 0),(127,g 3),(140,g 3),(141,.ptr 4 (0+Int.toNat (w ((dx.length:Int) - 1)) * 76))] [R0 gS.2,R1,R2,jX im iS jF dx (.sl 4 0 (Int.toNat (bV.1.length:Int)) (Int.toNat (bV.1.length:Int))),jZ oW,⟨0,(aK 4 mY)⟩] [] ?_;refine ic wu λ acT acU wu=>PO.aX rfl (ku (l:=5) (j:=4 * Int.toNat (w ((dx.length:Int) - 1))+Int.toNat 3) (sz:=19) Ow rfl rfl rfl acT acU (by omega)) rfl ?_;refine qY 1 [(0,E 0),(8,v0),(9,E 1),(10,E 2),(11,.fn 26 [] []),(12,E 3),(15,cN 5 4 19 oV 0),(17,cN 5 4 19 (some (some (4 * Int.toNat (w ((dx.length:Int) - 1))+Int.toNat 3))) 0),(127,g 3)] [R0 gS.2,R1,R2,jX im iS jF dx (.sl 4 0 (Int.toNat (bV.1.length:Int)) (Int.toNat (bV.1.length:Int))),jZ oW,⟨0,(aK 4 mY)⟩] [] ?_;refine .region (qt 1 [(0,E 0),(8,v0),(9,E 1),(10,E 2),(11,.fn 26 [] []),(12,E 3),(15,cN 5 4 19 oV 0),(17,cN 5 4 19 (some (some (4 * Int.toNat (w ((dx.length:Int) - 1))+Int.toNat 3))) 0),(127,g 3),(143,cN 5 4 19 (some (some (4 * Int.toNat (w ((dx.length:Int) - 1))+Int.toNat 3))) 0)] [R0 gS.2,R1,R2,jX im iS jF dx (.sl 4 0 (Int.toNat (bV.1.length:Int)) (Int.toNat (bV.1.length:Int))),jZ oW,⟨0,(aK 4 mY)⟩] [] ?_);refine iH wu λ Pw To wu=>PO.aX rfl (dC rfl (bG To)) rfl ?_;refine PO.aX rfl (bX (o':=0) rfl (bG To) (λ _ _=>rfl)) rfl ?_;refine PO.aX rfl (dX rfl (fZ (q:=vB Pw.gE) (z:=mY) cU rfl rfl To rfl)) rfl ?_;refine qt 1 [(0,E 0),(8,v0),(9,E 1),(10,E 2),(11,.fn 26 [] []),(12,E 3),(15,cN 5 4 19 oV 0),(17,cN 5 4 19 (some (some (4 * Int.toNat (w ((dx.length:Int) - 1))+Int.toNat 3))) 0),(127,g 3),(147,vB Pw.gE)] [R0 gS.2,R1,R2,jX im iS jF dx (.sl 4 0 (Int.toNat (bV.1.length:Int)) (Int.toNat (bV.1.length:Int))),jZ oW,⟨0,(aK 4 mY)⟩] [] ?_;refine aq wu λ acV Gp wu=>PO.cut 4 (λ s=>∃ (Li:Bool) (Co:List ay) (zb:ay),bc s (PS.of 192 [(0,E 0),(8,v0),(9,E 1),(10,E 2),(11,.fn 26 [] []),(12,E 3),(15,cN 5 4 19 oV 0),(17,cN 5 4 19 (some (some (4 * Int.toNat (w ((dx.length:Int) - 1))+Int.toNat 3))) 0),(127,g 3),(151,vB Li)] [R0 gS.2,R1,R2,jX im iS jF dx (.sl 4 0 (Int.toNat (bV.1.length:Int)) (Int.toNat (bV.1.length:Int))),jZ Co,⟨0,(aK 4 zb)⟩] [] 1 0)/\(Li,Co,zb)=acV) ?_ ?_
   ·refine qC 147 Gp (λ Gp=>?_) λ Gp=>?_
    ·refine qt 2 [(0,E 0),(8,v0),(9,E 1),(10,E 2),(11,.fn 26 [] []),(12,E 3),(15,cN 5 4 19 oV 0),(17,cN 5 4 19 (some (some (4 * Int.toNat (w ((dx.length:Int) - 1))+Int.toNat 3))) 0),(127,g 3),(147,vB true),(148,cN 5 4 19 (some (some (4 * Int.toNat (w ((dx.length:Int) - 1))+Int.toNat 3))) 0),(149,cN 5 4 19 oV 0)] [R0 gS.2,R1,R2,jX im iS jF dx (.sl 4 0 (Int.toNat (bV.1.length:Int)) (Int.toNat (bV.1.length:Int))),jZ oW,⟨0,(aK 4 mY)⟩] [] ?_;refine aq Gp λ Cn acW Gp=>?_;refine PO.call rfl rfl rfl rfl (ks:=[4,5]) (ts:=[]) (fr1:=[AJ oW,⟨0,(aK 0 mY)⟩]) rfl rfl (bT rfl (bT (eD rfl rfl) nm)) ⟨⟨_,rfl,rfl,eT rfl⟩,⟨⟨_,rfl,rfl,ef mY rfl⟩,trivial⟩⟩ (Ez k (some (some (4 * Int.toNat (w ((dx.length:Int) - 1))+Int.toNat 3))) oV oW mY _ acW) ?_;rintro _ _ _ ⟨rfl,rfl,rfl⟩;refine⟨_,_,rfl,(cF (oQ (eT rfl)) (cF (oQ (ef Cn.2.2 rfl)) ki)),?_⟩;refine qN 1 ?_;exact⟨Cn.1,Cn.2.1,Cn.2.2,qm [0,1,2,3,4,5] [] 0 (aA.c (aA.c (aA.c (aA.c ⟨⟨_,_,rfl,rfl,eT rfl,aT.refl _⟩,⟨⟨_,_,rfl,rfl,ef Cn.2.2 rfl,(aT.refl _)⟩,aA.z⟩⟩)))) (aG.c (aG.c (aG.c (aG.c (aG.c (aG.c ⟨⟨_,_,rfl,eD rfl rfl,.refl _⟩,aG.z.c.c.c⟩)))))),qs Gp⟩
    refine qN 4 ?_;exact⟨false,oW,mY,qm [0,1,2,3,4,5] [] 0 (aA.c (aA.c (aA.c (aA.c ⟨⟨_,_,rfl,rfl,eT rfl,aT.refl _⟩,⟨⟨_,_,rfl,rfl,ef mY rfl,(aT.refl _)⟩,aA.z⟩⟩)))) (aG.c (aG.c (aG.c (aG.c (aG.c (aG.c ⟨⟨_,_,rfl,eD rfl rfl,.refl _⟩,aG.z.c.c.c⟩)))))),qs Gp⟩
   rintro _ ⟨Li,Co,zb,acX,rfl⟩;refine acX.on (.lone (qD wu (λ wu=>?_) λ wu=>?_))
   ·refine .region (qY 2 [(0,E 0),(8,v0),(9,E 1),(10,E 2),(11,.fn 26 [] []),(12,E 3),(15,cN 5 4 19 (some (some (4 * Int.toNat (w ((dx.length:Int) - 1))+Int.toNat 3))) 0),(127,g 3)] [R0 gS.2,R1,R2,jX im iS jF dx (.sl 4 0 (Int.toNat (bV.1.length:Int)) (Int.toNat (bV.1.length:Int))),jZ Co,⟨0,(aK 4 zb)⟩] [] ?_);exact .skip (aC.end ⟨some (some (4 * Int.toNat (w ((dx.length:Int) - 1))+Int.toNat 3)),Co,zb,qm [0,1,2,3,4,5] [] 0 (aA.c (aA.c (aA.c (aA.c ⟨⟨_,_,rfl,rfl,eT rfl,aT.refl _⟩,⟨⟨_,_,rfl,rfl,ef zb rfl,(aT.refl _)⟩,aA.z⟩⟩)))) aG.z.c.c.c.c.c.c.c.c,qs wu⟩)
   exact .aZ (PC.skip (aC.end ⟨oV,Co,zb,qm [0,1,2,3,4,5] [] 0 (aA.c (aA.c (aA.c (aA.c ⟨⟨_,_,rfl,rfl,eT rfl,aT.refl _⟩,⟨⟨_,_,rfl,rfl,ef zb rfl,(aT.refl _)⟩,aA.z⟩⟩)))) (aG.c (aG.c (aG.c (aG.c (aG.c (aG.c ⟨⟨_,_,rfl,eD rfl rfl,.refl _⟩,aG.z.c⟩)))))),qs wu⟩))
  rintro _ ⟨D7,D8,Cq,acY,rfl⟩;refine acY.c (.lone (.region (qY 2 [(0,E 0),(8,v0),(9,E 1),(10,E 2),(11,.fn 26 [] []),(12,E 3),(15,cN 5 4 19 D7 0),(127,g 4)] [R0 gS.2,R1,R2,jX im iS jF dx (.sl 4 0 (Int.toNat (bV.1.length:Int)) (Int.toNat (bV.1.length:Int))),jZ D8,⟨0,(aK 4 Cq)⟩] [] ?_)));refine .skip (gi.end ?_);refine PC.m8 ?_;refine .region (qY 1 [(0,E 0),(8,v0),(9,E 1),(10,E 2),(11,.fn 26 [] []),(12,E 3),(15,cN 5 4 19 D7 0),(127,g 4),(128,vB false)] [R0 gS.2,R1,R2,jX im iS jF dx (.sl 4 0 (Int.toNat (bV.1.length:Int)) (Int.toNat (bV.1.length:Int))),jZ D8,⟨0,(aK 4 Cq)⟩] [] ?_);refine PC.cond rfl (λ acZ=>Bool.noConfusion acZ) (λ _=>?_);exact .exit (gi.exit (aC.eF ⟨D7,D8,Cq,qm [0,1,2,4,5] [] 0 (aA.c (aA.c (aA.c ⟨⟨_,_,rfl,rfl,eT rfl,aT.refl _⟩,⟨⟨_,_,rfl,rfl,ef Cq rfl,(aT.refl _)⟩,aA.z⟩⟩))) (aG.c (aG.c (aG.c (aG.c (aG.c ⟨⟨_,_,rfl,eD rfl rfl,.refl _⟩,aG.z⟩))))),qs F7⟩))
 rintro _ ⟨nN,oO,fq,ac0,rfl⟩;refine ac0.c (qr 2 ?_);refine qK 3 ?_;refine aq I λ Xr rN I=>PC.bQ (λ s=>∃ (A9:List Int),bc s (PS.of 192 [(0,E 0),(8,v0),(9,E 1),(10,E 2),(11,.fn 26 [] []),(15,cN 4 3 19 nN 0),(18,lM A9 0)] [R0 gS.2,R1,R2,Kr oO,⟨0,(aK 3 fq)⟩] [A9.length] 1 0)/\A9=Xr) ?_ ?_
 ·refine PC.gb (s':=PS.of 192 [(0,E 0),(8,v0),(9,E 1),(10,E 2),(11,.fn 26 [] []),(15,cN 4 3 19 nN 0),(18,.aS 1 (List.map br ([] : List Int)) (some 0)),(19,cN 4 3 19 nN 0)] [R0 gS.2,R1,R2,Kr oO,⟨0,(aK 3 fq)⟩] [0] 1 0) (qm [0,1,2,3,4] [] 1 (aA.c (aA.c (aA.c ⟨⟨_,_,rfl,rfl,eT rfl,aT.refl _⟩,⟨⟨_,_,rfl,rfl,ef fq rfl,(aT.refl _)⟩,aA.z⟩⟩))) (aG.c (aG.c (aG.c (aG.c (aG.c ⟨⟨_,_,rfl,eD rfl rfl,.refl _⟩,⟨⟨_,_,rfl,rfl,.Ja 1 0 rfl rfl⟩,⟨⟨_,_,rfl,eD rfl rfl,.refl _⟩,aG.z⟩⟩⟩)))))) ?_;refine PC.loop (λ Jn s=>∃ (wq:List Int) (D4:Option (Option Nat)),bc s (PS.of 192 [(0,E 0),(8,v0),(9,E 1),(10,E 2),(11,.fn 26 [] []),(15,cN 4 3 19 nN 0),(18,lM wq 0),(19,cN 4 3 19 D4 0)] [R0 gS.2,R1,R2,Kr oO,⟨0,(aK 3 fq)⟩] [wq.length] 1 0)/\ud k oO fq Jn wq D4=some Xr) (λ Jn s=>?_) k ⟨([] : List Int),nN,qm [0,1,2,3,4] [0] 0 (aA.c (aA.c (aA.c ⟨⟨_,_,rfl,rfl,eT rfl,aT.refl _⟩,⟨⟨_,_,rfl,rfl,ef fq rfl,(aT.refl _)⟩,aA.z⟩⟩))) (aG.c (aG.c (aG.c (aG.c (aG.c ⟨⟨_,_,rfl,eD rfl rfl,.refl _⟩,(aG.c ⟨⟨_,_,rfl,eD rfl rfl,.refl _⟩,aG.z⟩)⟩))))),rN⟩;rintro⟨wq,D4,ac1,rN⟩;refine ac1.c ?_;obtain _ | Jn:=Jn
  · rw[ud] at rN; cases rN
  rw[ud] at rN;refine qM 1 ?_;refine PO.aX rfl (Ka VU rfl rfl (by kernel_rfl)) rfl ?_;refine .nil (qD rN (λ rN=>?_) λ rN=>?_)
  ·refine .aZ (PC.block ?_);refine .lone (qL 2 ?_);refine iH rN λ Jo Px rN=>PO.aX rfl (dC rfl (bG Px)) rfl ?_;refine PO.aX rfl (bX (o':=4) rfl (bG Px) (λ _ _=>rfl)) rfl ?_;refine PO.aX rfl (bX (o':=2) rfl (bG Px) (λ _ _=>rfl)) rfl ?_;refine PO.aX rfl (dX rfl (fZ (q:=g Jo.bw) (z:=fq) cU rfl rfl Px rfl)) rfl ?_;refine qt 1 [(0,E 0),(8,v0),(9,E 1),(10,E 2),(11,.fn 26 [] []),(15,cN 4 3 19 nN 0),(18,lM wq 0),(19,cN 4 3 19 D4 0),(161,lM wq 0),(167,.aS 1 (List.map br ([Jo.bw])) (some 1))] [R0 gS.2,R1,R2,Kr oO,⟨0,(aK 3 fq)⟩] [wq.length,1] ?_;refine pZ rN λ ac2 rN=>?_;generalize Ua:wq++([Jo.bw])=Tj at rN;refine PO.one rfl (iZ (L:=wq) (M:=[Jo.bw]) (f:=br) (sz:=1) (bytes:=8) kF rfl rfl rfl rfl rfl rfl rfl rfl rfl rfl rfl rfl ac2 Ua) rfl ?_;refine qN 1 ?_;refine .skip (bk.end ?_);refine .lone (qL 1 ?_);refine iH rN λ Pt Tp rN=>PO.aX rfl (dC rfl (bG Tp)) rfl ?_;refine PO.aX rfl (bX (o':=18) rfl (bG Tp) (λ _ _=>rfl)) rfl ?_;refine PO.aX rfl (dX rfl (fZ (q:=cN 4 3 19 (Option.map some Pt.ahead) 0) (z:=fq) cU rfl rfl Tp (by rw[Te 4 3]; rfl))) rfl ?_;refine qN 1 ?_;exact .skip (bh.mk (Nat.lt_succ_self _) ⟨Tj,Option.map some Pt.ahead,qm [0,1,2,3,4] [0] 0 (aA.c (aA.c (aA.c ⟨⟨_,_,rfl,rfl,eT rfl,aT.refl _⟩,⟨⟨_,_,rfl,rfl,ef fq rfl,(aT.refl _)⟩,aA.z⟩⟩))) (aG.c (aG.c (aG.c (aG.c (aG.c ⟨⟨_,_,rfl,eD rfl rfl,.refl _⟩,(aG.c ⟨⟨_,_,rfl,eD rfl rfl,.refl _⟩,aG.z⟩)⟩))))),rN⟩)
  exact .exit (bh.exit (aC.eF ⟨wq,qm [0,1,2,3,4] [0] 0 (aA.c (aA.c (aA.c ⟨⟨_,_,rfl,rfl,eT rfl,aT.refl _⟩,⟨⟨_,_,rfl,rfl,ef fq rfl,(aT.refl _)⟩,aA.z⟩⟩))) (aG.c (aG.c (aG.c (aG.c (aG.c ⟨⟨_,_,rfl,eD rfl rfl,.refl _⟩,aG.z.c⟩))))),qs rN⟩))
 rintro _ ⟨A9,ac3,rfl⟩;refine ac3.c (.region (PO.gb (s':=PS.of 192 [(0,E 0),(8,v0),(9,E 1),(10,E 2),(11,.fn 26 [] []),(15,cN 4 3 19 nN 0),(18,lM A9 0)] [R0 gS.2,R1,R2,Kr oO,⟨0,(aK 3 fq)⟩] [A9.length] 1 0) (qm [0,1,2,3,4] [0] 0 (aA.c (aA.c (aA.c ⟨⟨_,_,rfl,rfl,eT rfl,aT.refl _⟩,⟨⟨_,_,rfl,rfl,ef fq rfl,(aT.refl _)⟩,aA.z⟩⟩))) (aG.c (aG.c (aG.c (aG.c (aG.c ⟨⟨_,_,rfl,eD rfl rfl,.refl _⟩,aG.z.c⟩)))))) ?_));refine NJ I λ ac4 I=>?_;generalize Ub:List.reverse A9=mW at I;refine PO.Pe (L:=A9) (t:=0) (tk':=[mW.length]) [(0,E 0),(8,v0),(9,E 1),(10,E 2),(11,.fn 26 [] []),(15,cN 4 3 19 nN 0)] Ub rfl rfl rfl rfl rfl rfl ⟨rfl,rfl⟩ Qr ac4 Qs (cc (⟨by kernel_rfl,.ptr _ _,rfl,rfl⟩) (cc (⟨by kernel_rfl,.val _,rfl,rfl⟩) (cc (⟨by kernel_rfl,.ptr _ _,rfl,rfl⟩) (cc (⟨by kernel_rfl,.ptr _ _,rfl,rfl⟩) (cc (⟨by kernel_rfl,.fn tU tU,rfl,rfl⟩) (cc (⟨by kernel_rfl,Rt,rfl,rfl⟩) tU)))))) (cc (cc (.val _) (cc (.val _) (cc (.val _) (cc (.val _) (cc (.val _) (cc (.val _) (cc (.val _) tU))))))) (cc (cc (.val _) (cc (.val _) (cc (.val _) tU))) (cc (cc (.val _) (cc (.val _) tU)) (cc (Ql uAp _) (cc (uAp fq) tU))))) rfl ?_;refine PO.gb (s':=PS.of 192 [(0,E 0),(8,v0),(9,E 1),(10,E 2),(11,.fn 26 [] []),(15,cN 4 3 19 nN 0),(18,lM mW 0)] [R0 gS.2,R1,R2,Kr oO,⟨0,(aK 3 fq)⟩] [mW.length] 1 0) (qm [0,1,2,3,4] [0] 0 (aA.c (aA.c (aA.c ⟨⟨_,_,rfl,rfl,eT rfl,aT.refl _⟩,⟨⟨_,_,rfl,rfl,ef fq rfl,(aT.refl _)⟩,aA.z⟩⟩))) (aG.c (aG.c (aG.c (aG.c (aG.c ⟨⟨_,_,rfl,eD rfl rfl,.refl _⟩,aG.z.c⟩)))))) ?_;refine .nil (qM 1 ?_);refine qS kF ?_;refine qN 1 ?_;refine aq I λ Xs oX I=>PC.bQ (λ s=>∃ (Jr:aE),bc s (PS.of 192 [(8,v0),(9,E 1),(10,E 2),(15,cN 4 3 19 nN 0),(18,lM mW 0)] [R0 Jr,R1,R2,Kr oO,⟨0,(aK 3 fq)⟩] [mW.length] 1 0)/\.inl Jr=Xs) ?_ ?_
 ·refine PC.loop (λ Jp s=>∃ (Ck:Int) (D5:aE),bc s (PS.of 192 [(0,E 0),(8,v0),(9,E 1),(10,E 2),(11,.fn 26 [] []),(15,cN 4 3 19 nN 0),(18,lM mW 0),(172,g (mW.length:Int)),(173,g Ck)] [R0 D5,R1,R2,Kr oO,⟨0,(aK 3 fq)⟩] [mW.length] 1 0)/\sj k mW Jp Ck D5=some Xs) (λ Jp s=>?_) k ⟨0,gS.2,qm [0,1,2,3,4] [0] 0 (aA.c (aA.c (aA.c ⟨⟨_,_,rfl,rfl,eT rfl,aT.refl _⟩,⟨⟨_,_,rfl,rfl,ef fq rfl,(aT.refl _)⟩,aA.z⟩⟩))) (aG.c (aG.c (aG.c (aG.c (aG.c ⟨⟨_,_,rfl,eD rfl rfl,.refl _⟩,aG.z.c.c.c⟩))))),oX⟩;rintro⟨Ck,D5,ac5,oX⟩;refine ac5.c ?_;obtain _ | Jp:=Jp
  · rw[sj] at oX; cases oX
  rw[sj] at oX;refine qr 2 ?_;refine qD oX (λ oX=>?_) λ oX=>?_
  ·refine .aZ (PC.block ?_);refine qL 1 ?_;refine aq oX λ Jq ac6 oX=>qG [0] [] (L28 k D5 1 _ ac6) ⟨⟨_,rfl,rfl,rfl⟩,trivial⟩ ?_;refine qN 1 ?_;refine .lone (qD oX (λ oX=>?_) λ oX=>?_)
   ·refine qM 2 ?_;refine aq oX λ Gn ac7 oX=>qG [0] [] (Y6 k Jq.2 _ ac7) ⟨⟨_,rfl,rfl,rfl⟩,trivial⟩ ?_;refine qt 0 [(0,E 0),(8,v0),(9,E 1),(10,E 2),(11,.fn 26 [] []),(15,cN 4 3 19 nN 0),(18,lM mW 0),(172,g (mW.length:Int)),(173,g Ck),(178,.fn 26 [] []),(180,g Gn.1)] [R0 Gn.2,R1,R2,Kr oO,⟨0,(aK 3 fq)⟩] [mW.length] ?_;refine aq oX λ D6 ac8 oX=>?_;refine PO.xw rfl rfl rfl rfl rfl (ks:=[]) (ts:=[]) (fr1:=[]) rfl rfl rfl trivial (Wf k Gn.1 0 _ ac8) ?_;rintro _ _ _ ⟨rfl,rfl,rfl⟩;refine⟨_,_,rfl,rfl,?_⟩;refine qY 6 [(0,E 0),(8,lM D6.1 1),(9,E 1),(10,E 2),(11,.fn 26 [] []),(15,cN 4 3 19 nN 0),(18,lM mW 0),(172,g (mW.length:Int)),(173,g Ck)] [R0 Gn.2,Bs D6.2.1,N6 D6.2.2,Kr oO,⟨0,(aK 3 fq)⟩] [mW.length,D6.1.length] ?_;cases oX;cases I;exact .ret (bk.ct (bh.ret (aC.ct (qf [0] [1]))))
   refine .aZ (PC.skip (bk.end ?_));refine .lone (qr 3 ?_);exact .skip (bh.mk (Nat.lt_succ_self _) ⟨w (Ck+1),Jq.2,qm [0,1,2,3,4] [0] 0 (aA.c (aA.c (aA.c ⟨⟨_,_,rfl,rfl,eT rfl,aT.refl _⟩,⟨⟨_,_,rfl,rfl,ef fq rfl,(aT.refl _)⟩,aA.z⟩⟩))) (aG.c (aG.c (aG.c (aG.c (aG.c ⟨⟨_,_,rfl,eD rfl rfl,.refl _⟩,aG.z.c.c.c⟩))))),oX⟩)
  exact .exit (bh.exit (aC.eF ⟨D5,qm [0,1,2,3,4] [0] 0 (aA.c (aA.c (aA.c ⟨⟨_,_,rfl,rfl,eT rfl,aT.refl _⟩,⟨⟨_,_,rfl,rfl,ef fq rfl,(aT.refl _)⟩,aA.z⟩⟩))) (aG.c (aG.c (aG.c ⟨⟨_,_,rfl,eD rfl rfl,.refl _⟩,aG.z.c⟩))),qs oX⟩))
 rintro _ ⟨Jr,ac9,rfl⟩;refine ac9.c ?_;have I:=fD I;refine qo [0,1,2,3,4,6,7,5,8] ?_;refine qR 2 ?_;refine iH I λ Ba Tq I=>PO.aX rfl (dC rfl (bG Tq)) rfl ?_;refine PO.aX rfl (bX (o':=1) rfl (bG Tq) (λ _ _=>rfl)) rfl ?_;refine PO.aX rfl (dX rfl (fZ (q:=.agg [g Ba.bj,g Ba.aR,g Ba.aO]) (z:=fq) cU rfl rfl Tq rfl)) rfl ?_;refine qY 4 [(8,lM mW 0),(9,E 1),(10,E 2)] [R0 Jr,⟨0,[g Ba.bj,g Ba.aR,g Ba.aO]⟩,R2,Kr oO,⟨0,(aK 3 fq)⟩] [mW.length] ?_;cases I;exact .cS (qf [0] [0])
def Wu (k:Nat) (A:au):Option Bool:=
Option.bind (α:=Bool) (bif A.aM == 4 then(some (decide (A.value<=(-10000)))) else(some false)) λ(v1:Bool)=>
some v1
theorem L63 (k:Nat) (A:au) (r:Bool) (I:Wu k A=some r):PF Try.prog fK 63 [.agg (dn A)] [] [] (λ p fr tk=>p=vB r/\fr=[]/\tk=[]):=by
 unfold Wu at I;refine qP Try.func63 ?_;refine .region (qX 2 [0] [] [(1,E 0),(2,vB false)] [R4 A] [] ?_);refine qL 4 ?_;refine aq I λ x1 e2 I=>PO.cut 4 (cu (λ v1=>PS.of 11 [(2,vB false),(10,vB v1)] [] [] 0 0) x1) ?_ ?_
 ·refine qC 6 e2 (λ e2=>?_) λ e2=>?_
  ·refine qN 4 ?_;exact⟨decide (A.value<=(-10000)),qw [] [],qs e2⟩
  exact qW 4 false [] [] e2
 rintro _ ⟨v1,w4,rfl⟩;refine w4.o (qN 1 ?_);cases I;exact .cS (qf [] [])
def Wv (k:Nat) (A:List au) (a1:Int):Option Bool:=
Option.bind (α:=Bool) (bif a1 == 0 then(some true) else(Option.bind (α:=Bool) (bif decide ((w (a1+1))>=(A.length:Int)) then(some true) else(bp A (w (a1 - 1)) λ y3=>
Option.bind (α:=Bool) (bif y3.aM != 1 then(some true) else(bp A (w (a1+1)) λ y5=>
some (y5.aM != 1))) λ(v4:Bool)=>
some v4)) λ(v2:Bool)=>
some v2)) λ(v1:Bool)=>
bif v1 then(some false) else(bp A a1 λ y6=>
bp A a1 λ y7=>
Option.bind (α:=Bool) (bif (y7.aM == 2 && (y7.cP == ByteArray.empty && (y7.size == 0 && (y7.dc == 0 && (y7.aB == y6.aB && (y7.aD == 0 && (y7.depth == 0 && (y7.aw == 0 && (y7.aF == 0 && (y7.value == 0 && (y7.cR == false && (y7.bM == 0 && (y7.to_ == 0 && true))))))))))))) then(Option.bind (α:=Bool) (bif y6.aB != 0 then(Option.bind (α:=Bool) (bif decide (y6.aB<=1099511627776) then(bp A (w (a1 - 1)) λ HE=>
bp A (w (a1+1)) λ AW=>
some (decide (y6.aB>=(w (0 - (if AW.aB < HE.aB then AW.aB else HE.aB)))))) else(some false)) λ(v10:Bool)=>
some v10) else(some false)) λ(v9:Bool)=>
some v9) else(some false)) λ(v8:Bool)=>
some v8)
theorem L64 (k:Nat) (A:List au) (a1:Int) (r:Bool) (I:Wv k A a1=some r):PF Try.prog fK 64 [lI A,g a1] [] [] (λ p fr tk=>p=vB r/\fr=[]/\tk=[]):=by
 unfold Wv at I;refine qP Try.func64 ?_;refine qr 2 ?_;refine qM 3 ?_;refine aq I λ x1 e2 I=>PO.cut 24 (cu (λ v1=>PS.of 71 [(0,lI A),(1,g a1),(4,vB false),(32,vB v1)] [] [] 0 0) x1) ?_ ?_
 ·refine qC 8 e2 (λ e2=>?_) λ e2=>?_
  ·exact qW 24 true [] [] e2
  refine qR 3 ?_;refine qS gM ?_;refine qR 3 ?_;refine aq e2 λ x4 e5 e2=>PO.cut 17 (cu (λ v2=>PS.of 71 [(0,lI A),(1,g a1),(4,vB false),(32,vB v2)] [] [] 0 0) x4) ?_ ?_
  ·refine qC 15 e5 (λ e5=>?_) λ e5=>?_
   ·exact qW 17 true [] [] e5
   refine qR 3 ?_;refine qI gM e5 λ y3 e5=>?_;refine qR 5 ?_;refine aq e5 λ x9 jf e5=>PO.cut 8 (cu (λ v4=>PS.of 71 [(0,lI A),(1,g a1),(4,vB false),(32,vB v4)] [] [] 0 0) x9) ?_ ?_
   ·refine qC 24 jf (λ jf=>?_) λ jf=>?_
    ·exact qW 8 true [] [] jf
    refine qR 3 ?_;refine qI gM jf λ y5 jf=>?_;refine qN 4 ?_;exact⟨y5.aM != 1,qw [] [],qs jf⟩
   rintro _ ⟨v4,OK,rfl⟩;refine OK.on ?_;exact⟨v4,qw [] [],qs e5⟩
  rintro _ ⟨v2,KV,rfl⟩;refine KV.on ?_;exact⟨v2,qw [] [],qs e2⟩
 rintro _ ⟨v1,Ca,rfl⟩;refine Ca.on (qD I (λ I=>?_) λ I=>?_)
 ·refine qK 2 ?_;cases I;exact .ret (qf [] [])
 refine .aZ (qL 2 ?_);refine qI gM I λ y6 I=>?_;refine qN 3 ?_;refine qo [0,1,2,3,4,5,6,7,8,9,10,11,12,13,14,15,16,17,18,19,20,21,22,23,24,25,26,27,28,29,30,31,32,33] ?_;refine qR 2 ?_;refine qI gM I λ y7 I=>?_;refine qk 3 [] [] [(0,lI A),(1,g a1),(4,vB false),(5,g y6.aB),(41,.agg (dn y7)),(43,.agg [g 2,.val (.string ByteArray.empty),g 0,g 0,g y6.aB,g 0,g 0,g 0,g 0,g 0,vB false,g 0,g 0])] [] [] ?_;refine PO.aX rfl (jz (v:=.bool (y7.aM == 2 && (y7.cP == ByteArray.empty && (y7.size == 0 && (y7.dc == 0 && (y7.aB == y6.aB && (y7.aD == 0 && (y7.depth == 0 && (y7.aw == 0 && (y7.aF == 0 && (y7.value == 0 && (y7.cR == false && (y7.bM == 0 && (y7.to_ == 0 && true)))))))))))))) rfl rfl rfl rfl rfl rfl rfl (by kernel_rfl)) rfl ?_;refine qR 1 ?_;refine aq I λ x22 AV I=>PO.cut 25 (cu (λ v8=>PS.of 71 [(4,vB false),(70,vB v8)] [] [] 0 0) x22) ?_ ?_
 ·refine qC 45 AV (λ AV=>?_) λ AV=>?_
  ·refine qR 4 ?_;refine aq AV λ Zh xp AV=>PO.cut 21 (cu (λ v9=>PS.of 71 [(4,vB false),(70,vB v9)] [] [] 0 0) Zh) ?_ ?_
   ·refine qC 49 xp (λ xp=>?_) λ xp=>?_
    ·refine qR 4 ?_;refine aq xp λ KX j7 xp=>PO.cut 17 (cu (λ v10=>PS.of 71 [(4,vB false),(70,vB v10)] [] [] 0 0) KX) ?_ ?_
     ·refine qC 53 j7 (λ j7=>?_) λ j7=>?_
      ·refine qR 4 ?_;refine qI gM j7 λ HE j7=>?_;refine qR 5 ?_;refine qI gM j7 λ AW j7=>?_;refine qN 6 ?_;exact⟨decide (y6.aB>=(w (0 - (if AW.aB < HE.aB then AW.aB else HE.aB)))),qw [] [],qs j7⟩
      exact qW 17 false [] [] j7
     rintro _ ⟨v10,Sn,rfl⟩;refine Sn.on ?_;exact⟨v10,qw [] [],qs xp⟩
    exact qW 21 false [] [] xp
   rintro _ ⟨v9,Ss,rfl⟩;refine Ss.on ?_;exact⟨v9,qw [] [],qs AV⟩
  exact qW 25 false [] [] AV
 rintro _ ⟨v8,w37,rfl⟩;refine w37.o (qN 1 ?_);cases I;exact .cS (qf [] [])
def Ww (k:Nat) (A:Int):Option Int:=
Option.bind (α:=Bool) (bif decide (A < 0) then(some true) else(Option.bind (α:=Bool) (bif decide (A > 1114111) then(some true) else(Option.bind (α:=Bool) (bif decide (A>=55296) then(some (decide (A<=57343))) else(some false)) λ(v3:Bool)=>
some v3)) λ(v2:Bool)=>
some v2)) λ(v1:Bool)=>
bif v1 then(some 0) else(bif decide (A < 128) then(some 1) else(bif decide (A < 2048) then(some 2) else(bif decide (A < 65536) then(some 3) else(some 4))))
theorem L82 (k:Nat) (A:Int) (r:Int) (I:Ww k A=some r):PF Try.prog fK 82 [g A] [] [] (λ p fr tk=>p=g r/\fr=[]/\tk=[]):=by
 unfold Ww at I;refine qP Try.func82 ?_;refine qr 2 ?_;refine qM 3 ?_;refine aq I λ x1 e2 I=>PO.cut 11 (cu (λ v1=>PS.of 23 [(0,g A),(2,g 0),(16,vB v1)] [] [] 0 0) x1) ?_ ?_
 ·refine qC 5 e2 (λ e2=>?_) λ e2=>?_
  ·exact qW 11 true [] [] e2
  refine qR 4 ?_;refine aq e2 λ x4 e5 e2=>PO.cut 7 (cu (λ v2=>PS.of 23 [(0,g A),(2,g 0),(16,vB v2)] [] [] 0 0) x4) ?_ ?_
  ·refine qC 9 e5 (λ e5=>?_) λ e5=>?_
   ·exact qW 7 true [] [] e5
   refine qR 3 ?_;refine aq e5 λ x7 e8 e5=>PO.cut 4 (cu (λ v3=>PS.of 23 [(0,g A),(2,g 0),(16,vB v3)] [] [] 0 0) x7) ?_ ?_
   ·refine qC 12 e8 (λ e8=>?_) λ e8=>?_
    ·exact qW 4 (decide (A<=57343)) [] [] e8
    exact qW 4 false [] [] e8
   rintro _ ⟨v3,OB,rfl⟩;refine OB.on ?_;exact⟨v3,qw [] [],qs e5⟩
  rintro _ ⟨v2,FY,rfl⟩;refine FY.on ?_;exact⟨v2,qw [] [],qs e2⟩
 rintro _ ⟨v1,FZ,rfl⟩;refine FZ.on (qD I (λ I=>?_) λ I=>?_)
 ·refine qK 2 ?_;cases I;exact .ret (qf [] [])
 refine .aZ (qK 3 ?_);refine qD I (λ I=>?_) λ I=>?_
 ·refine qK 2 ?_;cases I;exact .ret (qf [] [])
 refine .aZ (qK 3 ?_);refine qD I (λ I=>?_) λ I=>?_
 ·refine qK 2 ?_;cases I;exact .ret (qf [] [])
 refine .aZ (qK 3 ?_);refine qD I (λ I=>?_) λ I=>?_
 ·refine qK 2 ?_;cases I;exact .ret (qf [] [])
 refine .aZ (qr 2 ?_);cases I;exact .cS (qf [] [])
def SD (k:Nat) (A:Int):Option Bool:=
Option.bind (α:=Bool) (bif decide (A>=1) then(some (decide (A<=67108864))) else(some false)) λ(v1:Bool)=>
some v1
theorem L83 (k:Nat) (A:Int) (r:Bool) (I:SD k A=some r):PF Try.prog fK 83 [g A] [] [] (λ p fr tk=>p=vB r/\fr=[]/\tk=[]):=by
 unfold SD at I;refine qP Try.func83 ?_;refine qr 2 ?_;refine qL 3 ?_;refine aq I λ x1 e2 I=>PO.cut 3 (cu (λ v1=>PS.of 9 [(2,vB false),(8,vB v1)] [] [] 0 0) x1) ?_ ?_
 ·refine qC 5 e2 (λ e2=>?_) λ e2=>?_
  ·exact qW 3 (decide (A<=67108864)) [] [] e2
  exact qW 3 false [] [] e2
 rintro _ ⟨v1,w4,rfl⟩;refine w4.o (qN 1 ?_);cases I;exact .cS (qf [] [])
def N9 (k:Nat) (A:Int):Option Bool:=
Option.bind (α:=Bool) (bif decide (A>=0) then(some (decide (A<=1099511627776))) else(some false)) λ(v1:Bool)=>
some v1
theorem UU (k:Nat) (A:Int) (r:Bool) (I:N9 k A=some r):PF Try.prog fK 84 [g A] [] [] (λ p fr tk=>p=vB r/\fr=[]/\tk=[]):=by
 unfold N9 at I;refine qP Try.func84 ?_;refine qr 2 ?_;refine qL 3 ?_;refine aq I λ x1 e2 I=>PO.cut 3 (cu (λ v1=>PS.of 9 [(2,vB false),(8,vB v1)] [] [] 0 0) x1) ?_ ?_
 ·refine qC 5 e2 (λ e2=>?_) λ e2=>?_
  ·exact qW 3 (decide (A<=1099511627776)) [] [] e2
  exact qW 3 false [] [] e2
 rintro _ ⟨v1,w4,rfl⟩;refine w4.o (qN 1 ?_);cases I;exact .cS (qf [] [])
def Wx (k:Nat) (A:au):Option Bool:=
bif A.aM == 1 then(Option.bind (α:=Bool) (bif (A.aM == 1 && (A.cP == A.cP && (A.size == A.size && (A.dc == A.dc && (A.aB == A.aB && (A.aD == A.aD && (A.depth == A.depth && (A.aw == 0 && (A.aF == 0 && (A.value == 0 && (A.cR == false && (0 == 0 && (0 == 0 && true))))))))))))) then((Ww k A.dc).bind λ r5=>
Option.bind (α:=Bool) (bif decide (r5 > 0) then((SD k A.size).bind λ nD=>
Option.bind (α:=Bool) (bif nD then((N9 k A.aB).bind λ Ku=>
Option.bind (α:=Bool) (bif Ku then((N9 k A.aD).bind λ jl=>
Option.bind (α:=Bool) (bif jl then((N9 k A.depth).bind λ uT=>
some uT) else(some false)) λ(v5:Bool)=>
some v5) else(some false)) λ(v4:Bool)=>
some v4) else(some false)) λ(v3:Bool)=>
some v3) else(some false)) λ(v2:Bool)=>
some v2) else(some false)) λ(v1:Bool)=>
some v1) else(bif A.aM == 3 then(Option.bind (α:=Bool) (bif (A.aM == 3 && (A.cP == A.cP && (A.size == A.size && (A.dc == 0 && (A.aB == A.aB && (A.aD == 0 && (A.depth == 0 && (A.aw == A.aw && (A.aF == A.aF && (A.value == 0 && (A.cR == false && (0 == 0 && (0 == 0 && true))))))))))))) then((SD k A.size).bind λ r36=>
Option.bind (α:=Bool) (bif r36 then(Option.bind (α:=Bool) (bif decide (A.aB>=0) then(Option.bind (α:=Bool) (bif decide (A.aB<=67108864) then(Option.bind (α:=Bool) (bif decide (A.aw>=0) then(Option.bind (α:=Bool) (bif decide (A.aw<=67108864) then(Option.bind (α:=Bool) (bif decide (A.aF>=0) then(some (decide (A.aF<=A.aB))) else(some false)) λ(mT:Bool)=>
some mT) else(some false)) λ(v11:Bool)=>
some v11) else(some false)) λ(v10:Bool)=>
some v10) else(some false)) λ(v9:Bool)=>
some v9) else(some false)) λ(v8:Bool)=>
some v8) else(some false)) λ(v7:Bool)=>
some v7) else(some false)) λ(v6:Bool)=>
some v6) else(bif A.aM == 4 then(Option.bind (α:=Bool) (bif decide (A.value < (-10000)) then(some true) else(some (decide (A.value > 10000)))) λ(hH:Bool)=>
bif hH then(some false) else(bif !A.cR then(some (A.aM == 4 && (A.cP == ByteArray.empty && (A.size == 0 && (A.dc == 0 && (A.aB == 0 && (A.aD == 0 && (A.depth == 0 && (A.aw == 0 && (A.aF == 0 && (A.value == A.value && (A.cR == false && (0 == 0 && (0 == 0 && true)))))))))))))) else(Option.bind (α:=Bool) (bif (A.aM == 4 && (A.cP == A.cP && (A.size == A.size && (A.dc == 45 && (A.aB == A.aB && (A.aD == A.aD && (A.depth == A.depth && (A.aw == 0 && (A.aF == 0 && (A.value == A.value && (A.cR == true && (0 == 0 && (0 == 0 && true))))))))))))) then(Option.bind (α:=Bool) (bif decide (A.value > (-10000)) then((SD k A.size).bind λ Bu=>
Option.bind (α:=Bool) (bif Bu then((N9 k A.aB).bind λ r81=>
Option.bind (α:=Bool) (bif r81 then((N9 k A.aD).bind λ r86=>
Option.bind (α:=Bool) (bif r86 then((N9 k A.depth).bind λ r91=>
some r91) else(some false)) λ(nH:Bool)=>
some nH) else(some false)) λ(gV:Bool)=>
some gV) else(some false)) λ(iM:Bool)=>
some iM) else(some false)) λ(iP:Bool)=>
some iP) else(some false)) λ(gU:Bool)=>
some gU))) else(some false)))
theorem L65 (k:Nat) (A:au) (r:Bool) (I:Wx k A=some r):PF Try.prog fK 65 [.agg (dn A)] [] [] (λ p fr tk=>p=vB r/\fr=[]/\tk=[]):=by
 unfold Wx at I;refine qP Try.func65 ?_;refine .region (qX 2 [0] [] [(1,E 0),(2,vB false)] [R4 A] [] ?_);refine .region (qX 3 [0,1] [] [(1,E 0),(2,vB false),(3,E 1)] [R4 A,R4 A] [] ?_);refine .region (qX 2 [0,1] [] [(1,E 0),(2,vB false),(3,E 1)] [R4 A,⟨0,[g A.aM,.val (.string A.cP),g A.size,g A.dc,g A.aB,g A.aD,g A.depth,g A.aw,g A.aF,g A.value,vB A.cR,g 0,g A.to_]⟩] [] ?_);refine .region (qX 2 [0,1] [] [(1,E 0),(2,vB false),(3,E 1)] [R4 A,⟨0,[g A.aM,.val (.string A.cP),g A.size,g A.dc,g A.aB,g A.aD,g A.depth,g A.aw,g A.aF,g A.value,vB A.cR,g 0,g 0]⟩] [] ?_);refine qK 3 ?_;refine PC.block ?_;refine qr 3 ?_;refine .lone (qD I (λ I=>?_) λ I=>?_)
 ·refine qJ ?_;refine qk 14 [0] [] [(1,E 0),(2,vB false),(11,.agg [g A.aM,.val (.string A.cP),g A.size,g A.dc,g A.aB,g A.aD,g A.depth,g A.aw,g A.aF,g A.value,vB A.cR,g 0,g 0]),(24,.agg [g 1,.val (.string A.cP),g A.size,g A.dc,g A.aB,g A.aD,g A.depth,g 0,g 0,g 0,vB false,g 0,g 0])] [R4 A] [] ?_;refine PO.aX rfl (jz (v:=.bool (A.aM == 1 && (A.cP == A.cP && (A.size == A.size && (A.dc == A.dc && (A.aB == A.aB && (A.aD == A.aD && (A.depth == A.depth && (A.aw == 0 && (A.aF == 0 && (A.value == 0 && (A.cR == false && (0 == 0 && (0 == 0 && true)))))))))))))) rfl rfl rfl rfl rfl rfl rfl (by kernel_rfl)) rfl ?_;refine qR 1 ?_;refine aq I λ x2 e3 I=>PO.cut 25 (cu (λ v1=>PS.of 162 [(2,vB false),(51,vB v1)] [] [] 0 0) x2) ?_ ?_
  ·refine qC 26 e3 (λ e3=>?_) λ e3=>?_
   ·refine qR 2 ?_;refine aq e3 λ r5 e6 e3=>qG [] [] (L82 k A.dc _ e6) trivial ?_;refine qR 3 ?_;refine aq e3 λ x7 e8 e3=>PO.cut 19 (cu (λ v2=>PS.of 162 [(2,vB false),(51,vB v2)] [] [] 0 0) x7) ?_ ?_
    ·refine qC 32 e8 (λ e8=>?_) λ e8=>?_
     ·refine qR 2 ?_;refine aq e8 λ nD xZ e8=>qG [] [] (L83 k A.size _ xZ) trivial ?_;refine qR 2 ?_;refine aq e8 λ DN lz e8=>PO.cut 14 (cu (λ v3=>PS.of 162 [(2,vB false),(51,vB v3)] [] [] 0 0) DN) ?_ ?_
      ·refine qC 37 lz (λ lz=>?_) λ lz=>?_
       ·refine qR 2 ?_;refine aq lz λ Ku xX lz=>qG [] [] (UU k A.aB _ xX) trivial ?_;refine qR 2 ?_;refine aq lz λ FD kG lz=>PO.cut 9 (cu (λ v4=>PS.of 162 [(2,vB false),(51,vB v4)] [] [] 0 0) FD) ?_ ?_
        ·refine qC 42 kG (λ kG=>?_) λ kG=>?_
         ·refine qR 2 ?_;refine aq kG λ jl Wr kG=>qG [] [] (UU k A.aD _ Wr) trivial ?_;refine qR 2 ?_;refine aq kG λ x22 AV kG=>PO.cut 4 (cu (λ v5=>PS.of 162 [(2,vB false),(51,vB v5)] [] [] 0 0) x22) ?_ ?_
          ·refine qC 47 AV (λ AV=>?_) λ AV=>?_
           ·refine qR 2 ?_;refine aq AV λ uT xp AV=>qG [] [] (UU k A.depth _ xp) trivial ?_;exact qW 1 uT [] [] AV
           exact qW 4 false [] [] AV
          rintro _ ⟨v5,w27,rfl⟩;refine w27.on ?_;exact⟨v5,qw [] [],qs kG⟩
         exact qW 9 false [] [] kG
        rintro _ ⟨v4,Sq,rfl⟩;refine Sq.on ?_;exact⟨v4,qw [] [],qs lz⟩
       exact qW 14 false [] [] lz
      rintro _ ⟨v3,w29,rfl⟩;refine w29.on ?_;exact⟨v3,qw [] [],qs e8⟩
     exact qW 19 false [] [] e8
    rintro _ ⟨v2,w30,rfl⟩;refine w30.on ?_;exact⟨v2,qw [] [],qs e3⟩
   exact qW 25 false [] [] e3
  rintro _ ⟨v1,IQ,rfl⟩;refine IQ.o (qN 1 ?_);cases I;exact .ret (bk.ct (qf [] []))
 refine qK 3 ?_;refine qD I (λ I=>?_) λ I=>?_
 ·refine qJ ?_;refine qk 12 [0] [] [(1,E 0),(2,vB false),(54,.agg [g A.aM,.val (.string A.cP),g A.size,g A.dc,g A.aB,g A.aD,g A.depth,g A.aw,g A.aF,g A.value,vB A.cR,g 0,g 0]),(65,.agg [g 3,.val (.string A.cP),g A.size,g 0,g A.aB,g 0,g 0,g A.aw,g A.aF,g 0,vB false,g 0,g 0])] [R4 A] [] ?_;refine PO.aX rfl (jz (v:=.bool (A.aM == 3 && (A.cP == A.cP && (A.size == A.size && (A.dc == 0 && (A.aB == A.aB && (A.aD == 0 && (A.depth == 0 && (A.aw == A.aw && (A.aF == A.aF && (A.value == 0 && (A.cR == false && (0 == 0 && (0 == 0 && true)))))))))))))) rfl rfl rfl rfl rfl rfl rfl (by kernel_rfl)) rfl ?_;refine qR 1 ?_;refine aq I λ Wy td I=>PO.cut 36 (cu (λ v6=>PS.of 162 [(2,vB false),(103,vB v6)] [] [] 0 0) Wy) ?_ ?_
  ·refine qC 67 td (λ td=>?_) λ td=>?_
   ·refine qR 2 ?_;refine aq td λ r36 tN td=>qG [] [] (L83 k A.size _ tN) trivial ?_;refine qR 2 ?_;refine aq td λ x38 KU td=>PO.cut 31 (cu (λ v7=>PS.of 162 [(2,vB false),(103,vB v7)] [] [] 0 0) x38) ?_ ?_
    ·refine qC 72 KU (λ KU=>?_) λ KU=>?_
     ·refine qR 5 ?_;refine aq KU λ So rh KU=>PO.cut 26 (cu (λ v8=>PS.of 162 [(2,vB false),(103,vB v8)] [] [] 0 0) So) ?_ ?_
      ·refine qC 77 rh (λ rh=>?_) λ rh=>?_
       ·refine qR 5 ?_;refine aq rh λ x44 Cb rh=>PO.cut 21 (cu (λ v9=>PS.of 162 [(2,vB false),(103,vB v9)] [] [] 0 0) x44) ?_ ?_
        ·refine qC 82 Cb (λ Cb=>?_) λ Cb=>?_
         ·refine qR 5 ?_;refine aq Cb λ x47 OL Cb=>PO.cut 16 (cu (λ v10=>PS.of 162 [(2,vB false),(103,vB v10)] [] [] 0 0) x47) ?_ ?_
          ·refine qC 87 OL (λ OL=>?_) λ OL=>?_
           ·refine qR 5 ?_;refine aq OL λ x50 OV OL=>PO.cut 11 (cu (λ v11=>PS.of 162 [(2,vB false),(103,vB v11)] [] [] 0 0) x50) ?_ ?_
            ·refine qC 92 OV (λ OV=>?_) λ OV=>?_
             ·refine qR 5 ?_;refine aq OV λ Wo tO OV=>PO.cut 6 (cu (λ mT=>PS.of 162 [(2,vB false),(103,vB mT)] [] [] 0 0) Wo) ?_ ?_
              ·refine qC 97 tO (λ tO=>?_) λ tO=>?_
               ·exact qW 6 (decide (A.aF<=A.aB)) [] [] tO
               exact qW 6 false [] [] tO
              rintro _ ⟨mT,w56,rfl⟩;refine w56.on ?_;exact⟨mT,qw [] [],qs OV⟩
             exact qW 11 false [] [] OV
            rintro _ ⟨v11,w57,rfl⟩;refine w57.on ?_;exact⟨v11,qw [] [],qs OL⟩
           exact qW 16 false [] [] OL
          rintro _ ⟨v10,w58,rfl⟩;refine w58.on ?_;exact⟨v10,qw [] [],qs Cb⟩
         exact qW 21 false [] [] Cb
        rintro _ ⟨v9,w59,rfl⟩;refine w59.on ?_;exact⟨v9,qw [] [],qs rh⟩
       exact qW 26 false [] [] rh
      rintro _ ⟨v8,Ws,rfl⟩;refine Ws.on ?_;exact⟨v8,qw [] [],qs KU⟩
     exact qW 31 false [] [] KU
    rintro _ ⟨v7,w61,rfl⟩;refine w61.on ?_;exact⟨v7,qw [] [],qs td⟩
   exact qW 36 false [] [] td
  rintro _ ⟨v6,w62,rfl⟩;refine w62.o (qN 1 ?_);cases I;exact .ret (bk.ct (qf [] []))
 refine qK 3 ?_;refine qD I (λ I=>?_) λ I=>?_
 ·refine .eP (qM 4 ?_);refine aq I λ x64 Wz I=>PO.cut 4 (cu (λ hH=>PS.of 162 [(1,E 0),(2,vB false),(3,E 1),(113,vB hH)] [R4 A,⟨0,[g A.aM,.val (.string A.cP),g A.size,g A.dc,g A.aB,g A.aD,g A.depth,g A.aw,g A.aF,g A.value,vB A.cR,g 0,g 0]⟩] [] 0 0) x64) ?_ ?_
  ·refine qC 109 Wz (λ Wz=>?_) λ Wz=>?_
   ·exact qW 4 true [0,1] [] Wz
   exact qW 4 (decide (A.value > 10000)) [0,1] [] Wz
  rintro _ ⟨hH,w67,rfl⟩;refine w67.on (qD I (λ I=>?_) λ I=>?_)
  ·refine qK 2 ?_;cases I;exact .ret (bk.ct (qf [] []))
  refine .aZ (.eP (qK 4 ?_));refine qD I (λ I=>?_) λ I=>?_
  ·refine qJ ?_;refine qk 4 [] [] [(2,vB false),(117,.agg [g A.aM,.val (.string A.cP),g A.size,g A.dc,g A.aB,g A.aD,g A.depth,g A.aw,g A.aF,g A.value,vB A.cR,g 0,g 0]),(120,.agg [g 4,.val (.string ByteArray.empty),g 0,g 0,g 0,g 0,g 0,g 0,g 0,g A.value,vB false,g 0,g 0])] [] [] ?_;refine PO.aX rfl (jz (v:=.bool (A.aM == 4 && (A.cP == ByteArray.empty && (A.size == 0 && (A.dc == 0 && (A.aB == 0 && (A.aD == 0 && (A.depth == 0 && (A.aw == 0 && (A.aF == 0 && (A.value == A.value && (A.cR == false && (0 == 0 && (0 == 0 && true)))))))))))))) rfl rfl rfl rfl rfl rfl rfl (by kernel_rfl)) rfl ?_;refine qN 1 ?_;cases I;exact .ret (bk.ct (qf [] []))
  refine .aZ (qJ ?_);refine qk 14 [0] [] [(1,E 0),(2,vB false),(122,.agg [g A.aM,.val (.string A.cP),g A.size,g A.dc,g A.aB,g A.aD,g A.depth,g A.aw,g A.aF,g A.value,vB A.cR,g 0,g 0]),(135,.agg [g 4,.val (.string A.cP),g A.size,g 45,g A.aB,g A.aD,g A.depth,g 0,g 0,g A.value,vB true,g 0,g 0])] [R4 A] [] ?_;refine PO.aX rfl (jz (v:=.bool (A.aM == 4 && (A.cP == A.cP && (A.size == A.size && (A.dc == 45 && (A.aB == A.aB && (A.aD == A.aD && (A.depth == A.depth && (A.aw == 0 && (A.aF == 0 && (A.value == A.value && (A.cR == true && (0 == 0 && (0 == 0 && true)))))))))))))) rfl rfl rfl rfl rfl rfl rfl (by kernel_rfl)) rfl ?_;refine qR 1 ?_;refine aq I λ Q6 tf I=>PO.cut 24 (cu (λ gU=>PS.of 162 [(2,vB false),(161,vB gU)] [] [] 0 0) Q6) ?_ ?_
  ·refine qC 137 tf (λ tf=>?_) λ tf=>?_
   ·refine qR 5 ?_;refine aq tf λ x73 A2 tf=>PO.cut 19 (cu (λ iP=>PS.of 162 [(2,vB false),(161,vB iP)] [] [] 0 0) x73) ?_ ?_
    ·refine qC 142 A2 (λ A2=>?_) λ A2=>?_
     ·refine qR 2 ?_;refine aq A2 λ Bu e77 A2=>qG [] [] (L83 k A.size _ e77) trivial ?_;refine qR 2 ?_;refine aq A2 λ Zi vZ A2=>PO.cut 14 (cu (λ iM=>PS.of 162 [(2,vB false),(161,vB iM)] [] [] 0 0) Zi) ?_ ?_
      ·refine qC 147 vZ (λ vZ=>?_) λ vZ=>?_
       ·refine qR 2 ?_;refine aq vZ λ r81 e82 vZ=>qG [] [] (UU k A.aB _ e82) trivial ?_;refine qR 2 ?_;refine aq vZ λ x83 Cd vZ=>PO.cut 9 (cu (λ gV=>PS.of 162 [(2,vB false),(161,vB gV)] [] [] 0 0) x83) ?_ ?_
        ·refine qC 152 Cd (λ Cd=>?_) λ Cd=>?_
         ·refine qR 2 ?_;refine aq Cd λ r86 e87 Cd=>qG [] [] (UU k A.aD _ e87) trivial ?_;refine qR 2 ?_;refine aq Cd λ x88 OW Cd=>PO.cut 4 (cu (λ nH=>PS.of 162 [(2,vB false),(161,vB nH)] [] [] 0 0) x88) ?_ ?_
          ·refine qC 157 OW (λ OW=>?_) λ OW=>?_
           ·refine qR 2 ?_;refine aq OW λ r91 e92 OW=>qG [] [] (UU k A.depth _ e92) trivial ?_;exact qW 1 r91 [] [] OW
           exact qW 4 false [] [] OW
          rintro _ ⟨nH,w93,rfl⟩;refine w93.on ?_;exact⟨nH,qw [] [],qs Cd⟩
         exact qW 9 false [] [] Cd
        rintro _ ⟨gV,w94,rfl⟩;refine w94.on ?_;exact⟨gV,qw [] [],qs vZ⟩
       exact qW 14 false [] [] vZ
      rintro _ ⟨iM,w95,rfl⟩;refine w95.on ?_;exact⟨iM,qw [] [],qs A2⟩
     exact qW 19 false [] [] A2
    rintro _ ⟨iP,Wt,rfl⟩;refine Wt.on ?_;exact⟨iP,qw [] [],qs tf⟩
   exact qW 24 false [] [] tf
  rintro _ ⟨gU,w97,rfl⟩;refine w97.o (qN 1 ?_);cases I;exact .ret (bk.ct (qf [] []))
 refine .aZ (PC.skip (bk.end ?_));refine qr 2 ?_;cases I;exact .cS (qf [] [])
def qb (k:Nat) (A:List au):Nat->Int->Int->Option ((Unit) ⊕ (Int))
  | 0,_,_=>none
  | UW+1,v5,v6=>
    bif decide (v6 < (A.length:Int)) then(Option.bind (α:=(Int) ⊕ ((Unit) ⊕ (Int))) (bp A v6 λ Cc=>
    bif Cc.aM == 2 then((Wv k A v6).bind λ jk=>
    bif !jk then(some (.inr (.inr 1))) else(some (.inl v5))) else(bp A v6 λ HE=>
    (Wx k HE).bind λ Ce=>
    Option.bind (α:=Bool) (bif !Ce then(some true) else(bp A v6 λ y13=>
    Option.bind (α:=Bool) (bif decide (y13.bM < v5) then(some true) else(bp A v6 λ y15=>
    bp A v6 λ y16=>
    Option.bind (α:=Bool) (bif decide (y15.to_ < y16.bM) then(some true) else(bp A v6 λ tP=>
    some (decide (tP.to_ > 65536)))) λ(gV:Bool)=>
    some gV)) λ(gU:Bool)=>
    some gU)) λ(mT:Bool)=>
    bif mT then(some (.inr (.inr 1))) else(bp A v6 λ tQ=>
    some (.inl tQ.to_)))) (Sum.elim (λ(v9:Int)=>
    qb k A UW v9 (w (v6+1))) some)) else(some (.inl ()))
def SE (k:Nat) (A:List au):Option Int:=
bif decide ((A.length:Int) > 4096) then(some 130) else(Option.bind (α:=Bool) (bif decide ((A.length:Int) > 0) then(bp A (w ((A.length:Int) - 1)) λ y2=>
(Wu k y2).bind λ r7=>
some (!r7)) else(some false)) λ(v1:Bool)=>
bif v1 then(some 1) else(Option.bind (α:=(Unit) ⊕ (Int)) (qb k A k 0 0) (Sum.elim (λ(_:Unit)=>
some 0) some)))
theorem L34 (k:Nat) (A:List au) (r:Int) (I:SE k A=some r):PF Try.prog fK 34 [lI A] [] [] (λ p fr tk=>p=g r/\fr=[]/\tk=[]):=by
 unfold SE at I;refine qP Try.func34 ?_;refine qr 2 ?_;refine qM 1 ?_;refine qS gM ?_;refine qN 1 ?_;refine qD I (λ I=>?_) λ I=>?_
 ·refine qK 2 ?_;cases I;exact .ret (qf [] [])
 refine .aZ (qM 1 ?_);refine qS gM ?_;refine qR 2 ?_;refine aq I λ x2 e3 I=>PO.cut 9 (cu (λ v1=>PS.of 78 [(0,lI A),(2,g 0),(20,vB v1)] [] [] 0 0) x2) ?_ ?_
 ·refine qC 11 e3 (λ e3=>?_) λ e3=>?_
  ·refine qR 2 ?_;refine qS gM ?_;refine qR 1 ?_;refine qI gM e3 λ y2 e3=>?_;refine qR 1 ?_;refine aq e3 λ r7 e8 e3=>qG [] [] (L63 k y2 _ e8) trivial ?_;exact qW 2 (!r7) [] [] e3
  exact qW 9 false [] [] e3
 rintro _ ⟨v1,w9,rfl⟩;refine w9.on (qD I (λ I=>?_) λ I=>?_)
 ·refine qK 2 ?_;cases I;exact .ret (qf [] [])
 refine .aZ (qr 2 ?_);refine qK 2 ?_;refine aq I λ Dz nM I=>PC.bQ (λ s=>bc s (PS.of 78 [(2,g 0)] [] [] 0 0)/\.inl ()=Dz) ?_ ?_
 ·refine PC.loop (λ UW s=>∃ (v5:Int) (v6:Int),bc s (PS.of 78 [(0,lI A),(2,g 0),(3,g v5),(4,g v6)] [] [] 0 0)/\qb k A UW v5 v6=some Dz) (λ UW s=>?_) k ⟨0,0,qw [] [],nM⟩;rintro⟨v5,v6,OK,nM⟩;refine OK.c ?_;obtain _ | UW:=UW
  · rw[qb] at nM; cases nM
  rw[qb] at nM;refine qM 2 ?_;refine qS gM ?_;refine qN 1 ?_;refine qD nM (λ nM=>?_) λ nM=>?_
  ·refine .aZ (aq nM λ Sf re nM=>PC.bQ (λ s=>∃ (v9:Int),bc s (PS.of 78 [(0,lI A),(2,g 0),(3,g v9),(4,g v6)] [] [] 0 0)/\.inl v9=Sf) ?_ ?_)
   ·refine qM 2 ?_;refine qI gM re λ Cc re=>?_;refine qN 3 ?_;refine qD re (λ re=>?_) λ re=>?_
    ·refine .eP (qM 2 ?_);refine aq re λ jk Sr re=>qG [] [] (L64 k A v6 _ Sr) trivial ?_;refine qN 1 ?_;refine qD re (λ re=>?_) λ re=>?_
     ·refine qK 2 ?_;cases re;cases nM;cases I;exact .ret (aC.ct (bh.ret (aC.ct (qf [] []))))
     exact .aZ (PC.exit (aC.eF ⟨v5,qw [] [],qs re⟩))
    refine .aZ (.eP (qo [0,1,2,3,4,5,6,7,8,9,10,11,12,13,14,15,16,17,18,19,20,21,22,23,24,25,26,27,28,29,30,31,32,33,34,35] ?_));refine qR 2 ?_;refine qI gM re λ HE re=>?_;refine qR 1 ?_;refine aq re λ Ce uS re=>qG [] [] (L65 k HE _ uS) trivial ?_;refine qR 2 ?_;refine aq re λ KX j7 re=>PO.cut 29 (cu (λ mT=>PS.of 78 [(0,lI A),(2,g 0),(3,g v5),(4,g v6),(72,vB mT)] [] [] 0 0) KX) ?_ ?_
    ·refine qC 43 j7 (λ j7=>?_) λ j7=>?_
     ·exact qW 29 true [] [] j7
     refine qR 2 ?_;refine qI gM j7 λ y13 j7=>?_;refine qR 6 ?_;refine aq j7 λ Wy td j7=>PO.cut 20 (cu (λ gU=>PS.of 78 [(0,lI A),(2,g 0),(3,g v5),(4,g v6),(72,vB gU)] [] [] 0 0) Wy) ?_ ?_
     ·refine qC 52 td (λ td=>?_) λ td=>?_
      ·exact qW 20 true [] [] td
      refine qR 2 ?_;refine qI gM td λ y15 td=>?_;refine qR 4 ?_;refine qI gM td λ y16 td=>?_;refine qR 5 ?_;refine aq td λ V6 yR td=>PO.cut 7 (cu (λ gV=>PS.of 78 [(0,lI A),(2,g 0),(3,g v5),(4,g v6),(72,vB gV)] [] [] 0 0) V6) ?_ ?_
      ·refine qC 65 yR (λ yR=>?_) λ yR=>?_
       ·exact qW 7 true [] [] yR
       refine qR 2 ?_;refine qI gM yR λ tP yR=>?_;exact qW 4 (decide (tP.to_ > 65536)) [] [] yR
      rintro _ ⟨gV,w45,rfl⟩;refine w45.on ?_;exact⟨gV,qw [] [],qs td⟩
     rintro _ ⟨gU,Sl,rfl⟩;refine Sl.on ?_;exact⟨gU,qw [] [],qs j7⟩
    rintro _ ⟨mT,V7,rfl⟩;refine V7.on (qD re (λ re=>?_) λ re=>?_)
    ·refine qK 2 ?_;cases re;cases nM;cases I;exact .ret (aC.ct (bh.ret (aC.ct (qf [] []))))
    refine .aZ (.lone (qL 2 ?_));refine qI gM re λ tQ re=>?_;refine qN 3 ?_;exact .skip (aC.end ⟨tQ.to_,qw [] [],qs re⟩)
   rintro _ ⟨v9,Wn,rfl⟩;refine Wn.c ?_;have nM:=fD nM;refine .lone (qr 4 ?_);exact .skip (bh.mk (Nat.lt_succ_self _) ⟨v9,w (v6+1),qw [] [],nM⟩)
  exact .exit (bh.exit (aC.eF ⟨qw [] [],qs nM⟩))
 rintro _ ⟨w52,rfl⟩;refine w52.c ?_;have I:=fD I;refine qr 2 ?_;cases I;exact .cS (qf [] [])
def SF (k:Nat) (A:List au) (a1:Int):Option Bool:=
bp A a1 λ y1=>
bif y1.aM == 3 then(Option.bind (α:=Bool) (bif decide (a1 > 0) then(bp A (w (a1 - 1)) λ y3=>
some (y3.aM == 1)) else(some false)) λ(v2:Bool)=>
some v2) else(bif y1.aM == 4 then(bp A a1 λ y4=>
some (decide (y4.value < 10000))) else(some false))
theorem Zj (k:Nat) (A:List au) (a1:Int) (r:Bool) (I:SF k A a1=some r):PF Try.prog fK 66 [lI A,g a1] [] [] (λ p fr tk=>p=vB r/\fr=[]/\tk=[]):=by
 unfold SF at I;refine qP Try.func66 ?_;refine qr 2 ?_;refine qM 2 ?_;refine qI gM I λ y1 I=>?_;refine qN 2 ?_;refine PC.block ?_;refine qr 3 ?_;refine .lone (qD I (λ I=>?_) λ I=>?_)
 ·refine qM 3 ?_;refine aq I λ x4 e5 I=>PO.cut 8 (cu (λ v2=>PS.of 31 [(4,vB false),(22,vB v2)] [] [] 0 0) x4) ?_ ?_
  ·refine qC 14 e5 (λ e5=>?_) λ e5=>?_
   ·refine qR 3 ?_;refine qI gM e5 λ y3 e5=>?_;refine qN 4 ?_;exact⟨y3.aM == 1,qw [] [],qs e5⟩
   exact qW 8 false [] [] e5
  rintro _ ⟨v2,w9,rfl⟩;refine w9.o (qN 1 ?_);cases I;exact .ret (bk.ct (qf [] []))
 refine qK 3 ?_;refine qD I (λ I=>?_) λ I=>?_
 ·refine qM 2 ?_;refine qI gM I λ y4 I=>?_;refine qN 4 ?_;cases I;exact .ret (bk.ct (qf [] []))
 refine .aZ (PC.skip (bk.end ?_));refine qr 2 ?_;cases I;exact .cS (qf [] [])
def ue (k:Nat) (A:List au):Nat->(List Int)->Int->Option (List Int)
  | 0,_,_=>none
  | j6+1,v4,v5=>
    bif decide (v5 < (A.length:Int)) then(Option.bind (α:=List Int) ((SF k A v5).bind λ KS=>
    bif KS then(mw 8 v4 ([v5]) λ l9=>
    some l9) else(some v4)) λ(v8:List Int)=>
    ue k A j6 v8 (w (v5+1))) else(some v4)
def UX (k:Nat) (A:List au):Option (List Int):=
(SE k A).bind λ r1=>
bif r1 != 0 then(some ([] : List Int)) else(Option.bind (α:=List Int) (ue k A k ([] : List Int) 0) λ(v1:List Int)=>
some v1)
theorem L35 (k:Nat) (A:List au) (r:List Int) (I:UX k A=some r):PF Try.prog fK 35 [lI A] [] [] (λ p fr tk=>p=lN r/\fr=[]/\tk=[]):=by
 unfold UX at I;refine qP Try.func35 ?_;refine qr 2 ?_;refine .region (qX 2 [] [0] [(0,lI A),(2,v0),(3,.aS 1 (List.map br ([] : List Int)) (some 0))] [] [0] ?_);refine qM 1 ?_;refine aq I λ r1 e2 I=>qG [] [] (L34 k A _ e2) trivial ?_;refine qN 1 ?_;refine qD I (λ I=>?_) λ I=>?_
 ·refine qK 3 ?_;cases I;exact .ret (qf [] [])
 refine .aZ (qK 2 ?_);refine aq I λ x4 e5 I=>PC.bQ (λ s=>∃ (v1:List Int),bc s (PS.of 24 [(2,v0),(3,lM v1 0)] [] [v1.length] 0 0)/\v1=x4) ?_ ?_
 ·refine PC.loop (λ j6 s=>∃ (v4:List Int) (v5:Int),bc s (PS.of 24 [(0,lI A),(2,v0),(3,lM v4 0),(4,g v5)] [] [v4.length] 0 0)/\ue k A j6 v4 v5=some x4) (λ j6 s=>?_) k ⟨([] : List Int),0,qw [] [0],e5⟩;rintro⟨v4,v5,w7,e5⟩;refine w7.c ?_;obtain _ | j6:=j6
  · rw[ue] at e5; cases e5
  rw[ue] at e5;refine qM 2 ?_;refine qS gM ?_;refine qN 1 ?_;refine qD e5 (λ e5=>?_) λ e5=>?_
  ·refine .aZ (aq e5 λ x9 jf e5=>PC.bQ (λ s=>∃ (v8:List Int),bc s (PS.of 24 [(0,lI A),(2,v0),(3,lM v8 0),(4,g v5)] [] [v8.length] 0 0)/\v8=x9) ?_ ?_)
   ·refine qL 2 ?_;refine aq jf λ KS nM jf=>qG [] [] (Zj k A v5 _ nM) trivial ?_;refine .nil (.lone (qD jf (λ jf=>?_) λ jf=>?_))
    ·refine .region (qk 3 [] [0,1] [(0,lI A),(2,v0),(3,lM v4 0),(4,g v5),(19,lM v4 0),(21,.aS 1 (List.map br ([v5])) (some 1))] [] [v4.length,1] ?_);refine pZ jf λ QG jf=>?_;generalize Lf:v4++([v5])=l9 at jf;refine PO.one rfl (iZ (L:=v4) (M:=[v5]) (f:=br) (sz:=1) (bytes:=8) kF rfl rfl rfl rfl rfl rfl rfl rfl rfl rfl rfl rfl QG Lf) rfl ?_;refine qN 1 ?_;exact .skip (aC.end ⟨l9,qw [] [0],qs jf⟩)
    exact .aZ (PC.skip (aC.end ⟨v4,qw [] [0],qs jf⟩))
   rintro _ ⟨v8,KV,rfl⟩;refine KV.c (.lone (qr 4 ?_));exact .skip (bh.mk (Nat.lt_succ_self _) ⟨v8,w (v5+1),qw [] [0],e5⟩)
  exact .exit (bh.exit (aC.eF ⟨v4,qw [] [0],qs e5⟩))
 rintro _ ⟨v1,Ca,rfl⟩;refine Ca.c (qr 3 ?_);cases I;exact .cS (qf [] [])
def UY (k:Nat) (A:aH) (a1:Int):Option (Bool×aH):=
Option.bind (α:=Bool) (bif decide (a1 < 0) then(some true) else(some (A.Bq != 0))) λ(v1:Bool)=>
bif v1 then(some (false,A)) else(bif decide (a1 > (w (A.bZ - A.tv))) then(some (false,(aH.mk A.bz A.bZ A.done A.bZ A.bZ 21))) else(Option.bind (α:=Int) (bif decide ((w (A.tv+a1)) > A.gF) then(some (w (A.tv+a1))) else(some A.gF)) λ(v2:Int)=>
some (true,(aH.mk A.bz A.bZ A.done (w (A.tv+a1)) v2 A.Bq))))
theorem L36 (k:Nat) (A:aH) (a1:Int) (r:Bool×aH) (I:UY k A a1=some r):PF Try.prog fK 36 [E 0,g a1] [R3 A] [] (λ p fr tk=>p=vB r.1/\fr=[R3 r.2]/\tk=[]):=by
 unfold UY at I;refine qP Try.func36 ?_;refine qr 2 ?_;refine qM 3 ?_;refine aq I λ x1 e2 I=>PO.cut 6 (cu (λ v1=>PS.of 67 [(0,E 0),(1,g a1),(4,vB false),(13,vB v1)] [R3 A] [] 1 0) x1) ?_ ?_
 ·refine qC 7 e2 (λ e2=>?_) λ e2=>?_
  ·exact qW 6 true [0] [] e2
  refine qN 6 ?_;exact⟨A.Bq != 0,qw [0] [],qs e2⟩
 rintro _ ⟨v1,w4,rfl⟩;refine w4.on (qD I (λ I=>?_) λ I=>?_)
 ·refine qK 2 ?_;cases I;exact .ret (qf [0] [])
 refine .aZ (.eP (qo [0,1,2,3,4,5,6,7,8,9,10] ?_));refine qN 11 ?_;refine qD I (λ I=>?_) λ I=>?_
 ·refine qJ ?_;refine qX 8 [0] [] [(0,E 0),(4,vB false)] [QW A.bz A.bZ A.done A.bZ A.gF A.Bq] [] ?_;refine qJ ?_;refine qX 8 [0] [] [(0,E 0),(4,vB false)] [QW A.bz A.bZ A.done A.bZ A.bZ A.Bq] [] ?_;refine qJ ?_;refine qX 4 [0] [] [(4,vB false)] [⟨0,[g A.bz,g A.bZ,g A.done,g A.bZ,g A.bZ,g 21]⟩] [] ?_;refine qK 2 ?_;cases I;exact .ret (qf [0] [])
 refine .aZ (.region (qX 10 [0] [] [(0,E 0),(4,vB false)] [QW A.bz A.bZ A.done (w (A.tv+a1)) A.gF A.Bq] [] ?_));refine .eP (qo [0,1,2,3,4,5,6,7,8] ?_);refine qN 9 ?_;refine aq I λ x7 e8 I=>PC.mh (λ s=>∃ (v2:Int),bc s (PS.of 67 [(4,vB false)] [QW A.bz A.bZ A.done (w (A.tv+a1)) v2 A.Bq] [] 1 0)/\v2=x7) ?_ ?_
 ·refine qD e8 (λ e8=>?_) λ e8=>?_
  ·refine .region (qX 8 [0] [] [(4,vB false)] [QW A.bz A.bZ A.done (w (A.tv+a1)) (w (A.tv+a1)) A.Bq] [] ?_);exact .skip (bR.end ⟨w (A.tv+a1),qw [0] [],qs e8⟩)
  exact .aZ (PC.skip (bR.end ⟨A.gF,qw [0] [],qs e8⟩))
 rintro _ ⟨v2,OB,rfl⟩;refine OB.c (qr 2 ?_);cases I;exact .cS (qf [0] [])
def SG (k:Nat) (A:aH):Option (Int×aH):=
some (A.Bq,A)
theorem Zk (k:Nat) (A:aH) (r:Int×aH) (I:SG k A=some r):PF Try.prog fK 37 [E 0] [R3 A] [] (λ p fr tk=>p=g r.1/\fr=[R3 r.2]/\tk=[]):=by
 unfold SG at I;refine qP Try.func37 ?_;refine qr 2 ?_;refine qr 6 ?_;cases I;exact .cS (qf [0] [])
def WA (k:Nat) (A:au):Option Bool:=
Option.bind (α:=Bool) (bif A.aM == 4 then(some (decide (A.value<=(-10000)))) else(some false)) λ(v1:Bool)=>
some v1
theorem L67 (k:Nat) (A:au) (r:Bool) (I:WA k A=some r):PF Try.prog fK 67 [.agg (dn A)] [] [] (λ p fr tk=>p=vB r/\fr=[]/\tk=[]):=by
 unfold WA at I;refine qP Try.func67 ?_;refine .region (qX 2 [0] [] [(1,E 0),(2,vB false)] [R4 A] [] ?_);refine qL 4 ?_;refine aq I λ x1 e2 I=>PO.cut 4 (cu (λ v1=>PS.of 11 [(2,vB false),(10,vB v1)] [] [] 0 0) x1) ?_ ?_
 ·refine qC 6 e2 (λ e2=>?_) λ e2=>?_
  ·refine qN 4 ?_;exact⟨decide (A.value<=(-10000)),qw [] [],qs e2⟩
  exact qW 4 false [] [] e2
 rintro _ ⟨v1,w4,rfl⟩;refine w4.o (qN 1 ?_);cases I;exact .cS (qf [] [])
def sk (k:Nat) (A:List au) (a1:List Int) (Z:Int):Nat->Int->Int->Option Int
  | 0,_,_=>none
  | j3+1,v4,v5=>
    bif decide (v5 < Z) then(Option.bind (α:=Int) (bp a1 v5 λ y9=>
    bp A y9 λ Cc=>
    (WA k Cc).bind λ Q2=>
    bif Q2 then(some v5) else(some v4)) λ(v8:Int)=>
    sk k A a1 Z j3 v8 (w (v5+1))) else(some v4)
def sm (k:Nat) (Z:Int):Nat->(List Int)->Int->Option (List Int)
  | 0,_,_=>none
  | UZ+1,gU,iP=>
    bif decide (iP < Z) then(mw 8 gU ([iP]) λ l18=>
    sm k Z UZ l18 (w (iP+1))) else(some gU)
def WB (k:Nat) (A:List au) (a1:List Int) (Z:Int):Option (List Int):=
Option.bind (α:=Int) (sk k A a1 Z k (-1) 0) λ(v1:Int)=>
Option.bind (α:=List Int) (sm k Z k ([] : List Int) v1) λ(v11:List Int)=>
some v11
theorem L38 (k:Nat) (A:List au) (a1:List Int) (Z:Int) (r:List Int) (I:WB k A a1 Z=some r):PF Try.prog fK 38 [lI A,lN a1,g Z] [] [] (λ p fr tk=>p=lN r/\fr=[]/\tk=[]):=by
 unfold WB at I;refine qP Try.func38 ?_;refine qr 2 ?_;refine .region (qX 2 [] [0] [(0,lI A),(1,lN a1),(2,g Z),(6,v0),(7,.aS 1 (List.map br ([] : List Int)) (some 0))] [] [0] ?_);refine qr 2 ?_;refine qK 2 ?_;refine aq I λ x1 e2 I=>PC.bQ (λ s=>∃ (v1:Int),bc s (PS.of 37 [(2,g Z),(6,v0),(7,.aS 1 (List.map br ([] : List Int)) (some 0)),(8,g v1)] [] [(([] : List Int)).length] 0 0)/\v1=x1) ?_ ?_
 ·refine PC.loop (λ j3 s=>∃ (v4:Int) (v5:Int),bc s (PS.of 37 [(0,lI A),(1,lN a1),(2,g Z),(6,v0),(7,.aS 1 (List.map br ([] : List Int)) (some 0)),(8,g v4),(9,g v5)] [] [(([] : List Int)).length] 0 0)/\sk k A a1 Z j3 v4 v5=some x1) (λ j3 s=>?_) k ⟨(-1),0,qw [] [0],e2⟩;rintro⟨v4,v5,w4,e2⟩;refine w4.c ?_;obtain _ | j3:=j3
  · rw[sk] at e2; cases e2
  rw[sk] at e2;refine qK 4 ?_;refine qD e2 (λ e2=>?_) λ e2=>?_
  ·refine .aZ (aq e2 λ x6 e7 e2=>PC.bQ (λ s=>∃ (v8:Int),bc s (PS.of 37 [(0,lI A),(1,lN a1),(2,g Z),(6,v0),(7,.aS 1 (List.map br ([] : List Int)) (some 0)),(8,g v8),(9,g v5)] [] [(([] : List Int)).length] 0 0)/\v8=x6) ?_ ?_)
   ·refine qL 3 ?_;refine qI kF e7 λ y9 e7=>?_;refine qR 1 ?_;refine qI gM e7 λ Cc e7=>?_;refine qR 1 ?_;refine aq e7 λ Q2 lz e7=>qG [] [] (L67 k Cc _ lz) trivial ?_;refine .nil (.lone (qD e7 (λ e7=>?_) λ e7=>?_))
    ·refine qr 3 ?_;exact .skip (aC.end ⟨v5,qw [] [0],qs e7⟩)
    exact .aZ (PC.skip (aC.end ⟨v4,qw [] [0],qs e7⟩))
   rintro _ ⟨v8,KV,rfl⟩;refine KV.c (.lone (qr 4 ?_));exact .skip (bh.mk (Nat.lt_succ_self _) ⟨v8,w (v5+1),qw [] [0],e2⟩)
  exact .exit (bh.exit (aC.eF ⟨v4,qw [] [0],qs e2⟩))
 rintro _ ⟨v1,Ca,rfl⟩;refine Ca.c (qK 3 ?_);refine aq I λ FD kG I=>PC.bQ (λ s=>∃ (v11:List Int),bc s (PS.of 37 [(6,v0),(7,lM v11 0)] [] [v11.length] 0 0)/\v11=FD) ?_ ?_
 ·refine PC.loop (λ UZ s=>∃ (gU:List Int) (iP:Int),bc s (PS.of 37 [(2,g Z),(6,v0),(7,lM gU 0),(10,g iP)] [] [gU.length] 0 0)/\sm k Z UZ gU iP=some FD) (λ UZ s=>?_) k ⟨([] : List Int),v1,qw [] [0],kG⟩;rintro⟨gU,iP,OA,kG⟩;refine OA.c ?_;obtain _ | UZ:=UZ
  · rw[sm] at kG; cases kG
  rw[sm] at kG;refine qK 4 ?_;refine qD kG (λ kG=>?_) λ kG=>?_
  ·refine .aZ (PC.block ?_);refine .lone (.region (qk 3 [] [0,1] [(2,g Z),(6,v0),(7,lM gU 0),(10,g iP),(32,lM gU 0),(34,.aS 1 (List.map br ([iP])) (some 1))] [] [gU.length,1] ?_));refine pZ kG λ Sz kG=>?_;generalize Yd:gU++([iP])=l18 at kG;refine PO.one rfl (iZ (L:=gU) (M:=[iP]) (f:=br) (sz:=1) (bytes:=8) kF rfl rfl rfl rfl rfl rfl rfl rfl rfl rfl rfl rfl Sz Yd) rfl ?_;refine qN 1 ?_;refine .skip (bk.end ?_);refine .lone (qr 4 ?_);exact .skip (bh.mk (Nat.lt_succ_self _) ⟨l18,w (iP+1),qw [] [0],kG⟩)
  exact .exit (bh.exit (aC.eF ⟨gU,qw [] [0],qs kG⟩))
 rintro _ ⟨v11,Sv,rfl⟩;refine Sv.c (qr 3 ?_);cases I;exact .cS (qf [] [])
def WD (k:Nat) (A:aH) (a1:Int):Option (Bool×aH):=
Option.bind (α:=Bool) (bif decide (a1 < 0) then(some true) else(some (A.Bq != 0))) λ(v1:Bool)=>
bif v1 then(some (false,A)) else(bif decide (a1 > (w (A.bz - A.done))) then(some (false,(aH.mk A.bz A.bZ A.bz A.tv A.gF 20))) else(some (true,(aH.mk A.bz A.bZ (w (A.done+a1)) A.tv A.gF A.Bq))))
theorem L39 (k:Nat) (A:aH) (a1:Int) (r:Bool×aH) (I:WD k A a1=some r):PF Try.prog fK 39 [E 0,g a1] [R3 A] [] (λ p fr tk=>p=vB r.1/\fr=[R3 r.2]/\tk=[]):=by
 unfold WD at I;refine qP Try.func39 ?_;refine qr 2 ?_;refine qM 3 ?_;refine aq I λ x1 e2 I=>PO.cut 6 (cu (λ v1=>PS.of 44 [(0,E 0),(1,g a1),(4,vB false),(13,vB v1)] [R3 A] [] 1 0) x1) ?_ ?_
 ·refine qC 7 e2 (λ e2=>?_) λ e2=>?_
  ·exact qW 6 true [0] [] e2
  refine qN 6 ?_;exact⟨A.Bq != 0,qw [0] [],qs e2⟩
 rintro _ ⟨v1,w4,rfl⟩;refine w4.on (qD I (λ I=>?_) λ I=>?_)
 ·refine qK 2 ?_;cases I;exact .ret (qf [0] [])
 refine .aZ (.eP (qo [0,1,2,3,4,5,6,7,8,9,10] ?_));refine qN 11 ?_;refine qD I (λ I=>?_) λ I=>?_
 ·refine qJ ?_;refine qX 8 [0] [] [(0,E 0),(4,vB false)] [QW A.bz A.bZ A.bz A.tv A.gF A.Bq] [] ?_;refine qJ ?_;refine qX 4 [0] [] [(4,vB false)] [⟨0,[g A.bz,g A.bZ,g A.bz,g A.tv,g A.gF,g 20]⟩] [] ?_;refine qK 2 ?_;cases I;exact .ret (qf [0] [])
 refine .aZ (.region (qX 10 [0] [] [(4,vB false)] [QW A.bz A.bZ (w (A.done+a1)) A.tv A.gF A.Bq] [] ?_));refine qr 2 ?_;cases I;exact .cS (qf [0] [])
def WE (k:Nat) (A:Int):Option Bool:=
Option.bind (α:=Bool) (bif decide (A>=1) then(some (decide (A<=536870912))) else(some false)) λ(v1:Bool)=>
some v1
theorem L85 (k:Nat) (A:Int) (r:Bool) (I:WE k A=some r):PF Try.prog fK 85 [g A] [] [] (λ p fr tk=>p=vB r/\fr=[]/\tk=[]):=by
 unfold WE at I;refine qP Try.func85 ?_;refine qr 2 ?_;refine qL 3 ?_;refine aq I λ x1 e2 I=>PO.cut 3 (cu (λ v1=>PS.of 9 [(2,vB false),(8,vB v1)] [] [] 0 0) x1) ?_ ?_
 ·refine qC 5 e2 (λ e2=>?_) λ e2=>?_
  ·exact qW 3 (decide (A<=536870912)) [] [] e2
  exact qW 3 false [] [] e2
 rintro _ ⟨v1,w4,rfl⟩;refine w4.o (qN 1 ?_);cases I;exact .cS (qf [] [])
def WG (k:Nat) (A:List au) (a1:Int):Option Bool:=
bp A a1 λ y1=>
Option.bind (α:=Bool) (bif y1.aM == 4 then(bp A a1 λ y3=>
some (y3.value == (-10000))) else(some false)) λ(v2:Bool)=>
some v2
theorem L93 (k:Nat) (A:List au) (a1:Int) (r:Bool) (I:WG k A a1=some r):PF Try.prog fK 93 [lI A,g a1] [] [] (λ p fr tk=>p=vB r/\fr=[]/\tk=[]):=by
 unfold WG at I;refine qP Try.func93 ?_;refine qr 2 ?_;refine qL 2 ?_;refine qI gM I λ y1 I=>?_;refine qR 4 ?_;refine aq I λ x3 e4 I=>PO.cut 7 (cu (λ v2=>PS.of 19 [(4,vB false),(18,vB v2)] [] [] 0 0) x3) ?_ ?_
 ·refine qC 11 e4 (λ e4=>?_) λ e4=>?_
  ·refine qR 2 ?_;refine qI gM e4 λ y3 e4=>?_;refine qN 4 ?_;exact⟨y3.value == (-10000),qw [] [],qs e4⟩
  exact qW 7 false [] [] e4
 rintro _ ⟨v2,w8,rfl⟩;refine w8.o (qN 1 ?_);cases I;exact .cS (qf [] [])
def qc (k:Nat) (A:List au) (Z:Int):Nat->Int->Option ((Unit) ⊕ (Bool))
  | 0,_=>none
  | IP+1,v7=>
    bif decide (v7 < Z) then((WG k A v7).bind λ V1=>
    bif V1 then(some (.inr false)) else(qc k A Z IP (w (v7+1)))) else(some (.inl ()))
def Zl (k:Nat) (A:List au) (a1:Int) (Z:Int):Option Bool:=
Option.bind (α:=Bool) (bif decide (a1 < (-1)) then(some true) else(Option.bind (α:=Bool) (bif decide (a1>=Z) then(some true) else(Option.bind (α:=Bool) (bif decide (Z>=(A.length:Int)) then(some true) else(Option.bind (α:=Bool) (bif decide (a1>=0) then((SF k A a1).bind λ r13=>
Option.bind (α:=Bool) (bif !r13 then(some true) else((SF k A Z).bind λ r18=>
some (!r18))) λ(v5:Bool)=>
some v5) else((SF k A Z).bind λ jk=>
some (!jk))) λ(v4:Bool)=>
some v4)) λ(v3:Bool)=>
some v3)) λ(v2:Bool)=>
some v2)) λ(v1:Bool)=>
bif v1 then(some false) else(Option.bind (α:=(Unit) ⊕ (Bool)) (qc k A Z k (w (a1+1))) (Sum.elim (λ(_:Unit)=>
some true) some))
theorem L86 (k:Nat) (A:List au) (a1:Int) (Z:Int) (r:Bool) (I:Zl k A a1 Z=some r):PF Try.prog fK 86 [lI A,g a1,g Z] [] [] (λ p fr tk=>p=vB r/\fr=[]/\tk=[]):=by
 unfold Zl at I;refine qP Try.func86 ?_;refine qr 2 ?_;refine qM 3 ?_;refine aq I λ x1 e2 I=>PO.cut 26 (cu (λ v1=>PS.of 47 [(0,lI A),(1,g a1),(2,g Z),(6,vB false),(36,vB v1)] [] [] 0 0) x1) ?_ ?_
 ·refine qC 10 e2 (λ e2=>?_) λ e2=>?_
  ·exact qW 26 true [] [] e2
  refine qR 5 ?_;refine aq e2 λ x4 e5 e2=>PO.cut 21 (cu (λ v2=>PS.of 47 [(0,lI A),(1,g a1),(2,g Z),(6,vB false),(36,vB v2)] [] [] 0 0) x4) ?_ ?_
  ·refine qC 15 e5 (λ e5=>?_) λ e5=>?_
   ·exact qW 21 true [] [] e5
   refine qR 2 ?_;refine qS gM ?_;refine qR 3 ?_;refine aq e5 λ x7 e8 e5=>PO.cut 15 (cu (λ v3=>PS.of 47 [(0,lI A),(1,g a1),(2,g Z),(6,vB false),(36,vB v3)] [] [] 0 0) x7) ?_ ?_
   ·refine qC 21 e8 (λ e8=>?_) λ e8=>?_
    ·exact qW 15 true [] [] e8
    refine qR 3 ?_;refine aq e8 λ KP xZ e8=>PO.cut 12 (cu (λ v4=>PS.of 47 [(0,lI A),(1,g a1),(2,g Z),(6,vB false),(36,vB v4)] [] [] 0 0) KP) ?_ ?_
    ·refine qC 24 xZ (λ xZ=>?_) λ xZ=>?_
     ·refine qR 2 ?_;refine aq xZ λ r13 fB xZ=>qG [] [] (Zj k A a1 _ fB) trivial ?_;refine qR 4 ?_;refine aq xZ λ Oy xX xZ=>PO.cut 5 (cu (λ v5=>PS.of 47 [(0,lI A),(1,g a1),(2,g Z),(6,vB false),(36,vB v5)] [] [] 0 0) Oy) ?_ ?_
      ·refine qC 31 xX (λ xX=>?_) λ xX=>?_
       ·exact qW 5 true [] [] xX
       refine qR 2 ?_;refine aq xX λ r18 A0 xX=>qG [] [] (Zj k A Z _ A0) trivial ?_;exact qW 2 (!r18) [] [] xX
      rintro _ ⟨v5,OA,rfl⟩;refine OA.on ?_;exact⟨v5,qw [] [],qs xZ⟩
     refine qR 9 ?_;refine aq xZ λ jk Sr xZ=>qG [] [] (Zj k A Z _ Sr) trivial ?_;exact qW 2 (!jk) [] [] xZ
    rintro _ ⟨v4,Sv,rfl⟩;refine Sv.on ?_;exact⟨v4,qw [] [],qs e8⟩
   rintro _ ⟨v3,Sk,rfl⟩;refine Sk.on ?_;exact⟨v3,qw [] [],qs e5⟩
  rintro _ ⟨v2,w25,rfl⟩;refine w25.on ?_;exact⟨v2,qw [] [],qs e2⟩
 rintro _ ⟨v1,V4,rfl⟩;refine V4.on (qD I (λ I=>?_) λ I=>?_)
 ·refine qK 2 ?_;cases I;exact .ret (qf [] [])
 refine .aZ (qK 4 ?_);refine aq I λ KX j7 I=>PC.bQ (λ s=>bc s (PS.of 47 [(6,vB false)] [] [] 0 0)/\.inl ()=KX) ?_ ?_
 ·refine PC.loop (λ IP s=>∃ (v7:Int),bc s (PS.of 47 [(0,lI A),(2,g Z),(6,vB false),(7,g v7)] [] [] 0 0)/\qc k A Z IP v7=some KX) (λ IP s=>?_) k ⟨w (a1+1),qw [] [],j7⟩;rintro⟨v7,IQ,j7⟩;refine IQ.c ?_;obtain _ | IP:=IP
  · rw[qc] at j7; cases j7
  rw[qc] at j7;refine qK 4 ?_;refine qD j7 (λ j7=>?_) λ j7=>?_
  ·refine .aZ (PC.block ?_);refine qL 2 ?_;refine aq j7 λ V1 td j7=>qG [] [] (L93 k A v7 _ td) trivial ?_;refine .nil (.lone (qD j7 (λ j7=>?_) λ j7=>?_))
   ·refine qK 2 ?_;cases j7;cases I;exact .ret (bk.ct (bh.ret (aC.ct (qf [] []))))
   refine .aZ (PC.skip (bk.end ?_));refine .lone (qr 4 ?_);exact .skip (bh.mk (Nat.lt_succ_self _) ⟨w (v7+1),qw [] [],j7⟩)
  exact .exit (bh.exit (aC.eF ⟨qw [] [],qs j7⟩))
 rintro _ ⟨Ss,rfl⟩;refine Ss.c ?_;have I:=fD I;refine qr 2 ?_;cases I;exact .cS (qf [] [])
def U0 (k:Nat) (A:Int):Option Int:=
bif decide ((w (Int.tdiv (w ((w (A * A)) * A)) 10000)) > 10000) then(some 10000) else(some (w (Int.tdiv (w ((w (A * A)) * A)) 10000)))
theorem L95 (k:Nat) (A:Int) (r:Int) (I:U0 k A=some r):PF Try.prog fK 95 [g A] [] [] (λ p fr tk=>p=g r/\fr=[]/\tk=[]):=by
 unfold U0 at I;refine qP Try.func95 ?_;refine qr 2 ?_;refine qr 8 ?_;refine qK 3 ?_;refine qD I (λ I=>?_) λ I=>?_
 ·refine qK 2 ?_;cases I;exact .ret (qf [] [])
 refine .aZ (qr 3 ?_);cases I;exact .cS (qf [] [])
def SH (k:Nat) (A:bI):Option bI:=
Option.bind (α:=Int×Int×Bool) (Option.bind (α:=Bool) (bif decide (A.aN < 0) then(some (decide (A.aN < (w (0 - A.aF))))) else(some false)) λ(v4:Bool)=>
bif v4 then(some (10000,0,true)) else(bif decide (A.aN < 0) then(rT A.aF ((U0 k (w (Int.tdiv (w (100 * (w (0 - A.aN)))) A.aF))).bind λ nD=>
bif decide ((w (Int.tdiv (w (100 * (w (0 - A.aN)))) A.aF)) > 50) then(some (nD,0,A.bB)) else(some (nD,1,A.bB)))) else(Option.bind (α:=Bool) (bif A.aN == 0 then(some true) else(some A.c7)) λ(v5:Bool)=>
bif v5 then(some (0,1,A.bB)) else(bif A.aw == 0 then(some (10000,3,A.bB)) else(Option.bind (α:=Int) (bif decide (A.aN < (w (10 * A.aw))) then(rT A.aw (some (w (Int.tdiv (w (100 * A.aN)) A.aw)))) else(some 1000)) λ(v6:Int)=>
(U0 k v6).bind λ bV=>
Option.bind (α:=Int) (bif decide (v6<=100) then(some 2) else(some 3)) λ(v7:Int)=>
bif decide (v6<=50) then(some (bV,1,A.bB)) else(some (bV,v7,A.bB))))))) λ(v1,v2,v3)=>
some (bI.mk A.first A.bL A.bf A.bt A.aw A.aF A.aN v1 v2 v3 A.bx A.c7 A.aD A.depth)
theorem L94 (k:Nat) (A:bI) (r:bI) (I:SH k A=some r):PF Try.prog fK 94 [.agg (gP A)] [] [] (λ p fr tk=>p=.agg (gP r)/\fr=[]/\tk=[]):=by
 unfold SH at I;refine qP Try.func94 ?_;refine .region (qX 2 [0,1] [] [(1,E 0),(2,E 1)] [R5 A,R6] [] ?_);refine aq I λ x1 e2 I=>PC.bQ (λ s=>∃ (v1:Int) (v2:Int) (v3:Bool),bc s (PS.of 77 [(1,E 0),(2,E 1)] [UC A.first A.bL A.bf A.bt A.aw A.aF A.aN v1 v2 v3 A.bx A.c7 A.aD A.depth,R6] [] 0 0)/\(v1,v2,v3)=x1) ?_ ?_
 ·refine qL 4 ?_;refine aq e2 λ x3 e4 e2=>PO.cut 7 (cu (λ v4=>PS.of 77 [(1,E 0),(2,E 1),(38,vB v4)] [R5 A,R6] [] 0 0) x3) ?_ ?_
  ·refine qC 31 e4 (λ e4=>?_) λ e4=>?_
   ·refine qN 7 ?_;exact⟨decide (A.aN < (w (0 - A.aF))),qw [0,1] [],qs e4⟩
   exact qW 7 false [0,1] [] e4
  rintro _ ⟨v4,w6,rfl⟩;refine w6.o (qN 1 ?_);refine .lone (qD e2 (λ e2=>?_) λ e2=>?_)
  ·refine qJ ?_;refine qX 2 [0,1] [] [(1,E 0),(2,E 1)] [⟨0,[g A.first,g A.bL,g A.bf,g A.bt,g A.aw,g A.aF,g A.aN,g A.fA,g A.aI,vB true,vB A.bx,vB A.c7,g A.aD,g A.depth]⟩,R6] [] ?_;refine qJ ?_;refine qX 2 [0,1] [] [(1,E 0),(2,E 1)] [⟨0,[g A.first,g A.bL,g A.bf,g A.bt,g A.aw,g A.aF,g A.aN,g 10000,g A.aI,vB true,vB A.bx,vB A.c7,g A.aD,g A.depth]⟩,R6] [] ?_;refine .region (qX 2 [0,1] [] [(1,E 0),(2,E 1)] [⟨0,[g A.first,g A.bL,g A.bf,g A.bt,g A.aw,g A.aF,g A.aN,g 10000,g 0,vB true,vB A.bx,vB A.c7,g A.aD,g A.depth]⟩,R6] [] ?_);exact .skip (aC.end ⟨10000,0,true,qw [0,1] [],qs e2⟩)
  refine qK 5 ?_;refine qD e2 (λ e2=>?_) λ e2=>?_
  ·refine qM 6 ?_;refine CM e2 λ h9 e2=>PO.aX rfl (CH rfl rfl h9) rfl ?_;refine qN 1 ?_;refine qM 1 ?_;refine aq e2 λ nD xZ e2=>qG [] [] (L95 k (w (Int.tdiv (w (100 * (w (0 - A.aN)))) A.aF)) _ xZ) trivial ?_;refine qX 2 [0,1] [] [(1,E 0),(2,E 1),(3,g (w (Int.tdiv (w (100 * (w (0 - A.aN)))) A.aF)))] [UC A.first A.bL A.bf A.bt A.aw A.aF A.aN nD A.aI A.bB A.bx A.c7 A.aD A.depth,R6] [] ?_;refine qJ ?_;refine qX 2 [0,1] [] [(1,E 0),(2,E 1),(3,g (w (Int.tdiv (w (100 * (w (0 - A.aN)))) A.aF)))] [⟨0,[g A.first,g A.bL,g A.bf,g A.bt,g A.aw,g A.aF,g A.aN,g nD,g 1,vB A.bB,vB A.bx,vB A.c7,g A.aD,g A.depth]⟩,R6] [] ?_;refine qK 3 ?_;refine qD e2 (λ e2=>?_) λ e2=>?_
   ·refine .region (qX 2 [0,1] [] [(1,E 0),(2,E 1)] [⟨0,[g A.first,g A.bL,g A.bf,g A.bt,g A.aw,g A.aF,g A.aN,g nD,g 0,vB A.bB,vB A.bx,vB A.c7,g A.aD,g A.depth]⟩,R6] [] ?_);exact .skip (aC.end ⟨nD,0,A.bB,qw [0,1] [],qs e2⟩)
   exact .aZ (PC.skip (aC.end ⟨nD,1,A.bB,qw [0,1] [],qs e2⟩))
  refine qM 4 ?_;refine aq e2 λ xV fB e2=>PO.cut 3 (cu (λ v5=>PS.of 77 [(1,E 0),(2,E 1),(67,vB v5)] [R5 A,R6] [] 0 0) xV) ?_ ?_
  ·refine qC 64 fB (λ fB=>?_) λ fB=>?_
   ·exact qW 3 true [0,1] [] fB
   exact qW 3 A.c7 [0,1] [] fB
  rintro _ ⟨v5,Ca,rfl⟩;refine Ca.o (qN 1 ?_);refine qD e2 (λ e2=>?_) λ e2=>?_
  ·refine qJ ?_;refine qX 2 [0,1] [] [(1,E 0),(2,E 1)] [⟨0,[g A.first,g A.bL,g A.bf,g A.bt,g A.aw,g A.aF,g A.aN,g 0,g A.aI,vB A.bB,vB A.bx,vB A.c7,g A.aD,g A.depth]⟩,R6] [] ?_;refine .region (qX 2 [0,1] [] [(1,E 0),(2,E 1)] [⟨0,[g A.first,g A.bL,g A.bf,g A.bt,g A.aw,g A.aF,g A.aN,g 0,g 1,vB A.bB,vB A.bx,vB A.c7,g A.aD,g A.depth]⟩,R6] [] ?_);exact .skip (aC.end ⟨0,1,A.bB,qw [0,1] [],qs e2⟩)
  refine qK 5 ?_;refine qD e2 (λ e2=>?_) λ e2=>?_
  ·refine qJ ?_;refine qX 2 [0,1] [] [(1,E 0),(2,E 1)] [⟨0,[g A.first,g A.bL,g A.bf,g A.bt,g A.aw,g A.aF,g A.aN,g 10000,g A.aI,vB A.bB,vB A.bx,vB A.c7,g A.aD,g A.depth]⟩,R6] [] ?_;refine .region (qX 2 [0,1] [] [(1,E 0),(2,E 1)] [⟨0,[g A.first,g A.bL,g A.bf,g A.bt,g A.aw,g A.aF,g A.aN,g 10000,g 3,vB A.bB,vB A.bx,vB A.c7,g A.aD,g A.depth]⟩,R6] [] ?_);exact .skip (aC.end ⟨10000,3,A.bB,qw [0,1] [],qs e2⟩)
  refine qK 2 ?_;refine .eP (qK 7 ?_);refine aq e2 λ V3 tM e2=>PC.mh (λ s=>∃ (v6:Int),bc s (PS.of 77 [(1,E 0),(2,E 1),(4,g v6)] [R5 A,R6] [] 0 0)/\v6=V3) ?_ ?_
  ·refine qD tM (λ tM=>?_) λ tM=>?_
   ·refine qL 5 ?_;refine CM tM λ Sz tM=>PO.aX rfl (CH rfl rfl Sz) rfl ?_;refine qN 1 ?_;exact .skip (bR.end ⟨w (Int.tdiv (w (100 * A.aN)) A.aw),qw [0,1] [],qs tM⟩)
   exact .aZ (PC.skip (bR.end ⟨1000,qw [0,1] [],qs tM⟩))
  rintro _ ⟨v6,Sv,rfl⟩;refine Sv.c (qM 1 ?_);refine aq e2 λ bV yT e2=>qG [] [] (L95 k v6 _ yT) trivial ?_;refine qX 2 [0,1] [] [(1,E 0),(2,E 1),(4,g v6)] [UC A.first A.bL A.bf A.bt A.aw A.aF A.aN bV A.aI A.bB A.bx A.c7 A.aD A.depth,R6] [] ?_;refine qJ ?_;refine qX 2 [0,1] [] [(1,E 0),(2,E 1),(4,g v6)] [⟨0,[g A.first,g A.bL,g A.bf,g A.bt,g A.aw,g A.aF,g A.aN,g bV,g 3,vB A.bB,vB A.bx,vB A.c7,g A.aD,g A.depth]⟩,R6] [] ?_;refine .eP (qK 3 ?_);refine aq e2 λ Wh uS e2=>PC.mh (λ s=>∃ (v7:Int),bc s (PS.of 77 [(1,E 0),(2,E 1),(4,g v6)] [UC A.first A.bL A.bf A.bt A.aw A.aF A.aN bV v7 A.bB A.bx A.c7 A.aD A.depth,R6] [] 0 0)/\v7=Wh) ?_ ?_
  ·refine qD uS (λ uS=>?_) λ uS=>?_
   ·refine .region (qX 2 [0,1] [] [(1,E 0),(2,E 1),(4,g v6)] [⟨0,[g A.first,g A.bL,g A.bf,g A.bt,g A.aw,g A.aF,g A.aN,g bV,g 2,vB A.bB,vB A.bx,vB A.c7,g A.aD,g A.depth]⟩,R6] [] ?_);exact .skip (bR.end ⟨2,qw [0,1] [],qs uS⟩)
   exact .aZ (PC.skip (bR.end ⟨3,qw [0,1] [],qs uS⟩))
  rintro _ ⟨v7,w29,rfl⟩;refine w29.c (qK 3 ?_);refine qD e2 (λ e2=>?_) λ e2=>?_
  ·refine .region (qX 2 [0,1] [] [(1,E 0),(2,E 1)] [⟨0,[g A.first,g A.bL,g A.bf,g A.bt,g A.aw,g A.aF,g A.aN,g bV,g 1,vB A.bB,vB A.bx,vB A.c7,g A.aD,g A.depth]⟩,R6] [] ?_);exact .skip (aC.end ⟨bV,1,A.bB,qw [0,1] [],qs e2⟩)
  exact .aZ (PC.skip (aC.end ⟨bV,v7,A.bB,qw [0,1] [],qs e2⟩))
 rintro _ ⟨v1,v2,v3,IQ,rfl⟩;refine IQ.c (.region (qX 2 [1] [] [(2,E 0)] [UC A.first A.bL A.bf A.bt A.aw A.aF A.aN v1 v2 v3 A.bx A.c7 A.aD A.depth] [] ?_));cases I;exact .cS (qf [] [])
def uf (k:Nat) (A:List au) (a3:Int):Nat->Int->Option Int
  | 0,_=>none
  | j3+1,v3=>
    Option.bind (α:=Bool) (bif decide (v3 < a3) then(bp A v3 λ y6=>
    some (y6.aM != 1)) else(some false)) λ(v5:Bool)=>
    bif v5 then(uf k A a3 j3 (w (v3+1))) else(some v3)
def ug (k:Nat) (A:List au) (v1:Int):Nat->Int->Option Int
  | 0,_=>none
  | IN+1,v9=>
    Option.bind (α:=Bool) (bif decide (v9 > v1) then(bp A (w (v9 - 1)) λ AW=>
    some (AW.aM != 1)) else(some false)) λ(v11:Bool)=>
    bif v11 then(ug k A v1 IN (w (v9 - 1))) else(some v9)
def so (k:Nat) (A:List au) (v7:Int):Nat->Int->Int->Int->Int->Int->Int->Option (Int×Int×Int×Int×Int)
  | 0,_,_,_,_,_,_=>none
  | U1+1,ig,iz,iQ,kO,cQ,j8=>
    bif decide (ig < v7) then(bp A ig λ iN=>
    Option.bind (α:=Int×Int×Int×Int×Int) (bif iN.aM == 1 then(Option.bind (α:=Int) (bif decide (iN.aD > cQ) then(some iN.aD) else(some cQ)) λ(FE:Int)=>
    bif decide (iN.depth > j8) then(some (w (iz+iN.aB),iQ,kO,FE,iN.depth)) else(some (w (iz+iN.aB),iQ,kO,FE,j8))) else(bif iN.aM == 2 then(some (w (iz+iN.aB),iQ,kO,cQ,j8)) else(bif iN.aM == 3 then(some (w (iz+iN.aB),w (iQ+iN.aw),w (kO+iN.aF),cQ,j8)) else(some (iz,iQ,kO,cQ,j8))))) λ(kW,jM,lG,jE,iR)=>
    so k A v7 U1 (w (ig+1)) kW jM lG jE iR) else(some (iz,iQ,kO,cQ,j8))
def WH (k:Nat) (A:List au) (a1:Int) (Z:Int) (a3:Int):Option bI:=
Option.bind (α:=Int) (uf k A a3 k (w (Z+1))) λ(v1:Int)=>
Option.bind (α:=Int) (ug k A v1 k a3) λ(v7:Int)=>
Option.bind (α:=Int×Int×Int×Int×Int) (so k A v7 k v1 0 0 0 0 0) λ(hH,gU,iP,iM,gV)=>
bp A a3 λ eA=>
Option.bind (α:=Int×Bool×Bool×Int×Int) (bif eA.aM == 4 then(Option.bind (α:=Bool) (bif eA.cR then(some (decide (eA.aD > iM))) else(some false)) λ(im:Bool)=>
Option.bind (α:=Int) (bif im then(some eA.aD) else(some iM)) λ(iS:Int)=>
Option.bind (α:=Bool) (bif eA.cR then(some (decide (eA.depth > gV))) else(some false)) λ(jF:Bool)=>
bif jF then(some (w (hH+eA.aB),eA.cR,eA.value == (-10000),iS,eA.depth)) else(some (w (hH+eA.aB),eA.cR,eA.value == (-10000),iS,gV))) else(some (hH,false,false,iM,gV))) λ(AY,F4,F5,F6,rA)=>
(SH k (bI.mk v1 v7 a3 AY gU iP (w (a1 - AY)) 0 0 false F4 F5 F6 rA)).bind λ r63=>
some r63
theorem L87 (k:Nat) (A:List au) (a1:Int) (Z:Int) (a3:Int) (r:bI) (I:WH k A a1 Z a3=some r):PF Try.prog fK 87 [lI A,g a1,g Z,g a3] [] [] (λ p fr tk=>p=.agg (gP r)/\fr=[]/\tk=[]):=by
 unfold WH at I;refine qP Try.func87 ?_;refine .region (qX 1 [0] [] [(0,lI A),(1,g a1),(2,g Z),(3,g a3),(8,E 0)] [R6] [] ?_);refine .region (qX 7 [0,1] [] [(0,lI A),(1,g a1),(3,g a3),(8,E 0),(9,E 1)] [R6,Dy (w (Z+1)) a3 a3] [] ?_);refine aq I λ x1 e2 I=>PC.bQ (λ s=>∃ (v1:Int),bc s (PS.of 171 [(0,lI A),(1,g a1),(3,g a3),(8,E 0),(9,E 1)] [R6,Dy v1 a3 a3] [] 0 0)/\v1=x1) ?_ ?_
 ·refine PC.loop (λ j3 s=>∃ (v3:Int),bc s (PS.of 171 [(0,lI A),(1,g a1),(3,g a3),(8,E 0),(9,E 1)] [R6,Dy v3 a3 a3] [] 0 0)/\uf k A a3 j3 v3=some x1) (λ j3 s=>?_) k ⟨w (Z+1),qw [0,1] [],e2⟩;rintro⟨v3,w4,e2⟩;refine w4.c ?_;obtain _ | j3:=j3
  · rw[uf] at e2; cases e2
  rw[uf] at e2;refine qM 5 ?_;refine aq e2 λ x5 e6 e2=>PO.cut 8 (cu (λ v5=>PS.of 171 [(0,lI A),(1,g a1),(3,g a3),(8,E 0),(9,E 1),(30,vB v5)] [R6,Dy v3 a3 a3] [] 0 0) x5) ?_ ?_
  ·refine qC 22 e6 (λ e6=>?_) λ e6=>?_
   ·refine qR 3 ?_;refine qI gM e6 λ y6 e6=>?_;refine qN 4 ?_;exact⟨y6.aM != 1,qw [0,1] [],qs e6⟩
   exact qW 8 false [0,1] [] e6
  rintro _ ⟨v5,OB,rfl⟩;refine OB.on (qD e2 (λ e2=>?_) λ e2=>?_)
  ·refine .aZ (.lone (PC.block ?_));refine .lone (.region (qX 5 [0,1] [] [(0,lI A),(1,g a1),(3,g a3),(8,E 0),(9,E 1)] [R6,Dy (w (v3+1)) a3 a3] [] ?_));refine .skip (bk.end ?_);exact .skip (bh.mk (Nat.lt_succ_self _) ⟨w (v3+1),qw [0,1] [],e2⟩)
  exact .exit (bh.exit (aC.eF ⟨v3,qw [0,1] [],qs e2⟩))
 rintro _ ⟨v1,FZ,rfl⟩;refine FZ.c (aq I λ xV fB I=>PC.bQ (λ s=>∃ (v7:Int),bc s (PS.of 171 [(0,lI A),(1,g a1),(3,g a3),(8,E 0),(9,E 1)] [R6,Dy v1 v7 a3] [] 0 0)/\v7=xV) ?_ ?_)
 ·refine PC.loop (λ IN s=>∃ (v9:Int),bc s (PS.of 171 [(0,lI A),(1,g a1),(3,g a3),(8,E 0),(9,E 1)] [R6,Dy v1 v9 a3] [] 0 0)/\ug k A v1 IN v9=some xV) (λ IN s=>?_) k ⟨a3,qw [0,1] [],fB⟩;rintro⟨v9,Ca,fB⟩;refine Ca.c ?_;obtain _ | IN:=IN
  · rw[ug] at fB; cases fB
  rw[ug] at fB;refine qM 6 ?_;refine aq fB λ FD kG fB=>PO.cut 9 (cu (λ v11=>PS.of 171 [(0,lI A),(1,g a1),(3,g a3),(8,E 0),(9,E 1),(49,vB v11)] [R6,Dy v1 v9 a3] [] 0 0) FD) ?_ ?_
  ·refine qC 40 kG (λ kG=>?_) λ kG=>?_
   ·refine qR 4 ?_;refine qI gM kG λ AW kG=>?_;refine qN 4 ?_;exact⟨AW.aM != 1,qw [0,1] [],qs kG⟩
   exact qW 9 false [0,1] [] kG
  rintro _ ⟨v11,OH,rfl⟩;refine OH.on (qD fB (λ fB=>?_) λ fB=>?_)
  ·refine .aZ (.lone (PC.block ?_));refine .lone (.region (qX 5 [0,1] [] [(0,lI A),(1,g a1),(3,g a3),(8,E 0),(9,E 1)] [R6,Dy v1 (w (v9 - 1)) a3] [] ?_));refine .skip (bk.end ?_);exact .skip (bh.mk (Nat.lt_succ_self _) ⟨w (v9 - 1),qw [0,1] [],fB⟩)
  exact .exit (bh.exit (aC.eF ⟨v9,qw [0,1] [],qs fB⟩))
 rintro _ ⟨v7,Sk,rfl⟩;refine Sk.c (qK 4 ?_);refine aq I λ Zh xp I=>PC.bQ (λ s=>∃ (hH:Int) (gU:Int) (iP:Int) (iM:Int) (gV:Int),bc s (PS.of 171 [(0,lI A),(1,g a1),(3,g a3),(8,E 0),(9,E 1)] [R6,uQ v1 v7 a3 hH gU iP iM gV] [] 0 0)/\(hH,gU,iP,iM,gV)=Zh) ?_ ?_
 ·refine PC.loop (λ U1 s=>∃ (ig:Int) (iz:Int) (iQ:Int) (kO:Int) (cQ:Int) (j8:Int),bc s (PS.of 171 [(0,lI A),(1,g a1),(3,g a3),(8,E 0),(9,E 1),(10,g ig)] [R6,uQ v1 v7 a3 iz iQ kO cQ j8] [] 0 0)/\so k A v7 U1 ig iz iQ kO cQ j8=some Zh) (λ U1 s=>?_) k ⟨v1,0,0,0,0,0,qw [0,1] [],xp⟩;rintro⟨ig,iz,iQ,kO,cQ,j8,Sq,xp⟩;refine Sq.c ?_;obtain _ | U1:=U1
  · rw[so] at xp; cases xp
  rw[so] at xp;refine qK 5 ?_;refine qD xp (λ xp=>?_) λ xp=>?_
  ·refine .aZ (PC.block ?_);refine qL 2 ?_;refine qI gM xp λ iN xp=>?_;refine qX 3 [0,1,2] [] [(0,lI A),(1,g a1),(3,g a3),(8,E 0),(9,E 1),(10,g ig),(11,E 2)] [R6,uQ v1 v7 a3 iz iQ kO cQ j8,R4 iN] [] ?_;refine qr 3 ?_;refine .lone (aq xp λ Zd pI xp=>PC.bQ (λ s=>∃ (kW:Int) (jM:Int) (lG:Int) (jE:Int) (iR:Int),bc s (PS.of 171 [(0,lI A),(1,g a1),(3,g a3),(8,E 0),(9,E 1),(10,g ig)] [R6,uQ v1 v7 a3 kW jM lG jE iR] [] 0 0)/\(kW,jM,lG,jE,iR)=Zd) ?_ ?_)
   ·refine qr 3 ?_;refine .lone (qD pI (λ pI=>?_) λ pI=>?_)
    ·refine qJ ?_;refine qX 7 [0,1,2] [] [(0,lI A),(1,g a1),(3,g a3),(8,E 0),(9,E 1),(10,g ig),(11,E 2)] [R6,uQ v1 v7 a3 (w (iz+iN.aB)) iQ kO cQ j8,R4 iN] [] ?_;refine .eP (qK 6 ?_);refine aq pI λ V5 te pI=>PC.mh (λ s=>∃ (FE:Int),bc s (PS.of 171 [(0,lI A),(1,g a1),(3,g a3),(8,E 0),(9,E 1),(10,g ig),(11,E 2)] [R6,uQ v1 v7 a3 (w (iz+iN.aB)) iQ kO FE j8,R4 iN] [] 0 0)/\FE=V5) ?_ ?_
     ·refine qD te (λ te=>?_) λ te=>?_
      ·refine .region (qX 4 [0,1,2] [] [(0,lI A),(1,g a1),(3,g a3),(8,E 0),(9,E 1),(10,g ig),(11,E 2)] [R6,uQ v1 v7 a3 (w (iz+iN.aB)) iQ kO iN.aD j8,R4 iN] [] ?_);exact .skip (bR.end ⟨iN.aD,qw [0,1,2] [],qs te⟩)
      exact .aZ (PC.skip (bR.end ⟨cQ,qw [0,1,2] [],qs te⟩))
     rintro _ ⟨FE,w38,rfl⟩;refine w38.c (qK 6 ?_);refine qD pI (λ pI=>?_) λ pI=>?_
     ·refine .region (qX 4 [0,1] [] [(0,lI A),(1,g a1),(3,g a3),(8,E 0),(9,E 1),(10,g ig)] [R6,uQ v1 v7 a3 (w (iz+iN.aB)) iQ kO FE iN.depth] [] ?_);exact .skip (aC.end ⟨w (iz+iN.aB),iQ,kO,FE,iN.depth,qw [0,1] [],qs pI⟩)
     exact .aZ (PC.skip (aC.end ⟨w (iz+iN.aB),iQ,kO,FE,j8,qw [0,1] [],qs pI⟩))
    refine qK 3 ?_;refine qD pI (λ pI=>?_) λ pI=>?_
    ·refine .region (qX 7 [0,1] [] [(0,lI A),(1,g a1),(3,g a3),(8,E 0),(9,E 1),(10,g ig)] [R6,uQ v1 v7 a3 (w (iz+iN.aB)) iQ kO cQ j8] [] ?_);exact .skip (aC.end ⟨w (iz+iN.aB),iQ,kO,cQ,j8,qw [0,1] [],qs pI⟩)
    refine qK 3 ?_;refine qD pI (λ pI=>?_) λ pI=>?_
    ·refine qJ ?_;refine qX 7 [0,1,2] [] [(0,lI A),(1,g a1),(3,g a3),(8,E 0),(9,E 1),(10,g ig),(11,E 2)] [R6,uQ v1 v7 a3 (w (iz+iN.aB)) iQ kO cQ j8,R4 iN] [] ?_;refine qJ ?_;refine qX 7 [0,1,2] [] [(0,lI A),(1,g a1),(3,g a3),(8,E 0),(9,E 1),(10,g ig),(11,E 2)] [R6,uQ v1 v7 a3 (w (iz+iN.aB)) (w (iQ+iN.aw)) kO cQ j8,R4 iN] [] ?_;refine .region (qX 7 [0,1] [] [(0,lI A),(1,g a1),(3,g a3),(8,E 0),(9,E 1),(10,g ig)] [R6,uQ v1 v7 a3 (w (iz+iN.aB)) (w (iQ+iN.aw)) (w (kO+iN.aF)) cQ j8] [] ?_);exact .skip (aC.end ⟨w (iz+iN.aB),w (iQ+iN.aw),w (kO+iN.aF),cQ,j8,qw [0,1] [],qs pI⟩)
    exact .aZ (PC.skip (aC.end ⟨iz,iQ,kO,cQ,j8,qw [0,1] [],qs pI⟩))
   rintro _ ⟨kW,jM,lG,jE,iR,w42,rfl⟩;refine w42.c (PC.skip (bk.end ?_));refine .lone (qr 4 ?_);exact .skip (bh.mk (Nat.lt_succ_self _) ⟨w (ig+1),kW,jM,lG,jE,iR,qw [0,1] [],xp⟩)
  exact .exit (bh.exit (aC.eF ⟨iz,iQ,kO,cQ,j8,qw [0,1] [],qs xp⟩))
 rintro _ ⟨hH,gU,iP,iM,gV,w43,rfl⟩;refine w43.c (qL 2 ?_);refine qI gM I λ eA I=>?_;refine qX 3 [0,1,2] [] [(1,g a1),(8,E 0),(9,E 1),(12,E 2)] [R6,uQ v1 v7 a3 hH gU iP iM gV,R4 eA] [] ?_;refine qK 4 ?_;refine aq I λ x46 DR I=>PC.mh (λ s=>∃ (AY:Int) (F4:Bool) (F5:Bool) (F6:Int) (rA:Int),bc s (PS.of 171 [(1,g a1),(8,E 0),(9,E 1)] [R6,IL v1 v7 a3 AY gU iP F4 F5 F6 rA] [] 0 0)/\(AY,F4,F5,F6,rA)=x46) ?_ ?_
 ·refine qD DR (λ DR=>?_) λ DR=>?_
  ·refine qJ ?_;refine qX 7 [0,1,2] [] [(1,g a1),(8,E 0),(9,E 1),(12,E 2)] [R6,uQ v1 v7 a3 (w (hH+eA.aB)) gU iP iM gV,R4 eA] [] ?_;refine qJ ?_;refine qX 4 [0,1,2] [] [(1,g a1),(8,E 0),(9,E 1),(12,E 2)] [R6,⟨0,[g v1,g v7,g a3,g (w (hH+eA.aB)),g gU,g iP,g 0,g 0,g 0,vB false,vB eA.cR,vB false,g iM,g gV]⟩,R4 eA] [] ?_;refine qJ ?_;refine qX 5 [0,1,2] [] [(1,g a1),(8,E 0),(9,E 1),(12,E 2)] [R6,IL v1 v7 a3 (w (hH+eA.aB)) gU iP eA.cR (eA.value == (-10000)) iM gV,R4 eA] [] ?_;refine .eP (qM 3 ?_);refine aq DR λ x49 OE DR=>PO.cut 6 (cu (λ im=>PS.of 171 [(1,g a1),(8,E 0),(9,E 1),(12,E 2),(148,vB im)] [R6,IL v1 v7 a3 (w (hH+eA.aB)) gU iP eA.cR (eA.value == (-10000)) iM gV,R4 eA] [] 0 0) x49) ?_ ?_
   ·refine qC 142 OE (λ OE=>?_) λ OE=>?_
    ·exact qW 6 (decide (eA.aD > iM)) [0,1,2] [] OE
    exact qW 6 false [0,1,2] [] OE
   rintro _ ⟨im,w52,rfl⟩;refine w52.on (aq DR λ Wo tO DR=>PC.mh (λ s=>∃ (iS:Int),bc s (PS.of 171 [(1,g a1),(8,E 0),(9,E 1),(12,E 2)] [R6,IL v1 v7 a3 (w (hH+eA.aB)) gU iP eA.cR (eA.value == (-10000)) iS gV,R4 eA] [] 0 0)/\iS=Wo) ?_ ?_)
   ·refine qD tO (λ tO=>?_) λ tO=>?_
    ·refine .region (qX 4 [0,1,2] [] [(1,g a1),(8,E 0),(9,E 1),(12,E 2)] [R6,IL v1 v7 a3 (w (hH+eA.aB)) gU iP eA.cR (eA.value == (-10000)) eA.aD gV,R4 eA] [] ?_);exact .skip (bR.end ⟨eA.aD,qw [0,1,2] [],qs tO⟩)
    exact .aZ (PC.skip (bR.end ⟨iM,qw [0,1,2] [],qs tO⟩))
   rintro _ ⟨iS,w56,rfl⟩;refine w56.c (qM 3 ?_);refine aq DR λ V8 xW DR=>PO.cut 6 (cu (λ jF=>PS.of 171 [(1,g a1),(8,E 0),(9,E 1),(12,E 2),(160,vB jF)] [R6,IL v1 v7 a3 (w (hH+eA.aB)) gU iP eA.cR (eA.value == (-10000)) iS gV,R4 eA] [] 0 0) V8) ?_ ?_
   ·refine qC 154 xW (λ xW=>?_) λ xW=>?_
    ·exact qW 6 (decide (eA.depth > gV)) [0,1,2] [] xW
    exact qW 6 false [0,1,2] [] xW
   rintro _ ⟨jF,Ws,rfl⟩;refine Ws.on (qD DR (λ DR=>?_) λ DR=>?_)
   ·refine .region (qX 4 [0,1] [] [(1,g a1),(8,E 0),(9,E 1)] [R6,IL v1 v7 a3 (w (hH+eA.aB)) gU iP eA.cR (eA.value == (-10000)) iS eA.depth] [] ?_);exact .skip (bR.end ⟨w (hH+eA.aB),eA.cR,eA.value == (-10000),iS,eA.depth,qw [0,1] [],qs DR⟩)
   exact .aZ (PC.skip (bR.end ⟨w (hH+eA.aB),eA.cR,eA.value == (-10000),iS,gV,qw [0,1] [],qs DR⟩))
  exact .aZ (PC.skip (bR.end ⟨hH,false,false,iM,gV,qw [0,1] [],qs DR⟩))
 rintro _ ⟨AY,F4,F5,F6,rA,w62,rfl⟩;refine w62.c (.region (qX 6 [0,1] [] [(8,E 0),(9,E 1)] [R6,⟨0,[g v1,g v7,g a3,g AY,g gU,g iP,g (w (a1 - AY)),g 0,g 0,vB false,vB F4,vB F5,g F6,g rA]⟩] [] ?_));refine qL 1 ?_;refine aq I λ r63 F7 I=>qG [] [] (L94 k (bI.mk v1 v7 a3 AY gU iP (w (a1 - AY)) 0 0 false F4 F5 F6 rA) _ F7) trivial ?_;refine qX 1 [0] [] [(8,E 0)] [R5 r63] [] ?_;cases I;exact .cS (qf [] [])
def WI (k:Nat) (A:List au) (a1:Int) (Z:Int) (a3:Int):Option (bI×Int):=
(SE k A).bind λ r1=>
Option.bind (α:=Bool) (bif r1 != 0 then(some true) else((WE k a1).bind λ r6=>
Option.bind (α:=Bool) (bif !r6 then(some true) else((Zl k A Z a3).bind λ KS=>
some (!KS))) λ(v2:Bool)=>
some v2)) λ(v1:Bool)=>
bif v1 then(some ((bI.mk 0 0 0 0 0 0 0 0 0 false false false 0 0),1)) else((WH k A a1 Z a3).bind λ Sg=>
some (Sg,0))
theorem L68 (k:Nat) (A:List au) (a1:Int) (Z:Int) (a3:Int) (r:bI×Int) (I:WI k A a1 Z a3=some r):PF Try.prog fK 68 [lI A,g a1,g Z,g a3] [] [] (λ p fr tk=>p=.fX [.agg (gP r.1),g r.2]/\fr=[]/\tk=[]):=by
 unfold WI at I;refine qP Try.func68 ?_;refine .region (qX 2 [0] [] [(0,lI A),(1,g a1),(2,g Z),(3,g a3),(8,E 0),(9,g 0)] [R6] [] ?_);refine qM 1 ?_;refine aq I λ r1 e2 I=>qG [] [] (L34 k A _ e2) trivial ?_;refine qR 2 ?_;refine aq I λ x3 e4 I=>PO.cut 11 (cu (λ v1=>PS.of 31 [(0,lI A),(1,g a1),(2,g Z),(3,g a3),(8,E 0),(9,g 0),(24,vB v1)] [R6] [] 0 0) x3) ?_ ?_
 ·refine qC 13 e4 (λ e4=>?_) λ e4=>?_
  ·exact qW 11 true [0] [] e4
  refine qR 1 ?_;refine aq e4 λ r6 e7 e4=>qG [] [] (L85 k a1 _ e7) trivial ?_;refine qR 3 ?_;refine aq e4 λ x8 e9 e4=>PO.cut 6 (cu (λ v2=>PS.of 31 [(0,lI A),(1,g a1),(2,g Z),(3,g a3),(8,E 0),(9,g 0),(24,vB v2)] [R6] [] 0 0) x8) ?_ ?_
  ·refine qC 18 e9 (λ e9=>?_) λ e9=>?_
   ·exact qW 6 true [0] [] e9
   refine qR 3 ?_;refine aq e9 λ KS nM e9=>qG [] [] (L86 k A Z a3 _ nM) trivial ?_;exact qW 2 (!KS) [0] [] e9
  rintro _ ⟨v2,w13,rfl⟩;refine w13.on ?_;exact⟨v2,qw [0] [],qs e4⟩
 rintro _ ⟨v1,OK,rfl⟩;refine OK.on (qD I (λ I=>?_) λ I=>?_)
 ·refine qJ ?_;refine qX 3 [0] [] [(8,E 0),(9,g 1)] [R6] [] ?_;cases I;exact .ret (qf [] [])
 refine .aZ (qL 4 ?_);refine aq I λ Sg re I=>qG [] [] (L87 k A a1 Z a3 _ re) trivial ?_;refine qX 2 [0] [] [(8,E 0),(9,g 0)] [R5 Sg] [] ?_;cases I;exact .cS (qf [] [])
def OX (k:Nat) (A:Int) (a1:Int) (Z:Int):Option Int:=
bif decide (A < a1) then(some a1) else(bif decide (A > Z) then(some Z) else(some A))
theorem Zm (k:Nat) (A:Int) (a1:Int) (Z:Int) (r:Int) (I:OX k A a1 Z=some r):PF Try.prog fK 88 [g A,g a1,g Z] [] [] (λ p fr tk=>p=g r/\fr=[]/\tk=[]):=by
 unfold OX at I;refine qP Try.func88 ?_;refine qr 2 ?_;refine qK 4 ?_;refine qD I (λ I=>?_) λ I=>?_
 ·refine qK 3 ?_;cases I;exact .ret (qf [] [])
 refine .aZ (qK 4 ?_);refine qD I (λ I=>?_) λ I=>?_
 ·refine qK 3 ?_;cases I;exact .ret (qf [] [])
 refine .aZ (qr 3 ?_);cases I;exact .cS (qf [] [])
def WJ (k:Nat) (A:List au) (a1:bI) (Z:bI):Option Int:=
(OX k Z.fA 0 10000).bind λ r1=>
Option.bind (α:=Bool) (bif decide (Z.bf>=0) then(Option.bind (α:=Bool) (bif decide (Z.bf < (A.length:Int)) then(bp A Z.bf λ y3=>
some (y3.aM == 4)) else(some false)) λ(v2:Bool)=>
some v2) else(some false)) λ(v1:Bool)=>
Option.bind (α:=Int) (bif v1 then(bp A Z.bf λ y5=>
bif decide (y5.value>=0) then((OX k y5.value 0 10000).bind λ AL=>
some (w ((w ((w (10+r1)) * (w (10+r1))))+(w (AL * AL))))) else(bif decide (y5.value > (-10000)) then(some (w ((w ((w (10+r1)) * (w (10+r1)))) - (w (y5.value * y5.value))))) else(some (w ((w (10+r1)) * (w (10+r1))))))) else(some (w ((w (10+r1)) * (w (10+r1)))))) λ(v4:Int)=>
Option.bind (α:=Int×Int) (bif decide (a1.first>=0) then((OX k a1.aI 0 3).bind λ Ce=>
Option.bind (α:=Bool) (bif a1.bx then(some Z.bx) else(some false)) λ(v8:Bool)=>
bif v8 then(some (w (v4+3000),Ce)) else(some (v4,Ce))) else(some (v4,1))) λ(v6,v7)=>
(OX k Z.aI 0 3).bind λ Zn=>
Option.bind (α:=Bool) (bif decide ((w (v7 - Zn)) > 1) then(some true) else(some (decide ((w (v7 - Zn)) < (-1))))) λ(v9:Bool)=>
Option.bind (α:=Int) (bif v9 then(some (w (v6+3000))) else(some v6)) λ(v10:Int)=>
some v10
theorem L69 (k:Nat) (A:List au) (a1:bI) (Z:bI) (r:Int) (I:WJ k A a1 Z=some r):PF Try.prog fK 69 [lI A,.agg (gP a1),.agg (gP Z)] [] [] (λ p fr tk=>p=g r/\fr=[]/\tk=[]):=by
 unfold WJ at I;refine qP Try.func69 ?_;refine .region (qX 3 [0,1] [] [(0,lI A),(4,E 0),(5,E 1),(6,g 0)] [R5 a1,R5 Z] [] ?_);refine qL 2 ?_;refine aq I λ r1 e2 I=>qG [] [] (Zm k Z.fA 0 10000 _ e2) trivial ?_;refine qN 1 ?_;refine qr 7 ?_;refine qM 4 ?_;refine aq I λ x3 e4 I=>PO.cut 15 (cu (λ v1=>PS.of 89 [(0,lI A),(4,E 0),(5,E 1),(6,g 0),(8,g (w ((w (10+r1)) * (w (10+r1))))),(38,vB v1)] [R5 a1,R5 Z] [] 0 0) x3) ?_ ?_
 ·refine qC 23 e4 (λ e4=>?_) λ e4=>?_
  ·refine qR 3 ?_;refine qS gM ?_;refine qR 3 ?_;refine aq e4 λ x6 e7 e4=>PO.cut 8 (cu (λ v2=>PS.of 89 [(0,lI A),(4,E 0),(5,E 1),(6,g 0),(8,g (w ((w (10+r1)) * (w (10+r1))))),(38,vB v2)] [R5 a1,R5 Z] [] 0 0) x6) ?_ ?_
   ·refine qC 30 e7 (λ e7=>?_) λ e7=>?_
    ·refine qR 3 ?_;refine qI gM e7 λ y3 e7=>?_;refine qN 4 ?_;exact⟨y3.aM == 4,qw [0,1] [],qs e7⟩
    exact qW 8 false [0,1] [] e7
   rintro _ ⟨v2,FY,rfl⟩;refine FY.on ?_;exact⟨v2,qw [0,1] [],qs e4⟩
  exact qW 15 false [0,1] [] e4
 rintro _ ⟨v1,FZ,rfl⟩;refine FZ.on (aq I λ xV fB I=>PC.mh (λ s=>∃ (v4:Int),bc s (PS.of 89 [(4,E 0),(5,E 1),(6,g 0),(8,g v4)] [R5 a1,R5 Z] [] 0 0)/\v4=xV) ?_ ?_)
 ·refine qD fB (λ fB=>?_) λ fB=>?_
  ·refine qM 3 ?_;refine qI gM fB λ y5 fB=>?_;refine qN 3 ?_;refine qK 3 ?_;refine qD fB (λ fB=>?_) λ fB=>?_
   ·refine qM 1 ?_;refine aq fB λ AL tM fB=>qG [] [] (Zm k y5.value 0 10000 _ tM) trivial ?_;refine qN 1 ?_;refine qr 7 ?_;exact .skip (bR.end ⟨w ((w ((w (10+r1)) * (w (10+r1))))+(w (AL * AL))),qw [0,1] [],qs fB⟩)
   refine qK 3 ?_;refine qD fB (λ fB=>?_) λ fB=>?_
   ·refine qr 7 ?_;exact .skip (bR.end ⟨w ((w ((w (10+r1)) * (w (10+r1)))) - (w (y5.value * y5.value))),qw [0,1] [],qs fB⟩)
   exact .aZ (PC.skip (bR.end ⟨w ((w (10+r1)) * (w (10+r1))),qw [0,1] [],qs fB⟩))
  exact .aZ (PC.skip (bR.end ⟨w ((w (10+r1)) * (w (10+r1))),qw [0,1] [],qs fB⟩))
 rintro _ ⟨v4,OH,rfl⟩;refine OH.c (qr 2 ?_);refine qK 4 ?_;refine aq I λ x23 xo I=>PC.mh (λ s=>∃ (v6:Int) (v7:Int),bc s (PS.of 89 [(5,E 0),(6,g 0),(8,g v6),(10,g v7)] [R5 Z] [] 0 0)/\(v6,v7)=x23) ?_ ?_
 ·refine qD xo (λ xo=>?_) λ xo=>?_
  ·refine qM 2 ?_;refine aq xo λ Ce uS xo=>qG [] [] (Zm k a1.aI 0 3 _ uS) trivial ?_;refine qN 1 ?_;refine qM 3 ?_;refine aq xo λ KX j7 xo=>PO.cut 3 (cu (λ v8=>PS.of 89 [(5,E 0),(6,g 0),(8,g v4),(10,g Ce),(72,vB v8)] [R5 Z] [] 0 0) KX) ?_ ?_
   ·refine qC 69 j7 (λ j7=>?_) λ j7=>?_
    ·exact qW 3 Z.bx [1] [] j7
    exact qW 3 false [1] [] j7
   rintro _ ⟨v8,IQ,rfl⟩;refine IQ.on (qD xo (λ xo=>?_) λ xo=>?_)
   ·refine qr 4 ?_;exact .skip (bR.end ⟨w (v4+3000),Ce,qw [0] [],qs xo⟩)
   exact .aZ (PC.skip (bR.end ⟨v4,Ce,qw [0] [],qs xo⟩))
  exact .aZ (PC.skip (bR.end ⟨v4,1,qw [1] [],qs xo⟩))
 rintro _ ⟨v6,v7,w33,rfl⟩;refine w33.c (qL 3 ?_);refine aq I λ Zn e35 I=>qG [] [] (Zm k Z.aI 0 3 _ e35) trivial ?_;refine qN 2 ?_;refine qM 3 ?_;refine aq I λ Wc tN I=>PO.cut 3 (cu (λ v9=>PS.of 89 [(6,g 0),(8,g v6),(85,vB v9)] [] [] 0 0) Wc) ?_ ?_
 ·refine qC 82 tN (λ tN=>?_) λ tN=>?_
  ·exact qW 3 true [] [] tN
  refine qN 3 ?_;exact⟨decide ((w (v7 - Zn)) < (-1)),qw [] [],qs tN⟩
 rintro _ ⟨v9,w39,rfl⟩;refine w39.on (aq I λ V6 yR I=>PC.mh (λ s=>∃ (v10:Int),bc s (PS.of 89 [(6,g 0),(8,g v10)] [] [] 0 0)/\v10=V6) ?_ ?_)
 ·refine qD yR (λ yR=>?_) λ yR=>?_
  ·refine qr 4 ?_;exact .skip (bR.end ⟨w (v6+3000),qw [] [],qs yR⟩)
  exact .aZ (PC.skip (bR.end ⟨v6,qw [] [],qs yR⟩))
 rintro _ ⟨v10,w43,rfl⟩;refine w43.c (qr 3 ?_);cases I;exact .cS (qf [] [])
def U2 (k:Nat) (A:List au) (a1:Int) (Z:Int) (a3:cg) (a4:Int):Option cg:=
Option.bind (α:=Int) (bif decide ((a3.eX.length:Int) > 0) then(bp a3.eX (w ((a3.eX.length:Int) - 1)) λ y2=>
some y2) else(some (-1))) λ(v1:Int)=>
(WI k A a1 v1 a4).bind λ r7=>
mw 8 ([] : List Int) a3.eX λ l3=>
mw 8 l3 ([a4]) λ l4=>
Option.bind (α:=Bool) (bif r7.1.bB then(some true) else(some (decide (r7.1.fA > Z)))) λ(v5:Bool)=>
Option.bind (α:=Int) (bif v5 then(some (w (a3.bj+1))) else(some a3.bj)) λ(v6:Int)=>
(WJ k A (bI.mk a3.eo a3.fh a3.er a3.dj a3.dk a3.dH a3.eu a3.gn a3.bN a3.fi a3.dI a3.gp a3.dJ a3.ey) r7.1).bind λ AL=>
some (cg.mk true l4 v6 (w (a3.aR+AL)) (w (a3.aO+1)) r7.1.first r7.1.bL r7.1.bf r7.1.bt r7.1.aw r7.1.aF r7.1.aN r7.1.fA r7.1.aI r7.1.bB r7.1.bx r7.1.c7 r7.1.aD r7.1.depth)
theorem L40 (k:Nat) (A:List au) (a1:Int) (Z:Int) (a3:cg) (a4:Int) (r:cg) (I:U2 k A a1 Z a3 a4=some r):PF Try.prog fK 40 [lI A,g a1,g Z,.agg (de a3),g a4] [] [] (λ p fr tk=>p=.agg (de r)/\fr=[]/\tk=[]):=by
 unfold U2 at I;refine qP Try.func40 ?_;refine .region (qX 2 [0,1] [] [(0,lI A),(1,g a1),(2,g Z),(4,g a4),(8,E 0),(10,E 1)] [mq a3,AK] [] ?_);refine qr 2 ?_;refine qM 2 ?_;refine qS kF ?_;refine qN 1 ?_;refine aq I λ x1 e2 I=>PC.mh (λ s=>∃ (v1:Int),bc s (PS.of 78 [(0,lI A),(1,g a1),(2,g Z),(4,g a4),(8,E 0),(10,E 1),(11,g v1)] [mq a3,AK] [] 0 0)/\v1=x1) ?_ ?_
 ·refine qD e2 (λ e2=>?_) λ e2=>?_
  ·refine qL 4 ?_;refine qS kF ?_;refine qR 1 ?_;refine qI kF e2 λ y2 e2=>?_;refine qN 2 ?_;exact .skip (bR.end ⟨y2,qw [0,1] [],qs e2⟩)
  exact .aZ (PC.skip (bR.end ⟨(-1),qw [0,1] [],qs e2⟩))
 rintro _ ⟨v1,w6,rfl⟩;refine w6.c (qL 4 ?_);refine aq I λ r7 e8 I=>qG [] [] (L68 k A a1 v1 a4 _ e8) trivial ?_;refine qX 6 [0,1,2] [] [(0,lI A),(2,g Z),(4,g a4),(8,E 0),(10,E 1),(12,E 2)] [mq a3,AK,R5 r7.1] [] ?_;refine PC.pK [0,1,2,3,4,5,6,7,8,9,10,11,12] (by kernel_rfl) ?_;refine qd 3 [3,4,5,6,7,8,9,10,11,12] ⟨7,0,0,[]⟩ [(0,lI A),(2,g Z),(4,g a4),(8,E 0),(10,E 1),(12,E 2),(35,.aS 1 (List.map br ([] : List Int)) (some 0)),(37,.aS 1 (List.map br a3.eX) none)] [mq a3,AK,R5 r7.1] [0] ?_;refine pZ I λ h9 I=>?_;generalize ada:([] : List Int)++a3.eX=l3 at I;refine PD.Mm rfl (by kernel_rfl) rfl (tJ (L:=([] : List Int)) (M:=a3.eX) (f:=br) (sz:=1) (bytes:=8) kF rfl rfl rfl rfl rfl rfl rfl rfl rfl rfl rfl rfl h9 ada) rfl ?_;refine qd 2 [6,7,8,9,10,11,12] ⟨63,15,7,[(3,[],true)]⟩ [(0,lI A),(2,g Z),(8,E 0),(10,E 1),(12,E 2),(38,lM l3 0),(40,.aS 1 (List.map br ([a4])) (some 1))] [mq a3,AK,R5 r7.1] [l3.length,1] ?_;refine pZ I λ AP I=>?_;generalize adb:l3++([a4])=l4 at I;refine PD.Mm rfl (by kernel_rfl) rfl (tJ (L:=l3) (M:=[a4]) (f:=br) (sz:=1) (bytes:=8) kF rfl rfl rfl rfl rfl rfl rfl rfl rfl rfl rfl rfl AP adb) rfl ?_;refine qd 6 [] ⟨8191,8191,4095,[(12,[3],false),(6,[3],true),(3,[3],true)]⟩ [(0,lI A),(2,g Z),(8,E 0),(10,E 1),(12,E 2),(14,E 3)] [mq a3,AK,R5 r7.1,N7 (lM l4 0) a3.bj a3.aR a3.aO r7.1.first r7.1.bL r7.1.bf r7.1.bt r7.1.aw r7.1.aF r7.1.aN r7.1.fA r7.1.aI r7.1.bB r7.1.bx r7.1.c7 r7.1.aD r7.1.depth] [l4.length,1] ?_;refine PD.done [0,1,2,3] [0] (es:=[(0,lI A),(2,g Z),(8,E 0),(10,E 1),(12,E 2),(14,E 3)]) (fr':=[mq a3,AK,R5 r7.1,N7 (lM l4 0) a3.bj a3.aR a3.aO r7.1.first r7.1.bL r7.1.bf r7.1.bt r7.1.aw r7.1.aF r7.1.aN r7.1.fA r7.1.aI r7.1.bB r7.1.bx r7.1.c7 r7.1.aD r7.1.depth]) (tk':=[l4.length]) (by kernel_rfl) (by kernel_rfl) ?_;refine .region (qX 7 [0,1,2,3] [0] [(0,lI A),(2,g Z),(8,E 0),(10,E 1),(12,E 2),(14,E 3)] [mq a3,AK,R5 r7.1,N7 (lM l4 0) a3.bj a3.aR (w (a3.aO+1)) r7.1.first r7.1.bL r7.1.bf r7.1.bt r7.1.aw r7.1.aF r7.1.aN r7.1.fA r7.1.aI r7.1.bB r7.1.bx r7.1.c7 r7.1.aD r7.1.depth] [l4.length] ?_);refine qM 3 ?_;refine aq I λ Dz nM I=>PO.cut 5 (cu (λ v5=>PS.of 78 [(0,lI A),(8,E 0),(10,E 1),(12,E 2),(14,E 3),(59,vB v5)] [mq a3,AK,R5 r7.1,N7 (lM l4 0) a3.bj a3.aR (w (a3.aO+1)) r7.1.first r7.1.bL r7.1.bf r7.1.bt r7.1.aw r7.1.aF r7.1.aN r7.1.fA r7.1.aI r7.1.bB r7.1.bx r7.1.c7 r7.1.aD r7.1.depth] [l4.length] 0 0) Dz) ?_ ?_
 ·refine qC 54 nM (λ nM=>?_) λ nM=>?_
  ·exact qW 5 true [0,1,2,3] [0] nM
  exact qW 5 (decide (r7.1.fA > Z)) [0,1,2,3] [0] nM
 rintro _ ⟨v5,OK,rfl⟩;refine OK.on (aq I λ Oy xX I=>PC.mh (λ s=>∃ (v6:Int),bc s (PS.of 78 [(0,lI A),(8,E 0),(10,E 1),(12,E 2),(14,E 3)] [mq a3,AK,R5 r7.1,N7 (lM l4 0) v6 a3.aR (w (a3.aO+1)) r7.1.first r7.1.bL r7.1.bf r7.1.bt r7.1.aw r7.1.aF r7.1.aN r7.1.fA r7.1.aI r7.1.bB r7.1.bx r7.1.c7 r7.1.aD r7.1.depth] [l4.length] 0 0)/\v6=Oy) ?_ ?_)
 ·refine qD xX (λ xX=>?_) λ xX=>?_
  ·refine .region (qX 7 [0,1,2,3] [0] [(0,lI A),(8,E 0),(10,E 1),(12,E 2),(14,E 3)] [mq a3,AK,R5 r7.1,N7 (lM l4 0) (w (a3.bj+1)) a3.aR (w (a3.aO+1)) r7.1.first r7.1.bL r7.1.bf r7.1.bt r7.1.aw r7.1.aF r7.1.aN r7.1.fA r7.1.aI r7.1.bB r7.1.bx r7.1.c7 r7.1.aD r7.1.depth] [l4.length] ?_);exact .skip (bR.end ⟨w (a3.bj+1),qw [0,1,2,3] [0],qs xX⟩)
  exact .aZ (PC.skip (bR.end ⟨a3.bj,qw [0,1,2,3] [0],qs xX⟩))
 rintro _ ⟨v6,FX,rfl⟩;refine FX.c (PC.pK [3,4,5,6,7,0,1,2,8,9,10,11] (by kernel_rfl) ?_);refine qd 4 [7,0,1,2,8,9,10,11] ⟨120,0,0,[]⟩ [(10,E 1),(14,E 3),(69,lI A),(71,.agg [g a3.eo,g a3.fh,g a3.er,g a3.dj,g a3.dk,g a3.dH,g a3.eu,g a3.gn,g a3.bN,vB a3.fi,vB a3.dI,vB a3.gp,g a3.dJ,g a3.ey]),(72,.agg (gP r7.1))] [mq a3,AK,R5 r7.1,N7 (lM l4 0) v6 a3.aR (w (a3.aO+1)) r7.1.first r7.1.bL r7.1.bf r7.1.bt r7.1.aw r7.1.aF r7.1.aN r7.1.fA r7.1.aI r7.1.bB r7.1.bx r7.1.c7 r7.1.aD r7.1.depth] [l4.length] ?_;refine aq I λ AL tM I=>?_;refine PD.call rfl rfl (by kernel_rfl) rfl rfl rfl (ks:=[]) (ts:=[]) (fr1:=[]) rfl rfl rfl trivial (L69 k A (bI.mk a3.eo a3.fh a3.er a3.dj a3.dk a3.dH a3.eu a3.gn a3.bN a3.fi a3.dI a3.gp a3.dJ a3.ey) r7.1 _ tM) ?_;rintro _ _ _ ⟨rfl,rfl,rfl⟩;refine⟨_,_,rfl,rfl,?_⟩;refine qd 7 [] ⟨4095,4095,2047,[(11,[3],false),(7,[3],true)]⟩ [(10,E 1),(14,E 3)] [mq a3,AK,R5 r7.1,N7 (lM l4 0) v6 (w (a3.aR+AL)) (w (a3.aO+1)) r7.1.first r7.1.bL r7.1.bf r7.1.bt r7.1.aw r7.1.aF r7.1.aN r7.1.fA r7.1.aI r7.1.bB r7.1.bx r7.1.c7 r7.1.aD r7.1.depth] [l4.length] ?_;refine PD.done [1,3] [0] (es:=[(10,E 0),(14,E 1)]) (fr':=[AK,N7 (lM l4 0) v6 (w (a3.aR+AL)) (w (a3.aO+1)) r7.1.first r7.1.bL r7.1.bf r7.1.bt r7.1.aw r7.1.aF r7.1.aN r7.1.fA r7.1.aI r7.1.bB r7.1.bx r7.1.c7 r7.1.aD r7.1.depth]) (tk':=[l4.length]) (by kernel_rfl) (by kernel_rfl) ?_;refine .region (qX 2 [0] [0] [(10,E 0)] [N7 (lM l4 0) v6 (w (a3.aR+AL)) (w (a3.aO+1)) r7.1.first r7.1.bL r7.1.bf r7.1.bt r7.1.aw r7.1.aF r7.1.aN r7.1.fA r7.1.aI r7.1.bB r7.1.bx r7.1.c7 r7.1.aD r7.1.depth] [l4.length] ?_);cases I;exact .cS (qf [] [])
def sq (k:Nat) (A:cg) (a1:cg):Nat->Int->Option ((Unit) ⊕ (Bool))
  | 0,_=>none
  | j6+1,v2=>
    bif decide (v2>=0) then(bp A.eX v2 λ y4=>
    bp a1.eX v2 λ y5=>
    bif y4 != y5 then(bp A.eX v2 λ y6=>
    bp a1.eX v2 λ y7=>
    some (.inr (decide (y6 < y7)))) else(sq k A a1 j6 (w (v2 - 1)))) else(some (.inl ()))
def KY (k:Nat) (A:cg) (a1:cg):Option Bool:=
bif A.bj != a1.bj then(some (decide (A.bj < a1.bj))) else(bif A.aR != a1.aR then(some (decide (A.aR < a1.aR))) else(bif A.aO != a1.aO then(some (decide (A.aO < a1.aO))) else(Option.bind (α:=(Unit) ⊕ (Bool)) (sq k A a1 k (w ((A.eX.length:Int) - 1))) (Sum.elim (λ(_:Unit)=>
some false) some))))
theorem Zo (k:Nat) (A:cg) (a1:cg) (r:Bool) (I:KY k A a1=some r):PF Try.prog fK 41 [.agg (de A),.agg (de a1)] [] [] (λ p fr tk=>p=vB r/\fr=[]/\tk=[]):=by
 unfold KY at I;refine qP Try.func41 ?_;refine .region (qX 3 [0,1] [] [(2,E 0),(3,E 1),(4,vB false)] [mq A,mq a1] [] ?_);refine qK 8 ?_;refine qD I (λ I=>?_) λ I=>?_
 ·refine qK 9 ?_;cases I;exact .ret (qf [] [])
 refine .aZ (qK 8 ?_);refine qD I (λ I=>?_) λ I=>?_
 ·refine qK 9 ?_;cases I;exact .ret (qf [] [])
 refine .aZ (qK 8 ?_);refine qD I (λ I=>?_) λ I=>?_
 ·refine qK 9 ?_;cases I;exact .ret (qf [] [])
 refine .aZ (qM 2 ?_);refine qS kF ?_;refine qN 2 ?_;refine aq I λ x4 e5 I=>PC.bQ (λ s=>bc s (PS.of 78 [(4,vB false)] [] [] 0 0)/\.inl ()=x4) ?_ ?_
 ·refine PC.loop (λ j6 s=>∃ (v2:Int),bc s (PS.of 78 [(2,E 0),(3,E 1),(4,vB false),(5,g v2)] [mq A,mq a1] [] 0 0)/\sq k A a1 j6 v2=some x4) (λ j6 s=>?_) k ⟨w ((A.eX.length:Int) - 1),qw [0,1] [],e5⟩;rintro⟨v2,w7,e5⟩;refine w7.c ?_;obtain _ | j6:=j6
  · rw[sq] at e5; cases e5
  rw[sq] at e5;refine qK 3 ?_;refine qD e5 (λ e5=>?_) λ e5=>?_
  ·refine .aZ (PC.block ?_);refine qo [0,1,2,3,4,5,6,7,8,9,10] ?_;refine qR 3 ?_;refine qI kF e5 λ y4 e5=>?_;refine qR 4 ?_;refine qI kF e5 λ y5 e5=>?_;refine qN 2 ?_;refine .lone (qD e5 (λ e5=>?_) λ e5=>?_)
   ·refine .eP (qo [0,1,2,3,4,5,6,7,8,9,10,11] ?_);refine qR 3 ?_;refine qI kF e5 λ y6 e5=>?_;refine qR 4 ?_;refine qI kF e5 λ y7 e5=>?_;refine qN 3 ?_;cases e5;cases I;exact .ret (bk.ct (bh.ret (aC.ct (qf [] []))))
   refine .aZ (PC.skip (bk.end ?_));refine .lone (qr 4 ?_);exact .skip (bh.mk (Nat.lt_succ_self _) ⟨w (v2 - 1),qw [0,1] [],e5⟩)
  exact .exit (bh.exit (aC.eF ⟨qw [] [],qs e5⟩))
 rintro _ ⟨FX,rfl⟩;refine FX.c ?_;have I:=fD I;refine qr 2 ?_;cases I;exact .cS (qf [] [])
def WK (k:Nat) (A:aH) (a1:Int):Option (Bool×aH):=
Option.bind (α:=Bool) (bif decide (a1 < 0) then(some true) else(some (decide (a1 > A.tv)))) λ(v1:Bool)=>
bif v1 then(some (false,A)) else(some (true,(aH.mk A.bz A.bZ A.done (w (A.tv - a1)) A.gF A.Bq)))
theorem L42 (k:Nat) (A:aH) (a1:Int) (r:Bool×aH) (I:WK k A a1=some r):PF Try.prog fK 42 [E 0,g a1] [R3 A] [] (λ p fr tk=>p=vB r.1/\fr=[R3 r.2]/\tk=[]):=by
 unfold WK at I;refine qP Try.func42 ?_;refine qr 2 ?_;refine qM 3 ?_;refine aq I λ x1 e2 I=>PO.cut 7 (cu (λ v1=>PS.of 24 [(0,E 0),(1,g a1),(4,vB false),(14,vB v1)] [R3 A] [] 1 0) x1) ?_ ?_
 ·refine qC 7 e2 (λ e2=>?_) λ e2=>?_
  ·exact qW 7 true [0] [] e2
  exact qW 7 (decide (a1 > A.tv)) [0] [] e2
 rintro _ ⟨v1,w4,rfl⟩;refine w4.on (qD I (λ I=>?_) λ I=>?_)
 ·refine qK 2 ?_;cases I;exact .ret (qf [0] [])
 refine .aZ (.region (qX 10 [0] [] [(4,vB false)] [QW A.bz A.bZ A.done (w (A.tv - a1)) A.gF A.Bq] [] ?_));refine qr 2 ?_;cases I;exact .cS (qf [0] [])
def oG (k:Nat) (a1:List au) (Z:Int) (a3:Int) (jl:List Int) (ig:Int) (oN:List cg):Nat->(List cg)->Int->Option (List cg)
  | 0,_,_=>none
  | U3+1,ya,oY=>
    bif decide (oY < (oN.length:Int)) then(Option.bind (α:=List cg) (bp oN oY λ Py=>
    bif !Py.gE then(some ya) else(bp oN oY λ Gq=>
    bp jl ig λ Jt=>
    (U2 k a1 Z a3 Gq Jt).bind λ nE=>
    bp ya nE.bN λ Gr=>
    Option.bind (α:=Bool) (bif !Gr.gE then(some true) else(bp ya nE.bN λ D9=>
    (KY k nE D9).bind λ SI=>
    some SI)) λ(lK:Bool)=>
    bif lK then(bp ya nE.bN λ Lj=>
    qa (List.set ya (Int.toNat nE.bN) nE) λ Bb=>
    some Bb) else(some ya))) λ(Ea:List cg)=>
    oG k a1 Z a3 jl ig oN U3 Ea (w (oY+1))) else(some ya)
def qe (k:Nat) (a1:List au) (Z:Int) (a3:Int) (jl:List Int) (fT:List (List cg)) (ig:Int) (wa:List Int):Nat->(List cg)->Int->aH->Option (((List cg)×aH) ⊕ (((List (List cg))×aH) ⊕ (((List (List cg))×aH) ⊕ ((List Int)×cD×cA×aH))))
  | 0,_,_,_=>none
  | U4+1,A1,rE,Q7=>
    bif decide (rE < (wa.length:Int)) then(Option.bind (α:=((List cg)×aH) ⊕ (((List cg)×aH) ⊕ (((List (List cg))×aH) ⊕ (((List (List cg))×aH) ⊕ ((List Int)×cD×cA×aH))))) ((WD k Q7 1).bind λ AM=>
    bif !AM.1 then((SG k AM.2).bind λ ij=>
    some (.inr (.inr (.inr (.inr ([],(cD.mk 0 0 0),(cA.mk ij.1 0),ij.2)))))) else(bp wa rE λ y92=>
    Option.bind (α:=List cg) (bif decide (y92>=0) then(bp wa rE λ y94=>
    bp fT y94 λ y95=>
    some y95) else(some ([(cg.mk true ([] : List Int) 0 0 0 (-1) 0 0 0 0 0 0 0 0 false false false 0 0)]))) λ(oN:List cg)=>
    Option.bind (α:=List cg) (oG k a1 Z a3 jl ig oN k A1 0) λ(nN:List cg)=>
    some (.inl (nN,AM.2)))) (Sum.elim (λ(IU,U5)=>
    qe k a1 Z a3 jl fT ig wa U4 IU (w (rE+1)) U5) some)) else(some (.inl (A1,Q7)))
def sr (k:Nat) (a1:List au) (Z:Int) (a3:Int) (jl:List Int):Nat->(List (List cg))->Int->aH->Option (((List (List cg))×aH) ⊕ ((List Int)×cD×cA×aH))
  | 0,_,_,_=>none
  | U6+1,fT,ig,yq=>
    bif decide (ig < (jl.length:Int)) then(Option.bind (α:=((List (List cg))×aH) ⊕ (((List (List cg))×aH) ⊕ ((List Int)×cD×cA×aH))) (rZ 4 152 ((WB k a1 jl ig).bind λ wa=>
    Option.bind (α:=((List cg)×aH) ⊕ (((List (List cg))×aH) ⊕ (((List (List cg))×aH) ⊕ ((List Int)×cD×cA×aH)))) (qe k a1 Z a3 jl fT ig wa k (List.replicate (Int.toNat 4) (cg.mk false ([]) 0 0 0 0 0 0 0 0 0 0 0 0 false false false 0 0)) 0 yq) (Sum.elim (λ(im,Q8)=>
    mw 24 fT ([im]) λ Tr=>
    some (.inl (Tr,Q8))) some))) (Sum.elim (λ(iR,rA)=>
    sr k a1 Z a3 jl U6 iR (w (ig+1)) rA) some)) else(some (.inl (fT,yq)))
def uh (k:Nat) (tW:List Int):Nat->Int->aH->Option ((aH) ⊕ ((List Int)×cD×cA×aH))
  | 0,_,_=>none
  | Ju+1,Cr,oU=>
    bif decide (Cr < (tW.length:Int)) then((UY k oU 1).bind λ Gs=>
    bif !Gs.1 then((SG k Gs.2).bind λ Lk=>
    some (.inr ([],(cD.mk 0 0 0),(cA.mk Lk.1 0),Lk.2))) else(uh k tW Ju (w (Cr+1)) Gs.2)) else(some (.inl oU))
def WL (k:Nat) (A:aH) (a1:List au) (Z:Int) (a3:Int):Option ((List Int)×cD×cA×aH):=
(SE k a1).bind λ r1=>
Option.bind (α:=Bool) (bif r1 != 0 then(some true) else(Option.bind (α:=Bool) (bif decide (Z < 1) then(some true) else(Option.bind (α:=Bool) (bif decide (Z > 536870912) then(some true) else(Option.bind (α:=Bool) (bif decide (a3 < 0) then(some true) else(some (decide (a3 > 10000)))) λ(v4:Bool)=>
some v4)) λ(v3:Bool)=>
some v3)) λ(v2:Bool)=>
some v2)) λ(v1:Bool)=>
bif v1 then(some ([],(cD.mk 0 0 0),(cA.mk 1 0),A)) else((UX k a1).bind λ jl=>
bif decide ((jl.length:Int) > 1024) then(bp a1 0 λ y5=>
some ([],(cD.mk 0 0 0),(cA.mk 150 y5.bM),A)) else(bif (jl.length:Int) == 0 then(some ([],(cD.mk 0 0 0),(cA.mk 0 0),A)) else((UY k A (w (4 * (jl.length:Int)))).bind λ Ce=>
bif !Ce.1 then((SG k Ce.2).bind λ DE=>
some ([],(cD.mk 0 0 0),(cA.mk DE.1 0),DE.2)) else(Option.bind (α:=((List (List cg))×aH) ⊕ ((List Int)×cD×cA×aH)) (sr k a1 Z a3 jl k ([] : List (List cg)) 0 Ce.2) (Sum.elim (λ(v6,hH)=>
(WK k hH (w (4 * (jl.length:Int)))).bind λ eO=>
bp v6 (w ((jl.length:Int) - 1)) λ dg=>
Option.bind (α:=Bool×(List Int)×Int×Int×Int×Int×Int×Int×Int×Int×Int×Int×Int×Int×Bool×Bool×Bool×Int×Int) (Option.bind (α:=Bool×(List Int)×Int×Int×Int×Int×Int×Int×Int×Int×Int×Int×Int×Int×Bool×Bool×Bool×Int×Int) (bp dg 0 λ Ll=>
Option.bind (α:=Bool) (bif Ll.gE then(some true) else(some false)) λ(Jv:Bool)=>
bif Jv then(bp dg 0 λ dO=>
some (dO.gE,dO.eX,dO.bj,dO.aR,dO.aO,dO.eo,dO.fh,dO.er,dO.dj,dO.dk,dO.dH,dO.eu,dO.gn,dO.bN,dO.fi,dO.dI,dO.gp,dO.dJ,dO.ey)) else(some (false,[],0,0,0,0,0,0,0,0,0,0,0,0,false,false,false,0,0))) λ(oz,kH,kI,kJ,kK,kL,eN,pL,j9,iB,pM,pN,pO,pP,pQ,pR,pS,pT,pU)=>
Option.bind (α:=cg) (bp dg 1 λ Lm=>
Option.bind (α:=Bool) (bif Lm.gE then(Option.bind (α:=Bool) (bif !oz then(some true) else(bp dg 1 λ Jw=>
(KY k Jw (cg.mk oz kH kI kJ kK kL eN pL j9 iB pM pN pO pP pQ pR pS pT pU)).bind λ Ln=>
some Ln)) λ(Gt:Bool)=>
some Gt) else(some false)) λ(Jx:Bool)=>
bif Jx then(bp dg 1 λ Jy=>
some Jy) else(some (cg.mk oz kH kI kJ kK kL eN pL j9 iB pM pN pO pP pQ pR pS pT pU))) λ(oA:cg)=>
Option.bind (α:=cg) (bp dg 2 λ Ts=>
Option.bind (α:=Bool) (bif Ts.gE then(Option.bind (α:=Bool) (bif !oA.gE then(some true) else(bp dg 2 λ Pz=>
(KY k Pz oA).bind λ Tt=>
some Tt)) λ(Lo:Bool)=>
some Lo) else(some false)) λ(PA:Bool)=>
bif PA then(bp dg 2 λ PE=>
some PE) else(some oA)) λ(oB:cg)=>
Option.bind (α:=cg) (bp dg 3 λ Tu=>
Option.bind (α:=Bool) (bif Tu.gE then(Option.bind (α:=Bool) (bif !oB.gE then(some true) else(bp dg 3 λ PG=>
(KY k PG oB).bind λ Tv=>
some Tv)) λ(Lp:Bool)=>
some Lp) else(some false)) λ(PH:Bool)=>
bif PH then(bp dg 3 λ PI=>
some PI) else(some oB)) λ(fH:cg)=>
some (fH.gE,fH.eX,fH.bj,fH.aR,fH.aO,fH.eo,fH.fh,fH.er,fH.dj,fH.dk,fH.dH,fH.eu,fH.gn,fH.bN,fH.fi,fH.dI,fH.gp,fH.dJ,fH.ey)) λ(Eb,tW,Bc,fq,jH,kb,lL,lO,lP,lQ,lR,kZ,Ec,Ed,Ee,Ef,Eg,Eh,Ei)=>
Option.bind (α:=(aH) ⊕ ((List Int)×cD×cA×aH)) (uh k tW k 0 eO.2) (Sum.elim (λ(Jz:aH)=>
some (tW,(cD.mk Bc fq jH),(cA.mk 0 0),Jz)) some)) some)))))
theorem L12 (k:Nat) (A:aH) (a1:List au) (Z:Int) (a3:Int) (r:(List Int)×cD×cA×aH) (I:WL k A a1 Z a3=some r):PF Try.prog fK 12 [E 0,lI a1,g Z,g a3] [R3 A] [] (λ p fr tk=>p=.fX [lN r.1,.agg (sf r.2.1),.agg (yH r.2.2.1)]/\fr=[R3 r.2.2.2]/\tk=[]):=by
 unfold WL at I;refine qP Try.func12 ?_;refine .region (qX 3 [0,1,2] [] [(0,E 0),(1,lI a1),(2,g Z),(3,g a3),(8,v0),(9,E 1),(10,E 2)] [R3 A,R1,R2] [] ?_);refine qM 1 ?_;refine aq I λ r1 e2 I=>qG [] [] (L34 k a1 _ e2) trivial ?_;refine qR 2 ?_;refine aq I λ x3 e4 I=>PO.cut 15 (cu (λ v1=>PS.of 220 [(0,E 0),(1,lI a1),(2,g Z),(3,g a3),(8,v0),(9,E 1),(10,E 2),(44,vB v1)] [R3 A,R1,R2] [] 1 0) x3) ?_ ?_
 ·refine qC 29 e4 (λ e4=>?_) λ e4=>?_
  ·exact qW 15 true [0,1,2] [] e4
  refine qR 4 ?_;refine aq e4 λ x6 e7 e4=>PO.cut 11 (cu (λ v2=>PS.of 220 [(0,E 0),(1,lI a1),(2,g Z),(3,g a3),(8,v0),(9,E 1),(10,E 2),(44,vB v2)] [R3 A,R1,R2] [] 1 0) x6) ?_ ?_
  ·refine qC 33 e7 (λ e7=>?_) λ e7=>?_
   ·exact qW 11 true [0,1,2] [] e7
   refine qR 4 ?_;refine aq e7 λ x9 jf e7=>PO.cut 7 (cu (λ v3=>PS.of 220 [(0,E 0),(1,lI a1),(2,g Z),(3,g a3),(8,v0),(9,E 1),(10,E 2),(44,vB v3)] [R3 A,R1,R2] [] 1 0) x9) ?_ ?_
   ·refine qC 37 jf (λ jf=>?_) λ jf=>?_
    ·exact qW 7 true [0,1,2] [] jf
    refine qR 4 ?_;refine aq jf λ DN lz jf=>PO.cut 3 (cu (λ v4=>PS.of 220 [(0,E 0),(1,lI a1),(2,g Z),(3,g a3),(8,v0),(9,E 1),(10,E 2),(44,vB v4)] [R3 A,R1,R2] [] 1 0) DN) ?_ ?_
    ·refine qC 41 lz (λ lz=>?_) λ lz=>?_
     ·exact qW 3 true [0,1,2] [] lz
     exact qW 3 (decide (a3 > 10000)) [0,1,2] [] lz
    rintro _ ⟨v4,KV,rfl⟩;refine KV.on ?_;exact⟨v4,qw [0,1,2] [],qs jf⟩
   rintro _ ⟨v3,Ca,rfl⟩;refine Ca.on ?_;exact⟨v3,qw [0,1,2] [],qs e7⟩
  rintro _ ⟨v2,w17,rfl⟩;refine w17.on ?_;exact⟨v2,qw [0,1,2] [],qs e4⟩
 rintro _ ⟨v1,FX,rfl⟩;refine FX.on (qD I (λ I=>?_) λ I=>?_)
 ·refine qJ ?_;refine qX 5 [0,1,2] [] [(8,v0),(9,E 1),(10,E 2)] [R3 A,R1,⟨0,[g 1,g 0]⟩] [] ?_;cases I;exact .ret (oZ [0] [] (by kernel_rfl) (gX.Jd (aT.cons (.nil 1) (aT.refl _))) ⟨rfl,rfl,rfl⟩)
 refine .aZ (qL 1 ?_);refine aq I λ jl Wr I=>qG [] [] (L35 k a1 _ Wr) trivial ?_;refine qN 1 ?_;refine qM 1 ?_;refine qS kF ?_;refine qN 1 ?_;refine qD I (λ I=>?_) λ I=>?_
 ·refine .eP (PC.pK [0,6,7,1,2,3,4,5,8] (by kernel_rfl) ?_);refine qd 3 [1,2,3,4,5,8] ⟨193,193,65,[(7,[1],false)]⟩ [(1,lI a1),(8,v0),(9,E 1),(10,E 2)] [R3 A,R1,R2] [] ?_;refine qd 1 [2,3,4,5,8] ⟨195,193,65,[(7,[1],false)]⟩ [(8,v0),(9,E 1),(10,E 2),(53,lI a1)] [R3 A,R1,R2] [] ?_;refine oE I λ y5 Wg h24 I=>PD.tD rfl (by kernel_rfl) rfl (iY gM rfl rfl rfl Wg (nj h24)) rfl ?_;refine qd 4 [] ⟨511,511,255,[(8,[2],false),(7,[2,1],false)]⟩ [(8,v0),(9,E 1),(10,E 2)] [R3 A,R1,⟨0,[g 150,g y5.bM]⟩] [] ?_;refine PD.done [0,1,2] [] (es:=[(8,v0),(9,E 1),(10,E 2)]) (fr':=[R3 A,R1,⟨0,[g 150,g y5.bM]⟩]) (tk':=[]) (by kernel_rfl) (by kernel_rfl) ?_;cases I;exact .ret (oZ [0] [] (by kernel_rfl) (gX.Jd (aT.cons (.nil 1) (aT.refl _))) ⟨rfl,rfl,rfl⟩)
 refine .aZ (qM 1 ?_);refine qS kF ?_;refine qN 1 ?_;refine qD I (λ I=>?_) λ I=>?_
 ·refine qJ ?_;refine qX 5 [0,1,2] [] [(8,v0),(9,E 1),(10,E 2)] [R3 A,R1,R2] [] ?_;cases I;exact .ret (oZ [0] [] (by kernel_rfl) (gX.Jd (aT.cons (.nil 1) (aT.refl _))) ⟨rfl,rfl,rfl⟩)
 refine .aZ (qM 2 ?_);refine qS kF ?_;refine qR 1 ?_;refine aq I λ Ce uS I=>qG [0] [] (L36 k A (w (4 * (jl.length:Int))) _ uS) ⟨⟨_,rfl,rfl,rfl⟩,trivial⟩ ?_;refine qN 1 ?_;refine qD I (λ I=>?_) λ I=>?_
 ·refine qJ ?_;refine qk 2 [0,1,2] [] [(8,v0),(9,E 1),(10,E 2),(69,.agg [g 0,g 0,g 0]),(70,E 0)] [R3 Ce.2,R1,R2] [] ?_;refine aq I λ DE xY I=>qG [0] [] (Zk k Ce.2 _ xY) ⟨⟨_,rfl,rfl,rfl⟩,trivial⟩ ?_;refine qX 4 [0,1,2] [] [(8,v0),(9,E 1),(10,E 2)] [R3 DE.2,R1,⟨0,[g DE.1,g 0]⟩] [] ?_;cases I;exact .ret (oZ [0] [] (by kernel_rfl) (gX.Jd (aT.cons (.nil 1) (aT.refl _))) ⟨rfl,rfl,rfl⟩)
 refine .aZ (.region (qX 4 [0,1,2,3] [] [(0,E 0),(1,lI a1),(2,g Z),(3,g a3),(8,v0),(9,E 1),(10,E 2),(11,lN jl),(12,E 3)] [R3 Ce.2,R1,R2,xn] [] ?_));refine .region (qX 2 [0,1,2,3] [0] [(0,E 0),(1,lI a1),(2,g Z),(3,g a3),(8,v0),(9,E 1),(10,E 2),(11,lN jl),(12,E 3),(13,.aS 1 (List.map dp ([] : List (List cg))) (some 0))] [R3 Ce.2,R1,R2,xn] [0] ?_);refine qK 2 ?_;refine aq I λ x31 Ga I=>PC.bQ (λ s=>∃ (v6:List (List cg)) (hH:aH),bc s (PS.of 220 [(0,E 0),(8,v0),(9,E 1),(10,E 2),(11,lN jl),(13,.aS 1 (List.map dp v6) (some 0))] [R3 hH,R1,R2] [v6.length] 1 0)/\.inl (v6,hH)=x31) ?_ ?_
 ·refine PC.loop (λ U6 s=>∃ (fT:List (List cg)) (ig:Int) (yq:aH),bc s (PS.of 220 [(0,E 0),(1,lI a1),(2,g Z),(3,g a3),(8,v0),(9,E 1),(10,E 2),(11,lN jl),(12,E 3),(13,.aS 1 (List.map dp fT) (some 0)),(14,g ig)] [R3 yq,R1,R2,xn] [fT.length] 1 0)/\sr k a1 Z a3 jl U6 fT ig yq=some x31) (λ U6 s=>?_) k ⟨([] : List (List cg)),0,Ce.2,qw [0,1,2,3] [0],Ga⟩;rintro⟨fT,ig,yq,Sm,Ga⟩;refine Sm.c ?_;obtain _ | U6:=U6
  · rw[sr] at Ga; cases Ga
  rw[sr] at Ga;refine qM 2 ?_;refine qS kF ?_;refine qN 1 ?_;refine qD Ga (λ Ga=>?_) λ Ga=>?_
  ·refine .aZ (aq Ga λ Wc tN Ga=>PC.bQ (λ s=>∃ (iR:List (List cg)) (rA:aH),bc s (PS.of 220 [(0,E 0),(1,lI a1),(2,g Z),(3,g a3),(8,v0),(9,E 1),(10,E 2),(11,lN jl),(12,E 3),(13,.aS 1 (List.map dp iR) (some 0)),(14,g ig)] [R3 rA,R1,R2,xn] [iR.length] 1 0)/\.inl (iR,rA)=Wc) ?_ ?_)
   ·refine .region (C5 tN λ h38 h39 UH tN=>PO.one rfl (E2 (c:=de) (z:=(cg.mk false ([]) 0 0 0 0 0 0 0 0 0 0 0 0 false false false 0 0)) Dx rfl rfl rfl (.val rfl (.lst (.val rfl (.val rfl (.val rfl (.val rfl (.val rfl (.val rfl (.val rfl (.val rfl (.val rfl (.val rfl (.val rfl (.val rfl (.val rfl (.val rfl (.val rfl (.val rfl (.val rfl .nil))))))))))))))))))) rfl rfl rfl h38 h39 UH) rfl ?_);refine qN 1 ?_;refine qL 3 ?_;refine aq tN λ wa rh tN=>qG [] [] (L38 k a1 jl ig _ rh) trivial ?_;refine qN 1 ?_;refine qK 2 ?_;refine aq tN λ x43 B9 tN=>PC.bQ (λ s=>∃ (im:List cg) (Q8:aH),bc s (PS.of 220 [(0,E 0),(1,lI a1),(2,g Z),(3,g a3),(8,v0),(9,E 1),(10,E 2),(11,lN jl),(12,E 3),(13,.aS 1 (List.map dp fT) (some 0)),(14,g ig),(15,.aW 19 (List.map de im) 1)] [R3 Q8,R1,R2,xn] [fT.length,0] 1 0)/\.inl (im,Q8)=x43) ?_ ?_
    ·refine PC.loop (λ U4 s=>∃ (A1:List cg) (rE:Int) (Q7:aH),bc s (PS.of 220 [(0,E 0),(1,lI a1),(2,g Z),(3,g a3),(8,v0),(9,E 1),(10,E 2),(11,lN jl),(12,E 3),(13,.aS 1 (List.map dp fT) (some 0)),(14,g ig),(15,.aW 19 (List.map de A1) 1),(16,lN wa),(17,g rE)] [R3 Q7,R1,R2,xn] [fT.length,0] 1 0)/\qe k a1 Z a3 jl fT ig wa U4 A1 rE Q7=some x43) (λ U4 s=>?_) k ⟨List.replicate (Int.toNat 4) (cg.mk false ([]) 0 0 0 0 0 0 0 0 0 0 0 0 false false false 0 0),0,yq,qw [0,1,2,3] [0,1],B9⟩;rintro⟨A1,rE,Q7,Sl,B9⟩;refine Sl.c ?_;obtain _ | U4:=U4
     · rw[qe] at B9; cases B9
     rw[qe] at B9;refine qM 2 ?_;refine qS kF ?_;refine qN 1 ?_;refine qD B9 (λ B9=>?_) λ B9=>?_
     ·refine .aZ (aq B9 λ Ze rB B9=>PC.bQ (λ s=>∃ (IU:List cg) (U5:aH),bc s (PS.of 220 [(0,E 0),(1,lI a1),(2,g Z),(3,g a3),(8,v0),(9,E 1),(10,E 2),(11,lN jl),(12,E 3),(13,.aS 1 (List.map dp fT) (some 0)),(14,g ig),(15,.aW 19 (List.map de IU) 1),(16,lN wa),(17,g rE)] [R3 U5,R1,R2,xn] [fT.length,0] 1 0)/\.inl (IU,U5)=Ze) ?_ ?_)
      ·refine qM 1 ?_;refine aq rB λ AM OV rB=>qG [0] [] (L39 k Q7 1 _ OV) ⟨⟨_,rfl,rfl,rfl⟩,trivial⟩ ?_;refine qN 1 ?_;refine qD rB (λ rB=>?_) λ rB=>?_
       ·refine qJ ?_;refine qk 2 [0,1,2,3] [0,1] [(0,E 0),(1,lI a1),(2,g Z),(3,g a3),(8,v0),(9,E 1),(10,E 2),(11,lN jl),(12,E 3),(13,.aS 1 (List.map dp fT) (some 0)),(14,g ig),(15,.aW 19 (List.map de A1) 1),(16,lN wa),(17,g rE),(96,.agg [g 0,g 0,g 0]),(97,E 0)] [R3 AM.2,R1,R2,xn] [fT.length,0] ?_;refine aq rB λ ij tO rB=>qG [0] [] (Zk k AM.2 _ tO) ⟨⟨_,rfl,rfl,rfl⟩,trivial⟩ ?_;refine qX 4 [0,1,2,3] [0,1] [(0,E 0),(1,lI a1),(2,g Z),(3,g a3),(8,v0),(9,E 1),(10,E 2),(11,lN jl),(12,E 3),(13,.aS 1 (List.map dp fT) (some 0)),(14,g ig),(15,.aW 19 (List.map de A1) 1),(16,lN wa),(17,g rE)] [R3 ij.2,R1,⟨0,[g ij.1,g 0]⟩,xn] [fT.length,0] ?_;cases rB;cases B9;cases tN;cases Ga;cases I;exact .ret (aC.ct (bh.ret (aC.ct (aC.ct (bh.ret (aC.ct (oZ [0] [] (by kernel_rfl) (gX.Jd (aT.cons (.nil 1) (aT.refl _))) ⟨rfl,rfl,rfl⟩)))))))
       refine .aZ (qL 1 ?_);refine PO.gb (s':=PS.of 220 [(0,E 0),(1,lI a1),(2,g Z),(3,g a3),(8,v0),(9,E 1),(10,E 2),(11,lN jl),(12,E 3),(13,.aS 1 (List.map dp fT) (some 0)),(14,g ig),(15,.aW 19 (List.map de A1) 1),(16,lN wa),(17,g rE),(100,.agg [vB true,.aS 1 (List.map br ([] : List Int)) none,g 0,g 0,g 0,g (-1),g 0,g 0,g 0,g 0,g 0,g 0,g 0,g 0,vB false,vB false,vB false,g 0,g 0])] [R3 AM.2,R1,R2,xn] [fT.length,0] 1 0) (qm [0,1,2,3] [0,1] 0 aA.z.c.c.c.c (aG.c (aG.c (aG.c (aG.c (aG.c (aG.c (aG.c (aG.c (aG.c (aG.c (aG.c (aG.c (aG.c (aG.c ⟨⟨_,_,rfl,rfl,gX.acj (aT.cons (.refl _) (aT.cons (.nil 1) (aT.refl _)))⟩,aG.z⟩))))))))))))))) ?_;refine qX 2 [0,1,2,3] [0,1,2] [(0,E 0),(1,lI a1),(2,g Z),(3,g a3),(8,v0),(9,E 1),(10,E 2),(11,lN jl),(12,E 3),(13,.aS 1 (List.map dp fT) (some 0)),(14,g ig),(15,.aW 19 (List.map de A1) 1),(16,lN wa),(17,g rE),(18,.aS 19 (List.map de ([(cg.mk true ([] : List Int) 0 0 0 (-1) 0 0 0 0 0 0 0 0 false false false 0 0)])) (some 2))] [R3 AM.2,R1,R2,xn] [fT.length,0,1] ?_;refine qM 2 ?_;refine qI kF rB λ y92 rB=>?_;refine qN 2 ?_;refine aq rB λ V8 xW rB=>PC.mh (λ s=>∃ (oN:List cg),bc s (PS.of 220 [(0,E 0),(1,lI a1),(2,g Z),(3,g a3),(8,v0),(9,E 1),(10,E 2),(11,lN jl),(12,E 3),(13,.aS 1 (List.map dp fT) (some 0)),(14,g ig),(15,.aW 19 (List.map de A1) 1),(16,lN wa),(17,g rE),(18,lW oN)] [R3 AM.2,R1,R2,xn] [fT.length,0] 1 0)/\oN=V8) ?_ ?_
       ·refine qD xW (λ xW=>?_) λ xW=>?_
        ·refine qL 3 ?_;refine qI kF xW λ y94 xW=>?_;refine qk 1 [0,1,2,3] [0,1,2] [(0,E 0),(1,lI a1),(2,g Z),(3,g a3),(8,v0),(9,E 1),(10,E 2),(11,lN jl),(12,E 3),(13,.aS 1 (List.map dp fT) (some 0)),(14,g ig),(15,.aW 19 (List.map de A1) 1),(16,lN wa),(17,g rE),(18,.aS 19 (List.map de ([(cg.mk true ([] : List Int) 0 0 0 (-1) 0 0 0 0 0 0 0 0 false false false 0 0)])) (some 2)),(107,.aS 1 (List.map dp fT) (some 0)),(111,g y94)] [R3 AM.2,R1,R2,xn] [fT.length,0,1] ?_;refine qI Try.underlying84 xW λ y95 xW=>?_;refine qN 2 ?_;exact .skip (bR.end ⟨y95,qw [0,1,2,3] [0,1],qs xW⟩)
        exact .aZ (PC.skip (bR.end ⟨[(cg.mk true ([] : List Int) 0 0 0 (-1) 0 0 0 0 0 0 0 0 false false false 0 0)],qw [0,1,2,3] [0,1],qs xW⟩))
       rintro _ ⟨oN,w64,rfl⟩;refine w64.c (qr 2 ?_);refine .lone (aq rB λ UQ sL rB=>PC.bQ (λ s=>∃ (nN:List cg),bc s (PS.of 220 [(0,E 0),(1,lI a1),(2,g Z),(3,g a3),(8,v0),(9,E 1),(10,E 2),(11,lN jl),(12,E 3),(13,.aS 1 (List.map dp fT) (some 0)),(14,g ig),(15,.aW 19 (List.map de nN) 1),(16,lN wa),(17,g rE)] [R3 AM.2,R1,R2,xn] [fT.length,0] 1 0)/\nN=UQ) ?_ ?_)
       ·refine PC.loop (λ U3 s=>∃ (ya:List cg) (oY:Int),bc s (PS.of 220 [(0,E 0),(1,lI a1),(2,g Z),(3,g a3),(8,v0),(9,E 1),(10,E 2),(11,lN jl),(12,E 3),(13,.aS 1 (List.map dp fT) (some 0)),(14,g ig),(15,.aW 19 (List.map de ya) 1),(16,lN wa),(17,g rE),(18,lW oN),(19,g oY)] [R3 AM.2,R1,R2,xn] [fT.length,0] 1 0)/\oG k a1 Z a3 jl ig oN U3 ya oY=some UQ) (λ U3 s=>?_) k ⟨A1,0,qw [0,1,2,3] [0,1],sL⟩;rintro⟨ya,oY,w68,sL⟩;refine w68.c ?_;obtain _ | U3:=U3
        · rw[oG] at sL; cases sL
        rw[oG] at sL;refine qM 2 ?_;refine qS Dx ?_;refine qN 1 ?_;refine qD sL (λ sL=>?_) λ sL=>?_
        ·refine .aZ (aq sL λ Q6 tf sL=>PC.bQ (λ s=>∃ (Ea:List cg),bc s (PS.of 220 [(0,E 0),(1,lI a1),(2,g Z),(3,g a3),(8,v0),(9,E 1),(10,E 2),(11,lN jl),(12,E 3),(13,.aS 1 (List.map dp fT) (some 0)),(14,g ig),(15,.aW 19 (List.map de Ea) 1),(16,lN wa),(17,g rE),(18,lW oN),(19,g oY)] [R3 AM.2,R1,R2,xn] [fT.length,0] 1 0)/\Ea=Q6) ?_ ?_)
         ·refine qM 2 ?_;refine qI Dx tf λ Py tf=>?_;refine qN 3 ?_;refine qD tf (λ tf=>?_) λ tf=>?_
          ·exact .exit (aC.eF ⟨ya,qw [0,1,2,3] [0,1],qs tf⟩)
          refine .aZ (PC.pK [0,1,2,3,4,5,6,7,8,9,10,11,12,13] (by kernel_rfl) ?_);refine qd 5 [5,6,7,8,9,10,11,12,13] ⟨31,0,0,[]⟩ [(0,E 0),(1,lI a1),(2,g Z),(3,g a3),(8,v0),(9,E 1),(10,E 2),(11,lN jl),(12,E 3),(13,.aS 1 (List.map dp fT) (some 0)),(14,g ig),(15,.aW 19 (List.map de ya) 1),(16,lN wa),(17,g rE),(18,lW oN),(19,g oY),(126,lI a1),(127,g Z),(128,g a3),(129,lW oN),(130,g oY)] [R3 AM.2,R1,R2,xn] [fT.length,0] ?_;refine oE tf λ Gq h75 h76 tf=>PD.tD rfl (by kernel_rfl) rfl (iY Dx rfl rfl rfl h75 (nj h76)) rfl ?_;refine qd 3 [9,10,11,12,13] ⟨511,0,0,[]⟩ [(0,E 0),(1,lI a1),(2,g Z),(3,g a3),(8,v0),(9,E 1),(10,E 2),(11,lN jl),(12,E 3),(13,.aS 1 (List.map dp fT) (some 0)),(14,g ig),(15,.aW 19 (List.map de ya) 1),(16,lN wa),(17,g rE),(18,lW oN),(19,g oY),(126,lI a1),(127,g Z),(128,g a3),(132,.agg (de Gq)),(133,lN jl),(134,g ig)] [R3 AM.2,R1,R2,xn] [fT.length,0] ?_;refine oE tf λ Jt h77 h78 tf=>PD.tD rfl (by kernel_rfl) rfl (iY kF rfl rfl rfl h77 (nj h78)) rfl ?_;refine qd 1 [11,12,13] ⟨2047,0,0,[]⟩ [(0,E 0),(1,lI a1),(2,g Z),(3,g a3),(8,v0),(9,E 1),(10,E 2),(11,lN jl),(12,E 3),(13,.aS 1 (List.map dp fT) (some 0)),(14,g ig),(15,.aW 19 (List.map de ya) 1),(16,lN wa),(17,g rE),(18,lW oN),(19,g oY),(126,lI a1),(127,g Z),(128,g a3),(132,.agg (de Gq)),(136,g Jt)] [R3 AM.2,R1,R2,xn] [fT.length,0] ?_;refine aq tf λ nE e80 tf=>?_;refine PD.call rfl rfl (by kernel_rfl) rfl rfl rfl (ks:=[]) (ts:=[]) (fr1:=[]) rfl rfl rfl trivial (L40 k a1 Z a3 Gq Jt _ e80) ?_;rintro _ _ _ ⟨rfl,rfl,rfl⟩;refine⟨_,_,rfl,rfl,?_⟩;refine qd 2 [] ⟨16383,16383,8191,[(13,[4],false),(11,[4],true)]⟩ [(0,E 0),(1,lI a1),(2,g Z),(3,g a3),(8,v0),(9,E 1),(10,E 2),(11,lN jl),(12,E 3),(13,.aS 1 (List.map dp fT) (some 0)),(14,g ig),(15,.aW 19 (List.map de ya) 1),(16,lN wa),(17,g rE),(18,lW oN),(19,g oY),(20,E 4)] [R3 AM.2,R1,R2,xn,mq nE] [fT.length,0] ?_;refine PD.done [0,1,2,3,4] [0,1] (es:=[(0,E 0),(1,lI a1),(2,g Z),(3,g a3),(8,v0),(9,E 1),(10,E 2),(11,lN jl),(12,E 3),(13,.aS 1 (List.map dp fT) (some 0)),(14,g ig),(15,.aW 19 (List.map de ya) 1),(16,lN wa),(17,g rE),(18,lW oN),(19,g oY),(20,E 4)]) (fr':=[R3 AM.2,R1,R2,xn,mq nE]) (tk':=[fT.length,0]) (by kernel_rfl) (by kernel_rfl) ?_;refine qr 5 ?_;refine qo [0,1,2,3,4,5,6,7,8,9,10,11,12,13] ?_;refine qR 2 ?_;refine oE tf λ Gr h81 h82 tf=>PO.aX rfl (pE Dx rfl rfl rfl h81 (nj h82)) rfl ?_;refine PO.aX rfl (B0 Try.underlying83 rfl rfl rfl rfl) rfl ?_;refine PO.aX rfl (E1 (q:=vB Gr.gE) rfl h82 (by kernel_rfl)) rfl ?_;refine qR 2 ?_;refine aq tf λ x83 Cd tf=>PO.cut 7 (cu (λ lK=>PS.of 220 [(0,E 0),(1,lI a1),(2,g Z),(3,g a3),(8,v0),(9,E 1),(10,E 2),(11,lN jl),(12,E 3),(13,.aS 1 (List.map dp fT) (some 0)),(14,g ig),(15,.aW 19 (List.map de ya) 1),(16,lN wa),(17,g rE),(18,lW oN),(19,g oY),(20,E 4),(21,g nE.bN),(154,vB lK)] [R3 AM.2,R1,R2,xn,mq nE] [fT.length,0] 1 0) x83) ?_ ?_
          ·refine qC 147 Cd (λ Cd=>?_) λ Cd=>?_
           ·exact qW 7 true [0,1,2,3,4] [0,1] Cd
           refine qR 3 ?_;refine oE Cd λ D9 h86 Zf Cd=>PO.aX rfl (pE Dx rfl rfl rfl h86 (nj Zf)) rfl ?_;refine qk 0 [0,1,2,3,4] [0,1] [(0,E 0),(1,lI a1),(2,g Z),(3,g a3),(8,v0),(9,E 1),(10,E 2),(11,lN jl),(12,E 3),(13,.aS 1 (List.map dp fT) (some 0)),(14,g ig),(15,.aW 19 (List.map de ya) 1),(16,lN wa),(17,g rE),(18,lW oN),(19,g oY),(20,E 4),(21,g nE.bN),(147,vB false),(148,.agg (de nE)),(151,.gW 19 (List.map de ya) 1 (Int.toNat nE.bN) 0)] [R3 AM.2,R1,R2,xn,mq nE] [fT.length,0] ?_;refine PO.aX rfl (E1 (q:=.agg (de D9)) rfl Zf (by kernel_rfl)) rfl ?_;refine aq Cd λ SI OW Cd=>qG [] [] (Zo k nE D9 _ OW) trivial ?_;exact qW 1 SI [0,1,2,3,4] [0,1] Cd
          rintro _ ⟨lK,w90,rfl⟩;refine w90.on (.lone (qD tf (λ tf=>?_) λ tf=>?_))
          ·refine qL 3 ?_;refine oE tf λ Lj h92 Zp tf=>PO.aX rfl (pE Dx rfl rfl rfl h92 (nj Zp)) rfl ?_;refine PO.gb (s':=PS.of 220 [(0,E 0),(1,lI a1),(2,g Z),(3,g a3),(8,v0),(9,E 1),(10,E 2),(11,lN jl),(12,E 3),(13,.aS 1 (List.map dp fT) (some 0)),(14,g ig),(15,.aW 19 (List.map de ya) 1),(16,lN wa),(17,g rE),(18,lW oN),(19,g oY),(157,.agg (de nE)),(158,.gW 19 (List.map de ya) 1 (Int.toNat nE.bN) 0)] [R3 AM.2,R1,R2,xn] [fT.length,0] 1 0) (qw [0,1,2,3] [0,1]) ?_;refine yE tf λ Bb Zq tf=>?_;refine PO.GO (c:=de) (L:=ya) (z:=Lj) (z':=nE) (q:=.agg (de nE)) (ps:=[vB nE.gE,.aS 1 (List.map br nE.eX) none,g nE.bj,g nE.aR,g nE.aO,g nE.eo,g nE.fh,g nE.er,g nE.dj,g nE.dk,g nE.dH,g nE.eu,g nE.gn,g nE.bN,vB nE.fi,vB nE.dI,vB nE.gp,g nE.dJ,g nE.ey]) [(0,E 0),(1,lI a1),(2,g Z),(3,g a3),(8,v0),(9,E 1),(10,E 2),(11,lN jl),(12,E 3),(13,.aS 1 (List.map dp fT) (some 0)),(14,g ig),(15,.aW 19 (List.map de Bb) 1),(16,lN wa),(17,g rE),(18,lW oN),(19,g oY)] rfl rfl Zp (by kernel_rfl) (by kernel_rfl) (by kernel_rfl) rfl rfl (by kernel_rfl) Zq rfl rfl rfl (by kernel_rfl) (cc (qO trivial (by kernel_rfl) (by kernel_rfl)) (cc (qO trivial (by kernel_rfl) (by kernel_rfl)) (cc (qO trivial (by kernel_rfl) (by kernel_rfl)) (cc (qO trivial (by kernel_rfl) (by kernel_rfl)) (cc (qO trivial (by kernel_rfl) (by kernel_rfl)) (cc (qO trivial (by kernel_rfl) (by kernel_rfl)) (cc (qO trivial (by kernel_rfl) (by kernel_rfl)) (cc (qO trivial (by kernel_rfl) (by kernel_rfl)) (cc (qO trivial (by kernel_rfl) (by kernel_rfl)) (cc (qO trivial (by kernel_rfl) (by kernel_rfl)) (cc (qO trivial (by kernel_rfl) (by kernel_rfl)) (cc (Y2 trivial rfl) (cc (qO trivial (by kernel_rfl) (by kernel_rfl)) (cc (qO trivial (by kernel_rfl) (by kernel_rfl)) (cc (qO trivial (by kernel_rfl) (by kernel_rfl)) (cc (qO trivial (by kernel_rfl) (by kernel_rfl)) tU)))))))))))))))) ?_;exact .nil (PC.skip (aC.end ⟨Bb,qw [0,1,2,3] [0,1],qs tf⟩))
          exact .aZ (PC.skip (aC.end ⟨ya,qw [0,1,2,3] [0,1],qs tf⟩))
         rintro _ ⟨Ea,w95,rfl⟩;refine w95.c (.lone (qr 4 ?_));exact .skip (bh.mk (Nat.lt_succ_self _) ⟨Ea,w (oY+1),qw [0,1,2,3] [0,1],sL⟩)
        exact .exit (bh.exit (aC.eF ⟨ya,qw [0,1,2,3] [0,1],qs sL⟩))
       rintro _ ⟨nN,Wt,rfl⟩;exact Wt.c (PC.skip (aC.end ⟨nN,AM.2,qw [0,1,2,3] [0,1],qs rB⟩))
      rintro _ ⟨IU,U5,w97,rfl⟩;refine w97.c ?_;have B9:=fD B9;refine .lone (qr 4 ?_);exact .skip (bh.mk (Nat.lt_succ_self _) ⟨IU,w (rE+1),U5,qw [0,1,2,3] [0,1],B9⟩)
     exact .exit (bh.exit (aC.eF ⟨A1,Q7,qw [0,1,2,3] [0,1],qs B9⟩))
    rintro _ ⟨im,Q8,w98,rfl⟩;refine w98.c ?_;have tN:=fD tN;refine .lone (PC.gb (s':=PS.of 220 [(0,E 0),(1,lI a1),(2,g Z),(3,g a3),(8,v0),(9,E 1),(10,E 2),(11,lN jl),(12,E 3),(13,.aS 1 (List.map dp fT) (some 0)),(14,g ig),(15,lW im)] [R3 Q8,R1,R2,xn] [fT.length,0] 1 0) (bc.Im 1 19 (l:=List.map de im) rfl (by kernel_rfl) (cc (Bp (by kernel_rfl) (by kernel_rfl)) (cc (Bp (by kernel_rfl) (by kernel_rfl)) (cc (Bp (by kernel_rfl) (by kernel_rfl)) (cc (Bp (by kernel_rfl) (by kernel_rfl)) (cc (Bp (by kernel_rfl) (by kernel_rfl)) (cc (Bp (by kernel_rfl) (by kernel_rfl)) (cc (Bp (by kernel_rfl) (by kernel_rfl)) (cc (Bp (by kernel_rfl) (by kernel_rfl)) (cc (Bp (by kernel_rfl) (by kernel_rfl)) (cc (Bp (by kernel_rfl) (by kernel_rfl)) (cc (Bp (by kernel_rfl) (by kernel_rfl)) (cc (fMw rfl) tU))))))))))))) ?_);refine .region (qk 3 [0,1,2,3] [0,2] [(0,E 0),(1,lI a1),(2,g Z),(3,g a3),(8,v0),(9,E 1),(10,E 2),(11,lN jl),(12,E 3),(13,.aS 1 (List.map dp fT) (some 0)),(14,g ig),(159,.aS 1 (List.map dp fT) (some 0)),(161,.aS 1 (List.map dp ([im])) (some 1))] [R3 Q8,R1,R2,xn] [fT.length,1] ?_);refine pZ tN λ h99 tN=>?_;generalize Uc:fT++([im])=Tr at tN;refine PO.one rfl (iZ (L:=fT) (M:=[im]) (f:=dp) (sz:=1) (bytes:=24) Try.underlying84 rfl rfl rfl rfl rfl rfl rfl rfl rfl rfl rfl rfl h99 Uc) rfl ?_;refine qN 1 ?_;exact .skip (aC.end ⟨Tr,Q8,qw [0,1,2,3] [0],qs tN⟩)
   rintro _ ⟨iR,rA,ade,rfl⟩;refine ade.c ?_;have Ga:=fD Ga;refine .lone (qr 4 ?_);exact .skip (bh.mk (Nat.lt_succ_self _) ⟨iR,w (ig+1),rA,qw [0,1,2,3] [0],Ga⟩)
  exact .exit (bh.exit (aC.eF ⟨fT,yq,qw [0,1,2] [0],qs Ga⟩))
 rintro _ ⟨v6,hH,Tw,rfl⟩;refine Tw.c ?_;have I:=fD I;refine qL 2 ?_;refine qS kF ?_;refine qR 1 ?_;refine aq I λ eO adf I=>qG [0] [] (L42 k hH (w (4 * (jl.length:Int))) _ adf) ⟨⟨_,rfl,rfl,rfl⟩,trivial⟩ ?_;refine .nil (.region (qX 3 [0,1,2,3] [0] [(0,E 0),(8,v0),(9,E 1),(10,E 2),(11,lN jl),(13,.aS 1 (List.map dp v6) (some 0)),(22,E 3)] [R3 eO.2,R1,R2,AK] [v6.length] ?_));refine qL 2 ?_;refine qS kF ?_;refine qk 1 [0,1,2,3] [0] [(0,E 0),(8,v0),(9,E 1),(10,E 2),(22,E 3),(169,.aS 1 (List.map dp v6) (some 0)),(172,g (w ((jl.length:Int) - 1)))] [R3 eO.2,R1,R2,AK] [v6.length] ?_;refine qI Try.underlying84 I λ dg I=>?_;refine qN 2 ?_;refine qK 2 ?_;refine aq I λ adg Cs I=>PC.bQ (λ s=>∃ (Eb:Bool) (tW:List Int) (Bc:Int) (fq:Int) (jH:Int) (kb:Int) (lL:Int) (lO:Int) (lP:Int) (lQ:Int) (lR:Int) (kZ:Int) (Ec:Int) (Ed:Int) (Ee:Bool) (Ef:Bool) (Eg:Bool) (Eh:Int) (Ei:Int),bc s (PS.of 220 [(0,E 0),(8,v0),(9,E 1),(10,E 2),(22,E 3)] [R3 eO.2,R1,R2,FC Eb tW Bc fq jH kb lL lO lP lQ lR kZ Ec Ed Ee Ef Eg Eh Ei] [] 1 0)/\(Eb,tW,Bc,fq,jH,kb,lL,lO,lP,lQ,lR,kZ,Ec,Ed,Ee,Ef,Eg,Eh,Ei)=adg) ?_ ?_
 ·refine PC.m8 ?_;refine qJ ?_;refine qX 2 [0,1,2,3] [] [(0,E 0),(8,v0),(9,E 1),(10,E 2),(22,E 3),(23,lW dg),(24,g 0),(176,vB true)] [R3 eO.2,R1,R2,AK] [] ?_;refine PC.cond rfl (λ _=>?_) (λ adh=>Bool.noConfusion adh);refine .aZ (aq Cs λ adi zc Cs=>PC.bQ (λ s=>∃ (oz:Bool) (kH:List Int) (kI:Int) (kJ:Int) (kK:Int) (kL:Int) (eN:Int) (pL:Int) (j9:Int) (iB:Int) (pM:Int) (pN:Int) (pO:Int) (pP:Int) (pQ:Bool) (pR:Bool) (pS:Bool) (pT:Int) (pU:Int),bc s (PS.of 220 [(0,E 0),(8,v0),(9,E 1),(10,E 2),(22,E 3),(23,lW dg),(24,g 0)] [R3 eO.2,R1,R2,FC oz kH kI kJ kK kL eN pL j9 iB pM pN pO pP pQ pR pS pT pU] [] 1 0)/\(oz,kH,kI,kJ,kK,kL,eN,pL,j9,iB,pM,pN,pO,pP,pQ,pR,pS,pT,pU)=adi) ?_ ?_)
  ·refine qo [0,1,2,3,4,5,6,7,8,9,10,11,12,13,14,15,16,17] ?_;refine qk 2 [0,1,2,3] [] [(0,E 0),(8,v0),(9,E 1),(10,E 2),(22,E 3),(23,lW dg),(24,g 0),(179,lW dg),(180,g 0)] [R3 eO.2,R1,R2,AK] [] ?_;refine qI Dx zc λ Ll zc=>?_;refine qk 3 [0,1,2,3] [] [(0,E 0),(8,v0),(9,E 1),(10,E 2),(22,E 3),(23,lW dg),(24,g 0),(184,vB Ll.gE)] [R3 eO.2,R1,R2,AK] [] ?_;refine aq zc λ adj Lq zc=>PO.cut 12 (cu (λ Jv=>PS.of 220 [(0,E 0),(8,v0),(9,E 1),(10,E 2),(22,E 3),(23,lW dg),(24,g 0),(196,vB Jv)] [R3 eO.2,R1,R2,AK] [] 1 0) adj) ?_ ?_
   ·refine qC 184 Lq (λ Lq=>?_) λ Lq=>?_
    ·refine qk 10 [0,1,2,3] [] [(0,E 0),(8,v0),(9,E 1),(10,E 2),(22,E 3),(23,lW dg),(24,g 0),(184,vB true),(188,vB true)] [R3 eO.2,R1,R2,AK] [] ?_;exact qW 2 true [0,1,2,3] [] Lq
    exact qW 12 false [0,1,2,3] [] Lq
   rintro _ ⟨Jv,adk,rfl⟩;refine adk.on (.lone (qD zc (λ zc=>?_) λ zc=>?_))
   ·refine .region (qk 2 [0,1,2,3] [] [(0,E 0),(8,v0),(9,E 1),(10,E 2),(22,E 3),(23,lW dg),(24,g 0),(197,lW dg),(198,g 0)] [R3 eO.2,R1,R2,AK] [] ?_);refine qI Dx zc λ dO zc=>?_;refine qX 2 [0,1,2,3] [] [(0,E 0),(8,v0),(9,E 1),(10,E 2),(22,E 3),(23,lW dg),(24,g 0)] [R3 eO.2,R1,R2,mq dO] [] ?_;exact .skip (aC.end ⟨dO.gE,dO.eX,dO.bj,dO.aR,dO.aO,dO.eo,dO.fh,dO.er,dO.dj,dO.dk,dO.dH,dO.eu,dO.gn,dO.bN,dO.fi,dO.dI,dO.gp,dO.dJ,dO.ey,qw [0,1,2,3] [],qs zc⟩)
   exact .aZ (PC.skip (aC.end ⟨false,[],0,0,0,0,0,0,0,0,0,0,0,0,false,false,false,0,0,qm [0,1,2,3] [] 0 (aA.c (aA.c (aA.c ⟨⟨_,_,rfl,rfl,rfl,(aT.cons (.refl _) (aT.cons (.nil 1) (aT.refl _)))⟩,aA.z⟩))) aG.z.c.c.c.c.c.c.c,qs zc⟩))
  rintro _ ⟨oz,kH,kI,kJ,kK,kL,eN,pL,j9,iB,pM,pN,pO,pP,pQ,pR,pS,pT,pU,adl,rfl⟩;refine adl.c (.lone (.region (qX 3 [0,1,2,3] [] [(0,E 0),(8,v0),(9,E 1),(10,E 2),(22,E 3),(23,lW dg),(24,g 1)] [R3 eO.2,R1,R2,FC oz kH kI kJ kK kL eN pL j9 iB pM pN pO pP pQ pR pS pT pU] [] ?_)));refine .skip (gi.end ?_);refine PC.m8 ?_;refine qJ ?_;refine qX 2 [0,1,2,3] [] [(0,E 0),(8,v0),(9,E 1),(10,E 2),(22,E 3),(23,lW dg),(24,g 1),(176,vB true)] [R3 eO.2,R1,R2,FC oz kH kI kJ kK kL eN pL j9 iB pM pN pO pP pQ pR pS pT pU] [] ?_;refine PC.cond rfl (λ _=>?_) (λ adm=>Bool.noConfusion adm);refine .aZ (aq Cs λ adn zd Cs=>PC.bQ (λ s=>∃ (oA:cg),bc s (PS.of 220 [(0,E 0),(8,v0),(9,E 1),(10,E 2),(22,E 3),(23,lW dg),(24,g 1)] [R3 eO.2,R1,R2,mq oA] [] 1 0)/\oA=adn) ?_ ?_)
  ·refine qo [0,1,2,3,4,5,6,7,8,9,10,11,12,13,14,15,16,17] ?_;refine qk 2 [0,1,2,3] [] [(0,E 0),(8,v0),(9,E 1),(10,E 2),(22,E 3),(23,lW dg),(24,g 1),(179,lW dg),(180,g 1)] [R3 eO.2,R1,R2,FC oz kH kI kJ kK kL eN pL j9 iB pM pN pO pP pQ pR pS pT pU] [] ?_;refine qI Dx zd λ Lm zd=>?_;refine qk 3 [0,1,2,3] [] [(0,E 0),(8,v0),(9,E 1),(10,E 2),(22,E 3),(23,lW dg),(24,g 1),(184,vB Lm.gE)] [R3 eO.2,R1,R2,FC oz kH kI kJ kK kL eN pL j9 iB pM pN pO pP pQ pR pS pT pU] [] ?_;refine aq zd λ ado Gu zd=>PO.cut 12 (cu (λ Jx=>PS.of 220 [(0,E 0),(8,v0),(9,E 1),(10,E 2),(22,E 3),(23,lW dg),(24,g 1),(196,vB Jx)] [R3 eO.2,R1,R2,FC oz kH kI kJ kK kL eN pL j9 iB pM pN pO pP pQ pR pS pT pU] [] 1 0) ado) ?_ ?_
   ·refine qC 184 Gu (λ Gu=>?_) λ Gu=>?_
    ·refine qk 4 [0,1,2,3] [] [(0,E 0),(8,v0),(9,E 1),(10,E 2),(22,E 3),(23,lW dg),(24,g 1),(184,vB true),(188,vB (!oz))] [R3 eO.2,R1,R2,FC oz kH kI kJ kK kL eN pL j9 iB pM pN pO pP pQ pR pS pT pU] [] ?_;refine aq Gu λ adp Ct Gu=>PO.cut 8 (cu (λ Gt=>PS.of 220 [(0,E 0),(8,v0),(9,E 1),(10,E 2),(22,E 3),(23,lW dg),(24,g 1),(196,vB Gt)] [R3 eO.2,R1,R2,FC oz kH kI kJ kK kL eN pL j9 iB pM pN pO pP pQ pR pS pT pU] [] 1 0) adp) ?_ ?_
     ·refine qC 188 Ct (λ Ct=>?_) λ Ct=>?_
      ·exact qW 8 true [0,1,2,3] [] Ct
      refine qk 2 [0,1,2,3] [] [(0,E 0),(8,v0),(9,E 1),(10,E 2),(22,E 3),(23,lW dg),(24,g 1),(184,vB true),(188,vB false),(189,lW dg),(190,g 1)] [R3 eO.2,R1,R2,FC oz kH kI kJ kK kL eN pL j9 iB pM pN pO pP pQ pR pS pT pU] [] ?_;refine qI Dx Ct λ Jw Ct=>?_;refine qk 2 [0,1,2,3] [] [(0,E 0),(8,v0),(9,E 1),(10,E 2),(22,E 3),(23,lW dg),(24,g 1),(184,vB true),(188,vB false),(192,.agg (de Jw)),(193,.agg [vB oz,lN kH,g kI,g kJ,g kK,g kL,g eN,g pL,g j9,g iB,g pM,g pN,g pO,g pP,vB pQ,vB pR,vB pS,g pT,g pU])] [R3 eO.2,R1,R2,FC oz kH kI kJ kK kL eN pL j9 iB pM pN pO pP pQ pR pS pT pU] [] ?_;refine aq Ct λ Ln adq Ct=>qG [] [] (Zo k Jw (cg.mk oz kH kI kJ kK kL eN pL j9 iB pM pN pO pP pQ pR pS pT pU) _ adq) trivial ?_;exact qW 2 Ln [0,1,2,3] [] Ct
     rintro _ ⟨Gt,adr,rfl⟩;refine adr.on ?_;exact⟨Gt,qw [0,1,2,3] [],qs Gu⟩
    exact qW 12 false [0,1,2,3] [] Gu
   rintro _ ⟨Jx,ads,rfl⟩;refine ads.on (.lone (qD zd (λ zd=>?_) λ zd=>?_))
   ·refine .region (qk 2 [0,1,2,3] [] [(0,E 0),(8,v0),(9,E 1),(10,E 2),(22,E 3),(23,lW dg),(24,g 1),(197,lW dg),(198,g 1)] [R3 eO.2,R1,R2,FC oz kH kI kJ kK kL eN pL j9 iB pM pN pO pP pQ pR pS pT pU] [] ?_);refine qI Dx zd λ Jy zd=>?_;refine qX 2 [0,1,2,3] [] [(0,E 0),(8,v0),(9,E 1),(10,E 2),(22,E 3),(23,lW dg),(24,g 1)] [R3 eO.2,R1,R2,mq Jy] [] ?_;exact .skip (aC.end ⟨Jy,qw [0,1,2,3] [],qs zd⟩)
   exact .aZ (PC.skip (aC.end ⟨(cg.mk oz kH kI kJ kK kL eN pL j9 iB pM pN pO pP pQ pR pS pT pU),qw [0,1,2,3] [],qs zd⟩))
  rintro _ ⟨oA,adt,rfl⟩;refine adt.c (.lone (.region (qX 3 [0,1,2,3] [] [(0,E 0),(8,v0),(9,E 1),(10,E 2),(22,E 3),(23,lW dg),(24,g 2)] [R3 eO.2,R1,R2,mq oA] [] ?_)));refine .skip (gi.end ?_);refine PC.m8 ?_;refine qJ ?_;refine qX 2 [0,1,2,3] [] [(0,E 0),(8,v0),(9,E 1),(10,E 2),(22,E 3),(23,lW dg),(24,g 2),(176,vB true)] [R3 eO.2,R1,R2,mq oA] [] ?_;refine PC.cond rfl (λ _=>?_) (λ adu=>Bool.noConfusion adu);refine .aZ (aq Cs λ adv ze Cs=>PC.bQ (λ s=>∃ (oB:cg),bc s (PS.of 220 [(0,E 0),(8,v0),(9,E 1),(10,E 2),(22,E 3),(23,lW dg),(24,g 2)] [R3 eO.2,R1,R2,mq oB] [] 1 0)/\oB=adv) ?_ ?_)
  ·refine qo [0,1,2,3,4,5,6,7,8,9,10,11,12,13,14,15,16,17] ?_;refine qk 2 [0,1,2,3] [] [(0,E 0),(8,v0),(9,E 1),(10,E 2),(22,E 3),(23,lW dg),(24,g 2),(179,lW dg),(180,g 2)] [R3 eO.2,R1,R2,mq oA] [] ?_;refine qI Dx ze λ Ts ze=>?_;refine qk 3 [0,1,2,3] [] [(0,E 0),(8,v0),(9,E 1),(10,E 2),(22,E 3),(23,lW dg),(24,g 2),(184,vB Ts.gE)] [R3 eO.2,R1,R2,mq oA] [] ?_;refine aq ze λ adw Gv ze=>PO.cut 12 (cu (λ PA=>PS.of 220 [(0,E 0),(8,v0),(9,E 1),(10,E 2),(22,E 3),(23,lW dg),(24,g 2),(196,vB PA)] [R3 eO.2,R1,R2,mq oA] [] 1 0) adw) ?_ ?_
   ·refine qC 184 Gv (λ Gv=>?_) λ Gv=>?_
    ·refine qk 4 [0,1,2,3] [] [(0,E 0),(8,v0),(9,E 1),(10,E 2),(22,E 3),(23,lW dg),(24,g 2),(184,vB true),(188,vB (!oA.gE))] [R3 eO.2,R1,R2,mq oA] [] ?_;refine aq Gv λ adx Cu Gv=>PO.cut 8 (cu (λ Lo=>PS.of 220 [(0,E 0),(8,v0),(9,E 1),(10,E 2),(22,E 3),(23,lW dg),(24,g 2),(196,vB Lo)] [R3 eO.2,R1,R2,mq oA] [] 1 0) adx) ?_ ?_
     ·refine qC 188 Cu (λ Cu=>?_) λ Cu=>?_
      ·exact qW 8 true [0,1,2,3] [] Cu
      refine qk 2 [0,1,2,3] [] [(0,E 0),(8,v0),(9,E 1),(10,E 2),(22,E 3),(23,lW dg),(24,g 2),(184,vB true),(188,vB false),(189,lW dg),(190,g 2)] [R3 eO.2,R1,R2,mq oA] [] ?_;refine qI Dx Cu λ Pz Cu=>?_;refine qk 2 [0,1,2,3] [] [(0,E 0),(8,v0),(9,E 1),(10,E 2),(22,E 3),(23,lW dg),(24,g 2),(184,vB true),(188,vB false),(192,.agg (de Pz)),(193,.agg (de oA))] [R3 eO.2,R1,R2,mq oA] [] ?_;refine aq Cu λ Tt ady Cu=>qG [] [] (Zo k Pz oA _ ady) trivial ?_;exact qW 2 Tt [0,1,2,3] [] Cu
     rintro _ ⟨Lo,adz,rfl⟩;refine adz.on ?_;exact⟨Lo,qw [0,1,2,3] [],qs Gv⟩
    exact qW 12 false [0,1,2,3] [] Gv
   rintro _ ⟨PA,adA,rfl⟩;refine adA.on (.lone (qD ze (λ ze=>?_) λ ze=>?_))
   ·refine .region (qk 2 [0,1,2,3] [] [(0,E 0),(8,v0),(9,E 1),(10,E 2),(22,E 3),(23,lW dg),(24,g 2),(197,lW dg),(198,g 2)] [R3 eO.2,R1,R2,mq oA] [] ?_);refine qI Dx ze λ PE ze=>?_;refine qX 2 [0,1,2,3] [] [(0,E 0),(8,v0),(9,E 1),(10,E 2),(22,E 3),(23,lW dg),(24,g 2)] [R3 eO.2,R1,R2,mq PE] [] ?_;exact .skip (aC.end ⟨PE,qw [0,1,2,3] [],qs ze⟩)
   exact .aZ (PC.skip (aC.end ⟨oA,qw [0,1,2,3] [],qs ze⟩))
  rintro _ ⟨oB,adB,rfl⟩;refine adB.c (.lone (.region (qX 3 [0,1,2,3] [] [(0,E 0),(8,v0),(9,E 1),(10,E 2),(22,E 3),(23,lW dg),(24,g 3)] [R3 eO.2,R1,R2,mq oB] [] ?_)));refine .skip (gi.end ?_);refine PC.m8 ?_;refine qJ ?_;refine qX 2 [0,1,2,3] [] [(0,E 0),(8,v0),(9,E 1),(10,E 2),(22,E 3),(23,lW dg),(24,g 3),(176,vB true)] [R3 eO.2,R1,R2,mq oB] [] ?_;refine PC.cond rfl (λ _=>?_) (λ adC=>Bool.noConfusion adC);refine .aZ (aq Cs λ adD zf Cs=>PC.bQ (λ s=>∃ (fH:cg),bc s (PS.of 220 [(0,E 0),(8,v0),(9,E 1),(10,E 2),(22,E 3),(23,lW dg),(24,g 3)] [R3 eO.2,R1,R2,mq fH] [] 1 0)/\fH=adD) ?_ ?_)
  ·refine qo [0,1,2,3,4,5,6,7,8,9,10,11,12,13,14,15,16,17] ?_;refine qk 2 [0,1,2,3] [] [(0,E 0),(8,v0),(9,E 1),(10,E 2),(22,E 3),(23,lW dg),(24,g 3),(179,lW dg),(180,g 3)] [R3 eO.2,R1,R2,mq oB] [] ?_;refine qI Dx zf λ Tu zf=>?_;refine qk 3 [0,1,2,3] [] [(0,E 0),(8,v0),(9,E 1),(10,E 2),(22,E 3),(23,lW dg),(24,g 3),(184,vB Tu.gE)] [R3 eO.2,R1,R2,mq oB] [] ?_;refine aq zf λ adE Gw zf=>PO.cut 12 (cu (λ PH=>PS.of 220 [(0,E 0),(8,v0),(9,E 1),(10,E 2),(22,E 3),(23,lW dg),(24,g 3),(196,vB PH)] [R3 eO.2,R1,R2,mq oB] [] 1 0) adE) ?_ ?_
   ·refine qC 184 Gw (λ Gw=>?_) λ Gw=>?_
    ·refine qk 4 [0,1,2,3] [] [(0,E 0),(8,v0),(9,E 1),(10,E 2),(22,E 3),(23,lW dg),(24,g 3),(184,vB true),(188,vB (!oB.gE))] [R3 eO.2,R1,R2,mq oB] [] ?_;refine aq Gw λ adF Cv Gw=>PO.cut 8 (cu (λ Lp=>PS.of 220 [(0,E 0),(8,v0),(9,E 1),(10,E 2),(22,E 3),(23,lW dg),(24,g 3),(196,vB Lp)] [R3 eO.2,R1,R2,mq oB] [] 1 0) adF) ?_ ?_
     ·refine qC 188 Cv (λ Cv=>?_) λ Cv=>?_
      ·exact qW 8 true [0,1,2,3] [] Cv
      refine qk 2 [0,1,2,3] [] [(0,E 0),(8,v0),(9,E 1),(10,E 2),(22,E 3),(23,lW dg),(24,g 3),(184,vB true),(188,vB false),(189,lW dg),(190,g 3)] [R3 eO.2,R1,R2,mq oB] [] ?_;refine qI Dx Cv λ PG Cv=>?_;refine qk 2 [0,1,2,3] [] [(0,E 0),(8,v0),(9,E 1),(10,E 2),(22,E 3),(23,lW dg),(24,g 3),(184,vB true),(188,vB false),(192,.agg (de PG)),(193,.agg (de oB))] [R3 eO.2,R1,R2,mq oB] [] ?_;refine aq Cv λ Tv adG Cv=>qG [] [] (Zo k PG oB _ adG) trivial ?_;exact qW 2 Tv [0,1,2,3] [] Cv
     rintro _ ⟨Lp,adH,rfl⟩;refine adH.on ?_;exact⟨Lp,qw [0,1,2,3] [],qs Gw⟩
    exact qW 12 false [0,1,2,3] [] Gw
   rintro _ ⟨PH,adI,rfl⟩;refine adI.on (.lone (qD zf (λ zf=>?_) λ zf=>?_))
   ·refine .region (qk 2 [0,1,2,3] [] [(0,E 0),(8,v0),(9,E 1),(10,E 2),(22,E 3),(23,lW dg),(24,g 3),(197,lW dg),(198,g 3)] [R3 eO.2,R1,R2,mq oB] [] ?_);refine qI Dx zf λ PI zf=>?_;refine qX 2 [0,1,2,3] [] [(0,E 0),(8,v0),(9,E 1),(10,E 2),(22,E 3),(23,lW dg),(24,g 3)] [R3 eO.2,R1,R2,mq PI] [] ?_;exact .skip (aC.end ⟨PI,qw [0,1,2,3] [],qs zf⟩)
   exact .aZ (PC.skip (aC.end ⟨oB,qw [0,1,2,3] [],qs zf⟩))
  rintro _ ⟨fH,adJ,rfl⟩;refine adJ.c (.lone (.region (qX 3 [0,1,2,3] [] [(0,E 0),(8,v0),(9,E 1),(10,E 2),(22,E 3),(23,lW dg),(24,g 4)] [R3 eO.2,R1,R2,mq fH] [] ?_)));refine .skip (gi.end ?_);refine PC.m8 ?_;refine qJ ?_;refine qX 2 [0,1,2,3] [] [(0,E 0),(8,v0),(9,E 1),(10,E 2),(22,E 3),(23,lW dg),(24,g 4),(176,vB false)] [R3 eO.2,R1,R2,mq fH] [] ?_;refine PC.cond rfl (λ adK=>Bool.noConfusion adK) (λ _=>?_);exact .exit (gi.exit (aC.eF ⟨fH.gE,fH.eX,fH.bj,fH.aR,fH.aO,fH.eo,fH.fh,fH.er,fH.dj,fH.dk,fH.dH,fH.eu,fH.gn,fH.bN,fH.fi,fH.dI,fH.gp,fH.dJ,fH.ey,qw [0,1,2,3] [],qs Cs⟩))
 rintro _ ⟨Eb,tW,Bc,fq,jH,kb,lL,lO,lP,lQ,lR,kZ,Ec,Ed,Ee,Ef,Eg,Eh,Ei,adL,rfl⟩;refine adL.c (qK 2 ?_);refine aq I λ Xt ru I=>PC.bQ (λ s=>∃ (Jz:aH),bc s (PS.of 220 [(8,v0),(9,E 1),(10,E 2),(22,E 3)] [R3 Jz,R1,R2,FC Eb tW Bc fq jH kb lL lO lP lQ lR kZ Ec Ed Ee Ef Eg Eh Ei] [] 1 0)/\.inl Jz=Xt) ?_ ?_
 ·refine PC.loop (λ Ju s=>∃ (Cr:Int) (oU:aH),bc s (PS.of 220 [(0,E 0),(8,v0),(9,E 1),(10,E 2),(22,E 3),(25,g Cr)] [R3 oU,R1,R2,FC Eb tW Bc fq jH kb lL lO lP lQ lR kZ Ec Ed Ee Ef Eg Eh Ei] [] 1 0)/\uh k tW Ju Cr oU=some Xt) (λ Ju s=>?_) k ⟨0,eO.2,qw [0,1,2,3] [],ru⟩;rintro⟨Cr,oU,adM,ru⟩;refine adM.c ?_;obtain _ | Ju:=Ju
  · rw[uh] at ru; cases ru
  rw[uh] at ru;refine qM 3 ?_;refine qS kF ?_;refine qN 1 ?_;refine qD ru (λ ru=>?_) λ ru=>?_
  ·refine .aZ (PC.block ?_);refine qL 1 ?_;refine aq ru λ Gs adN ru=>qG [0] [] (L36 k oU 1 _ adN) ⟨⟨_,rfl,rfl,rfl⟩,trivial⟩ ?_;refine qN 1 ?_;refine .lone (qD ru (λ ru=>?_) λ ru=>?_)
   ·refine qJ ?_;refine qk 2 [0,1,2,3] [] [(0,E 0),(8,v0),(9,E 1),(10,E 2),(22,E 3),(25,g Cr),(211,.agg [g 0,g 0,g 0]),(212,E 0)] [R3 Gs.2,R1,R2,FC Eb tW Bc fq jH kb lL lO lP lQ lR kZ Ec Ed Ee Ef Eg Eh Ei] [] ?_;refine aq ru λ Lk adO ru=>qG [0] [] (Zk k Gs.2 _ adO) ⟨⟨_,rfl,rfl,rfl⟩,trivial⟩ ?_;refine qX 4 [0,1,2,3] [] [(0,E 0),(8,v0),(9,E 1),(10,E 2),(22,E 3),(25,g Cr)] [R3 Lk.2,R1,⟨0,[g Lk.1,g 0]⟩,FC Eb tW Bc fq jH kb lL lO lP lQ lR kZ Ec Ed Ee Ef Eg Eh Ei] [] ?_;cases ru;cases I;exact .ret (bk.ct (bh.ret (aC.ct (oZ [0] [] (by kernel_rfl) (gX.Jd (aT.cons (.nil 1) (aT.refl _))) ⟨rfl,rfl,rfl⟩))))
   refine .aZ (PC.skip (bk.end ?_));refine .lone (qr 4 ?_);exact .skip (bh.mk (Nat.lt_succ_self _) ⟨w (Cr+1),Gs.2,qw [0,1,2,3] [],ru⟩)
  exact .exit (bh.exit (aC.eF ⟨oU,qw [0,1,2,3] [],qs ru⟩))
 rintro _ ⟨Jz,adP,rfl⟩;refine adP.c ?_;have I:=fD I;refine qo [0,1,2,3,5,6,4,7] ?_;refine qX 8 [0,1,2] [] [(8,lN tW),(9,E 1),(10,E 2)] [R3 Jz,⟨0,[g Bc,g fq,g jH]⟩,R2] [] ?_;cases I;exact .cS (qf [0] [])
def ss (k:Nat) (A:List Int) (a1:List Int):Nat->Int->Option ((Unit) ⊕ (Bool))
  | 0,_=>none
  | j4+1,v2=>
    bif decide (v2 < (A.length:Int)) then(bp A v2 λ y4=>
    bp a1 v2 λ y5=>
    bif y4 != y5 then(some (.inr false)) else(ss k A a1 j4 (w (v2+1)))) else(some (.inl ()))
def U7 (k:Nat) (A:List Int) (a1:List Int):Option Bool:=
bif (A.length:Int) != (a1.length:Int) then(some false) else(Option.bind (α:=(Unit) ⊕ (Bool)) (ss k A a1 k 0) (Sum.elim (λ(_:Unit)=>
some true) some))
theorem L13 (k:Nat) (A:List Int) (a1:List Int) (r:Bool) (I:U7 k A a1=some r):PF Try.prog fK 13 [lN A,lN a1] [] [] (λ p fr tk=>p=vB r/\fr=[]/\tk=[]):=by
 unfold U7 at I;refine qP Try.func13 ?_;refine qr 2 ?_;refine qM 1 ?_;refine qS kF ?_;refine qR 1 ?_;refine qS kF ?_;refine qN 1 ?_;refine qD I (λ I=>?_) λ I=>?_
 ·refine qK 2 ?_;cases I;exact .ret (qf [] [])
 refine .aZ (qK 2 ?_);refine aq I λ x2 e3 I=>PC.bQ (λ s=>bc s (PS.of 26 [(4,vB false)] [] [] 0 0)/\.inl ()=x2) ?_ ?_
 ·refine PC.loop (λ j4 s=>∃ (v2:Int),bc s (PS.of 26 [(0,lN A),(1,lN a1),(4,vB false),(5,g v2)] [] [] 0 0)/\ss k A a1 j4 v2=some x2) (λ j4 s=>?_) k ⟨0,qw [] [],e3⟩;rintro⟨v2,w5,e3⟩;refine w5.c ?_;obtain _ | j4:=j4
  · rw[ss] at e3; cases e3
  rw[ss] at e3;refine qM 2 ?_;refine qS kF ?_;refine qN 1 ?_;refine qD e3 (λ e3=>?_) λ e3=>?_
  ·refine .aZ (PC.block ?_);refine qo [0,1,2,3,4,5,6,7,8] ?_;refine qR 2 ?_;refine qI kF e3 λ y4 e3=>?_;refine qR 3 ?_;refine qI kF e3 λ y5 e3=>?_;refine qN 2 ?_;refine .lone (qD e3 (λ e3=>?_) λ e3=>?_)
   ·refine qK 2 ?_;cases e3;cases I;exact .ret (bk.ct (bh.ret (aC.ct (qf [] []))))
   refine .aZ (PC.skip (bk.end ?_));refine .lone (qr 4 ?_);exact .skip (bh.mk (Nat.lt_succ_self _) ⟨w (v2+1),qw [] [],e3⟩)
  exact .exit (bh.exit (aC.eF ⟨qw [] [],qs e3⟩))
 rintro _ ⟨FZ,rfl⟩;refine FZ.c ?_;have I:=fD I;refine qr 2 ?_;cases I;exact .cS (qf [] [])
def Zr (k:Nat) (A:aE):Option (Int×aE):=
some (A.bb,A)
theorem L16 (k:Nat) (A:aE) (r:Int×aE) (I:Zr k A=some r):PF Try.prog fK 16 [E 0] [R0 A] [] (λ p fr tk=>p=g r.1/\fr=[R0 r.2]/\tk=[]):=by
 unfold Zr at I;refine qP Try.func16 ?_;refine qr 2 ?_;refine qr 7 ?_;cases I;exact .cS (qf [0] [])
def Zs (k:Nat) (A:aH):Option (Int×aH):=
some (A.done,A)
theorem L43 (k:Nat) (A:aH) (r:Int×aH) (I:Zs k A=some r):PF Try.prog fK 43 [E 0] [R3 A] [] (λ p fr tk=>p=g r.1/\fr=[R3 r.2]/\tk=[]):=by
 unfold Zs at I;refine qP Try.func43 ?_;refine qr 2 ?_;refine qr 6 ?_;cases I;exact .cS (qf [0] [])
def Zt (k:Nat) (A:aE):Option (Int×aE):=
some (A.bq,A)
theorem L20 (k:Nat) (A:aE) (r:Int×aE) (I:Zt k A=some r):PF Try.prog fK 20 [E 0] [R0 A] [] (λ p fr tk=>p=g r.1/\fr=[R0 r.2]/\tk=[]):=by
 unfold Zt at I;refine qP Try.func20 ?_;refine qr 2 ?_;refine qr 7 ?_;cases I;exact .cS (qf [0] [])
def Zu (k:Nat) (A:aH):Option (Int×aH):=
some (A.tv,A)
theorem L44 (k:Nat) (A:aH) (r:Int×aH) (I:Zu k A=some r):PF Try.prog fK 44 [E 0] [R3 A] [] (λ p fr tk=>p=g r.1/\fr=[R3 r.2]/\tk=[]):=by
 unfold Zu at I;refine qP Try.func44 ?_;refine qr 2 ?_;refine qr 6 ?_;cases I;exact .cS (qf [0] [])
def Zv (k:Nat) (A:aE):Option (Int×aE):=
some (A.bK,A)
theorem L17 (k:Nat) (A:aE) (r:Int×aE) (I:Zv k A=some r):PF Try.prog fK 17 [E 0] [R0 A] [] (λ p fr tk=>p=g r.1/\fr=[R0 r.2]/\tk=[]):=by
 unfold Zv at I;refine qP Try.func17 ?_;refine qr 2 ?_;refine qr 7 ?_;cases I;exact .cS (qf [0] [])
def Zw (k:Nat) (A:aH):Option (Int×aH):=
some (A.gF,A)
theorem L45 (k:Nat) (A:aH) (r:Int×aH) (I:Zw k A=some r):PF Try.prog fK 45 [E 0] [R3 A] [] (λ p fr tk=>p=g r.1/\fr=[R3 r.2]/\tk=[]):=by
 unfold Zw at I;refine qP Try.func45 ?_;refine qr 2 ?_;refine qr 6 ?_;cases I;exact .cS (qf [0] [])
def WM (k:Nat) (A:aE) (a1:aH):Option (Bool×aE×aH):=
(Zr k A).bind λ r1=>
(Zs k a1).bind λ r3=>
Option.bind (α:=Bool×aE×aH) (bif r1.1 == r3.1 then((Zt k r1.2).bind λ r8=>
(Zu k r3.2).bind λ nD=>
Option.bind (α:=Bool×aE×aH) (bif r8.1 == nD.1 then((Zv k r8.2).bind λ Ku=>
(Zw k nD.2).bind λ FF=>
Option.bind (α:=Bool×aE×aH) (bif Ku.1 == FF.1 then((OJ k Ku.2).bind λ F0=>
(SG k FF.2).bind λ bV=>
some (F0.1 == bV.1,F0.2,bV.2)) else(some (false,Ku.2,FF.2))) λ(IM,iR,rA)=>
some (IM,iR,rA)) else(some (false,r8.2,nD.2))) λ(gV,iz,DA)=>
some (gV,iz,DA)) else(some (false,r1.2,r3.2))) λ(v1,v9,iM)=>
some (v1,v9,iM)
theorem L14 (k:Nat) (A:aE) (a1:aH) (r:Bool×aE×aH) (I:WM k A a1=some r):PF Try.prog fK 14 [E 0,E 1] [R0 A,R3 a1] [] (λ p fr tk=>p=vB r.1/\fr=[R0 r.2.1,R3 r.2.2]/\tk=[]):=by
 unfold WM at I;refine qP Try.func14 ?_;refine qr 2 ?_;refine qL 1 ?_;refine aq I λ r1 e2 I=>qG [0] [] (L16 k A _ e2) ⟨⟨_,rfl,rfl,rfl⟩,trivial⟩ ?_;refine qk 1 [0,1] [] [(0,E 0),(1,E 1),(4,vB false),(6,g r1.1),(7,E 1)] [R0 r1.2,R3 a1] [] ?_;refine aq I λ r3 e4 I=>qG [1] [] (L43 k a1 _ e4) ⟨⟨_,rfl,rfl,rfl⟩,trivial⟩ ?_;refine qR 2 ?_;refine aq I λ x5 e6 I=>PO.cut 20 (λ s=>∃ (v1:Bool) (v9:aE) (iM:aH),bc s (PS.of 31 [(4,vB false),(30,vB v1)] [R0 v9,R3 iM] [] 2 0)/\(v1,v9,iM)=x5) ?_ ?_
 ·refine qC 10 e6 (λ e6=>?_) λ e6=>?_
  ·refine qk 1 [0,1] [] [(0,E 0),(1,E 1),(4,vB false),(10,vB true),(11,E 0)] [R0 r1.2,R3 r3.2] [] ?_;refine aq e6 λ r8 e9 e6=>qG [0] [] (L20 k r1.2 _ e9) ⟨⟨_,rfl,rfl,rfl⟩,trivial⟩ ?_;refine qk 1 [0,1] [] [(0,E 0),(1,E 1),(4,vB false),(10,vB true),(12,g r8.1),(13,E 1)] [R0 r8.2,R3 r3.2] [] ?_;refine aq e6 λ nD xZ e6=>qG [1] [] (L44 k r3.2 _ xZ) ⟨⟨_,rfl,rfl,rfl⟩,trivial⟩ ?_;refine qR 3 ?_;refine aq e6 λ DN lz e6=>PO.cut 13 (λ s=>∃ (gV:Bool) (iz:aE) (DA:aH),bc s (PS.of 31 [(4,vB false),(30,vB gV)] [R0 iz,R3 DA] [] 2 0)/\(gV,iz,DA)=DN) ?_ ?_
   ·refine qC 17 lz (λ lz=>?_) λ lz=>?_
    ·refine qk 1 [0,1] [] [(0,E 0),(1,E 1),(4,vB false),(17,vB true),(18,E 0)] [R0 r8.2,R3 nD.2] [] ?_;refine aq lz λ Ku xX lz=>qG [0] [] (L17 k r8.2 _ xX) ⟨⟨_,rfl,rfl,rfl⟩,trivial⟩ ?_;refine qk 1 [0,1] [] [(0,E 0),(1,E 1),(4,vB false),(17,vB true),(19,g Ku.1),(20,E 1)] [R0 Ku.2,R3 nD.2] [] ?_;refine aq lz λ FF kG lz=>qG [1] [] (L45 k nD.2 _ kG) ⟨⟨_,rfl,rfl,rfl⟩,trivial⟩ ?_;refine qR 3 ?_;refine aq lz λ V3 tM lz=>PO.cut 6 (λ s=>∃ (IM:Bool) (iR:aE) (rA:aH),bc s (PS.of 31 [(4,vB false),(30,vB IM)] [R0 iR,R3 rA] [] 2 0)/\(IM,iR,rA)=V3) ?_ ?_
     ·refine qC 24 tM (λ tM=>?_) λ tM=>?_
      ·refine qk 1 [0,1] [] [(1,E 1),(4,vB false),(24,vB true),(25,E 0)] [R0 Ku.2,R3 FF.2] [] ?_;refine aq tM λ F0 AV tM=>qG [0] [] (Y6 k Ku.2 _ AV) ⟨⟨_,rfl,rfl,rfl⟩,trivial⟩ ?_;refine qk 1 [0,1] [] [(4,vB false),(24,vB true),(26,g F0.1),(27,E 1)] [R0 F0.2,R3 FF.2] [] ?_;refine aq tM λ bV yT tM=>qG [1] [] (Zk k FF.2 _ yT) ⟨⟨_,rfl,rfl,rfl⟩,trivial⟩ ?_;refine qN 2 ?_;exact⟨F0.1 == bV.1,F0.2,bV.2,qw [0,1] [],qs tM⟩
      refine qN 6 ?_;exact⟨false,Ku.2,FF.2,qw [0,1] [],qs tM⟩
     rintro _ ⟨IM,iR,rA,V4,rfl⟩;refine V4.on ?_;exact⟨IM,iR,rA,qw [0,1] [],qs lz⟩
    refine qN 13 ?_;exact⟨false,r8.2,nD.2,qw [0,1] [],qs lz⟩
   rintro _ ⟨gV,iz,DA,w27,rfl⟩;refine w27.on ?_;exact⟨gV,iz,DA,qw [0,1] [],qs e6⟩
  refine qN 20 ?_;exact⟨false,r1.2,r3.2,qw [0,1] [],qs e6⟩
 rintro _ ⟨v1,v9,iM,Sq,rfl⟩;refine Sq.o (qN 1 ?_);cases I;exact .cS (qf [0,1] [])
def xA (k:Nat) (A:List au) (l8:List au):Nat->Int->Option ((Unit) ⊕ (Bool))
  | 0,_=>none
  | U8+1,iM=>
    bif decide (iM < (A.length:Int)) then(bp l8 iM λ tP=>
    bp A iM λ tQ=>
    bif !(tP.aM == tQ.aM && (tP.cP == tQ.cP && (tP.size == tQ.size && (tP.dc == tQ.dc && (tP.aB == tQ.aB && (tP.aD == tQ.aD && (tP.depth == tQ.depth && (tP.aw == tQ.aw && (tP.aF == tQ.aF && (tP.value == tQ.value && (tP.cR == tQ.cR && (tP.bM == tQ.bM && (tP.to_ == tQ.to_ && true))))))))))))) then(some (.inr false)) else(xA k A l8 U8 (w (iM+1)))) else(some (.inl ()))
def xB (k:Nat):Nat->(List Int)->Int->Option (List Int)
  | 0,_,_=>none
  | JA+1,iz,iQ=>
    bif decide (iQ < (iz.length:Int)) then(bp iz iQ λ y29=>
    qa (List.set iz (Int.toNat iQ) (-9)) λ Zx=>
    xB k JA Zx (w (iQ+1))) else(some iz)
def F3 (k:Nat) (A:List au) (a1:Int) (Z:Int) (a3:Int) (a4:Int):Option Bool:=
(F8 k a3 a4).bind λ r2=>
zn r2.1 ((F9 k a3 a4).bind λ r6=>
zn r6.1 (Option.bind (α:=Bool) (bif r2.2 != r6.2 then(some true) else(some false)) λ(v3:Bool)=>
bif v3 then(some false) else(some true)) λ m2=>
Option.bind (α:=Unit) (bif r2.2 != r6.2 then(some ()) else(some ())) λ(_:Unit)=>
some false) λ m1=>
(F9 k a3 a4).bind λ QZ=>
zn QZ.1 (Option.bind (α:=Unit) (bif r2.2 != QZ.2 then(some ()) else(some ())) λ(_:Unit)=>
some false) λ m4=>
Option.bind (α:=Bool) (bif r2.2 != QZ.2 then(some true) else(some false)) λ(v5:Bool)=>
bif v5 then(some false) else((We k A).bind λ V2=>
bif V2 then(some true) else(rZ (w ((A.length:Int)+1)) 112 (qa (List.take (List.replicate (Int.toNat (w ((A.length:Int)+1))) (au.mk 0 ByteArray.empty 0 0 0 0 0 0 0 0 false 0 0)).length A++List.drop (A).length (List.replicate (Int.toNat (w ((A.length:Int)+1))) (au.mk 0 ByteArray.empty 0 0 0 0 0 0 0 0 false 0 0))) λ l6=>
bp l6 (A.length:Int) λ y7=>
qa (List.set l6 (Int.toNat (A.length:Int)) (au.mk (-77) y7.cP y7.size y7.dc y7.aB y7.aD y7.depth y7.aw y7.aF y7.value y7.cR y7.bM y7.to_)) λ l8=>
lS l8 0 (A.length:Int) λ l9=>
(UT k m1 l9 a1 Z).bind λ nI=>
(WL k m4 A a1 Z).bind λ ij=>
(U7 k nI.1 ij.1).bind λ OD=>
(WM k nI.2.2.2 ij.2.2.2).bind λ r57=>
Option.bind (α:=Bool) (bif !OD then(some true) else(Option.bind (α:=Bool) (bif !r57.1 then(some true) else(Option.bind (α:=Bool) (bif !(nI.2.1.fA == ij.2.1.fA && (nI.2.1.kT == ij.2.1.kT && (nI.2.1.kU == ij.2.1.kU && true))) then(some true) else(Option.bind (α:=Bool) (bif !(nI.2.2.1.aM == ij.2.2.1.aM && (nI.2.2.1.QU == ij.2.2.1.QU && true)) then(some true) else(bp l8 (A.length:Int) λ y14=>
some (y14.aM != (-77)))) λ(hH:Bool)=>
some hH)) λ(mT:Bool)=>
some mT)) λ(v11:Bool)=>
some v11)) λ(v10:Bool)=>
bif v10 then(some false) else(Option.bind (α:=(Unit) ⊕ (Bool)) (xA k A l8 k 0) (Sum.elim (λ(_:Unit)=>
(F8 k a3 a4).bind λ r89=>
zn r89.1 (none) λ WN=>
lS l8 0 (A.length:Int) λ Zy=>
(UT k WN Zy a1 Z).bind λ Kv=>
Option.bind (α:=List Int) (xB k k nI.1 0) λ(DP:List Int)=>
mw 8 DP ([(-8),(-8),(-8),(-8)]) λ l31=>
(U7 k Kv.1 ij.1).bind λ yi=>
Option.bind (α:=Bool) (bif yi then(some ((l31.length:Int) == (w ((ij.1.length:Int)+4)))) else(some false)) λ(DA:Bool)=>
some DA) some)))))
theorem L3 (k:Nat) (A:List au) (a1:Int) (Z:Int) (a3:Int) (a4:Int) (r:Bool) (I:F3 k A a1 Z a3 a4=some r):PF Try.prog fK 3 [lI A,g a1,g Z,g a3,g a4] [] [] (λ p fr tk=>p=vB r/\fr=[]/\tk=[]):=by
 unfold F3 at I;refine qP Try.func3 ?_;refine qr 2 ?_;refine .region ?_;refine PO.call rfl rfl rfl rfl (ks:=[]) (ts:=[]) (fr1:=[]) rfl rfl rfl trivial K7 ?_;rintro _ _ _ ⟨rfl,rfl,rfl⟩;refine⟨_,_,rfl,rfl,?_⟩;refine qN 1 ?_;refine qK 3 ?_;refine PC.cond rfl (λ B=>Bool.noConfusion B) (λ _=>?_);refine .aZ (qL 2 ?_);refine aq I λ r2 e3 I=>?_;rcases q4:r2.1 with _ | m1
 ·have I:=yF I q4;refine PO.call rfl rfl rfl rfl (ks:=[]) (ts:=[]) (fr1:=[]) rfl rfl rfl trivial (L8 k a3 a4 _ e3) ?_;rintro _ _ _ ⟨h5,_⟩;obtain⟨rfl,rfl,rfl⟩:=h5 q4;refine⟨_,_,rfl,rfl,?_⟩;refine qN 5 ?_;refine qL 2 ?_;refine aq I λ r6 e7 I=>?_;rcases q8:r6.1 with _ | m2
  ·have I:=yF I q8;refine PO.call rfl rfl rfl rfl (ks:=[]) (ts:=[]) (fr1:=[]) rfl rfl rfl trivial (L9 k a3 a4 _ e7) ?_;rintro _ _ _ ⟨h9,_⟩;obtain⟨rfl,rfl,rfl⟩:=h9 q8;refine⟨_,_,rfl,rfl,?_⟩;refine qN 5 ?_;refine qM 4 ?_;refine aq I λ KP xZ I=>PO.cut 6 (cu (λ v3=>PS.of 189 [(0,lI A),(1,g a1),(2,g Z),(3,g a3),(4,g a4),(10,vB false),(11,vB true),(12,.val (.pointer none)),(14,.val (.pointer none)),(57,vB v3)] [] [] 0 0) KP) ?_ ?_
   ·refine qC 51 xZ (λ xZ=>?_) λ xZ=>?_
    ·exact qW 6 true [] [] xZ
    refine qR 1 ?_;refine PO.aX rfl (pG UB rfl rfl (by kernel_rfl)) rfl ?_;refine qR 1 ?_;refine PO.aX rfl (pG Y3 rfl rfl (by kernel_rfl)) rfl ?_;refine PO.aX rfl (s7 (λ a b=>a != b) rfl rfl (by kernel_rfl) (by kernel_rfl) (by kernel_rfl) (by kernel_rfl)) rfl ?_;exact qW 1 false [] [] xZ
   rintro _ ⟨v3,w13,rfl⟩;refine w13.on (qD I (λ I=>?_) λ I=>?_)
   ·refine qK 2 ?_;cases I;exact .ret (qf [] [])
   refine .aZ (qM 1 ?_);refine PO.aX rfl (pG UB rfl rfl (by kernel_rfl)) rfl ?_;refine qN 4 ?_;refine PC.cond rfl (λ _=>?_) (λ QH=>Bool.noConfusion QH);refine qK 3 ?_;cases I;exact .ret (qf [] [])
  have I:=yG I q8;refine PO.call rfl rfl rfl rfl (ks:=[]) (ts:=[]) (fr1:=[]) rfl rfl rfl trivial (L9 k a3 a4 _ e7) ?_;rintro _ _ _ ⟨_,Kf⟩;obtain⟨rfl,rfl,rfl⟩:=Kf _ q8;refine⟨_,_,rfl,rfl,?_⟩;refine qN 5 ?_;refine qM 4 ?_;refine aq I λ FD kG I=>PO.cut 6 (λ s=>bc s (PS.of 189 [(0,lI A),(1,g a1),(2,g Z),(3,g a3),(4,g a4),(10,vB false),(11,vB true),(12,.val (.pointer none)),(14,E 0),(57,vB true)] [R3 m2] [] 0 0)/\()=FD) ?_ ?_
  ·refine qC 51 kG (λ kG=>?_) λ kG=>?_
   ·refine qN 6 ?_;exact⟨qw [0] [],qs kG⟩
   refine qk 1 [0] [] [(0,lI A),(1,g a1),(2,g Z),(3,g a3),(4,g a4),(10,vB false),(11,vB true),(12,.val (.pointer none)),(14,E 0),(51,vB false),(52,.val (.pointer none))] [R3 m2] [] ?_;refine PO.aX rfl (pG UB rfl rfl (by kernel_rfl)) rfl ?_;refine qR 1 ?_;refine PO.aX rfl (pF Y3 rfl rfl) rfl ?_;refine PO.aX rfl (s7 (λ a b=>a != b) rfl rfl (by kernel_rfl) (by kernel_rfl) (by kernel_rfl) (by kernel_rfl)) rfl ?_;refine qN 1 ?_;exact⟨qw [0] [],qs kG⟩
  rintro _ ⟨OA,rfl⟩;refine OA.on (PC.cond rfl (λ _=>?_) (λ h21=>Bool.noConfusion h21));refine qK 2 ?_;cases I;exact .ret (qf [] [])
 have I:=yG I q4;refine PO.call rfl rfl rfl rfl (ks:=[]) (ts:=[]) (fr1:=[]) rfl rfl rfl trivial (L8 k a3 a4 _ e3) ?_;rintro _ _ _ ⟨_,Sz⟩;obtain⟨rfl,rfl,rfl⟩:=Sz _ q4;refine⟨_,_,rfl,rfl,?_⟩;refine qN 5 ?_;refine qL 2 ?_;refine aq I λ QZ xo I=>?_;rcases Zz:QZ.1 with _ | m4
 ·have I:=yF I Zz;refine PO.call rfl rfl rfl rfl (ks:=[]) (ts:=[]) (fr1:=[]) rfl rfl rfl trivial (L9 k a3 a4 _ xo) ?_;rintro _ _ _ ⟨Y7,_⟩;obtain⟨rfl,rfl,rfl⟩:=Y7 Zz;refine⟨_,_,rfl,rfl,?_⟩;refine qN 5 ?_;refine qM 4 ?_;refine aq I λ Wa yS I=>PO.cut 6 (λ s=>bc s (PS.of 189 [(0,lI A),(1,g a1),(2,g Z),(3,g a3),(4,g a4),(10,vB false),(11,vB true),(12,E 0),(14,.val (.pointer none)),(57,vB true)] [R0 m1] [] 0 0)/\()=Wa) ?_ ?_
  ·refine qC 51 yS (λ yS=>?_) λ yS=>?_
   ·refine qN 6 ?_;exact⟨qw [0] [],qs yS⟩
   refine qk 1 [0] [] [(0,lI A),(1,g a1),(2,g Z),(3,g a3),(4,g a4),(10,vB false),(11,vB true),(12,E 0),(14,.val (.pointer none)),(51,vB false),(52,E 0)] [R0 m1] [] ?_;refine PO.aX rfl (pF UB rfl rfl) rfl ?_;refine qR 1 ?_;refine PO.aX rfl (pG Y3 rfl rfl (by kernel_rfl)) rfl ?_;refine PO.aX rfl (s7 (λ a b=>a != b) rfl rfl (by kernel_rfl) (by kernel_rfl) (by kernel_rfl) (by kernel_rfl)) rfl ?_;refine qN 1 ?_;exact⟨qw [0] [],qs yS⟩
  rintro _ ⟨w30,rfl⟩;refine w30.on (PC.cond rfl (λ _=>?_) (λ h31=>Bool.noConfusion h31));refine qK 2 ?_;cases I;exact .ret (qf [] [])
 have I:=yG I Zz;refine PO.call rfl rfl rfl rfl (ks:=[]) (ts:=[]) (fr1:=[]) rfl rfl rfl trivial (L9 k a3 a4 _ xo) ?_;rintro _ _ _ ⟨_,h32⟩;obtain⟨rfl,rfl,rfl⟩:=h32 _ Zz;refine⟨_,_,rfl,rfl,?_⟩;refine qN 5 ?_;refine qM 4 ?_;refine aq I λ Wy td I=>PO.cut 6 (cu (λ v5=>PS.of 189 [(0,lI A),(1,g a1),(2,g Z),(3,g a3),(4,g a4),(10,vB false),(11,vB true),(12,E 0),(14,E 1),(57,vB v5)] [R0 m1,R3 m4] [] 0 0) Wy) ?_ ?_
 ·refine qC 51 td (λ td=>?_) λ td=>?_
  ·exact qW 6 true [0,1] [] td
  refine qk 1 [0,1] [] [(0,lI A),(1,g a1),(2,g Z),(3,g a3),(4,g a4),(10,vB false),(11,vB true),(12,E 0),(14,E 1),(51,vB false),(52,E 0)] [R0 m1,R3 m4] [] ?_;refine PO.aX rfl (pF UB rfl rfl) rfl ?_;refine qR 1 ?_;refine PO.aX rfl (pF Y3 rfl rfl) rfl ?_;refine PO.aX rfl (s7 (λ a b=>a != b) rfl rfl (by kernel_rfl) (by kernel_rfl) (by kernel_rfl) (by kernel_rfl)) rfl ?_;exact qW 1 false [0,1] [] td
 rintro _ ⟨v5,Ss,rfl⟩;refine Ss.on (qD I (λ I=>?_) λ I=>?_)
 ·refine qK 2 ?_;cases I;exact .ret (qf [] [])
 refine .aZ (qM 1 ?_);refine PO.aX rfl (pF UB rfl rfl) rfl ?_;refine qR 2 ?_;refine aq I λ V2 KU I=>qG [] [] (L10 k A _ KU) trivial ?_;refine qN 1 ?_;refine qD I (λ I=>?_) λ I=>?_
 ·refine qK 3 ?_;cases I;exact .ret (qf [] [])
 refine .aZ (qL 1 ?_);refine qS gM ?_;refine qR 1 ?_;refine C5 I λ Y9 Wi h43 I=>PO.one rfl (E2 (c:=dn) (z:=(au.mk 0 ByteArray.empty 0 0 0 0 0 0 0 0 false 0 0)) gM rfl rfl rfl (.val rfl (.val rfl (.val rfl (.val rfl (.val rfl (.val rfl (.val rfl (.val rfl (.val rfl (.val rfl (.val rfl (.val rfl (.val rfl .nil))))))))))))) rfl rfl rfl Y9 Wi h43) rfl ?_;refine qN 1 ?_;refine qL 2 ?_;refine PO.gb (s':=PS.of 189 [(0,lI A),(1,g a1),(2,g Z),(3,g a3),(4,g a4),(10,vB false),(11,vB true),(12,E 0),(14,E 1),(16,.aW 13 (List.map dn (List.replicate (Int.toNat (w ((A.length:Int)+1))) (au.mk 0 ByteArray.empty 0 0 0 0 0 0 0 0 false 0 0))) 0),(69,.aW 13 (List.map dn (List.replicate (Int.toNat (w ((A.length:Int)+1))) (au.mk 0 ByteArray.empty 0 0 0 0 0 0 0 0 false 0 0))) 0),(70,lI A)] [R0 m1,R3 m4] [0] 0 0) (qw [0,1] [0]) ?_;refine yE I λ l6 h44 I=>?_;refine PO.X3 (c:=dn) (L:=List.replicate (Int.toNat (w ((A.length:Int)+1))) (au.mk 0 ByteArray.empty 0 0 0 0 0 0 0 0 false 0 0)) (M:=A) [(0,lI A),(1,g a1),(2,g Z),(3,g a3),(4,g a4),(10,vB false),(11,vB true),(12,E 0),(14,E 1),(16,.aW 13 (List.map dn l6) 0)] (λ _=>rfl) rfl rfl gM rfl rfl rfl h44 rfl rfl rfl (by kernel_rfl) (cc (qO rfl (by kernel_rfl) (by kernel_rfl)) (cc (qO rfl (by kernel_rfl) (by kernel_rfl)) (cc (qO rfl (by kernel_rfl) (by kernel_rfl)) (cc (qO rfl (by kernel_rfl) (by kernel_rfl)) (cc (qO rfl (by kernel_rfl) (by kernel_rfl)) (cc (qO rfl (by kernel_rfl) (by kernel_rfl)) (cc (qO rfl (by kernel_rfl) (by kernel_rfl)) (cc (qO rfl (by kernel_rfl) (by kernel_rfl)) (cc (qO rfl (by kernel_rfl) (by kernel_rfl)) (cc (Y2 rfl rfl) tU)))))))))) ?_;refine .nil (qL 2 ?_);refine qS gM ?_;refine qk 0 [0,1] [0] [(0,lI A),(1,g a1),(2,g Z),(3,g a3),(4,g a4),(10,vB false),(11,vB true),(12,E 0),(14,E 1),(16,.aW 13 (List.map dn l6) 0),(72,.aW 13 (List.map dn l6) 0),(74,g (A.length:Int))] [R0 m1,R3 m4] [0] ?_;refine oE I λ y7 Wm UO I=>PO.aX rfl (pE gM rfl rfl rfl Wm (nj UO)) rfl ?_;refine PO.aX rfl (B0 Try.underlying33 rfl rfl rfl rfl) rfl ?_;refine PO.gb (s':=PS.of 189 [(0,lI A),(1,g a1),(2,g Z),(3,g a3),(4,g a4),(10,vB false),(11,vB true),(12,E 0),(14,E 1),(16,.aW 13 (List.map dn l6) 0),(76,.gW 13 (List.map dn l6) 0 (Int.toNat (A.length:Int)) 0)] [R0 m1,R3 m4] [0] 0 0) (qw [0,1] [0]) ?_;refine yE I λ l8 SA I=>?_;refine PO.GO (c:=dn) (L:=l6) (z:=y7) (z':=(au.mk (-77) y7.cP y7.size y7.dc y7.aB y7.aD y7.depth y7.aw y7.aF y7.value y7.cR y7.bM y7.to_)) (q:=g (-77)) (ps:=[g (-77)]) [(0,lI A),(1,g a1),(2,g Z),(3,g a3),(4,g a4),(10,vB false),(11,vB true),(12,E 0),(14,E 1),(16,.aW 13 (List.map dn l8) 0)] rfl rfl UO (by kernel_rfl) (by kernel_rfl) (by kernel_rfl) rfl rfl (by kernel_rfl) SA rfl rfl rfl (by kernel_rfl) (cc (qO trivial (by kernel_rfl) (by kernel_rfl)) (cc (qO trivial (by kernel_rfl) (by kernel_rfl)) (cc (qO trivial (by kernel_rfl) (by kernel_rfl)) (cc (qO trivial (by kernel_rfl) (by kernel_rfl)) (cc (qO trivial (by kernel_rfl) (by kernel_rfl)) (cc (qO trivial (by kernel_rfl) (by kernel_rfl)) (cc (qO trivial (by kernel_rfl) (by kernel_rfl)) (cc (qO trivial (by kernel_rfl) (by kernel_rfl)) (cc (qO trivial (by kernel_rfl) (by kernel_rfl)) (cc (Y2 trivial rfl) tU)))))))))) ?_;refine .nil (PC.gb (s':=PS.of 189 [(0,lI A),(1,g a1),(2,g Z),(3,g a3),(4,g a4),(10,vB false),(11,vB true),(12,E 0),(14,E 1),(16,lI l8)] [R0 m1,R3 m4] [0] 0 0) (bc.Im 0 13 (l:=List.map dn l8) rfl (by kernel_rfl) (cc (Bp (by kernel_rfl) (by kernel_rfl)) (cc (Bp (by kernel_rfl) (by kernel_rfl)) (cc (Bp (by kernel_rfl) (by kernel_rfl)) (cc (Bp (by kernel_rfl) (by kernel_rfl)) (cc (Bp (by kernel_rfl) (by kernel_rfl)) (cc (Bp (by kernel_rfl) (by kernel_rfl)) (cc (Bp (by kernel_rfl) (by kernel_rfl)) (cc (Bp (by kernel_rfl) (by kernel_rfl)) (cc (Bp (by kernel_rfl) (by kernel_rfl)) (cc (fMw rfl) tU))))))))))) ?_);refine qL 3 ?_;refine qS gM ?_;refine CL I λ h48 h49 h50 I=>?_;generalize Lf:(List.take (Int.toNat (A.length:Int)) l8).drop (Int.toNat 0)=l9 at I;refine PO.aX rfl (vy (l2:=List.map dn l9) gM rfl rfl .none (.some rfl (Int.le_trans h48 h49) rfl) (Int.toNat_le_toNat h49) (sZ h50) (by rw[<- Lf,List.map_drop,List.map_take] <;> first | rfl | simp[w])) rfl ?_;refine qR 2 ?_;refine aq I λ nI e52 I=>?_;refine PO.HR br (λ _=>rfl) rfl rfl rfl rfl (ks:=[0]) (ts:=[]) (fr1:=[R0 m1]) rfl rfl rfl ⟨⟨_,rfl,rfl,rfl⟩,trivial⟩ (L11 k m1 l9 a1 Z _ e52) ?_;rintro _ _ _ ⟨rfl,rfl,rfl⟩;refine⟨_,_,rfl,rfl,?_⟩;refine⟨_,nI.1,1,_,rfl,rfl,by kernel_rfl,?_⟩;refine qX 9 [0,1,2,3] [1] [(0,lI A),(1,g a1),(2,g Z),(3,g a3),(4,g a4),(10,vB false),(11,vB true),(12,E 0),(14,E 1),(16,lI l8),(17,.aW 1 (List.map br nI.1) 0),(18,E 2),(19,E 3)] [R0 nI.2.2.2,R3 m4,Bs nI.2.1,N6 nI.2.2.1] [0] ?_;refine qL 4 ?_;refine aq I λ ij tO I=>qG [1] [] (L12 k m4 A a1 Z _ tO) ⟨⟨_,rfl,rfl,rfl⟩,trivial⟩ ?_;refine qX 9 [0,1,2,3,4,5] [0] [(0,lI A),(1,g a1),(2,g Z),(3,g a3),(4,g a4),(10,vB false),(11,vB true),(12,E 0),(14,E 1),(16,lI l8),(17,.aW 1 (List.map br nI.1) 0),(18,E 2),(19,E 3),(20,lN ij.1),(21,E 4),(22,E 5)] [R0 nI.2.2.2,R3 ij.2.2.2,Bs nI.2.1,N6 nI.2.2.1,Bs ij.2.1,N6 ij.2.2.1] [0] ?_;refine qL 2 ?_;refine aq I λ OD e56 I=>?_;refine PO.Rw rfl rfl rfl rfl (by kernel_rfl) (L13 k nI.1 ij.1 _ e56) ?_;refine qN 1 ?_;refine qL 2 ?_;refine aq I λ r57 xW I=>qG [0,1] [] (L14 k nI.2.2.2 ij.2.2.2 _ xW) ⟨⟨_,rfl,rfl,rfl⟩,⟨⟨_,rfl,rfl,rfl⟩,trivial⟩⟩ ?_;refine qN 1 ?_;refine qM 3 ?_;refine aq I λ x59 SJ I=>PO.cut 22 (cu (λ v10=>PS.of 189 [(0,lI A),(1,g a1),(2,g Z),(3,g a3),(4,g a4),(10,vB false),(11,vB true),(16,lI l8),(17,.aW 1 (List.map br nI.1) 0),(20,lN ij.1),(128,vB v10)] [] [0] 0 0) x59) ?_ ?_
 ·refine qC 106 SJ (λ SJ=>?_) λ SJ=>?_
  ·exact qW 22 true [] [0] SJ
  refine qR 4 ?_;refine aq SJ λ x62 SK SJ=>PO.cut 18 (cu (λ v11=>PS.of 189 [(0,lI A),(1,g a1),(2,g Z),(3,g a3),(4,g a4),(10,vB false),(11,vB true),(16,lI l8),(17,.aW 1 (List.map br nI.1) 0),(20,lN ij.1),(128,vB v11)] [] [0] 0 0) x62) ?_ ?_
  ·refine qC 110 SK (λ SK=>?_) λ SK=>?_
   ·exact qW 18 true [] [0] SK
   refine qk 2 [3,5] [0] [(0,lI A),(1,g a1),(2,g Z),(3,g a3),(4,g a4),(10,vB false),(11,vB true),(16,lI l8),(17,.aW 1 (List.map br nI.1) 0),(19,E 0),(20,lN ij.1),(22,E 1),(110,vB false),(111,.agg (sf nI.2.1)),(112,.agg (sf ij.2.1))] [N6 nI.2.2.1,N6 ij.2.2.1] [0] ?_;refine PO.aX rfl (jz (v:=.bool (!(nI.2.1.fA == ij.2.1.fA && (nI.2.1.kT == ij.2.1.kT && (nI.2.1.kU == ij.2.1.kU && true))))) rfl rfl rfl rfl rfl rfl rfl (by kernel_rfl)) rfl ?_;refine qR 2 ?_;refine aq SK λ UQ sL SK=>PO.cut 13 (cu (λ mT=>PS.of 189 [(0,lI A),(1,g a1),(2,g Z),(3,g a3),(4,g a4),(10,vB false),(11,vB true),(16,lI l8),(17,.aW 1 (List.map br nI.1) 0),(20,lN ij.1),(128,vB mT)] [] [0] 0 0) UQ) ?_ ?_
   ·refine qC 115 sL (λ sL=>?_) λ sL=>?_
    ·exact qW 13 true [] [0] sL
    refine qR 2 ?_;refine PO.aX rfl (jz (v:=.bool (!(nI.2.2.1.aM == ij.2.2.1.aM && (nI.2.2.1.QU == ij.2.2.1.QU && true)))) rfl rfl rfl rfl rfl rfl rfl (by kernel_rfl)) rfl ?_;refine qR 2 ?_;refine aq sL λ x68 SL sL=>PO.cut 8 (cu (λ hH=>PS.of 189 [(0,lI A),(1,g a1),(2,g Z),(3,g a3),(4,g a4),(10,vB false),(11,vB true),(16,lI l8),(17,.aW 1 (List.map br nI.1) 0),(20,lN ij.1),(128,vB hH)] [] [0] 0 0) x68) ?_ ?_
    ·refine qC 120 SL (λ SL=>?_) λ SL=>?_
     ·exact qW 8 true [] [0] SL
     refine qR 2 ?_;refine qS gM ?_;refine qI gM SL λ y14 SL=>?_;refine qN 4 ?_;exact⟨y14.aM != (-77),qw [] [0],qs SL⟩
    rintro _ ⟨hH,w73,rfl⟩;refine w73.on ?_;exact⟨hH,qw [] [0],qs sL⟩
   rintro _ ⟨mT,w74,rfl⟩;refine w74.on ?_;exact⟨mT,qw [] [0],qs SK⟩
  rintro _ ⟨v11,w75,rfl⟩;refine w75.on ?_;exact⟨v11,qw [] [0],qs SJ⟩
 rintro _ ⟨v10,w76,rfl⟩;refine w76.on (qD I (λ I=>?_) λ I=>?_)
 ·refine qK 2 ?_;cases I;exact .ret (qf [] [])
 refine .aZ (qK 2 ?_);refine aq I λ Zi vZ I=>PC.bQ (λ s=>bc s (PS.of 189 [(0,lI A),(1,g a1),(2,g Z),(3,g a3),(4,g a4),(10,vB false),(11,vB true),(16,lI l8),(17,.aW 1 (List.map br nI.1) 0),(20,lN ij.1)] [] [0] 0 0)/\.inl ()=Zi) ?_ ?_
 ·refine PC.loop (λ U8 s=>∃ (iM:Int),bc s (PS.of 189 [(0,lI A),(1,g a1),(2,g Z),(3,g a3),(4,g a4),(10,vB false),(11,vB true),(16,lI l8),(17,.aW 1 (List.map br nI.1) 0),(20,lN ij.1),(25,g iM)] [] [0] 0 0)/\xA k A l8 U8 iM=some Zi) (λ U8 s=>?_) k ⟨0,qw [] [0],vZ⟩;rintro⟨iM,w81,vZ⟩;refine w81.c ?_;obtain _ | U8:=U8
  · rw[xA] at vZ; cases vZ
  rw[xA] at vZ;refine qM 2 ?_;refine qS gM ?_;refine qN 1 ?_;refine qD vZ (λ vZ=>?_) λ vZ=>?_
  ·refine .aZ (PC.block ?_);refine qo [0,1,2,3,4,5,6,7,8] ?_;refine qR 2 ?_;refine qI gM vZ λ tP vZ=>?_;refine qR 3 ?_;refine qI gM vZ λ tQ vZ=>?_;refine qR 1 ?_;refine PO.aX rfl (jz (v:=.bool (!(tP.aM == tQ.aM && (tP.cP == tQ.cP && (tP.size == tQ.size && (tP.dc == tQ.dc && (tP.aB == tQ.aB && (tP.aD == tQ.aD && (tP.depth == tQ.depth && (tP.aw == tQ.aw && (tP.aF == tQ.aF && (tP.value == tQ.value && (tP.cR == tQ.cR && (tP.bM == tQ.bM && (tP.to_ == tQ.to_ && true))))))))))))))) rfl rfl rfl rfl rfl rfl rfl (by kernel_rfl)) rfl ?_;refine .nil (.lone (qD vZ (λ vZ=>?_) λ vZ=>?_))
   ·refine qK 2 ?_;cases vZ;cases I;exact .ret (bk.ct (bh.ret (aC.ct (qf [] []))))
   refine .aZ (PC.skip (bk.end ?_));refine .lone (qr 4 ?_);exact .skip (bh.mk (Nat.lt_succ_self _) ⟨w (iM+1),qw [] [0],vZ⟩)
  exact .exit (bh.exit (aC.eF ⟨qw [] [0],qs vZ⟩))
 rintro _ ⟨w88,rfl⟩;refine w88.c ?_;have I:=fD I;refine qL 2 ?_;refine aq I λ r89 OU I=>?_;rcases q91:r89.1 with _ | WN
 ·have I:=yF I q91;cases I
 have I:=yG I q91;refine PO.call rfl rfl rfl rfl (ks:=[]) (ts:=[]) (fr1:=[]) rfl rfl rfl trivial (L8 k a3 a4 _ OU) ?_;rintro _ _ _ ⟨_,h92⟩;obtain⟨rfl,rfl,rfl⟩:=h92 _ q91;refine⟨_,_,rfl,rfl,?_⟩;refine qN 5 ?_;refine qL 3 ?_;refine qS gM ?_;refine qk 0 [0] [0] [(1,g a1),(2,g Z),(10,vB false),(11,vB true),(17,.aW 1 (List.map br nI.1) 0),(20,lN ij.1),(151,E 0),(152,lI l8),(154,g (A.length:Int))] [R0 WN] [0] ?_;refine CL I λ Zp Zq h95 I=>?_;generalize Ye:(List.take (Int.toNat (A.length:Int)) l8).drop (Int.toNat 0)=Zy at I;refine PO.aX rfl (vy (l2:=List.map dn Zy) gM rfl rfl .none (.some rfl (Int.le_trans Zp Zq) rfl) (Int.toNat_le_toNat Zq) (sZ h95) (by rw[<- Ye,List.map_drop,List.map_take] <;> first | rfl | simp[w])) rfl ?_;refine qR 2 ?_;refine aq I λ Kv e97 I=>?_;refine PO.HR br (λ _=>rfl) rfl rfl rfl rfl (ks:=[0]) (ts:=[]) (fr1:=[R0 WN]) rfl rfl rfl ⟨⟨_,rfl,rfl,rfl⟩,trivial⟩ (L11 k WN Zy a1 Z _ e97) ?_;rintro _ _ _ ⟨rfl,rfl,rfl⟩;refine⟨_,_,rfl,rfl,?_⟩;refine⟨_,Kv.1,1,_,rfl,rfl,by kernel_rfl,?_⟩;refine qX 9 [] [0,1] [(10,vB false),(11,vB true),(17,.aW 1 (List.map br nI.1) 0),(20,lN ij.1),(28,.aW 1 (List.map br Kv.1) 1)] [] [0,0] ?_;refine qK 2 ?_;refine aq I λ Zg vY I=>PC.bQ (λ s=>∃ (DP:List Int),bc s (PS.of 189 [(10,vB false),(11,vB true),(17,.aW 1 (List.map br DP) 0),(20,lN ij.1),(28,.aW 1 (List.map br Kv.1) 1)] [] [0,0] 0 0)/\DP=Zg) ?_ ?_
 ·refine PC.loop (λ JA s=>∃ (iz:List Int) (iQ:Int),bc s (PS.of 189 [(10,vB false),(11,vB true),(17,.aW 1 (List.map br iz) 0),(20,lN ij.1),(28,.aW 1 (List.map br Kv.1) 1),(31,g iQ)] [] [0,0] 0 0)/\xB k JA iz iQ=some Zg) (λ JA s=>?_) k ⟨nI.1,0,qw [] [0,1],vY⟩;rintro⟨iz,iQ,Tw,vY⟩;refine Tw.c ?_;obtain _ | JA:=JA
  · rw[xB] at vY; cases vY
  rw[xB] at vY;refine qM 2 ?_;refine PO.aX rfl (Il kF rfl (List.length_map _)) rfl ?_;refine qN 1 ?_;refine qD vY (λ vY=>?_) λ vY=>?_
  ·refine .aZ (PC.block ?_);refine .lone (qL 2 ?_);refine oE vY λ y29 Tl Js vY=>PO.aX rfl (pE kF rfl rfl rfl Tl (nj Js)) rfl ?_;refine PO.gb (s':=PS.of 189 [(10,vB false),(11,vB true),(17,.aW 1 (List.map br iz) 0),(20,lN ij.1),(28,.aW 1 (List.map br Kv.1) 1),(31,g iQ),(170,.gW 1 (List.map br iz) 0 (Int.toNat iQ) 0)] [] [0,0] 0 0) (qw [] [0,1]) ?_;refine yE vY λ Zx adQ vY=>?_;refine PO.GO (c:=br) (L:=iz) (z:=y29) (z':=(-9)) (q:=g (-9)) (ps:=[g (-9)]) [(10,vB false),(11,vB true),(17,.aW 1 (List.map br Zx) 0),(20,lN ij.1),(28,.aW 1 (List.map br Kv.1) 1),(31,g iQ)] rfl rfl Js (by kernel_rfl) (by kernel_rfl) (by kernel_rfl) rfl rfl (by kernel_rfl) adQ rfl rfl rfl (by kernel_rfl) (cc (qO trivial (by kernel_rfl) (by kernel_rfl)) (cc (qO trivial (by kernel_rfl) (by kernel_rfl)) (cc (Y2 trivial rfl) (cc (qO trivial (by kernel_rfl) (by kernel_rfl)) (cc (qO trivial (by kernel_rfl) (by kernel_rfl)) (cc (qO trivial (by kernel_rfl) (by kernel_rfl)) tU)))))) ?_;refine .nil (PC.skip (bk.end ?_));refine .lone (qr 4 ?_);exact .skip (bh.mk (Nat.lt_succ_self _) ⟨Zx,w (iQ+1),qw [] [0,1],vY⟩)
  exact .exit (bh.exit (aC.eF ⟨iz,qw [] [0,1],qs vY⟩))
 rintro _ ⟨DP,adR,rfl⟩;refine adR.c (.region (qk 2 [] [0,1,2] [(10,vB false),(11,vB true),(17,.aW 1 (List.map br DP) 0),(20,lN ij.1),(28,.aW 1 (List.map br Kv.1) 1),(171,.aW 1 (List.map br DP) 0),(172,.aS 1 (List.map br ([(-8),(-8),(-8),(-8)])) (some 2))] [] [0,0,4] ?_));refine PO.gb (s':=PS.of 189 [(10,vB false),(11,vB true),(17,.aW 1 (List.map br DP) 0),(20,lN ij.1),(28,.aW 1 (List.map br Kv.1) 1),(171,.aW 1 (List.map br DP) 0),(172,.aS 1 (List.map br ([(-8),(-8),(-8),(-8)])) (some 2))] [] [0,0,4] 0 0) (qw [] [0,1,2]) ?_;refine pZ I λ adS I=>?_;generalize Yf:DP++([(-8),(-8),(-8),(-8)])=l31 at I;refine PO.Qp (c:=br) (L:=DP) (M:=[(-8),(-8),(-8),(-8)]) (sz:=1) (bytes:=8) [(10,vB false),(11,vB true),(20,lN ij.1),(28,.aW 1 (List.map br Kv.1) 1)] rfl kF rfl rfl rfl rfl rfl rfl rfl rfl adS Yf rfl rfl (by kernel_rfl) (cc (⟨by kernel_rfl,by kernel_rfl,rfl⟩) (cc (⟨by kernel_rfl,by kernel_rfl,rfl⟩) (cc (⟨by kernel_rfl,by kernel_rfl,rfl⟩) (cc (⟨by kernel_rfl,by kernel_rfl,rfl⟩) tU)))) ?_;refine qN 1 ?_;refine qL 2 ?_;refine aq I λ yi Tn I=>?_;refine PO.Rw rfl rfl rfl rfl (by kernel_rfl) (L13 k Kv.1 ij.1 _ Tn) ?_;refine qN 1 ?_;refine qL 5 ?_;refine aq I λ adT Lr I=>PO.cut 7 (cu (λ DA=>PS.of 189 [(10,vB false),(188,vB DA)] [] [] 0 0) adT) ?_ ?_
 ·refine qC 181 Lr (λ Lr=>?_) λ Lr=>?_
  ·refine qR 1 ?_;refine PO.aX rfl (Il kF rfl (List.length_map _)) rfl ?_;refine qR 1 ?_;refine qS kF ?_;refine qN 3 ?_;exact⟨(l31.length:Int) == (w ((ij.1.length:Int)+4)),qw [] [],qs Lr⟩
  exact qW 7 false [] [] Lr
 rintro _ ⟨DA,adU,rfl⟩;refine adU.o (qN 1 ?_);cases I;exact .cS (qf [] [])
end
end Go.cy.jV
