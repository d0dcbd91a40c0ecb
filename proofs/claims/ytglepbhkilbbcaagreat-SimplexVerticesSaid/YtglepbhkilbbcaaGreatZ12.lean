/-
  Texts of the proof, part 12. Conditions: each lemma names its own.
-/
import Derived.Test.YtglepbhkilbbcaaGreatZ11
import Derived.Test.YtglepbhkilbbcaaGreatZ4
import Derived.Test.YtglepbhkilbbcaaGreatZ5
import Derived.Test.YtglepbhkilbbcaaGreatZ6
import Derived.Test.YtglepbhkilbbcaaGreatZ7
import Derived.Test.YtglepbhkilbbcaaGreatZ8
import Derived.Test.YtglepbhkilbbcaaGreatZ9
import Derived.Maps.RangeWalk
open Go.Proofs.Tryz
set_option linter.unusedVariables false
set_option linter.unusedSimpArgs false
set_option maxRecDepth 100000
set_option maxHeartbeats 16000000
namespace Go.Proofs.YtglepbhkilbbcaaGreat
open Go.RowKit Go.MapKept
open Go.ChangeMaps (setBlock)
theorem Tryz.infoRowA:(prog.info? 51).map (fun i=>(i.zero,i.size,i.bytes))=some (some (.agg #[.string ⟨#[]⟩,.int .i64 0,.int .i64 0,.slice none 0 0,.int .i64 0]),5,64):=by kernel_rfl
theorem Im(g k:Int) (ao:Option Addr) (n c:Nat) (bd:Int):E1 [.string ⟨#[]⟩,.int .i64 g,.int .i64 k,.slice ao n c,.int .i64 bd]:=fun u hu d e=>by
 simp at hu;rcases hu with rfl|rfl|rfl|rfl|rfl<;>cases e
theorem Rt(g k:Int) (ao:Option Addr) (n c:Nat) (bd:Int):∀u∈[Value.string ⟨#[]⟩,.int .i64 g,.int .i64 k,.slice ao n c,.int .i64 bd],u.oneCell'=true:=fun u hu=>by
 simp at hu;rcases hu with rfl|rfl|rfl|rfl|rfl<;>rfl
theorem Pu{m:Nat} (hm:m<=2):O9 2 m 12 1200:=by
 refine⟨by omega,?_⟩;have:m=0∨m=1∨m=2:=by omega
 rcases this with rfl|rfl|rfl<;>decide
theorem Q6:Gh Uq 12 1200:=⟨Pu (m:=1) (by omega),fun i hi=>by
 match i,hi with
 | 0,_=>decide⟩
theorem RQ:Gh Ue 12 1200:=⟨Pu (m:=2) (by omega),fun i hi=>by
 match i,hi with
 | 0,_=>decide
 | 1,_=>decide⟩
theorem Pp{p:AH} {o:Co} {e:Int} (h:GU p o e) (hv:AU p=true):U9 p o=true:=by
 obtain⟨_,h2,h3⟩:=h.chk hv;rw[Uo hv h3];exact h2
theorem De(w:World):Calls prog 10 #[] w (Ak w true):=by
 have HEx:=bH (Mh w);have HFr:=bH (fun W=>show Calls prog 38 #[.int .i64 (-7)] W (Aw W (((-7:Int):Rat))) from CG W (-7) (by decide) (by decide));go_enter func10,ntmps10;go_upto_region 2 with (go_at_call 37;refine HEx.o.mono ?_;rintro r1 w1 ⟨b,rfl,hb,heb,hx1⟩);clear HEx;have hxa:=(AK.refl (fun _=>False) w1).alloc (.cells #[.slice (some ⟨b+1+1,0,none⟩) 2 2,.slice (some ⟨b+1+1+1,0,none⟩) 1 1] 25);have HP2:=bH (bI (heb.keep hxa) (bI (AD w1 (.cells #[.slice (some ⟨b+1+1,0,none⟩) 2 2,.slice (some ⟨b+1+1+1,0,none⟩) 1 1] 25)) (bI (hx1.trans hxa) hb)));have HBp0:=bH (show b+1+1+1<w1.heap.size from AT heb.b3);clear heb hb hx1 hxa;generalize w1.alloc (.cells #[.slice (some ⟨b+1+1,0,none⟩) 2 2,.slice (some ⟨b+1+1+1,0,none⟩) 1 1] 25)=w2 at *;obtain⟨pb,hpb⟩:=bN w1.heap.size;have HPb:=bH (show b+1+1+1<pb from hpb▸HBp0.o);rw[hpb] at HP2 ⊢;clear hpb HBp0;have z0:=AA HP2.o.2.1 0 rfl;have z1:=AA HP2.o.2.1 1 rfl;have HSo:=bH (JR w2 _ Uq 168 1200 HP2.o.1.prg (fun _=>Mi Jd (by decide)) (by decide) (by decide) (by decide) (by decide) (by decide) (by decide) (by decide) (by decide));go_upto_region 3 with (go_at_call 14;refine HSo.o.mono ?_;rintro r3 w3 ⟨v3,o,e,rfl,hsv,hfar,hx3⟩;obtain⟨rfl,hck,hkd⟩:=hsv.chk Jd;obtain⟨hk0,hval⟩:=OQ hck hkd US;obtain⟨ng,a1,m1,c1,a2,m2,c2,Ty,mv5,rv5,e5,ho1,ho2,ho3,ho4,ho5⟩:=hfar.now;obtain⟨po,pc,rfl,-,-,-⟩:=ho2.shape;obtain⟨mo,mc,rfl,-,-,-⟩:=ho3.shape;obtain⟨ro2,rc2,rfl,-,-,-⟩:=ho4.shape;rw[hk0] at e5;subst e5;have HO:=bH (bI hsv (bI hfar.now (bI ho1 (bI hval hx3))));clear hsv hck hkd hk0 hval hfar ho1 ho2 ho3 ho4 ho5 hx3;generalize o.pt.length=pn at *;generalize o.mu.length=mn at *;generalize o.ray.length=rn at *);clear z0 z1 HSo;have hxa:=(AK.refl (fun _=>False) w3).alloc (.cells #[.int .i64 0,.bool ng,.slice a1 m1 c1,.slice a2 m2 c2,.slice po pn pc,.slice mo mn mc,.slice ro2 rn rc2] 37);have hx4:=HO.o.2.2.2.2.trans hxa;have HP4:=bH (bI (HP2.o.1.keep hx4) (bI (AM HP2.o.2.1 hx4) (bI (HP2.o.2.2.1.trans hx4) (bI (AD w3 (.cells #[.int .i64 0,.bool ng,.slice a1 m1 c1,.slice a2 m2 c2,.slice po pn pc,.slice mo mn mc,.slice ro2 rn rc2] 37)) (bI (HO.o.2.1.keep hxa) (HO.o.2.2.1.1.keep hxa))))));have HOb0:=bH (show pb<w3.heap.size from AT (AM HP2.o.2.1 HO.o.2.2.2.2));have HBb:=bH HP2.o.2.2.2;have HV:=bH (bI HO.o.1 (bI HO.o.2.2.1.2 HO.o.2.2.2.1));clear hxa hx4 HP2 HO;generalize w3.alloc (.cells #[.int .i64 0,.bool ng,.slice a1 m1 c1,.slice a2 m2 c2,.slice po pn pc,.slice mo mn mc,.slice ro2 rn rc2] 37)=w4 at *;obtain⟨ob,hob⟩:=bN w3.heap.size;have HOb:=bH (show pb<ob from hob▸HOb0.o);rw[hob] at HP4 ⊢;clear hob HOb0;have HSa:=bH (fun W u (hW:XF w4 W) (hu:AN W u (((-7:Int):Rat)))=>show Calls prog 16 #[.agg #[.bool ng,.slice a1 m1 c1,.slice a2 m2 c2],u] W (Ak W true) from by
  have h9:=Hn W _ u _ _ 1200 (HP4.o.2.2.2.2.2.keep hW) hu HV.o.2.1 ((Sz.int (by unfold EX;decide)).mono (by decide)) (by decide);rw[decide_eq_true (show o.val=(((-7:Int):Rat)) from HV.o.2.2.trans Tm)] at h9;exact h9)
 have HPr:=bH (fun W (hW:XF w4 W)=>show Calls prog 39 #[.agg #[.slice (some ⟨b+1+1,0,none⟩) 2 2,.slice (some ⟨b+1+1+1,0,none⟩) 1 1],.agg #[.int .i64 0,.bool ng,.slice a1 m1 c1,.slice a2 m2 c2,.slice po pn pc,.slice mo mn mc,.slice ro2 rn rc2]] W (Ak W true) from by
  have h9:=Jf W _ _ Uq o 1200 12 (HP4.o.1.prg.keep hW) (HP4.o.2.2.2.2.1.keep hW) Q6;rw[Pp HV.o.1 Jd] at h9;exact h9)
 have d0:=BX (S:=fun _=>False) (AA HP4.o.2.1 0 rfl) id;have d1:=BX (S:=fun _=>False) (AA HP4.o.2.1 1 rfl) id;have e0:=BX (S:=fun _=>False) (AA HP4.o.2.2.2.1 0 rfl) id;have e1:=BX (S:=fun _=>False) (AA HP4.o.2.2.2.1 1 rfl) id;have e2:=BX (S:=fun _=>False) (AA HP4.o.2.2.2.1 2 rfl) id;have e3:=BX (S:=fun _=>False) (AA HP4.o.2.2.2.1 3 rfl) id;have e4:=BX (S:=fun _=>False) (AA HP4.o.2.2.2.1 4 rfl) id;have e5:=BX (S:=fun _=>False) (AA HP4.o.2.2.2.1 5 rfl) id;have e6:=BX (S:=fun _=>False) (AA HP4.o.2.2.2.1 6 rfl) id;simp only[List.getElem_toArray,List.getElem_cons_zero,List.getElem_cons_succ] at d0 d1 e0 e1 e2 e3 e4 e5 e6;refine wp_region_held_drew (S:=(XF w4)) (by kernel_rfl) ((AK.refl _ w4).drew) (fun hHeld=>?_);refine ht 0 (h:=(ht 1 (h:=(ht 2 (h:=?_)))));(try go_frame);refine ht 3 (h:=?_);(try go_frame);refine ht 4 (h:=?_);(try go_frame);refine ht 5 (h:=(ht 6 (h:=(ht 7 (h:=?_)))));(try go_frame);refine ht 8 (h:=?_);(try go_frame);refine ht 9 (h:=?_);(try go_frame);refine Aa 10 (h:=fun K hK=>?_);(go_simp;go_at_call 38;(with_reducible refine (HFr.o _).mono ?_);rintro q1 w11 ⟨v11,rfl,h11,hx11⟩;have hX1:=hHeld.trans hx11;obtain⟨n11,a11,l11,c11,a11',l11',c11',rfl⟩:=h11.shape);refine hK.o _ _ (hX1) (fun hHeld=>?_);clear hK K;(try go_frame);refine Aa 11 (h:=fun K hK=>?_);(go_simp;go_at_call 16;(with_reducible refine (HSa.o _ _ hX1 h11).mono ?_);rintro q2 w12 ⟨rfl,hx12⟩;have hX2:=hX1.trans hx12);refine hK.o _ _ (hX2) (fun hHeld=>?_);clear hK K;(try go_frame);refine ht 12 (h:=(ht 13 (h:=(ht 14 (h:=?_)))));(try go_frame);refine ht 15 (h:=?_);(try go_frame);refine ht 16 (h:=?_);(try go_frame);refine Aa 17 (h:=fun K hK=>?_);(go_simp;go_at_call 39;(with_reducible refine (HPr.o _ hX2).mono ?_);rintro q3 w13 ⟨rfl,hx13⟩;have hX3:=hX2.trans hx13);refine hK.o _ _ (hX3) (fun hHeld=>?_);clear hK K;(try go_frame);refine ht 18 (h:=(ht 19 (h:=?_)));(try go_frame);refine wpAnyH_done (by kernel_rfl) ?_ _;have HP5:=bH (bI (HP4.o.1.keep hX3) (bI (AM HP4.o.2.1 hX3) (bI (HP4.o.2.2.1.trans hX3) (AM HP4.o.2.2.2.1 hX3))));clear d0 d1 e0 e1 e2 e3 e4 e5 e6 HSa HPr HP4 hHeld hX3 hX2 hX1 hx11 hx12 hx13 h11 HV;go_upto_region 5 with fail;obtain⟨w5,hw5⟩:=bN w13;rw[hw5] at HP5 ⊢;clear hw5;have HBp:=bH HP5.o.2.1;have hbpb:b+1+1+1<pb:=HPb.o;have r3:w5.cell? ⟨b+1+1+1,3,none⟩=some (.slice (some ⟨b+1,0,none⟩) 2 2):=AA HP5.o.1.b3 3 rfl;have c1':=BX (S:=fun k=>k=b+1+1+1) (show w5.cell? ⟨pb,1,none⟩=some (.slice (some ⟨b+1+1+1,0,none⟩) 1 1) from AA HP5.o.2.1 1 rfl) (fun e=>by omega);have hpw:pb<w5.heap.size:=AT HP5.o.2.1;have hsw:w.heap.size<=w5.heap.size:=HP5.o.2.2.1.size;have HOw0:=bH (show w.heap.size<=((w5.alloc (.cells ([.string ⟨#[]⟩,.int .i64 0,.int .i64 1,.slice (some ⟨b+1,0,none⟩) 2 2,.int .i64 7]).toArray 51)).drew).heap.size from by simp;omega);have HOw:=bH (show ((w5.alloc (.cells ([.string ⟨#[]⟩,.int .i64 0,.int .i64 1,.slice (some ⟨b+1,0,none⟩) 2 2,.int .i64 7]).toArray 51)).drew).ownsRow w.heap.size 51 5 (.slice (some ⟨b+1+1+1,0,none⟩) 1 1) 1 [.string ⟨#[]⟩,.int .i64 0,.int .i64 0,.slice (some ⟨b+1,0,none⟩) 2 2,.int .i64 4]/\(∀g,(Value.slice (some ⟨b+1+1+1,0,none⟩) 1 1).ownBlock=some g->BN ((w5.alloc (.cells ([.string ⟨#[]⟩,.int .i64 0,.int .i64 1,.slice (some ⟨b+1,0,none⟩) 2 2,.int .i64 7]).toArray 51)).drew) g) from by
  have hk:Au ((w5.alloc (.cells ([.string ⟨#[]⟩,.int .i64 0,.int .i64 1,.slice (some ⟨b+1,0,none⟩) 2 2,.int .i64 7]).toArray 51)).drew) (b+1+1+1)=some (.cells #[.string ⟨#[]⟩,.int .i64 0,.int .i64 0,.slice (some ⟨b+1,0,none⟩) 2 2,.int .i64 4] 51 (0,0)):=AM HP5.o.1.b3 (((AK.refl (fun _=>False) w5).alloc _).drew);have hbb:=HBb.o;exact⟨⟨rfl,.inr ⟨b+1+1+1,1,_,rfl,by omega,hk,Nat.le_refl _,by unfold maxLen;decide,rfl,rfl⟩⟩,fun g hg=>by cases hg;exact Ae hk (Im 0 0 (some ⟨b+1,0,none⟩) 2 2 4)⟩)
 clear hsw;refine Dq 11 (AK (fun k=>k=b+1+1+1) w5) (by kernel_rfl) ((AK.refl _ w5).drew) (fun hHeld=>?_);refine mu 0 (h:=(mu 1 (h:=(mu 2 (h:=(mu 3 (h:=(mu 4 (h:=(mu 5 (h:=?_)))))))))));(try go_frame);refine Ez 6 (h:=fun K hK=>?_);go_simp;refine hK.o _ _ (hHeld) (fun hHeld=>?_);clear hK K;(try go_frame);refine mu 7 (h:=?_);(try go_frame);refine Ez 8 (h:=fun K hK=>?_);go_simp;have hsrc8:∀(j:Nat) (u:Value),([.string ⟨#[]⟩,.int .i64 0,.int .i64 1,.slice (some ⟨b+1,0,none⟩) 2 2,.int .i64 7]:List Value)[j]?=some u->_:=Cm w5 51 [.string ⟨#[]⟩,.int .i64 0,.int .i64 1,.slice (some ⟨b+1,0,none⟩) 2 2,.int .i64 7];refine hK.o _ _ (hHeld.alloc _) (fun hHeld=>?_);clear hK K;(try go_frame);refine Ez 9 (h:=fun K hK=>?_);refine B0 rfl _ _ rfl underlying23 Tryz.infoRowA rfl (Im _ _ _ _ _ _) (by decide) (by decide) w.heap.size (.slice (some ⟨b+1+1+1,0,none⟩) 1 1) 1 [.string ⟨#[]⟩,.int .i64 0,.int .i64 0,.slice (some ⟨b+1,0,none⟩) 2 2,.int .i64 4] rfl HOw.o.1 HOw.o.2 (Im _ _ _ _ _ _) ⟨w5.heap.size,0,none⟩ 1 [.string ⟨#[]⟩,.int .i64 0,.int .i64 1,.slice (some ⟨b+1,0,none⟩) 2 2,.int .i64 7] rfl rfl hsrc8 (Rt _ _ _ _ _ _) (Im _ _ _ _ _ _) (by omega) HOw0.o (fun v20 w20 ha20=>?_);obtain⟨bo20,bc20,rfl⟩:=Ag ha20.own;refine hK.o _ _ (((AK.refl (fun k=>k=b+1+1+1) w5).alloc _).drew.trans (ha20.ext.mono (fun k _ e=>by cases e;rfl))) (fun hHeld=>?_);clear hK K;(try go_frame);refine mu 10 (h:=?_);(try go_frame);have hbo:=(hHeld.blk (AT HBp.o) (show ¬pb=b+1+1+1 by omega)).trans HBp.o;have t1:=AA hbo 1 rfl;have f1:=AC hbo 1;refine ml 11 (h:=fun K hK=>?_);go_simp;refine hK.o _ _ ?_;clear hK K;(try go_frame);refine Dr (by kernel_rfl) ?_ _;have hx6:AK (fun k=>k=b+1+1+1∨k=pb) w5 (w20.setCell ⟨pb,1,none⟩ (.slice bo20 2 bc20)):=(hHeld.mono (fun _ _ h=>Or.inl h)).setCell (p:=⟨pb,1,none⟩) _ (fun _=>Or.inr rfl);have hpo:pb<ob:=HOb.o;have hgo:∀g,(Value.slice bo20 2 bc20).ownBlock=some g->g≠pb/\g≠ob:=fun g hg=>by
  have ho:ob<w5.heap.size:=AT HP5.o.2.2.2;rcases ha20.new g hg with h9|h9
  ·have h9':b+1+1+1=g:=Option.some.inj h9;omega
  simp at h9;omega
 have HP6:=bH (show Au (w20.setCell ⟨pb,1,none⟩ (.slice bo20 2 bc20)) (b+1)=some (.cells #[.int .i64 0,.int .i64 1,.int .i64 1,.int .i64 1] 95 (0,0))/\Au (w20.setCell ⟨pb,1,none⟩ (.slice bo20 2 bc20)) (b+1+1)=some (.cells #[.int .i64 0,.int .i64 3,.bool false,.bool false,.int .i64 (-1),.int .i64 0,.int .i64 3,.bool false,.bool false,.int .i64 (-2)] 77 (0,0))/\(w20.setCell ⟨pb,1,none⟩ (.slice bo20 2 bc20)).ownsRow w.heap.size 51 5 (.slice bo20 2 bc20) 2 [.string ⟨#[]⟩,.int .i64 0,.int .i64 0,.slice (some ⟨b+1,0,none⟩) 2 2,.int .i64 4,.string ⟨#[]⟩,.int .i64 0,.int .i64 1,.slice (some ⟨b+1,0,none⟩) 2 2,.int .i64 7]/\Au (w20.setCell ⟨pb,1,none⟩ (.slice bo20 2 bc20)) pb=some (.cells #[.slice (some ⟨b+1+1,0,none⟩) 2 2,.slice bo20 2 bc20] 25 (0,0))/\Au (w20.setCell ⟨pb,1,none⟩ (.slice bo20 2 bc20)) ob=some (.cells #[.int .i64 0,.bool ng,.slice a1 m1 c1,.slice a2 m2 c2,.slice po pn pc,.slice mo mn mc,.slice ro2 rn rc2] 37 (0,0))/\XF w (w20.setCell ⟨pb,1,none⟩ (.slice bo20 2 bc20)) from
  ⟨(hx6.blk (AT HP5.o.1.b1) (by omega)).trans HP5.o.1.b1,(hx6.blk (AT HP5.o.1.b2) (by omega)).trans HP5.o.1.b2,C9 ha20.own ((AK.refl (fun k=>k=pb) w20).setCell (p:=⟨pb,1,none⟩) _ (fun _=>rfl)) (fun g hg e=>(hgo g hg).1 e),(by simpa using AI hbo 1 (.slice bo20 2 bc20)),(hx6.blk (AT HP5.o.2.2.2) (by omega)).trans HP5.o.2.2.2,HP5.o.2.2.1.own hx6 (fun k e=>by
   have h8:=HBb.o;have h9:=HP5.o.2.2.1.size;rcases e with e|e<;>omega)⟩)
 have HGo:=bH hgo;clear hx6 hgo ha20 hHeld t1 f1 hbo HOw HOw0 HBp c1' r3 hpw HP5;generalize (w20.setCell ⟨pb,1,none⟩ (.slice bo20 2 bc20))=w6 at *;have z0:w6.cell? ⟨pb,0,none⟩=some (.slice (some ⟨b+1+1,0,none⟩) 2 2):=AA HP6.o.2.2.2.1 0 rfl;have z1:w6.cell? ⟨pb,1,none⟩=some (.slice bo20 2 bc20):=AA HP6.o.2.2.2.1 1 rfl;have HSo:=bH (JR w6 _ Ue 168 1200 (QD HP6.o.1 HP6.o.2.1 HP6.o.2.2.1) (fun _=>Mi Jb (by decide)) (by decide) (by decide) (by decide) (by decide) (by decide) (by decide) (by decide) (by decide));go_upto_region 7 with (go_at_call 14;refine HSo.o.mono ?_;rintro r7 w7 ⟨v7,o7,e7,rfl,hsv,hfar,hx7⟩;obtain⟨rfl,hck,hkd⟩:=hsv.chk Jb;have hk0:=Nh hck hkd Td;obtain⟨ng7,x1,y1,z1',x2,y2,z2',Ty,mv5,rv5,e5,ho1,ho2,ho3,ho4,ho5⟩:=hfar.now;obtain⟨po7,pc7,rfl,-,-,-⟩:=ho2.shape;obtain⟨mo7,mc7,rfl,-,-,-⟩:=ho3.shape;obtain⟨ro7,rc7,rfl,-,-,-⟩:=ho4.shape;rw[hk0] at e5;subst e5;have HO:=bH (bI hsv (bI hfar hx7));clear hsv hck hkd hk0 hfar ho1 ho2 ho3 ho4 ho5;generalize o7.pt.length=pn7 at *;generalize o7.mu.length=mn7 at *;generalize o7.ray.length=rn7 at *;have hbo:=AM HP6.o.2.2.2.2.1 hx7;clear hx7;have t0:=AA hbo 0 rfl;have t1:=AA hbo 1 rfl;have t2:=AA hbo 2 rfl;have t3:=AA hbo 3 rfl;have t4:=AA hbo 4 rfl;have t5:=AA hbo 5 rfl;have t6:=AA hbo 6 rfl;have f0:=AC hbo 0;have f1:=AC hbo 1;have f2:=AC hbo 2;have f3:=AC hbo 3;have f4:=AC hbo 4;have f5:=AC hbo 5;have f6:=AC hbo 6);have HPo:=bH (C8 (w:=w7) hbo (.int .i64 1) (.bool ng7) (.slice x1 y1 z1') (.slice x2 y2 z2') (.slice po7 pn7 pc7) (.slice mo7 mn7 mc7) (.slice ro7 rn7 rc7));have hnd:BN w7 ob:=Ae hbo (fun u hu d e=>by
  simp only[List.mem_cons,List.not_mem_nil,or_false] at hu;rcases hu with rfl|rfl|rfl|rfl|rfl|rfl|rfl<;>cases e)
 have HP8:=bH (show Ba (((((((w7.setCell ⟨ob,0,none⟩ (.int .i64 1)).setCell ⟨ob,1,none⟩ (.bool ng7)).setCell ⟨ob,2,none⟩ (.slice x1 y1 z1')).setCell ⟨ob,3,none⟩ (.slice x2 y2 z2')).setCell ⟨ob,4,none⟩ (.slice po7 pn7 pc7)).setCell ⟨ob,5,none⟩ (.slice mo7 mn7 mc7)).setCell ⟨ob,6,none⟩ (.slice ro7 rn7 rc7)) (.agg #[.slice (some ⟨b+1+1,0,none⟩) 2 2,.slice bo20 2 bc20]) Ue/\Au (((((((w7.setCell ⟨ob,0,none⟩ (.int .i64 1)).setCell ⟨ob,1,none⟩ (.bool ng7)).setCell ⟨ob,2,none⟩ (.slice x1 y1 z1')).setCell ⟨ob,3,none⟩ (.slice x2 y2 z2')).setCell ⟨ob,4,none⟩ (.slice po7 pn7 pc7)).setCell ⟨ob,5,none⟩ (.slice mo7 mn7 mc7)).setCell ⟨ob,6,none⟩ (.slice ro7 rn7 rc7)) pb=some (.cells #[.slice (some ⟨b+1+1,0,none⟩) 2 2,.slice bo20 2 bc20] 25 (0,0))/\IB (((((((w7.setCell ⟨ob,0,none⟩ (.int .i64 1)).setCell ⟨ob,1,none⟩ (.bool ng7)).setCell ⟨ob,2,none⟩ (.slice x1 y1 z1')).setCell ⟨ob,3,none⟩ (.slice x2 y2 z2')).setCell ⟨ob,4,none⟩ (.slice po7 pn7 pc7)).setCell ⟨ob,5,none⟩ (.slice mo7 mn7 mc7)).setCell ⟨ob,6,none⟩ (.slice ro7 rn7 rc7)) (.agg #[.int .i64 1,.bool ng7,.slice x1 y1 z1',.slice x2 y2 z2',.slice po7 pn7 pc7,.slice mo7 mn7 mc7,.slice ro7 rn7 rc7]) o7 1200/\XF w (((((((w7.setCell ⟨ob,0,none⟩ (.int .i64 1)).setCell ⟨ob,1,none⟩ (.bool ng7)).setCell ⟨ob,2,none⟩ (.slice x1 y1 z1')).setCell ⟨ob,3,none⟩ (.slice x2 y2 z2')).setCell ⟨ob,4,none⟩ (.slice po7 pn7 pc7)).setCell ⟨ob,5,none⟩ (.slice mo7 mn7 mc7)).setCell ⟨ob,6,none⟩ (.slice ro7 rn7 rc7)) from by
  have hx7:=HO.o.2.2;have hx8:=(hx7.mono (T:=fun k=>k=ob) (fun _ _ h=>h.elim)).trans HPo.o.2;have k1:=(hx8.blk (AT HP6.o.1) (show ¬b+1=ob by omega)).trans HP6.o.1;have k2:=(hx8.blk (AT HP6.o.2.1) (show ¬b+1+1=ob by omega)).trans HP6.o.2.1;have k3:=C9 HP6.o.2.2.1 hx8 (fun g hg e=>(HGo.o g hg).2 e);refine⟨QD k1 k2 k3,(hx8.blk (AT HP6.o.2.2.2.1) (show ¬pb=ob by omega)).trans HP6.o.2.2.2.1,HO.o.2.1 (fun k=>k=ob) _ HPo.o.2 (fun k e=>by
   have e':k=ob:=e;rw[e'];exact AT HP6.o.2.2.2.2.1) (fun u d h=>h.past HPo.o.2 (fun k _ e=>by have e':k=ob:=e;subst e';exact hnd)),HP6.o.2.2.2.2.2.own hx8 (fun k e=>?_)⟩
  have e':k=ob:=e;have h8:=HBb.o;omega)
 clear t0 t1 t2 t3 t4 t5 t6 f0 f1 f2 f3 f4 f5 f6 hbo hnd z0 z1 HSo;generalize (((((((w7.setCell ⟨ob,0,none⟩ (.int .i64 1)).setCell ⟨ob,1,none⟩ (.bool ng7)).setCell ⟨ob,2,none⟩ (.slice x1 y1 z1')).setCell ⟨ob,3,none⟩ (.slice x2 y2 z2')).setCell ⟨ob,4,none⟩ (.slice po7 pn7 pc7)).setCell ⟨ob,5,none⟩ (.slice mo7 mn7 mc7)).setCell ⟨ob,6,none⟩ (.slice ro7 rn7 rc7))=w8 at *;have HPr:=bH (fun W (hW:XF w8 W)=>show Calls prog 39 #[.agg #[.slice (some ⟨b+1+1,0,none⟩) 2 2,.slice bo20 2 bc20],.agg #[.int .i64 1,.bool ng7,.slice x1 y1 z1',.slice x2 y2 z2',.slice po7 pn7 pc7,.slice mo7 mn7 mc7,.slice ro7 rn7 rc7]] W (Ak W true) from by
  have h9:=Jf W _ _ Ue o7 1200 12 (HP8.o.1.keep hW) (HP8.o.2.2.1.keep hW) RQ;rw[Pp HO.o.1 Jb] at h9;exact h9)
 have d0:=BX (S:=fun _=>False) (show w8.cell? ⟨pb,0,none⟩=some (.slice (some ⟨b+1+1,0,none⟩) 2 2) from AA HP8.o.2.1 0 rfl) id;have d1:=BX (S:=fun _=>False) (show w8.cell? ⟨pb,1,none⟩=some (.slice bo20 2 bc20) from AA HP8.o.2.1 1 rfl) id;have e0:=BX (S:=fun _=>False) (show w8.cell? ⟨ob,0,none⟩=some (.int .i64 1) from AA HPo.o.1 0 rfl) id;have e1:=BX (S:=fun _=>False) (show w8.cell? ⟨ob,1,none⟩=some (.bool ng7) from AA HPo.o.1 1 rfl) id;have e2:=BX (S:=fun _=>False) (show w8.cell? ⟨ob,2,none⟩=some (.slice x1 y1 z1') from AA HPo.o.1 2 rfl) id;have e3:=BX (S:=fun _=>False) (show w8.cell? ⟨ob,3,none⟩=some (.slice x2 y2 z2') from AA HPo.o.1 3 rfl) id;have e4:=BX (S:=fun _=>False) (show w8.cell? ⟨ob,4,none⟩=some (.slice po7 pn7 pc7) from AA HPo.o.1 4 rfl) id;have e5:=BX (S:=fun _=>False) (show w8.cell? ⟨ob,5,none⟩=some (.slice mo7 mn7 mc7) from AA HPo.o.1 5 rfl) id;have e6:=BX (S:=fun _=>False) (show w8.cell? ⟨ob,6,none⟩=some (.slice ro7 rn7 rc7) from AA HPo.o.1 6 rfl) id;replace d0:=d0 w8 (AK.refl _ _);replace d1:=d1 w8 (AK.refl _ _);replace e0:=e0 w8 (AK.refl _ _);replace e1:=e1 w8 (AK.refl _ _);replace e2:=e2 w8 (AK.refl _ _);replace e3:=e3 w8 (AK.refl _ _);replace e4:=e4 w8 (AK.refl _ _);replace e5:=e5 w8 (AK.refl _ _);replace e6:=e6 w8 (AK.refl _ _);go_wp2_with (go_at_call 39;refine (HPr.o _ (AK.refl _ _)).mono ?_;rintro q3 w13 ⟨rfl,hx13⟩);go_ret;exact⟨rfl,HP8.o.2.2.2.trans hx13⟩
theorem S9{n m:Nat} (hn:n<=6) (hm:m<=8):O9 n m 12 1200:=by
 refine⟨by omega,?_⟩;have e1:m*(12*(1200+3)+2)<=8*14438:=Nat.mul_le_mul hm (by omega);have e2:(n+1)*(m*(12*(1200+3)+2)+7)<=7*115511:=Nat.mul_le_mul (by omega) (by omega);have e3:m*(1200+3)<=8*1203:=Nat.mul_le_mul hm (by omega);have e4:n*(1200+3)<=6*1203:=Nat.mul_le_mul hn (by omega);omega
theorem QS{p:AH} (h:G7 p 6 8=true):Gh p 12 1200/\p.vars.length<=6/\p.rows.length<=8:=by
 unfold G7 at h;simp only[Bool.and_eq_true,decide_eq_true_eq,List.all_eq_true] at h;refine⟨⟨S9 h.1.2 h.2,fun i hi=>?_⟩,h.1.2,h.2⟩;have hm:p.r i∈p.rows:=by
  unfold AH.r;rw[BZ hi];exact List.getElem_mem hi
 have:=h.1.1 _ hm;unfold Hr at this;simp only[Bool.and_eq_true,decide_eq_true_eq] at this;omega
theorem Q3(w:World) (pv:Value) (p:AH) (hp:Ba w pv p) (h:G7 p 6 8=true):Calls prog 14 #[pv] w (Fe w p 1200):=by
 obtain⟨_,hn,hm⟩:=QS h;have h1:(p.vars.length+1)*(168+8)<=7*(168+8):=Nat.mul_le_mul_right _ (by omega);have h2:(p.vars.length+1)*(168+1)<=7*(168+1):=Nat.mul_le_mul_right _ (by omega);have h3:p.vars.length*(168+6)<=6*(168+6):=Nat.mul_le_mul_right _ hn;exact JR w pv p 168 1200 hp (fun hv=>Mi hv hn) (by omega) (by omega) (by omega) (by omega) (by omega) (by omega) (by omega) (by omega)
theorem Ba.slices5{w:World} {pv:Value} {p:AH} (h:Ba w pv p):∃vo vn vc ro rn rc,pv=.agg #[.slice vo vn vc,.slice ro rn rc]:=by
 obtain⟨vv,rv,rfl,hv,hr⟩:=h;obtain⟨vo,vc,rfl,-⟩:=hv.shape;obtain⟨ro,rc,rfl,-⟩:=hr.shape;exact⟨_,_,_,_,_,_,rfl⟩
abbrev RT:=DD×Value
section
variable {B:Nat} {y:RT} {oa:Option (List Ey)} {ob:Option (List RT)} {c d:Bool} {w5 w w':World} {vA vB vC vD:Value}
end
section
variable {β:Type} {f:β->List Value} {T ts:TypeId}
end
theorem BC{P:Program} {md:Region.Mode} {l:List Oper} {Q:Exit->Act->World->Prop} {S:World->Prop} {fuel:Nat} {listed:Array Bool} {a:Act} {w:World} {i:Nat} {o:Oper} {rs:List Nat} (ho:l[i]?=some o)
  (h:∀K':Act->World->Prop,Shut (∀a w,S w->(S w->wpAnyH P md l.toArray Q S fuel (listed.setIfInBounds i true) a w)->K' a w)->if Region.wanted o (yielded l.toArray a.tmps)=true then Oper.wp P o a w K' Q else K' (a.put o.dst undef) w)
  (hs:AllReadyH P md l.toArray Q S fuel listed a w rs):AllReadyH P md l.toArray Q S fuel listed a w (i::rs):=AllReadyH.cons (by simpa using ho) h hs
theorem N4{P:Program} {md:Region.Mode} {l:List Oper} {Q:Exit->Act->World->Prop} {S:World->Prop} (T:Act->Nat->Array Bool->Act->World->Prop) (a0:Act)
  (h0:∀listed a w,¬T a0 0 listed a w)
  (hT:∀fuel,(∀m,m<=fuel->∀listed a w,T a0 m listed a w->wpAnyH P md l.toArray Q S m listed a w)->∀listed a w,T a0 (fuel+1) listed a w->wpAnyH P md l.toArray Q S (fuel+1) listed a w)
  {fuel:Nat} {listed:Array Bool} {w:World} (h:T a0 fuel listed a0 w):wpAnyH P md l.toArray Q S fuel listed a0 w:=by
 have key:∀n m:Nat,m<=n->∀listed a w,T a0 m listed a w->wpAnyH P md l.toArray Q S m listed a w:=fun n=>by
  induction n with
  | zero =>
   intro m hm listed a w h;obtain rfl:m=0:=(by omega);exact absurd h (h0 listed a w)
  | succ n ih =>
   intro m hm listed a w h;by_cases e:m<=n
   ·exact ih m e listed a w h
   obtain rfl:m=n+1:=(by omega);exact hT n ih listed a w h
 exact key fuel fuel (Nat.le_refl _) _ _ _ h
structure DY where
 ga:Option Addr
 gn:Nat
 gc:Nat
 b:BW
def DY.cells(x:DY):List Value:=[.slice x.ga x.gn x.gc,.bool x.b.ng,.slice x.b.a1 x.b.m1 x.b.c1,.slice x.b.a2 x.b.m2 x.b.c2]
theorem Gg(x:DY):E1 x.cells:=fun u hu d e=>by subst e;simp[DY.cells] at hu
theorem LP(x:DY):∀u∈x.cells,u.oneCell'=true:=fun u hu=>by
 simp[DY.cells] at hu;rcases hu with rfl|rfl|rfl|rfl<;>rfl
theorem J5(xs:List DY):E1 (xs.flatMap DY.cells):=fun u hu=>by
 obtain⟨x,_,hx⟩:=List.mem_flatMap.1 hu;exact Gg x u hx
theorem Tryz.infoPlane:(prog.info? 134).map (fun i=>(i.zero,i.size,i.bytes))=some (some (.agg #[.slice none 0 0,.bool false,.slice none 0 0,.slice none 0 0]),4,80):=by kernel_rfl
def EW(w:World) (n:Nat) (x:DY) (e:CR):Prop:=∃g,x.ga=some ⟨g,0,none⟩/\x.gn=n/\n<=x.gc/\x.gc<=maxLen/\B9 w g n e.1/\AN w x.b.v e.2
theorem EW.keep{w w':World} {n:Nat} {x:DY} {e:CR} (h:EW w n x e) (hx:XF w w'):EW w' n x e:=by
 obtain⟨g,h1,h2,h3,h4,h5,h6⟩:=h;exact⟨g,h1,h2,h3,h4,h5.keep hx,h6.keep hx⟩
theorem EW.app{w w':World} {n:Nat} {x:DY} {e:CR} {v:Value} (h:EW w n x e) (hx:AK (fun k=>v.ownBlock=some k) w w') (ht:∀k,v.ownBlock=some k->DT w k 134) (hr:∀u d,Ad w u d->Ad w' u d):EW w' n x e:=by
 obtain⟨g,h1,h2,h3,h4,h5,h6⟩:=h;refine⟨g,h1,h2,h3,h4,h5.past hx (fun e'=>?_) hr,h6.past hr⟩;obtain⟨arr,ha,_⟩:=h5.row;exact DT.ne ⟨arr,ha⟩ (ht g e') (by decide) rfl
structure Ds(w0 w:World) (v:Value) (n:Nat) (xs:List DY) (es:List CR):Prop where
 ext:XF w0 w
 len:xs.length=es.length
 own:w.ownsRow w0.heap.size 134 4 v xs.length (xs.flatMap DY.cells)
 all:∀(i:Nat) x e,xs[i]?=some x->es[i]?=some e->EW w n x e
 noDig:∀g,v.ownBlock=some g->BN w g
theorem UT{w:World} {base:Nat} {T:TypeId} {s n:Nat} {v:Value} {xs:List Value} (h:w.ownsRow base T s v n xs):∀g,v.ownBlock=some g->DT w g T:=fun g hg=>by
 rcases h.2 with⟨rfl,_⟩|⟨g2,cap,cur,rfl,_,h2,_⟩
 ·cases hg
 cases hg;exact⟨_,h2⟩
section
variable {w0 w w':World} {v v':Value} {n:Nat} {xs:List DY} {es:List CR} {x:DY} {e:CR}
theorem Ds.keep(h:Ds w0 w v n xs es) (hx:XF w w'):Ds w0 w' v n xs es :=
 ⟨h.ext.trans hx,h.len,C9 h.own hx (fun _ _ e=>e),fun i x e h1 h2=>(h.all i x e h1 h2).keep hx,fun g hg i d hc=>h.noDig g hg i d (by
  have hlt:=(World.ownsRow.lt h.own g hg).2;rw[<- hx.cell (p:=⟨g,i,none⟩) hlt id];exact hc)⟩
theorem Ds.push(h:Ds w0 w v n xs es) (ha:Le w w' w0.heap.size 134 4 v v' xs.length (xs.flatMap DY.cells) x.cells) (hp:EW w n x e):Ds w0 w' v' n (xs++[x]) (es++[e]):=by
 have hty:=UT h.own;refine⟨h.ext.own ha.ext (fun k e=>(World.ownsRow.lt h.own k e).1),by rw[List.length_append,List.length_append,h.len];rfl,?_,fun i y f h1 h2=>?_,ha.noDig⟩
 ·rw[List.length_append,List.flatMap_append];simpa using ha.own
 by_cases hi:i<xs.length
 ·rw[List.getElem?_append_left hi] at h1;rw[List.getElem?_append_left (by rw[<- h.len];exact hi)] at h2;exact (h.all i y f h1 h2).app ha.ext hty ha.rds
 have hl:=(List.getElem?_eq_some_iff.1 h1).1;rw[List.length_append] at hl;obtain rfl:i=xs.length:=(by simp at hl;omega);rw[List.getElem?_concat_length] at h1;rw[h.len,List.getElem?_concat_length] at h2;cases h1;cases h2;exact hp.app ha.ext hty ha.rds
theorem Ds.start(hx:XF w0 w):Ds w0 (w.alloc (.cells #[] 134)) (.slice (some ⟨w.heap.size,0,none⟩) 0 0) n [] [] :=
 ⟨hx.trans ((AK.refl (fun _=>False) w).alloc _),rfl,BU 4 hx.size (AD _ _),fun i x e h=>(by cases h),fun g hg=>(by cases hg;exact Ae (AD _ _) (fun u hu=>by simp at hu))⟩
end
structure MH(w0 w:World) (gb gA n:Nat) (b:BW) (q:Rat) (f:Nat->Rat):Prop where
 ext:XF w0 w
 box:Au w gb=some (.cells #[.slice (some ⟨gA,0,none⟩) n n,.bool b.ng,.slice b.a1 b.m1 b.c1,.slice b.a2 b.m2 b.c2] 134 (0,0))
 arr:BT w gA n f
 rat:AN w b.v q
 low:w0.heap.size<=gb/\w0.heap.size<=gA
 cap:n<=maxLen
section
variable {w0 w w':World} {gb gA n:Nat} {b b':BW} {q q':Rat} {f f':Nat->Rat}
theorem MH.keep(h:MH w0 w gb gA n b q f) (hx:XF w w'):MH w0 w' gb gA n b q f:=⟨h.ext.trans hx,AM h.box hx,h.arr.keep hx,h.rat.keep hx,h.low,h.cap⟩
theorem MH.congr(h:MH w0 w gb gA n b q f) (hf:∀i,i<n->f i=f' i):MH w0 w gb gA n b q f':=⟨h.ext,h.box,h.arr.congr hf,h.rat,h.low,h.cap⟩
theorem MH.ne(h:MH w0 w gb gA n b q f):gA≠gb:=by
 obtain⟨arr,h1,_⟩:=h.arr.row;exact DT.ne ⟨arr,h1⟩ ⟨_,h.box⟩ (by decide)
theorem MH.put(h:MH w0 w gb gA n b q f) {j:Nat} (hj:j<n) {neg:Bool} {a1 a2:Option Addr} {m1 c1 m2 c2:Nat} {r:Rat} (hr:AN w (.agg #[.bool neg,.slice a1 m1 c1,.slice a2 m2 c2]) r) :
  MH w0 (((w.setCell ⟨gA,j*3,none⟩ (.bool neg)).setCell ⟨gA,j*3+1,none⟩ (.slice a1 m1 c1)).setCell ⟨gA,j*3+2,none⟩ (.slice a2 m2 c2)) gb gA n b q (fun k=>if k=j then r else f k):=by
 obtain⟨h1,h2,h3⟩:=h.arr.put hj hr;have hl:=h.low;exact⟨h.ext.own h2 (fun k e=>by have e':k=gA:=e;omega),(h2.blk (AT h.box) (fun e=>h.ne e.symm)).trans h.box,h1,h.rat.past h3,h.low,h.cap⟩
theorem MH.putB(h:MH w0 w gb gA n b q f) (hr:AN w b'.v q') :
  MH w0 (((w.setCell ⟨gb,1,none⟩ (.bool b'.ng)).setCell ⟨gb,2,none⟩ (.slice b'.a1 b'.m1 b'.c1)).setCell ⟨gb,3,none⟩ (.slice b'.a2 b'.m2 b'.c2)) gb gA n b' q' f:=by
 have hx:=(((AK.refl (fun k=>k=gb) w).setCell (p:=⟨gb,1,none⟩) (.bool b'.ng) (fun _=>rfl)).setCell (p:=⟨gb,2,none⟩) (.slice b'.a1 b'.m1 b'.c1) (fun _=>rfl)).setCell (p:=⟨gb,3,none⟩) (.slice b'.a2 b'.m2 b'.c2) (fun _=>rfl);have hrd:∀v l,Ad w v l->Ad _ v l:=fun v l hv=>hv.past hx (fun k _ e=>by
  have e':k=gb:=e;subst e';exact Ae h.box (fun u hu d e=>by subst e;simp at hu))
 have hl:=h.low;exact⟨h.ext.own hx (fun k e=>by have e':k=gb:=e;omega),AI (AI (AI h.box 1 _) 2 _) 3 _,h.arr.past hx h.ne hrd,hr.past hrd,h.low,h.cap⟩
theorem MH.pln(h:MH w0 w gb gA n b q f):EW w n ⟨some ⟨gA,0,none⟩,n,n,b⟩ (f,q):=⟨gA,rfl,rfl,Nat.le_refl _,h.cap,h.arr.cap,h.rat⟩
end
def S8(r:DD) (k i:Nat):Rat:=AG k fun q=>if (r.t q).var=(i:Int) then ((r.t q).coef:Rat) else 0
theorem QN(r:DD):S8 r r.terms.length=UL r:=rfl
theorem LR{n:Int}:∀{l:List B1} {last:Int},Bq n last l=true->(∀k,k<l.length->last<(l.getD k AW).var)/\∀i j,i<j->j<l.length->(l.getD i AW).var<(l.getD j AW).var
 | [],_,_=>⟨fun k hk=>absurd hk (Nat.not_lt_zero k),fun i j _ hj=>absurd hj (Nat.not_lt_zero j)⟩
 | t::l,last,h=>by
  unfold Bq at h;simp only[Bool.and_eq_true,decide_eq_true_eq] at h;obtain⟨h1,h2⟩:=LR (l:=l) (last:=t.var) h.2;have h0:last<t.var:=(by omega);refine⟨fun k hk=>?_,fun i j hij hj=>?_⟩
  ·cases k with
   | zero=>exact h0
   | succ k =>
    have h3:t.var<(l.getD k AW).var:=h1 k (by simpa using hk);show last<(l.getD k AW).var;omega
  cases j with
  | zero=>omega
  | succ j =>
   cases i with
   | zero=>exact h1 j (by simpa using hj)
   | succ i=>exact h2 i j (by omega) (by simpa using hj)
theorem Ng{n:Int} {r:DD} {k J:Nat} (h:Cx n r=true) (hk:k<r.terms.length) (hJ:(r.t k).var=J) (i:Nat):(if i=J then ((r.t k).coef:Rat) else S8 r k i)=S8 r (k+1) i:=by
 unfold Cx at h;simp only[Bool.and_eq_true] at h;have hlt:=(LR h.2).2;show _=S8 r k i+(if (r.t k).var=(i:Int) then ((r.t k).coef:Rat) else 0);by_cases e:i=J
 ·subst e;rw[if_pos rfl,if_pos hJ];have h0:S8 r k i=0:=Af fun q hq=>by
   rw[if_neg (fun e=>?_)];have h1:(r.t q).var<(r.t k).var:=hlt q k hq hk;omega
  rw[h0];grind
 rw[if_neg e,if_neg (by omega)];grind
structure B7(n:Nat) (q:Rat) (c3 c10 c12:Bool) (wd wx:World) (vA vB vC:Value):Prop where
 ext:XF wd wx
 a:c3=true->∃g,vA=.slice (some ⟨g,0,none⟩) n n/\BT wx g n (fun _=>0)/\wd.heap.size<=g
 b:c10=true->AN wx vB q
 c:c12=true->∃g,vC=.pointer (some ⟨g,0,none⟩)/\Au wx g=some (.cells #[.slice none 0 0,.bool false,.slice none 0 0,.slice none 0 0] 134 (0,0))/\wd.heap.size<=g
section
variable {n:Nat} {q:Rat} {c3 c10 c12:Bool} {wd wx w':World} {vA vB vC:Value}
theorem B7.start(w:World):B7 n q false false false w w undef undef undef:=⟨AK.refl _ _,(fun h=>by cases h),(fun h=>by cases h),(fun h=>by cases h)⟩
theorem B7.keep(h:B7 n q c3 c10 c12 wd wx vA vB vC) (hx:XF wx w'):B7 n q c3 c10 c12 wd w' vA vB vC :=
 ⟨h.ext.trans hx,fun e=>(by obtain⟨g,h1,h2,h3⟩:=h.a e;exact⟨g,h1,h2.keep hx,h3⟩),fun e=>(h.b e).keep hx,fun e=>(by obtain⟨g,h1,h2,h3⟩:=h.c e;exact⟨g,h1,AM h2 hx,h3⟩)⟩
theorem B7.addA(h:B7 n q false c10 c12 wd wx vA vB vC) (ha:BT w' wx.heap.size n (fun _=>0)) (hx:XF wx w'):B7 n q true c10 c12 wd w' (.slice (some ⟨wx.heap.size,0,none⟩) n n) vB vC:=by
 have k:=h.keep hx;exact⟨k.ext,fun _=>⟨_,rfl,ha,h.ext.size⟩,k.b,k.c⟩
theorem B7.addB{v:Value} (h:B7 n q c3 false c12 wd wx vA vB vC) (hq:AN w' v q) (hx:XF wx w'):B7 n q c3 true c12 wd w' vA v vC:=by
 have k:=h.keep hx;exact⟨k.ext,k.a,fun _=>hq,k.c⟩
theorem B7.addC(h:B7 n q c3 c10 false wd wx vA vB vC):B7 n q c3 c10 true wd (wx.alloc (.cells #[.slice none 0 0,.bool false,.slice none 0 0,.slice none 0 0] 134)) vA vB (.pointer (some ⟨wx.heap.size,0,none⟩)):=by
 have k:=h.keep ((AK.refl (fun _=>False) wx).alloc (.cells #[.slice none 0 0,.bool false,.slice none 0 0,.slice none 0 0] 134));exact⟨k.ext,k.a,k.b,fun _=>⟨_,rfl,AD _ _,h.ext.size⟩⟩
end
theorem Ig{w0 w:World} {ops:Array Oper} {rest:List Oper} {o:Oper} {a:Act} {Q:Exit->Act->World->Prop} {v:Value} {n:Nat} {xs:List DY} {es:List CR} {e:CR} (hgd:o.guard=none) (s x:Operand) (ho:o.op=.call { callee:=.builtin .append,args:=#[s,x],argTypes:=#[85,85] }) (hs:a.eval s=v) {c:Nat} {ad:Addr} (hx:a.eval x=.slice (some ad) 1 c) (we:World) (y:DY) (hw:w=we.alloc (.cells #[.slice y.ga y.gn y.gc,.bool y.b.ng,.slice y.b.a1 y.b.m1 y.b.c1,.slice y.b.a2 y.b.m2 y.b.c2] 134)) (hM:Ds w0 w v n xs es) (hP:EW w n y e) (hl:xs.length<=100000) (had:ad=⟨we.heap.size,0,none⟩)
  (h:∀v' w',Ds w0 w' v' n (xs++[y]) (es++[e])->(∃ao ac,v'=.slice ao (xs.length+1) ac)->wpList prog ops Q rest (a.put o.dst v') w') :
  wpList prog ops Q (o::rest) a w:=by
 subst hw had;exact Df hgd s x ho underlying85 Tryz.infoPlane rfl (Gg ⟨none,0,0,⟨false,none,0,0,none,0,0⟩⟩) (by decide) (by decide) w0.heap.size v xs.length (xs.flatMap DY.cells) hs hM.own hM.noDig (J5 xs) ⟨we.heap.size,0,none⟩ c y.cells hx rfl (Bz _ _ _) (LP _) (Gg _) hl hM.ext.size fun v' w' ha=>h v' w' (hM.push ha hP) (by
  obtain⟨ao',ac',e'⟩:=Ag ha.own;exact⟨ao',ac',e'⟩)
def Tw(w0:World) (n:Nat) (es:List CR) (r:Ending) (w:World):Prop:=∃v xs w1,r=.returned v/\w0.heap.size<=w1.heap.size/\Ds w1 w v n xs es/\XF w0 w
def Lg(p:AH) (M:Nat):List CR:=(List.range M).map (EQ p)
theorem Fo(p:AH) (M:Nat):(Lg p M).length=M:=by simp[Lg]
theorem N5(p:AH) (M:Nat):Lg p (M+1)=Lg p M++[EQ p M]:=by
 unfold Lg;rw[List.range_succ,List.map_append];rfl
theorem R8{p:AH} {j:Nat} (h:j<p.rows.length):(S8 (p.r j) (p.r j).terms.length,((p.r j).bound:Rat))=EQ p j:=(J6 h).symm
theorem O6(w:World) (pv:Value) (p:AH) (hp:Ba w pv p) (hv:AU p=true) (hn3:p.vars.length<=1000) (hm3:p.rows.length<=1000) :
  Calls prog 47 #[pv] w (Tw w p.vars.length (Lg p (p.rows.length+2*p.vars.length))):=by
 obtain⟨vo,vn,vc,ro,rn,rc,rfl⟩:=hp.slices5;have HLn:=bH (show p.vars.length=vn/\p.rows.length=rn from by
  obtain⟨vv,rv,e,h,h2⟩:=hp;cases e;obtain⟨_,_,e,_⟩:=h.shape;obtain⟨_,_,e2,_⟩:=h2.shape;cases e;cases e2;exact⟨rfl,rfl⟩)
 rw[HLn.o.1] at hn3 ⊢;rw[HLn.o.2] at hm3 ⊢;have HVb:=bH hv;have hxa:=(AK.refl (fun _=>False) w).alloc (.cells #[.slice vo vn vc,.slice ro rn rc] 25);have HB:=bH (bI (hp.keep hxa) (bI (AD w (.cells #[.slice vo vn vc,.slice ro rn rc] 25)) hxa));clear hp hxa hv;go_enter func47,ntmps47;go_upto_region 1 with fail;generalize w.alloc (.cells #[.slice vo vn vc,.slice ro rn rc] 25)=w1 at *;obtain⟨pb,hpb⟩:=bN w.heap.size;have HPb:=bH (Nat.le_of_eq hpb);rw[hpb] at HB ⊢;clear hpb;have hVs:Ju w1 (.slice vo vn vc) p.vars/\LX w1 (.slice ro rn rc) p.rows:=by
  obtain⟨vv,rv,e,h,h2⟩:=HB.o.1;cases e;exact⟨h,h2⟩
 have HVs:=bH hVs;clear hVs;have HQ0:=bH (Ds.start (n:=vn) (AK.refl (fun _=>False) w1));go_upto_region 2 with fail;generalize w1.alloc (.cells #[] 134)=w2 at *;generalize hg2:w1.heap.size=g2 at HQ0 ⊢;have HQ1:=bH (show Ds w1 w2 (.slice (some ⟨g2,0,none⟩) 0 0) vn [] (Lg p 0) from HQ0.o);clear HQ0 hg2;go_wp2_with fail;go_loopg [4,3,5,6,7] rn (fun gg v4 v3 v5 v6 v7 wr=>∃(j:Nat) (v:Value) (xs:List DY),j<=rn/\gg=rn-j/\v4=.int .i64 j/\v=v3/\Ds w1 wr v vn xs (Lg p j));case atStart=>exact⟨0,_,[],Nat.zero_le _,rfl,rfl,rfl,HQ1.o⟩
 case round =>
  clear HQ1;obtain⟨j,v,xs,hj,rfl,rfl,rfl,hs⟩:=hrel;have HM:=bH hs;clear hs;by_cases hjn:j<rn
  ·obtain⟨wo,rfl⟩:∃x,x=wr:=⟨_,rfl⟩;have j0:(j:Int)<(rn:Int):=(by omega);have j1:(0:Int)<=(j:Int):=(by omega);have hjl:j<p.rows.length:=(by rw[HLn.o.2];exact hjn);obtain⟨b0,off,ta,tc,rfl,hlt,e0,e1,e2,e3,e4,hok,hT⟩:=(HVs.o.2.keep HM.o.ext).atp j hjl;have HRb:=bH (BR HVb.o hjl);have HEj:=bH (R8 hjl);have HTm:=bH hT;have HE3:=bH (bI hlt e3);have HFr:=bH (fun W=>show Calls prog 38 #[.int .i64 (p.r j).bound] W (Aw W ((p.r j).bound:Rat)) from CG W _ (by have:=hok.bound;exact this.1) (by have:=hok.bound;exact this.2));have c0:=AA (AM HB.o.2.1 HM.o.ext) 0 rfl;have c1:=AA (AM HB.o.2.1 HM.o.ext) 1 rfl;clear hjl hok hT hlt e0 e1 e2 e3;go_upto_region 5 with fail;go_cut [5] (fun v5 wx=>∃gb gA b,v5=.pointer (some ⟨gb,0,none⟩)/\Au wx gb=some (.cells #[.slice (some ⟨gA,0,none⟩) vn vn,.bool b.ng,.slice b.a1 b.m1 b.c1,.slice b.a2 b.m2 b.c2] 134 (0,0))/\BT wx gA vn (fun _=>0)/\AN wx (BW.v b) ((p.r j).bound:Rat)/\wo.heap.size<=gb/\wo.heap.size<=gA/\XF wo wx);case first =>
    replace c0:=BX (S:=fun _=>False) c0 id;replace c1:=BX (S:=fun _=>False) c1 id;replace e4:=BX (S:=fun _=>False) e4 id;have hn3:vn<=1000000:=(by omega);generalize hn':vn=n at *;refine wp_region_held_drew (S:=XF wo) (by kernel_rfl) ((AK.refl _ wo).drew) (fun hHeld=>?_);refine ht 0 (h:=(ht 1 (h:=(ht 2 (h:=(ht 4 (h:=(ht 5 (h:=(ht 6 (h:=(ht 7 (h:=(ht 8 (h:=(ht 9 (h:=?_)))))))))))))))));(try go_frame);have hSd:=hHeld;clear hHeld;obtain⟨wd,hwd⟩:=bN wo.drew;rw[hwd] at hSd ⊢;refine N4 (T:=fun a0 fuel listed a wx=>(fuel=5/\listed=#[true,true,true,false,true,true,true,true,true,true,false,false,false,false]/\a=a0/\B7 n ((p.r j).bound:Rat) false false false wd wx undef undef undef)∨(fuel=4/\listed=#[true,true,true,true,true,true,true,true,true,true,false,false,false,false]/\∃s22:Value,a=(Act.put a0 (some 22) (s22))/\B7 n ((p.r j).bound:Rat) true false false wd wx s22 undef undef)∨(fuel=4/\listed=#[true,true,true,false,true,true,true,true,true,true,true,false,false,false]/\∃s29:Value,a=(Act.put a0 (some 29) (s29))/\B7 n ((p.r j).bound:Rat) false true false wd wx undef s29 undef)∨(fuel=4/\listed=#[true,true,true,false,true,true,true,true,true,true,false,false,true,false]/\∃s5:Value,a=(Act.put a0 (some 5) (s5))/\B7 n ((p.r j).bound:Rat) false false true wd wx undef undef s5)∨(fuel=2/\listed=#[true,true,true,true,true,true,true,true,true,true,true,true,false,false]/\∃(gA:Nat) (b:BW),a=(Act.put (Act.put (Act.put a0 (some 22) ((.slice (some ⟨gA,0,none⟩) n n))) (some 29) ((.agg #[.bool b.ng,.slice b.a1 b.m1 b.c1,.slice b.a2 b.m2 b.c2]))) (some 30) (.agg #[.slice (some ⟨gA,0,none⟩) n n,.bool b.ng,.slice b.a1 b.m1 b.c1,.slice b.a2 b.m2 b.c2]))/\B7 n ((p.r j).bound:Rat) true true false wd wx (.slice (some ⟨gA,0,none⟩) n n) (.agg #[.bool b.ng,.slice b.a1 b.m1 b.c1,.slice b.a2 b.m2 b.c2]) undef)∨(fuel=3/\listed=#[true,true,true,true,true,true,true,true,true,true,false,false,true,false]/\∃s5 s22:Value,a=(Act.put (Act.put a0 (some 5) (s5)) (some 22) (s22))/\B7 n ((p.r j).bound:Rat) true false true wd wx s22 undef s5)∨(fuel=3/\listed=#[true,true,true,false,true,true,true,true,true,true,true,false,true,false]/\∃s5 s29:Value,a=(Act.put (Act.put a0 (some 5) (s5)) (some 29) (s29))/\B7 n ((p.r j).bound:Rat) false true true wd wx undef s29 s5)∨(fuel=1/\listed=#[true,true,true,true,true,true,true,true,true,true,true,true,true,false]/\∃(gA:Nat) (b:BW),∃s5:Value,a=(Act.put (Act.put (Act.put (Act.put a0 (some 5) (s5)) (some 22) ((.slice (some ⟨gA,0,none⟩) n n))) (some 29) ((.agg #[.bool b.ng,.slice b.a1 b.m1 b.c1,.slice b.a2 b.m2 b.c2]))) (some 30) (.agg #[.slice (some ⟨gA,0,none⟩) n n,.bool b.ng,.slice b.a1 b.m1 b.c1,.slice b.a2 b.m2 b.c2]))/\B7 n ((p.r j).bound:Rat) true true true wd wx (.slice (some ⟨gA,0,none⟩) n n) (.agg #[.bool b.ng,.slice b.a1 b.m1 b.c1,.slice b.a2 b.m2 b.c2]) s5)) _ ?_ ?_ ?_
    ·intro listed a wx hh;rcases hh with hh|hh|hh|hh|hh|hh|hh|hh<;>exact absurd hh.1 (by decide)
    ·intro fuel ih listed a wx hh;rcases hh with hh|hh|hh|hh|hh|hh|hh|hh
     ·obtain⟨hfu,rfl,rfl,hM⟩:=hh;obtain rfl:fuel=4:=(by omega);have hSx:=hSd.trans hM.ext;refine wpAnyH_ready (rs:=[3,10,12]) (by kernel_rfl) (by simp) ?_;refine BC rfl (fun K hK=>?_) ?_
      ·obtain⟨w3,hmk,hA3,hx3⟩:=A7 wx n hn3;have hM2:=hM.addA hA3 hx3;go_simp;refine hK.o _ _ (hSd.trans hM2.ext) (fun _=>ih _ (by omega) _ _ _ ?_);exact .inr <| .inl <| ⟨rfl,rfl,(.slice (some ⟨wx.heap.size,0,none⟩) n n),by simp only[Act.put,List.setIfInBounds_toArray,List.set_cons_zero,List.set_cons_succ],hM2⟩
      refine BC rfl (fun K hK=>?_) ?_
      ·go_simp;go_at_call 38;(with_reducible refine (HFr.o _).mono ?_);rintro q1 w11 ⟨v11,rfl,h11,hx11⟩;have hM2:=hM.addB h11 hx11;refine hK.o _ _ (hSd.trans hM2.ext) (fun _=>ih _ (by omega) _ _ _ ?_);exact .inr <| .inr <| .inl <| ⟨rfl,rfl,v11,by simp only[Act.put,List.setIfInBounds_toArray,List.set_cons_zero,List.set_cons_succ],hM2⟩
      refine BC rfl (fun K hK=>?_) ?_
      ·have hM2:=hM.addC;go_simp;refine hK.o _ _ (hSd.trans hM2.ext) (fun _=>ih _ (by omega) _ _ _ ?_);exact .inr <| .inr <| .inr <| .inl <| ⟨rfl,rfl,(.pointer (some ⟨wx.heap.size,0,none⟩)),by simp only[Act.put,List.setIfInBounds_toArray,List.set_cons_zero,List.set_cons_succ],hM2⟩
      exact AllReadyH.nil
     ·obtain⟨hfu,rfl,s22,rfl,hM⟩:=hh;obtain rfl:fuel=3:=(by omega);simp only[Act.put,List.setIfInBounds_toArray,List.set_cons_zero,List.set_cons_succ];have hSx:=hSd.trans hM.ext;refine wpAnyH_ready (rs:=[10,12]) (by kernel_rfl) (by simp) ?_;refine BC rfl (fun K hK=>?_) ?_
      ·go_simp;go_at_call 38;(with_reducible refine (HFr.o _).mono ?_);rintro q1 w11 ⟨v11,rfl,h11,hx11⟩;have hM2:=hM.addB h11 hx11;obtain⟨ng,b1,x1,y1,b2,x2,y2,rfl⟩:=h11.shape;obtain⟨gA,rfl,-⟩:=hM.a rfl;refine hK.o _ _ (hSd.trans hM2.ext) (fun hHeld=>?_);(try go_frame);refine ht 11 (h:=?_);(try go_frame);refine ih _ (by omega) _ _ _ ?_;exact .inr <| .inr <| .inr <| .inr <| .inl <| ⟨rfl,rfl,gA,⟨ng,b1,x1,y1,b2,x2,y2⟩,by simp only[Act.put,List.setIfInBounds_toArray,List.set_cons_zero,List.set_cons_succ],hM2⟩
      refine BC rfl (fun K hK=>?_) ?_
      ·have hM2:=hM.addC;go_simp;refine hK.o _ _ (hSd.trans hM2.ext) (fun _=>ih _ (by omega) _ _ _ ?_);exact .inr <| .inr <| .inr <| .inr <| .inr <| .inl <| ⟨rfl,rfl,(.pointer (some ⟨wx.heap.size,0,none⟩)),s22,by simp only[Act.put,List.setIfInBounds_toArray,List.set_cons_zero,List.set_cons_succ],hM2⟩
      exact AllReadyH.nil
     ·obtain⟨hfu,rfl,s29,rfl,hM⟩:=hh;obtain rfl:fuel=3:=(by omega);simp only[Act.put,List.setIfInBounds_toArray,List.set_cons_zero,List.set_cons_succ];have hSx:=hSd.trans hM.ext;refine wpAnyH_ready (rs:=[3,12]) (by kernel_rfl) (by simp) ?_;refine BC rfl (fun K hK=>?_) ?_
      ·obtain⟨w3,hmk,hA3,hx3⟩:=A7 wx n hn3;have hM2:=hM.addA hA3 hx3;obtain⟨ng,b1,x1,y1,b2,x2,y2,rfl⟩:=(hM.b rfl).shape;go_simp;refine hK.o _ _ (hSd.trans hM2.ext) (fun hHeld=>?_);(try go_frame);refine ht 11 (h:=?_);(try go_frame);refine ih _ (by omega) _ _ _ ?_;exact .inr <| .inr <| .inr <| .inr <| .inl <| ⟨rfl,rfl,wx.heap.size,⟨ng,b1,x1,y1,b2,x2,y2⟩,by simp only[Act.put,List.setIfInBounds_toArray,List.set_cons_zero,List.set_cons_succ],hM2⟩
      refine BC rfl (fun K hK=>?_) ?_
      ·have hM2:=hM.addC;go_simp;refine hK.o _ _ (hSd.trans hM2.ext) (fun _=>ih _ (by omega) _ _ _ ?_);exact .inr <| .inr <| .inr <| .inr <| .inr <| .inr <| .inl <| ⟨rfl,rfl,(.pointer (some ⟨wx.heap.size,0,none⟩)),s29,by simp only[Act.put,List.setIfInBounds_toArray,List.set_cons_zero,List.set_cons_succ],hM2⟩
      exact AllReadyH.nil
     ·obtain⟨hfu,rfl,s5,rfl,hM⟩:=hh;obtain rfl:fuel=3:=(by omega);simp only[Act.put,List.setIfInBounds_toArray,List.set_cons_zero,List.set_cons_succ];have hSx:=hSd.trans hM.ext;refine wpAnyH_ready (rs:=[3,10]) (by kernel_rfl) (by simp) ?_;refine BC rfl (fun K hK=>?_) ?_
      ·obtain⟨w3,hmk,hA3,hx3⟩:=A7 wx n hn3;have hM2:=hM.addA hA3 hx3;go_simp;refine hK.o _ _ (hSd.trans hM2.ext) (fun _=>ih _ (by omega) _ _ _ ?_);exact .inr <| .inr <| .inr <| .inr <| .inr <| .inl <| ⟨rfl,rfl,s5,(.slice (some ⟨wx.heap.size,0,none⟩) n n),by simp only[Act.put,List.setIfInBounds_toArray,List.set_cons_zero,List.set_cons_succ],hM2⟩
      refine BC rfl (fun K hK=>?_) ?_
      ·go_simp;go_at_call 38;(with_reducible refine (HFr.o _).mono ?_);rintro q1 w11 ⟨v11,rfl,h11,hx11⟩;have hM2:=hM.addB h11 hx11;refine hK.o _ _ (hSd.trans hM2.ext) (fun _=>ih _ (by omega) _ _ _ ?_);exact .inr <| .inr <| .inr <| .inr <| .inr <| .inr <| .inl <| ⟨rfl,rfl,s5,v11,by simp only[Act.put,List.setIfInBounds_toArray,List.set_cons_zero,List.set_cons_succ],hM2⟩
      exact AllReadyH.nil
     ·obtain⟨hfu,rfl,gA,b,rfl,hM⟩:=hh;obtain rfl:fuel=1:=(by omega);simp only[Act.put,List.setIfInBounds_toArray,List.set_cons_zero,List.set_cons_succ];have hSx:=hSd.trans hM.ext;refine wpAnyH_ready (rs:=[12]) (by kernel_rfl) (by simp) ?_;refine BC rfl (fun K hK=>?_) ?_
      ·have hM2:=hM.addC;go_simp;refine hK.o _ _ (hSd.trans hM2.ext) (fun _=>ih _ (by omega) _ _ _ ?_);exact .inr <| .inr <| .inr <| .inr <| .inr <| .inr <| .inr <| ⟨rfl,rfl,gA,b,(.pointer (some ⟨wx.heap.size,0,none⟩)),by simp only[Act.put,List.setIfInBounds_toArray,List.set_cons_zero,List.set_cons_succ],hM2⟩
      exact AllReadyH.nil
     ·obtain⟨hfu,rfl,s5,s22,rfl,hM⟩:=hh;obtain rfl:fuel=2:=(by omega);simp only[Act.put,List.setIfInBounds_toArray,List.set_cons_zero,List.set_cons_succ];have hSx:=hSd.trans hM.ext;refine wpAnyH_ready (rs:=[10]) (by kernel_rfl) (by simp) ?_;refine BC rfl (fun K hK=>?_) ?_
      ·go_simp;go_at_call 38;(with_reducible refine (HFr.o _).mono ?_);rintro q1 w11 ⟨v11,rfl,h11,hx11⟩;have hM2:=hM.addB h11 hx11;obtain⟨ng,b1,x1,y1,b2,x2,y2,rfl⟩:=h11.shape;obtain⟨gA,rfl,-⟩:=hM.a rfl;refine hK.o _ _ (hSd.trans hM2.ext) (fun hHeld=>?_);(try go_frame);refine ht 11 (h:=?_);(try go_frame);refine ih _ (by omega) _ _ _ ?_;exact .inr <| .inr <| .inr <| .inr <| .inr <| .inr <| .inr <| ⟨rfl,rfl,gA,⟨ng,b1,x1,y1,b2,x2,y2⟩,s5,by simp only[Act.put,List.setIfInBounds_toArray,List.set_cons_zero,List.set_cons_succ],hM2⟩
      exact AllReadyH.nil
     ·obtain⟨hfu,rfl,s5,s29,rfl,hM⟩:=hh;obtain rfl:fuel=2:=(by omega);simp only[Act.put,List.setIfInBounds_toArray,List.set_cons_zero,List.set_cons_succ];have hSx:=hSd.trans hM.ext;refine wpAnyH_ready (rs:=[3]) (by kernel_rfl) (by simp) ?_;refine BC rfl (fun K hK=>?_) ?_
      ·obtain⟨w3,hmk,hA3,hx3⟩:=A7 wx n hn3;have hM2:=hM.addA hA3 hx3;obtain⟨ng,b1,x1,y1,b2,x2,y2,rfl⟩:=(hM.b rfl).shape;go_simp;refine hK.o _ _ (hSd.trans hM2.ext) (fun hHeld=>?_);(try go_frame);refine ht 11 (h:=?_);(try go_frame);refine ih _ (by omega) _ _ _ ?_;exact .inr <| .inr <| .inr <| .inr <| .inr <| .inr <| .inr <| ⟨rfl,rfl,wx.heap.size,⟨ng,b1,x1,y1,b2,x2,y2⟩,s5,by simp only[Act.put,List.setIfInBounds_toArray,List.set_cons_zero,List.set_cons_succ],hM2⟩
      exact AllReadyH.nil
     obtain⟨hfu,rfl,gA,b,s5,rfl,hM⟩:=hh;obtain rfl:fuel=0:=(by omega);simp only[Act.put,List.setIfInBounds_toArray,List.set_cons_zero,List.set_cons_succ];have hSx:=hSd.trans hM.ext;refine wpAnyH_ready (rs:=[13]) (by kernel_rfl) (by simp) ?_;refine BC rfl (fun K hK=>?_) ?_
     ·obtain⟨ng,b1,x1,y1,b2,x2,y2⟩:=b;obtain⟨_,eA,hA,hAl⟩:=hM.a rfl;cases eA;obtain⟨gb,rfl,hgb,hgl⟩:=hM.c rfl;have hq:=hM.b rfl;have q0:=AA hgb 0 rfl;have q1:=AA hgb 1 rfl;have q2:=AA hgb 2 rfl;have q3:=AA hgb 3 rfl;have f0:=AC hgb 0;have f1:=AC hgb 1;have f2:=AC hgb 2;have f3:=AC hgb 3;have hxx:=((((AK.refl (fun k=>k=gb) wx).setCell (p:=⟨gb,0,none⟩) (.slice (some ⟨gA,0,none⟩) n n) (fun _=>rfl)).setCell (p:=⟨gb,1,none⟩) (.bool ng) (fun _=>rfl)).setCell (p:=⟨gb,2,none⟩) (.slice b1 x1 y1) (fun _=>rfl)).setCell (p:=⟨gb,3,none⟩) (.slice b2 x2 y2) (fun _=>rfl);have hgb2:=AI (AI (AI (AI hgb 0 (.slice (some ⟨gA,0,none⟩) n n)) 1 (.bool ng)) 2 (.slice b1 x1 y1)) 3 (.slice b2 x2 y2);have hrd:∀v l,Ad wx v l->Ad _ v l:=fun v l hv=>hv.past hxx (fun k _ e=>by
       have e':k=gb:=e;subst e';exact Ae hgb (fun u hu d e=>by subst e;simp at hu))
      have hAr:=hA.past hxx (fun e=>by
       have e':gA=gb:=e;obtain⟨arr,h1,_⟩:=hA.row;exact DT.ne ⟨arr,h1⟩ ⟨_,hgb⟩ (by decide) e') hrd
      have hqr:=hq.past hrd;have hx9:=(hSd.trans hM.ext).own hxx (fun k e=>by have e':k=gb:=e;have:=hSd.size;omega);have hAl2:=Nat.le_trans hSd.size hAl;have hgl2:=Nat.le_trans hSd.size hgl;have hFin:=bH (bI hgb2 (bI hAr (bI hqr (bI hgl2 (bI hAl2 hx9)))));clear hgb hgb2 hxx hrd hAr hqr;go_simp;refine hK.o _ _ hx9 (fun _=>?_);refine wpAnyH_done (by kernel_rfl) ?_ _;clear hK K hx9;go_wp2;go_meet;exact⟨gb,gA,⟨ng,b1,x1,y1,b2,x2,y2⟩,rfl,hFin.o.1,hFin.o.2.1,hFin.o.2.2.1,hFin.o.2.2.2.1,hFin.o.2.2.2.2.1,hFin.o.2.2.2.2.2⟩
     exact AllReadyH.nil
    exact .inl ⟨rfl,rfl,rfl,B7.start wd⟩
   case rest =>
    obtain⟨gb,gA,b,rfl,k1,k2,k3,k4,k5,k6⟩:=hcut;have HX0:=bH (show MH wo wc gb gA vn b ((p.r j).bound:Rat) (S8 (p.r j) 0) from⟨k6,k1,k2,k3,⟨k4,k5⟩,by unfold maxLen;omega⟩);clear k1 k2 k3 k4 k5 k6 c0 c1 e4 HFr;obtain⟨tl,htl⟩:=bN ((p.r j).terms.length);have HTl:=bH htl;rw[htl] at HE3 HTm HEj;have htb:tl<=9223372036854775807:=by
     obtain⟨_,_,_,_,h,_⟩:=HTm.o.shape;omega
    clear htl;go_wp2_with fail;go_loopg [6,7] tl (fun gg v6 v7 wr=>∃k:Nat,k<=tl/\gg=tl-k/\v6=.int .i64 k/\MH wo wr gb gA vn b ((p.r j).bound:Rat) (S8 (p.r j) k));case atStart=>exact⟨0,Nat.zero_le _,rfl,rfl,HX0.o⟩
    case round =>
     clear HX0;obtain⟨k,hk,rfl,rfl,hs⟩:=hrel;have HX:=bH hs;clear hs;have c1:=AA (AM HB.o.2.1 (HM.o.ext.trans HX.o.ext)) 1 rfl;have e3:=AB HE3.o.2 HX.o.ext;by_cases hkn:k<tl
     ·have i0:(k:Int)<(tl:Int):=(by omega);have i1:(0:Int)<=(k:Int):=(by omega);have hkl:k<(p.r j).terms.length:=(by rw[HTl.o];exact hkn);obtain⟨bb,of2,rfl,hlt,e0,e1,hto⟩:=(HTm.o.keep HX.o.ext).atr k hkl;obtain⟨q0,q1⟩:=D5 HRb.o k hkl;rw[HLn.o.1] at q1;obtain⟨J,hJ⟩:∃J:Nat,((p.r j).t k).var=J:=⟨((p.r j).t k).var.toNat,by omega⟩;have HNx:=bH (fun i=>Ng HRb.o hkl hJ i);rw[hJ] at e0 q0 q1;have hJn:J<vn:=(by omega);have j2:(0:Int)<=(J:Int):=(by omega);have j3:(J:Int)<(vn:Int):=(by omega);have HFr:=bH (fun W=>show Calls prog 38 #[.int .i64 ((p.r j).t k).coef] W (Aw W (((p.r j).t k).coef:Rat)) from CG W _ hto.coef.1 hto.coef.2);obtain⟨tco,htc⟩:=bN (((p.r j).t k).coef);rw[htc] at e1 HFr HNx;clear hkl hlt hto hJ htc q0 q1;have HX1:=bH (HX.o.keep ((AK.refl (fun _=>False) wr).alloc (.cells #[.int .i64 (J:Int),.int .i64 tco] 95)));have HBt:=bH (AD wr (.cells #[.int .i64 (J:Int),.int .i64 tco] 95));go_upto_region 10 with fail;clear e0 e1 c1 e3;generalize wr.alloc (.cells #[.int .i64 (J:Int),.int .i64 tco] 95)=w8 at *;generalize wr.heap.size=tb at *;have e0:=BX (S:=fun _=>False) (AA HBt.o 0 rfl) id;have e1:=BX (S:=fun _=>False) (AA HBt.o 1 rfl) id;have c0:=BX (S:=fun _=>False) (AA HX1.o.box 0 rfl) id;clear HX HBt;refine Dq 8 (XF w8) (by kernel_rfl) ((AK.refl _ w8).drew) (fun hHeld=>?_);refine mu 0 (h:=(mu 1 (h:=(mu 2 (h:=(mu 3 (h:=(mu 4 (h:=(mu 5 (h:=?_)))))))))));(try go_frame);refine Ez 6 (h:=fun K hK=>?_);go_simp;go_at_call 38;(with_reducible refine (HFr.o _).mono ?_);rintro q1 w11 ⟨v11,rfl,h11,hx11⟩;obtain⟨n11,a11,l11,c11,a11',l11',c11',rfl⟩:=h11.shape;refine hK.o _ _ (hHeld.trans hx11) (fun hHeld=>?_);clear hK K;(try go_frame);refine mu 7 (h:=?_);(try go_frame);have HX2:=bH (HX1.o.keep hHeld);obtain⟨_,_,_,_,_,_,_,y0,y1,y2,-⟩:=HX2.o.arr.cells J hJn;have z0:=HX2.o.arr.free (J*3);have z1:=HX2.o.arr.free (J*3+1);have z2:=HX2.o.arr.free (J*3+2);refine ml 8 (h:=fun K hK=>?_);go_simp;refine hK.o _ _ ?_;clear hK K;(try go_frame);refine Dr (by kernel_rfl) ?_ _;have HX3:=bH ((HX2.o.put hJn h11).congr (fun i _=>HNx.o i));clear HX1 HX2 y0 y1 y2 z0 z1 z2 h11 hx11 hHeld e0 e1 c0 HNx HFr;generalize ((w11.setCell ⟨gA,J*3,none⟩ (.bool n11)).setCell ⟨gA,J*3+1,none⟩ (.slice a11 l11 c11)).setCell ⟨gA,J*3+2,none⟩ (.slice a11' l11' c11')=w9 at *;go_wp2;go_roundg (tl-(k+1));case measure=>omega
      case rel=>exact⟨k+1,by omega,rfl,by go_num,HX3.o⟩
     obtain rfl:k=tl:=(by omega);obtain⟨we,rfl⟩:∃x,x=wr:=⟨_,rfl⟩;have HXe:=bH HX.o;go_upto_region 11 with fail;clear c1 e3 HX;have e0:=AA HXe.o.box 0 rfl;have e1:=AA HXe.o.box 1 rfl;have e2:=AA HXe.o.box 2 rfl;have e3:=AA HXe.o.box 3 rfl;have HMw:=bH (HM.o.keep HXe.o.ext);have hxy:=(AK.refl (fun _=>False) we).alloc (.cells #[.slice (some ⟨gA,0,none⟩) vn vn,.bool b.ng,.slice b.a1 b.m1 b.c1,.slice b.a2 b.m2 b.c2] 134);have HMa:=bH (HMw.o.keep hxy);have HPa:=bH (HXe.o.pln.keep hxy);have hxl:=HM.o.len;have HLl:=bH (show xs.length+1=j+1 from by rw[hxl,Fo]);have hxl2:xs.length<=100000:=(by rw[hxl,Fo];omega);clear hxy hxl;go_wp2_with (at_builtin;refine Ig rfl (.tmp 59) (.tmp 61) rfl rfl rfl we ⟨some ⟨gA,0,none⟩,vn,vn,b⟩ rfl HMa.o HPa.o hxl2 rfl ?_;intro v' w' HMb0 hsh;have HMb:=bH HMb0;obtain⟨ao',ac',e'⟩:=hsh;rw[HLl.o] at e';subst e';clear HMb0);go_roundg (rn-(j+1));case measure=>omega
     case rel=>exact⟨j+1,_,_,by omega,rfl,by go_num,rfl,by rw[N5,<- HEj.o];exact HMb.o⟩
  obtain rfl:j=rn:=(by omega);have HM1:=bH (show Ds w1 wr v vn xs (Lg p (j+2*0)) from HM.o);clear HM;have c1:=AA (AM HB.o.2.1 HM1.o.ext) 1 rfl;go_upto_region 12 with fail;clear c1;go_wp2_with fail;go_loopg [8,3,9,10] vn (fun gg v8 v3 v9 v10 wr=>∃(i:Nat) (v:Value) (xs:List DY),i<=vn/\gg=vn-i/\v8=.int .i64 i/\v=v3/\Ds w1 wr v vn xs (Lg p (j+2*i)));case atStart=>exact⟨0,_,_,Nat.zero_le _,rfl,rfl,rfl,HM1.o⟩
  case round =>
   clear HM1;obtain⟨i,v,xs,hi,rfl,rfl,rfl,hs⟩:=hrel;have HM:=bH hs;clear hs;have c0:=AA (AM HB.o.2.1 HM.o.ext) 0 rfl;by_cases hin:i<vn
   ·have i0:(i:Int)<(vn:Int):=(by omega);have i1:(0:Int)<=(i:Int):=(by omega);have HM1:=bH (show Ds w1 wr v vn xs (Lg p (j+2*i+0)) from HM.o);clear HM;go_upto_region 15 with fail;clear c0;go_wp2_with fail;go_loopg [9,3,10] 2 (fun gg v9 v3 v10 wr=>∃(s:Nat) (v:Value) (xs:List DY),s<=2/\gg=2-s/\v9=.int .i64 s/\v=v3/\Ds w1 wr v vn xs (Lg p (j+2*i+s)));case atStart=>exact⟨0,_,_,Nat.zero_le _,rfl,rfl,rfl,HM1.o⟩
    case round =>
     clear HM1;obtain⟨s,v,xs,hsl,rfl,rfl,rfl,hs⟩:=hrel;have HM:=bH hs;clear hs;by_cases hs2:s<2
     ·obtain⟨wo,rfl⟩:∃x,x=wr:=⟨_,rfl⟩;have s0:(s:Int)<(2:Int):=(by omega);have hil:i<p.vars.length:=(by rw[HLn.o.1];exact hin);obtain⟨b0,off,rfl,hlt,e0,e1,e2,e3,e4,hok⟩:=(HVs.o.1.keep HM.o.ext).atp i hil;have HE1:=bH (bI hlt e1);have HFr:=bH (fun W=>show Calls prog 38 #[.int .i64 (p.v i).lo] W (Aw W ((p.v i).lo:Rat)) from CG W _ (by have:=hok.lo;exact this.1) (by have:=hok.lo;exact this.2));have HFu:=bH (fun W=>show Calls prog 38 #[.int .i64 (p.v i).up] W (Aw W ((p.v i).up:Rat)) from CG W _ (by have:=hok.up;exact this.1) (by have:=hok.up;exact this.2));have c0:=AA (AM HB.o.2.1 HM.o.ext) 0 rfl;clear hil hok hlt e1 e2 e3 e4;go_upto_region 18 with fail;go_cut [10] (fun v10 wx=>∃gb gA b,v10=.pointer (some ⟨gb,0,none⟩)/\Au wx gb=some (.cells #[.slice (some ⟨gA,0,none⟩) vn vn,.bool b.ng,.slice b.a1 b.m1 b.c1,.slice b.a2 b.m2 b.c2] 134 (0,0))/\BT wx gA vn (fun _=>0)/\AN wx (BW.v b) ((p.v i).lo:Rat)/\wo.heap.size<=gb/\wo.heap.size<=gA/\XF wo wx);case first =>
       replace c0:=BX (S:=fun _=>False) c0 id;replace e0:=BX (S:=fun _=>False) e0 id;have hn3:vn<=1000000:=(by omega);generalize hn':vn=n at *;refine wp_region_held_drew (S:=XF wo) (by kernel_rfl) ((AK.refl _ wo).drew) (fun hHeld=>?_);refine ht 0 (h:=(ht 1 (h:=(ht 2 (h:=(ht 4 (h:=(ht 5 (h:=(ht 6 (h:=(ht 7 (h:=(ht 8 (h:=(ht 9 (h:=?_)))))))))))))))));(try go_frame);have hSd:=hHeld;clear hHeld;obtain⟨wd,hwd⟩:=bN wo.drew;rw[hwd] at hSd ⊢;refine N4 (T:=fun a0 fuel listed a wx=>(fuel=5/\listed=#[true,true,true,false,true,true,true,true,true,true,false,false,false,false]/\a=a0/\B7 n ((p.v i).lo:Rat) false false false wd wx undef undef undef)∨(fuel=4/\listed=#[true,true,true,true,true,true,true,true,true,true,false,false,false,false]/\∃s77:Value,a=(Act.put a0 (some 77) (s77))/\B7 n ((p.v i).lo:Rat) true false false wd wx s77 undef undef)∨(fuel=4/\listed=#[true,true,true,false,true,true,true,true,true,true,true,false,false,false]/\∃s84:Value,a=(Act.put a0 (some 84) (s84))/\B7 n ((p.v i).lo:Rat) false true false wd wx undef s84 undef)∨(fuel=4/\listed=#[true,true,true,false,true,true,true,true,true,true,false,false,true,false]/\∃s10:Value,a=(Act.put a0 (some 10) (s10))/\B7 n ((p.v i).lo:Rat) false false true wd wx undef undef s10)∨(fuel=2/\listed=#[true,true,true,true,true,true,true,true,true,true,true,true,false,false]/\∃(gA:Nat) (b:BW),a=(Act.put (Act.put (Act.put a0 (some 77) ((.slice (some ⟨gA,0,none⟩) n n))) (some 84) ((.agg #[.bool b.ng,.slice b.a1 b.m1 b.c1,.slice b.a2 b.m2 b.c2]))) (some 85) (.agg #[.slice (some ⟨gA,0,none⟩) n n,.bool b.ng,.slice b.a1 b.m1 b.c1,.slice b.a2 b.m2 b.c2]))/\B7 n ((p.v i).lo:Rat) true true false wd wx (.slice (some ⟨gA,0,none⟩) n n) (.agg #[.bool b.ng,.slice b.a1 b.m1 b.c1,.slice b.a2 b.m2 b.c2]) undef)∨(fuel=3/\listed=#[true,true,true,true,true,true,true,true,true,true,false,false,true,false]/\∃s10 s77:Value,a=(Act.put (Act.put a0 (some 10) (s10)) (some 77) (s77))/\B7 n ((p.v i).lo:Rat) true false true wd wx s77 undef s10)∨(fuel=3/\listed=#[true,true,true,false,true,true,true,true,true,true,true,false,true,false]/\∃s10 s84:Value,a=(Act.put (Act.put a0 (some 10) (s10)) (some 84) (s84))/\B7 n ((p.v i).lo:Rat) false true true wd wx undef s84 s10)∨(fuel=1/\listed=#[true,true,true,true,true,true,true,true,true,true,true,true,true,false]/\∃(gA:Nat) (b:BW),∃s10:Value,a=(Act.put (Act.put (Act.put (Act.put a0 (some 10) (s10)) (some 77) ((.slice (some ⟨gA,0,none⟩) n n))) (some 84) ((.agg #[.bool b.ng,.slice b.a1 b.m1 b.c1,.slice b.a2 b.m2 b.c2]))) (some 85) (.agg #[.slice (some ⟨gA,0,none⟩) n n,.bool b.ng,.slice b.a1 b.m1 b.c1,.slice b.a2 b.m2 b.c2]))/\B7 n ((p.v i).lo:Rat) true true true wd wx (.slice (some ⟨gA,0,none⟩) n n) (.agg #[.bool b.ng,.slice b.a1 b.m1 b.c1,.slice b.a2 b.m2 b.c2]) s10)) _ ?_ ?_ ?_
       ·intro listed a wx hh;rcases hh with hh|hh|hh|hh|hh|hh|hh|hh<;>exact absurd hh.1 (by decide)
       ·intro fuel ih listed a wx hh;rcases hh with hh|hh|hh|hh|hh|hh|hh|hh
        ·obtain⟨hfu,rfl,rfl,hM⟩:=hh;obtain rfl:fuel=4:=(by omega);have hSx:=hSd.trans hM.ext;refine wpAnyH_ready (rs:=[3,10,12]) (by kernel_rfl) (by simp) ?_;refine BC rfl (fun K hK=>?_) ?_
         ·obtain⟨w3,hmk,hA3,hx3⟩:=A7 wx n hn3;have hM2:=hM.addA hA3 hx3;go_simp;refine hK.o _ _ (hSd.trans hM2.ext) (fun _=>ih _ (by omega) _ _ _ ?_);exact .inr <| .inl <| ⟨rfl,rfl,(.slice (some ⟨wx.heap.size,0,none⟩) n n),by simp only[Act.put,List.setIfInBounds_toArray,List.set_cons_zero,List.set_cons_succ],hM2⟩
         refine BC rfl (fun K hK=>?_) ?_
         ·go_simp;go_at_call 38;(with_reducible refine (HFr.o _).mono ?_);rintro q1 w11 ⟨v11,rfl,h11,hx11⟩;have hM2:=hM.addB h11 hx11;refine hK.o _ _ (hSd.trans hM2.ext) (fun _=>ih _ (by omega) _ _ _ ?_);exact .inr <| .inr <| .inl <| ⟨rfl,rfl,v11,by simp only[Act.put,List.setIfInBounds_toArray,List.set_cons_zero,List.set_cons_succ],hM2⟩
         refine BC rfl (fun K hK=>?_) ?_
         ·have hM2:=hM.addC;go_simp;refine hK.o _ _ (hSd.trans hM2.ext) (fun _=>ih _ (by omega) _ _ _ ?_);exact .inr <| .inr <| .inr <| .inl <| ⟨rfl,rfl,(.pointer (some ⟨wx.heap.size,0,none⟩)),by simp only[Act.put,List.setIfInBounds_toArray,List.set_cons_zero,List.set_cons_succ],hM2⟩
         exact AllReadyH.nil
        ·obtain⟨hfu,rfl,s77,rfl,hM⟩:=hh;obtain rfl:fuel=3:=(by omega);simp only[Act.put,List.setIfInBounds_toArray,List.set_cons_zero,List.set_cons_succ];have hSx:=hSd.trans hM.ext;refine wpAnyH_ready (rs:=[10,12]) (by kernel_rfl) (by simp) ?_;refine BC rfl (fun K hK=>?_) ?_
         ·go_simp;go_at_call 38;(with_reducible refine (HFr.o _).mono ?_);rintro q1 w11 ⟨v11,rfl,h11,hx11⟩;have hM2:=hM.addB h11 hx11;obtain⟨ng,b1,x1,y1,b2,x2,y2,rfl⟩:=h11.shape;obtain⟨gA,rfl,-⟩:=hM.a rfl;refine hK.o _ _ (hSd.trans hM2.ext) (fun hHeld=>?_);(try go_frame);refine ht 11 (h:=?_);(try go_frame);refine ih _ (by omega) _ _ _ ?_;exact .inr <| .inr <| .inr <| .inr <| .inl <| ⟨rfl,rfl,gA,⟨ng,b1,x1,y1,b2,x2,y2⟩,by simp only[Act.put,List.setIfInBounds_toArray,List.set_cons_zero,List.set_cons_succ],hM2⟩
         refine BC rfl (fun K hK=>?_) ?_
         ·have hM2:=hM.addC;go_simp;refine hK.o _ _ (hSd.trans hM2.ext) (fun _=>ih _ (by omega) _ _ _ ?_);exact .inr <| .inr <| .inr <| .inr <| .inr <| .inl <| ⟨rfl,rfl,(.pointer (some ⟨wx.heap.size,0,none⟩)),s77,by simp only[Act.put,List.setIfInBounds_toArray,List.set_cons_zero,List.set_cons_succ],hM2⟩
         exact AllReadyH.nil
        ·obtain⟨hfu,rfl,s84,rfl,hM⟩:=hh;obtain rfl:fuel=3:=(by omega);simp only[Act.put,List.setIfInBounds_toArray,List.set_cons_zero,List.set_cons_succ];have hSx:=hSd.trans hM.ext;refine wpAnyH_ready (rs:=[3,12]) (by kernel_rfl) (by simp) ?_;refine BC rfl (fun K hK=>?_) ?_
         ·obtain⟨w3,hmk,hA3,hx3⟩:=A7 wx n hn3;have hM2:=hM.addA hA3 hx3;obtain⟨ng,b1,x1,y1,b2,x2,y2,rfl⟩:=(hM.b rfl).shape;go_simp;refine hK.o _ _ (hSd.trans hM2.ext) (fun hHeld=>?_);(try go_frame);refine ht 11 (h:=?_);(try go_frame);refine ih _ (by omega) _ _ _ ?_;exact .inr <| .inr <| .inr <| .inr <| .inl <| ⟨rfl,rfl,wx.heap.size,⟨ng,b1,x1,y1,b2,x2,y2⟩,by simp only[Act.put,List.setIfInBounds_toArray,List.set_cons_zero,List.set_cons_succ],hM2⟩
         refine BC rfl (fun K hK=>?_) ?_
         ·have hM2:=hM.addC;go_simp;refine hK.o _ _ (hSd.trans hM2.ext) (fun _=>ih _ (by omega) _ _ _ ?_);exact .inr <| .inr <| .inr <| .inr <| .inr <| .inr <| .inl <| ⟨rfl,rfl,(.pointer (some ⟨wx.heap.size,0,none⟩)),s84,by simp only[Act.put,List.setIfInBounds_toArray,List.set_cons_zero,List.set_cons_succ],hM2⟩
         exact AllReadyH.nil
        ·obtain⟨hfu,rfl,s10,rfl,hM⟩:=hh;obtain rfl:fuel=3:=(by omega);simp only[Act.put,List.setIfInBounds_toArray,List.set_cons_zero,List.set_cons_succ];have hSx:=hSd.trans hM.ext;refine wpAnyH_ready (rs:=[3,10]) (by kernel_rfl) (by simp) ?_;refine BC rfl (fun K hK=>?_) ?_
         ·obtain⟨w3,hmk,hA3,hx3⟩:=A7 wx n hn3;have hM2:=hM.addA hA3 hx3;go_simp;refine hK.o _ _ (hSd.trans hM2.ext) (fun _=>ih _ (by omega) _ _ _ ?_);exact .inr <| .inr <| .inr <| .inr <| .inr <| .inl <| ⟨rfl,rfl,s10,(.slice (some ⟨wx.heap.size,0,none⟩) n n),by simp only[Act.put,List.setIfInBounds_toArray,List.set_cons_zero,List.set_cons_succ],hM2⟩
         refine BC rfl (fun K hK=>?_) ?_
         ·go_simp;go_at_call 38;(with_reducible refine (HFr.o _).mono ?_);rintro q1 w11 ⟨v11,rfl,h11,hx11⟩;have hM2:=hM.addB h11 hx11;refine hK.o _ _ (hSd.trans hM2.ext) (fun _=>ih _ (by omega) _ _ _ ?_);exact .inr <| .inr <| .inr <| .inr <| .inr <| .inr <| .inl <| ⟨rfl,rfl,s10,v11,by simp only[Act.put,List.setIfInBounds_toArray,List.set_cons_zero,List.set_cons_succ],hM2⟩
         exact AllReadyH.nil
        ·obtain⟨hfu,rfl,gA,b,rfl,hM⟩:=hh;obtain rfl:fuel=1:=(by omega);simp only[Act.put,List.setIfInBounds_toArray,List.set_cons_zero,List.set_cons_succ];have hSx:=hSd.trans hM.ext;refine wpAnyH_ready (rs:=[12]) (by kernel_rfl) (by simp) ?_;refine BC rfl (fun K hK=>?_) ?_
         ·have hM2:=hM.addC;go_simp;refine hK.o _ _ (hSd.trans hM2.ext) (fun _=>ih _ (by omega) _ _ _ ?_);exact .inr <| .inr <| .inr <| .inr <| .inr <| .inr <| .inr <| ⟨rfl,rfl,gA,b,(.pointer (some ⟨wx.heap.size,0,none⟩)),by simp only[Act.put,List.setIfInBounds_toArray,List.set_cons_zero,List.set_cons_succ],hM2⟩
         exact AllReadyH.nil
        ·obtain⟨hfu,rfl,s10,s77,rfl,hM⟩:=hh;obtain rfl:fuel=2:=(by omega);simp only[Act.put,List.setIfInBounds_toArray,List.set_cons_zero,List.set_cons_succ];have hSx:=hSd.trans hM.ext;refine wpAnyH_ready (rs:=[10]) (by kernel_rfl) (by simp) ?_;refine BC rfl (fun K hK=>?_) ?_
         ·go_simp;go_at_call 38;(with_reducible refine (HFr.o _).mono ?_);rintro q1 w11 ⟨v11,rfl,h11,hx11⟩;have hM2:=hM.addB h11 hx11;obtain⟨ng,b1,x1,y1,b2,x2,y2,rfl⟩:=h11.shape;obtain⟨gA,rfl,-⟩:=hM.a rfl;refine hK.o _ _ (hSd.trans hM2.ext) (fun hHeld=>?_);(try go_frame);refine ht 11 (h:=?_);(try go_frame);refine ih _ (by omega) _ _ _ ?_;exact .inr <| .inr <| .inr <| .inr <| .inr <| .inr <| .inr <| ⟨rfl,rfl,gA,⟨ng,b1,x1,y1,b2,x2,y2⟩,s10,by simp only[Act.put,List.setIfInBounds_toArray,List.set_cons_zero,List.set_cons_succ],hM2⟩
         exact AllReadyH.nil
        ·obtain⟨hfu,rfl,s10,s84,rfl,hM⟩:=hh;obtain rfl:fuel=2:=(by omega);simp only[Act.put,List.setIfInBounds_toArray,List.set_cons_zero,List.set_cons_succ];have hSx:=hSd.trans hM.ext;refine wpAnyH_ready (rs:=[3]) (by kernel_rfl) (by simp) ?_;refine BC rfl (fun K hK=>?_) ?_
         ·obtain⟨w3,hmk,hA3,hx3⟩:=A7 wx n hn3;have hM2:=hM.addA hA3 hx3;obtain⟨ng,b1,x1,y1,b2,x2,y2,rfl⟩:=(hM.b rfl).shape;go_simp;refine hK.o _ _ (hSd.trans hM2.ext) (fun hHeld=>?_);(try go_frame);refine ht 11 (h:=?_);(try go_frame);refine ih _ (by omega) _ _ _ ?_;exact .inr <| .inr <| .inr <| .inr <| .inr <| .inr <| .inr <| ⟨rfl,rfl,wx.heap.size,⟨ng,b1,x1,y1,b2,x2,y2⟩,s10,by simp only[Act.put,List.setIfInBounds_toArray,List.set_cons_zero,List.set_cons_succ],hM2⟩
         exact AllReadyH.nil
        obtain⟨hfu,rfl,gA,b,s10,rfl,hM⟩:=hh;obtain rfl:fuel=0:=(by omega);simp only[Act.put,List.setIfInBounds_toArray,List.set_cons_zero,List.set_cons_succ];have hSx:=hSd.trans hM.ext;refine wpAnyH_ready (rs:=[13]) (by kernel_rfl) (by simp) ?_;refine BC rfl (fun K hK=>?_) ?_
        ·obtain⟨ng,b1,x1,y1,b2,x2,y2⟩:=b;obtain⟨_,eA,hA,hAl⟩:=hM.a rfl;cases eA;obtain⟨gb,rfl,hgb,hgl⟩:=hM.c rfl;have hq:=hM.b rfl;have q0:=AA hgb 0 rfl;have q1:=AA hgb 1 rfl;have q2:=AA hgb 2 rfl;have q3:=AA hgb 3 rfl;have f0:=AC hgb 0;have f1:=AC hgb 1;have f2:=AC hgb 2;have f3:=AC hgb 3;have hxx:=((((AK.refl (fun k=>k=gb) wx).setCell (p:=⟨gb,0,none⟩) (.slice (some ⟨gA,0,none⟩) n n) (fun _=>rfl)).setCell (p:=⟨gb,1,none⟩) (.bool ng) (fun _=>rfl)).setCell (p:=⟨gb,2,none⟩) (.slice b1 x1 y1) (fun _=>rfl)).setCell (p:=⟨gb,3,none⟩) (.slice b2 x2 y2) (fun _=>rfl);have hgb2:=AI (AI (AI (AI hgb 0 (.slice (some ⟨gA,0,none⟩) n n)) 1 (.bool ng)) 2 (.slice b1 x1 y1)) 3 (.slice b2 x2 y2);have hrd:∀v l,Ad wx v l->Ad _ v l:=fun v l hv=>hv.past hxx (fun k _ e=>by
          have e':k=gb:=e;subst e';exact Ae hgb (fun u hu d e=>by subst e;simp at hu))
         have hAr:=hA.past hxx (fun e=>by
          have e':gA=gb:=e;obtain⟨arr,h1,_⟩:=hA.row;exact DT.ne ⟨arr,h1⟩ ⟨_,hgb⟩ (by decide) e') hrd
         have hqr:=hq.past hrd;have hx9:=(hSd.trans hM.ext).own hxx (fun k e=>by have e':k=gb:=e;have:=hSd.size;omega);have hAl2:=Nat.le_trans hSd.size hAl;have hgl2:=Nat.le_trans hSd.size hgl;have hFin:=bH (bI hgb2 (bI hAr (bI hqr (bI hgl2 (bI hAl2 hx9)))));clear hgb hgb2 hxx hrd hAr hqr;go_simp;refine hK.o _ _ hx9 (fun _=>?_);refine wpAnyH_done (by kernel_rfl) ?_ _;clear hK K hx9;go_wp2;go_meet;exact⟨gb,gA,⟨ng,b1,x1,y1,b2,x2,y2⟩,rfl,hFin.o.1,hFin.o.2.1,hFin.o.2.2.1,hFin.o.2.2.2.1,hFin.o.2.2.2.2.1,hFin.o.2.2.2.2.2⟩
        exact AllReadyH.nil
       exact .inl ⟨rfl,rfl,rfl,B7.start wd⟩
      case rest =>
      obtain⟨gb,gA,b,rfl,k1,k2,k3,k4,k5,k6⟩:=hcut;have HX0:=bH (show MH wo wc gb gA vn b ((p.v i).lo:Rat) (fun _=>0) from⟨k6,k1,k2,k3,⟨k4,k5⟩,by unfold maxLen;omega⟩);clear k1 k2 k3 k4 k5 k6 c0 e0 HFr;have c0:=AA (AM HB.o.2.1 (HM.o.ext.trans HX0.o.ext)) 0 rfl;have e1:=AB HE1.o.2 HX0.o.ext;obtain⟨wp,rfl⟩:∃x,x=wc:=⟨_,rfl⟩;go_upto_if 87 with fail;go_cut [] (fun wx=>∃b',MH wo wx gb gA vn b' (if s=0 then ((p.v i).lo:Rat) else ((p.v i).up:Rat)) (fun _=>0));case first =>
       by_cases hz:s=0
       ·subst hz;go_wp2_with fail;go_meet;exact⟨b,by simp only[ite_true];exact HX0.o⟩
       obtain rfl:s=1:=(by omega);go_wp2_with (go_at_call 38;(with_reducible refine (HFu.o _).mono ?_);rintro q1 w11 ⟨v11,rfl,h11,hx11⟩;obtain⟨n11,a11,l11,c11,a11',l11',c11',rfl⟩:=h11.shape;have HX1:=bH (HX0.o.keep hx11);have g0:=AA HX1.o.box 0 rfl;have g1:=AA HX1.o.box 1 rfl;have g2:=AA HX1.o.box 2 rfl;have g3:=AA HX1.o.box 3 rfl;have f1:=AC HX1.o.box 1;have f2:=AC HX1.o.box 2;have f3:=AC HX1.o.box 3);go_meet;exact⟨⟨n11,a11,l11,c11,a11',l11',c11'⟩,by (first|rw[if_neg (by decide)]|simp only[ite_false]);exact HX1.o.putB (b':=⟨n11,a11,l11,c11,a11',l11',c11'⟩) h11⟩
      case rest =>
      obtain⟨b',hX⟩:=hcut;clear HX0 c0 e1 HE1 HFu;obtain⟨w20,rfl⟩:∃x,x=wc:=⟨_,rfl⟩;have HX1:=bH hX;clear hX;have hJn:=hin;have HFr:=bH (fun W=>show Calls prog 38 #[.int .i64 1] W (Aw W ((1:Int):Rat)) from CG W 1 (by decide) (by decide));have c0:=AA HX1.o.box 0 rfl;go_upto_region 21 with fail;replace c0:=BX (S:=fun _=>False) c0 id;refine Dq 5 (XF w20) (by kernel_rfl) ((AK.refl _ w20).drew) (fun hHeld=>?_);refine mu 0 (h:=(mu 1 (h:=(mu 2 (h:=?_)))));(try go_frame);refine Ez 3 (h:=fun K hK=>?_);go_simp;go_at_call 38;(with_reducible refine (HFr.o _).mono ?_);rintro q1 w11 ⟨v11,rfl,h11,hx11⟩;obtain⟨n11,a11,l11,c11,a11',l11',c11',rfl⟩:=h11.shape;refine hK.o _ _ (hHeld.trans hx11) (fun hHeld=>?_);clear hK K;(try go_frame);refine mu 4 (h:=?_);(try go_frame);have HX2:=bH (HX1.o.keep hHeld);obtain⟨_,_,_,_,_,_,_,y0,y1,y2,-⟩:=HX2.o.arr.cells i hJn;have z0:=HX2.o.arr.free (i*3);have z1:=HX2.o.arr.free (i*3+1);have z2:=HX2.o.arr.free (i*3+2);refine ml 5 (h:=fun K hK=>?_);go_simp;refine hK.o _ _ ?_;clear hK K;(try go_frame);refine Dr (by kernel_rfl) ?_ _;have HX3:=bH ((HX2.o.put hJn h11).congr (f':=fun k=>if k=i then 1 else 0) (fun k _=>by split<;>simp));clear HX1 HX2 y0 y1 y2 z0 z1 z2 h11 hx11 hHeld c0 HFr;generalize ((w11.setCell ⟨gA,i*3,none⟩ (.bool n11)).setCell ⟨gA,i*3+1,none⟩ (.slice a11 l11 c11)).setCell ⟨gA,i*3+2,none⟩ (.slice a11' l11' c11')=we at *;have HEj:=bH (IY (p:=p) (i:=i) hs2);rw[HLn.o.2] at HEj;have HXe:=bH HX3.o;clear HX3;go_upto_region 22 with fail;have e0:=AA HXe.o.box 0 rfl;have e1:=AA HXe.o.box 1 rfl;have e2:=AA HXe.o.box 2 rfl;have e3:=AA HXe.o.box 3 rfl;have HMw:=bH (HM.o.keep HXe.o.ext);have hxy:=(AK.refl (fun _=>False) we).alloc (.cells #[.slice (some ⟨gA,0,none⟩) vn vn,.bool b'.ng,.slice b'.a1 b'.m1 b'.c1,.slice b'.a2 b'.m2 b'.c2] 134);have HMa:=bH (HMw.o.keep hxy);have HPa:=bH (HXe.o.pln.keep hxy);have hxl:=HM.o.len;have HLl:=bH (show xs.length+1=(j+2*i+s)+1 from by rw[hxl,Fo]);have hxl2:xs.length<=100000:=(by rw[hxl,Fo];omega);clear hxy hxl;go_wp2_with (at_builtin;refine Ig rfl (.tmp 101) (.tmp 103) rfl rfl rfl we ⟨some ⟨gA,0,none⟩,vn,vn,b'⟩ rfl HMa.o HPa.o hxl2 rfl ?_;intro v' w' HMb0 hsh;have HMb:=bH HMb0;obtain⟨ao',ac',e'⟩:=hsh;rw[HLl.o] at e';subst e';clear HMb0);go_roundg (2-(s+1));case measure=>omega
      case rel=>exact⟨s+1,_,_,by omega,rfl,by go_num,rfl,by rw[<- Nat.add_assoc,N5,HEj.o];exact HMb.o⟩
     obtain rfl:s=2:=(by omega);have HM1:=bH (show Ds w1 wr v vn xs (Lg p (j+2*(i+1))) from by have:=HM.o;rwa [show j+2*(i+1)=j+2*i+2 by omega]);clear HM;go_wp2;go_roundg (vn-(i+1));case measure=>omega
     case rel=>exact⟨i+1,_,_,by omega,rfl,by go_num,rfl,HM1.o⟩
   obtain rfl:i=vn:=(by omega);go_wp2;go_ret;exact⟨v,xs,w1,rfl,HB.o.2.2.size,HM.o,HB.o.2.2.trans HM.o.ext⟩
theorem Cn{w:World} {g g' j:Nat} (h:BN w g) (v:Value) (hv:∀d,v≠.int .u32 d):BN (w.setCell ⟨g',j,none⟩ v) g:=fun i d hc=>by
 rw[AJ?_setCell_if] at hc;split at hc
 ·rename_i e;cases hw:w.cell? ⟨g',j,none⟩ with
  | none=>rw[hw] at hc;cases hc
  | some u =>
   rw[hw] at hc;exact hv d (Option.some.inj hc)
 exact h i d hc
def Hc(w:World) (g i:Nat) (x:DY):Prop:=w.cell? ⟨g,i*4,none⟩=some (.slice x.ga x.gn x.gc)/\w.cell? ⟨g,i*4+1,none⟩=some (.bool x.b.ng)/\w.cell? ⟨g,i*4+2,none⟩=some (.slice x.b.a1 x.b.m1 x.b.c1)/\w.cell? ⟨g,i*4+3,none⟩=some (.slice x.b.a2 x.b.m2 x.b.c2)
structure Gp(w0 w:World) (gB n:Nat) (xs:Nat->DY) (R:Nat->CR):Prop where
 ext:XF w0 w
 row:DT w gB 134
 noDig:BN w gB
 low:w0.heap.size<=gB
 cl:∀i,i<n->Hc w gB i (xs i)
 pl:∀i,i<n->EW w n (xs i) (R i)
 far:∀i h,i<n->(xs i).ga=some ⟨h,0,none⟩->w0.heap.size<=h
 inj:∀i j,i<n->j<n->(xs i).ga=(xs j).ga->i=j
section
variable {w0 w w':World} {gB n i j k c:Nat} {xs xs':Nat->DY} {R R':Nat->CR}
theorem Hc.keep{g:Nat} {x:DY} {S:Nat->Prop} (h:Hc w g i x) (hx:AK S w w') (hl:g<w.heap.size) (hn:¬S g):Hc w' g i x :=
 ⟨(hx.cell (p:=⟨g,i*4,none⟩) hl hn).trans h.1,(hx.cell (p:=⟨g,i*4+1,none⟩) hl hn).trans h.2.1,(hx.cell (p:=⟨g,i*4+2,none⟩) hl hn).trans h.2.2.1,(hx.cell (p:=⟨g,i*4+3,none⟩) hl hn).trans h.2.2.2⟩
theorem Gp.lt(h:Gp w0 w gB n xs R):gB<w.heap.size:=by
 obtain⟨arr,h1⟩:=h.row;exact AT h1
theorem Gp.free(h:Gp w0 w gB n xs R) (i:Nat):w.frozen? ⟨gB,i,none⟩=false:=by
 obtain⟨arr,h1⟩:=h.row;exact AC h1 i
theorem DT.keep'{g:Nat} {T:TypeId} {S:Nat->Prop} (h:DT w g T) (hx:AK S w w') (hn:¬S g):DT w' g T:=by
 obtain⟨arr,h1⟩:=h;exact⟨arr,(hx.blk (AT h1) hn).trans h1⟩
theorem Gp.keep(h:Gp w0 w gB n xs R) (hx:XF w w'):Gp w0 w' gB n xs R :=
 ⟨h.ext.trans hx,h.row.keep' hx id,fun i d hc=>h.noDig i d (by rw[<- hx.cell (p:=⟨gB,i,none⟩) h.lt id];exact hc),h.low,fun i hi=>(h.cl i hi).keep hx h.lt id,fun i hi=>(h.pl i hi).keep hx,h.far,h.inj⟩
theorem Gp.congr(h:Gp w0 w gB n xs R) (hR:∀i,i<n->(∀k,k<n->(R i).1 k=(R' i).1 k)/\(R i).2=(R' i).2):Gp w0 w gB n xs R' :=
 ⟨h.ext,h.row,h.noDig,h.low,h.cl,fun i hi=>by
  obtain⟨g,h1,h2,h3,h4,h5,h6⟩:=h.pl i hi;exact⟨g,h1,h2,h3,h4,h5.congr (hR i hi).1,by rw[<- (hR i hi).2];exact h6⟩,h.far,h.inj⟩
theorem Gp.at_(h:Gp w0 w gB n xs R) (hi:i<n):∃g gc b,xs i=⟨some ⟨g,0,none⟩,n,gc,b⟩/\n<=gc/\gc<=maxLen/\B9 w g n (R i).1/\AN w b.v (R i).2/\g≠gB/\w0.heap.size<=g:=by
 obtain⟨g,h1,h2,h3,h4,h5,h6⟩:=h.pl i hi;obtain⟨arr,ha,_⟩:=h5.row;refine⟨g,(xs i).gc,(xs i).b,?_,h3,h4,h5,h6,DT.ne ⟨arr,ha⟩ h.row (by decide),h.far i g hi h1⟩;rw[<- h1,<- h2]
theorem Gp.putA(h:Gp w0 w gB n xs R) (hi:i<n) {g gc:Nat} {b:BW} (hx:xs i=⟨some ⟨g,0,none⟩,n,gc,b⟩) (hk:k<n) {neg:Bool} {a1 a2:Option Addr} {m1 c1 m2 c2:Nat} {q:Rat} (hq:AN w (.agg #[.bool neg,.slice a1 m1 c1,.slice a2 m2 c2]) q) :
  Gp w0 (((w.setCell ⟨g,k*3,none⟩ (.bool neg)).setCell ⟨g,k*3+1,none⟩ (.slice a1 m1 c1)).setCell ⟨g,k*3+2,none⟩ (.slice a2 m2 c2)) gB n xs (fun r=>if r=i then (fun c=>if c=k then q else (R i).1 c,(R i).2) else R r):=by
 obtain⟨g',gc',b',e,h3,h4,h5,h6,h7,h8⟩:=h.at_ hi;rw[hx] at e;cases e;obtain⟨p1,p2,p3,_⟩:=h5.put hk hq;have hne:¬gB=g:=fun e=>h7 e.symm;refine⟨h.ext.own p2 (fun k e=>by have e':k=g:=e;omega),h.row.keep' p2 hne,Cn (Cn (Cn h.noDig _ (fun d e=>by cases e)) _ (fun d e=>by cases e)) _ (fun d e=>by cases e),h.low,fun r hr=>(h.cl r hr).keep p2 h.lt hne,fun r hr=>?_,h.far,h.inj⟩;by_cases e:r=i
 ·subst e;rw[if_pos rfl];exact⟨g,by rw[hx],by rw[hx],by rw[hx];exact h3,by rw[hx];exact h4,p1,by rw[hx];exact h6.past p3⟩
 rw[if_neg e];obtain⟨g',k1,k2,k3,k4,k5,k6⟩:=h.pl r hr;refine⟨g',k1,k2,k3,k4,k5.past p2 (fun e'=>e (h.inj r i hr hi ?_)) p3,k6.past p3⟩;have e':g'=g:=e';rw[k1,hx,e']
theorem Gp.block(h:Gp w0 w gB n xs R) (hx:AK (fun k=>k=gB) w w') (hb:DT w' gB 134) (hd:BN w' gB) (hc:∀i,i<n->Hc w' gB i (xs' i)) (hf:∀i,i<n->∃r,r<n/\(xs' i).ga=(xs r).ga/\(xs' i).gn=(xs r).gn/\(xs' i).gc=(xs r).gc/\(R' i).1=(R r).1/\AN w (xs' i).b.v (R' i).2) (hinj:∀i j,i<n->j<n->(xs' i).ga=(xs' j).ga->i=j):Gp w0 w' gB n xs' R':=by
 have hr:∀v l,Ad w v l->Ad w' v l:=fun v l hv=>hv.past hx (fun k _ e=>by
  have e':k=gB:=e;subst e';exact h.noDig)
 have hlow:=h.low;refine⟨h.ext.own hx (fun k e=>by have e':k=gB:=e;omega),hb,hd,h.low,hc,fun i hi=>?_,fun i g hi e=>?_,hinj⟩
 ·obtain⟨r,h1,h2,h3,h4,h5,h6⟩:=hf i hi;obtain⟨g,k1,k2,k3,k4,k5,k6⟩:=h.pl r h1;obtain⟨arr,ha,_⟩:=k5.row;exact⟨g,by rw[h2,k1],by rw[h3,k2],by rw[h4];exact k3,by rw[h4];exact k4,by rw[h5];exact k5.past hx (DT.ne ⟨arr,ha⟩ h.row (by decide)) hr,h6.past hr⟩
 obtain⟨r,h1,h2,_⟩:=hf i hi;exact h.far r g h1 (by rw[<- h2,e])
theorem Gp.putB(h:Gp w0 w gB n xs R) (hi:i<n) {b':BW} {q:Rat} (hq:AN w b'.v q) :
  Gp w0 (((w.setCell ⟨gB,i*4+1,none⟩ (.bool b'.ng)).setCell ⟨gB,i*4+2,none⟩ (.slice b'.a1 b'.m1 b'.c1)).setCell ⟨gB,i*4+3,none⟩ (.slice b'.a2 b'.m2 b'.c2)) gB n (fun r=>if r=i then ⟨(xs i).ga,(xs i).gn,(xs i).gc,b'⟩ else xs r) (fun r=>if r=i then ((R i).1,q) else R r):=by
 have hx:=(((AK.refl (fun k=>k=gB) w).setCell (p:=⟨gB,i*4+1,none⟩) (.bool b'.ng) (fun _=>rfl)).setCell (p:=⟨gB,i*4+2,none⟩) (.slice b'.a1 b'.m1 b'.c1) (fun _=>rfl)).setCell (p:=⟨gB,i*4+3,none⟩) (.slice b'.a2 b'.m2 b'.c2) (fun _=>rfl);refine h.block hx ?_ (Cn (Cn (Cn h.noDig _ (fun d e=>by cases e)) _ (fun d e=>by cases e)) _ (fun d e=>by cases e)) (fun r hr=>?_) (fun r hr=>⟨r,hr,?_⟩) (fun r s hr hs e=>h.inj r s hr hs ?_)
 ·obtain⟨arr,ha⟩:=h.row;exact⟨_,AI (AI (AI ha _ _) _ _) _ _⟩
 ·obtain⟨c0,c1,c2,c3⟩:=h.cl r hr;by_cases e:r=i
  ·subst e;rw[if_pos rfl];refine⟨?_,?_,?_,?_⟩
   ·simp only[AJ?_setCell_if];rw[if_neg (by omega),if_neg (by omega),if_neg (by omega)];exact c0
   ·simp only[AJ?_setCell_if];rw[if_neg (by omega),if_neg (by omega),if_pos (by simp),c1];rfl
   ·simp only[AJ?_setCell_if];rw[if_neg (by omega),if_pos (by simp),if_neg (by omega),c2];rfl
   simp only[AJ?_setCell_if];rw[if_pos (by simp),if_neg (by omega),if_neg (by omega),c3];rfl
  rw[if_neg e];refine⟨?_,?_,?_,?_⟩<;>simp only[AJ?_setCell_if]<;>rw[if_neg (by omega),if_neg (by omega),if_neg (by omega)]
  ·exact c0
  ·exact c1
  ·exact c2
  exact c3
 ·by_cases e:r=i
  ·subst e;rw[if_pos rfl,if_pos rfl];exact⟨rfl,rfl,rfl,rfl,hq⟩
  rw[if_neg e,if_neg e];obtain⟨_,_,_,_,_,_,h6⟩:=h.pl r hr;exact⟨rfl,rfl,rfl,rfl,h6⟩
 have hg:∀r,(if r=i then (⟨(xs i).ga,(xs i).gn,(xs i).gc,b'⟩:DY) else xs r).ga=(xs r).ga:=fun r=>by
  by_cases e:r=i
  ·subst e;rw[if_pos rfl]
  rw[if_neg e]
 rw[hg,hg] at e;exact e
def Lr(xs:Nat->DY) (c j:Nat):Nat->DY:=fun i=>if i=c then xs j else if i=j then xs c else xs i
def JN(w:World) (g i:Nat) (x:DY):World:=(((w.setCell ⟨g,i*4,none⟩ (.slice x.ga x.gn x.gc)).setCell ⟨g,i*4+1,none⟩ (.bool x.b.ng)).setCell ⟨g,i*4+2,none⟩ (.slice x.b.a1 x.b.m1 x.b.c1)).setCell ⟨g,i*4+3,none⟩ (.slice x.b.a2 x.b.m2 x.b.c2)
theorem Na(w:World) (g i:Nat) (x:DY):AK (fun k=>k=g) w (JN w g i x):=((((AK.refl (fun k=>k=g) w).setCell (p:=⟨g,i*4,none⟩) (.slice x.ga x.gn x.gc) (fun _=>rfl)).setCell (p:=⟨g,i*4+1,none⟩) (.bool x.b.ng) (fun _=>rfl)).setCell (p:=⟨g,i*4+2,none⟩) (.slice x.b.a1 x.b.m1 x.b.c1) (fun _=>rfl)).setCell (p:=⟨g,i*4+3,none⟩) (.slice x.b.a2 x.b.m2 x.b.c2) (fun _=>rfl)
theorem NA{g:Nat} {x:DY} {T:TypeId} (h:DT w g T):DT (JN w g i x) g T:=by
 obtain⟨arr,ha⟩:=h;exact⟨_,AI (AI (AI (AI ha _ _) _ _) _ _) _ _⟩
theorem KU{g:Nat} {x:DY} (h:BN w g):BN (JN w g i x) g:=Cn (Cn (Cn (Cn h _ (fun d e=>by cases e)) _ (fun d e=>by cases e)) _ (fun d e=>by cases e)) _ (fun d e=>by cases e)
theorem FX{g:Nat} {x y:DY} (h:Hc w g i y):Hc (JN w g i x) g i x:=by
 obtain⟨c0,c1,c2,c3⟩:=h;unfold JN;refine⟨?_,?_,?_,?_⟩<;>simp only[AJ?_setCell_if]
 ·rw[if_neg (by omega),if_neg (by omega),if_neg (by omega),if_pos (by simp),c0];rfl
 ·rw[if_neg (by omega),if_neg (by omega),if_pos (by simp),if_neg (by omega),c1];rfl
 ·rw[if_neg (by omega),if_pos (by simp),if_neg (by omega),if_neg (by omega),c2];rfl
 rw[if_pos (by simp),if_neg (by omega),if_neg (by omega),if_neg (by omega),c3];rfl
theorem Es{g r:Nat} {x y:DY} (h:Hc w g r y) (e:r≠i):Hc (JN w g i x) g r y:=by
 obtain⟨c0,c1,c2,c3⟩:=h;unfold JN;refine⟨?_,?_,?_,?_⟩<;>simp only[AJ?_setCell_if]<;>rw[if_neg (by omega),if_neg (by omega),if_neg (by omega),if_neg (by omega)]
 ·exact c0
 ·exact c1
 ·exact c2
 exact c3
theorem Gp.swap(h:Gp w0 w gB n xs R) (hc:c<n) (hj:j<n):Gp w0 (JN (JN w gB c (xs j)) gB j (xs c)) gB n (Lr xs c j) (CU R c j):=by
 refine h.block ((Na w gB c (xs j)).trans (Na _ gB j (xs c))) (NA (NA h.row)) (KU (KU h.noDig)) (fun r hr=>?_) (fun r hr=>?_) (fun r s hr hs e=>?_)
 ·unfold Lr;by_cases e:r=c
  ·subst e;rw[if_pos rfl];by_cases e2:r=j
   ·subst e2;exact FX (FX (h.cl r hr))
   exact Es (FX (h.cl r hr)) e2
  rw[if_neg e];by_cases e2:r=j
  ·subst e2;rw[if_pos rfl];exact FX (Es (h.cl r hr) e)
  rw[if_neg e2];exact Es (Es (h.cl r hr) e) e2
 ·have hq:∀s,s<n->AN w (xs s).b.v (R s).2:=fun s hs=>by
   obtain⟨_,_,_,_,_,_,h6⟩:=h.pl s hs;exact h6
  unfold Lr CU;by_cases e:r=c
  ·rw[if_pos e,if_pos e];exact⟨j,hj,rfl,rfl,rfl,rfl,hq j hj⟩
  rw[if_neg e,if_neg e];by_cases e2:r=j
  ·rw[if_pos e2,if_pos e2];exact⟨c,hc,rfl,rfl,rfl,rfl,hq c hc⟩
  rw[if_neg e2,if_neg e2];exact⟨r,hr,rfl,rfl,rfl,rfl,hq r hr⟩
 unfold Lr at e;by_cases r1:r=c
 ·rw[if_pos r1] at e;by_cases s1:s=c
  ·omega
  rw[if_neg s1] at e;by_cases s2:s=j
  ·rw[if_pos s2] at e;have:=h.inj j c hj hc e;omega
  rw[if_neg s2] at e;have:=h.inj j s hj hs e;omega
 rw[if_neg r1] at e;by_cases r2:r=j
 ·rw[if_pos r2] at e;by_cases s1:s=c
  ·rw[if_pos s1] at e;have:=h.inj c j hc hj e;omega
  rw[if_neg s1] at e;by_cases s2:s=j
  ·omega
  rw[if_neg s2] at e;have:=h.inj c s hc hs e;omega
 rw[if_neg r2] at e;by_cases s1:s=c
 ·rw[if_pos s1] at e;have:=h.inj r j hr hj e;omega
 rw[if_neg s1] at e;by_cases s2:s=j
 ·rw[if_pos s2] at e;have:=h.inj r c hr hc e;omega
 rw[if_neg s2] at e;exact h.inj r s hr hs e
end
theorem TV{β:Type} {f:β->List Value} {m:Nat} {w:World} {base:Nat} {T:TypeId} {v:Value} {l:List β} (hf:∀x,(f x).length=m) (h:w.ownsRow base T m v l.length (l.flatMap f)):Sl w v m (l.map f):=by
 rcases h.2 with⟨rfl,h0⟩|⟨g,cap,cur,rfl,hb,hg,hnc,hcm,hcs,htake⟩
 ·exact⟨none,0,by rw[List.length_map,h0],by rw[List.length_map,h0];exact Nat.le_refl _,by unfold maxLen;decide,fun _=>rfl,fun h=>by rw[List.length_map,h0] at h;exact absurd h (Nat.lt_irrefl 0)⟩
 refine⟨some ⟨g,0,none⟩,cap,by rw[List.length_map],by rw[List.length_map];exact hnc,hcm,(fun e=>by cases e),fun _=>⟨g,0,rfl,AT hg,fun i r hi j u hu=>?_⟩⟩;rw[List.getElem?_map] at hi;obtain⟨x,hx,rfl⟩:=Option.map_eq_some_iff.1 hi;have hj:j<m:=(by rw[<- hf x];exact (List.getElem?_eq_some_iff.1 hu).1);have hget:=My hf l i hx j hj;rw[hu,<- htake,List.getElem?_take] at hget;rw[Nat.zero_add,AS hg,<- Array.getElem?_toList];split at hget
 ·exact hget
 cases hget
section
variable {w3 w w':World} {gb:Nat} {va v v':Value} {vars vars':List Ey} {prs:List RT} {y:RT}
end
section
variable {w0 w w':World} {rb:Nat} {tv tv':Value} {nm:ByteArray} {gr kd bd:Int} {l l':List B1}
end
def Ew(w:World) (v:Value) (n:Nat) (es:List CR):Prop:=∃xs:List DY,xs.length=es.length/\Sl w v 4 (xs.map DY.cells)/\∀(i:Nat) x e,xs[i]?=some x->es[i]?=some e->EW w n x e
theorem Ew.keep{w w':World} {v:Value} {n:Nat} {es:List CR} (h:Ew w v n es) (hx:XF w w'):Ew w' v n es:=by
 obtain⟨xs,h1,h2,h3⟩:=h;exact⟨xs,h1,h2.keep hx,fun i x e k1 k2=>(h3 i x e k1 k2).keep hx⟩
def GE:CR:=(fun _=>0,0)
def Ob:DY:=⟨none,0,0,⟨false,none,0,0,none,0,0⟩⟩
theorem Ew.shape{w:World} {v:Value} {n:Nat} {es:List CR} (h:Ew w v n es):∃ao c,v=.slice ao es.length c/\es.length<=maxLen:=by
 obtain⟨xs,h1,⟨ao,c,rfl,h2,h3,_⟩,_⟩:=h;rw[List.length_map,h1];rw[List.length_map,h1] at h2;exact⟨ao,c,rfl,Nat.le_trans h2 h3⟩
theorem Ew.at_{w:World} {ao:Option Addr} {m c n:Nat} {es:List CR} (h:Ew w (.slice ao m c) n es) {i:Nat} (hi:i<es.length):∃b off g gc r,ao=some ⟨b,off,none⟩/\b<w.heap.size/\w.cell? ⟨b,off+i*4,none⟩=some (.slice (some ⟨g,0,none⟩) n gc)/\w.cell? ⟨b,off+i*4+1,none⟩=some (.bool (BW.ng r))/\w.cell? ⟨b,off+i*4+2,none⟩=some (.slice r.a1 r.m1 r.c1)/\w.cell? ⟨b,off+i*4+3,none⟩=some (.slice r.a2 r.m2 r.c2)/\n<=gc/\gc<=maxLen/\B9 w g n (es.getD i GE).1/\AN w r.v (es.getD i GE).2:=by
 obtain⟨xs,h1,h2,h3⟩:=h;have hx:xs[i]?=some xs[i]:=List.getElem?_eq_getElem (by omega);obtain⟨b,off,k1,k2,k3⟩:=h2.at (i:=i) (r:=xs[i].cells) (by rw[List.getElem?_map,hx];rfl);obtain⟨g,g1,g2,g3,g4,g5,g6⟩:=h3 i _ _ hx (List.getElem?_eq_getElem hi);rw[BZ hi GE];refine⟨b,off,g,xs[i].gc,xs[i].b,k1,k2,?_,k3 1 _ rfl,k3 2 _ rfl,k3 3 _ rfl,g3,g4,g5,g6⟩;have:=k3 0 _ rfl;rw[<- g1,<- g2];exact this
structure G5(w0 w:World) (v:Value) (n:Nat) (xs:List DY) (es:List CR):Prop where
 st:Ds w0 w v n xs es
 own:∃g,v.ownBlock=some g
 far:∀x∈xs,∃g,x.ga=some ⟨g,0,none⟩/\w0.heap.size<=g
 dis:∀(i j:Nat) x y,i<j->xs[i]?=some x->xs[j]?=some y->x.ga≠y.ga
section
variable {w0 w w':World} {v v':Value} {n:Nat} {xs:List DY} {es:List CR} {x:DY} {e:CR}
theorem G5.keep(h:G5 w0 w v n xs es) (hx:XF w w'):G5 w0 w' v n xs es:=⟨h.st.keep hx,h.own,h.far,h.dis⟩
theorem G5.lt(h:G5 w0 w v n xs es):∀y∈xs,∃g,y.ga=some ⟨g,0,none⟩/\g<w.heap.size:=fun y hy=>by
 obtain⟨i,hi,rfl⟩:=List.getElem_of_mem hy;have hl:=h.st.len;obtain⟨g,h1,_,_,_,h5,_⟩:=h.st.all i _ _ (List.getElem?_eq_getElem hi) (List.getElem?_eq_getElem (show i<es.length by omega));exact⟨g,h1,h5.lt⟩
theorem G5.push(h:G5 w0 w v n xs es) (hs:Ds w0 w' v' n (xs++[x]) (es++[e])) (ho:∃g,v'.ownBlock=some g) {g:Nat} (hg:x.ga=some ⟨g,0,none⟩) (hl:w.heap.size<=g):G5 w0 w' v' n (xs++[x]) (es++[e]):=by
 have hsz:=h.st.ext.size;refine⟨hs,ho,fun y hy=>?_,fun i j y z hij h1 h2=>?_⟩
 ·rcases List.mem_append.1 hy with k|k
  ·exact h.far y k
  rw[List.mem_singleton.1 k];exact⟨g,hg,by omega⟩
 have hj:j<xs.length+1:=by
  have:=(List.getElem?_eq_some_iff.1 h2).1;rw[List.length_append] at this;exact this
 rw[List.getElem?_append_left (by omega)] at h1;by_cases e:j<xs.length
 ·rw[List.getElem?_append_left e] at h2;exact h.dis i j y z hij h1 h2
 rw[List.getElem?_append_right (by omega),show j-xs.length=0 by omega] at h2;obtain rfl:x=z:=(by simpa using h2);obtain⟨g',k1,k2⟩:=h.lt y (List.mem_of_getElem? h1);rw[k1,hg];intro e2;have:=(Addr.mk.inj (Option.some.inj e2)).1;omega
theorem G5.start:G5 w (w.alloc (.cells #[] 134)) (.slice (some ⟨w.heap.size,0,none⟩) 0 0) n [] [] :=
 ⟨Ds.start (AK.refl _ _),⟨_,rfl⟩,fun x hx=>(by cases hx),fun i j x y _ h1=>(by cases h1)⟩
theorem G5.mst(h:G5 w0 w v n xs es) (hn:es.length=n):∃gB c,v=.slice (some ⟨gB,0,none⟩) n c/\n<=c/\c<=maxLen/\Gp w0 w gB n (fun i=>xs.getD i Ob) (fun i=>es.getD i GE):=by
 have hl:xs.length=n:=h.st.len.trans hn;obtain⟨g,hg⟩:=h.own;have hown:=h.st.own;have hlo:=(World.ownsRow.lt hown g hg).1;obtain⟨_,c1,hsl,hc1,hc2,_,hcell⟩:=TV (f:=DY.cells) (m:=4) (fun _=>rfl) hown;rcases hown.2 with⟨e,_⟩|⟨g2,c,cur,e,k1,k2,k3,k4,k5,k6⟩
 ·rw[e] at hg;cases hg
 rw[e] at hg;cases hg;rw[e] at hsl;injection hsl with q1 q2 q3;subst q1 q3;rw[List.length_map,hl] at hc1 hcell;refine⟨_,c,by rw[e,hl],hc1,hc2,h.st.ext,⟨cur,k2⟩,h.st.noDig _ (by rw[e];rfl),k1,fun i hi=>?_,fun i hi=>?_,fun i g hi e=>?_,fun i j hi hj e=>?_⟩
 ·have hx:xs[i]?=some (xs.getD i Ob):=(by rw[BZ (by omega:i<xs.length) Ob];exact List.getElem?_eq_getElem (by omega));obtain⟨b,off,e1,_,e3⟩:=hcell (by omega);cases e1;have e4:=e3 i _ (by rw[List.getElem?_map,hx];rfl);rw[Nat.zero_add] at e4;exact⟨e4 0 _ rfl,e4 1 _ rfl,e4 2 _ rfl,e4 3 _ rfl⟩
 ·exact h.st.all i _ _ (by rw[BZ (by omega:i<xs.length) Ob];exact List.getElem?_eq_getElem (by omega)) (by rw[BZ (by omega:i<es.length) GE];exact List.getElem?_eq_getElem (by omega))
 ·have hm:xs.getD i Ob∈xs:=(by rw[BZ (by omega:i<xs.length) Ob];exact List.getElem_mem _);obtain⟨g',f1,f2⟩:=h.far _ hm;rw[e] at f1;cases f1;exact f2
 have hx:∀i,i<n->xs[i]?=some (xs.getD i Ob):=fun i hi=>by rw[BZ (by omega:i<xs.length) Ob];exact List.getElem?_eq_getElem (by omega)
 rcases Nat.lt_trichotomy i j with q|q|q
 ·exact absurd e (h.dis i j _ _ q (hx i hi) (hx j hj))
 ·exact q
 exact absurd e.symm (h.dis j i _ _ q (hx j hj) (hx i hi))
end
theorem Oi{w:World} {ops:Array Oper} {o:Oper} {a:Act} {K:Act->World->Prop} {Q:Exit->Act->World->Prop} {E:Prop} (hgd:o.guard=none) (s x:Operand) (ho:o.op=.call { callee:=.builtin .append,args:=#[s,x],argTypes:=#[35,35] }) {b0:Nat} (hs:a.eval s=.slice (some ⟨b0,0,none⟩) 0 0) (hb:Au w b0=some (.cells #[] 34 (0,0)))
  {g n c:Nat} {f:Nat->Rat} (hx:a.eval x=.slice (some ⟨g,0,none⟩) n c) (hr:B9 w g n f) (h0:0<n) (hn:n<=1000)
  (h:∀v' w',A8 w' b0 v' n f->AK (fun k=>k=b0) w w'->(∀u d,Ad w u d->Ad w' u d)->K (a.put o.dst v') w') :
  if Region.wanted o (yielded ops a.tmps)=true then Oper.wp prog o a w K Q else E:=by
 have hw:Region.wanted o (yielded ops a.tmps)=true:=by simp[Region.wanted,hgd]
 rw[if_pos hw];obtain⟨i0,hi0,hz0,hz1,hz2⟩:=info_parts Tryz.infoRat
 obtain⟨xs,k1,k2,k3,k4,k5⟩:=hr.cellsL;have hown:w.ownsRow b0 34 3 (.slice (some ⟨b0,0,none⟩) 0 0) 0 []:=BU 3 (Nat.le_refl _) hb;have hnd:∀g,(Value.slice (some ⟨b0,0,none⟩) 0 0).ownBlock=some g->BN w g:=fun g hg=>by
  cases hg;exact Ae hb (fun u hu=>by simp at hu)
 have hby:(0+n)*56<=140737488355328:=by omega
 obtain⟨v',w',hrn,g1,g2,g3⟩:=DE (P:=prog) (w:=w) b0 35 o.type 34 i0 _ 3 56 underlying35 hi0 hz0 hz1 hz2 rfl (by decide) (.slice (some ⟨b0,0,none⟩) 0 0) 0 [] hown (some ⟨g,0,none⟩) n c (fun e=>by cases e) xs k1 (.inr ⟨⟨g,0,none⟩,rfl,k2⟩) k3 (by unfold maxLen;omega) hby (Nat.le_of_lt (AT hb));have hx':AK (fun k=>k=b0) w w':=(AK.refl (fun k=>k=b0) w).grown g2 (fun k hk _=>by cases hk;rfl);have hnd':=EZ (P:=prog) w b0 35 o.type 34 i0 _ underlying35 hi0 hz0 (by rw[hz1];rfl) (CL ⟨false,none,0,0,none,0,0⟩) (.slice (some ⟨b0,0,none⟩) 0 0) 0 [] (by rw[hz1];exact hown) hnd (fun u hu=>by cases hu) ⟨g,0,none⟩ n c xs (by rw[hz1];exact k1) k2 k3 k4 h0 (by unfold maxLen;omega) (by rw[hz2];exact hby) v' w' hrn;have hrd:∀u d,Ad w u d->Ad w' u d:=fun u d hu=>hu.past hx' (fun k _ hk=>by
  have e':k=b0:=hk;subst e';exact Ae hb (fun u hu=>by simp at hu))
 unfold Oper.wp execOp;simp only[ho,resolve,invoke,builtin,Sem.run_bind,Sem.run_pure,Result.andThen_ok,List.map_toArray,List.map_cons,List.map_nil,hs,hx,hrn];refine h v' w' (A8.of (m:=n) (by rw[Nat.zero_add,List.nil_append] at g1;exact g1) hnd' fun i hi=>?_) hx' hrd;obtain⟨ng,a1,m1,c1,a2,m2,c2,e0,e1,e2,e3⟩:=k5 i hi;exact⟨ng,a1,m1,c1,a2,m2,c2,e0,e1,e2,e3.past hrd⟩
theorem Pd{w0 w:World} {ops:Array Oper} {o:Oper} {a:Act} {K:Act->World->Prop} {Q:Exit->Act->World->Prop} {E:Prop} {v:Value} {n:Nat} {xs:List DY} {es:List CR} {e:CR} (hgd:o.guard=none) (s x:Operand) (ho:o.op=.call { callee:=.builtin .append,args:=#[s,x],argTypes:=#[85,85] }) (hs:a.eval s=v) {c:Nat} {ad:Addr} (hx:a.eval x=.slice (some ad) 1 c) (we:World) (y:DY) (hw:w=we.alloc (.cells #[.slice y.ga y.gn y.gc,.bool y.b.ng,.slice y.b.a1 y.b.m1 y.b.c1,.slice y.b.a2 y.b.m2 y.b.c2] 134)) (hM:Ds w0 w v n xs es) (hP:EW w n y e) (hl:xs.length<=100000) (had:ad=⟨we.heap.size,0,none⟩) (hov:∃g,v.ownBlock=some g)
  (h:∀v' w',Ds w0 w' v' n (xs++[y]) (es++[e])->(∃g c,v'=.slice (some ⟨g,0,none⟩) (xs.length+1) c)->AK (fun k=>v.ownBlock=some k) w w'->K (a.put o.dst v') w') :
  if Region.wanted o (yielded ops a.tmps)=true then Oper.wp prog o a w K Q else E:=by
 subst hw had;refine B0 hgd s x ho underlying85 Tryz.infoPlane rfl (Gg ⟨none,0,0,⟨false,none,0,0,none,0,0⟩⟩) (by decide) (by decide) w0.heap.size v xs.length (xs.flatMap DY.cells) hs hM.own hM.noDig (J5 xs) ⟨we.heap.size,0,none⟩ c y.cells hx rfl (Bz _ _ _) (LP _) (Gg _) hl hM.ext.size fun v' w' ha=>h v' w' (hM.push ha hP) ?_ ha.ext;rcases ha.own.2 with⟨rfl,h0⟩|⟨g,c,cur,e',_⟩
 ·obtain⟨g,hg⟩:=hov;rcases ha.lies with k|k
  ·rw[hg] at k;cases k
  cases k
 exact⟨g,c,e'⟩
def UP(n:Nat) (R:Nat->CR) (L:Nat):Prop:=∀i,i<n->(∀k,k<n->Sz ((R i).1 k) L)/\Sz (R i).2 L
def LW:Nat->Nat
 | 0=>2
 | c+1=>8*LW c+1
theorem Ts:∀c,1<=LW c
 | 0=>by decide
 | c+1=>by unfold LW;omega
theorem SQ{c:Nat} (h:c<=3):LW c<=2000:=by
 rcases c with _|_|_|_|c
 ·decide
 ·decide
 ·decide
 ·decide
 omega
theorem UP.swap{n c j L:Nat} {R:Nat->CR} (h:UP n R L) (hc:c<n) (hj:j<n):UP n (CU R c j) L:=fun i hi=>by
 unfold CU;split
 ·exact h j hj
 split
 ·exact h c hc
 exact h i hi
theorem Uz{a b:Rat} {L:Nat} (ha:Sz a L) (hb:Sz b (4*L)):Sz (a-b) (8*L+1):=(Sz.sub (ha.mono (by omega:L<=4*L)) hb).mono (by omega)
theorem Ok{a b:Rat} {L:Nat} (ha:Sz a L) (hb:Sz b L) (h1:1<=L):Sz (a/b) (2*L):=(Sz.div ha hb h1).mono (by omega)
theorem Ph{a f b:Rat} {L:Nat} (ha:Sz a L) (hf:Sz f (2*L)) (hb:Sz b L):Sz (a-f*b) (8*L+1):=Uz ha ((Sz.mul hf (hb.mono (by omega:L<=2*L))).mono (by omega))
theorem UP.elim{n c L:Nat} {R:Nat->CR} (h:UP n R L) (hc:c<n) (h1:1<=L):UP n (DC R c) (8*L+1):=fun i hi=>by
 unfold DC;split
 ·exact⟨fun k hk=>((h c hc).1 k hk).mono (by omega),(h c hc).2.mono (by omega)⟩
 have hf:=Ok ((h i hi).1 c hc) ((h c hc).1 c hc) h1;exact⟨fun k hk=>Ph ((h i hi).1 k hk) hf ((h c hc).1 k hk),Ph (h i hi).2 hf (h c hc).2⟩
theorem B9.rats{w:World} {b n:Nat} {f:Nat->Rat} (h:B9 w b n f) {L:Nat} (hs:∀i,i<n->Sz (f i) L) {c:Nat} (hc:n<=c) (hm:c<=maxLen):B2 w (.slice (some ⟨b,0,none⟩) n c) (AP n f) L:=by
 have hex:∃cs:List (List Value),cs.length=n/\∀i,i<n->∃neg a1 m1 c1 a2 m2 c2,cs[i]?=some [.bool neg,.slice a1 m1 c1,.slice a2 m2 c2]/\w.cell? ⟨b,i*3,none⟩=some (.bool neg)/\w.cell? ⟨b,i*3+1,none⟩=some (.slice a1 m1 c1)/\w.cell? ⟨b,i*3+2,none⟩=some (.slice a2 m2 c2)/\AN w (.agg #[.bool neg,.slice a1 m1 c1,.slice a2 m2 c2]) (f i):=by
  have hg:∀i:Fin n,∃r:List Value,∃neg a1 m1 c1 a2 m2 c2,r=[.bool neg,.slice a1 m1 c1,.slice a2 m2 c2]/\w.cell? ⟨b,i*3,none⟩=some (.bool neg)/\w.cell? ⟨b,i*3+1,none⟩=some (.slice a1 m1 c1)/\w.cell? ⟨b,i*3+2,none⟩=some (.slice a2 m2 c2)/\AN w (.agg #[.bool neg,.slice a1 m1 c1,.slice a2 m2 c2]) (f i):=fun i=>by
   obtain⟨neg,a1,m1,c1,a2,m2,c2,h1⟩:=h.cells i i.2;exact⟨_,neg,a1,m1,c1,a2,m2,c2,rfl,h1⟩
  refine⟨List.ofFn fun i:Fin n=>Classical.choose (hg i),by simp,fun i hi=>?_⟩;obtain⟨neg,a1,m1,c1,a2,m2,c2,h1,h2⟩:=Classical.choose_spec (hg ⟨i,hi⟩);exact⟨neg,a1,m1,c1,a2,m2,c2,by rw[List.getElem?_ofFn,dif_pos hi,h1],h2⟩
 obtain⟨cs,hl,hcs⟩:=hex;refine⟨cs,by rw[hl,A9],⟨some ⟨b,0,none⟩,c,by rw[hl],by omega,hm,(fun e=>by cases e),fun hp=>⟨b,0,rfl,h.lt,fun i r hi j u hu=>?_⟩⟩,fun i c' q hc' hq=>?_⟩
 ·have hin:i<n:=(by rw[<- hl];exact (List.getElem?_eq_some_iff.1 hi).1);obtain⟨neg,a1,m1,c1,a2,m2,c2,h1,e0,e1,e2,_⟩:=hcs i hin;rw[h1] at hi;cases hi;rw[Nat.zero_add];match j,hu with
  | 0,hu=>cases hu;exact e0
  | 1,hu=>cases hu;exact e1
  | 2,hu=>cases hu;exact e2
  | j+3,hu=>simp at hu
 have hin:i<n:=(by rw[<- hl];exact (List.getElem?_eq_some_iff.1 hc').1);obtain⟨neg,a1,m1,c1,a2,m2,c2,h1,e0,e1,e2,h3⟩:=hcs i hin;rw[h1] at hc';cases hc';have:f i=q:=by
  simp[AP,hin] at hq;exact hq
 rw[<- this];exact h3.reads (hs i hin)
theorem A8.rats{w:World} {base n L:Nat} {v:Value} {f:Nat->Rat} (h:A8 w base v n f) (hs:∀i,i<n->Sz (f i) L):B2 w v (AP n f) L:=by
 rcases h with⟨rfl,rfl⟩|⟨g,cap,rfl,_,h1,h2,h3,_⟩
 ·exact⟨[],rfl,⟨none,0,rfl,Nat.le_refl _,by unfold maxLen;decide,fun _=>rfl,fun h=>absurd h (Nat.lt_irrefl 0)⟩,fun i c q h=>by cases h⟩
 exact h3.rats hs h1 h2
theorem LS{R R':Nat->CR} {n c:Nat} (h:∀i,i<n->R i=R' i):∀{f a:Nat},a+f<=n->Eo R c f a=Eo R' c f a
 | 0,_,_=>rfl
 | f+1,a,ha=>by
  show (if (R a).1 c=0 then Eo R c f (a+1) else some a)=if (R' a).1 c=0 then Eo R' c f (a+1) else some a
  rw[h a (by omega),LS h (by omega)]
theorem IZ{n:Nat}:∀{f c:Nat} {R R':Nat->CR},c+f=n->(∀i,i<n->R i=R' i)->(B4 n f c R=none/\B4 n f c R'=none)∨∃S S',B4 n f c R=some S/\B4 n f c R'=some S'/\∀i,i<n->S i=S' i
 | 0,c,R,R',_,h=>.inr ⟨R,R',rfl,rfl,h⟩
 | f+1,c,R,R',hc,h=>by
  have e1:∀R:Nat->CR,B4 n (f+1) c R=(match Eo R c (n-c) c with|none=>none|some j=>B4 n f (c+1) (DC (CU R c j) c)):=fun R=>rfl;rw[e1,e1,LS (R':=R') h (by omega)];cases hp:Eo R' c (n-c) c with
  | none=>exact .inl ⟨rfl,rfl⟩
  | some j =>
   obtain⟨_,h2,_⟩:=Gm hp;have hs:∀i,i<n->CU R c j i=CU R' c j i:=fun i hi=>by
    unfold CU;rw[h c (by omega),h j (by omega),h i hi]
   refine IZ (by omega) fun i hi=>?_;unfold DC;rw[hs i hi,hs c (by omega)]
theorem NR{n:Nat} {R R':Nat->CR} (h:∀i,i<n->R i=R' i):DR n R=DR n R':=by
 unfold DR;rcases IZ (f:=n) (c:=0) (by omega) h with⟨h1,h2⟩|⟨S,S',h1,h2,h3⟩
 ·rw[h1,h2]
 rw[h1,h2];show some (AP n _)=some (AP n _);congr 1;unfold AP;refine List.map_congr_left fun i hi=>?_;rw[h3 i (List.mem_range.1 hi)]
theorem Ds.rows{w0 w:World} {v:Value} {n:Nat} {xs:List DY} {es:List CR} (h:Ds w0 w v n xs es):Ew w v n es :=
 ⟨xs,h.len,TV (f:=DY.cells) (m:=4) (fun _=>rfl) h.own,h.all⟩
theorem Ew.nil{w:World} {n:Nat}:Ew w (.slice none 0 0) n [] :=
 ⟨[],rfl,⟨none,0,rfl,Nat.le_refl _,by unfold maxLen;decide,fun _=>rfl,fun h=>absurd h (Nat.lt_irrefl 0)⟩,fun i x e h=>by cases h⟩
theorem J2{z:Int} (h:CT z=true):EX z:=by
 unfold CT at h;simp only[Bool.and_eq_true,decide_eq_true_eq] at h;exact⟨by omega,by omega⟩
theorem Tg{r:DD} {n:Nat} (h:Cx n r=true) (k:Nat):∃z:Int,UL r k=(z:Rat)/\EX z:=by
 by_cases hk:∃q,q<r.terms.length/\(r.t q).var=(k:Int)
 ·obtain⟨q,hq,hv⟩:=hk;have hall:∀m,m<=r.terms.length->q<m->S8 r m k=((r.t q).coef:Rat):=by
   intro m;induction m with
   | zero=>intro _ h;omega
   | succ m ih =>
    intro h1 h2;by_cases e:m=q
    ·subst e;rw[<- Ng h (k:=m) (J:=k) (by omega) hv k,if_pos rfl]
    have hlt:=ih (by omega) (by omega);show S8 r m k+(if (r.t m).var=(k:Int) then ((r.t m).coef:Rat) else 0)=_;rw[if_neg (fun e2=>?_),hlt]
    ·grind
    unfold Cx at h;simp only[Bool.and_eq_true] at h;have h9:(r.t q).var<(r.t m).var:=(LR h.2).2 q m (by omega) (by omega);omega
  refine⟨(r.t q).coef,by rw[<- QN,hall _ (Nat.le_refl _) hq],?_⟩;unfold Cx at h;simp only[Bool.and_eq_true] at h;exact J2 (H8 h.2 q hq)
 refine⟨0,?_,⟨by decide,by decide⟩⟩;rw[<- QN];unfold S8;rw[Af fun q hq=>if_neg fun e=>hk ⟨q,hq,e⟩];rfl
theorem Ry{p:AH} (hv:AU p=true) {j:Nat} (hj:j<p.rows.length+2*p.vars.length):(∀k,Sz ((EQ p j).1 k) 2)/\Sz (EQ p j).2 2:=by
 by_cases h:j<p.rows.length
 ·rw[J6 h];have hr:=BR hv h;refine⟨fun k=>?_,?_⟩
  ·obtain⟨z,h1,h2⟩:=Tg hr k;show Sz (UL (p.r j) k) 2;rw[h1];exact Sz.int h2
  unfold Cx at hr;simp only[Bool.and_eq_true] at hr;exact Sz.int (J2 hr.1.1.2)
 have hi:(j-p.rows.length)/2<p.vars.length:=(by omega);have hvv:=CZ hv hi;unfold Gk at hvv;simp only[Bool.and_eq_true] at hvv;have e:EQ p j=(fun k=>if k=(j-p.rows.length)/2 then 1 else 0,if (j-p.rows.length)%2=0 then ((p.v ((j-p.rows.length)/2)).lo:Rat) else ((p.v ((j-p.rows.length)/2)).up:Rat)):=by
  unfold EQ;rw[if_neg h]
 rw[e];refine⟨fun k=>?_,?_⟩
 ·dsimp only;split
  ·exact Sz.int (k:=1) ⟨by decide,by decide⟩
  exact Sz.zero.mono (by decide)
 dsimp only;split
 ·exact Sz.int (J2 hvv.1.1.1)
 exact Sz.int (J2 hvv.1.1.2)
theorem Nz{p:AH} {J:List Nat} {i:Nat} (h:i<J.length):(J.map (EQ p)).getD i GE=EQ p (J.getD i 0):=by
 rw[BZ (by rw[List.length_map];exact h) GE,BZ h 0,List.getElem_map]
theorem Qe{p:AH} (hv:AU p=true) {J:List Nat} {n:Nat} (hn:J.length=n) (hJ:∀j∈J,j<p.rows.length+2*p.vars.length):UP n (fun i=>(J.map (EQ p)).getD i GE) 2:=fun i hi=>by
 dsimp only;rw[Nz (by omega)];have hj:J.getD i 0<p.rows.length+2*p.vars.length:=hJ _ (by rw[BZ (by omega) 0];exact List.getElem_mem _);exact⟨fun k _=>(Ry hv hj).1 k,(Ry hv hj).2⟩
theorem OW{p:AH} {J:List Nat} (hn:J.length=p.vars.length):DR p.vars.length (fun i=>(J.map (EQ p)).getD i GE)=DR p.vars.length (fun i=>EQ p (J.getD i 0)) :=
 NR fun i hi=>Nz (by omega)
theorem TW{w:World} {ao:Option Addr} {n c:Nat} {l:List DY} (h:Sl w (.slice ao n c) 4 (l.map DY.cells)):n=l.length/\(ao=none->c=0)/\UG w ao l.length (l.flatMap DY.cells):=by
 obtain⟨ao',c',e,h1,h2,h3,h4⟩:=h;cases e;rw[List.length_map] at h1 h4 ⊢;refine⟨rfl,h3,?_⟩;by_cases h0:l.length=0
 ·exact .inl h0
 obtain⟨b,off,rfl,hb,hc⟩:=h4 (by omega);refine .inr ⟨_,rfl,fun j u hu=>?_⟩;have hj:j<l.length*4:=by
  have:=(List.getElem?_eq_some_iff.1 hu).1;rwa [MR (f:=DY.cells) (m:=4) (fun _=>rfl)] at this
 have hi:j/4<l.length:=(by omega);have hr:j%4<4:=Nat.mod_lt _ (by decide);have hg:=My (f:=DY.cells) (m:=4) (fun _=>rfl) l (j/4) (List.getElem?_eq_getElem hi) (j%4) hr;rw[show j/4*4+j%4=j from by omega] at hg;have:=hc (j/4) _ (by rw[List.getElem?_map,List.getElem?_eq_getElem hi];rfl) (j%4) u (hg.symm.trans hu);rw[show off+j/4*4+j%4=off+j from by omega] at this;simpa[Addr.add_lit] using this
theorem Gi{w0 w:World} {ops:Array Oper} {o:Oper} {a:Act} {K:Act->World->Prop} {Q:Exit->Act->World->Prop} {E:Prop} {n:Nat} {es:List CR} (hgd:o.guard=none) (s x:Operand) (ho:o.op=.call { callee:=.builtin .append,args:=#[s,x],argTypes:=#[85,85] }) {b0:Nat} (hs:a.eval s=.slice (some ⟨b0,0,none⟩) 0 0) (hb:Au w b0=some (.cells #[] 134 (0,0))) {v:Value} (hx:a.eval x=v) (hp:Ew w v n es) (hl:es.length<=1000) (he:es=[]->v=.slice none 0 0) (hw:XF w0 w) (hlo:w0.heap.size<=b0)
  (h:∀v' w',(∃xs,Ds w0 w' v' n xs es)->(∃g c,v'=.slice (some ⟨g,0,none⟩) es.length c)->AK (fun k=>k=b0) w w'->(∀u d,Ad w u d->Ad w' u d)->K (a.put o.dst v') w') :
  if Region.wanted o (yielded ops a.tmps)=true then Oper.wp prog o a w K Q else E:=by
 have hw':Region.wanted o (yielded ops a.tmps)=true:=by simp[Region.wanted,hgd]
 rw[if_pos hw'];obtain⟨xs,h1,hsl,h6⟩:=hp;obtain⟨ao,c,rfl,-⟩:=id hsl;rw[List.length_map] at hx hsl;obtain⟨-,hc,hnews⟩:=TW hsl;obtain⟨i0,hi0,hz0,hz1,hz2⟩:=info_parts Tryz.infoPlane;have hown:w.ownsRow w0.heap.size 134 4 (.slice (some ⟨b0,0,none⟩) 0 0) 0 []:=BU 4 hlo hb;have hnd:∀g,(Value.slice (some ⟨b0,0,none⟩) 0 0).ownBlock=some g->BN w g:=fun g hg=>by
  cases hg;exact Ae hb (fun u hu=>by simp at hu)
 have hby:(0+xs.length)*80<=140737488355328:=by omega
 have hlen:(xs.flatMap DY.cells).length=xs.length*4:=MR (f:=DY.cells) (m:=4) (fun _=>rfl) xs;obtain⟨v',w',hrn,g1,g2,g3⟩:=DE (P:=prog) (w:=w) w0.heap.size 85 o.type 134 i0 _ 4 80 underlying85 hi0 hz0 hz1 hz2 rfl (by decide) (.slice (some ⟨b0,0,none⟩) 0 0) 0 [] hown ao xs.length c hc (xs.flatMap DY.cells) hlen hnews (fun u hu=>by obtain⟨x,_,hx⟩:=List.mem_flatMap.1 hu;exact LP x u hx) (by unfold maxLen;omega) hby hw.size;have hx':AK (fun k=>k=b0) w w':=(AK.refl (fun k=>k=b0) w).grown g2 (fun k hk _=>by cases hk;rfl);have hrd:∀u d,Ad w u d->Ad w' u d:=fun u d hu=>hu.past hx' (fun k _ hk=>by
  have e':k=b0:=hk;subst e';exact Ae hb (fun u hu=>by simp at hu))
 have hnd':∀g,v'.ownBlock=some g->BN w' g:=by
  by_cases h0:xs.length=0
  ·have hxs:xs=[]:=List.eq_nil_of_length_eq_zero h0;subst hxs;have hv:=he (List.eq_nil_of_length_eq_zero h1.symm);cases hv;have hr:=run_append_owned_none w w0.heap.size 85 o.type 134 i0 4 underlying85 hi0 _ 0 [] hown;have hrn2:(Builtin.append_ #[85,85] o.type #[.slice (some ⟨b0,0,none⟩) 0 0,.slice none 0 0]).run prog w=.ok v' w':=hrn;rw[hr] at hrn2;injection hrn2 with q1 q2;subst q1 q2;exact hnd
  rcases hnews with e|⟨ad,rfl,hnw⟩
  ·exact absurd e h0
  exact EZ (P:=prog) w w0.heap.size 85 o.type 134 i0 _ underlying85 hi0 hz0 (by rw[hz1];rfl) (Gg ⟨none,0,0,⟨false,none,0,0,none,0,0⟩⟩) (.slice (some ⟨b0,0,none⟩) 0 0) 0 [] (by rw[hz1];exact hown) hnd (fun u hu=>by cases hu) ad xs.length c (xs.flatMap DY.cells) (by rw[hz1];exact hlen) hnw (fun u hu=>by obtain⟨x,_,hx⟩:=List.mem_flatMap.1 hu;exact LP x u hx) (J5 xs) (by omega) (by unfold maxLen;omega) (by rw[hz2];exact hby) v' w' hrn
 have hty:∀g,(Value.slice (some ⟨b0,0,none⟩) 0 0).ownBlock=some g->DT w g 134:=fun g hg=>by cases hg;exact⟨_,hb⟩
 rw[Nat.zero_add,List.nil_append] at g1;unfold Oper.wp execOp;simp only[ho,resolve,invoke,builtin,Sem.run_bind,Sem.run_pure,Result.andThen_ok,List.map_toArray,List.map_cons,List.map_nil,hs,hx,hrn];refine h v' w' ⟨xs,hw.own hx' (fun k e=>by have e':k=b0:=e;omega),h1,g1,fun i x e k1 k2=>((h6 i x e k1 k2).app (v:=.slice (some ⟨b0,0,none⟩) 0 0) (hx'.mono (fun k _ e=>by have e':k=b0:=e;subst e';rfl)) hty hrd),hnd'⟩ ?_ hx' hrd;rcases g1.2 with⟨rfl,h0⟩|⟨g,cc,cur,e',_⟩
 ·rcases g3 with k|k
  ·cases k
  cases k
 exact⟨g,cc,by rw[e',h1]⟩
theorem Gb{w0 w:World} {ops:Array Oper} {o:Oper} {a:Act} {K:Act->World->Prop} {Q:Exit->Act->World->Prop} {E:Prop} {v:Value} {n:Nat} {xs:List DY} {es:List CR} {e:CR} (hgd:o.guard=none) (s x:Operand) (ho:o.op=.call { callee:=.builtin .append,args:=#[s,x],argTypes:=#[85,85] }) (hs:a.eval s=v) {c gx:Nat} (hx:a.eval x=.slice (some ⟨gx,0,none⟩) 1 c) (y:DY) (hb:Au w gx=some (.cells #[.slice y.ga y.gn y.gc,.bool y.b.ng,.slice y.b.a1 y.b.m1 y.b.c1,.slice y.b.a2 y.b.m2 y.b.c2] 134 (0,0))) (hM:Ds w0 w v n xs es) (hP:EW w n y e) (hl:xs.length<=100000) (hov:∃g,v.ownBlock=some g)
  (h:∀v' w',Ds w0 w' v' n (xs++[y]) (es++[e])->(∃g c,v'=.slice (some ⟨g,0,none⟩) (xs.length+1) c)->AK (fun k=>v.ownBlock=some k) w w'->K (a.put o.dst v') w') :
  if Region.wanted o (yielded ops a.tmps)=true then Oper.wp prog o a w K Q else E:=by
 refine B0 hgd s x ho underlying85 Tryz.infoPlane rfl (Gg ⟨none,0,0,⟨false,none,0,0,none,0,0⟩⟩) (by decide) (by decide) w0.heap.size v xs.length (xs.flatMap DY.cells) hs hM.own hM.noDig (J5 xs) ⟨gx,0,none⟩ c y.cells hx rfl (fun j u hu=>?_) (LP _) (Gg _) hl hM.ext.size fun v' w' ha=>h v' w' (hM.push ha hP) ?_ ha.ext
 ·have:=AS hb;rw[show (⟨gx,0,none⟩:Addr).add j=⟨gx,j,none⟩ from by simp[Addr.add_lit],AS hb,<- Array.getElem?_toList];exact hu
 rcases ha.own.2 with⟨rfl,h0⟩|⟨g,c,cur,e',_⟩
 ·obtain⟨g,hg⟩:=hov;rcases ha.lies with k|k
  ·rw[hg] at k;cases k
  cases k
 exact⟨g,c,e'⟩
end Go.Proofs.YtglepbhkilbbcaaGreat
