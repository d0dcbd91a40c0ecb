/-
  Texts of the proof, part 7. Conditions: each lemma names its own.
-/
import Derived.Test.YtglepbhkilbbcaaGreatZ4
import Derived.Test.YtglepbhkilbbcaaGreatZ5
import Derived.Test.YtglepbhkilbbcaaGreatZ6
import Derived.Maps.RangeWalk
open Go.Proofs.Tryz
set_option linter.unusedVariables false
set_option linter.unusedSimpArgs false
set_option maxRecDepth 100000
set_option maxHeartbeats 16000000
namespace Go.Proofs.YtglepbhkilbbcaaGreat
open Go.RowKit Go.MapKept
open Go.ChangeMaps (setBlock)
def Dh(p:AH) (y:List Rat):Option Rat :=
 if Cw p y then (CH p (AP p.vars.length fun i=>((p.v i).co:Rat)-Ax p y i)).map (C3 p y+·) else none
theorem Q5{p:AH} (h:AU p=true) (y:List Rat):FF p y=Dh p y:=by
 unfold FF Dh;rw[h,Bool.true_and]
theorem FL.past{S:Nat->Prop} {w wr w':World} {pb rb bb B n:Nat} {va vb:Value} {f:Nat->Rat} {q:Rat} (h:FL w wr pb rb bb B n va vb f q) (hx:AK S wr w') (hn:∀k,S k->bb<k) (hr:∀v l,Ad wr v l->Ad w' v l):FL w w' pb rb bb B n va vb f q:=by
 obtain⟨o1,o2,o3,o4⟩:=h.ord;have hn':∀k,k<=bb->¬S k:=fun k hk hs=>by have:=hn k hs;omega
 exact⟨h.ext.own hx (fun k e=>by have:=hn k e;omega),(hx.cell (p:=⟨pb,0,none⟩) (World.block_lt_of_cell? _ _ h.p0) (hn' pb (by omega))).trans h.p0,(hx.cell (p:=⟨pb,1,none⟩) (World.block_lt_of_cell? _ _ h.p1) (hn' pb (by omega))).trans h.p1,h.res.ext hx (hn' _ (by omega)),
  (by obtain⟨sn,s1,sm1,sc1,s2,sm2,sc2,h1,h2⟩:=h.acc;exact⟨sn,s1,sm1,sc1,s2,sm2,sc2,h1.ext hx (hn' _ (Nat.le_refl _)),h2.past hr⟩),h.arr.past hx (hn' _ (by omega)) hr,h.ord⟩
theorem On(w:World) (pv yv:Value) (p:AH) (y:List Rat) (L T:Nat) (hp:Ba w pv p) (hy:B2 w yv y L) (hs:Gh p T L) :
  Calls prog 140 #[pv,yv] w (Fw w (Dh p y)):=by
 have h1:=hs.room.one;obtain⟨r1,r2,r3,r4,r5,r6,r7,r8,r9⟩:=hs.room.all;have HP:=bH hp;obtain⟨vv,rv,rfl,hv,hr⟩:=hp;obtain⟨vo,vc,rfl,-,hn,-⟩:=hv.shape;obtain⟨ro,rc,rfl,-,hrn,-⟩:=hr.shape;have HV:=bH hv;have HSig:=bH (fun W (hW:XF w W)=>Jp W _ _ p y L (HP.o.keep hW) (hy.keep hW) h1 (by omega));have HCom:=bH (fun W (hW:XF w W)=>Il W _ _ p y L T (HP.o.keep hW) (hy.keep hW) h1 hs.terms r1 r2 r8 r3);have hyz:=hy.sz h1;have hA:=LG hr hyz hs.terms;have hB:=KB hr hyz;have hD:∀i,i<p.vars.length->Sz (((p.v i).co:Rat)-Ax p y i) (Cu p.rows.length T L+3):=fun i hi=>((Sz.int (hv.ok i hi).co).sub (hA i)).mono (by omega);have HLa:=bH (fun W (hW:XF w W) v (ha:B2 W v (AP p.vars.length fun i=>((p.v i).co:Rat)-Ax p y i) (Cu p.rows.length T L+3)) =>
  KS W _ _ p (AP p.vars.length fun i=>((p.v i).co:Rat)-Ax p y i) (Cu p.rows.length T L+3) (HP.o.keep hW) ha (by omega) (by omega) (by omega))
 have hlz:=JU (c:=AP p.vars.length fun i=>((p.v i).co:Rat)-Ax p y i) hv (Da hD (by omega));have HAd:=bH (fun W u u' q (hu:AN W u (C3 p y)) (hu':AN W u' q) (hq:Sz q (1+p.vars.length*(Cu p.rows.length T L+3+3)))=>DJ W u u' _ q (1+p.vars.length*(Cu p.rows.length T L+3+3)+(1+p.rows.length*(L+3))) (hu.reads (hB.mono (by omega))) (hu'.reads (hq.mono (by omega))) (by omega) (by omega));have HQ:=bH (show Dh p y=if Cw p y then (CH p (AP p.vars.length fun i=>((p.v i).co:Rat)-Ax p y i)).map (C3 p y+·) else none from rfl);have HLz:Hid (∀q,CH p (AP p.vars.length fun i=>((p.v i).co:Rat)-Ax p y i)=some q->Sz q (1+p.vars.length*(Cu p.rows.length T L+3+3))):=bH (fun q hq=>by
  obtain⟨_,_,e⟩:=Ep hq;rw[e];exact hlz)
 have HSs:=bH (fun W u i (hi:i<p.vars.length) v (hu:AN W u ((p.v i).co:Rat)) (hv':AN W v (Ax p y i))=>G3 W u v _ _ (Cu p.rows.length T L+3) (hu.reads ((Sz.int (HV.o.ok i hi).co).mono (by omega))) (hv'.reads ((hA i).mono (by omega))) (by omega) (by omega));have HDz:=bH hD;clear hv hr hy hyz hA hB hD hlz HP hs r1 r2 r5 r6 r7 r8 r9 h1;obtain⟨n,hn'⟩:=bN p.vars.length;have HNn:=bH hn';rw[hn'] at hn r3 HV HSig HCom HLa HAd HQ HLz HSs HDz ⊢;clear hn';obtain⟨m,hm'⟩:=bN p.rows.length;rw[hm'] at hrn r4 HSig HCom HAd HLz HLa HDz ⊢;clear hm';generalize (1+n*(Cu m T L+3+3))=szl at *;generalize hszd:Cu m T L+3=szd at *;clear hszd;obtain⟨f,hf⟩:=bN ((fun i=>((p.v i).co:Rat)-Ax p y i));have HFi:=bH (fun i=>(congrFun hf i:((p.v i).co:Rat)-Ax p y i=f i));rw[hf] at HLa HQ HLz;replace HDz:Hid (∀i,i<n->Sz (f i) szd):=bH (fun i hi=>by rw[<- HFi.o];exact HDz.o i hi);clear hf;generalize CH p (AP n f)=lq at *;obtain⟨b0,b1⟩:Au ((w.alloc (.cells #[.slice vo n vc,.slice ro m rc] 25)).alloc (.cells #[.bool false,.slice none 0 0,.slice none 0 0] 34)) w.heap.size=some (.cells #[.slice vo n vc,.slice ro m rc] 25 (0,0))/\Aj ((w.alloc (.cells #[.slice vo n vc,.slice ro m rc] 25)).alloc (.cells #[.bool false,.slice none 0 0,.slice none 0 0] 34)) (w.heap.size+1) false (.slice none 0 0) (.slice none 0 0):=by
  refine⟨(Ap _ _ _ (by simp)).trans (AD _ _),?_⟩;have:=AO (W:=w.alloc (.cells #[.slice vo n vc,.slice ro m rc] 25)) rfl false none 0 0 none 0 0;rwa [World.size_alloc] at this
 have HB:=bH (bI b0 (bI b1 (((AK.refl (fun _=>False) w).alloc (.cells #[.slice vo n vc,.slice ro m rc] 25)).alloc (.cells #[.bool false,.slice none 0 0,.slice none 0 0] 34))));clear b0 b1;go_enter func140,ntmps140;go_upto_region 1 with fail;generalize hw1:(w.alloc (.cells #[.slice vo n vc,.slice ro m rc] 25)).alloc (.cells #[.bool false,.slice none 0 0,.slice none 0 0] 34)=w1 at *;clear hw1;obtain⟨pb,hpb⟩:=bN w.heap.size;have hpw:w.heap.size<=pb:=Nat.le_of_eq hpb;rw[hpb] at HB ⊢;clear hpb;obtain⟨rb,hrb⟩:=bN (pb+1);have hpr:pb<rb:=by omega
 rw[hrb] at HB ⊢;clear hrb;have z0:=AA HB.o.1 0 rfl;have z1:=AA HB.o.1 1 rfl;go_wp2_with fail;refine (HSig.o w1 HB.o.2.2).mono ?_;rintro r2 w2 ⟨rfl,hx2⟩;have HB2:=bH (bI (AM HB.o.1 hx2) (bI (HB.o.2.1.keep hx2) (HB.o.2.2.trans hx2)));clear hx2 HB z0 z1 HSig;obtain⟨sg,hsg⟩:=bN (Cw p y);rw[hsg] at HQ ⊢;clear hsg;cases sg with
 | false =>
  have HE:=bH (show Dh p y=none from HQ.o);have hbr:=HB2.o.2.1;obtain⟨d0,d1,d2,d3,d4,d5⟩:=hbr.facts;have hp:=hbr.put (neg:=false) (AF none 0 0) (AF none 0 0);have HR:=bH (bI hp.box (HB2.o.2.2.own hp.ext (fun k e=>by omega)));clear hp hbr;go_wp2;generalize ((w2.setCell ⟨rb,0,none⟩ (.bool false)).setCell ⟨rb,1,none⟩ (.slice none 0 0)).setCell ⟨rb,2,none⟩ (.slice none 0 0)=w9 at *;obtain⟨g0,g1,g2,_⟩:=HR.o.1.facts;exact bodyPost_ret (v:=.tuple #[.agg #[.bool false,.slice none 0 0,.slice none 0 0],.bool false]) (by simp[results,results140,go_sem,g0,g1,g2]) rfl (by rw[HE.o];exact⟨HR.o.2,_,rfl,AN.zero _⟩)
 | true =>
 replace HQ:=bH (show Dh p y=lq.map (C3 p y+·) from HQ.o);have z0:=AA HB2.o.1 0 rfl;have z1:=AA HB2.o.1 1 rfl;go_wp2_with fail;refine (HCom.o _ HB2.o.2.2).mono ?_;rintro r5 w5 ⟨B,cv,rfl,hBw,hA5,hb5,hx5⟩;obtain⟨cn,ca,cl,cc,ca2,cl2,cc2,rfl⟩:=hb5.shape;clear z0 z1;have hrbB:rb<B:=by have:=HB2.o.2.1.lt;omega
 have hBB:=hA5.lt;have hxa:=(AK.refl (fun _=>False) w5).alloc (.cells #[.bool cn,.slice ca cl cc,.slice ca2 cl2 cc2] 34);have hxb:=hxa.alloc (.cells #[] 34);have hb52:=AM HB2.o.1 (hx5.trans hxb);have hbox:=(AO (W:=w5) rfl cn ca cl cc ca2 cl2 cc2).alloc (.cells #[] 34);have HC:=bH (show FL w ((w5.alloc (.cells #[.bool cn,.slice ca cl cc,.slice ca2 cl2 cc2] 34)).alloc (.cells #[] 34)) pb rb w5.heap.size B n (.slice vo n vc) (.slice ro m rc) (Ax p y) (C3 p y) from
  ⟨(HB2.o.2.2.trans hx5).trans hxb,AA hb52 0 rfl,AA hb52 1 rfl,(HB2.o.2.1.keep hx5).keep hxb,⟨_,_,_,_,_,_,_,hbox,hb5.keep hxb⟩,hA5.keep hxb,by omega⟩)
 have hbe:=AD (w5.alloc (.cells #[.bool cn,.slice ca cl cc,.slice ca2 cl2 cc2] 34)) (.cells #[] 34);rw[World.size_alloc] at hbe;have HE:=bH (EH.empty (base:=w5.heap.size+1) szd hbe (Nat.le_refl _));clear hxa hxb hb52 hbox hA5 hb5 hx5 HB2 hbe;go_upto_region 5 with fail;generalize (w5.alloc (.cells #[.bool cn,.slice ca cl cc,.slice ca2 cl2 cc2] 34)).alloc (.cells #[] 34)=w6 at *;generalize w5.heap.size=bb at *;have z0:=HC.o.p0;go_wp2_with fail;go_loopg [9,8] n (fun gg v9 v8 wr=>∃(i:Nat) (v:Value),i<=n/\gg=n-i/\v9=.int .i64 i/\v8=v/\EH wr (bb+1) v (AP i f) szd/\FL w wr pb rb bb B n (.slice vo n vc) (.slice ro m rc) (Ax p y) (C3 p y));case atStart=>exact⟨0,_,Nat.zero_le _,rfl,rfl,rfl,HE.o,HC.o⟩
 case round =>
  clear z0 HE HC;obtain⟨i,v,hi,rfl,rfl,rfl,ho,Aa⟩:=hrel;have HCm:=bH Aa;obtain⟨ao,cap,rfl⟩:=ho.shape;have hll:(AP i f).length=i:=A9 _ _;rw[hll] at ho ⊢;have HLl:=bH hll;have HO:=bH ho;clear Aa ho hll;have z0:=HCm.o.p0;by_cases hin:i<n
  ·have i0:(i:Int)<(n:Int):=(by omega);have i1:(0:Int)<=(i:Int):=(by omega);obtain⟨b,off,rfl,hblt,-,-,-,-,e4,hok⟩:=HV.o.atp i (by rw[HNn.o];exact hin);obtain⟨on,oa,ol,oc,oa2,ol2,oc2,o0,o1,o2,hoq⟩:=HCm.o.arr.cells i hin;replace e4:=AB e4 HCm.o.ext;have HF:=bH (fun W=>CG W (p.v i).co hok.co.1 hok.co.2);have HSub:=bH (fun W u (hW:XF wr W) (hu:AN W u ((p.v i).co:Rat))=>HSs.o W u i hin _ hu (hoq.keep hW));rw[HFi.o] at HSub;have HSz:=bH (HDz.o i hin);have ord:=HCm.o.ord;have hgl:∀g,(Value.slice ao i cap).ownBlock=some g->bb<g:=fun g e=>by have:=(HO.o.lt g e).1;omega
   have HGl:=bH hgl;have hle:∀k,k<=bb->¬(fun k=>(Value.slice ao i cap).ownBlock=some k) k:=fun k hk e=>by have:=hgl k e;omega
   go_upto_region 8 with fail;replace e4:=BX (S:=fun k=>(Value.slice ao i cap).ownBlock=some k) e4 (hle b (by omega));replace o0:=BX (S:=fun k=>(Value.slice ao i cap).ownBlock=some k) o0 (hle B (by omega));replace o1:=BX (S:=fun k=>(Value.slice ao i cap).ownBlock=some k) o1 (hle B (by omega));replace o2:=BX (S:=fun k=>(Value.slice ao i cap).ownBlock=some k) o2 (hle B (by omega));replace z0:=BX (S:=fun k=>(Value.slice ao i cap).ownBlock=some k) z0 (hle pb (by omega));clear hgl hle hok hoq HSs;generalize ((p.v i).co:Rat)=coq at *;generalize (p.v i).co=co at *;refine wp_region_held_drew (S:=(AK (fun k=>(Value.slice ao i cap).ownBlock=some k) wr)) (by kernel_rfl) ((AK.refl _ wr).drew) (fun hHeld=>?_);refine ht 0 (h:=(ht 1 (h:=(ht 2 (h:=(ht 3 (h:=(ht 4 (h:=(ht 5 (h:=(ht 6 (h:=(ht 8 (h:=(ht 9 (h:=(ht 10 (h:=(ht 11 (h:=?_)))))))))))))))))))));(try go_frame);refine Aa 7 (h:=fun K hK=>?_);(go_simp;go_at_call 38;(with_reducible refine (HF.o _).mono ?_);rintro q1 w11 ⟨v11,rfl,h11,hx11⟩;have hX1:=(AK.refl (fun _=>False) wr).drew.trans hx11;have hT:=HSub.o w11 _ hX1 h11;obtain⟨n11,a11,l11,c11,a11',l11',c11',rfl⟩:=h11.shape);refine hK.o _ _ (hX1.none) (fun hHeld=>?_);clear hK K;(try go_frame);refine Aa 12 (h:=fun K hK=>?_);(go_simp;go_at_call 107;(with_reducible refine hT.mono ?_);rintro q2 w12 ⟨v12,rfl,h12,hx12⟩;have hX2:=hX1.trans hx12;obtain⟨n12,a12,l12,c12,a12',l12',c12',rfl⟩:=h12.shape;have hXa:=hX2.alloc (.cells #[.bool n12,.slice a12 l12 c12,.slice a12' l12' c12'] 34);have hha:=(AK.refl (fun _=>False) w12).alloc (.cells #[.bool n12,.slice a12 l12 c12,.slice a12' l12' c12'] 34);have HO2:=bH (bI (HO.o.keep hXa) (bI ((h12.keep hha).reads HSz.o) (HCm.o.keep hXa)));have HSw:=bH (show bb+1<=(w12.alloc (.cells #[.bool n12,.slice a12 l12 c12,.slice a12' l12' c12'] 34)).heap.size from (by obtain⟨_,_,_,_,_,_,_,hh,_⟩:=HO2.o.2.2.acc;exact hh.lt)));refine hK.o _ _ (hX2.none) (fun hHeld=>?_);clear hK K;(try go_frame);refine Aa 13 (h:=fun K hK=>?_);go_simp;refine hK.o _ _ (hXa.none) (fun hHeld=>?_);clear hK K;(try go_frame);refine Aa 14 (h:=fun K hK=>?_);refine Jy rfl (.tmp 31) (.tmp 44) rfl (bb+1) _ _ szd rfl HO2.o.1 ⟨n12,a12,l12,c12,a12',l12',c12'⟩ (f i) HO2.o.2.1 ⟨w12.heap.size,0,none⟩ 1 rfl (Be (BW.cells ⟨n12,a12,l12,c12,a12',l12',c12'⟩) _ rfl) (by rw[HLl.o];omega) HSw.o (fun v15 w15 hown5 hx5 hrd5=>?_);refine hK.o _ _ (hXa.none.trans hx5) (fun hHeld=>?_);clear hK K;(try go_frame);refine ht 15 (h:=?_);(try go_frame);refine wpAnyH_done (by kernel_rfl) ?_ _;have HN5:=bH (show EH w15 (bb+1) v15 (AP (i+1) f) szd from by rw[Jn];exact hown5);have HC5:=bH (HO2.o.2.2.past hx5 (fun k e=>HGl.o k e) hrd5);clear hown5 hx5 hrd5 hX1 hX2 hXa hha h11 h12 hx11 hx12 hT HSub HF HO2 HSw z0 e4 o0 o1 o2 hHeld;go_wp2;go_roundg (n-(i+1));case measure=>omega
   case rel=>exact⟨i+1,_,by omega,rfl,by go_num,rfl,HN5.o,HC5.o⟩
  obtain rfl:i=n:=(by omega);have z1:=HCm.o.p1;have ord:=HCm.o.ord;go_wp2_with fail;refine (HLa.o _ HCm.o.ext _ (by have:=HO.o.rats;exact this)).mono ?_;rintro r7 w7 hopt;obtain⟨n7,a7,l7,c7,a7',l7',c7',rfl,h7,hx7⟩:=Fw.open hopt;have hx8:=(AK.refl (fun _=>False) w7).alloc (.cells #[.bool n7,.slice a7 l7 c7,.slice a7' l7' c7'] 34);have HC8:=bH (bI ((HCm.o.keep hx7).keep hx8) (bI (AO (W:=w7) rfl n7 a7 l7 c7 a7' l7' c7') (h7.keep hx8)));clear hopt h7 hx7 hx8 z0 z1;go_upto_region 10 with fail;generalize w7.alloc (.cells #[.bool n7,.slice a7 l7 c7,.slice a7' l7' c7'] 34)=w8 at *;generalize w7.heap.size=xb at *;cases lq with
  | none =>
   have HE:=bH (show Dh p y=none from HQ.o);have hbr:=HC8.o.1.res;obtain⟨d0,d1,d2,d3,d4,d5⟩:=hbr.facts;have hp:=hbr.put (neg:=false) (AF none 0 0) (AF none 0 0);have HR:=bH (bI hp.box (HC8.o.1.ext.own hp.ext (fun k e=>by omega)));clear hp hbr;go_wp2;generalize ((w8.setCell ⟨rb,0,none⟩ (.bool false)).setCell ⟨rb,1,none⟩ (.slice none 0 0)).setCell ⟨rb,2,none⟩ (.slice none 0 0)=w9 at *;obtain⟨g0,g1,g2,_⟩:=HR.o.1.facts;exact bodyPost_ret (v:=.tuple #[.agg #[.bool false,.slice none 0 0,.slice none 0 0],.bool false]) (by simp[results,results140,go_sem,g0,g1,g2]) rfl (by rw[HE.o];exact⟨HR.o.2,_,rfl,AN.zero _⟩)
  | some q =>
   have HE:=bH (show Dh p y=some (C3 p y+q) from HQ.o);obtain⟨sn,s1,sm1,sc1,s2,sm2,sc2,hsb,hsq⟩:=HC8.o.1.acc;obtain⟨t0,t1,t2,-⟩:=hsb.facts;obtain⟨x0,x1,x2,-⟩:=HC8.o.2.1.facts;have HA9:=bH (HAd.o w8 _ _ q hsq HC8.o.2.2 (HLz.o q rfl));clear hsb hsq;go_wp2_with fail;refine HA9.o.mono ?_;rintro r9 w9 ⟨v9,rfl,h9,hx9⟩;obtain⟨n9,a9,l9,c9,a9',l9',c9',rfl⟩:=h9.shape;have hbr:=HC8.o.1.res.keep hx9;obtain⟨d0,d1,d2,d3,d4,d5⟩:=hbr.facts;have hp:=hbr.put (neg:=n9) (AF a9 l9 c9) (AF a9' l9' c9');have HR:=bH (bI (hp.rat h9) (bI ((HC8.o.1.ext.trans hx9).own hp.ext (fun k e=>by omega)) hp.box));clear hp hbr h9 hx9 t0 t1 t2 x0 x1 x2 HA9;go_wp2;generalize ((w9.setCell ⟨rb,0,none⟩ (.bool n9)).setCell ⟨rb,1,none⟩ (.slice a9 l9 c9)).setCell ⟨rb,2,none⟩ (.slice a9' l9' c9')=w10 at *;obtain⟨g0,g1,g2,_⟩:=HR.o.2.2.facts;exact bodyPost_ret (v:=.tuple #[.agg #[.bool n9,.slice a9 l9 c9,.slice a9' l9' c9'],.bool true]) (by simp[results,results140,go_sem,g0,g1,g2]) rfl (by rw[HE.o];exact⟨HR.o.2.1,_,rfl,HR.o.1⟩)
def DQ(p:AH) (x:List Rat):Bool:=DI p x&&decide (Kc p x=[])
theorem I4{p:AH} (h:AU p=true) (x:List Rat):D4 p x=DQ p x:=by
 unfold D4 DQ;rw[h,Bool.true_and]
theorem O9.more{n m T L:Nat} (h:O9 n m T L):1+T*(L+3)+(L+3)<=1000000/\m<=1000000/\1+n*(L+3)+(L+3)<=1000000:=by
 have h1:=h.sum;have h2:7<=(n+1)*(m*(T*(L+3)+2)+7):=Nat.le_trans (Nat.le_add_left 7 _) (Nat.le_mul_of_pos_left _ (by omega));have h3:m<=m*(L+3):=Nat.le_mul_of_pos_right m (by omega);omega
theorem EV(w:World) (pv xv:Value) (p:AH) (x:List Rat) (L T:Nat) (hp:Ba w pv p) (hx:B2 w xv x L) (hs:Gh p T L) :
  Calls prog 98 #[pv,xv] w (Ak w (DQ p x)):=by
 have h1:=hs.room.one;obtain⟨r1,r2,r3,r4,r5,r6,r7,r8,r9⟩:=hs.room.all;obtain⟨r10,r11,r12⟩:=hs.room.more;have HI:=bH (fun W (hW:XF w W)=>Ns W _ _ p x L (hp.keep hW) (hx.keep hW) h1 r8);have HVi:=bH (fun W (hW:XF w W)=>LY W _ _ p x L T (hp.keep hW) (hx.keep hW) h1 hs.terms r10 r3 r11);obtain⟨vv,rv,rfl,-,-⟩:=hp;have HQ:=bH (show DQ p x=(DI p x&&decide (Kc p x=[])) from rfl);clear hx hs r1 r2 r3 r4 r5 r6 r7 r8 r9 r10 r11 r12;generalize Kc p x=vl at *;generalize DI p x=ib at *;have HB:=bH (bI (AD w (.cells #[vv,rv] 25)) ((AK.refl (fun _=>False) w).alloc (.cells #[vv,rv] 25)));go_enter func98,ntmps98;go_upto_region 1 with fail;generalize w.alloc (.cells #[vv,rv] 25)=w1 at *;generalize w.heap.size=pb at *;have z0:=AA HB.o.1 0 rfl;have z1:=AA HB.o.1 1 rfl;go_wp2_with fail;refine (HI.o _ HB.o.2).mono ?_;rintro r2 w2 ⟨rfl,hx2⟩;have HX2:=bH (HB.o.2.trans hx2);replace z0:=AB z0 hx2;replace z1:=AB z1 hx2;clear hx2 HI;cases ib with
 | false =>
  go_wp2;go_ret;exact⟨AL (by rw[HQ.o];rfl),HX2.o⟩
 | true =>
  go_wp2_with fail;refine (HVi.o _ HX2.o).mono ?_;rintro r3 w3 ⟨v3,rfl,ho3,hx3⟩;obtain⟨ao,cap,rfl⟩:=ho3.shape;have HX3:=bH (HX2.o.trans hx3);obtain⟨ln,hln⟩:=bN vl.length;have HL:=bH hln;rw[hln];clear hx3 ho3 hln HVi;by_cases h0:ln=0
  ·subst h0;have HE:=bH (List.eq_nil_of_length_eq_zero HL.o);go_wp2;go_ret;exact⟨AL (by rw[HQ.o,HE.o];simp),HX3.o⟩
  have HE:=bH (show vl≠[] from fun e=>h0 (by rw[<- HL.o,e];rfl));have h0':((ln:Int) == 0)=false:=(by simpa using h0);have h0'':¬(ln:Int)=0:=(by omega);go_wp2;go_ret;exact⟨AL (by rw[HQ.o,decide_eq_false HE.o];rfl),HX3.o⟩
structure KA(w wr:World) (pb bb B n:Nat) (va vb:Value) (f:Nat->Rat) (q:Rat):Prop where
 ext:XF w wr
 p0:wr.cell? ⟨pb,0,none⟩=some va
 p1:wr.cell? ⟨pb,1,none⟩=some vb
 acc:∃sn s1 sm1 sc1 s2 sm2 sc2,Aj wr bb sn (.slice s1 sm1 sc1) (.slice s2 sm2 sc2)/\AN wr (.agg #[.bool sn,.slice s1 sm1 sc1,.slice s2 sm2 sc2]) q
 arr:BT wr B n f
 ord:w.heap.size<=pb/\pb<B/\B<bb
section
variable {w wr w':World} {pb bb B n:Nat} {va vb:Value} {f g:Nat->Rat} {q:Rat}
theorem KA.keep(h:KA w wr pb bb B n va vb f q) (hx:XF wr w'):KA w w' pb bb B n va vb f q :=
 ⟨h.ext.trans hx,AB h.p0 hx,AB h.p1 hx,(by obtain⟨sn,s1,sm1,sc1,s2,sm2,sc2,h1,h2⟩:=h.acc;exact⟨sn,s1,sm1,sc1,s2,sm2,sc2,h1.keep hx,h2.keep hx⟩),h.arr.keep hx,h.ord⟩
theorem KA.congr(h:KA w wr pb bb B n va vb f q) (hg:∀i,i<n->f i=g i):KA w wr pb bb B n va vb g q :=
 ⟨h.ext,h.p0,h.p1,h.acc,h.arr.congr hg,h.ord⟩
theorem KA.setArr(h:KA w wr pb bb B n va vb f q) {j:Nat} (hj:j<n) {neg:Bool} {a1 a2:Option Addr} {m1 c1 m2 c2:Nat} {u:Rat} (hu:AN wr (.agg #[.bool neg,.slice a1 m1 c1,.slice a2 m2 c2]) u) :
  KA w (((wr.setCell ⟨B,j*3,none⟩ (.bool neg)).setCell ⟨B,j*3+1,none⟩ (.slice a1 m1 c1)).setCell ⟨B,j*3+2,none⟩ (.slice a2 m2 c2)) pb bb B n va vb (fun k=>if k=j then u else f k) q:=by
 obtain⟨p1,p2,p3⟩:=h.arr.put hj hu;obtain⟨o1,o2,o3⟩:=h.ord;refine⟨h.ext.own p2 (fun k e=>by omega),(p2.cell (p:=⟨pb,0,none⟩) (World.block_lt_of_cell? _ _ h.p0) (fun e=>by have:pb=B:=e;omega)).trans h.p0,(p2.cell (p:=⟨pb,1,none⟩) (World.block_lt_of_cell? _ _ h.p1) (fun e=>by have:pb=B:=e;omega)).trans h.p1,?_,p1,h.ord⟩;obtain⟨sn,s1,sm1,sc1,s2,sm2,sc2,h1,h2⟩:=h.acc;exact⟨sn,s1,sm1,sc1,s2,sm2,sc2,h1.ext p2 (fun e=>by omega),h2.past p3⟩
end
def Mv(p:AH) (y:List Rat):Bool:=Cw p y&&(CS p||match CH p (AP p.vars.length fun i=>-Ax p y i) with|some l=>decide (0<C3 p y+l)|none=>false)
theorem UO{p:AH} (h:AU p=true) (y:List Rat):JB p y=Mv p y:=by
 unfold JB Mv;rw[h,Bool.true_and];congr 2;cases CH p (AP p.vars.length fun i=>-Ax p y i) with
 | none=>rfl
 | some l=>exact decide_eq_decide.2 (by constructor<;>intro h<;>grind)
theorem Jv(w:World) (pv yv:Value) (p:AH) (y:List Rat) (L T:Nat) (hp:Ba w pv p) (hy:B2 w yv y L) (hs:Gh p T L) :
  Calls prog 79 #[pv,yv] w (Ak w (Mv p y)):=by
 have h1:=hs.room.one;obtain⟨r1,r2,r3,r4,r5,r6,r7,r8,r9⟩:=hs.room.all;have HP:=bH hp;obtain⟨vv,rv,rfl,hv,hr⟩:=hp;obtain⟨vo,vc,rfl,-,hn,-⟩:=hv.shape;obtain⟨ro,rc,rfl,-,hrn,-⟩:=hr.shape;have HSig:=bH (fun W (hW:XF w W)=>Jp W _ _ p y L (HP.o.keep hW) (hy.keep hW) h1 (by omega));have HEm:=bH (fun W (hW:XF w W)=>LK W _ p (HP.o.keep hW));have HCom:=bH (fun W (hW:XF w W)=>Il W _ _ p y L T (HP.o.keep hW) (hy.keep hW) h1 hs.terms r1 r2 r8 r3);have hyz:=hy.sz h1;have hA:=LG hr hyz hs.terms;have hB:=KB hr hyz;have hD:∀i,i<p.vars.length->Sz (-Ax p y i) (Cu p.rows.length T L+3):=fun i hi=>(hA i).neg.mono (by omega);have HLa:=bH (fun W (hW:XF w W) B (ha:BT W B p.vars.length (fun i=>-Ax p y i)) =>
  KS W _ _ p (AP p.vars.length fun i=>-Ax p y i) (Cu p.rows.length T L+3) (HP.o.keep hW) (ha.rats hD (Nat.le_refl _) (by unfold maxLen;omega)) (by omega) (by omega) (by omega))
 have hlz:=JU (c:=AP p.vars.length fun i=>-Ax p y i) hv (Da hD (by omega));have HAd:=bH (fun W u u' q (hu:AN W u (C3 p y)) (hu':AN W u' q) (hq:Sz q (1+p.vars.length*(Cu p.rows.length T L+3+3)))=>DJ W u u' _ q (1+p.vars.length*(Cu p.rows.length T L+3+3)+(1+p.rows.length*(L+3))) (hu.reads (hB.mono (by omega))) (hu'.reads (hq.mono (by omega))) (by omega) (by omega));have HSg:=bH (fun W u q (hu:AN W u (C3 p y+q)) (hq:Sz q (1+p.vars.length*(Cu p.rows.length T L+3+3)))=>C4 W u _ 4000000 (hu.reads ((hB.add hq).mono (by omega))) (by omega));have HNg:=bH (fun W u i (hu:AN W u (Ax p y i))=>L6 W u _ (Cu p.rows.length T L+3) (hu.reads ((hA i).mono (by omega))) (by omega) (by omega));have HQ:=bH (show Mv p y=(Cw p y&&(CS p||match CH p (AP p.vars.length fun i=>-Ax p y i) with|some l=>decide (0<C3 p y+l)|none=>false)) from rfl);have HLz:Hid (∀q,CH p (AP p.vars.length fun i=>-Ax p y i)=some q->Sz q (1+p.vars.length*(Cu p.rows.length T L+3+3))):=bH (fun q hq=>by
  obtain⟨_,_,e⟩:=Ep hq;rw[e];exact hlz)
 clear hv hr hy hyz hA hB hD hlz HP hs r1 r2 r4 r5 r6 r7 r8 r9 h1;obtain⟨n,hn'⟩:=bN p.vars.length;rw[hn'] at hn r3 HSig HEm HCom HLa HAd HSg HQ HLz ⊢;clear hn';obtain⟨m,hm'⟩:=bN p.rows.length;rw[hm'] at hrn HSig HEm HCom HAd HSg HLz HLa ⊢;clear hm';generalize (1+n*(Cu m T L+3+3))=szl at *;generalize CH p (AP n fun i=>-Ax p y i)=lq at *;generalize C3 p y=cb at *;have HB:=bH (bI (AD w (.cells #[.slice vo n vc,.slice ro m rc] 25)) ((AK.refl (fun _=>False) w).alloc (.cells #[.slice vo n vc,.slice ro m rc] 25)));go_enter func79,ntmps79;go_upto_region 1 with fail;generalize w.alloc (.cells #[.slice vo n vc,.slice ro m rc] 25)=w1 at *;obtain⟨pb,hpb⟩:=bN w.heap.size;have hpw:w.heap.size<=pb:=Nat.le_of_eq hpb;rw[hpb] at HB ⊢;clear hpb;have z0:=AA HB.o.1 0 rfl;have z1:=AA HB.o.1 1 rfl;go_wp2_with fail;refine (HSig.o w1 HB.o.2).mono ?_;rintro r2 w2 ⟨rfl,hx2⟩;have HB2:=bH (bI (AM HB.o.1 hx2) (HB.o.2.trans hx2));clear hx2 HB z0 z1 HSig;generalize Cw p y=sg at *;cases sg with
 | false =>
  go_wp2;go_ret;exact⟨AL (by rw[HQ.o];rfl),HB2.o.2⟩
 | true =>
 have z0:=AA HB2.o.1 0 rfl;have z1:=AA HB2.o.1 1 rfl;go_wp2_with fail;refine (HEm.o _ HB2.o.2).mono ?_;rintro r3 w3 ⟨rfl,hx3⟩;have HB3:=bH (bI (AM HB2.o.1 hx3) (HB2.o.2.trans hx3));clear hx3 HB2 z0 z1 HEm;generalize CS p=eb at *;cases eb with
 | true =>
  go_wp2;go_ret;exact⟨AL (by rw[HQ.o];rfl),HB3.o.2⟩
 | false =>
 have z0:=AA HB3.o.1 0 rfl;have z1:=AA HB3.o.1 1 rfl;go_wp2_with fail;refine (HCom.o _ HB3.o.2).mono ?_;rintro r5 w5 ⟨B,cv,rfl,hBw,hA5,hb5,hx5⟩;obtain⟨cn,ca,cl,cc,ca2,cl2,cc2,rfl⟩:=hb5.shape;clear z0 z1;have hpB:pb<B:=by have:=AT HB3.o.1;omega
 have hBB:=hA5.lt;have hxa:=(AK.refl (fun _=>False) w5).alloc (.cells #[.bool cn,.slice ca cl cc,.slice ca2 cl2 cc2] 34);have hb52:=AM HB3.o.1 (hx5.trans hxa);have HC:=bH (show KA w (w5.alloc (.cells #[.bool cn,.slice ca cl cc,.slice ca2 cl2 cc2] 34)) pb w5.heap.size B n (.slice vo n vc) (.slice ro m rc) (Ax p y) cb from
  ⟨(HB3.o.2.trans hx5).trans hxa,AA hb52 0 rfl,AA hb52 1 rfl,⟨_,_,_,_,_,_,_,AO (W:=w5) rfl cn ca cl cc ca2 cl2 cc2,hb5.keep hxa⟩,hA5.keep hxa,by omega⟩)
 clear hxa hb52 hA5 hb5 hx5 HB3;go_upto_region 6 with fail;generalize w5.alloc (.cells #[.bool cn,.slice ca cl cc,.slice ca2 cl2 cc2] 34)=w6 at *;generalize w5.heap.size=bb at *;go_wp2_with fail;go_loopg [7] n (fun gg v7 wr=>∃i:Nat,i<=n/\gg=n-i/\v7=.int .i64 i/\KA w wr pb bb B n (.slice vo n vc) (.slice ro m rc) (fun k=>if k<i then -Ax p y k else Ax p y k) cb);case atStart=>exact⟨0,Nat.zero_le _,rfl,rfl,HC.o.congr (fun k _=>(if_neg (Nat.not_lt_zero k)).symm)⟩
 case round =>
  clear HC;obtain⟨i,hi,rfl,rfl,Aa⟩:=hrel;have HCm:=bH Aa;clear Aa;by_cases hin:i<n
  ·have i0:(i:Int)<(n:Int):=(by omega);have i1:(0:Int)<=(i:Int):=(by omega);obtain⟨on,oa,ol,oc,oa2,ol2,oc2,o0,o1,o2,hoq⟩:=HCm.o.arr.cells i hin;rw[if_neg (Nat.lt_irrefl i)] at hoq;have HN1:=bH (HNg.o _ _ i hoq);have HI:=bH hin;clear hoq hin;go_wp2_with fail;refine HN1.o.mono ?_;rintro r7 w7 ⟨v7,rfl,h7,hx7⟩;obtain⟨n7,a7,l7,c7,a7',l7',c7',rfl⟩:=h7.shape;have HC7:=bH (HCm.o.keep hx7);replace o0:=AB o0 hx7;replace o1:=AB o1 hx7;replace o2:=AB o2 hx7;have f0:=HC7.o.arr.free (i*3);have f1:=HC7.o.arr.free (i*3+1);have f2:=HC7.o.arr.free (i*3+2);have HP:=bH ((HC7.o.setArr HI.o h7).congr (g:=fun k=>if k<i+1 then -Ax p y k else Ax p y k) (fun k hk=>by
    show (if k=i then -Ax p y i else if k<i then -Ax p y k else Ax p y k)=_;by_cases e:k=i
    ·rw[if_pos e,if_pos (by omega),e]
    rw[if_neg e];by_cases e2:k<i
    ·rw[if_pos e2,if_pos (by omega)]
    rw[if_neg e2,if_neg (by omega)]))
   have hin:=HI.o;clear h7 hx7 HC7 HCm HN1;go_upto_region 8 with fail;clear o0 o1 o2 f0 f1 f2;generalize ((w7.setCell ⟨B,i*3,none⟩ (.bool n7)).setCell ⟨B,i*3+1,none⟩ (.slice a7 l7 c7)).setCell ⟨B,i*3+2,none⟩ (.slice a7' l7' c7')=w9 at *;go_wp2;go_roundg (n-(i+1));case measure=>omega
   case rel=>exact⟨i+1,by omega,rfl,by go_num,HP.o⟩
  obtain rfl:i=n:=(by omega);have z0:=HCm.o.p0;have z1:=HCm.o.p1;have HArr:=bH (HCm.o.arr.congr (g:=fun k=>-Ax p y k) (fun k hk=>if_pos hk));go_wp2_with fail;refine (HLa.o _ HCm.o.ext B HArr.o).mono ?_;rintro r7 w7 hopt;obtain⟨n7,a7,l7,c7,a7',l7',c7',rfl,h7,hx7⟩:=Fw.open hopt;have hx8:=(AK.refl (fun _=>False) w7).alloc (.cells #[.bool n7,.slice a7 l7 c7,.slice a7' l7' c7'] 34);have HC8:=bH (bI ((HCm.o.keep hx7).keep hx8) (bI (AO (W:=w7) rfl n7 a7 l7 c7 a7' l7' c7') (h7.keep hx8)));clear hopt h7 hx7 hx8 z0 z1 HArr;go_upto_region 11 with fail;generalize w7.alloc (.cells #[.bool n7,.slice a7 l7 c7,.slice a7' l7' c7'] 34)=w8 at *;generalize w7.heap.size=xb at *;cases lq with
  | none =>
   go_wp2;go_ret;exact⟨AL (by rw[HQ.o];rfl),HC8.o.1.ext⟩
  | some q =>
   obtain⟨sn,s1,sm1,sc1,s2,sm2,sc2,hsb,hsq⟩:=HC8.o.1.acc;obtain⟨t0,t1,t2,-⟩:=hsb.facts;obtain⟨x0,x1,x2,-⟩:=HC8.o.2.1.facts;have HA9:=bH (HAd.o w8 _ _ q hsq HC8.o.2.2 (HLz.o q rfl));have HQ2:=bH (show Mv p y=decide (0<cb+q) from HQ.o);clear hsb hsq;go_wp2_with fail;refine HA9.o.mono ?_;rintro r9 w9 ⟨v9,rfl,h9,hx9⟩;have HS9:=bH (HSg.o w9 _ _ h9 (HLz.o q rfl));have HX9:=bH (HC8.o.1.ext.trans hx9);obtain⟨n9,a9,l9,c9,a9',l9',c9',rfl⟩:=h9.shape;clear h9 hx9 HA9;go_wp2_with fail;refine HS9.o.mono ?_;rintro r10 w10 ⟨rfl,hx10⟩;have HX10:=bH (HX9.o.trans hx10);have HG:=bH (Ea (cb+q));clear hx10 HS9;generalize (cb+q).num.sign=sg at *;by_cases hs:0<sg
   ·have HE:=bH (decide_eq_true (HG.o.1 hs));go_wp2;go_ret;exact⟨AL (by rw[HQ2.o,HE.o]),HX10.o⟩
   have HE:=bH (bI (decide_eq_false (fun h=>hs (HG.o.2 h))) (decide_eq_false hs));go_wp2;go_ret;exact⟨AL (by rw[HQ2.o,HE.o.1];exact HE.o.2),HX10.o⟩
theorem RW{p:AH} {y:List Rat} {w:World} {vv rv:Value} {L T:Nat} (hv:Ju w vv p.vars) (hr:LX w rv p.rows) (hyz:∀i:Int,Sz (Am y i) L) (hs:Gh p T L) {b:Rat} (hb:Dh p y=some b):Sz b 4000000:=by
 obtain⟨r1,r2,r3,r4,r5,r6,r7,r8,r9⟩:=hs.room.all;have hA:=LG hr hyz hs.terms;have hB:=KB hr hyz;have hD:∀i,i<p.vars.length->Sz (((p.v i).co:Rat)-Ax p y i) (Cu p.rows.length T L+3):=fun i hi=>((Sz.int (hv.ok i hi).co).sub (hA i)).mono (by omega);have hlz:=JU (c:=AP p.vars.length fun i=>((p.v i).co:Rat)-Ax p y i) hv (Da hD (by omega));unfold Dh at hb;split at hb
 ·obtain⟨q,hq,rfl⟩:=Option.map_eq_some_iff.1 hb;obtain⟨_,_,e⟩:=Ep hq;rw[e];exact (hB.add hlz).mono (by omega)
 cases hb
def Mc(p:AH) (x y:List Rat):Bool:=match Dh p y with|some b=>DQ p x&&decide ((b-Al p x).num.sign=0)|none=>false
theorem Tk{p:AH} (h:AU p=true) (x y:List Rat):JO p x y=Mc p x y:=by
 unfold JO Mc;rw[I4 h,Q5 h];cases Dh p y with
 | none=>simp
 | some b =>
  show _=(DQ p x&&decide ((b-Al p x).num.sign=0));congr 1;refine decide_eq_decide.2 ?_;rw[By,Option.some.injEq];constructor<;>intro h<;>grind
theorem Mp(w:World) (pv xv yv:Value) (p:AH) (x y:List Rat) (L T:Nat) (hp:Ba w pv p) (hx:B2 w xv x L) (hy:B2 w yv y L) (hs:Gh p T L) :
  Calls prog 77 #[pv,xv,yv] w (Ak w (Mc p x y)):=by
 have h1:=hs.room.one;obtain⟨r10,r11,r12⟩:=hs.room.more;have r7:=hs.room.all.2.2.2.2.2.2.1;have HBo:=bH (fun W (hW:XF w W)=>On W _ _ p y L T (hp.keep hW) (hy.keep hW) hs);have HIs:=bH (fun W (hW:XF w W)=>EV W _ _ p x L T (hp.keep hW) (hx.keep hW) hs);have HCo:=bH (fun W (hW:XF w W)=>Gn W _ _ p x L (hp.keep hW) (hx.keep hW) h1 r12);obtain⟨vv,rv,rfl,hv,hr⟩:=hp;have hcz:=GN hv (hx.sz h1);have HCm:=bH (fun W u u' b (hb:Dh p y=some b) (hu:AN W u b) (hu':AN W u' (Al p x))=>FR W u u' _ _ 4000000 (hu.reads (RW hv hr (hy.sz h1) hs hb)) (hu'.reads (hcz.mono (by omega))) (by omega) (by omega));have HQ:=bH (show Mc p x y=match Dh p y with|some b=>DQ p x&&decide ((b-Al p x).num.sign=0)|none=>false from rfl);clear hx hy hv hr hs hcz r7 r10 r11 r12 h1;generalize Dh p y=bo at *;generalize DQ p x=fe at *;have HB:=bH (bI (AD w (.cells #[vv,rv] 25)) ((AK.refl (fun _=>False) w).alloc (.cells #[vv,rv] 25)));go_enter func77,ntmps77;go_upto_region 1 with fail;generalize w.alloc (.cells #[vv,rv] 25)=w1 at *;generalize w.heap.size=pb at *;have z0:=AA HB.o.1 0 rfl;have z1:=AA HB.o.1 1 rfl;go_wp2_with fail;refine (HBo.o _ HB.o.2).mono ?_;rintro r7 w7 hopt;obtain⟨n7,a7,l7,c7,a7',l7',c7',rfl,h7,hx7⟩:=Fw.open hopt;have hx8:=(AK.refl (fun _=>False) w7).alloc (.cells #[.bool n7,.slice a7 l7 c7,.slice a7' l7' c7'] 34);have hq8:=h7.keep hx8;have hb8:=AO (W:=w7) rfl n7 a7 l7 c7 a7' l7' c7';have HX8:=bH ((HB.o.2.trans hx7).trans hx8);replace z0:=AB z0 (hx7.trans hx8);replace z1:=AB z1 (hx7.trans hx8);have Z:=bH (bI z0 z1);clear z0 z1 hopt h7 hx7 hx8 HBo;go_upto_region 2 with fail;generalize w7.alloc (.cells #[.bool n7,.slice a7 l7 c7,.slice a7' l7' c7'] 34)=w8 at *;generalize w7.heap.size=xb at *;obtain⟨t0,t1,t2,-⟩:=hb8.facts;replace t0:=cq t0;replace t1:=cq t1;replace t2:=cq t2;have z0:=cq Z.o.1;have z1:=cq Z.o.2;clear hb8;cases bo with
 | none =>
  refine wp_region_held_drew (S:=(XF w8)) (by kernel_rfl) ((AK.refl _ w8).drew) (fun hHeld=>?_);refine ht 0 (h:=(ht 1 (h:=?_)));(try go_frame);refine hk 2 (h:=?_);(try go_frame);refine hk 3 (h:=?_);(try go_frame);refine hk 4 (h:=(ht 5 (h:=(ht 6 (h:=?_)))));(try go_frame);refine hk 7 (h:=?_);(try go_frame);refine hk 8 (h:=?_);(try go_frame);refine hk 9 (h:=?_);(try go_frame);refine hk 10 (h:=?_);(try go_frame);refine hk 11 (h:=?_);(try go_frame);refine hk 12 (h:=(ht 13 (h:=(ht 14 (h:=?_)))));(try go_frame);refine wpAnyH_done (by kernel_rfl) ?_ _;have HXr:=bH (HX8.o.trans hHeld);clear z0 z1 t0 t1 t2 hHeld;go_wp2;go_ret;exact⟨AL (by rw[HQ.o]),HXr.o⟩
 | some b =>
  replace HCm:=bH (fun W u u' hu hu'=>HCm.o W u u' b rfl hu hu');replace HQ:Hid (Mc p x y=(fe&&decide ((b-Al p x).num.sign=0))):=bH HQ.o;replace hq8:AN w8 _ b:=hq8;generalize (b-Al p x).num.sign=sg at *;cases fe with
  | false =>
   refine wp_region_held_drew (S:=(XF w8)) (by kernel_rfl) ((AK.refl _ w8).drew) (fun hHeld=>?_);refine ht 0 (h:=(ht 1 (h:=?_)));(try go_frame);refine ht 2 (h:=?_);(try go_frame);refine ht 3 (h:=?_);(try go_frame);refine Aa 4 (h:=fun K hK=>?_);(go_simp;go_at_call 98;(with_reducible refine (HIs.o _ (HX8.o.trans hHeld)).mono ?_);rintro q1 w11 ⟨rfl,hx11⟩;have hX1:=hHeld.trans hx11);refine hK.o _ _ (hX1) (fun hHeld=>?_);clear hK K;(try go_frame);refine ht 5 (h:=(ht 6 (h:=?_)));(try go_frame);refine hk 7 (h:=?_);(try go_frame);refine hk 8 (h:=?_);(try go_frame);refine hk 9 (h:=?_);(try go_frame);refine hk 10 (h:=?_);(try go_frame);refine hk 11 (h:=?_);(try go_frame);refine hk 12 (h:=(ht 13 (h:=(ht 14 (h:=?_)))));(try go_frame);refine wpAnyH_done (by kernel_rfl) ?_ _;have HXr:=bH (HX8.o.trans hX1);clear z0 z1 t0 t1 t2 hHeld hX1 hx11;go_wp2;go_ret;exact⟨AL (by rw[HQ.o];rfl),HXr.o⟩
  | true =>
   refine wp_region_held_drew (S:=(XF w8)) (by kernel_rfl) ((AK.refl _ w8).drew) (fun hHeld=>?_);refine ht 0 (h:=(ht 1 (h:=?_)));(try go_frame);refine ht 2 (h:=?_);(try go_frame);refine ht 3 (h:=?_);(try go_frame);refine Aa 4 (h:=fun K hK=>?_);(go_simp;go_at_call 98;(with_reducible refine (HIs.o _ (HX8.o.trans hHeld)).mono ?_);rintro q1 w11 ⟨rfl,hx11⟩;have hX1:=hHeld.trans hx11);refine hK.o _ _ (hX1) (fun hHeld=>?_);clear hK K;(try go_frame);refine ht 5 (h:=(ht 6 (h:=?_)));(try go_frame);refine ht 7 (h:=?_);(try go_frame);refine ht 8 (h:=?_);(try go_frame);refine ht 9 (h:=?_);(try go_frame);refine Aa 10 (h:=fun K hK=>?_);(go_simp;go_at_call 76;(with_reducible refine (HCo.o _ (HX8.o.trans hX1)).mono ?_);rintro q2 w12 ⟨v12,rfl,h12,hx12⟩;have hX2:=hX1.trans hx12;have hC:=HCm.o w12 _ _ (hq8.keep hX2) h12;obtain⟨n12,a12,l12,c12,a12',l12',c12',rfl⟩:=h12.shape);refine hK.o _ _ (hX2) (fun hHeld=>?_);clear hK K;(try go_frame);refine Aa 11 (h:=fun K hK=>?_);(go_simp;go_at_call 56;(with_reducible refine hC.mono ?_);rintro q3 w13 ⟨rfl,hx13⟩;have hX3:=hX2.trans hx13);refine hK.o _ _ (hX3) (fun hHeld=>?_);clear hK K;(try go_frame);refine ht 12 (h:=(ht 13 (h:=(ht 14 (h:=?_)))));(try go_frame);refine wpAnyH_done (by kernel_rfl) ?_ _;have HXr:=bH (HX8.o.trans hX3);clear z0 z1 t0 t1 t2 hHeld hX1 hX2 hX3 hx11 hx12 hx13 h12 hC hq8;by_cases h0:sg=0
   ·subst h0;go_wp2;go_ret;exact⟨AL (by rw[HQ.o];rfl),HXr.o⟩
   have h0':(sg == 0)=false:=(by simpa using h0);have HE:=bH (decide_eq_false h0);go_wp2;go_ret;exact⟨AL (by rw[HQ.o,HE.o];simpa using h0),HXr.o⟩
def Me(p:AH) (x z:List Rat):Bool:=DQ p x&&decide (Al p z<0)&&BY p.vars.length (KW p z)&&BY p.rows.length (Jl p z)
theorem Th{p:AH} (h:AU p=true) (x z:List Rat):Mg p x z=Me p x z:=by
 rw[show Mg p x z=(D4 p x&&decide (Al p z<0)&&BY p.vars.length (KW p z)&&BY p.rows.length (Jl p z)) from rfl,I4 h];rfl
theorem KV(w:World) (pv xv zv:Value) (p:AH) (x z:List Rat) (L T:Nat) (hp:Ba w pv p) (hx:B2 w xv x L) (hz:B2 w zv z L) (hs:Gh p T L) :
  Calls prog 80 #[pv,xv,zv] w (Ak w (Me p x z)):=by
 have h1:=hs.room.one;obtain⟨r10,r11,r12⟩:=hs.room.more;obtain⟨r1,r2,r3,r4,r5,r6,r7,r8,r9⟩:=hs.room.all;have HP:=bH hp;have HIs:=bH (fun W (hW:XF w W)=>EV W _ _ p x L T (hp.keep hW) (hx.keep hW) hs);have HCo:=bH (fun W (hW:XF w W)=>Gn W _ _ p z L (hp.keep hW) (hz.keep hW) h1 r12);obtain⟨vv,rv,rfl,hv,hr⟩:=hp;obtain⟨vo,vc,rfl,-,hvn,-⟩:=hv.shape;obtain⟨ro,rc,rfl,-,hrn,-⟩:=hr.shape;have hcz:=GN hv (hz.sz h1);have HSg:=bH (fun W u (hu:AN W u (Al p z))=>C4 W u _ 4000000 (hu.reads (hcz.mono (by omega))) (by omega));have HAt:=bH (fun W (hW:XF w W) (i:Nat)=>Gj W _ z L (hz.keep hW) i);have HG:=bH (fun W u q (hu:BA W u q L)=>C4 W u q L hu (by omega));have HHo:=bH (fun W (hW:XF w W) i (hi:i<p.rows.length) ta tc (hok:E9 (p.r i)) (htm:G8 w (.slice ta (p.r i).terms.length tc) (p.r i).terms)=>L3 W _ _ p { p.r i with bound:=0 } z L T ta tc (HP.o.keep hW) ⟨hok.name,hok.group,hok.kind,(show EX 0 from⟨by decide,by decide⟩)⟩ (htm.keep hW) (hz.keep hW) h1 (hs.terms i hi) r10 r3);have HQ:=bH (show Me p x z=(DQ p x&&decide (Al p z<0)&&BY p.vars.length (KW p z)&&BY p.rows.length (Jl p z)) from rfl);have HV:=bH (bI hv hr);clear hx hz hv hr hs hcz r1 r2 r3 r4 r5 r6 r7 r8 r9 r10 r11 r12 h1;obtain⟨n,hn'⟩:=bN p.vars.length;obtain⟨m,hm'⟩:=bN p.rows.length;have HN:=bH (bI hn' hm');rw[hn'] at hvn HV HIs HCo HQ HP HHo ⊢;rw[hm'] at hrn HV HIs HCo HQ HP HHo ⊢;clear hn' hm';have hcs:decide (Al p z<0)=decide ((Al p z).num.sign<0):=decide_eq_decide.2 (BV _).symm;rw[hcs] at HQ;clear hcs;generalize DQ p x=fe at *;generalize (Al p z).num.sign=cs at *;have HB:=bH (bI (AD w (.cells #[.slice vo n vc,.slice ro m rc] 25)) ((AK.refl (fun _=>False) w).alloc (.cells #[.slice vo n vc,.slice ro m rc] 25)));go_enter func80,ntmps80;go_upto_region 1 with fail;generalize w.alloc (.cells #[.slice vo n vc,.slice ro m rc] 25)=w1 at *;obtain⟨pb,hpb⟩:=bN w.heap.size;have hpw:w.heap.size<=pb:=Nat.le_of_eq hpb;rw[hpb] at HB ⊢;clear hpb;have z0:=AA HB.o.1 0 rfl;have z1:=AA HB.o.1 1 rfl;go_wp2_with fail;refine (HIs.o _ HB.o.2).mono ?_;rintro r2 w2 ⟨rfl,hx2⟩;have HB2:=bH (bI (AM HB.o.1 hx2) (HB.o.2.trans hx2));clear hx2 HB z0 z1 HIs;cases fe with
 | false =>
  go_wp2;go_ret;exact⟨AL (by rw[HQ.o];rfl),HB2.o.2⟩
 | true =>
 have z0:=AA HB2.o.1 0 rfl;have z1:=AA HB2.o.1 1 rfl;go_wp2_with fail;refine (HCo.o _ HB2.o.2).mono ?_;rintro r3 w3 ⟨v3,rfl,h3,hx3⟩;have HS3:=bH (HSg.o w3 _ h3);obtain⟨n3,a3,l3,c3,a3',l3',c3',rfl⟩:=h3.shape;have HB3:=bH (bI (AM HB2.o.1 hx3) (HB2.o.2.trans hx3));clear hx3 HB2 z0 z1 HCo h3;go_wp2_with fail;refine HS3.o.mono ?_;rintro r4 w4 ⟨rfl,hx4⟩;have HB4:=bH (bI (AM HB3.o.1 hx4) (HB3.o.2.trans hx4));clear hx4 HB3 HS3;by_cases hc:0<=cs
 ·have HE:=bH (decide_eq_false (p:=cs<0) (by omega));go_wp2;go_ret;exact⟨AL (by rw[HQ.o,HE.o];rfl),HB4.o.2⟩
 replace HQ:Hid (Me p x z=(BY n (KW p z)&&BY m (Jl p z))):=bH (by rw[HQ.o,decide_eq_true (p:=cs<0) (by omega)];simp);have z0:=AA HB4.o.1 0 rfl;go_wp2_with fail;go_loopg [7,8] n (fun gg v7 v8 wr=>∃i:Nat,i<=n/\gg=n-i/\v7=.int .i64 i/\BY i (KW p z)=true/\Au wr pb=some (.cells #[.slice vo n vc,.slice ro m rc] 25 (0,0))/\XF w wr);case atStart=>exact⟨0,Nat.zero_le _,rfl,rfl,rfl,HB4.o⟩
 case round =>
  clear z0;obtain⟨i,hi,rfl,rfl,hall,hbx⟩:=hrel;have HX:=bH (bI hall hbx);clear hall hbx HB4;have z0:=AA HX.o.2.1 0 rfl;by_cases hin:i<n
  ·have i0:(i:Int)<(n:Int):=(by omega);have i1:(0:Int)<=(i:Int):=(by omega);obtain⟨b,off,rfl,-,-,-,e2,-,-,-⟩:=HV.o.1.atp i (by rw[HN.o.1];exact hin);have E2:=bH e2;clear e2;have HR:=bH (QP p z i);generalize (p.v i).op=o at *;go_wp2_with fail;refine (HAt.o _ HX.o.2.2 i).mono ?_;rintro r5 w5 ⟨v5,rfl,h5,hx5⟩;obtain⟨n5,a5,l5,c5,a5',l5',c5',rfl⟩:=h5.shape;have HG5:=bH (HG.o w5 _ _ h5);have HX5:=bH hx5;clear h5 hx5 z0;go_wp2_with fail;refine HG5.o.mono ?_;rintro r6 w6 ⟨rfl,hx6⟩;have HX6:=bH (bI (AM HX.o.2.1 (HX5.o.trans hx6)) (HX.o.2.2.trans (HX5.o.trans hx6)));have e2:=AB E2.o HX6.o.2;have z0:=AA HX6.o.1 0 rfl;clear hx6 HX5 HG5 E2;generalize (Am z i).num.sign=sg at *;by_cases hs1:sg<0
   ·have HE:=bH (show KW p z i=false from by rw[HR.o,decide_eq_true hs1];rfl);go_wp2;go_ret;exact⟨AL (by rw[HQ.o,B6 (i:=i) hin HE.o];rfl),HX6.o.2⟩
   by_cases hs2:0<sg
   ·cases o with
    | false =>
     have HE:=bH (show KW p z i=false from by rw[HR.o,decide_eq_true hs2];simp);go_wp2;go_ret;exact⟨AL (by rw[HQ.o,B6 (i:=i) hin HE.o];rfl),HX6.o.2⟩
    | true =>
     have HE:=bH (show KW p z i=true from by rw[HR.o,decide_eq_false hs1];simp);go_wp2;go_roundg (n-(i+1));case measure=>omega
     case rel=>exact⟨i+1,by omega,rfl,by go_num,Bm HX.o.1 HE.o,HX6.o⟩
   have HE:=bH (show KW p z i=true from by rw[HR.o,decide_eq_false hs1,decide_eq_false hs2];simp);go_wp2;go_roundg (n-(i+1));case measure=>omega
   case rel=>exact⟨i+1,by omega,rfl,by go_num,Bm HX.o.1 HE.o,HX6.o⟩
  obtain rfl:n=i:=(by omega);replace HQ:Hid (Me p x z=BY m (Jl p z)):=bH (by rw[HQ.o,HX.o.1];rfl);have z1:=AA HX.o.2.1 1 rfl;have HX2:=bH HX.o.2;clear hin hi HX;go_wp2_with fail;go_loopg [9,10] m (fun gg v9 v10 wr=>∃i:Nat,i<=m/\gg=m-i/\v9=.int .i64 i/\BY i (Jl p z)=true/\Au wr pb=some (.cells #[.slice vo n vc,.slice ro m rc] 25 (0,0))/\XF w wr);case atStart=>exact⟨0,Nat.zero_le _,rfl,rfl,rfl,HX2.o⟩
  case round =>
   clear z0 z1 HX2;obtain⟨i,hi,rfl,rfl,hall,hbx⟩:=hrel;have HX:=bH (bI hall hbx);clear hall hbx;have z0:=AA HX.o.2.1 0 rfl;have z1:=AA HX.o.2.1 1 rfl;by_cases hin:i<m
   ·have i0:(i:Int)<(m:Int):=(by omega);have i1:(0:Int)<=(i:Int):=(by omega);obtain⟨b,off,ta,tc,rfl,-,e0,e1,e2,e3,e4,hrok,htm⟩:=HV.o.2.atp i (by rw[HN.o.2];exact hin);replace e0:=AB e0 HX.o.2.2;replace e1:=AB e1 HX.o.2.2;replace e2:=AB e2 HX.o.2.2;replace e3:=AB e3 HX.o.2.2;replace e4:=AB e4 HX.o.2.2;have HH:=bH (fun W (hW:XF w W)=>HHo.o W hW i hin ta tc hrok htm);have HZ:=bH (show CC { p.r i with bound:=0 } (Bg p z)=Jl p z i from rfl);rw[HZ.o] at HH;clear hrok htm HZ;obtain⟨zi,hzi⟩:=bN (Jl p z i);have HZi:=bH hzi;rw[hzi] at HH;clear hzi;generalize (p.r i).terms.length=tl at *;generalize (p.r i).name=nm at *;generalize (p.r i).group=gr at *;generalize (p.r i).kind=k at *;generalize (p.r i).bound=bd at *;have hb3:=AD wr (.cells #[.string nm,.int .i64 gr,.int .i64 k,.slice ta tl tc,.int .i64 bd] 51);have hx3:=(AK.refl (fun _=>False) wr).alloc (.cells #[.string nm,.int .i64 gr,.int .i64 k,.slice ta tl tc,.int .i64 bd] 51);have HB3:=bH (bI hb3 (bI (AM HX.o.2.1 hx3) (bI (HX.o.2.2.trans hx3) (show pb<wr.heap.size/\w.heap.size<=wr.heap.size from⟨AT HX.o.2.1,HX.o.2.2.size⟩))));clear hb3 hx3;go_upto_region 13 with fail;generalize wr.alloc (.cells #[.string nm,.int .i64 gr,.int .i64 k,.slice ta tl tc,.int .i64 bd] 51)=w3 at *;generalize wr.heap.size=rx at *;clear e0 e1 e2 e3 e4 z0 z1;have hxs:=(AK.refl (fun i=>i=rx) w3).setCell (p:=⟨rx,4,none⟩) (.int .i64 0) (fun _=>rfl);have HB4:=bH (bI (AI HB3.o.1 4 (.int .i64 0)) (bI ((hxs.blk (AT HB3.o.2.1) (fun e=>by have:=HB3.o.2.2.2.1;omega)).trans HB3.o.2.1) (HB3.o.2.2.1.own hxs (fun k e=>by have:=HB3.o.2.2.2.2;omega))));have e4:=AA HB3.o.1 4 rfl;have f4:=AC HB3.o.1 4;clear hxs;go_upto_region 14 with fail;clear e4 f4 HB3;generalize w3.setCell ⟨rx,4,none⟩ (.int .i64 0)=w4 at *;have z0:=AA HB4.o.2.1 0 rfl;have z1:=AA HB4.o.2.1 1 rfl;have e0:=AA HB4.o.1 0 rfl;have e1:=AA HB4.o.1 1 rfl;have e2:=AA HB4.o.1 2 rfl;have e3:=AA HB4.o.1 3 rfl;have e4:=AA HB4.o.1 4 rfl;go_wp2_with fail;refine (HH.o _ HB4.o.2.2).mono ?_;rintro r5 w5 ⟨rfl,hx5⟩;have HX5:=bH (bI (AM HB4.o.2.1 hx5) (HB4.o.2.2.trans hx5));clear hx5 HB4 HH z0 z1 e0 e1 e2 e3 e4;cases zi with
    | true =>
     go_wp2;go_roundg (m-(i+1));case measure=>omega
     case rel=>exact⟨i+1,by omega,rfl,by go_num,Bm HX.o.1 HZi.o,HX5.o⟩
    | false =>
     go_wp2;go_ret;exact⟨AL (by rw[HQ.o,B6 (i:=i) hin HZi.o]),HX5.o.2⟩
   obtain rfl:i=m:=(by omega);go_wp2;go_ret;exact⟨AL (by rw[HQ.o,HX.o.1]),HX.o.2.2⟩
def Ci(w:World) (v:Value) (l:List Rat) (L:Nat):Prop :=
 ∃cs:List BW,cs.length=l.length/\Sl w v 3 (cs.map BW.cells)/\∀(i:Nat) c q,cs[i]?=some c->l[i]?=some q->AN w c.v q/\Sz q L
theorem Ci.keep{w w':World} {v:Value} {l:List Rat} {L:Nat} (h:Ci w v l L) (hx:XF w w'):Ci w' v l L:=by
 obtain⟨cs,h1,h2,h3⟩:=h;exact⟨cs,h1,h2.keep hx,fun i c q hc hq=>⟨(h3 i c q hc hq).1.keep hx,(h3 i c q hc hq).2⟩⟩
theorem Ci.rats{w:World} {v:Value} {l:List Rat} {L:Nat} (h:Ci w v l L):B2 w v l L:=by
 obtain⟨cs,h1,h2,h3⟩:=h;refine⟨cs.map BW.cells,by rw[List.length_map,h1],h2,fun i c q hc hq=>?_⟩;rw[List.getElem?_map] at hc;obtain⟨x,hx,rfl⟩:=Option.map_eq_some_iff.1 hc;exact (h3 i x q hx hq).1.reads (h3 i x q hx hq).2
theorem Ci.at{w:World} {ao:Option Addr} {n c:Nat} {l:List Rat} {L:Nat} (h:Ci w (.slice ao n c) l L) (i:Nat) (hi:i<l.length):∃b off neg a1 m1 c1 a2 m2 c2,ao=some ⟨b,off,none⟩/\b<w.heap.size /\
  w.cell? ⟨b,off+i*3,none⟩=some (.bool neg)/\w.cell? ⟨b,off+i*3+1,none⟩=some (.slice a1 m1 c1)/\w.cell? ⟨b,off+i*3+2,none⟩=some (.slice a2 m2 c2)/\AN w (.agg #[.bool neg,.slice a1 m1 c1,.slice a2 m2 c2]) l[i]/\Sz l[i] L:=by
 obtain⟨cs,h1,h2,h3⟩:=h;have hi':i<cs.length:=by omega
 obtain⟨b,off,g1,g2,g3⟩:=h2.at (i:=i) (r:=cs[i].cells) (by rw[List.getElem?_map,List.getElem?_eq_getElem hi'];rfl);obtain⟨k1,k2⟩:=h3 i _ _ (List.getElem?_eq_getElem hi') (List.getElem?_eq_getElem hi);exact⟨b,off,cs[i].ng,cs[i].a1,cs[i].m1,cs[i].c1,cs[i].a2,cs[i].m2,cs[i].c2,g1,g2,g3 0 _ rfl,g3 1 _ rfl,g3 2 _ rfl,k1,k2⟩
theorem Ci.shape{w:World} {v:Value} {l:List Rat} {L:Nat} (h:Ci w v l L):∃ao c,v=.slice ao l.length c/\(ao=none->c=0)/\l.length<=9223372036854775807/\l.length<=c:=h.rats.shape
theorem Ci.nil(w:World) (L:Nat):Ci w (.slice none 0 0) [] L:=⟨[],rfl,Sl.nil w 3,fun i c q hc=>by simp at hc⟩
def IB(w:World) (v:Value) (o:Co) (L:Nat):Prop:=∃neg a1 m1 c1 a2 m2 c2 pv mv rv,v=.agg #[.int .i64 o.kind,.bool neg,.slice a1 m1 c1,.slice a2 m2 c2,pv,mv,rv]/\(AN w (.agg #[.bool neg,.slice a1 m1 c1,.slice a2 m2 c2]) o.val/\Sz o.val L)/\Ci w pv o.pt L/\Ci w mv o.mu L/\Ci w rv o.ray L/\EX o.kind
theorem IB.keep{w w':World} {v:Value} {o:Co} {L:Nat} (h:IB w v o L) (hx:XF w w'):IB w' v o L:=by
 obtain⟨neg,a1,m1,c1,a2,m2,c2,pv,mv,rv,e,h1,h2,h3,h4,h5⟩:=h;exact⟨neg,a1,m1,c1,a2,m2,c2,pv,mv,rv,e,⟨h1.1.keep hx,h1.2⟩,h2.keep hx,h3.keep hx,h4.keep hx,h5⟩
theorem LB(w:World) (v:Value) (q:Rat) (L:Nat) (h:AN w v q) (hs:Sz q L) (h1:1<=L) (hL:L<=67108864):Calls prog 74 #[v] w (Ak w true):=by
 obtain⟨ng,a1,m1,c1,a2,m2,c2,rfl⟩:=h.shape;have hx:=(AK.refl (fun _=>False) w).alloc (.cells #[.bool ng,.slice a1 m1 c1,.slice a2 m2 c2] 34);have HF:=bH (fun W (hW:XF (w.alloc (.cells #[.bool ng,.slice a1 m1 c1,.slice a2 m2 c2] 34)) W)=>MD W _ q L ((h.keep (hx.trans hW)).reads hs) h1 hL);have HSm:=bH (fun W u (hW:XF (w.alloc (.cells #[.bool ng,.slice a1 m1 c1,.slice a2 m2 c2] 34)) W) (hu:AN W u q)=>Hn W _ u q q L (h.keep (hx.trans hW)) hu hs hs (by omega));have HX:=bH hx;have hb:=AO (W:=w) rfl ng a1 m1 c1 a2 m2 c2;clear h hs hx;go_enter func74,ntmps74;go_upto_region 1 with fail;generalize w.alloc (.cells #[.bool ng,.slice a1 m1 c1,.slice a2 m2 c2] 34)=w1 at *;generalize w.heap.size=xb at *;obtain⟨t0,t1,t2,-⟩:=hb.facts;replace t0:=cq t0;replace t1:=cq t1;replace t2:=cq t2;clear hb;refine wp_region_held_drew (S:=(XF w1)) (by kernel_rfl) ((AK.refl _ w1).drew) (fun hHeld=>?_);refine ht 0 (h:=(ht 1 (h:=?_)));(try go_frame);refine Aa 2 (h:=fun K hK=>?_);(go_simp;go_at_call 17;(with_reducible refine (HF.o _ hHeld).mono ?_);rintro q1 w11 ⟨v11,rfl,h11,hx11⟩;have hX1:=hHeld.trans hx11;have hT:=HSm.o w11 _ hX1 h11;obtain⟨n11,a11,l11,c11,a11',l11',c11',rfl⟩:=h11.shape);refine hK.o _ _ (hX1) (fun hHeld=>?_);clear hK K;(try go_frame);refine Aa 3 (h:=fun K hK=>?_);(go_simp;go_at_call 16;(with_reducible refine hT.mono ?_);rintro q2 w12 ⟨rfl,hx12⟩;have hX2:=hX1.trans hx12);refine hK.o _ _ (hX2) (fun hHeld=>?_);clear hK K;(try go_frame);refine ht 4 (h:=?_);(try go_frame);refine wpAnyH_done (by kernel_rfl) ?_ _;have HXr:=bH (HX.o.trans hX2);clear t0 t1 t2 hX1 hX2 hx11 hx12 hHeld h11 hT;go_wp2;go_ret;exact⟨AL (by simp),HXr.o⟩
theorem IF(w:World) (v:Value) (l:List Rat) (L n:Nat) (h:Ci w v l L) (h1:1<=L) (hL:L<=67108864) (hn:n<=9223372036854775807):Calls prog 75 #[v,.int .i64 n] w (Ak w (decide (l.length=n))):=by
 obtain⟨ao,c,rfl,-,hl63,-⟩:=h.shape;have HC:=bH h;clear h;obtain⟨m,hm⟩:=bN l.length;have HM:=bH hm;rw[hm] at hl63 HC ⊢;clear hm;go_enter func75,ntmps75;go_wp2_with fail;go_loopg [5] m (fun gg v5 wr=>∃i:Nat,i<=m/\gg=m-i/\v5=.int .i64 i/\XF w wr);case atStart=>exact⟨0,Nat.zero_le _,rfl,rfl,AK.refl _ _⟩
 case round =>
  obtain⟨i,hi,rfl,rfl,hx⟩:=hrel;have HX:=bH hx;clear hx;by_cases hin:i<m
  ·have i0:(i:Int)<(m:Int):=(by omega);have i1:(0:Int)<=(i:Int):=(by omega);obtain⟨b,off,ng,a1,m1,c1,a2,m2,c2,rfl,-,e0,e1,e2,hq,hs⟩:=(HC.o.keep HX.o).at i (by rw[HM.o];exact hin);have HVd:=bH (LB wr _ _ L hq hs h1 hL);clear hq hs;go_wp2_with fail;refine HVd.o.mono ?_;rintro r2 w2 ⟨rfl,hx2⟩;have HX2:=bH (HX.o.trans hx2);clear hx2 e0 e1 e2 HVd;go_wp2;go_roundg (m-(i+1));case measure=>omega
   case rel=>exact⟨i+1,by omega,rfl,by go_num,HX2.o⟩
  obtain rfl:i=m:=(by omega);by_cases he:i=n
  ·subst he;go_wp2;go_ret;exact⟨AL (by simp),HX.o⟩
  have he1:((i:Int) == (n:Int))=false:=(by simpa using (show ¬(i:Int)=(n:Int) by omega));have he2:¬(i:Int)=(n:Int):=(by omega);have HE:=bH (decide_eq_false he);go_wp2;go_ret;exact⟨AL (by rw[HE.o]),HX.o⟩
def VT(p:AH) (o:Co):Bool:=decide (o.pt.length=p.vars.length)&&decide (o.mu.length=p.rows.length)&&decide (o.ray.length=0)&&decide ((o.val-Al p o.pt).num.sign=0)&&Mc p o.pt o.mu
def VV(p:AH) (o:Co):Bool:=decide (o.pt.length=0)&&decide (o.mu.length=p.rows.length)&&decide (o.ray.length=0)&&decide (o.val.num.sign=0)&&Mv p o.mu
def VW(p:AH) (o:Co):Bool:=decide (o.pt.length=p.vars.length)&&decide (o.mu.length=0)&&decide (o.ray.length=p.vars.length)&&decide (o.val.num.sign=0)&&Me p o.pt o.ray
def U9(p:AH) (o:Co):Bool:=if o.kind=0 then VT p o else if o.kind=1 then VV p o else if o.kind=2 then VW p o else false
theorem Uo{p:AH} {o:Co} (h:AU p=true) (hk:0<=o.kind/\o.kind<=2):U9 p o=IG p o:=by
 unfold U9 IG;by_cases h0:o.kind=0
 ·rw[if_pos h0,if_pos h0];unfold VT SZ;rw[Tk h];have e:decide ((o.val-Al p o.pt).num.sign=0)=decide (o.val=Al p o.pt):=decide_eq_decide.2 (by rw[By];constructor<;>intro h<;>grind);rw[e];generalize decide (o.pt.length=p.vars.length)=b1;generalize decide (o.mu.length=p.rows.length)=b2;generalize decide (o.ray.length=0)=b3;generalize decide (o.val=Al p o.pt)=b4;generalize Mc p o.pt o.mu=b5;cases b1<;>cases b2<;>cases b3<;>cases b4<;>cases b5<;>rfl
 rw[if_neg h0,if_neg h0];have e0:decide (o.val.num.sign=0)=decide (o.val=0):=decide_eq_decide.2 (By _);by_cases h1:o.kind=1
 ·rw[if_pos h1,if_pos h1];unfold VV PW;rw[UO h,e0];have e:decide (o.pt.length+o.ray.length=0)=(decide (o.pt.length=0)&&decide (o.ray.length=0)):=by
   rw[<- Bool.decide_and];exact decide_eq_decide.2 (by omega)
  rw[e];generalize decide (o.pt.length=0)=b1;generalize decide (o.mu.length=p.rows.length)=b2;generalize decide (o.ray.length=0)=b3;generalize decide (o.val=0)=b4;generalize Mv p o.mu=b5;cases b1<;>cases b2<;>cases b3<;>cases b4<;>cases b5<;>rfl
 rw[if_neg h1,if_neg h1,if_pos (by omega)];unfold VW Rv;rw[Th h,e0];generalize decide (o.pt.length=p.vars.length)=b1;generalize decide (o.mu.length=0)=b2;generalize decide (o.ray.length=p.vars.length)=b3;generalize decide (o.val=0)=b4;generalize Me p o.pt o.ray=b5;cases b1<;>cases b2<;>cases b3<;>cases b4<;>cases b5<;>rfl
theorem Jf(w:World) (pv ov:Value) (p:AH) (o:Co) (L T:Nat) (hp:Ba w pv p) (ho:IB w ov o L) (hs:Gh p T L) :
  Calls prog 39 #[pv,ov] w (Ak w (U9 p o)):=by
 have h1:=hs.room.one;obtain⟨r10,r11,r12⟩:=hs.room.more;have r8:=hs.room.all.2.2.2.2.2.2.2.1;have r7:=hs.room.all.2.2.2.2.2.2.1;have r3:=hs.room.all.2.2.1;have HP:=bH hp;obtain⟨vv,rv,rfl,hv,hr⟩:=hp;obtain⟨vo,vc,rfl,-,hvn,-⟩:=hv.shape;obtain⟨ro,rc,rfl,-,hrn,-⟩:=hr.shape;obtain⟨neg,a1,m1,c1,a2,m2,c2,ptv,muv,rav,rfl,hval,hpt,hmu,hra,hkr⟩:=ho;obtain⟨po,pc,rfl,-,hpn,-⟩:=hpt.shape;obtain⟨mo,mc,rfl,-,hmn,-⟩:=hmu.shape;obtain⟨zo,zc,rfl,-,hzn,-⟩:=hra.shape;have hcz:=GN hv (hpt.rats.sz h1);have HVal:=bH (fun W (hW:XF w W)=>LB W _ o.val L (hval.1.keep hW) hval.2 h1 (by omega));have HVp:=bH (fun W (hW:XF w W)=>IF W _ o.pt L p.vars.length (hpt.keep hW) h1 (by omega) hvn);have HVm:=bH (fun W (hW:XF w W)=>IF W _ o.mu L p.rows.length (hmu.keep hW) h1 (by omega) hrn);have HVr:=bH (fun W (hW:XF w W)=>IF W _ o.ray L p.vars.length (hra.keep hW) h1 (by omega) hvn);have HCo:=bH (fun W (hW:XF w W)=>Gn W _ _ p o.pt L (HP.o.keep hW) (hpt.rats.keep hW) h1 r12);have HCm:=bH (fun W u (hW:XF w W) (hu:AN W u (Al p o.pt))=>FR W _ u _ _ 4000000 ((hval.1.keep hW).reads (hval.2.mono (by omega))) (hu.reads (hcz.mono (by omega))) (by omega) (by omega));have HSg:=bH (fun W (hW:XF w W)=>C4 W _ o.val L ((hval.1.keep hW).reads hval.2) (by omega));have HOp:=bH (fun W (hW:XF w W)=>Mp W _ _ _ p o.pt o.mu L T (HP.o.keep hW) (hpt.rats.keep hW) (hmu.rats.keep hW) hs);have HIn:=bH (fun W (hW:XF w W)=>Jv W _ _ p o.mu L T (HP.o.keep hW) (hmu.rats.keep hW) hs);have HUn:=bH (fun W (hW:XF w W)=>KV W _ _ _ p o.pt o.ray L T (HP.o.keep hW) (hpt.rats.keep hW) (hra.rats.keep hW) hs);have HQ:=bH (show U9 p o=if o.kind=0 then (decide (o.pt.length=p.vars.length)&&decide (o.mu.length=p.rows.length)&&decide (o.ray.length=0)&&decide ((o.val-Al p o.pt).num.sign=0)&&Mc p o.pt o.mu) else if o.kind=1 then (decide (o.pt.length=0)&&decide (o.mu.length=p.rows.length)&&decide (o.ray.length=0)&&decide (o.val.num.sign=0)&&Mv p o.mu) else if o.kind=2 then (decide (o.pt.length=p.vars.length)&&decide (o.mu.length=0)&&decide (o.ray.length=p.vars.length)&&decide (o.val.num.sign=0)&&Me p o.pt o.ray) else false from rfl);clear hv hr hpt hmu hra hval hs hcz r3 r7 r8 r10 r11 r12 h1 HP;generalize hpl:o.pt.length=pn at *;generalize hml:o.mu.length=mn at *;generalize hzl:o.ray.length=zn at *;clear hpl hml hzl;obtain⟨kd,hkd⟩:=bN o.kind;rw[hkd] at hkr HQ ⊢;clear hkd;obtain⟨n,hn'⟩:=bN p.vars.length;rw[hn'] at HVp HVr HCo HOp HIn HUn HQ hvn ⊢;obtain⟨m,hm'⟩:=bN p.rows.length;rw[hm'] at HVm HCo HOp HIn HUn HQ hrn ⊢;clear hn' hm';generalize U9 p o=pb' at *;generalize (o.val-Al p o.pt).num.sign=sc at *;generalize o.val.num.sign=sv at *;generalize Mc p o.pt o.mu=q1 at *;generalize Mv p o.mu=q2 at *;generalize Me p o.pt o.ray=q3 at *;go_enter func39,ntmps39;have b0:Au ((w.alloc (.cells #[.slice vo n vc,.slice ro m rc] 25)).alloc (.cells #[.int .i64 kd,.bool neg,.slice a1 m1 c1,.slice a2 m2 c2,.slice po pn pc,.slice mo mn mc,.slice zo zn zc] 37)) w.heap.size=some (.cells #[.slice vo n vc,.slice ro m rc] 25 (0,0)):=(Ap _ _ _ (by simp)).trans (AD _ _);have b1:=AD (w.alloc (.cells #[.slice vo n vc,.slice ro m rc] 25)) (.cells #[.int .i64 kd,.bool neg,.slice a1 m1 c1,.slice a2 m2 c2,.slice po pn pc,.slice mo mn mc,.slice zo zn zc] 37);rw[World.size_alloc] at b1;have hx1:=((AK.refl (fun _=>False) w).alloc (.cells #[.slice vo n vc,.slice ro m rc] 25)).alloc (.cells #[.int .i64 kd,.bool neg,.slice a1 m1 c1,.slice a2 m2 c2,.slice po pn pc,.slice mo mn mc,.slice zo zn zc] 37);have HB:=bH (bI b0 (bI b1 hx1));clear b0 b1 hx1;go_upto_region 1 with fail;generalize hw1:(w.alloc (.cells #[.slice vo n vc,.slice ro m rc] 25)).alloc (.cells #[.int .i64 kd,.bool neg,.slice a1 m1 c1,.slice a2 m2 c2,.slice po pn pc,.slice mo mn mc,.slice zo zn zc] 37)=w1 at *;clear hw1;obtain⟨ob,hob⟩:=bN (w.heap.size+1);rw[hob] at HB ⊢;clear hob;obtain⟨pb,hpb⟩:=bN w.heap.size;rw[hpb] at HB ⊢;clear hpb;have e1:=AA HB.o.2.1 1 rfl;have e2:=AA HB.o.2.1 2 rfl;have e3:=AA HB.o.2.1 3 rfl;go_wp2_with fail;refine (HVal.o _ HB.o.2.2).mono ?_;rintro r2 w2 ⟨rfl,hx2⟩;have HB2:=bH (bI (AM HB.o.1 hx2) (bI (AM HB.o.2.1 hx2) (HB.o.2.2.trans hx2)));clear hx2 HB HVal e1 e2 e3;have z0:=AA HB2.o.1 0 rfl;have z1:=AA HB2.o.1 1 rfl;go_upto_region 3 with fail;go_quiet (fail);rename_i nq;have HB4:=bH (show Au (w2.drewN nq) pb=some (.cells #[.slice vo n vc,.slice ro m rc] 25 (0,0))/\Au (w2.drewN nq) ob=some (.cells #[.int .i64 kd,.bool neg,.slice a1 m1 c1,.slice a2 m2 c2,.slice po pn pc,.slice mo mn mc,.slice zo zn zc] 37 (0,0))/\XF w (w2.drewN nq) from⟨HB2.o.1,HB2.o.2.1,HB2.o.2.2.drewN nq⟩);generalize w2.drewN nq=w4 at *;clear z0 z1 HB2;have k0:=AA HB4.o.2.1 0 rfl;have z0:=AA HB4.o.1 0 rfl;have z1:=AA HB4.o.1 1 rfl;have e1:=AA HB4.o.2.1 1 rfl;have e2:=AA HB4.o.2.1 2 rfl;have e3:=AA HB4.o.2.1 3 rfl;have e4:=AA HB4.o.2.1 4 rfl;have e5:=AA HB4.o.2.1 5 rfl;have e6:=AA HB4.o.2.1 6 rfl;replace HVp:=bH (fun W (hW:XF w4 W)=>HVp.o W (HB4.o.2.2.trans hW));replace HVm:=bH (fun W (hW:XF w4 W)=>HVm.o W (HB4.o.2.2.trans hW));replace HVr:=bH (fun W (hW:XF w4 W)=>HVr.o W (HB4.o.2.2.trans hW));replace HCo:=bH (fun W (hW:XF w4 W)=>HCo.o W (HB4.o.2.2.trans hW));replace HCm:=bH (fun W u (hW:XF w4 W) hu=>HCm.o W u (HB4.o.2.2.trans hW) hu);replace HSg:=bH (fun W (hW:XF w4 W)=>HSg.o W (HB4.o.2.2.trans hW));replace HOp:=bH (fun W (hW:XF w4 W)=>HOp.o W (HB4.o.2.2.trans hW));replace HIn:=bH (fun W (hW:XF w4 W)=>HIn.o W (HB4.o.2.2.trans hW));replace HUn:=bH (fun W (hW:XF w4 W)=>HUn.o W (HB4.o.2.2.trans hW));by_cases hk0:kd=0
 ·subst hk0;rw[if_pos rfl] at HQ;go_upto_region 6 with fail;clear k0;replace z0:=cq z0;replace z1:=cq z1;replace e1:=cq e1;replace e2:=cq e2;replace e3:=cq e3;replace e4:=cq e4;replace e5:=cq e5;replace e6:=cq e6;generalize hb1:decide (pn=n)=b1 at *;generalize hb2:decide (mn=m)=b2 at *;clear hb1 hb2;cases b1 with
  | false =>
   refine wp_region_held_drew (S:=(XF w4)) (by kernel_rfl) ((AK.refl _ w4).drew) (fun hHeld=>?_);refine ht 0 (h:=(ht 1 (h:=(ht 2 (h:=?_)))));(try go_frame);refine Aa 3 (h:=fun K hK=>?_);(go_simp;go_at_call 75;(with_reducible refine (HVp.o _ hHeld).mono ?_);rintro q1 w11 ⟨rfl,hx1⟩;have hX1:=hHeld.trans hx1);refine hK.o _ _ (hX1) (fun hHeld=>?_);clear hK K;(try go_frame);refine ht 4 (h:=?_);(try go_frame);refine hk 5 (h:=?_);(try go_frame);refine hk 6 (h:=?_);(try go_frame);refine hk 7 (h:=?_);(try go_frame);refine hk 8 (h:=(ht 9 (h:=(ht 10 (h:=?_)))));(try go_frame);refine hk 11 (h:=?_);(try go_frame);refine hk 12 (h:=?_);(try go_frame);refine hk 13 (h:=?_);(try go_frame);refine hk 14 (h:=(ht 15 (h:=(ht 16 (h:=?_)))));(try go_frame);refine hk 17 (h:=?_);(try go_frame);refine hk 18 (h:=?_);(try go_frame);refine hk 19 (h:=?_);(try go_frame);refine hk 20 (h:=?_);(try go_frame);refine hk 21 (h:=?_);(try go_frame);refine hk 22 (h:=?_);(try go_frame);refine hk 23 (h:=?_);(try go_frame);refine hk 24 (h:=(ht 25 (h:=(ht 26 (h:=?_)))));(try go_frame);refine hk 27 (h:=?_);(try go_frame);refine hk 28 (h:=?_);(try go_frame);refine hk 29 (h:=?_);(try go_frame);refine hk 30 (h:=?_);(try go_frame);refine hk 31 (h:=?_);(try go_frame);refine hk 32 (h:=(ht 33 (h:=(ht 34 (h:=?_)))));(try go_frame);refine wpAnyH_done (by kernel_rfl) ?_ _;have HXr:=bH (HB4.o.2.2.trans hX1);clear hX1 hx1 hHeld;go_wp2;go_ret;exact⟨AL (by rw[HQ.o];rfl),HXr.o⟩
  | true =>
  cases b2 with
  | false =>
   refine wp_region_held_drew (S:=(XF w4)) (by kernel_rfl) ((AK.refl _ w4).drew) (fun hHeld=>?_);refine ht 0 (h:=(ht 1 (h:=(ht 2 (h:=?_)))));(try go_frame);refine Aa 3 (h:=fun K hK=>?_);(go_simp;go_at_call 75;(with_reducible refine (HVp.o _ hHeld).mono ?_);rintro q1 w11 ⟨rfl,hx1⟩;have hX1:=hHeld.trans hx1);refine hK.o _ _ (hX1) (fun hHeld=>?_);clear hK K;(try go_frame);refine ht 4 (h:=?_);(try go_frame);refine ht 5 (h:=?_);(try go_frame);refine ht 6 (h:=?_);(try go_frame);refine ht 7 (h:=?_);(try go_frame);refine Aa 8 (h:=fun K hK=>?_);(go_simp;go_at_call 75;(with_reducible refine (HVm.o _ hX1).mono ?_);rintro q2 w12 ⟨rfl,hx2⟩;have hX2:=hX1.trans hx2);refine hK.o _ _ (hX2) (fun hHeld=>?_);clear hK K;(try go_frame);refine ht 9 (h:=(ht 10 (h:=?_)));(try go_frame);refine hk 11 (h:=?_);(try go_frame);refine hk 12 (h:=?_);(try go_frame);refine hk 13 (h:=?_);(try go_frame);refine hk 14 (h:=(ht 15 (h:=(ht 16 (h:=?_)))));(try go_frame);refine hk 17 (h:=?_);(try go_frame);refine hk 18 (h:=?_);(try go_frame);refine hk 19 (h:=?_);(try go_frame);refine hk 20 (h:=?_);(try go_frame);refine hk 21 (h:=?_);(try go_frame);refine hk 22 (h:=?_);(try go_frame);refine hk 23 (h:=?_);(try go_frame);refine hk 24 (h:=(ht 25 (h:=(ht 26 (h:=?_)))));(try go_frame);refine hk 27 (h:=?_);(try go_frame);refine hk 28 (h:=?_);(try go_frame);refine hk 29 (h:=?_);(try go_frame);refine hk 30 (h:=?_);(try go_frame);refine hk 31 (h:=?_);(try go_frame);refine hk 32 (h:=(ht 33 (h:=(ht 34 (h:=?_)))));(try go_frame);refine wpAnyH_done (by kernel_rfl) ?_ _;have HXr:=bH (HB4.o.2.2.trans hX2);clear hX1 hX2 hx1 hx2 hHeld;go_wp2;go_ret;exact⟨AL (by rw[HQ.o];rfl),HXr.o⟩
  | true =>
  by_cases hz0:zn=0
  ·subst hz0;have hzz:((0:Nat):Int)=0:=rfl;by_cases hsc:sc=0
   ·subst hsc;refine wp_region_held_drew (S:=(XF w4)) (by kernel_rfl) ((AK.refl _ w4).drew) (fun hHeld=>?_);refine ht 0 (h:=(ht 1 (h:=(ht 2 (h:=?_)))));(try go_frame);refine Aa 3 (h:=fun K hK=>?_);(go_simp;go_at_call 75;(with_reducible refine (HVp.o _ hHeld).mono ?_);rintro q1 w11 ⟨rfl,hx1⟩;have hX1:=hHeld.trans hx1);refine hK.o _ _ (hX1) (fun hHeld=>?_);clear hK K;(try go_frame);refine ht 4 (h:=?_);(try go_frame);refine ht 5 (h:=?_);(try go_frame);refine ht 6 (h:=?_);(try go_frame);refine ht 7 (h:=?_);(try go_frame);refine Aa 8 (h:=fun K hK=>?_);(go_simp;go_at_call 75;(with_reducible refine (HVm.o _ hX1).mono ?_);rintro q2 w12 ⟨rfl,hx2⟩;have hX2:=hX1.trans hx2);refine hK.o _ _ (hX2) (fun hHeld=>?_);clear hK K;(try go_frame);refine ht 9 (h:=(ht 10 (h:=?_)));(try go_frame);refine ht 11 (h:=?_);(try go_frame);refine ht 12 (h:=?_);(try go_frame);refine ht 13 (h:=?_);(try go_frame);refine ht 14 (h:=(ht 15 (h:=(ht 16 (h:=?_)))));(try go_frame);refine ht 17 (h:=?_);(try go_frame);refine ht 18 (h:=?_);(try go_frame);refine ht 19 (h:=?_);(try go_frame);refine ht 20 (h:=?_);(try go_frame);refine ht 21 (h:=?_);(try go_frame);refine Aa 22 (h:=fun K hK=>?_);(go_simp;go_at_call 76;(with_reducible refine (HCo.o _ hX2).mono ?_);rintro q3 w13 ⟨v3,rfl,h3,hx3⟩;have hX3:=hX2.trans hx3;have hC:=HCm.o w13 _ hX3 h3;obtain⟨n13,a13,l13,c13,a13',l13',c13',rfl⟩:=h3.shape);refine hK.o _ _ (hX3) (fun hHeld=>?_);clear hK K;(try go_frame);refine Aa 23 (h:=fun K hK=>?_);(go_simp;go_at_call 56;(with_reducible refine (hC).mono ?_);rintro q4 w14 ⟨rfl,hx4⟩;have hX4:=hX3.trans hx4);refine hK.o _ _ (hX4) (fun hHeld=>?_);clear hK K;(try go_frame);refine ht 24 (h:=(ht 25 (h:=(ht 26 (h:=?_)))));(try go_frame);refine ht 27 (h:=?_);(try go_frame);refine ht 28 (h:=?_);(try go_frame);refine ht 29 (h:=?_);(try go_frame);refine ht 30 (h:=?_);(try go_frame);refine ht 31 (h:=?_);(try go_frame);refine Aa 32 (h:=fun K hK=>?_);(go_simp;go_at_call 77;(with_reducible refine (HOp.o _ hX4).mono ?_);rintro q5 w15 ⟨rfl,hx5⟩;have hX5:=hX4.trans hx5);refine hK.o _ _ (hX5) (fun hHeld=>?_);clear hK K;(try go_frame);refine ht 33 (h:=(ht 34 (h:=?_)));(try go_frame);refine wpAnyH_done (by kernel_rfl) ?_ _;have HXr:=bH (HB4.o.2.2.trans hX5);clear hX1 hX2 hX3 hX4 hX5 hx1 hx2 hx3 hx4 hx5 h3 hC hHeld;go_wp2;go_ret;exact⟨AL (by rw[HQ.o];rfl),HXr.o⟩
   have hsc1:(sc == 0)=false:=(by simpa using hsc);have HE:=bH (decide_eq_false hsc);refine wp_region_held_drew (S:=(XF w4)) (by kernel_rfl) ((AK.refl _ w4).drew) (fun hHeld=>?_);refine ht 0 (h:=(ht 1 (h:=(ht 2 (h:=?_)))));(try go_frame);refine Aa 3 (h:=fun K hK=>?_);(go_simp;go_at_call 75;(with_reducible refine (HVp.o _ hHeld).mono ?_);rintro q1 w11 ⟨rfl,hx1⟩;have hX1:=hHeld.trans hx1);refine hK.o _ _ (hX1) (fun hHeld=>?_);clear hK K;(try go_frame);refine ht 4 (h:=?_);(try go_frame);refine ht 5 (h:=?_);(try go_frame);refine ht 6 (h:=?_);(try go_frame);refine ht 7 (h:=?_);(try go_frame);refine Aa 8 (h:=fun K hK=>?_);(go_simp;go_at_call 75;(with_reducible refine (HVm.o _ hX1).mono ?_);rintro q2 w12 ⟨rfl,hx2⟩;have hX2:=hX1.trans hx2);refine hK.o _ _ (hX2) (fun hHeld=>?_);clear hK K;(try go_frame);refine ht 9 (h:=(ht 10 (h:=?_)));(try go_frame);refine ht 11 (h:=?_);(try go_frame);refine ht 12 (h:=?_);(try go_frame);refine ht 13 (h:=?_);(try go_frame);refine ht 14 (h:=(ht 15 (h:=(ht 16 (h:=?_)))));(try go_frame);refine ht 17 (h:=?_);(try go_frame);refine ht 18 (h:=?_);(try go_frame);refine ht 19 (h:=?_);(try go_frame);refine ht 20 (h:=?_);(try go_frame);refine ht 21 (h:=?_);(try go_frame);refine Aa 22 (h:=fun K hK=>?_);(go_simp;go_at_call 76;(with_reducible refine (HCo.o _ hX2).mono ?_);rintro q3 w13 ⟨v3,rfl,h3,hx3⟩;have hX3:=hX2.trans hx3;have hC:=HCm.o w13 _ hX3 h3;obtain⟨n13,a13,l13,c13,a13',l13',c13',rfl⟩:=h3.shape);refine hK.o _ _ (hX3) (fun hHeld=>?_);clear hK K;(try go_frame);refine Aa 23 (h:=fun K hK=>?_);(go_simp;go_at_call 56;(with_reducible refine (hC).mono ?_);rintro q4 w14 ⟨rfl,hx4⟩;have hX4:=hX3.trans hx4);refine hK.o _ _ (hX4) (fun hHeld=>?_);clear hK K;(try go_frame);refine ht 24 (h:=(ht 25 (h:=(ht 26 (h:=?_)))));(try go_frame);refine hk 27 (h:=?_);(try go_frame);refine hk 28 (h:=?_);(try go_frame);refine hk 29 (h:=?_);(try go_frame);refine hk 30 (h:=?_);(try go_frame);refine hk 31 (h:=?_);(try go_frame);refine hk 32 (h:=(ht 33 (h:=(ht 34 (h:=?_)))));(try go_frame);refine wpAnyH_done (by kernel_rfl) ?_ _;have HXr:=bH (HB4.o.2.2.trans hX4);clear hX1 hX2 hX3 hX4 hx1 hx2 hx3 hx4 h3 hC hHeld;go_wp2;go_ret;exact⟨AL (by rw[HQ.o,HE.o];rfl),HXr.o⟩
  have hz1:((zn:Int) == 0)=false:=(by simpa using hz0);have hz2:¬(zn:Int)=0:=(by omega);have HE:=bH (decide_eq_false hz0);refine wp_region_held_drew (S:=(XF w4)) (by kernel_rfl) ((AK.refl _ w4).drew) (fun hHeld=>?_);refine ht 0 (h:=(ht 1 (h:=(ht 2 (h:=?_)))));(try go_frame);refine Aa 3 (h:=fun K hK=>?_);(go_simp;go_at_call 75;(with_reducible refine (HVp.o _ hHeld).mono ?_);rintro q1 w11 ⟨rfl,hx1⟩;have hX1:=hHeld.trans hx1);refine hK.o _ _ (hX1) (fun hHeld=>?_);clear hK K;(try go_frame);refine ht 4 (h:=?_);(try go_frame);refine ht 5 (h:=?_);(try go_frame);refine ht 6 (h:=?_);(try go_frame);refine ht 7 (h:=?_);(try go_frame);refine Aa 8 (h:=fun K hK=>?_);(go_simp;go_at_call 75;(with_reducible refine (HVm.o _ hX1).mono ?_);rintro q2 w12 ⟨rfl,hx2⟩;have hX2:=hX1.trans hx2);refine hK.o _ _ (hX2) (fun hHeld=>?_);clear hK K;(try go_frame);refine ht 9 (h:=(ht 10 (h:=?_)));(try go_frame);refine ht 11 (h:=?_);(try go_frame);refine ht 12 (h:=?_);(try go_frame);refine ht 13 (h:=?_);(try go_frame);refine ht 14 (h:=(ht 15 (h:=(ht 16 (h:=?_)))));(try go_frame);refine hk 17 (h:=?_);(try go_frame);refine hk 18 (h:=?_);(try go_frame);refine hk 19 (h:=?_);(try go_frame);refine hk 20 (h:=?_);(try go_frame);refine hk 21 (h:=?_);(try go_frame);refine hk 22 (h:=?_);(try go_frame);refine hk 23 (h:=?_);(try go_frame);refine hk 24 (h:=(ht 25 (h:=(ht 26 (h:=?_)))));(try go_frame);refine hk 27 (h:=?_);(try go_frame);refine hk 28 (h:=?_);(try go_frame);refine hk 29 (h:=?_);(try go_frame);refine hk 30 (h:=?_);(try go_frame);refine hk 31 (h:=?_);(try go_frame);refine hk 32 (h:=(ht 33 (h:=(ht 34 (h:=?_)))));(try go_frame);refine wpAnyH_done (by kernel_rfl) ?_ _;have HXr:=bH (HB4.o.2.2.trans hX2);clear hX1 hX2 hx1 hx2 hHeld;go_wp2;go_ret;exact⟨AL (by rw[HQ.o,HE.o];rfl),HXr.o⟩
 by_cases hk1:kd=1
 ·subst hk1;rw[if_neg (by decide),if_pos rfl] at HQ;generalize hb2:decide (mn=m)=b2 at *;clear hb2;by_cases hp0:pn=0
  ·subst hp0;have hpp:((0:Nat):Int)=0:=rfl;go_wp2_with fail;refine (HVm.o _ (AK.refl _ _)).mono ?_;rintro r5 w5 ⟨rfl,hx5⟩;have HB5:=bH (bI (AM HB4.o.1 hx5) (bI (AM HB4.o.2.1 hx5) (bI ((AK.refl (fun _=>False) w4).trans hx5) (HB4.o.2.2.trans hx5))));clear hx5 z0 z1 e1 e2 e3 e4 e5 e6 k0;have z0:=AA HB5.o.1 0 rfl;have z1:=AA HB5.o.1 1 rfl;have e1:=AA HB5.o.2.1 1 rfl;have e2:=AA HB5.o.2.1 2 rfl;have e3:=AA HB5.o.2.1 3 rfl;have e4:=AA HB5.o.2.1 4 rfl;have e5:=AA HB5.o.2.1 5 rfl;have e6:=AA HB5.o.2.1 6 rfl;cases b2 with
   | false =>
    go_wp2;go_ret;exact⟨AL (by rw[HQ.o];rfl),HB5.o.2.2.2⟩
   | true =>
   by_cases hz0:zn=0
   ·subst hz0;have hzz:((0:Nat):Int)=0:=rfl;go_wp2_with fail;refine (HSg.o _ HB5.o.2.2.1).mono ?_;rintro r6 w6 ⟨rfl,hx6⟩;have HB6:=bH (bI (AM HB5.o.1 hx6) (bI (AM HB5.o.2.1 hx6) (bI (HB5.o.2.2.1.trans hx6) (HB5.o.2.2.2.trans hx6))));clear hx6 z0 z1 e1 e2 e3 e4 e5 e6;have z0:=AA HB6.o.1 0 rfl;have z1:=AA HB6.o.1 1 rfl;have e1:=AA HB6.o.2.1 1 rfl;have e2:=AA HB6.o.2.1 2 rfl;have e3:=AA HB6.o.2.1 3 rfl;have e4:=AA HB6.o.2.1 4 rfl;have e5:=AA HB6.o.2.1 5 rfl;have e6:=AA HB6.o.2.1 6 rfl;by_cases hsv:sv=0
    ·subst hsv;go_wp2_with fail;refine (HIn.o _ HB6.o.2.2.1).mono ?_;rintro r7 w7 ⟨rfl,hx7⟩;have HX7:=bH (HB6.o.2.2.2.trans hx7);clear hx7;go_wp2;go_ret;exact⟨AL (by rw[HQ.o];rfl),HX7.o⟩
    have hsv1:(sv == 0)=false:=(by simpa using hsv);have HE:=bH (decide_eq_false hsv);go_wp2;go_ret;exact⟨AL (by rw[HQ.o,HE.o];rfl),HB6.o.2.2.2⟩
   have hz1:((zn:Int) == 0)=false:=(by simpa using hz0);have hz2:¬(zn:Int)=0:=(by omega);have HE:=bH (decide_eq_false hz0);go_wp2;go_ret;exact⟨AL (by rw[HQ.o,HE.o];simp),HB5.o.2.2.2⟩
  have hp1:((pn:Int) == 0)=false:=(by simpa using hp0);have hp2:¬(pn:Int)=0:=(by omega);have HE:=bH (decide_eq_false hp0);go_wp2;go_ret;exact⟨AL (by rw[HQ.o,HE.o];rfl),HB4.o.2.2⟩
 by_cases hk2:kd=2
 ·subst hk2;rw[if_neg (by decide),if_neg (by decide),if_pos rfl] at HQ;generalize hb1:decide (pn=n)=b1 at *;generalize hb3:decide (zn=n)=b3 at *;clear hb1 hb3;go_wp2_with fail;refine (HVp.o _ (AK.refl _ _)).mono ?_;rintro r5 w5 ⟨rfl,hx5⟩;have HB5:=bH (bI (AM HB4.o.1 hx5) (bI (AM HB4.o.2.1 hx5) (bI ((AK.refl (fun _=>False) w4).trans hx5) (HB4.o.2.2.trans hx5))));clear hx5 z0 z1 e1 e2 e3 e4 e5 e6 k0;have z0:=AA HB5.o.1 0 rfl;have z1:=AA HB5.o.1 1 rfl;have e1:=AA HB5.o.2.1 1 rfl;have e2:=AA HB5.o.2.1 2 rfl;have e3:=AA HB5.o.2.1 3 rfl;have e4:=AA HB5.o.2.1 4 rfl;have e5:=AA HB5.o.2.1 5 rfl;have e6:=AA HB5.o.2.1 6 rfl;cases b1 with
  | false =>
   go_wp2;go_ret;exact⟨AL (by rw[HQ.o];rfl),HB5.o.2.2.2⟩
  | true =>
  by_cases hm0:mn=0
  ·subst hm0;have hmm:((0:Nat):Int)=0:=rfl;go_wp2_with fail;refine (HVr.o _ HB5.o.2.2.1).mono ?_;rintro r6 w6 ⟨rfl,hx6⟩;have HB6:=bH (bI (AM HB5.o.1 hx6) (bI (AM HB5.o.2.1 hx6) (bI (HB5.o.2.2.1.trans hx6) (HB5.o.2.2.2.trans hx6))));clear hx6 z0 z1 e1 e2 e3 e4 e5 e6;have z0:=AA HB6.o.1 0 rfl;have z1:=AA HB6.o.1 1 rfl;have e1:=AA HB6.o.2.1 1 rfl;have e2:=AA HB6.o.2.1 2 rfl;have e3:=AA HB6.o.2.1 3 rfl;have e4:=AA HB6.o.2.1 4 rfl;have e5:=AA HB6.o.2.1 5 rfl;have e6:=AA HB6.o.2.1 6 rfl;cases b3 with
   | false =>
    go_wp2;go_ret;exact⟨AL (by rw[HQ.o];rfl),HB6.o.2.2.2⟩
   | true =>
   go_wp2_with fail;refine (HSg.o _ HB6.o.2.2.1).mono ?_;rintro r7 w7 ⟨rfl,hx7⟩;have HB7:=bH (bI (AM HB6.o.1 hx7) (bI (AM HB6.o.2.1 hx7) (bI (HB6.o.2.2.1.trans hx7) (HB6.o.2.2.2.trans hx7))));clear hx7 z0 z1 e1 e2 e3 e4 e5 e6;have z0:=AA HB7.o.1 0 rfl;have z1:=AA HB7.o.1 1 rfl;have e1:=AA HB7.o.2.1 1 rfl;have e2:=AA HB7.o.2.1 2 rfl;have e3:=AA HB7.o.2.1 3 rfl;have e4:=AA HB7.o.2.1 4 rfl;have e5:=AA HB7.o.2.1 5 rfl;have e6:=AA HB7.o.2.1 6 rfl;by_cases hsv:sv=0
   ·subst hsv;go_wp2_with fail;refine (HUn.o _ HB7.o.2.2.1).mono ?_;rintro r8 w8 ⟨rfl,hx8⟩;have HX8:=bH (HB7.o.2.2.2.trans hx8);clear hx8;go_wp2;go_ret;exact⟨AL (by rw[HQ.o];rfl),HX8.o⟩
   have hsv1:(sv == 0)=false:=(by simpa using hsv);have HE:=bH (decide_eq_false hsv);go_wp2;go_ret;exact⟨AL (by rw[HQ.o,HE.o];rfl),HB7.o.2.2.2⟩
  have hm1:((mn:Int) == 0)=false:=(by simpa using hm0);have hm2:¬(mn:Int)=0:=(by omega);have HE:=bH (decide_eq_false hm0);go_wp2;go_ret;exact⟨AL (by rw[HQ.o,HE.o];rfl),HB5.o.2.2.2⟩
 rw[if_neg hk0,if_neg hk1,if_neg hk2] at HQ;have k01:(kd == 0)=false:=(by simpa using hk0);have k11:(kd == 1)=false:=(by simpa using hk1);have k21:(kd == 2)=false:=(by simpa using hk2);go_wp2;go_ret;exact⟨AL (by rw[HQ.o]),HB4.o.2.2⟩
structure B9(w:World) (g m:Nat) (f:Nat->Rat):Prop where
 row:∃arr,Au w g=some (.cells arr 34 (0,0))/\m*3<=arr.size
 noDig:BN w g
 cells:∀i,i<m->∃neg a1 m1 c1 a2 m2 c2,w.cell? ⟨g,i*3,none⟩=some (.bool neg)/\w.cell? ⟨g,i*3+1,none⟩=some (.slice a1 m1 c1)/\w.cell? ⟨g,i*3+2,none⟩=some (.slice a2 m2 c2)/\AN w (.agg #[.bool neg,.slice a1 m1 c1,.slice a2 m2 c2]) (f i)
def H7(w w':World) (g:Nat):Prop:=∀arr T,Au w g=some (.cells arr T (0,0))->∃arr',Au w' g=some (.cells arr' T (0,0))/\arr'.size=arr.size
theorem H7.trans{w w1 w2:World} {g:Nat} (h:H7 w w1 g) (h':H7 w1 w2 g):H7 w w2 g:=fun arr T ha=>by
 obtain⟨a1,e1,s1⟩:=h arr T ha;obtain⟨a2,e2,s2⟩:=h' a1 T e1;exact⟨a2,e2,s2.trans s1⟩
theorem BT.cap{w:World} {b n:Nat} {f:Nat->Rat} (h:BT w b n f):B9 w b n f:=by
 obtain⟨arr,h1,h2⟩:=h.row;exact⟨⟨arr,h1,Nat.le_of_eq h2.symm⟩,h.noDig,h.cells⟩
section
variable {w w':World} {g m:Nat} {f f':Nat->Rat}
theorem B9.lt(h:B9 w g m f):g<w.heap.size:=by
 obtain⟨arr,h1,_⟩:=h.row;exact AT h1
theorem B9.free(h:B9 w g m f) (i:Nat):w.frozen? ⟨g,i,none⟩=false:=by
 obtain⟨arr,h1,_⟩:=h.row;exact AC h1 i
theorem B9.congr(h:B9 w g m f) (hg:∀i,i<m->f i=f' i):B9 w g m f' :=
 ⟨h.row,h.noDig,fun i hi=>by rw[<- hg i hi];exact h.cells i hi⟩
theorem B9.past{S:Nat->Prop} (h:B9 w g m f) (hx:AK S w w') (hn:¬S g) (hr:∀v l,Ad w v l->Ad w' v l):B9 w' g m f:=by
 have hlt:=h.lt;obtain⟨arr,h1,h2⟩:=h.row;refine⟨⟨arr,(hx.blk hlt hn).trans h1,h2⟩,fun i d hc=>h.noDig i d (by rw[<- hx.cell (p:=⟨g,i,none⟩) hlt hn];exact hc),fun i hi=>?_⟩;obtain⟨neg,a1,m1,c1,a2,m2,c2,e0,e1,e2,hq⟩:=h.cells i hi;exact⟨neg,a1,m1,c1,a2,m2,c2,(hx.cell (p:=⟨g,i*3,none⟩) hlt hn).trans e0,(hx.cell (p:=⟨g,i*3+1,none⟩) hlt hn).trans e1,(hx.cell (p:=⟨g,i*3+2,none⟩) hlt hn).trans e2,hq.past hr⟩
theorem B9.keep(h:B9 w g m f) (hx:XF w w'):B9 w' g m f:=h.past hx id (fun _ _ hr=>hr.keep hx)
theorem B9.put(h:B9 w g m f) {j:Nat} (hj:j<m) {neg:Bool} {a1 a2:Option Addr} {m1 c1 m2 c2:Nat} {q:Rat} (hq:AN w (.agg #[.bool neg,.slice a1 m1 c1,.slice a2 m2 c2]) q) :
  B9 (((w.setCell ⟨g,j*3,none⟩ (.bool neg)).setCell ⟨g,j*3+1,none⟩ (.slice a1 m1 c1)).setCell ⟨g,j*3+2,none⟩ (.slice a2 m2 c2)) g m (fun k=>if k=j then q else f k) /\
  AK (fun k=>k=g) w (((w.setCell ⟨g,j*3,none⟩ (.bool neg)).setCell ⟨g,j*3+1,none⟩ (.slice a1 m1 c1)).setCell ⟨g,j*3+2,none⟩ (.slice a2 m2 c2)) /\
  (∀v l,Ad w v l->Ad (((w.setCell ⟨g,j*3,none⟩ (.bool neg)).setCell ⟨g,j*3+1,none⟩ (.slice a1 m1 c1)).setCell ⟨g,j*3+2,none⟩ (.slice a2 m2 c2)) v l) /\
  H7 w (((w.setCell ⟨g,j*3,none⟩ (.bool neg)).setCell ⟨g,j*3+1,none⟩ (.slice a1 m1 c1)).setCell ⟨g,j*3+2,none⟩ (.slice a2 m2 c2)) g:=by
 have hx:AK (fun k=>k=g) w (((w.setCell ⟨g,j*3,none⟩ (.bool neg)).setCell ⟨g,j*3+1,none⟩ (.slice a1 m1 c1)).setCell ⟨g,j*3+2,none⟩ (.slice a2 m2 c2)):=(((AK.refl (fun k=>k=g) w).setCell (p:=⟨g,j*3,none⟩) _ (fun _=>rfl)).setCell (p:=⟨g,j*3+1,none⟩) _ (fun _=>rfl)).setCell (p:=⟨g,j*3+2,none⟩) _ (fun _=>rfl);have hr:∀v l,Ad w v l->Ad (((w.setCell ⟨g,j*3,none⟩ (.bool neg)).setCell ⟨g,j*3+1,none⟩ (.slice a1 m1 c1)).setCell ⟨g,j*3+2,none⟩ (.slice a2 m2 c2)) v l:=fun v l hv=>hv.past hx (fun k _ e=>by subst e;exact h.noDig);refine⟨⟨?_,fun i d hc=>?_,fun i hi=>?_⟩,hx,hr,fun arr T ha=>⟨_,AI (AI (AI ha _ (.bool neg)) _ (.slice a1 m1 c1)) _ (.slice a2 m2 c2),by simp⟩⟩
 ·obtain⟨arr,h1,h2⟩:=h.row;have k1:=AI h1 (j*3) (.bool neg);have k2:=AI k1 (j*3+1) (.slice a1 m1 c1);have k3:=AI k2 (j*3+2) (.slice a2 m2 c2);exact⟨_,k3,by simpa using h2⟩
 ·simp only[AJ?_setCell_if] at hc;split at hc
  ·cases hw:w.cell? ⟨g,i,none⟩<;>simp_all
  split at hc
  ·cases hw:w.cell? ⟨g,i,none⟩<;>simp_all
  split at hc
  ·cases hw:w.cell? ⟨g,i,none⟩<;>simp_all
  exact h.noDig i d hc
 obtain⟨n0,b1,l1,d1,b2,l2,d2,e0,e1,e2,hf⟩:=h.cells i hi;by_cases hij:i=j
 ·subst hij;rw[if_pos rfl];refine⟨neg,a1,m1,c1,a2,m2,c2,?_,?_,?_,hq.past hr⟩
  ·simp only[AJ?_setCell_if];rw[if_neg (by omega),if_neg (by omega),if_pos (by simp),e0];rfl
  ·simp only[AJ?_setCell_if];rw[if_neg (by omega),if_pos (by simp),if_neg (by omega),e1];rfl
  simp only[AJ?_setCell_if];rw[if_pos (by simp),if_neg (by omega),if_neg (by omega),e2];rfl
 rw[if_neg hij];refine⟨n0,b1,l1,d1,b2,l2,d2,?_,?_,?_,hf.past hr⟩
 ·simp only[AJ?_setCell_if];rw[if_neg (by omega),if_neg (by omega),if_neg (by omega),e0]
 ·simp only[AJ?_setCell_if];rw[if_neg (by omega),if_neg (by omega),if_neg (by omega),e1]
 simp only[AJ?_setCell_if];rw[if_neg (by omega),if_neg (by omega),if_neg (by omega),e2]
end
structure Bd(w w':World) (g m:Nat) (f:Nat->Rat):Prop where
 row:B9 w' g m f
 ext:AK (fun k=>k=g) w w'
 rds:∀v l,Ad w v l->Ad w' v l
 sz:H7 w w' g
theorem Bd.refl{w:World} {g m:Nat} {f:Nat->Rat} (h:B9 w g m f):Bd w w g m f:=⟨h,AK.refl _ _,fun _ _ h=>h,fun arr T ha=>⟨arr,ha,rfl⟩⟩
theorem Bd.next{w w1 w2:World} {g m:Nat} {f f':Nat->Rat} (h:Bd w w1 g m f) (hr:B9 w2 g m f') (hx:AK (fun k=>k=g) w1 w2) (hd:∀v l,Ad w1 v l->Ad w2 v l) (hz:H7 w1 w2 g):Bd w w2 g m f':=⟨hr,h.ext.trans hx,fun v l k=>hd v l (h.rds v l k),h.sz.trans hz⟩
theorem Bd.keep{w w1 w2:World} {g m:Nat} {f:Nat->Rat} (h:Bd w w1 g m f) (hx:XF w1 w2):Bd w w2 g m f:=h.next (h.row.keep hx) hx.none (fun _ _ hr=>hr.keep hx) (fun arr T ha=>⟨arr,AM ha hx,rfl⟩)
def KO(m:Nat) (ft ff:Nat->Rat) (kq:Rat) (but:Int) (i:Nat):Rat:=if i<m/\(i:Int)≠but then ft i-kq*ff i else ft i
theorem He(w:World) (gt gf nt ct m cf:Nat) (ft ff:Nat->Rat) (kv:Value) (kq:Rat) (but:Int) (L:Nat) (hto:B9 w gt nt ft) (hfrom:B9 w gf m ff) (hne:gf≠gt) (hm:m<=nt) (hnt:nt<=1000000)
  (hk:AN w kv kq) (hkz:Sz kq L) (hft:∀i,i<m->Sz (ft i) L) (hff:∀i,i<m->Sz (ff i) L) (h1:1<=L) (hL:L<=1000000) :
  Calls prog 218 #[.slice (some ⟨gt,0,none⟩) nt ct,.slice (some ⟨gf,0,none⟩) m cf,kv,.int .i64 but] w (fun r w'=>r=.returned (.tuple #[])/\Bd w w' gt nt (KO m ft ff kq but)):=by
 obtain⟨kn,ka,km,kc,ka2,km2,kc2,rfl⟩:=hk.shape;have hb:=AO (W:=w) rfl kn ka km kc ka2 km2 kc2;have hxa:=(AK.refl (fun _=>False) w).alloc (.cells #[.bool kn,.slice ka km kc,.slice ka2 km2 kc2] 34);have HSg:=bH (fun W u q (hu:AN W u q) (hz:Sz q L)=>Bt W u q L (hu.reads hz) (by omega));have HZ:=bH (bI hkz (bI hft hff));have HO:=bH (show Bd w (w.alloc (.cells #[.bool kn,.slice ka km kc,.slice ka2 km2 kc2] 34)) gt nt (fun i=>if i<0/\(i:Int)≠but then ft i-kq*ff i else ft i) from (Bd.refl (hto.congr (fun i _=>(if_neg (by omega)).symm))).keep hxa);have HFr:=bH (bI (hfrom.keep hxa) (bI hb (bI (hk.keep hxa) (show gt<w.heap.size from hto.lt))));clear hb hxa hto hfrom hk hkz hft hff;go_enter func218,ntmps218;go_upto_region 1 with fail;generalize w.alloc (.cells #[.bool kn,.slice ka km kc,.slice ka2 km2 kc2] 34)=w1 at *;obtain⟨kb,hkb⟩:=bN w.heap.size;have hkw:w.heap.size<=kb:=Nat.le_of_eq hkb;rw[hkb] at HFr ⊢;clear hkb;go_wp2_with fail;go_loopg [12,8,9] m (fun gg v12 v8 v9 wr=>∃j:Nat,j<=m/\gg=m-j/\v12=.int .i64 j/\Bd w wr gt nt (fun i=>if i<j/\(i:Int)≠but then ft i-kq*ff i else ft i)/\(B9 wr gf m ff/\Aj wr kb kn (.slice ka km kc) (.slice ka2 km2 kc2)/\AN wr (.agg #[.bool kn,.slice ka km kc,.slice ka2 km2 kc2]) kq));case atStart=>exact⟨0,Nat.zero_le _,rfl,rfl,HO.o,HFr.o.1,HFr.o.2.1,HFr.o.2.2.1⟩
 case round =>
  clear HO;obtain⟨i,hi,rfl,rfl,ho,hfr,hkb,hkq⟩:=hrel;have HS:=bH (bI ho (bI hfr (bI hkb hkq)));clear ho hfr hkb hkq;by_cases hin:i<m
  ·have i0:(i:Int)<(m:Int):=(by omega);have i1:(0:Int)<=(i:Int):=(by omega);have i2:(i:Int)<(nt:Int):=(by omega);obtain⟨n3,a3,l3,c3,a3',l3',c3',e0,e1,e2,hq3⟩:=HS.o.2.1.cells i hin;have hxa:=(AK.refl (fun _=>False) wr).alloc (.cells #[.bool n3,.slice a3 l3 c3,.slice a3' l3' c3'] 34);have hb3:=AO (W:=wr) rfl n3 a3 l3 c3 a3' l3' c3';have HSt:=bH (bI (HS.o.1.keep hxa) (bI (HS.o.2.1.keep hxa) (bI (HS.o.2.2.1.keep hxa) (bI (HS.o.2.2.2.keep hxa) (bI hb3 (hq3.keep hxa))))));have hgtr:gt<wr.heap.size:=HS.o.1.row.lt;have hkbr:kb<wr.heap.size:=HS.o.2.2.1.lt;clear hxa hb3 hq3 HS;go_upto_region 4 with fail;generalize wr.alloc (.cells #[.bool n3,.slice a3 l3 c3,.slice a3' l3' c3'] 34)=w3 at *;generalize wr.heap.size=ab at *;clear e0 e1 e2;by_cases hib:(i:Int)=but
   ·have HN:=bH (show Bd w w3 gt nt (fun k=>if k<i+1/\(k:Int)≠but then ft k-kq*ff k else ft k) from⟨HSt.o.1.row.congr (fun k _=>by
     by_cases hk:k=i
     ·subst hk;rw[if_neg (by omega),if_neg (by omega)]
     by_cases hk2:k<i/\(k:Int)≠but
     ·rw[if_pos hk2,if_pos ⟨by omega,hk2.2⟩]
     rw[if_neg hk2,if_neg (by omega)]),HSt.o.1.ext,HSt.o.1.rds,HSt.o.1.sz⟩)
    subst hib;have hnb:((i:Int) != (i:Int))=false:=(by simp);go_wp2;go_roundg (m-(i+1));case measure=>omega
    case rel=>exact⟨i+1,by omega,rfl,by go_num,HN.o,HSt.o.2.1,HSt.o.2.2.1,HSt.o.2.2.2.1⟩
   have hib1:((i:Int) == but)=false:=(by simpa using hib);have hib2:((i:Int) != but)=true:=(by simpa using hib);obtain⟨x0,x1,x2,-⟩:=HSt.o.2.2.2.2.1.facts;have HSg3:=bH (HSg.o w3 _ _ HSt.o.2.2.2.2.2 (HZ.o.2.2 i hin));go_wp2_with fail;refine HSg3.o.mono ?_;rintro r4 w4 ⟨rfl,hx4⟩;replace HSt:=bH (bI (HSt.o.1.keep hx4) (bI (HSt.o.2.1.keep hx4) (bI (HSt.o.2.2.1.keep hx4) (bI (HSt.o.2.2.2.1.keep hx4) (bI (HSt.o.2.2.2.2.1.keep hx4) (HSt.o.2.2.2.2.2.keep hx4))))));have Hsz:=bH (By (ff i));clear hx4 x0 x1 x2 HSg3;generalize (ff i).num.sign=sg at *;by_cases hsg:sg=0
   ·have hz:=Hsz.o.1 hsg;have HN:=bH (show Bd w w4 gt nt (fun k=>if k<i+1/\(k:Int)≠but then ft k-kq*ff k else ft k) from⟨HSt.o.1.row.congr (fun k _=>by
     by_cases hk:k=i
     ·subst hk;rw[if_neg (by omega),if_pos ⟨by omega,hib⟩,hz];grind
     by_cases hk2:k<i/\(k:Int)≠but
     ·rw[if_pos hk2,if_pos ⟨by omega,hk2.2⟩]
     rw[if_neg hk2,if_neg (by omega)]),HSt.o.1.ext,HSt.o.1.rds,HSt.o.1.sz⟩)
    subst hsg;clear hz;go_wp2;go_roundg (m-(i+1));case measure=>omega
    case rel=>exact⟨i+1,by omega,rfl,by go_num,HN.o,HSt.o.2.1,HSt.o.2.2.1,HSt.o.2.2.2.1⟩
   have hs1:(sg == 0)=false:=(by simpa using hsg);have hs2:(sg != 0)=true:=(by simpa using hsg);obtain⟨x0,x1,x2,-⟩:=HSt.o.2.2.2.2.1.facts;obtain⟨y0,y1,y2,-⟩:=HSt.o.2.2.1.facts;obtain⟨on,oa,ol,oc,oa2,ol2,oc2,o0,o1,o2,hoq⟩:=HSt.o.1.row.cells i (by omega);rw[if_neg (by omega)] at hoq;have hpz:=HZ.o.1.mul (HZ.o.2.2 i hin);have HM:=bH (fun W (hW:XF w4 W)=>DW W _ _ kq (ff i) L ((HSt.o.2.2.2.1.keep hW).reads HZ.o.1) ((HSt.o.2.2.2.2.2.keep hW).reads (HZ.o.2.2 i hin)) h1 (by omega));have HSb:=bH (fun W u (hW:XF w4 W) (hu:AN W u (kq*ff i))=>Fh W _ u (ft i) _ (L+L) ((hoq.keep hW).reads ((HZ.o.2.1 i hin).mono (by omega))) (hu.reads hpz) (by omega) (by omega));have HI:=bH (bI hin hib);clear hoq hpz;go_upto_region 5 with fail;replace x0:=cq x0;replace x1:=cq x1;replace x2:=cq x2;replace y0:=cq y0;replace y1:=cq y1;replace y2:=cq y2;replace o0:=cq o0;replace o1:=cq o1;replace o2:=cq o2;have HE:=bH (show ∀k,(if k=i then ft i-kq*ff i else if k<i/\(k:Int)≠but then ft k-kq*ff k else ft k)=(if k<i+1/\(k:Int)≠but then ft k-kq*ff k else ft k) from fun k=>by
    by_cases hk:k=i
    ·subst hk;rw[if_pos rfl,if_pos ⟨by omega,hib⟩]
    rw[if_neg hk];by_cases hk2:k<i/\(k:Int)≠but
    ·rw[if_pos hk2,if_pos ⟨by omega,hk2.2⟩]
    rw[if_neg hk2,if_neg (by omega)])
   refine A4 11 (XF w4) (by kernel_rfl) ((AK.refl _ w4).drew) (fun hHeld=>?_);refine et 0 (h:=(et 1 (h:=(et 2 (h:=(et 3 (h:=(et 4 (h:=(et 5 (h:=(et 6 (h:=(et 7 (h:=?_)))))))))))))));(try go_frame);refine GY 8 (h:=fun K hK=>?_);(go_simp;go_at_call 179;(with_reducible refine (HM.o _ hHeld).mono ?_);rintro q1 w11 ⟨v11,rfl,h11,hx11⟩;have hX1:=hHeld.trans hx11;have hT:=HSb.o w11 _ hX1 h11;obtain⟨n11,a11,l11,c11,a11',l11',c11',rfl⟩:=h11.shape);refine hK.o _ _ (hX1) (fun hHeld=>?_);clear hK K;(try go_frame);refine GY 9 (h:=fun K hK=>?_);(go_simp;go_at_call 161;(with_reducible refine hT.mono ?_);rintro q2 w12 ⟨v12,rfl,h12,hx12⟩;have hX2:=hX1.trans hx12;obtain⟨n12,a12,l12,c12,a12',l12',c12',rfl⟩:=h12.shape);refine hK.o _ _ (hX2) (fun hHeld=>?_);clear hK K;(try go_frame);refine et 10 (h:=?_);(try go_frame);have HT2:=bH (HSt.o.1.row.keep hX2);have fz0:=HT2.o.free (i*3);have fz1:=HT2.o.free (i*3+1);have fz2:=HT2.o.free (i*3+2);have t0:=o0 _ hX2;have t1:=o1 _ hX2;have t2:=o2 _ hX2;refine BJ rfl (by kernel_rfl) (fun K hK=>?_);go_simp;refine hK.o _ _ ?_;clear hK K;(try go_frame);refine BL (by kernel_rfl) ?_ _;obtain⟨p1,p2,p3,p4⟩:=HT2.o.put (show i<nt by omega) h12;have HN:=bH (bI ((HSt.o.1.keep hX2).next (p1.congr (fun k _=>HE.o k)) p2 p3 p4) (bI ((HSt.o.2.1.keep hX2).past p2 hne p3) (bI ((HSt.o.2.2.1.keep hX2).ext p2 (fun e=>by have e':kb=gt:=e;have:=HFr.o.2.2.2;omega)) ((HSt.o.2.2.2.1.keep hX2).past p3))));clear p1 p2 p3 p4 HT2 fz0 fz1 fz2 t0 t1 t2 x0 x1 x2 y0 y1 y2 o0 o1 o2 h11 h12 hx11 hx12 hX1 hX2 hT hHeld HM HSb HE;generalize ((w12.setCell ⟨gt,i*3,none⟩ (.bool n12)).setCell ⟨gt,i*3+1,none⟩ (.slice a12 l12 c12)).setCell ⟨gt,i*3+2,none⟩ (.slice a12' l12' c12')=w9 at *;go_wp2;go_roundg (m-(i+1));case measure=>omega
   case rel=>exact⟨i+1,by omega,rfl,by go_num,HN.o⟩
  obtain rfl:i=m:=(by omega);have HN:=bH (show Bd w wr gt nt (KO i ft ff kq but) from HS.o.1);go_wp2;exact bodyPost_end (v:=.tuple #[]) (by simp[results,results218,go_sem]) rfl ⟨rfl,HN.o⟩
theorem Kr(w:World) (k:Int):Calls prog 154 #[.int .i64 k] w (Aw w 0):=by
 have hb:=AO (W:=w) rfl false none 0 0 none 0 0;have hx:=(AK.refl (fun _=>False) w).alloc (.cells #[.bool false,.slice none 0 0,.slice none 0 0] 34);have hp:=hb.put (neg:=false) (AF none 0 0) (AF none 0 0);obtain⟨d0,d1,d2,d3,d4,d5⟩:=hb.facts;have HR:=bH (bI hp.box (hx.own hp.ext (fun k e=>by omega)));clear hb hx hp;go_enter func154,ntmps154;go_upto_region 1 with fail;generalize w.alloc (.cells #[.bool false,.slice none 0 0,.slice none 0 0] 34)=w1 at *;generalize w.heap.size=r at *;go_wp2;generalize ((w1.setCell ⟨r,0,none⟩ (.bool false)).setCell ⟨r,1,none⟩ (.slice none 0 0)).setCell ⟨r,2,none⟩ (.slice none 0 0)=w9 at *;obtain⟨g0,g1,g2,_⟩:=HR.o.1.facts;exact bodyPost_ret (v:=.agg #[.bool false,.slice none 0 0,.slice none 0 0]) (by simp[results,results154,go_sem,g0,g1,g2]) rfl ⟨_,rfl,AN.zero _,HR.o.2⟩
def Mz(w:World) (v:Value) (m:Nat) (b:Nat->Nat):Prop:=∃ao c,v=.slice ao m c/\m<=9223372036854775807/\∀i,i<m->∃g off,ao=some ⟨g,off,none⟩/\w.cell? ⟨g,off+i,none⟩=some (.int .i64 (b i))
theorem Mz.keep{w w':World} {v:Value} {m:Nat} {b:Nat->Nat} (h:Mz w v m b) (hx:XF w w'):Mz w' v m b:=by
 obtain⟨ao,c,e,h1,h2⟩:=h;refine⟨ao,c,e,h1,fun i hi=>?_⟩;obtain⟨g,off,e2,h3⟩:=h2 i hi;exact⟨g,off,e2,AB h3 hx⟩
def Ku(key:Nat->Rat) (b:Nat->Nat) (k:Nat):Option Nat->Option Nat
 | none=>some k
 | some j=>if (key k-key j).num.sign<0∨((key k-key j).num.sign=0/\b k<b j) then some k else some j
def Bb(acc:Nat->Bool) (key:Nat->Rat) (b:Nat->Nat):Nat->Option Nat
 | 0=>none
 | k+1=>if acc k then Ku key b k (Bb acc key b k) else Bb acc key b k
theorem CO{acc:Nat->Bool} {key:Nat->Rat} {b:Nat->Nat}:∀{k j:Nat},Bb acc key b k=some j->j<k/\acc j=true
 | 0,j,h=>by cases h
 | k+1,j,h=>by
  unfold Bb at h;split at h
  ·rename_i ha;cases hi:Bb acc key b k with
   | none =>
    rw[hi] at h;cases h;exact⟨by omega,ha⟩
   | some i =>
    rw[hi] at h;unfold Ku at h;simp only at h;split at h
    ·cases h;exact⟨by omega,ha⟩
    cases h;have:=CO hi;exact⟨by omega,this.2⟩
  have:=CO h;exact⟨by omega,this.2⟩
def DG:Option Nat->Int
 | none=>-1
 | some j=>j
theorem FU(w:World) (v:Value) (m:Nat) (b:Nat->Nat) (F1 F2:Nat) (caps1 caps2:Array Value) (acc:Nat->Bool) (key:Nat->Rat) (L:Nat) (hv:Mz w v m b) (hm:m<=1000000)
  (eg1:∀args W,(callFunc F1 args).run prog W=.ok (.enter F1 args) W) (eg2:∀args W,(callFunc F2 args).run prog W=.ok (.enter F2 args) W)
  (H1:∀W,XF w W->∀k:Nat,k<m->Calls prog F1 (#[.int .i64 k]++caps1) W (Ak W (acc k)))
  (H2:∀W,XF w W->∀k:Nat,k<m->acc k=true->Calls prog F2 (#[.int .i64 k]++caps2) W (Aw W (key k)))
  (hz:∀k,k<m->acc k=true->Sz (key k) L) (h1:1<=L) (hL:L<=4194304) :
  Calls prog 152 #[v,.func (.func F1) #[] caps1,.func (.func F2) #[] caps2] w (fun r w'=>r=.returned (.int .i64 (DG (Bb acc key b m)))/\XF w w'):=by
 have HV:=bH hv;obtain⟨ao,c,rfl,-,-⟩:=hv;have HH1:=bH H1;have HH2:=bH H2;have HZ:=bH hz;have HC:=bH (fun W u u' q q' (hu:AN W u q) (hq:Sz q L) (hu':AN W u' q') (hq':Sz q' L)=>SS W u u' q q' L (hu.reads hq) (hu'.reads hq') h1 hL);clear H1 H2 hz;have hb:=AO (W:=w) rfl false none 0 0 none 0 0;have HB:=bH (bI hb ((AK.refl (fun _=>False) w).alloc (.cells #[.bool false,.slice none 0 0,.slice none 0 0] 34)));clear hb;go_enter func152,ntmps152;go_upto_region 3 with fail;generalize w.alloc (.cells #[.bool false,.slice none 0 0,.slice none 0 0] 34)=w1 at *;obtain⟨vb,hvb⟩:=bN w.heap.size;have hvw:w.heap.size<=vb:=Nat.le_of_eq hvb;rw[hvb] at HB ⊢;clear hvb;go_wp2_with fail;go_loopg [15,9,10,7,11,12] m (fun gg v15 v9 v10 v7 v11 v12 wr=>∃(i:Nat) (bt:Option Nat),i<=m/\gg=m-i/\v15=.int .i64 i/\v7=.int .i64 (DG bt)/\Bb acc key b i=bt/\(∃q sn s1 sm1 sc1 s2 sm2 sc2,Aj wr vb sn (.slice s1 sm1 sc1) (.slice s2 sm2 sc2)/\AN wr (.agg #[.bool sn,.slice s1 sm1 sc1,.slice s2 sm2 sc2]) q/\(∀j,bt=some j->q=key j))/\XF w wr);case atStart=>exact⟨0,none,Nat.zero_le _,rfl,rfl,rfl,rfl,⟨0,_,_,_,_,_,_,_,HB.o.1,AN.zero _,fun j h=>by cases h⟩,HB.o.2⟩
 case round =>
  obtain⟨i,bt,hi,rfl,rfl,rfl,hbt,hbox,hx⟩:=hrel;have HX:=bH (bI hbt (bI hbox hx));clear hbt hbox hx HB;by_cases hin:i<m
  ·have i0:(i:Int)<(m:Int):=(by omega);have i1:(0:Int)<=(i:Int):=(by omega);obtain⟨_,_,e,-,hcs⟩:=HV.o.keep HX.o.2.2;cases e;obtain⟨g,off,rfl,e0⟩:=hcs i hin;have HCs:=bH hcs;have HK:=bH (HH1.o wr HX.o.2.2 i hin);clear hcs;have HS:=bH (show Bb acc key b (i+1)=if acc i then Ku key b i bt else bt from by rw[<- HX.o.1];rfl);go_wp2_with fail;refine HK.o.mono ?_;rintro r2 w2 ⟨rfl,hx2⟩;have HX2:=bH (HX.o.2.2.trans hx2);obtain⟨q,sn,s1,sm1,sc1,s2,sm2,sc2,hbx,hq,hqk⟩:=HX.o.2.1;have HBx:=bH (bI (hbx.keep hx2) (bI (hq.keep hx2) hqk));have E0:=bH (fun j (hj:j<m)=>(by
    obtain⟨g',off',e',h'⟩:=HCs.o j hj;cases e';exact AB h' hx2:w2.cell? ⟨g,off+j,none⟩=some (.int .i64 (b j))))
   have HBl:=bH (fun j=>(CO (acc:=acc) (key:=key) (b:=b) (k:=i) (j:=j)));rw[HX.o.1] at HBl;clear hx2 hbx hq hqk HK e0;obtain⟨ai,hai⟩:=bN (acc i);have HAi:=bH hai;rw[hai];rw[hai] at HS;clear hai;cases ai with
   | false =>
    go_wp2;go_roundg (m-(i+1));case measure=>omega
    case rel=>exact⟨i+1,bt,by omega,rfl,by go_num,rfl,HS.o,⟨q,sn,s1,sm1,sc1,s2,sm2,sc2,HBx.o⟩,HX2.o⟩
   | true =>
   have HK2:=bH (HH2.o w2 HX2.o i hin HAi.o);have HZi:=bH (HZ.o i hin HAi.o);go_wp2_with fail;refine HK2.o.mono ?_;rintro r3 w3 ⟨v3,rfl,h3,hx3⟩;obtain⟨n3,a3,l3,c3,a3',l3',c3',rfl⟩:=h3.shape;have hxa:=(AK.refl (fun _=>False) w3).alloc (.cells #[.bool n3,.slice a3 l3 c3,.slice a3' l3' c3'] 34);have hx4:=hx3.trans hxa;have HB4:=bH (bI (HBx.o.1.keep hx4) (bI (HBx.o.2.1.keep hx4) (bI (AO (W:=w3) rfl n3 a3 l3 c3 a3' l3' c3') (bI (h3.keep hxa) (HX2.o.trans hx4)))));have E4:=bH (fun j hj=>AB (E0.o j hj) hx4);have HQk:=bH HBx.o.2.2;have hvb3:vb<w3.heap.size:=(by have:=(HBx.o.1.keep hx3).lt;exact this);clear h3 hx3 hxa hx4 HK2 HBx E0;go_upto_region 8 with fail;generalize w3.alloc (.cells #[.bool n3,.slice a3 l3 c3,.slice a3' l3' c3'] 34)=w4 at *;generalize w3.heap.size=xb at *;cases bt with
   | none =>
    have hopt:DG none = -1:=rfl;have hop2:¬(0:Int)≤-1:=(by decide);rw[hopt];have hbr:=HB4.o.1;obtain⟨d0,d1,d2,d3,d4,d5⟩:=hbr.facts;obtain⟨x0,x1,x2,-⟩:=HB4.o.2.2.1.facts;have hp:=hbr.put (neg:=n3) (AF a3 l3 c3) (AF a3' l3' c3');have hdr:=(AK.refl (fun _=>False) (((w4.setCell ⟨vb,0,none⟩ (.bool n3)).setCell ⟨vb,1,none⟩ (.slice a3 l3 c3)).setCell ⟨vb,2,none⟩ (.slice a3' l3' c3'))).drew;have HR:=bH (bI (hp.box.keep hdr) (bI ((hp.rat HB4.o.2.2.2.1).keep hdr) ((HB4.o.2.2.2.2.own hp.ext (fun k e=>by omega)).drew)));clear hp hbr hdr;go_upto_region 12 with fail;go_region;go_upto_region 13 with fail;generalize (((w4.setCell ⟨vb,0,none⟩ (.bool n3)).setCell ⟨vb,1,none⟩ (.slice a3 l3 c3)).setCell ⟨vb,2,none⟩ (.slice a3' l3' c3')).drew=w9 at *;go_wp2;go_roundg (m-(i+1));case measure=>omega
    case rel=>exact⟨i+1,some i,by omega,rfl,by go_num,rfl,(by rw[HS.o];rfl),⟨key i,_,_,_,_,_,_,_,HR.o.1,HR.o.2.1,fun j h=>by cases h;rfl⟩,HR.o.2.2⟩
   | some j =>
    have hopt:DG (some j)=(j:Int):=rfl;rw[hopt];have hj:=HBl.o j rfl;have hjm:j<m:=(by omega);have j0:(0:Int)<=(j:Int):=(by omega);have j1:(j:Int)<(m:Int):=(by omega);have hqj:=HQk.o j rfl;subst hqj;have HCq:=bH (HC.o w4 _ _ _ _ HB4.o.2.2.2.1 HZi.o HB4.o.2.1 (HZ.o j hjm hj.2));obtain⟨d0,d1,d2,-⟩:=HB4.o.1.facts;obtain⟨x0,x1,x2,-⟩:=HB4.o.2.2.1.facts;have HP:=bH (show Ku key b i (some j)=if (key i-key j).num.sign<0∨((key i-key j).num.sign=0/\b i<b j) then some i else some j from rfl);clear hj hopt;go_wp2_with fail;refine HCq.o.mono ?_;rintro r5 w5 ⟨rfl,hx5⟩;have HB5:=bH (bI (HB4.o.1.keep hx5) (bI (HB4.o.2.1.keep hx5) (bI (HB4.o.2.2.1.keep hx5) (bI (HB4.o.2.2.2.1.keep hx5) (HB4.o.2.2.2.2.trans hx5)))));have e1:=AB (E4.o j hjm) hx5;have HJ:=bH hjm;clear hx5 HCq HB4 d0 d1 d2 x0 x1 x2;obtain⟨sg,hsg⟩:=bN ((key i-key j).num.sign);rw[hsg] at HP ⊢;clear hsg;by_cases hs:sg<0
    ·have HE:=bH (show Bb acc key b (i+1)=some i from by rw[HS.o,if_pos trivial,HP.o,if_pos (Or.inl hs)]);have hbr:=HB5.o.1;obtain⟨d0,d1,d2,d3,d4,d5⟩:=hbr.facts;obtain⟨x0,x1,x2,-⟩:=HB5.o.2.2.1.facts;have hp:=hbr.put (neg:=n3) (AF a3 l3 c3) (AF a3' l3' c3');have hdr:=(AK.refl (fun _=>False) (((w5.setCell ⟨vb,0,none⟩ (.bool n3)).setCell ⟨vb,1,none⟩ (.slice a3 l3 c3)).setCell ⟨vb,2,none⟩ (.slice a3' l3' c3'))).drew;have HR:=bH (bI (hp.box.keep hdr) (bI ((hp.rat HB5.o.2.2.2.1).keep hdr) ((HB5.o.2.2.2.2.own hp.ext (fun k e=>by omega)).drew)));clear hp hbr hdr;go_upto_region 12 with fail;go_region;go_upto_region 13 with fail;generalize (((w5.setCell ⟨vb,0,none⟩ (.bool n3)).setCell ⟨vb,1,none⟩ (.slice a3 l3 c3)).setCell ⟨vb,2,none⟩ (.slice a3' l3' c3')).drew=w9 at *;go_wp2;go_roundg (m-(i+1));case measure=>omega
     case rel=>exact⟨i+1,some i,by omega,rfl,by go_num,rfl,HE.o,⟨key i,_,_,_,_,_,_,_,HR.o.1,HR.o.2.1,fun j h=>by cases h;rfl⟩,HR.o.2.2⟩
    by_cases hs0:sg=0
    ·subst hs0;by_cases hb:b i<b j
     ·have hbi:(b i:Int)<(b j:Int):=(by omega);have HE:=bH (show Bb acc key b (i+1)=some i from by rw[HS.o,if_pos trivial,HP.o,if_pos (Or.inr ⟨rfl,hb⟩)]);have hbr:=HB5.o.1;obtain⟨d0,d1,d2,d3,d4,d5⟩:=hbr.facts;obtain⟨x0,x1,x2,-⟩:=HB5.o.2.2.1.facts;have hp:=hbr.put (neg:=n3) (AF a3 l3 c3) (AF a3' l3' c3');have hdr:=(AK.refl (fun _=>False) (((w5.setCell ⟨vb,0,none⟩ (.bool n3)).setCell ⟨vb,1,none⟩ (.slice a3 l3 c3)).setCell ⟨vb,2,none⟩ (.slice a3' l3' c3'))).drew;have HR:=bH (bI (hp.box.keep hdr) (bI ((hp.rat HB5.o.2.2.2.1).keep hdr) ((HB5.o.2.2.2.2.own hp.ext (fun k e=>by omega)).drew)));clear hp hbr hdr;go_upto_region 12 with fail;go_region;go_upto_region 13 with fail;generalize (((w5.setCell ⟨vb,0,none⟩ (.bool n3)).setCell ⟨vb,1,none⟩ (.slice a3 l3 c3)).setCell ⟨vb,2,none⟩ (.slice a3' l3' c3')).drew=w9 at *;go_wp2;go_roundg (m-(i+1));case measure=>omega
      case rel=>exact⟨i+1,some i,by omega,rfl,by go_num,rfl,HE.o,⟨key i,_,_,_,_,_,_,_,HR.o.1,HR.o.2.1,fun j h=>by cases h;rfl⟩,HR.o.2.2⟩
     have hbi:¬(b i:Int)<(b j:Int):=(by omega);have HE:=bH (show Bb acc key b (i+1)=some j from by rw[HS.o,if_pos trivial,HP.o,if_neg (by omega)]);go_wp2;go_roundg (m-(i+1));case measure=>omega
     case rel=>exact⟨i+1,some j,by omega,rfl,by go_num,rfl,HE.o,⟨key j,_,_,_,_,_,_,_,HB5.o.1,HB5.o.2.1,fun j h=>by cases h;rfl⟩,HB5.o.2.2.2.2⟩
    have hs1:(sg == 0)=false:=(by simpa using hs0);have HE:=bH (show Bb acc key b (i+1)=some j from by rw[HS.o,if_pos trivial,HP.o,if_neg (by omega)]);go_wp2;go_roundg (m-(i+1));case measure=>omega
    case rel=>exact⟨i+1,some j,by omega,rfl,by go_num,rfl,HE.o,⟨key j,_,_,_,_,_,_,_,HB5.o.1,HB5.o.2.1,fun j h=>by cases h;rfl⟩,HB5.o.2.2.2.2⟩
  obtain rfl:i=m:=(by omega);go_wp2;go_ret;exact⟨by rw[HX.o.1];rfl,HX.o.2.2⟩
structure Bh where
 pv:Value
 pr:Value
 u:Value
 mp:Value
 ba:Value
 fr:Value
 be:Value
 al:Value
 d:Value
 l:Value
 rb:Nat->Nat
structure AX where
 n:Nat
 m:Nat
 ba:Nat->Nat
 fr:Nat->Nat
 be:Nat->Rat
 d:Nat->Rat
 al:Nat->Nat->Rat
def BQ(w:World) (base:Nat) (v:Value) (m:Nat) (b:Nat->Nat):Prop :=
 (v=.slice none 0 0/\m=0)∨∃g cap arr,v=.slice (some ⟨g,0,none⟩) m cap/\base<=g/\m<=cap/\cap<=maxLen/\Au w g=some (.cells arr 3 (0,0))/\arr.size=cap/\BN w g/\∀i,i<m->arr[i]?=some (.int .i64 (b i))
def Ck(w:World) (base:Nat) (v:Value) (m:Nat) (f:Nat->Value):Prop :=
 (v=.slice none 0 0/\m=0)∨∃g cap arr,v=.slice (some ⟨g,0,none⟩) m cap/\base<=g/\m<=cap/\cap<=maxLen/\Au w g=some (.cells arr 35 (0,0))/\arr.size=cap/\∀i,i<m->arr[i]?=some (f i)
def A8(w:World) (base:Nat) (v:Value) (m:Nat) (f:Nat->Rat):Prop :=
 (v=.slice none 0 0/\m=0)∨∃g cap,v=.slice (some ⟨g,0,none⟩) m cap/\base<=g/\m<=cap/\cap<=maxLen/\B9 w g m f/\∃arr,Au w g=some (.cells arr 34 (0,0))/\arr.size=cap*3
section
variable {w w':World} {base:Nat} {v:Value} {m:Nat}
theorem BQ.past{S:Nat->Prop} {b:Nat->Nat} (h:BQ w base v m b) (hx:AK S w w') (hn:∀g,v.ownBlock=some g->¬S g):BQ w' base v m b:=by
 rcases h with h|⟨g,cap,arr,rfl,h1,h2,h3,h4,h5,h6,h7⟩
 ·exact .inl h
 exact .inr ⟨g,cap,arr,rfl,h1,h2,h3,(hx.blk (AT h4) (hn g rfl)).trans h4,h5,fun i d hc=>h6 i d (by rw[<- hx.cell (p:=⟨g,i,none⟩) (AT h4) (hn g rfl)];exact hc),h7⟩
theorem Ck.past{S:Nat->Prop} {f:Nat->Value} (h:Ck w base v m f) (hx:AK S w w') (hn:∀g,v.ownBlock=some g->¬S g):Ck w' base v m f:=by
 rcases h with h|⟨g,cap,arr,rfl,h1,h2,h3,h4,h5⟩
 ·exact .inl h
 exact .inr ⟨g,cap,arr,rfl,h1,h2,h3,(hx.blk (AT h4) (hn g rfl)).trans h4,h5⟩
theorem A8.past{S:Nat->Prop} {f:Nat->Rat} (h:A8 w base v m f) (hx:AK S w w') (hn:∀g,v.ownBlock=some g->¬S g) (hr:∀u l,Ad w u l->Ad w' u l):A8 w' base v m f:=by
 rcases h with h|⟨g,cap,rfl,h1,h2,h3,h4,arr,h5,h6⟩
 ·exact .inl h
 exact .inr ⟨g,cap,rfl,h1,h2,h3,h4.past hx (hn g rfl) hr,arr,(hx.blk (AT h5) (hn g rfl)).trans h5,h6⟩
theorem BQ.typ{b:Nat->Nat} (h:BQ w base v m b):∀g,v.ownBlock=some g->∃arr,Au w g=some (.cells arr 3 (0,0)):=fun g hg=>by
 rcases h with⟨rfl,_⟩|⟨g',cap,arr,rfl,h1,h2,h3,h4,h5⟩
 ·cases hg
 cases hg;exact⟨arr,h4⟩
theorem Ck.typ{f:Nat->Value} (h:Ck w base v m f):∀g,v.ownBlock=some g->∃arr,Au w g=some (.cells arr 35 (0,0)):=fun g hg=>by
 rcases h with⟨rfl,_⟩|⟨g',cap,arr,rfl,h1,h2,h3,h4,h5⟩
 ·cases hg
 cases hg;exact⟨arr,h4⟩
theorem A8.typ{f:Nat->Rat} (h:A8 w base v m f):∀g,v.ownBlock=some g->∃arr,Au w g=some (.cells arr 34 (0,0)):=fun g hg=>by
 rcases h with⟨rfl,_⟩|⟨g',cap,rfl,h1,h2,h3,h4,arr,h5,h6⟩
 ·cases hg
 cases hg;exact⟨arr,h5⟩
theorem BQ.low{b:Nat->Nat} (h:BQ w base v m b):∀g,v.ownBlock=some g->base<=g:=fun g hg=>by
 rcases h with⟨rfl,_⟩|⟨g',cap,arr,rfl,h1,h2,h3,h4,h5⟩
 ·cases hg
 cases hg;exact h1
theorem A8.low{f:Nat->Rat} (h:A8 w base v m f):∀g,v.ownBlock=some g->base<=g:=fun g hg=>by
 rcases h with⟨rfl,_⟩|⟨g',cap,rfl,h1,_⟩
 ·cases hg
 cases hg;exact h1
theorem ES{g g':Nat} {a b:Array Value} {T U:TypeId} (h:Au w g=some (.cells a T (0,0))) (h':Au w g'=some (.cells b U (0,0))) (hn:T≠U):g≠g':=fun e=>by
 rw[e,h'] at h;injection h with h;injection h with _ h2 _;exact hn h2.symm
end
theorem BQ.nrow{w:World} {base m:Nat} {v:Value} {b:Nat->Nat} (h:BQ w base v m b) (hm:m<=1000000):Mz w v m b:=by
 rcases h with⟨rfl,rfl⟩|⟨g,cap,arr,rfl,_,_,_,h3,_,_,h5⟩
 ·exact⟨none,0,rfl,Nat.zero_le _,fun i hi=>absurd hi (Nat.not_lt_zero i)⟩
 exact⟨_,cap,rfl,by omega,fun i hi=>⟨g,0,rfl,by rw[Nat.zero_add];exact (AS h3 i).trans (h5 i hi)⟩⟩
structure BG(w:World) (base tb:Nat) (V:Bh) (T:AX):Prop where
 box:Au w tb=some (.cells #[V.pv,V.pr,V.u,V.mp,V.ba,V.fr,V.be,V.al,V.d,V.l] 122 (0,0))
 ba:BQ w base V.ba T.m T.ba
 fr:BQ w base V.fr T.n T.fr
 be:A8 w base V.be T.m T.be
 d:A8 w base V.d T.n T.d
 al:Ck w base V.al T.m (fun i=>.slice (some ⟨V.rb i,0,none⟩) T.n T.n)
 rows:∀i,i<T.m->B9 w (V.rb i) T.n (T.al i)/\base<=V.rb i
 rr:∀i j,i<T.m->j<T.m->i≠j->V.rb i≠V.rb j
 rbe:∀i,i<T.m->V.be.ownBlock≠some (V.rb i)
 rd:∀i,i<T.m->V.d.ownBlock≠some (V.rb i)
 bed:∀g,V.be.ownBlock=some g->V.d.ownBlock≠some g
 bf:∀g,V.ba.ownBlock=some g->V.fr.ownBlock≠some g
 small:T.n<=1000/\T.m<=1000
section
variable {w w':World} {base tb:Nat} {V:Bh} {T:AX}
theorem BG.keep(h:BG w base tb V T) (hx:XF w w'):BG w' base tb V T :=
 have hr:∀u l,Ad w u l->Ad w' u l:=fun _ _ hr=>hr.keep hx
 ⟨AM h.box hx,h.ba.past hx (fun _ _=>id),h.fr.past hx (fun _ _=>id),h.be.past hx (fun _ _=>id) hr,h.d.past hx (fun _ _=>id) hr,h.al.past hx (fun _ _=>id),fun i hi=>⟨(h.rows i hi).1.keep hx,(h.rows i hi).2⟩,h.rr,h.rbe,h.rd,h.bed,h.bf,h.small⟩
theorem BG.rat(h:BG w base tb V T) {g:Nat} {a:Array Value} (hg:Au w g=some (.cells a 34 (0,0))) (hx:AK (fun k=>k=g) w w') (hr:∀u l,Ad w u l->Ad w' u l) :
  Au w' tb=some (.cells #[V.pv,V.pr,V.u,V.mp,V.ba,V.fr,V.be,V.al,V.d,V.l] 122 (0,0))/\BQ w' base V.ba T.m T.ba/\BQ w' base V.fr T.n T.fr/\Ck w' base V.al T.m (fun i=>.slice (some ⟨V.rb i,0,none⟩) T.n T.n) /\
  (V.be.ownBlock≠some g->A8 w' base V.be T.m T.be)/\(V.d.ownBlock≠some g->A8 w' base V.d T.n T.d)/\∀i,i<T.m->V.rb i≠g->B9 w' (V.rb i) T.n (T.al i):=by
 refine⟨(hx.blk (AT h.box) (ES h.box hg (by decide))).trans h.box,h.ba.past hx (fun g' hg'=>?_),h.fr.past hx (fun g' hg'=>?_),h.al.past hx (fun g' hg'=>?_),fun hn=>h.be.past hx (fun g' hg' e=>hn (by rw[hg',show g'=g from e])) hr,fun hn=>h.d.past hx (fun g' hg' e=>hn (by rw[hg',show g'=g from e])) hr,fun i hi hn=>(h.rows i hi).1.past hx hn hr⟩
 ·obtain⟨arr,h1⟩:=h.ba.typ g' hg';exact ES h1 hg (by decide)
 ·obtain⟨arr,h1⟩:=h.fr.typ g' hg';exact ES h1 hg (by decide)
 obtain⟨arr,h1⟩:=h.al.typ g' hg';exact ES h1 hg (by decide)
theorem BG.setRow(h:BG w base tb V T) {k:Nat} (hk:k<T.m) {f:Nat->Rat} (ho:Bd w w' (V.rb k) T.n f):BG w' base tb V { T with al:=fun i=>if i=k then f else T.al i }:=by
 obtain⟨arr,ha,_⟩:=(h.rows k hk).1.row;obtain⟨g1,g2,g3,g4,g5,g6,g7⟩:=h.rat ha ho.ext ho.rds;refine⟨g1,g2,g3,g5 (h.rbe k hk),g6 (h.rd k hk),g4,fun i hi=>⟨?_,(h.rows i hi).2⟩,h.rr,h.rbe,h.rd,h.bed,h.bf,h.small⟩;show B9 w' (V.rb i) T.n (if i=k then f else T.al i);by_cases e:i=k
 ·subst e;rw[if_pos rfl];exact ho.row
 rw[if_neg e];exact g7 i hi (h.rr i k hi hk e)
theorem Bd.at{g m cap:Nat} {f f':Nat->Rat} (ho:Bd w w' g m f') (h:A8 w base (.slice (some ⟨g,0,none⟩) m cap) m f):A8 w' base (.slice (some ⟨g,0,none⟩) m cap) m f':=by
 rcases h with⟨e,_⟩|⟨g',cap',e,h1,h2,h3,h4,arr,h5,h6⟩
 ·cases e
 cases e;obtain⟨arr',h7,h8⟩:=ho.sz arr _ h5;exact .inr ⟨g,cap,rfl,h1,h2,h3,ho.row,arr',h7,h8.trans h6⟩
theorem BG.setBe(h:BG w base tb V T) {g cap:Nat} (hv:V.be=.slice (some ⟨g,0,none⟩) T.m cap) {f:Nat->Rat} (ho:Bd w w' g T.m f):BG w' base tb V { T with be:=f }:=by
 have hob:V.be.ownBlock=some g:=by rw[hv];rfl
 obtain⟨arr,ha⟩:=h.be.typ g hob;obtain⟨g1,g2,g3,g4,g5,g6,g7⟩:=h.rat ha ho.ext ho.rds;refine⟨g1,g2,g3,?_,g6 (h.bed g hob),g4,fun i hi=>⟨g7 i hi (fun e=>h.rbe i hi (by rw[hob,e])),(h.rows i hi).2⟩,h.rr,h.rbe,h.rd,h.bed,h.bf,h.small⟩;have h2:=h.be;show A8 w' base V.be T.m f;rw[hv] at h2 ⊢;exact ho.at h2
theorem BG.setD(h:BG w base tb V T) {g cap:Nat} (hv:V.d=.slice (some ⟨g,0,none⟩) T.n cap) {f:Nat->Rat} (ho:Bd w w' g T.n f):BG w' base tb V { T with d:=f }:=by
 have hob:V.d.ownBlock=some g:=by rw[hv];rfl
 obtain⟨arr,ha⟩:=h.d.typ g hob;obtain⟨g1,g2,g3,g4,g5,g6,g7⟩:=h.rat ha ho.ext ho.rds;refine⟨g1,g2,g3,g5 (fun e=>h.bed g e hob),?_,g4,fun i hi=>⟨g7 i hi (fun e=>h.rd i hi (by rw[hob,e])),(h.rows i hi).2⟩,h.rr,h.rbe,h.rd,h.bed,h.bf,h.small⟩;have h2:=h.d;show A8 w' base V.d T.n f;rw[hv] at h2 ⊢;exact ho.at h2
end
theorem I3{f:Nat->Rat} {n:Nat} (h:∀i,i<n->0<=f i):0<=AG n f:=by
 have:=Du (f:=fun _=>0) (g:=f) (n:=n) h;rw[Cg] at this;exact this
theorem O4(f:Nat->Nat):∀k:Nat,0<k->∃e,e<k/\∀i,i<k->f i<=f e
 | 0,h=>absurd h (Nat.lt_irrefl 0)
 | k+1,_=>by
  by_cases hk:0<k
  ·obtain⟨e,he,hm⟩:=O4 f k hk;by_cases h:f k<=f e
   ·exact⟨e,by omega,fun i hi=>by
     by_cases hik:i=k
     ·rw[hik];exact h
     exact hm i (by omega)⟩
   exact⟨k,by omega,fun i hi=>by
    by_cases hik:i=k
    ·rw[hik];exact Nat.le_refl _
    have:=hm i (by omega);omega⟩
  exact⟨0,by omega,fun i hi=>by
   obtain rfl:i=0:=(by omega);exact Nat.le_refl _⟩
structure Ia(N:Nat) (D:Tb) (v u:Nat):Prop where
 uN:u<N
 free:D.B u=false
 neg:D.d u<0
 first:∀t,t<N->D.B t=false->D.d t<0->u<=t
 basic:D.B v=true
 pos:0<D.M v u
 ratio:∀i,D.B i=true->0<D.M i u->D.b v/D.M v u<D.b i/D.M i u∨(D.b v/D.M v u=D.b i/D.M i u/\v<=i)
structure FS(N:Nat) (D:Tb) (v u:Nat):Prop where
 basic:D.B v=true
 neg:D.b v<0
 first:∀i,D.B i=true->D.b i<0->v<=i
 uN:u<N
 free:D.B u=false
 mneg:D.M v u<0
 ratio:∀t,t<N->D.B t=false->D.M v t<0->D.d u / -D.M v u<D.d t / -D.M v t∨(D.d u / -D.M v u=D.d t / -D.M v t/\u<=t)
structure Bn(N:Nat) (c:Nat->Tb) (pv pu:Nat->Nat) (k:Nat):Prop where
 wf:Wf N (c 0)
 next:∀i,i<k->c (i+1)=Cq (c i) (pv i) (pu i)
 basic:∀i,i<k->(c i).B (pv i)=true
 free:∀i,i<k->(c i).B (pu i)=false
 uN:∀i,i<k->pu i<N
 ne:∀i,i<k->(c i).M (pv i) (pu i)≠0
section
variable {N:Nat} {c:Nat->Tb} {pv pu:Nat->Nat} {k:Nat}
theorem Bn.wfs(h:Bn N c pv pu k):∀i,i<=k->Wf N (c i)
 | 0,_=>h.wf
 | i+1,hi=>by
  rw[h.next i (by omega)];exact Mk (h.wfs i (by omega)) (h.basic i (by omega)) (h.free i (by omega)) (h.uN i (by omega)) (h.ne i (by omega))
theorem Bn.equ(h:Bn N c pv pu k):∀i,i<=k->F4 N (c 0) (c i)
 | 0,_=>F4.refl N _
 | i+1,hi=>by
  refine (h.equ i (by omega)).trans ?_;rw[h.next i (by omega)];exact Nw (h.basic i (by omega)) (h.free i (by omega)) (h.ne i (by omega))
theorem Bn.equ2(h:Bn N c pv pu k) {i j:Nat} (hi:i<=k) (hj:j<=k):F4 N (c i) (c j):=(h.equ i hi).symm.trans (h.equ j hj)
theorem Bn.shift(h:Bn N c pv pu k) {i n:Nat} (hn:i+n<=k):Bn N (fun j=>c (i+j)) (fun j=>pv (i+j)) (fun j=>pu (i+j)) n :=
 ⟨h.wfs i (by omega),fun j hj=>h.next (i+j) (by omega),fun j hj=>h.basic (i+j) (by omega),fun j hj=>h.free (i+j) (by omega),fun j hj=>h.uN (i+j) (by omega),fun j hj=>h.ne (i+j) (by omega)⟩
theorem Bn.stepB(h:Bn N c pv pu k) {i:Nat} (hi:i<k) (t:Nat):(c (i+1)).B t=if t=pu i then true else if t=pv i then false else (c i).B t:=by
 rw[h.next i hi];rfl
theorem Bn.down(h:Bn N c pv pu k) {r:Nat} (hr:∀i,i<k->pu i≠r):∀{i j:Nat},i<=j->j<=k->(c j).B r=true->(c i).B r=true:=by
 intro i j hij hj;induction j with
 | zero =>
      obtain rfl:i=0:=(by omega);exact id
 | succ j ih =>
  by_cases e:i=j+1
  ·subst e;exact id
  intro hb;refine ih (by omega) (by omega) ?_;rw[h.stepB (by omega),if_neg (fun e=>hr j (by omega) e.symm)] at hb;split at hb
  ·cases hb
  exact hb
theorem Bn.up(h:Bn N c pv pu k) {r:Nat} (hr:∀i,i<k->pv i≠r):∀{i j:Nat},i<=j->j<=k->(c i).B r=true->(c j).B r=true:=by
 intro i j hij hj;induction j with
 | zero =>
      obtain rfl:i=0:=(by omega);exact id
 | succ j ih =>
  by_cases e:i=j+1
  ·subst e;exact id
  intro hb;have:=ih (by omega) (by omega) hb;rw[h.stepB (by omega)];split
  ·rfl
  rw[if_neg (fun e=>hr j (by omega) e.symm)];exact this
theorem Bn.enters(h:Bn N c pv pu k) (hc:∀t,(c 0).B t=(c k).B t) {r i j:Nat} (hi:i<=k) (hj:j<=k) (h1:(c i).B r=true) (h2:(c j).B r=false):∃e,e<k/\pu e=r:=by
 refine Classical.byContradiction fun hn=>?_;have hr:∀e,e<k->pu e≠r:=fun e he e2=>hn ⟨e,he,e2⟩;have h3:=h.down hr (Nat.zero_le i) hi h1;rw[hc] at h3;have h4:=h.down hr hj (Nat.le_refl k) h3;rw[h2] at h4;cases h4
theorem Bn.leaves(h:Bn N c pv pu k) (hc:∀t,(c 0).B t=(c k).B t) {r i j:Nat} (hi:i<=k) (hj:j<=k) (h1:(c i).B r=true) (h2:(c j).B r=false):∃e,e<k/\pv e=r:=by
 refine Classical.byContradiction fun hn=>?_;have hr:∀e,e<k->pv e≠r:=fun e he e2=>hn ⟨e,he,e2⟩;have h3:=h.up hr hi (Nat.le_refl k) h1;rw[<- hc] at h3;have h4:=h.up hr (Nat.zero_le j) hj h3;rw[h2] at h4;cases h4
theorem Bn.enters_free(h:Bn N c pv pu k) {e:Nat} (he:e<k):(c (e+1)).B (pu e)=true:=by
 rw[h.stepB he,if_pos rfl]
theorem Kd{f:Nat->Rat}:∀{n:Nat},(∀i,i<n->f i<=f (i+1))->∀{i j:Nat},i<=j->j<=n->f i<=f j:=by
 intro n h i j hij hj;induction j with
 | zero =>
      obtain rfl:i=0:=(by omega);exact Rat.le_refl
 | succ j ih =>
  by_cases e:i=j+1
  ·subst e;exact Rat.le_refl
  exact Rat.le_trans (ih (by omega) (by omega)) (h j (by omega))
theorem Ks{f:Nat->Rat} {n:Nat} (h:∀i,i<n->f i<=f (i+1)) (he:f 0=f n) {i:Nat} (hi:i<n):f i=f (i+1):=by
 have h1:=Kd h (Nat.zero_le i) (by omega);have h2:=Kd h (show i+1<=n by omega) (Nat.le_refl n);have h3:=h i hi;exact Rat.le_antisymm h3 (by rw[he] at h1;exact Rat.le_trans h2 h1)
end
section
variable {N:Nat} {D:Tb} {v u:Nat}
theorem IN{a b:Rat} (h:0<=a) (hb:0<b):0<=a/b:=by
 rw[Rat.div_def];exact Rat.mul_nonneg h (Rat.le_of_lt (Rat.inv_pos.2 hb))
theorem Ia.keep(hw:Wf N D) (h:Ia N D v u) (hb:∀w,0<=D.b w) (w:Nat):0<=(Cq D v u).b w:=by
 have h0:=IN (hb v) h.pos;show 0<=(if w=u then D.b v/D.M v u else if w=v then 0 else D.b w-D.M w u*(D.b v/D.M v u));split
 ·exact h0
 split
 ·exact Rat.le_refl
 by_cases hm:0<D.M w u
 ·by_cases hB:D.B w=true
  ·have h1:D.b v/D.M v u<=D.b w/D.M w u:=by
    rcases h.ratio w hB hm with e|e
    ·exact Rat.le_of_lt e
    rw[e.1];exact Rat.le_refl
   have h2:=Rat.mul_le_mul_of_nonneg_left h1 (Rat.le_of_lt hm);have h3:D.M w u*(D.b w/D.M w u)=D.b w:=by
    have:D.M w u≠0:=fun e=>by rw[e] at hm;exact absurd hm (by decide)
    grind
   rw[h3] at h2;grind
  have:=hw.row w (by simpa using hB) u;rw[this] at hm;exact absurd hm (by decide)
 have h1:D.M w u*(D.b v/D.M v u)<=0:=by
  have:=Rat.mul_nonneg (a:=-D.M w u) (by grind) h0;grind
 have:=hb w;grind
theorem FS.keep(hw:Wf N D) (h:FS N D v u) (hd:∀t,t<N->0<=D.d t) (t:Nat) (ht:t<N):0<=(Cq D v u).d t:=by
 show 0<=D.d t-D.d u*(D.M v t/D.M v u);have hu:=hd u h.uN;have hm:0 < -D.M v u:=by have:=h.mneg;grind
 by_cases hn:D.M v t<0
 ·have hf:D.B t=false:=by
   cases hB:D.B t with
   | false=>rfl
   | true =>
    rw[hw.unit v t h.basic hB] at hn;split at hn<;>exact absurd hn (by decide)
  have h1:D.d u / -D.M v u<=D.d t / -D.M v t:=by
   rcases h.ratio t ht hf hn with e|e
   ·exact Rat.le_of_lt e
   rw[e.1];exact Rat.le_refl
  have hn2:0 < -D.M v t:=(by grind);have h2:=Rat.mul_le_mul_of_nonneg_left h1 (Rat.le_of_lt hn2);have h3:-D.M v t*(D.d t / -D.M v t)=D.d t:=(by grind);have h4:-D.M v t*(D.d u / -D.M v u)=D.d u*(D.M v t/D.M v u):=(by grind);rw[h3,h4] at h2;grind
 have h1:0<=D.M v t / -D.M v u:=IN (by grind) hm;have h2:=Rat.mul_nonneg hu h1;have h3:D.d u*(D.M v t / -D.M v u) = -(D.d u*(D.M v t/D.M v u)):=(by grind);rw[h3] at h2;have:=hd t ht;grind
end
section
variable {N:Nat} {c:Nat->Tb} {pv pu:Nat->Nat} {k:Nat}
theorem Bn.ofP(hw:Wf N (c 0)) (hn:∀i,i<k->c (i+1)=Cq (c i) (pv i) (pu i)) (hs:∀i,i<k->Ia N (c i) (pv i) (pu i)):Bn N c pv pu k :=
 ⟨hw,hn,fun i hi=>(hs i hi).basic,fun i hi=>(hs i hi).free,fun i hi=>(hs i hi).uN,fun i hi e=>by have:=(hs i hi).pos;rw[e] at this;exact absurd this (by decide)⟩
theorem Bn.ofD(hw:Wf N (c 0)) (hn:∀i,i<k->c (i+1)=Cq (c i) (pv i) (pu i)) (hs:∀i,i<k->FS N (c i) (pv i) (pu i)):Bn N c pv pu k :=
 ⟨hw,hn,fun i hi=>(hs i hi).basic,fun i hi=>(hs i hi).free,fun i hi=>(hs i hi).uN,fun i hi e=>by have:=(hs i hi).mneg;rw[e] at this;exact absurd this (by decide)⟩
theorem P7(h:Bn N c pv pu k) (hs:∀i,i<k->Ia N (c i) (pv i) (pu i)) (hb:∀w,0<=(c 0).b w):∀i,i<=k->∀w,0<=(c i).b w
 | 0,_=>hb
 | i+1,hi=>by
  rw[h.next i (by omega)];exact (hs i (by omega)).keep (h.wfs i (by omega)) (P7 h hs hb i (by omega))
theorem QI(h:Bn N c pv pu k) (hs:∀i,i<k->FS N (c i) (pv i) (pu i)) (hd:∀t,t<N->0<=(c 0).d t):∀i,i<=k->∀t,t<N->0<=(c i).d t
 | 0,_=>hd
 | i+1,hi=>by
  rw[h.next i (by omega)];exact (hs i (by omega)).keep (h.wfs i (by omega)) (QI h hs hd i (by omega))
theorem UK{D:Tb} (f:Nat->Rat) {s:Nat} (hs:s<N) (hf:D.B s=false):AG N (fun u=>if D.B u then 0 else f u*D7 N D 0 (Bw s) u)=f s:=by
 rw[<- Cl (D:=D) f hs hf];refine AE fun u _=>?_;cases hu:D.B u with
 | true=>rfl
 | false=>rw[Bi hu]
theorem SO(h:Bn N c pv pu k) (hs:∀i,i<k->Ia N (c i) (pv i) (pu i)) (hb:∀w,0<=(c 0).b w) (hk:0<k) (hc:∀t,(c 0).B t=(c k).B t):False:=by
 have hbs:=P7 h hs hb;have hz0:(c 0).z=(c k).z:=((h.equ k (Nat.le_refl k)).same h.wf (h.wfs k (Nat.le_refl k)) hc).2.2.2;have hq:∀i,i<k->0<=(c i).b (pv i)/(c i).M (pv i) (pu i):=fun i hi=>IN (hbs i (by omega) _) (hs i hi).pos;have hzn:∀i,i<k->(c (i+1)).z=(c i).z+(c i).d (pu i)*((c i).b (pv i)/(c i).M (pv i) (pu i)):=fun i hi=>by rw[h.next i hi];rfl
 have hmono:∀i,i<k→-(c i).z≤-(c (i+1)).z:=fun i hi=>by
  have h1:=Rat.mul_nonneg (a:=-(c i).d (pu i)) (by have:=(hs i hi).neg;grind) (hq i hi);rw[hzn i hi];grind
 have hflat:∀i,i<k->(c i).b (pv i)/(c i).M (pv i) (pu i)=0:=fun i hi=>by
  have h1:=Ks (f:=fun i=>-(c i).z) hmono (by rw[hz0]) hi;have h2:=hzn i hi;have h3:(c i).d (pu i)*((c i).b (pv i)/(c i).M (pv i) (pu i))=0:=(by grind);have h4:=(hs i hi).neg;have h5:(c i).d (pu i)≠0:=fun e=>by rw[e] at h4;exact absurd h4 (by decide)
  rcases Rat.mul_eq_zero.1 h3 with e|e
  ·exact absurd e h5
  exact e
 have hbc:∀i,i<k->∀w,(c (i+1)).b w=(c i).b w:=fun i hi w=>by
  have hf:=hflat i hi;rw[h.next i hi];show (if w=pu i then (c i).b (pv i)/(c i).M (pv i) (pu i) else if w=pv i then 0 else (c i).b w-(c i).M w (pu i)*((c i).b (pv i)/(c i).M (pv i) (pu i)))=_;rw[hf];split
  ·rename_i e;rw[e,(h.wfs i (by omega)).rhs _ (h.free i hi)]
  split
  ·rename_i e;rw[e];have:(c i).M (pv i) (pu i)≠0:=h.ne i hi;grind
  grind
 have hb0:∀i,i<=k->∀w,(c i).b w=(c 0).b w:=by
  intro i;induction i with
  | zero=>exact fun _ _=>rfl
  | succ i ih=>exact fun hi w=>(hbc i (by omega) w).trans (ih (by omega) w)
 have hfz:∀{r i j},i<=k->j<=k->(c i).B r=false->(c j).b r=0:=fun {r i j} hi hj hB=>by
  rw[hb0 j hj,<- hb0 i hi];exact (h.wfs i hi).rhs _ hB
 obtain⟨e,he,hmax⟩:=O4 pu k hk;obtain⟨t,ht⟩:=bN (pu e);rw[ht] at hmax;have hEs:=hs e he;have hEf:=h.free e he;rw[ht] at hEs hEf;obtain⟨l,hl,hlt⟩:=h.leaves hc (show e+1<=k by omega) (show e<=k by omega) (by rw[<- ht];exact h.enters_free he) hEf;have hDs:=hs l hl;have hDb:=h.basic l hl;rw[hlt] at hDs hDb;have Aa:pu l<=t:=hmax l hl;have hDf:=h.free l hl;have hsN:=h.uN l hl;obtain⟨s,hsd⟩:=bN (pu l);rw[hsd] at hDs Aa hDf hsN;have hsne:s≠t:=fun e=>by rw[e,hDb] at hDf;cases hDf
 have hpos:∀j,j<N->j<t->0<=(c e).d j:=fun j hj hjt=>by
  refine Rat.not_lt.1 fun hn=>?_;cases hB:(c e).B j with
  | true=>rw[(h.wfs e (by omega)).cost j hB] at hn;exact absurd hn (by decide)
  | false=>have:=hEs.first j hj hB hn;omega
 have hsol:=Db (h.wfs l (by omega)) 0 (Bw s);have hobj:=(h.equ2 (show l<=k by omega) (show e<=k by omega)).obj 0 _ hsol;rw[Fk (h.wfs l (by omega)),UK _ hsN hDf] at hobj;have hneg:=hDs.neg;have hsum:0<=AG N fun j=>(c e).d j*D7 N (c l) 0 (Bw s) j:=by
  refine I3 fun j hj=>?_;cases hB:(c l).B j with
  | false =>
   rw[Bi hB];unfold Bw;split
   ·rename_i e2;have:=hpos j hj (by omega);grind
   grind
  | true =>
   rw[CY hB,Cl _ hsN hDf];cases hE:(c e).B j with
   | true=>rw[(h.wfs e (by omega)).cost j hE];grind
   | false =>
    obtain⟨e2,he2,hj2⟩:=h.enters hc (show l<=k by omega) (show e<=k by omega) hB hE;have hjt:j<=t:=(by have:=hmax e2 he2;omega);by_cases e3:j=t
    ·subst e3;have h1:=hEs.neg;have h2:=hDs.pos;have:=Rat.mul_nonneg (a:=-(c e).d j) (b:=(c l).M j s) (by grind) (by grind);grind
    have h1:=hpos j hj (by omega);have h2:(c l).M j s<=0:=by
     refine Rat.not_lt.1 fun hp=>?_;have hbt:=hfz (r:=t) (show e<=k by omega) (show l<=k by omega) hEf;have hbj:=hfz (r:=j) (show e<=k by omega) (show l<=k by omega) hE;rcases hDs.ratio j hB hp with h3|h3
     ·rw[hbt,hbj] at h3;have e1:(0:Rat)/(c l).M t s=0:=(by grind);have e2:(0:Rat)/(c l).M j s=0:=(by grind);rw[e1,e2] at h3;exact absurd h3 (by decide)
     omega
    have:=Rat.mul_nonneg (a:=(c e).d j) (b:=-(c l).M j s) h1 (by grind);grind
 unfold KG at hobj;grind
theorem SV(h:Bn N c pv pu k) (hs:∀i,i<k->FS N (c i) (pv i) (pu i)) (hd:∀t,t<N->0<=(c 0).d t) (hk:0<k) (hc:∀t,(c 0).B t=(c k).B t):False:=by
 have hds:=QI h hs hd;have hz0:(c 0).z=(c k).z:=((h.equ k (Nat.le_refl k)).same h.wf (h.wfs k (Nat.le_refl k)) hc).2.2.2;have hq:∀i,i<k->0<(c i).b (pv i)/(c i).M (pv i) (pu i):=fun i hi=>by
  have h1:=(hs i hi).neg;have h2:=(hs i hi).mneg;have e:(c i).b (pv i)/(c i).M (pv i) (pu i) = -(c i).b (pv i)*(-(c i).M (pv i) (pu i))⁻¹:=(by grind);rw[e];exact Rat.mul_pos (by grind) (Rat.inv_pos.2 (by grind))
 have hzn:∀i,i<k->(c (i+1)).z=(c i).z+(c i).d (pu i)*((c i).b (pv i)/(c i).M (pv i) (pu i)):=fun i hi=>by rw[h.next i hi];rfl
 have hmono:∀i,i<k->(c i).z<=(c (i+1)).z:=fun i hi=>by
  have h1:=Rat.mul_nonneg (hds i (by omega) (pu i) (h.uN i hi)) (Rat.le_of_lt (hq i hi));rw[hzn i hi];grind
 have hflat:∀i,i<k->(c i).d (pu i)=0:=fun i hi=>by
  have h1:=Ks (f:=fun i=>(c i).z) hmono hz0 hi;have h2:=hzn i hi;have h3:(c i).d (pu i)*((c i).b (pv i)/(c i).M (pv i) (pu i))=0:=(by grind);have h4:=hq i hi;rcases Rat.mul_eq_zero.1 h3 with e|e
  ·exact e
  rw[e] at h4;exact absurd h4 (by decide)
 have hdc:∀i,i<k->∀t,(c (i+1)).d t=(c i).d t:=fun i hi t=>by
  have hf:=hflat i hi;rw[h.next i hi];show (c i).d t-(c i).d (pu i)*((c i).M (pv i) t/(c i).M (pv i) (pu i))=_;rw[hf];grind
 have hd0:∀i,i<=k->∀t,(c i).d t=(c 0).d t:=by
  intro i;induction i with
  | zero=>exact fun _ _=>rfl
  | succ i ih=>exact fun hi t=>(hdc i (by omega) t).trans (ih (by omega) t)
 have hfz:∀{r i j},i<=k->j<=k->(c i).B r=true->(c j).d r=0:=fun {r i j} hi hj hB=>by
  rw[hd0 j hj,<- hd0 i hi];exact (h.wfs i hi).cost _ hB
 obtain⟨e,he,hmax⟩:=O4 pu k hk;obtain⟨t,ht⟩:=bN (pu e);rw[ht] at hmax;have hDs:=hs e he;have hDf:=h.free e he;have htN:=h.uN e he;rw[ht] at hDs hDf htN;obtain⟨l,hl,hlt⟩:=h.leaves hc (show e+1<=k by omega) (show e<=k by omega) (by rw[<- ht];exact h.enters_free he) hDf;have hEs:=hs l hl;have hEb:=h.basic l hl;rw[hlt] at hEs hEb;have hDb:=h.basic e he;obtain⟨s,hsd⟩:=bN (pv e);rw[hsd] at hDs hDb;have hsne:s≠t:=fun e=>by rw[e,hDf] at hDb;cases hDb
 have hs2:(c (e+1)).B s=false:=by rw[h.stepB he,if_neg (by rw[ht];exact hsne),if_pos hsd.symm]
 obtain⟨e2,he2,hs3⟩:=h.enters hc (show e<=k by omega) (show e+1<=k by omega) hDb hs2;have Aa:s<t:=by have:=hmax e2 he2;omega
 have hpos:∀j,(c l).B j=true->j<t->0<=(c l).b j:=fun j hB hjt=>by
  refine Rat.not_lt.1 fun hn=>?_;have:=hEs.first j hB hn;omega
 have hsol:=(h.equ2 (show l<=k by omega) (show e<=k by omega)).sol 1 _ |>.1 (Db (h.wfs l (by omega)) 1 (fun _=>0));have hrow:=hsol s hDb;have hneg:=hDs.neg;have hsum:0<=AG N fun j=>(c e).M s j*D7 N (c l) 1 (fun _=>0) j:=by
  refine I3 fun j hj=>?_;cases hB:(c l).B j with
  | false=>rw[Bi hB];grind
  | true =>
   rw[CY hB,It];cases hE:(c e).B j with
   | true =>
    rw[(h.wfs e (by omega)).unit s j hDb hE];split
    ·rename_i e3;subst e3;have:=hpos s hB Aa;grind
    grind
   | false =>
    obtain⟨e3,he3,hj3⟩:=h.enters hc (show l<=k by omega) (show e<=k by omega) hB hE;have hjt:j<=t:=(by have:=hmax e3 he3;omega);by_cases e4:j=t
    ·subst e4;have h1:=hEs.neg;have h2:=hDs.mneg;have:=Rat.mul_nonneg (a:=-(c e).M s j) (b:=-(c l).b j) (by grind) (by grind);grind
    have h1:=hpos j hB (by omega);have h2:0<=(c e).M s j:=by
     refine Rat.not_lt.1 fun hp=>?_;have hdt:=hfz (r:=t) (show l<=k by omega) (show e<=k by omega) hEb;have hdj:=hfz (r:=j) (show l<=k by omega) (show e<=k by omega) hB;rcases hDs.ratio j hj hE hp with h3|h3
     ·rw[hdt,hdj] at h3;have e1:(0:Rat) / -(c e).M s t=0:=(by grind);have e2:(0:Rat) / -(c e).M s j=0:=(by grind);rw[e1,e2] at h3;exact absurd h3 (by decide)
     omega
    have:=Rat.mul_nonneg h2 h1;grind
 grind
end
theorem VO:∀(n:Nat) (f:Nat->Nat),(∀i,i<=n->f i<n)->∃i j,i<j/\j<=n/\f i=f j
 | 0,f,h=>absurd (h 0 (Nat.le_refl 0)) (Nat.not_lt_zero _)
 | n+1,f,h=>by
  by_cases hex:∃i,i<=n/\f i=f (n+1)
  ·obtain⟨i,hi,e⟩:=hex;exact⟨i,n+1,by omega,Nat.le_refl _,e⟩
  have hne:∀i,i<=n->f i≠f (n+1):=fun i hi e=>hex ⟨i,hi,e⟩;have hv:=h (n+1) (Nat.le_refl _);obtain⟨i,j,h1,h2,h3⟩:=VO n (fun i=>if f (n+1)<f i then f i-1 else f i) (fun i hi=>by
   have h4:=h i (by omega);have h5:=hne i hi;show (if f (n+1)<f i then f i-1 else f i)<n;split<;>omega)
  refine⟨i,j,h1,by omega,?_⟩;have h4:=hne i (by omega);have h5:=hne j h2;split at h3<;>split at h3<;>omega
def GM:Nat->(Nat->Bool)->Nat
 | 0,_=>0
 | n+1,B=>GM n B+if B n then 2 ^ n else 0
theorem Ii:∀(n:Nat) (B:Nat->Bool),GM n B<2 ^ n
 | 0,_=>by simp[GM]
 | n+1,B=>by
  have h:=Ii n B;show GM n B+(if B n then 2 ^ n else 0)<2 ^ (n+1);rw[Nat.pow_succ];split<;>omega
theorem MG:∀{n:Nat} {B C:Nat->Bool},GM n B=GM n C->∀t,t<n->B t=C t
 | 0,_,_,_,t,h=>absurd h (Nat.not_lt_zero t)
 | n+1,B,C,h,t,ht=>by
  have hb:=Ii n B;have hc:=Ii n C;have h':GM n B+(if B n then 2 ^ n else 0)=GM n C+(if C n then 2 ^ n else 0):=h;have hn:B n=C n:=by
   cases hB:B n<;>cases hC:C n<;>simp[hB,hC] at h'<;>first|rfl|omega
  rw[hn] at h';have h2:GM n B=GM n C:=(by omega);by_cases e:t=n
  ·rw[e];exact hn
  exact MG h2 t (by omega)
section
variable {N:Nat} {c:Nat->Tb} {pv pu:Nat->Nat} {k:Nat}
theorem OU(h:Bn N c pv pu k) (hno:∀i j,i<j->j<=k->¬∀t,(c i).B t=(c j).B t):k<2 ^ N:=by
 refine Nat.lt_of_not_le fun hk=>?_;obtain⟨i,j,h1,h2,h3⟩:=VO (2 ^ N) (fun i=>GM N (c i).B) (fun i _=>Ii N _);refine hno i j h1 (by omega) fun t=>?_;by_cases ht:t<N
 ·exact MG h3 t ht
 have hi:(c i).B t=false:=by
  cases hb:(c i).B t with
  | false=>rfl
  | true=>exact absurd ((h.wfs i (by omega)).dom t hb) ht
 have hj:(c j).B t=false:=by
  cases hb:(c j).B t with
  | false=>rfl
  | true=>exact absurd ((h.wfs j (by omega)).dom t hb) ht
 rw[hi,hj]
theorem PC(h:Bn N c pv pu k) (hs:∀i,i<k->Ia N (c i) (pv i) (pu i)) (hb:∀w,0<=(c 0).b w):k<2 ^ N :=
 OU h fun i j hij hj he=>SO (h.shift (i:=i) (n:=j-i) (by omega)) (fun m hm=>hs (i+m) (by omega)) (fun w=>P7 h hs hb i (by omega) w) (by omega) (fun t=>by
  show (c (i+0)).B t=(c (i+(j-i))).B t;rw[Nat.add_zero,show i+(j-i)=j from by omega];exact he t)
theorem NK(h:Bn N c pv pu k) (hs:∀i,i<k->FS N (c i) (pv i) (pu i)) (hd:∀t,t<N->0<=(c 0).d t):k<2 ^ N :=
 OU h fun i j hij hj he=>SV (h.shift (i:=i) (n:=j-i) (by omega)) (fun m hm=>hs (i+m) (by omega)) (fun t ht=>QI h hs hd i (by omega) t ht) (by omega) (fun t=>by
  show (c (i+0)).B t=(c (i+(j-i))).B t;rw[Nat.add_zero,show i+(j-i)=j from by omega];exact he t)
end
def Fc(f:Nat->Bool):Nat->Nat
 | 0=>0
 | n+1=>Fc f n+if f n then 1 else 0
theorem MF{f:Nat->Bool}:∀{n:Nat},Fc f n=0->∀t,t<n->f t=false
 | 0,_,t,h=>absurd h (Nat.not_lt_zero t)
 | n+1,h,t,ht=>by
  have h':Fc f n+(if f n then 1 else 0)=0:=h;by_cases e:t=n
  ·subst e;cases hf:f t with
   | false=>rfl
   | true=>rw[hf] at h';simp at h'
  exact MF (n:=n) (by omega) t (by omega)
theorem NS{f:Nat->Bool}:∀{n:Nat},0<Fc f n->∃t,t<n/\f t=true
 | 0,h=>absurd h (Nat.lt_irrefl 0)
 | n+1,h=>by
  cases hf:f n with
  | true=>exact⟨n,by omega,hf⟩
  | false =>
   have h':0<Fc f n+(if f n then 1 else 0):=h;rw[hf] at h';obtain⟨t,ht,h2⟩:=NS (n:=n) (by simpa using h');exact⟨t,by omega,h2⟩
theorem Ki{f g:Nat->Bool}:∀{n:Nat},(∀t,t<n->f t=g t)->Fc f n=Fc g n
 | 0,_=>rfl
 | n+1,h=>by
  show Fc f n+(if f n then 1 else 0)=Fc g n+(if g n then 1 else 0);rw[Ki (n:=n) (fun t ht=>h t (by omega)),h n (by omega)]
theorem ME{f g:Nat->Bool} {u:Nat}:∀{n:Nat},u<n->f u=true->g u=false->(∀t,t<n->t≠u->f t=g t)->Fc f n=Fc g n+1
 | 0,h,_,_,_=>absurd h (Nat.not_lt_zero _)
 | n+1,h,hf,hg,he=>by
  show Fc f n+(if f n then 1 else 0)=Fc g n+(if g n then 1 else 0)+1;by_cases e:u=n
  ·subst e;rw[hf,hg,Ki (fun t ht=>he t (by omega) (by omega))];simp
  rw[ME (n:=n) (by omega) hf hg (fun t ht hne=>he t (by omega) hne),he n (by omega) (Ne.symm e)];omega
theorem Py{f:Nat->Bool} {m:Nat} (hf:∀t,m<=t->f t=false):∀n:Nat,Fc f n<=m
 | 0=>Nat.zero_le _
 | n+1=>by
  by_cases h:n<m
  ·have:∀n,Fc f n<=n:=fun n=>by
    induction n with
    | zero=>exact Nat.le_refl _
    | succ n ih =>
     show Fc f n+(if f n then 1 else 0)<=n+1;split<;>omega
   have:=this (n+1);omega
  show Fc f n+(if f n then 1 else 0)<=m;rw[hf n (by omega)];have:=Py hf n;simpa using this
structure Ut(N:Nat) (D:Tb) (s:Nat):Prop where
 M:∀w t,t<N->Sz (D.M w t) s
 b:∀w,Sz (D.b w) s
 d:∀t,t<N->Sz (D.d t) s
theorem Sz.inv{q:Rat} {L:Nat} (h:Sz q L) (h1:1<=L):Sz q⁻¹ L:=by
 by_cases h0:q=0
 ·subst h0;rw[Rat.inv_zero];exact Sz.zero.mono h1
 refine⟨?_,?_⟩
 ·rw[Rat.num_inv,Int.natAbs_mul,Int.natAbs_natCast];have hs:q.num.sign.natAbs=1:=by
   have:q.num≠0:=fun e=>h0 (Rat.num_eq_zero.1 e);rcases Int.lt_or_gt_of_ne this with h|h
   ·rw[Int.sign_eq_neg_one_of_neg h];rfl
   rw[Int.sign_eq_one_of_pos h];rfl
  rw[hs,Nat.one_mul];exact h.2
 rw[Rat.den_inv,if_neg (fun e=>h0 (Rat.num_eq_zero.1 e))];exact h.1
theorem Sz.div{q q':Rat} {L M:Nat} (h:Sz q L) (h':Sz q' M) (h1:1<=M):Sz (q/q') (L+M):=by
 rw[Rat.div_def];exact h.mul (h'.inv h1)
end Go.Proofs.YtglepbhkilbbcaaGreat
