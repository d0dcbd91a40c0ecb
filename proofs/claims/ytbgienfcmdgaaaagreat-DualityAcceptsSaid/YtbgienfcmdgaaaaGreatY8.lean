/-
  Texts of the proof, part 8. Conditions: each lemma names its own.
-/
import Derived.Test.YtbgienfcmdgaaaaGreatY4
import Derived.Test.YtbgienfcmdgaaaaGreatY7
import Derived.Maps.RangeWalk
set_option linter.unusedVariables false
set_option linter.unusedSimpArgs false
set_option maxRecDepth 100000
set_option maxHeartbeats 16000000
namespace Go.Proofs.YtbgienfcmdgaaaaGreat
open Go.RowKit Go.MapKept
open Go.ChangeMaps (setBlock)
def AccR (w:World) (b:Nat) (q:Rat):Prop:=∃ ng a1 m1 c1 a2 m2 c2,BoxR w b ng (.slice a1 m1 c1) (.slice a2 m2 c2)/\IsRat w (.agg #[.bool ng,.slice a1 m1 c1,.slice a2 m2 c2]) q
theorem AccR.keep {w w':World} {b:Nat} {q:Rat} (h:AccR w b q) (hx:XF w w'):AccR w' b q:=by
 obtain ⟨ng,a1,m1,c1,a2,m2,c2,h1,h2⟩:=h
 exact ⟨ng,a1,m1,c1,a2,m2,c2,h1.keep hx,h2.keep hx⟩
def loN (p:ProgV) (ts:List TermV) (i:Nat):Rat:=sumTo i fun k=>((ts.getD k term0).coef:Rat)*((p.v (ts.getD k term0).var.toNat).lo:Rat)
theorem loN_sz {p:ProgV} (hv:validB p=true) {w:World} {v:Value} {ts:List TermV} (ht:Tms w v ts) (hin:∀ k,k<ts.length->0<=(ts.getD k term0).var/\(ts.getD k term0).var<p.vars.length) {i:Nat} (hi:i<=ts.length):Sz (loN p ts i) (1+i*(2+3)) :=
 sum_size (f:=fun k=>(ts.getD k term0).coef) (g:=fun k=>((p.v (ts.getD k term0).var.toNat).lo:Rat)) (n:=ts.length) (fun k hk=>(ht.ok k hk).coef) (fun k hk=>by
  obtain ⟨h0,h1⟩:=hin k hk
  obtain ⟨⟨q1,q2⟩,-⟩:=var_lims (valid_var hv (show (ts.getD k term0).var.toNat<p.vars.length by omega))
  exact Sz.int ⟨by omega,by omega⟩) i hi
theorem dotQ_sz {ts:List TermV} {z:List Rat} {L:Nat} (hf:∀ k,k<ts.length->InR (ts.getD k term0).coef) (hz:∀ i:Int,Sz (atQ z i) L):Sz (dotQ ts z) (1+ts.length*(L+3)) :=
 sum_size (f:=fun k=>(ts.getD k term0).coef) (g:=fun k=>atQ z (ts.getD k term0).var) (n:=ts.length) hf (fun k _=>hz _) _ (Nat.le_refl _)
theorem slackAt_any (w:World) (tb:Nat) (p:ProgV) (l:LimV) (zo:Option Addr) (zm zc:Nat) (z:List Rat) (L:Nat) (dir:Bool) (h:PrgAt w tb p) (hl:LimOk p l) (hz:Rats w (.slice zo zm zc) z L) (h1L:2<=L) (hL:(limTs p l).length*(L+8)+L+20<=2000000) :
  Calls Tryz.prog 179 #[.pointer (some ⟨tb,0,none⟩),.agg #[.int .i64 l.row,.int .i64 l.var,.bool l.tur],.slice zo zm zc,.bool dir] w (RatPost w (slackQ p l z dir)):=by
 have hin:=hl.terms h.valid
 have HIn:=bH (bI h.valid (bI hin hl))
 have HP:=bH (fun W (hW:XF w W)=>parts_any W tb p l (h.keep hW) hl)
 have HE:=bH (show slackQ p l z dir=((if dir then 0 else limBd p l) - dotQ (limTs p l) z)*(limSg l:Rat) from rfl)
 have HT:=bH (bI h hz)
 have hbo:-9223372036854775808<=limBo p l/\limBo p l<=9223372036854775807:=by
  unfold limBo
  rcases hl with ⟨g1,g2,_⟩ | ⟨g1,_⟩
  ·obtain ⟨⟨q1,q2⟩,⟨q3,q4⟩,-⟩:=var_lims (valid_var h.valid g2)
   rw [if_pos (by omega)]; omega
  ·rw [if_neg (by omega)]; omega
 have hsg:limSg l=1∨limSg l = -1:=by
  unfold limSg; split
  ·exact .inl rfl
  ·split
   ·exact .inr rfl
   ·exact .inl rfl
 have hA:=Nat.mul_add (limTs p l).length L 8
 have HLen:=bH (show 1+(limTs p l).length*(L+3)+(L+3)<=4000000/\(limTs p l).length*5+20<=2000000/\1+(limTs p l).length*(L+3)+(limTs p l).length*5+10<=2000000 from by
  have h2:=Nat.mul_add (limTs p l).length L 3
  omega)
 have HF:=bH (fun W=>rfrom_any W (limBo p l) hbo.1 hbo.2)
 have HF0:=bH (fun W=>rfrom_any W 0 (by omega) (by omega))
 have HFs:=bH (fun W=>rfrom_any W (limSg l) (by rcases hsg with e | e <;> omega) (by rcases hsg with e | e <;> omega))
 have hsz:Sz (limSg l:Rat) 2:=Sz.int ⟨by rcases hsg with e | e <;> omega,by rcases hsg with e | e <;> omega⟩
 have HSg:=bH hsz
 clear hbo hsg hin hA hL h hz hsz
 generalize slackQ p l z dir=res at *
 generalize hsgn:limSg l=sgn at *
 have HSgn:=bH hsgn
 clear hsgn
 generalize hbnd:limBo p l=bo at *
 have HBnd:=bH hbnd
 clear hbnd
 obtain ⟨ts,hts⟩:∃ ts,limTs p l=ts:=⟨_,rfl⟩
 rw [hts] at HE HIn HLen
 obtain ⟨row,var,tur⟩:=l
 have hxa:=(Ext.refl (fun _=>False) w).alloc (.cells #[.int .i64 row,.int .i64 var,.bool tur] 142)
 have hxb:=hxa.alloc (.cells #[.bool false,.slice none 0 0,.slice none 0 0] 31)
 have hb0:blk ((w.alloc (.cells #[.int .i64 row,.int .i64 var,.bool tur] 142)).alloc (.cells #[.bool false,.slice none 0 0,.slice none 0 0] 31)) w.heap.size=some (.cells #[.int .i64 row,.int .i64 var,.bool tur] 142 (0,0)):=(blk_alloc_past _ _ _ (by simp)).trans (blk_alloc_at _ _)
 have hb1:BoxR ((w.alloc (.cells #[.int .i64 row,.int .i64 var,.bool tur] 142)).alloc (.cells #[.bool false,.slice none 0 0,.slice none 0 0] 31)) (w.heap.size+1) false (.slice none 0 0) (.slice none 0 0):=by
  have:=boxR_new (W:=w.alloc (.cells #[.int .i64 row,.int .i64 var,.bool tur] 142)) rfl false none 0 0 none 0 0
  simpa using this
 have l0:=cellq hb0 0 rfl
 have l1:=cellq hb0 1 rfl
 have l2:=cellq hb0 2 rfl
 have HB:=bH (bI hxb hb1)
 have HP1:=bH (HP.out _ hxb)
 clear hxa hxb hb0 hb1 HP
 go_enter Tryz.func179,Tryz.ntmps179
 go_upto_region 1 with fail
 generalize (w.alloc (.cells #[.int .i64 row,.int .i64 var,.bool tur] 142)).alloc (.cells #[.bool false,.slice none 0 0,.slice none 0 0] 31)=w1 at *
 obtain ⟨lb,hlb⟩:∃ lb,w.heap.size=lb:=⟨_,rfl⟩
 have hwl:w.heap.size<=lb:=Nat.le_of_eq hlb
 rw [hlb] at HB l0 l1 l2 ⊢
 clear hlb
 go_upto_region 2 with (go_at_call 201; refine HP1.out.mono ?_; rintro r2 w2 ⟨tso,tsc,rfl,htm,hx2⟩)
 rw [hts] at htm
 have HTs:=bH hts
 clear hts
 rw [HBnd.out,HSgn.out]
 replace l0:=cell_keep l0 hx2
 replace l1:=cell_keep l1 hx2
 replace l2:=cell_keep l2 hx2
 have HB2:=bH (bI (HB.out.1.trans hx2) (bI (HB.out.2.keep hx2) htm))
 clear HB HP1 hx2 htm l1 l2
 go_upto_region 3 with (go_at_call 66; refine (HF0.out _).mono ?_; rintro r3 w3 ⟨v3,rfl,h3,hx3⟩; obtain ⟨n3,a3,l3,c3,a3',l3',c3',rfl⟩:=h3.shape)
 have hxn:=(Ext.refl (fun _=>False) w3).alloc (.cells #[.bool n3,.slice a3 l3 c3,.slice a3' l3' c3'] 31)
 have hsb:=boxR_new (W:=w3) rfl n3 a3 l3 c3 a3' l3' c3'
 have hs2:w2.heap.size<=w3.heap.size:=hx3.size
 have hs1:lb+1<w2.heap.size:=HB2.out.2.1.lt
 have HS:=bH (bI (hx3.trans hxn) (bI hsb (h3.keep hxn)))
 replace l0:=cell_keep (cell_keep l0 hx3) hxn
 clear hxn hsb h3 hx3
 generalize w3.alloc (.cells #[.bool n3,.slice a3 l3 c3,.slice a3' l3' c3'] 31)=w5 at *
 generalize w3.heap.size=sb at *
 have HOwn:=bH (fun W (hx:Ext (fun k=>k=sb) w5 W)=>show XF w2 W from HS.out.1.own hx (fun k e=>by have e':k=sb:=e; omega))
 go_upto_if 24 with fail
 go_cut [] (fun wx=>AccR wx sb (if dir then 0 else limBd p ⟨row,var,tur⟩)/\Ext (fun k=>k=sb) w5 wx)
 case first =>
  cases dir with
  | true =>
   go_wp2
   go_meet
   exact ⟨⟨n3,a3,l3,c3,a3',l3',c3',HS.out.2.1,by
    have e:((0:Int):Rat)=0:=rfl
    have:=HS.out.2.2
    rw [e] at this; exact this⟩,Ext.refl _ _⟩
  | false =>
   have hbl:∀ W,XF w5 W->W.frozen? ⟨sb,0,none⟩=false/\W.frozen? ⟨sb,1,none⟩=false/\W.frozen? ⟨sb,2,none⟩=false:=fun W hW=>(HS.out.2.1.keep hW).facts.2.2.2
   go_upto_if 29 with (go_at_call 66; refine (HF.out _).mono ?_; rintro r6 w6 ⟨v6,rfl,h6,hx6⟩; obtain ⟨n6,a6,m6,c6,a6',m6',c6',rfl⟩:=h6.shape; have hbt:=HS.out.2.1.keep hx6; obtain ⟨d0,d1,d2,d3,d4,d5⟩:=hbt.facts; have hl6:=cell_keep l0 hx6; have hne:¬ lb=sb:=(by omega))
   have hpt:=hbt.put (neg:=n6) (no_int a6 m6 c6) (no_int a6' m6' c6')
   have HQ:=bH (bI hpt.box (bI (hpt.rat h6) ((hx6.none (S:=fun k=>k=sb)).trans hpt.ext)))
   have hl7:=(hpt.ext.cell (p:=⟨lb,0,none⟩) (World.block_lt_of_cell? _ _ hl6) (fun e=>hne e)).trans hl6
   clear hpt hbt d0 d1 d2 d3 d4 d5 h6 hx6
   generalize ((w6.setCell ⟨sb,0,none⟩ (.bool n6)).setCell ⟨sb,1,none⟩ (.slice a6 m6 c6)).setCell ⟨sb,2,none⟩ (.slice a6' m6' c6')=w7 at *
   clear hl6
   rcases hl with ⟨g1,g2,g3,g4⟩ | ⟨g1,g2,g3,g4,g5⟩
   ·have g1:row = -1:=g1
    subst g1
    have HV:=bH (show ((bo:Int):Rat)=limBd p ⟨-1,var,tur⟩ from by
     rw [<- HBnd.out]; rfl)
    clear g2 g3 g4
    go_wp2
    go_meet
    refine ⟨⟨n6,a6,m6,c6,a6',m6',c6',HQ.out.1,?_⟩,HQ.out.2.2⟩
    have:=HQ.out.2.1
    rw [HV.out] at this
    exact this
   ·have g1:0<=row:=g1
    have g2:row.toNat<p.rows.length:=g2
    obtain ⟨ri,rfl⟩:∃ ri:Nat,row=ri:=⟨row.toNat,by omega⟩
    have g2:ri<p.rows.length:=g2
    have HV:=bH (show limBd p ⟨ri,var,tur⟩=((p.r ri).bound:Rat) - loN p ts ts.length from by
     have e:limBd p ⟨ri,var,tur⟩=((p.r ri).bound:Rat) - loSum p (limTs p ⟨ri,var,tur⟩):=if_neg (by show ¬ (ri:Int)<0; omega)
     rw [e,HTs.out]; rfl)
    have r0:¬ ((ri:Int)<0):=by omega
    have r1:(ri:Int)<(p.rows.length:Int):=by omega
    have hx7:=(HB2.out.1.trans (HOwn.out _ HQ.out.2.2))
    obtain ⟨vo,vc,ro,rc,h1,h2,h3,h4,h5,h6⟩:=(HT.out.1.keep hx7).ex
    have hrow:=HT.out.1.valid
    have hrb:=valid_row hrow g2
    obtain ⟨b,off,ta,tlc,rfl,hlt,e0,e1,e2,e3,e4,hok,-⟩:=h4.atp ri g2
    have HFr:=bH (fun W=>rfrom_any W (p.r ri).bound hok.bound.1 hok.bound.2)
    have HBz:=bH (Sz.int (k:=(p.r ri).bound) hok.bound)
    clear hrow hrb hok e0 e1 e2 e3 g1 g3 g4 g5 h1 h5 h6 HBnd
    generalize (p.r ri).bound=bnd at *
    replace h2:=cq h2
    replace e4:=cq e4
    replace hl7:=cq hl7
    have HSsb:=bH HQ.out.1
    go_upto_region 6 with fail
    refine ends_begin 11 (XF w7) (by kernel_rfl) ((Ext.refl _ w7).drew) (fun hHeld=>?_)
    refine et 0 (h:=(et 1 (h:=(et 2 (h:=(et 3 (h:=(et 4 (h:=(et 5 (h:=(et 6 (h:=(et 7 (h:=(et 8 (h:=(et 9 (h:=?_)))))))))))))))))))
    (try go_frame)
    refine est 10 (h:=fun K hK=>?_)
    (go_simp; go_at_call 66; (with_reducible refine (HFr.out _).mono ?_); rintro q1 w11 ⟨v11,rfl,h11,hx11⟩; have hX1:=hHeld.trans hx11; obtain ⟨n11,a11,l11,c11,a11',l11',c11',rfl⟩:=h11.shape)
    refine hK.out _ _ (hX1) (fun hHeld=>?_)
    clear hK K
    (try go_frame)
    have hbt:=HSsb.out.keep hX1
    obtain ⟨d0,d1,d2,d3,d4,d5⟩:=hbt.facts
    have hpt:=hbt.put (neg:=n11) (no_int a11 l11 c11) (no_int a11' l11' c11')
    have HPt:=bH (bI hpt.box (bI (hpt.rat h11) (bI hpt.ext hpt.rds)))
    refine ends_last rfl (by kernel_rfl) (fun K hK=>?_)
    go_simp
    refine hK.out _ _ ?_
    clear hK K
    (try go_frame)
    refine ends_done (by kernel_rfl) ?_ _
    clear hl7 h2 e4 HFr d0 d1 d2 d3 d4 d5 hHeld
    have HP:=bH (bI (show AccR _ sb ((bnd:Rat) - loN p ts 0) from ⟨_,_,_,_,_,_,_,HPt.out.1,by
     have e:(bnd:Rat) - loN p ts 0=(bnd:Rat):=by show (bnd:Rat) - 0=_; grind
     rw [e]; exact HPt.out.2.1⟩) (HQ.out.2.2.trans (hX1.none.trans HPt.out.2.2.1)))
    clear hbt hpt h11 hx11 hX1 HPt HSsb HQ
    generalize ((w11.setCell ⟨sb,0,none⟩ (.bool n11)).setCell ⟨sb,1,none⟩ (.slice a11 l11 c11)).setCell ⟨sb,2,none⟩ (.slice a11' l11' c11')=w9 at *
    go_wp2_with fail
    go_loopg [43,14] ts.length (fun gg v43 v14 wr=>∃ i:Nat,i<=ts.length/\gg=ts.length - i/\v43=.int .i64 i/\AccR wr sb ((bnd:Rat) - loN p ts i)/\Ext (fun k=>k=sb) w5 wr)
    case atStart=>exact ⟨0,Nat.zero_le _,rfl,rfl,HP.out⟩
    case round =>
     clear HP
     obtain ⟨i,hi,rfl,rfl,hacc,hx⟩:=hrel
     have HX:=bH (bI hacc (bI hx (HOwn.out _ hx)))
     clear hacc hx
     by_cases hin:i<ts.length
     ·have i0:(i:Int)<(ts.length:Int):=by omega
      have i1:(0:Int)<=(i:Int):=by omega
      obtain ⟨tb2,toff,rfl,htl,t0,t1,htok⟩:=(HB2.out.2.2.keep HX.out.2.2).at i hin
      obtain ⟨v0,v1⟩:=HIn.out.2.1 i hin
      have hxa:=(Ext.refl (fun _=>False) wr).alloc (.cells #[.int .i64 (ts.getD i term0).var,.int .i64 (ts.getD i term0).coef] 76)
      have hb1:=blk_alloc_at wr (.cells #[.int .i64 (ts.getD i term0).var,.int .i64 (ts.getD i term0).coef] 76)
      have HLz:=bH (loN_sz HIn.out.1 HB2.out.2.2 HIn.out.2.1 (Nat.le_of_lt hin))
      have HNx:=bH (show (bnd:Rat) - loN p ts i - ((ts.getD i term0).coef:Rat)*((p.v (ts.getD i term0).var.toNat).lo:Rat)=(bnd:Rat) - loN p ts (i+1) from by
       show _=(bnd:Rat) - (loN p ts i+((ts.getD i term0).coef:Rat)*((p.v (ts.getD i term0).var.toNat).lo:Rat))
       grind)
      generalize ts.getD i term0=tm at *
      obtain ⟨vn,hvn⟩:∃ vn:Nat,tm.var=vn:=⟨tm.var.toNat,by omega⟩
      rw [hvn] at t0 v1 HNx hxa hb1
      rw [show ((vn:Nat):Int).toNat=vn from rfl] at HNx
      clear hvn v0
      have v2:vn<p.vars.length:=by omega
      have v3:(0:Int)<=(vn:Int):=by omega
      have HX8:=bH (bI (HX.out.1.keep hxa) (bI (HX.out.2.1.trans hxa.none) (HX.out.2.2.trans hxa)))
      have f0:=cellq hb1 0 rfl
      have f1:=cellq hb1 1 rfl
      clear hb1 hxa
      go_upto_region 10 with fail
      generalize wr.alloc (.cells #[.int .i64 (vn:Int),.int .i64 tm.coef] 76)=w8 at *
      generalize wr.heap.size=tbx at *
      obtain ⟨vo,vc,ro,rc,h1,h2,h3,h4,h5,h6⟩:=(HT.out.1.keep (HB2.out.1.trans HX8.out.2.2)).ex
      obtain ⟨b3,off3,rfl,hlt3,e0,e1,e2,e3,e4,-⟩:=h3.atp vn v2
      obtain ⟨⟨q1,q2⟩,-⟩:=var_lims (valid_var HIn.out.1 v2)
      obtain ⟨on,oa,ol,oc,oa',ol',oc',hob,hoq⟩:=HX8.out.1
      obtain ⟨o0,o1,o2,-⟩:=hob.facts
      have HSsb:=bH hob
      have HFc:=bH (fun W=>rfrom_any W tm.coef htok.coef.1 htok.coef.2)
      have HFl:=bH (fun W=>rfrom_any W (p.v vn).lo (by omega) (by omega))
      have hz1:=Sz.int (k:=tm.coef) htok.coef
      have hz2:=Sz.int (k:=(p.v vn).lo) ⟨by omega,by omega⟩
      have HM:=bH (fun W u v (hW:XF w8 W) (hu:IsRat W u (tm.coef:Rat)) (hv:IsRat W v ((p.v vn).lo:Rat))=>rmul_any W u v _ _ 2 (hu.reads hz1) (hv.reads hz2) (by omega) (by omega))
      have HSu:=bH (fun W u (hW:XF w8 W) (hu:IsRat W u ((tm.coef:Rat)*((p.v vn).lo:Rat)))=>rsub_any W _ u ((bnd:Rat) - loN p ts i) _ (2+(1+i*5)+1) ((hoq.keep hW).reads ((HBz.out.sub HLz.out).mono (by omega))) (hu.reads ((hz1.mul hz2).mono (by omega))) (by omega) (by have:=HLen.out.2.1; omega))
      clear hoq hob hz1 hz2 e1 e2 e3 e4 h2 h3 h4 h5 h6 htok t0 t1
      generalize (p.v vn).lo=lo at *
      replace h1:=cq h1
      replace e0:=cq e0
      replace f0:=cq f0
      replace f1:=cq f1
      replace o0:=cq o0
      replace o1:=cq o1
      replace o2:=cq o2
      refine ends_begin 17 (XF w8) (by kernel_rfl) ((Ext.refl _ w8).drew) (fun hHeld=>?_)
      refine et 0 (h:=(et 1 (h:=(et 2 (h:=(et 4 (h:=(et 5 (h:=(et 6 (h:=(et 7 (h:=(et 8 (h:=(et 9 (h:=(et 10 (h:=(et 11 (h:=(et 12 (h:=(et 13 (h:=?_)))))))))))))))))))))))))
      (try go_frame)
      refine est 3 (h:=fun K hK=>?_)
      (go_simp; go_at_call 66; (with_reducible refine (HFc.out _).mono ?_); rintro q1 w11 ⟨v11,rfl,h11,hx11⟩; have hX1:=hHeld.trans hx11; obtain ⟨n11,a11,l11,c11,a11',l11',c11',rfl⟩:=h11.shape)
      refine hK.out _ _ (hX1) (fun hHeld=>?_)
      clear hK K
      (try go_frame)
      refine est 14 (h:=fun K hK=>?_)
      (go_simp; go_at_call 66; (with_reducible refine (HFl.out _).mono ?_); rintro q2 w12 ⟨v12,rfl,h12,hx12⟩; have hX2:=hX1.trans hx12; replace h11:=h11.keep hx12; obtain ⟨n12,a12,l12,c12,a12',l12',c12',rfl⟩:=h12.shape)
      refine hK.out _ _ (hX2) (fun hHeld=>?_)
      clear hK K
      (try go_frame)
      refine est 15 (h:=fun K hK=>?_)
      (go_simp; go_at_call 112; (with_reducible refine (HM.out _ _ _ hX2 h11 h12).mono ?_); rintro q3 w13 ⟨v13,rfl,h13,hx13⟩; have hX3:=hX2.trans hx13; obtain ⟨n13,a13,l13,c13,a13',l13',c13',rfl⟩:=h13.shape)
      refine hK.out _ _ (hX3) (fun hHeld=>?_)
      clear hK K
      (try go_frame)
      refine est 16 (h:=fun K hK=>?_)
      (go_simp; go_at_call 65; (with_reducible refine (HSu.out _ _ hX3 h13).mono ?_); rintro q4 w14 ⟨v14,rfl,h14,hx14⟩; have hX4:=hX3.trans hx14; obtain ⟨n14,a14,l14,c14,a14',l14',c14',rfl⟩:=h14.shape)
      refine hK.out _ _ (hX4) (fun hHeld=>?_)
      clear hK K
      (try go_frame)
      have hbt:=HSsb.out.keep hX4
      obtain ⟨d0,d1,d2,d3,d4,d5⟩:=hbt.facts
      have hpt:=hbt.put (neg:=n14) (no_int a14 l14 c14) (no_int a14' l14' c14')
      have HPt:=bH (bI hpt.box (bI (hpt.rat h14) (bI hpt.ext hpt.rds)))
      refine ends_last rfl (by kernel_rfl) (fun K hK=>?_)
      go_simp
      refine hK.out _ _ ?_
      clear hK K
      (try go_frame)
      refine ends_done (by kernel_rfl) ?_ _
      have HP:=bH (bI (show AccR _ sb ((bnd:Rat) - loN p ts (i+1)) from ⟨_,_,_,_,_,_,_,HPt.out.1,by
       have:=HPt.out.2.1
       rw [HNx.out] at this; exact this⟩) (HX8.out.2.1.trans (hX4.none.trans HPt.out.2.2.1)))
      clear hbt hpt h11 h12 h13 h14 hx11 hx12 hx13 hx14 hX1 hX2 hX3 hX4 HPt HSsb HX8 HX hHeld d0 d1 d2 d3 d4 d5 o0 o1 o2 h1 e0 f0 f1 HFc HFl HM HSu
      generalize ((w14.setCell ⟨sb,0,none⟩ (.bool n14)).setCell ⟨sb,1,none⟩ (.slice a14 l14 c14)).setCell ⟨sb,2,none⟩ (.slice a14' l14' c14')=w9 at *
      have hlen:=HLen.out.2.1
      go_wp2
      go_roundg (ts.length - (i+1))
      case measure=>omega
      case rel=>exact ⟨i+1,by omega,rfl,by go_num,HP.out⟩
     ·obtain rfl:i=ts.length:=by omega
      go_wp2
      go_meet
      refine ⟨?_,HX.out.2.1⟩
      rw [HV.out]; exact HX.out.1
 case rest =>
  obtain ⟨⟨ng,b1,k1,d1,b2,k2,d2,hbx,hqx⟩,hxx⟩:=hcut
  have hxc:=HOwn.out _ hxx
  have HR:=bH (bI hbx (bI hqx (bI (HB2.out.1.trans hxc) (HB2.out.2.1.keep hxc))))
  have HDo:=bH (fun W (hW:XF wc W)=>Dot_any W _ _ ts z L ((HB2.out.2.2.keep hxc).keep hW) (HT.out.2.keep ((HB2.out.1.trans hxc).trans hW)) (by omega) HLen.out.1)
  obtain ⟨o0,o1,o2,-⟩:=hbx.facts
  have HSsb:=bH hbx
  have hbz:Sz (if dir then 0 else limBd p ⟨row,var,tur⟩) (ts.length*5+6):=by
   cases dir with
   | true=>exact Sz.zero.mono (by omega)
   | false =>
    show Sz (limBd p ⟨row,var,tur⟩) _
    rcases hl with ⟨g1,g2,_⟩ | ⟨g1,g2,_⟩
    ·obtain ⟨⟨q1,q2⟩,⟨q3,q4⟩,-⟩:=var_lims (valid_var HIn.out.1 g2)
     have e:limBd p ⟨row,var,tur⟩=(((p.v var).up - (p.v var).lo:Int):Rat):=if_pos (by have g1:row = -1:=g1; show row<0; omega)
     rw [e]
     have q1:-1099511627776<=(p.v var).lo:=q1
     have q2:(p.v var).lo<=1099511627776:=q2
     have q3:-1099511627776<=(p.v var).up:=q3
     have q4:(p.v var).up<=1099511627776:=q4
     exact (Sz.int ⟨by omega,by omega⟩).mono (by omega)
    ·have e:limBd p ⟨row,var,tur⟩=((p.r row.toNat).bound:Rat) - loN p ts ts.length:=by
      have e:limBd p ⟨row,var,tur⟩=((p.r row.toNat).bound:Rat) - loSum p (limTs p ⟨row,var,tur⟩):=if_neg (by have g1:0<=row:=g1; show ¬ row<0; omega)
      rw [e,HTs.out]; rfl
     rw [e]
     obtain ⟨vo,vc,ro,rc,h1,h2,h3,h4,h5,h6⟩:=HT.out.1.ex
     exact ((Sz.int (h4.ok _ g2).bound).sub (loN_sz HIn.out.1 HB2.out.2.2 HIn.out.2.1 (Nat.le_refl _))).mono (by omega)
  have HDz:Hid (Sz (dotQ ts z) (1+ts.length*(L+3))):=bH (dotQ_sz (ts:=ts) (fun k hk=>(HB2.out.2.2.ok k hk).coef) (HT.out.2.sz (by omega)))
  have HSu:=bH (fun W u (hW:XF wc W) (hu:IsRat W u (dotQ ts z))=>rsub_any W _ u (if dir then 0 else limBd p ⟨row,var,tur⟩) _ (1+ts.length*(L+3)+ts.length*5+8) ((hqx.keep hW).reads (hbz.mono (by omega))) (hu.reads (HDz.out.mono (by omega))) (by omega) (by have:=HLen.out.2.2; omega))
  have HTz:=bH (show Sz ((if dir then 0 else limBd p ⟨row,var,tur⟩) - dotQ ts z) (ts.length*5+6+(1+ts.length*(L+3))+1) from hbz.sub HDz.out)
  clear hbx hqx hbz hxc l0
  generalize (if dir then 0 else limBd p ⟨row,var,tur⟩)=q0 at *
  replace o0:=cq o0
  replace o1:=cq o1
  replace o2:=cq o2
  go_upto_region 12 with fail
  refine ends_begin 5 (XF wc) (by kernel_rfl) ((Ext.refl _ wc).drew) (fun hHeld=>?_)
  refine et 0 (h:=(et 1 (h:=(et 2 (h:=?_)))))
  (try go_frame)
  refine est 3 (h:=fun K hK=>?_)
  (go_simp; go_at_call 74; (with_reducible refine (HDo.out _ hHeld).mono ?_); rintro q1 w11 ⟨v11,rfl,h11,hx11⟩; have hX1:=hHeld.trans hx11; obtain ⟨n11,a11,l11,c11,a11',l11',c11',rfl⟩:=h11.shape)
  refine hK.out _ _ (hX1) (fun hHeld=>?_)
  clear hK K
  (try go_frame)
  refine est 4 (h:=fun K hK=>?_)
  (go_simp; go_at_call 65; (with_reducible refine (HSu.out _ _ hX1 h11).mono ?_); rintro q2 w12 ⟨v12,rfl,h12,hx12⟩; have hX2:=hX1.trans hx12; obtain ⟨n12,a12,l12,c12,a12',l12',c12',rfl⟩:=h12.shape)
  refine hK.out _ _ (hX2) (fun hHeld=>?_)
  clear hK K
  (try go_frame)
  have hbt:=HSsb.out.keep hX2
  obtain ⟨d0,d1,d2,d3,d4,d5⟩:=hbt.facts
  have hpt:=hbt.put (neg:=n12) (no_int a12 l12 c12) (no_int a12' l12' c12')
  have HPt:=bH (bI hpt.box (bI (hpt.rat h12) (bI hpt.ext hpt.rds)))
  refine ends_last rfl (by kernel_rfl) (fun K hK=>?_)
  go_simp
  refine hK.out _ _ ?_
  clear hK K
  (try go_frame)
  refine ends_done (by kernel_rfl) ?_ _
  have HP:=bH (bI HPt.out.1 (bI HPt.out.2.1 (bI ((HR.out.2.2.1.trans hX2).own HPt.out.2.2.1 (fun k e=>by have e':k=sb:=e; omega)) ((HR.out.2.2.2.keep hX2).ext HPt.out.2.2.1 (fun e=>by have e':lb+1=sb:=e; omega)))))
  clear hbt hpt h11 h12 hx11 hx12 hX1 hX2 HPt HSsb HR hHeld d0 d1 d2 d3 d4 d5 o0 o1 o2 HDo HSu
  generalize ((w12.setCell ⟨sb,0,none⟩ (.bool n12)).setCell ⟨sb,1,none⟩ (.slice a12 l12 c12)).setCell ⟨sb,2,none⟩ (.slice a12' l12' c12')=w9 at *
  obtain ⟨o0,o1,o2,-⟩:=HP.out.1.facts
  replace o0:=cq o0
  replace o1:=cq o1
  replace o2:=cq o2
  have HSrb:=bH HP.out.2.2.2
  have hqy:=HP.out.2.1
  have HM:=bH (fun W u (hW:XF w9 W) (hu:IsRat W u (sgn:Rat))=>rmul_any W _ u (q0 - dotQ ts z) (sgn:Rat) (ts.length*5+6+(1+ts.length*(L+3))+1) ((hqy.keep hW).reads HTz.out) (hu.reads (HSg.out.mono (by omega))) (by omega) (by have:=HLen.out.2.2; omega))
  clear hqy
  go_upto_region 13 with fail
  refine ends_begin 4 (XF w9) (by kernel_rfl) ((Ext.refl _ w9).drew) (fun hHeld=>?_)
  refine et 0 (h:=(et 1 (h:=?_)))
  (try go_frame)
  refine est 2 (h:=fun K hK=>?_)
  (go_simp; go_at_call 66; (with_reducible refine (HFs.out _).mono ?_); rintro q1 w11 ⟨v11,rfl,h11,hx11⟩; have hX1:=hHeld.trans hx11; obtain ⟨n11,a11,l11,c11,a11',l11',c11',rfl⟩:=h11.shape)
  refine hK.out _ _ (hX1) (fun hHeld=>?_)
  clear hK K
  (try go_frame)
  refine est 3 (h:=fun K hK=>?_)
  (go_simp; go_at_call 112; (with_reducible refine (HM.out _ _ hX1 h11).mono ?_); rintro q2 w12 ⟨v12,rfl,h12,hx12⟩; have hX2:=hX1.trans hx12; obtain ⟨n12,a12,l12,c12,a12',l12',c12',rfl⟩:=h12.shape)
  refine hK.out _ _ (hX2) (fun hHeld=>?_)
  clear hK K
  (try go_frame)
  have hbt:=HSrb.out.keep hX2
  obtain ⟨d0,d1,d2,d3,d4,d5⟩:=hbt.facts
  have hpt:=hbt.put (neg:=n12) (no_int a12 l12 c12) (no_int a12' l12' c12')
  have HPt:=bH (bI hpt.box (bI (hpt.rat h12) (bI hpt.ext hpt.rds)))
  refine ends_last rfl (by kernel_rfl) (fun K hK=>?_)
  go_simp
  refine hK.out _ _ ?_
  clear hK K
  (try go_frame)
  refine ends_done (by kernel_rfl) ?_ _
  have HQ:=bH (bI HPt.out.1 (bI HPt.out.2.1 ((HP.out.2.2.1.trans hX2).own HPt.out.2.2.1 (fun k e=>by have e':k=lb+1:=e; omega))))
  clear hbt hpt h11 h12 hx11 hx12 hX1 hX2 HPt HSrb HP hHeld d0 d1 d2 d3 d4 d5 o0 o1 o2 HM
  generalize ((w12.setCell ⟨lb+1,0,none⟩ (.bool n12)).setCell ⟨lb+1,1,none⟩ (.slice a12 l12 c12)).setCell ⟨lb+1,2,none⟩ (.slice a12' l12' c12')=w10 at *
  obtain ⟨g0,g1,g2,_⟩:=HQ.out.1.facts
  go_wp2
  exact bodyPost_ret (v:=.agg #[.bool n12,.slice a12 l12 c12,.slice a12' l12' c12']) (by simp [results,Tryz.results179,go_sem,g0,g1,g2]) rfl ⟨_,rfl,by rw [HE.out]; exact HQ.out.2.1,HQ.out.2.2⟩
def limC (l:LimV):List Value:=[.int .i64 l.row,.int .i64 l.var,.bool l.tur]
theorem limC_length (l:LimV):(limC l).length=3:=rfl
theorem limC_noD (l:LimV):NoD (limC l):=fun u hu d e=>by
 simp [limC] at hu
 rcases hu with rfl | rfl | rfl <;> cases e
theorem limC_one (l:LimV):∀ u ∈ limC l,u.oneCell'=true:=fun u hu=>by
 simp [limC] at hu
 rcases hu with rfl | rfl | rfl <;> rfl
theorem limsC_noD (ls:List LimV):NoD (ls.flatMap limC):=fun u hu=>by
 obtain ⟨x,hx,hu⟩:=List.mem_flatMap.1 hu
 exact limC_noD x u hu
structure LimAt (w:World) (base:Nat) (v:Value) (us:List LimV):Prop where
 own:w.ownsRow base 142 3 v us.length (us.flatMap limC)
 noDig:∀ g,v.ownBlock=some g->NoDig w g
section
variable {w w':World} {base:Nat} {v:Value} {us:List LimV}
theorem LimAt.past {S:Nat->Prop} (h:LimAt w base v us) (hx:Ext S w w') (hn:∀ g,v.ownBlock=some g->¬ S g):LimAt w' base v us :=
 ⟨ownsRow_ext h.own hx hn,fun g hg i d hc=>h.noDig g hg i d (by rw [<- hx.cell (p:=⟨g,i,none⟩) (h.own.lt g hg).2 (hn g hg)]; exact hc)⟩
theorem LimAt.keep (h:LimAt w base v us) (hx:XF w w'):LimAt w' base v us:=h.past hx (fun _ _=>id)
theorem LimAt.shape (h:LimAt w base v us):∃ ao cap,v=.slice ao us.length cap:=ownsRow_shape h.own
theorem LimAt.at (h:LimAt w base v us) {i:Nat} (hi:i<us.length):∃ g cap,v=.slice (some ⟨g,0,none⟩) us.length cap/\w.cell? ⟨g,i*3,none⟩=some (.int .i64 (us.getD i lim0).row)/\w.cell? ⟨g,i*3+1,none⟩=some (.int .i64 (us.getD i lim0).var)/\w.cell? ⟨g,i*3+2,none⟩=some (.bool (us.getD i lim0).tur):=by
 rcases h.own.2 with ⟨_,h0⟩ | ⟨g,cap,cur,rfl,_⟩
 ·omega
 ·rw [getD_lt hi lim0]
  have hx:=List.getElem?_eq_getElem hi
  exact ⟨g,cap,rfl,row_at limC_length h.own i hx 0 (by decide) rfl,row_at limC_length h.own i hx 1 (by decide) rfl,row_at limC_length h.own i hx 2 (by decide) rfl⟩
theorem LimAt.typ (h:LimAt w base v us):∀ g,v.ownBlock=some g->∃ arr,blk w g=some (.cells arr 142 (0,0)):=fun g hg=>by
 rcases h.own.2 with ⟨rfl,_⟩ | ⟨g',cap,cur,rfl,_,h3,_⟩
 ·cases hg
 ·cases hg; exact ⟨cur,h3⟩
end
def QRow (w:World) (v:Value) (m:Nat) (q:Nat->Rat):Prop:=∃ ao c,v=.slice ao m c/\m<=9223372036854775807/\∀ i,i<m->∃ g off,ao=some ⟨g,off,none⟩ /\
 ∃ ng a1 m1 c1 a2 m2 c2,w.cell? ⟨g,off+i*3,none⟩=some (.bool ng)/\w.cell? ⟨g,off+i*3+1,none⟩=some (.slice a1 m1 c1)/\w.cell? ⟨g,off+i*3+2,none⟩=some (.slice a2 m2 c2)/\IsRat w (.agg #[.bool ng,.slice a1 m1 c1,.slice a2 m2 c2]) (q i)
theorem QRow.keep {w w':World} {v:Value} {m:Nat} {q:Nat->Rat} (h:QRow w v m q) (hx:XF w w'):QRow w' v m q:=by
 obtain ⟨ao,c,e,h1,h2⟩:=h
 refine ⟨ao,c,e,h1,fun i hi=>?_⟩
 obtain ⟨g,off,e2,ng,a1,m1,c1,a2,m2,c2,k0,k1,k2,k3⟩:=h2 i hi
 exact ⟨g,off,e2,ng,a1,m1,c1,a2,m2,c2,cell_keep k0 hx,cell_keep k1 hx,cell_keep k2 hx,k3.keep hx⟩
theorem RatAt.qrow {w:World} {base m:Nat} {v:Value} {f:Nat->Rat} (h:RatAt w base v m f) (hm:m<=1000000):QRow w v m f:=by
 rcases h with ⟨rfl,rfl⟩ | ⟨g,cap,rfl,_,_,_,h3,_⟩
 ·exact ⟨none,0,rfl,Nat.zero_le _,fun i hi=>absurd hi (Nat.not_lt_zero i)⟩
 ·refine ⟨_,cap,rfl,by omega,fun i hi=>⟨g,0,rfl,?_⟩⟩
  obtain ⟨ng,a1,m1,c1,a2,m2,c2,k0,k1,k2,k3⟩:=h3.cells i hi
  refine ⟨ng,a1,m1,c1,a2,m2,c2,?_,?_,?_,k3⟩
  ·rw [Nat.zero_add]; exact k0
  ·rw [Nat.zero_add]; exact k1
  ·rw [Nat.zero_add]; exact k2
section
variable {P:Program} {md:Region.Mode} {ops:Array Oper} {Q:Exit->Act->World->Prop} {S S':World->Prop} {k:Nat->Bool}
def EndsM (P:Program) (md:Region.Mode) (ops:Array Oper) (Q:Exit->Act->World->Prop) (S:World->Prop) (k:Nat->Bool):Nat->Array Bool->Act->World->Prop
 | 0,ls,a,w=>Region.ready md ops ls=[]/\Q .normal a w
 | n+1,ls,a,w=>(Region.ready md ops ls=[]->Q .normal a w)/\∀ i ∈ Region.ready md ops ls,wpOp P ops Q i (fun a' w'=>(k i=false->S w->S w')/\EndsM P md ops Q S k n (ls.setIfInBounds i true) a' w') a w
theorem EndsM.any:∀ (n:Nat) (ls:Array Bool) (a:Act) (w:World),EndsM P md ops Q S k n ls a w->wpAny P md ops Q n ls a w
 | 0,_,_,_,h=>h
 | n+1,_,_,_,h=>⟨h.1,fun i hi=>wpOp_mono (fun a w h=>EndsM.any n _ a w h.2) (h.2 i hi)⟩
theorem EndsM.takeF {i:Nat} {oi:Oper} {v:Value} (hi:ops[i]?=some oi) (hsel:∀ (j:Nat) (o:Oper) cs b,ops[j]?=some o->o.op≠.select cs b) (hQ:∀ c a w,Q (.panic c) (a.put oi.dst v) w->Q (.panic c) a w) :
  ∀ (n:Nat) (ls:Array Bool) (a:Act) (w:World),Apart md ops i oi ls->i ∈ Region.ready md ops ls->YieldsIf P ops (fun _=>True) oi v a->EndsM P md ops Q S k n (ls.setIfInBounds i true) (a.put oi.dst v) w->EndsM P md ops Q S k (n+1) ls a w:=by
 have first:∀ (n:Nat) (ls:Array Bool) (a:Act) (w:World),YieldsIf P ops (fun _=>True) oi v a->EndsM P md ops Q S k n (ls.setIfInBounds i true) (a.put oi.dst v) w->wpOp P ops Q i (fun a' w'=>(k i=false->S w->S w')/\EndsM P md ops Q S k n (ls.setIfInBounds i true) a' w') a w :=
  fun n ls a w hy H=>hy.wpOp hi trivial ⟨fun _ hs=>hs,H⟩
 intro n
 induction n with
 | zero =>
  intro ls a w _ hr hy H
  refine ⟨fun h=>(by rw [h] at hr; cases hr),fun j hj=>?_⟩
  rcases Decidable.em (j=i) with e | e
  ·rw [e]; exact first 0 ls a w hy H
  ·have:=ready_mono hj e
   rw [H.1] at this; cases this
 | succ n ih =>
  intro ls a w hap hr hy H
  refine ⟨fun h=>(by rw [h] at hr; cases hr),fun j hj=>?_⟩
  rcases Decidable.em (j=i) with e | e
  ·rw [e]; exact first (n+1) ls a w hy H
  ·obtain ⟨hju,oj,hoj,_⟩:=mem_ready.1 hj
   have h2:=wpOp_putIf hoj (hap j oj hoj e hju (unlisted hr hoj hj)) (fun cs b=>hsel i oi cs b hi) (fun cs b=>hsel j oj cs b hoj) hQ hy (H.2 j (ready_mono hj e))
   refine wpOp_mono (fun a' w' h3=>?_) h2
   have hr':i ∈ Region.ready md ops (ls.setIfInBounds j true):=ready_mono hr (Ne.symm e)
   exact ⟨h3.2.1,ih _ a' w' (hap.next hju) hr' h3.1 (by rw [Array.setIfInBounds_comm _ _ e]; exact h3.2.2)⟩
theorem EndsM.takeD {i:Nat} {oi:Oper} {v:Value} (D:Nat->Prop) (hi:ops[i]?=some oi) (hsel:∀ (j:Nat) (o:Oper) cs b,ops[j]?=some o->o.op≠.select cs b) (hQ:∀ c a w,Q (.panic c) (a.put oi.dst v) w->Q (.panic c) a w)
  (hD:∀ p,D p->∃ q,Wts md ops p q/\(q=i∨D q)) (hk:k i=false/\∀ j,k j=true->D j) :
  ∀ (n:Nat) (ls:Array Bool) (a:Act) (w:World),Apart md ops i oi ls->i ∈ Region.ready md ops ls->(∀ p,D p->ls.getD p false=false)->YieldsIf P ops S oi v a->S w->EndsM P md ops Q S k n (ls.setIfInBounds i true) (a.put oi.dst v) w->EndsM P md ops Q S k (n+1) ls a w:=by
 have first:∀ (n:Nat) (ls:Array Bool) (a:Act) (w:World),i ∈ Region.ready md ops ls->YieldsIf P ops S oi v a->S w->EndsM P md ops Q S k n (ls.setIfInBounds i true) (a.put oi.dst v) w->wpOp P ops Q i (fun a' w'=>(k i=false->S w->S w')/\EndsM P md ops Q S k n (ls.setIfInBounds i true) a' w') a w :=
  fun n ls a w _ hy hS H=>hy.wpOp hi hS ⟨fun _ hs=>hs,H⟩
 intro n
 induction n with
 | zero =>
  intro ls a w _ hr _ hy hS H
  refine ⟨fun h=>(by rw [h] at hr; cases hr),fun j hj=>?_⟩
  rcases Decidable.em (j=i) with e | e
  ·rw [e]; exact first 0 ls a w hr hy hS H
  ·have:=ready_mono hj e
   rw [H.1] at this; cases this
 | succ n ih =>
  intro ls a w hap hr hnl hy hS H
  refine ⟨fun h=>(by rw [h] at hr; cases hr),fun j hj=>?_⟩
  rcases Decidable.em (j=i) with e | e
  ·rw [e]; exact first (n+1) ls a w hr hy hS H
  ·obtain ⟨hju,oj,hoj,_⟩:=mem_ready.1 hj
   have h2:=wpOp_putIf hoj (hap j oj hoj e hju (unlisted hr hoj hj)) (fun cs b=>hsel i oi cs b hi) (fun cs b=>hsel j oj cs b hoj) hQ hy (H.2 j (ready_mono hj e))
   refine wpOp_mono (fun a' w' h3=>?_) h2
   have hr':i ∈ Region.ready md ops (ls.setIfInBounds j true):=ready_mono hr (Ne.symm e)
   have hno:∀ p,Wts md ops j p->p≠i/\ls.getD p false=true:=fun p ⟨ok,ho,e',he,hb,hon⟩=>by
    rw [hoj] at ho; cases ho
    refine ⟨fun ep=>unlisted hr hoj hj e' he hb (hon.trans ep),?_⟩
    obtain ⟨_,o2,ho2,hall⟩:=mem_ready.1 hj
    rw [hoj] at ho2; cases ho2
    rw [<- hon]; exact hall e' he hb
   have hnD:¬ D j:=fun hd=>by
    obtain ⟨q,h4,h5⟩:=hD j hd
    rcases h5 with h5 | h5
    ·exact (hno q h4).1 h5
    ·have h6:=(hno q h4).2
     rw [hnl q h5] at h6; cases h6
   have hjk:k j=false:=by
    cases hkj:k j with
    | false=>rfl
    | true=>exact absurd (hk.2 j hkj) hnD
   have hnl':∀ p,D p->(ls.setIfInBounds j true).getD p false=false:=fun p hp=>by
    have hpj:p≠j:=fun ep=>hnD (ep ▸ hp)
    rw [getD_set_ne false (Ne.symm hpj)]; exact hnl p hp
   have hS':S w':=h3.2.1 hjk hS
   exact ⟨h3.2.1,ih _ a' w' (hap.next hju) hr' hnl' h3.1 hS' (by rw [Array.setIfInBounds_comm _ _ e]; exact h3.2.2)⟩
end
section
variable {P:Program} {md:Region.Mode} {l:List Oper} {Q:Exit->Act->World->Prop} {S:World->Prop} {k:Nat}
def hangs (md:Region.Mode) (o:Oper) (i:Nat) (D:List Nat):Bool:=o.after.any fun e=>Region.binds md e && (e.on == i || D.contains e.on)
def depsOf (md:Region.Mode) (i:Nat):List Oper->Nat->List Nat->List Nat
 | [],_,D=>D
 | o :: l,j,D=>depsOf md i l (j+1) (if hangs md o i D then j :: D else D)
def depsOk (md:Region.Mode) (l:List Oper) (i:Nat) (D:List Nat):Bool:=D.all fun p=>match l[p]? with | some o=>hangs md o i D | none=>false
def lateOk (l:List Oper) (k i:Nat) (D:List Nat):Bool:=decide (i<k) && (List.range l.length).all fun j=>!decide (k<=j) || D.contains j
def idleD (ls:Array Bool) (D:List Nat):Bool:=D.all fun p=>!ls.getD p false
theorem depsOk_spec {i:Nat} {D:List Nat} (h:depsOk md l i D=true):∀ p,p ∈ D->∃ q,Wts md l.toArray p q/\(q=i∨q ∈ D):=fun p hp=>by
 have h1:=List.all_eq_true.1 h p hp
 split at h1
 ·rename_i o ho
  obtain ⟨e,he,hb⟩:=Array.any_eq_true'.1 h1
  simp only [Bool.and_eq_true,Bool.or_eq_true,beq_iff_eq,List.contains_iff_mem] at hb
  exact ⟨e.on,⟨o,by simpa using ho,e,he,hb.1,rfl⟩,hb.2⟩
 ·cases h1
theorem lateOk_spec {i:Nat} {D:List Nat} (h:lateOk l k i D=true):(fun j=>decide (k<=j) && decide (j<l.length)) i=false/\∀ j,(fun j=>decide (k<=j) && decide (j<l.length)) j=true->j ∈ D:=by
 unfold lateOk at h
 simp only [Bool.and_eq_true,decide_eq_true_eq,List.all_eq_true] at h
 refine ⟨by simp only [Bool.and_eq_false_iff,decide_eq_false_iff_not]; left; omega,fun j hj=>?_⟩
 simp only [Bool.and_eq_true,decide_eq_true_eq] at hj
 have h2:=h.2 j (List.mem_range.2 hj.2)
 rw [decide_eq_true hj.1] at h2
 simpa using h2
abbrev EndsMk (P:Program) (md:Region.Mode) (l:List Oper) (Q:Exit->Act->World->Prop) (S:World->Prop) (k:Nat) (n:Nat) (ls:Array Bool) (a:Act) (w:World):Prop:=EndsM P md l.toArray Q S (fun j=>decide (k<=j) && decide (j<l.length)) n ls a w
theorem mf (i:Nat) {oi:Oper} {v:Value} {fuel:Nat} {listed:Array Bool} {a:Act} {w:World} (hi:l[i]?=some oi:=by rfl) (hs:Region.noSelect l.toArray=true:=by kernel_rfl) (hf:Region.free md l.toArray listed i=true:=by kernel_rfl)
  (hr:(Region.ready md l.toArray listed).contains i=true:=by kernel_rfl) (hQ:∀ c a w,Q (.panic c) (a.put oi.dst v) w->Q (.panic c) a w:=by exact fun _ _ _ h=>h) (hw:Region.wanted oi (yielded l.toArray a.tmps)=true:=by rfl)
  (he:∀ w,True->(execOp a.eval oi).run P w=.ok (.value v) w:=by (intro w _; (try go_frame); go_simp) <;> with_reducible rfl) (h:EndsMk P md l Q S k fuel (listed.setIfInBounds i true) (a.put oi.dst v) w):EndsMk P md l Q S k (fuel+1) listed a w :=
 have hi':l.toArray[i]?=some oi:=by simpa using hi
 EndsM.takeF hi' (Region.noSelect_spec hs) hQ fuel listed a w (Region.free_spec hi' hf) (by simpa using hr) (.inl ⟨hw,he⟩) h
theorem mu (i:Nat) {oi:Oper} {v:Value} {fuel:Nat} {listed:Array Bool} {a:Act} {w:World} (hi:l[i]?=some oi:=by rfl) (hs:Region.noSelect l.toArray=true:=by kernel_rfl) (hf:Region.free md l.toArray listed i=true:=by kernel_rfl)
  (hr:(Region.ready md l.toArray listed).contains i=true:=by kernel_rfl) (hk:depsOk md l i (depsOf md i l 0 [])=true:=by kernel_rfl) (hl:lateOk l k i (depsOf md i l 0 [])=true:=by kernel_rfl) (hnl:idleD listed (depsOf md i l 0 [])=true:=by kernel_rfl) (hQ:∀ c a w,Q (.panic c) (a.put oi.dst v) w->Q (.panic c) a w:=by exact fun _ _ _ h=>h) (hw:Region.wanted oi (yielded l.toArray a.tmps)=true:=by rfl)
  (he:∀ w,S w->(execOp a.eval oi).run P w=.ok (.value v) w:=by (intro w hSw; (try go_frame); (try dsimp only at hSw); go_simp) <;> with_reducible rfl) (hS:S w:=by assumption) (h:EndsMk P md l Q S k fuel (listed.setIfInBounds i true) (a.put oi.dst v) w):EndsMk P md l Q S k (fuel+1) listed a w :=
 have hi':l.toArray[i]?=some oi:=by simpa using hi
 EndsM.takeD (fun p=>p ∈ depsOf md i l 0 []) hi' (Region.noSelect_spec hs) hQ (depsOk_spec hk) (lateOk_spec hl) fuel listed a w (Region.free_spec hi' hf) (by simpa using hr) (fun p hp=>by have:=List.all_eq_true.1 hnl p hp; simpa using this) (.inl ⟨hw,he⟩) hS h
theorem mst (i:Nat) {oi:Oper} {fuel:Nat} {listed:Array Bool} {a:Act} {w:World} (hi:l[i]?=some oi:=by rfl) (hr:Region.ready md l.toArray listed=[i]:=by kernel_rfl)
  (h:∀ K':Act->World->Prop,Shut (∀ a w,S w->(S w->EndsMk P md l Q S k fuel (listed.setIfInBounds i true) a w)->K' a w)->if Region.wanted oi (yielded l.toArray a.tmps)=true then Oper.wp P oi a w K' Q else K' (a.put oi.dst undef) w) :
  EndsMk P md l Q S k (fuel+1) listed a w:=by
 refine ⟨fun h0=>(by rw [hr] at h0; cases h0),fun j hj=>?_⟩
 rw [hr] at hj
 obtain rfl:=List.mem_singleton.1 hj
 exact wpOp_step (by simpa using hi) (fun K' hK=>h K' (fun a w hS hW=>hK a w ⟨fun _ _=>hS,hW hS⟩))
theorem ml (i:Nat) {oi:Oper} {fuel:Nat} {listed:Array Bool} {a:Act} {w:World} (hi:l[i]?=some oi:=by rfl) (hr:Region.ready md l.toArray listed=[i]:=by kernel_rfl) (hk:(decide (k<=i) && decide (i<l.length))=true:=by kernel_rfl)
  (h:∀ K':Act->World->Prop,Shut (∀ a w,EndsMk P md l Q S k fuel (listed.setIfInBounds i true) a w->K' a w)->if Region.wanted oi (yielded l.toArray a.tmps)=true then Oper.wp P oi a w K' Q else K' (a.put oi.dst undef) w) :
  EndsMk P md l Q S k (fuel+1) listed a w:=by
 refine ⟨fun h0=>(by rw [hr] at h0; cases h0),fun j hj=>?_⟩
 rw [hr] at hj
 obtain rfl:=List.mem_singleton.1 hj
 exact wpOp_step (by simpa using hi) (fun K' hK=>h K' (fun a w hW=>hK a w ⟨fun e=>absurd (hk.symm.trans e) (by decide),hW⟩))
theorem mdone {listed:Array Bool} {a:Act} {w:World} (hr:Region.ready md l.toArray listed=[]) (h:Q .normal a w):∀ fuel,EndsMk P md l Q S k fuel listed a w
 | 0=>⟨hr,h⟩
 | _+1=>⟨fun _=>h,by rw [hr]; simp⟩
theorem mbegin {id:Nat} {a:Act} {w:World} (k:Nat) (S:World->Prop) (hm:P.follows .mixedOrders=true) (hS:S w.drew)
  (h:S w.drew->EndsMk P .any l Q S k l.toArray.size (Array.replicate l.toArray.size false) a w.drew):(Code.region id l.toArray true).wp P Q a w :=
 wp_region_any hm (EndsM.any _ _ _ _ (h hS))
end
theorem Tryz.infoInt1:(Tryz.prog.info? 3).map (fun i=>(i.zero,i.size,i.bytes))=some (some (.int .i64 0),1,8):=by kernel_rfl
theorem Tryz.infoLimit:(Tryz.prog.info? 142).map (fun i=>(i.zero,i.size,i.bytes))=some (some (.agg #[.int .i64 0,.int .i64 0,.bool false]),3,24):=by kernel_rfl
theorem Tryz.infoRats:(Tryz.prog.info? 32).map (fun i=>(i.zero,i.size,i.bytes))=some (some (.slice none 0 0),1,24):=by kernel_rfl
structure App (w w':World) (base:Nat) (e:TypeId) (size:Nat) (v v':Value) (n:Nat) (xs news:List Value):Prop where
 own:w'.ownsRow base e size v' (n+1) (xs++news)
 ext:Ext (fun k=>v.ownBlock=some k) w w'
 rds:∀ u d,Rds w u d->Rds w' u d
 noDig:∀ g,v'.ownBlock=some g->NoDig w' g
 lies:v'.ownBlock=v.ownBlock∨v'.ownBlock=some w.heap.size
theorem step_app {w:World} {ops:Array Oper} {o:Oper} {a:Act} {K:Act->World->Prop} {Q:Exit->Act->World->Prop} {E:Prop} {z:Value} {size bytes:Nat} {e T:TypeId}
  (hgd:o.guard=none) (s x:Operand) (ho:o.op=.call { callee:=.builtin .append,args:=#[s,x],argTypes:=#[T,T] }) (ht:Tryz.prog.underlying T=some (.slice e)) (hi:(Tryz.prog.info? e).map (fun i=>(i.zero,i.size,i.bytes))=some (some z,size,bytes)) (hzs:z.cells.size=size) (hzn:NoD z.cells.toList) (hsz:0<size) (hbs:bytes<=1000)
  (base:Nat) (v:Value) (n:Nat) (xs:List Value) (hs:a.eval s=v) (hown:w.ownsRow base e size v n xs) (hnd:∀ g,v.ownBlock=some g->NoDig w g) (hxs:NoD xs) (ad:Addr) (c:Nat) (news:List Value) (hx:a.eval x=.slice (some ad) 1 c) (hl:news.length=size) (hsrc:∀ j u,news[j]?=some u->w.cell? (ad.add j)=some u) (h1:∀ u ∈ news,u.oneCell'=true) (hnn:NoD news) (hn:n<=100000) (hbase:base<=w.heap.size)
  (h:∀ v' w',App w w' base e size v v' n xs news->K (a.put o.dst v') w') :
  if Region.wanted o (yielded ops a.tmps)=true then Oper.wp Tryz.prog o a w K Q else E:=by
 have hw:Region.wanted o (yielded ops a.tmps)=true:=by simp [Region.wanted,hgd]
 rw [if_pos hw]
 obtain ⟨i0,hi0,hz0,hz1,hz2⟩:=info_parts hi
 have hby:(n+1)*bytes<=140737488355328:=Nat.le_trans (Nat.mul_le_mul (show n+1<=100001 by omega) hbs) (by decide)
 obtain ⟨v',w',hr,g1,g2,g3⟩:=run_append_any (P:=Tryz.prog) (w:=w) base T o.type e i0 z size bytes ht hi0 hz0 hz1 hz2 hzs hsz v n xs hown (some ad) 1 c (fun e=>by cases e) news (by rw [hl]; omega) (.inr ⟨ad,rfl,hsrc⟩) h1 (by unfold maxLen; omega) hby hbase
 have hx':Ext (fun k=>v.ownBlock=some k) w w':=(Ext.refl (fun k=>v.ownBlock=some k) w).grown g2 (fun k hk _=>hk)
 have hnd':=append_noDig (P:=Tryz.prog) w base T o.type e i0 z ht hi0 hz0 (by rw [hz1]; exact hzs) hzn v n xs (by rw [hz1]; exact hown) hnd hxs ad 1 c news (by rw [hz1,hl]; omega) hsrc h1 hnn (by decide) (by unfold maxLen; omega) (by rw [hz2]; exact hby) v' w' hr
 unfold Oper.wp execOp
 simp only [ho,resolve,invoke,builtin,Sem.run_bind,Sem.run_pure,Result.andThen_ok,List.map_toArray,List.map_cons,List.map_nil,hs,hx,hr]
 exact h v' w' ⟨g1,hx',fun u d hu=>hu.past hx' (fun k _ hk=>hnd k hk),hnd',g3⟩
theorem App.new {w w':World} {base size n:Nat} {e:TypeId} {v v':Value} {xs news:List Value} (h:App w w' base e size v v' n xs news):∀ g,v'.ownBlock=some g->v.ownBlock=some g∨w.heap.size<=g:=fun g hg=>by
 rcases h.lies with e | e
 ·exact .inl (by rw [<- e]; exact hg)
 ·rw [e] at hg; cases hg; exact .inr (Nat.le_refl _)
theorem take_eq {arr:Array Value} {f:Nat->Value}:∀ {m:Nat},(∀ i,i<m->arr[i]?=some (f i))->arr.toList.take m=(List.range m).map f
 | 0,_=>by simp
 | m+1,h=>by
  have hm:=h m (by omega)
  have hlt:m<arr.size:=(Array.getElem?_eq_some_iff.1 hm).1
  rw [List.take_add_one,take_eq (fun i hi=>h i (by omega)),List.range_succ,List.map_append]
  simp [hm]
section
variable {w w':World} {base:Nat} {v v':Value} {m:Nat}
def intL (m:Nat) (b:Nat->Nat):List Value:=(List.range m).map fun i=>.int .i64 (b i)
theorem intL_noD (m:Nat) (b:Nat->Nat):NoD (intL m b):=fun u hu d e=>by
 obtain ⟨i,_,rfl⟩:=List.mem_map.1 hu
 cases e
theorem IntAt.own {b:Nat->Nat} (h:IntAt w base v m b):w.ownsRow base 3 1 v m (intL m b)/\∀ g,v.ownBlock=some g->NoDig w g:=by
 rcases h with ⟨rfl,rfl⟩ | ⟨g,cap,arr,rfl,h1,h2,h3,h4,h5,h6,h7⟩
 ·exact ⟨World.ownsRow_nil w base _ 1,fun g hg=>by cases hg⟩
 ·refine ⟨⟨by simp [intL],.inr ⟨g,cap,arr,rfl,h1,h4,h2,h3,by omega,?_⟩⟩,fun g' hg=>by cases hg; exact h6⟩
  rw [Nat.mul_one]; exact take_eq h7
theorem IntAt.of {b:Nat->Nat} (h:w.ownsRow base 3 1 v m (intL m b)) (hn:∀ g,v.ownBlock=some g->NoDig w g):IntAt w base v m b:=by
 rcases h.2 with ⟨rfl,h0⟩ | ⟨g,cap,cur,rfl,h1,h2,h3,h4,h5,h6⟩
 ·exact .inl ⟨rfl,h0⟩
 ·refine .inr ⟨g,cap,cur,rfl,h1,h3,h4,h2,by omega,hn g rfl,fun i hi=>?_⟩
  have:(cur.toList.take (m*1))[i]?=(intL m b)[i]?:=by rw [h6]
  rw [List.getElem?_take_of_lt (by omega)] at this
  rw [<- Array.getElem?_toList,this]
  simp [intL,hi]
theorem IntAt.app {b:Nat->Nat} {x:Nat} (h:App w w' base 3 1 v v' m (intL m b) [.int .i64 x]):IntAt w' base v' (m+1) (fun i=>if i=m then x else b i):=by
 refine IntAt.of ?_ h.noDig
 have:intL (m+1) (fun i=>if i=m then x else b i)=intL m b++[.int .i64 x]:=by
  unfold intL
  rw [List.range_succ,List.map_append]
  congr 1
  ·refine List.map_congr_left fun i hi=>?_
   show Value.int .i64 ((if i=m then x else b i:Nat):Int)=_
   rw [if_neg (by have:=List.mem_range.1 hi; omega)]
  ·simp
 rw [this]; exact h.own
def valL' (m:Nat) (f:Nat->Value):List Value:=(List.range m).map f
theorem SlcAt.own {f:Nat->Value} (h:SlcAt w base v m f):w.ownsRow base 32 1 v m (valL' m f):=by
 rcases h with ⟨rfl,rfl⟩ | ⟨g,cap,arr,rfl,h1,h2,h3,h4,h5,h7⟩
 ·exact World.ownsRow_nil w base _ 1
 ·refine ⟨by simp [valL'],.inr ⟨g,cap,arr,rfl,h1,h4,h2,h3,by omega,?_⟩⟩
  rw [Nat.mul_one]; exact take_eq h7
theorem SlcAt.of {f:Nat->Value} (h:w.ownsRow base 32 1 v m (valL' m f)):SlcAt w base v m f:=by
 rcases h.2 with ⟨rfl,h0⟩ | ⟨g,cap,cur,rfl,h1,h2,h3,h4,h5,h6⟩
 ·exact .inl ⟨rfl,h0⟩
 ·refine .inr ⟨g,cap,cur,rfl,h1,h3,h4,h2,by omega,fun i hi=>?_⟩
  have:(cur.toList.take (m*1))[i]?=(valL' m f)[i]?:=by rw [h6]
  rw [List.getElem?_take_of_lt (by omega)] at this
  rw [<- Array.getElem?_toList,this]
  simp [valL',hi]
theorem SlcAt.app {f:Nat->Value} {x:Value} (h:App w w' base 32 1 v v' m (valL' m f) [x]):SlcAt w' base v' (m+1) (fun i=>if i=m then x else f i):=by
 refine SlcAt.of ?_
 have:valL' (m+1) (fun i=>if i=m then x else f i)=valL' m f++[x]:=by
  unfold valL'
  rw [List.range_succ,List.map_append]
  congr 1
  ·exact List.map_congr_left fun i hi=>by rw [if_neg (by have:=List.mem_range.1 hi; omega)]
  ·simp
 rw [this]; exact h.own
theorem SlcAt.congr {f g:Nat->Value} (h:SlcAt w base v m f) (e:∀ i,i<m->f i=g i):SlcAt w base v m g:=by
 rcases h with h | ⟨b,cap,arr,h1,h2,h3,h4,h5,h6,h7⟩
 ·exact .inl h
 ·exact .inr ⟨b,cap,arr,h1,h2,h3,h4,h5,h6,fun i hi=>by rw [<- e i hi]; exact h7 i hi⟩
def QCells (w:World) (xs:List Value) (m:Nat) (f:Nat->Rat):Prop:=∀ i,i<m->∃ ng a1 m1 c1 a2 m2 c2,xs[i*3]?=some (.bool ng)/\xs[i*3+1]?=some (.slice a1 m1 c1)/\xs[i*3+2]?=some (.slice a2 m2 c2)/\IsRat w (.agg #[.bool ng,.slice a1 m1 c1,.slice a2 m2 c2]) (f i)
theorem RatAt.own {f:Nat->Rat} (h:RatAt w base v m f):∃ xs,w.ownsRow base 31 3 v m xs/\(∀ g,v.ownBlock=some g->NoDig w g)/\NoD xs/\QCells w xs m f:=by
 rcases h with ⟨rfl,rfl⟩ | ⟨g,cap,rfl,h1,h2,h3,h4,arr,h5,h6⟩
 ·exact ⟨[],World.ownsRow_nil w base _ 3,fun g hg=>(by cases hg),fun u hu=>(by cases hu),fun i hi=>absurd hi (Nat.not_lt_zero i)⟩
 ·refine ⟨arr.toList.take (m*3),⟨?_,.inr ⟨g,cap,arr,rfl,h1,h5,h2,h3,h6,rfl⟩⟩,fun g' hg=>(by cases hg; exact h4.noDig),(h4.noDig.cells h5).take _,fun i hi=>?_⟩
  ·rw [List.length_take,Array.length_toList,h6]
   have:=Nat.mul_le_mul_right 3 h2
   omega
  ·obtain ⟨ng,a1,m1,c1,a2,m2,c2,k0,k1,k2,k3⟩:=h4.cells i hi
   rw [cell_of_cells h5] at k0 k1 k2
   refine ⟨ng,a1,m1,c1,a2,m2,c2,?_,?_,?_,k3⟩
   ·rw [List.getElem?_take_of_lt (by omega),Array.getElem?_toList]; exact k0
   ·rw [List.getElem?_take_of_lt (by omega),Array.getElem?_toList]; exact k1
   ·rw [List.getElem?_take_of_lt (by omega),Array.getElem?_toList]; exact k2
theorem RatAt.of {xs:List Value} {f:Nat->Rat} (h:w.ownsRow base 31 3 v m xs) (hn:∀ g,v.ownBlock=some g->NoDig w g) (hq:QCells w xs m f):RatAt w base v m f:=by
 have hcl:=h.1
 rcases h.2 with ⟨rfl,h0⟩ | ⟨g,cap,cur,rfl,h1,h2,h3,h4,h5,h6⟩
 ·exact .inl ⟨rfl,h0⟩
 ·refine .inr ⟨g,cap,rfl,h1,h3,h4,⟨⟨cur,h2,by rw [h5]; exact Nat.mul_le_mul_right 3 h3⟩,hn g rfl,fun i hi=>?_⟩,cur,h2,h5⟩
  obtain ⟨ng,a1,m1,c1,a2,m2,c2,k0,k1,k2,k3⟩:=hq i hi
  rw [<- h6] at k0 k1 k2
  rw [List.getElem?_take_of_lt (by omega),Array.getElem?_toList] at k0 k1 k2
  exact ⟨ng,a1,m1,c1,a2,m2,c2,(cell_of_cells h2 _).trans k0,(cell_of_cells h2 _).trans k1,(cell_of_cells h2 _).trans k2,k3⟩
theorem RatAt.app {xs:List Value} {f:Nat->Rat} {x:RatC} {q:Rat} (h:App w w' base 31 3 v v' m xs x.cells) (hq:QCells w xs m f) (hl:xs.length=m*3) (hx:IsRat w x.v q):RatAt w' base v' (m+1) (fun i=>if i=m then q else f i):=by
 refine RatAt.of h.own h.noDig fun i hi=>?_
 by_cases e:i=m
 ·subst e
  refine ⟨x.ng,x.a1,x.m1,x.c1,x.a2,x.m2,x.c2,?_,?_,?_,?_⟩
  ·rw [List.getElem?_append_right (by omega),show i*3 - xs.length=0 by omega]; rfl
  ·rw [List.getElem?_append_right (by omega),show i*3+1 - xs.length=1 by omega]; rfl
  ·rw [List.getElem?_append_right (by omega),show i*3+2 - xs.length=2 by omega]; rfl
  ·rw [if_pos rfl]; exact hx.past h.rds
 ·obtain ⟨ng,a1,m1,c1,a2,m2,c2,k0,k1,k2,k3⟩:=hq i (by omega)
  refine ⟨ng,a1,m1,c1,a2,m2,c2,?_,?_,?_,?_⟩
  ·rw [List.getElem?_append_left (by omega)]; exact k0
  ·rw [List.getElem?_append_left (by omega)]; exact k1
  ·rw [List.getElem?_append_left (by omega)]; exact k2
  ·rw [if_neg e]; exact k3.past h.rds
theorem LimAt.app {us:List LimV} {l:LimV} (h:App w w' base 142 3 v v' us.length (us.flatMap limC) (limC l)):LimAt w' base v' (us++[l]):=by
 refine ⟨?_,h.noDig⟩
 have:=h.own
 rw [List.length_append,List.flatMap_append]
 simpa using this
end
section
variable {P:Program} {md:Region.Mode} {l:List Oper} {Q:Exit->Act->World->Prop} {S:World->Prop} {k:Nat}
theorem mtwo (i j:Nat) {oi oj:Oper} {fuel:Nat} {listed:Array Bool} {a:Act} {w:World} (hi:l[i]?=some oi) (hj:l[j]?=some oj) (hr:Region.ready md l.toArray listed=[i,j])
  (h1:∀ K':Act->World->Prop,Shut (∀ a w,S w->(S w->EndsMk P md l Q S k fuel (listed.setIfInBounds i true) a w)->K' a w)->if Region.wanted oi (yielded l.toArray a.tmps)=true then Oper.wp P oi a w K' Q else K' (a.put oi.dst undef) w)
  (h2:∀ K':Act->World->Prop,Shut (∀ a w,S w->(S w->EndsMk P md l Q S k fuel (listed.setIfInBounds j true) a w)->K' a w)->if Region.wanted oj (yielded l.toArray a.tmps)=true then Oper.wp P oj a w K' Q else K' (a.put oj.dst undef) w) :
  EndsMk P md l Q S k (fuel+1) listed a w:=by
 refine ⟨fun h0=>(by rw [hr] at h0; cases h0),fun q hq=>?_⟩
 rw [hr] at hq
 rcases List.mem_cons.1 hq with rfl | hq
 ·exact wpOp_step (by simpa using hi) (fun K' hK=>h1 K' (fun a w hS hW=>hK a w ⟨fun _ _=>hS,hW hS⟩))
 ·obtain rfl:=List.mem_singleton.1 hq
  exact wpOp_step (by simpa using hj) (fun K' hK=>h2 K' (fun a w hS hW=>hK a w ⟨fun _ _=>hS,hW hS⟩))
end
structure TabV.All (V:TabV) (m k:Nat):Prop where
 ex:V.ba.ownBlock=some k∨V.fr.ownBlock=some k∨V.be.ownBlock=some k∨V.d.ownBlock=some k∨V.al.ownBlock=some k∨V.u.ownBlock=some k∨V.l.ownBlock=some k∨V.mp=.map (some k)∨∃ i,i<m/\k=V.rb i
def MapAt (w:World) (base:Nat) (v:Value) (ms:List LimV):Prop:=∃ mb es clock,v=.map (some mb)/\base<=mb/\blk w mb=some (.map es clock)/\LimMap es ms/\Stamped es clock
structure TRest (w:World) (base:Nat) (V:TabV) (n m1 m2 m3:Nat) (F:TabF) (us ls ms:List LimV):Prop where
 ba:IntAt w base V.ba m1 F.ba
 fr:IntAt w base V.fr n F.fr
 be:RatAt w base V.be m2 F.be
 d:RatAt w base V.d n F.d
 al:SlcAt w base V.al m3 (fun i=>.slice (some ⟨V.rb i,0,none⟩) n n)
 aln:∀ g,V.al.ownBlock=some g->NoDig w g
 rows:∀ i,i<m3->RCap w (V.rb i) n (F.al i)/\base<=V.rb i
 rr:∀ i j,i<m3->j<m3->i≠j->V.rb i≠V.rb j
 rbe:∀ i,i<m3->V.be.ownBlock≠some (V.rb i)
 rd:∀ i,i<m3->V.d.ownBlock≠some (V.rb i)
 bed:∀ g,V.be.ownBlock=some g->V.d.ownBlock≠some g
 bf:∀ g,V.ba.ownBlock=some g->V.fr.ownBlock≠some g
 u:LimAt w base V.u us
 l:LimAt w base V.l ls
 ul:∀ g,V.u.ownBlock=some g->V.l.ownBlock≠some g
 mp:MapAt w base V.mp ms
section
variable {w w':World} {base tb n m1 m2 m3:Nat} {V:TabV} {F:TabF} {us ls ms:List LimV}
theorem MapAt.past {S:Nat->Prop} {v:Value} (h:MapAt w base v ms) (hx:Ext S w w') (hn:∀ k,v=.map (some k)->¬ S k):MapAt w' base v ms:=by
 obtain ⟨mb,es,clock,h1,h2,h3,h4⟩:=h
 exact ⟨mb,es,clock,h1,h2,(hx.blk (blk_lt h3) (hn mb h1)).trans h3,h4⟩
def TyB (w:World) (k:Nat) (T:TypeId):Prop:=∃ arr,blk w k=some (.cells arr T (0,0))
theorem TyB.ne {k k':Nat} {T T':TypeId} (h:TyB w k T) (h':TyB w k' T') (hn:T≠T'):k≠k':=by
 obtain ⟨a,ha⟩:=h
 obtain ⟨b,hb⟩:=h'
 exact typ_ne ha hb hn
theorem TyB.neMap {k mb:Nat} {T:TypeId} {es:Array MapEntry} {clock:Nat} (h:TyB w k T) (hb:blk w mb=some (.map es clock)):k≠mb:=fun e=>by
 obtain ⟨a,ha⟩:=h
 rw [e,hb] at ha; cases ha
theorem TRest.rowT (h:TRest w base V n m1 m2 m3 F us ls ms) {i:Nat} (hi:i<m3):TyB w (V.rb i) 31:=by
 obtain ⟨arr,ha,_⟩:=(h.rows i hi).1.row
 exact ⟨arr,ha⟩
theorem TRest.past {S:Nat->Prop} (h:TRest w base V n m1 m2 m3 F us ls ms) (hx:Ext S w w') (hr:∀ u l,Rds w u l->Rds w' u l) (hn:∀ k,V.All m3 k->¬ S k):TRest w' base V n m1 m2 m3 F us ls ms where
 ba:=h.ba.past hx fun g hg=>hn g ⟨.inl hg⟩
 fr:=h.fr.past hx fun g hg=>hn g ⟨.inr (.inl hg)⟩
 be:=h.be.past hx (fun g hg=>hn g ⟨.inr (.inr (.inl hg))⟩) hr
 d:=h.d.past hx (fun g hg=>hn g ⟨.inr (.inr (.inr (.inl hg)))⟩) hr
 al:=h.al.past hx fun g hg=>hn g ⟨.inr (.inr (.inr (.inr (.inl hg))))⟩
 aln:=fun g hg i d hc=>h.aln g hg i d (by
  obtain ⟨arr,ha⟩:=h.al.typ g hg
  rw [<- hx.cell (p:=⟨g,i,none⟩) (blk_lt ha) (hn g ⟨.inr (.inr (.inr (.inr (.inl hg))))⟩)]; exact hc)
 rows:=fun i hi=>⟨(h.rows i hi).1.past hx (hn _ ⟨.inr (.inr (.inr (.inr (.inr (.inr (.inr (.inr ⟨i,hi,rfl⟩)))))))⟩) hr,(h.rows i hi).2⟩
 rr:=h.rr
 rbe:=h.rbe
 rd:=h.rd
 bed:=h.bed
 bf:=h.bf
 u:=h.u.past hx fun g hg=>hn g ⟨.inr (.inr (.inr (.inr (.inr (.inl hg)))))⟩
 l:=h.l.past hx fun g hg=>hn g ⟨.inr (.inr (.inr (.inr (.inr (.inr (.inl hg))))))⟩
 ul:=h.ul
 mp:=h.mp.past hx fun g hg=>hn g ⟨.inr (.inr (.inr (.inr (.inr (.inr (.inr (.inl hg)))))))⟩
theorem TRest.keep (h:TRest w base V n m1 m2 m3 F us ls ms) (hx:XF w w'):TRest w' base V n m1 m2 m3 F us ls ms:=h.past hx (fun _ _ hr=>hr.keep hx) (fun _ _=>id)
theorem TRest.old (h:TRest w base V n m1 m2 m3 F us ls ms) {k:Nat} (hk:V.All m3 k):k<w.heap.size:=by
 rcases hk.ex with hk | hk | hk | hk | hk | hk | hk | hk | ⟨i,hi,rfl⟩
 ·obtain ⟨_,h1⟩:=h.ba.typ k hk; exact blk_lt h1
 ·obtain ⟨_,h1⟩:=h.fr.typ k hk; exact blk_lt h1
 ·obtain ⟨_,h1⟩:=h.be.typ k hk; exact blk_lt h1
 ·obtain ⟨_,h1⟩:=h.d.typ k hk; exact blk_lt h1
 ·obtain ⟨_,h1⟩:=h.al.typ k hk; exact blk_lt h1
 ·exact (h.u.own.lt k hk).2
 ·exact (h.l.own.lt k hk).2
 ·obtain ⟨mb,es,clock,h1,_,h3,_⟩:=h.mp
  rw [h1] at hk; cases hk; exact blk_lt h3
 ·exact (h.rows i hi).1.lt
theorem TRest.low (h:TRest w base V n m1 m2 m3 F us ls ms) {k:Nat} (hk:V.All m3 k):base<=k:=by
 rcases hk.ex with hk | hk | hk | hk | hk | hk | hk | hk | ⟨i,hi,rfl⟩
 ·exact h.ba.low k hk
 ·exact h.fr.low k hk
 ·exact h.be.low k hk
 ·exact h.d.low k hk
 ·rcases h.al with ⟨e,_⟩ | ⟨g,cap,arr,e,h1,_⟩
  ·rw [e] at hk; cases hk
  ·rw [e] at hk; cases hk; exact h1
 ·exact (h.u.own.lt k hk).1
 ·exact (h.l.own.lt k hk).1
 ·obtain ⟨mb,es,clock,h1,h2,_⟩:=h.mp
  rw [h1] at hk; cases hk; exact h2
 ·exact (h.rows i hi).2
theorem TRest.ne (h:TRest w base V n m1 m2 m3 F us ls ms) {b:Nat} {T:TypeId} (hb:TyB w b T) (h1:T≠3) (h2:T≠31) (h3:T≠32) (h4:T≠142) {k:Nat} (hk:V.All m3 k):k≠b:=by
 rcases hk.ex with hk | hk | hk | hk | hk | hk | hk | hk | ⟨i,hi,rfl⟩
 ·exact TyB.ne (h.ba.typ k hk) hb (Ne.symm h1)
 ·exact TyB.ne (h.fr.typ k hk) hb (Ne.symm h1)
 ·exact TyB.ne (h.be.typ k hk) hb (Ne.symm h2)
 ·exact TyB.ne (h.d.typ k hk) hb (Ne.symm h2)
 ·exact TyB.ne (h.al.typ k hk) hb (Ne.symm h3)
 ·exact TyB.ne (h.u.typ k hk) hb (Ne.symm h4)
 ·exact TyB.ne (h.l.typ k hk) hb (Ne.symm h4)
 ·obtain ⟨mb,es,clock,h5,_,h6,_⟩:=h.mp
  rw [h5] at hk; cases hk; exact (hb.neMap h6).symm
 ·exact TyB.ne (h.rowT hi) hb (Ne.symm h2)
theorem TRest.box (h:TRest w base V n m1 m2 m3 F us ls ms) {arr:Array Value} (hb:blk w tb=some (.cells arr 140 (0,0))) (hnd:NoDig w tb) (i:Nat) (u:Value):TRest (w.setCell ⟨tb,i,none⟩ u) base V n m1 m2 m3 F us ls ms/\(∀ v l,Rds w v l->Rds (w.setCell ⟨tb,i,none⟩ u) v l)/\Ext (fun k=>k=tb) w (w.setCell ⟨tb,i,none⟩ u):=by
 have hx:Ext (fun k=>k=tb) w (w.setCell ⟨tb,i,none⟩ u):=(Ext.refl (fun k=>k=tb) w).setCell (p:=⟨tb,i,none⟩) _ (fun _=>rfl)
 have hr:∀ v l,Rds w v l->Rds (w.setCell ⟨tb,i,none⟩ u) v l:=fun v l hv=>hv.past hx (fun k _ e=>by subst e; exact hnd)
 exact ⟨h.past hx hr (fun k hk=>h.ne ⟨arr,hb⟩ (by decide) (by decide) (by decide) (by decide) hk),hr,hx⟩
section
variable (h:TRest w base V n m1 m2 m3 F us ls ms)
include h
theorem TRest.appBa {v':Value} {x:Nat} (ha:App w w' base 3 1 V.ba v' m1 (intL m1 F.ba) [.int .i64 x]):TRest w' base { V with ba:=v' } n (m1+1) m2 m3 { F with ba:=fun i=>if i=m1 then x else F.ba i } us ls ms:=by
 have ne:∀ {k:Nat} {T:TypeId},TyB w k T->T≠3->¬ V.ba.ownBlock=some k:=fun hk hT e=>TyB.ne (h.ba.typ _ e) hk (Ne.symm hT) rfl
 exact {
     ba:=IntAt.app ha
     fr:=h.fr.past ha.ext fun g hg e=>h.bf g e hg
     be:=h.be.past ha.ext (fun g hg=>ne (h.be.typ g hg) (by decide)) ha.rds
     d:=h.d.past ha.ext (fun g hg=>ne (h.d.typ g hg) (by decide)) ha.rds
     al:=h.al.past ha.ext fun g hg=>ne (h.al.typ g hg) (by decide)
     aln:=fun g hg i d hc=>h.aln g hg i d (by
      obtain ⟨arr,ha2⟩:=h.al.typ g hg
      rw [<- ha.ext.cell (p:=⟨g,i,none⟩) (blk_lt ha2) (ne ⟨arr,ha2⟩ (by decide))]; exact hc)
     rows:=fun i hi=>⟨(h.rows i hi).1.past ha.ext (ne (h.rowT hi) (by decide)) ha.rds,(h.rows i hi).2⟩
     rr:=h.rr
     rbe:=h.rbe
     rd:=h.rd
     bed:=h.bed
     bf:=fun g hg e=>by
      rcases ha.new g hg with e2 | e2
      ·exact h.bf g e2 e
      ·obtain ⟨arr,ha2⟩:=h.fr.typ g e
       have:=blk_lt ha2; omega
     u:=h.u.past ha.ext fun g hg=>ne (h.u.typ g hg) (by decide)
     l:=h.l.past ha.ext fun g hg=>ne (h.l.typ g hg) (by decide)
     ul:=h.ul
     mp:=h.mp.past ha.ext fun k hk e=>by
      obtain ⟨mb,es,clock,h5,_,h6,_⟩:=h.mp
      rw [h5] at hk; cases hk
      exact TyB.neMap (h.ba.typ _ e) h6 rfl }
theorem TRest.appU {v':Value} {x:LimV} (ha:App w w' base 142 3 V.u v' us.length (us.flatMap limC) (limC x)):TRest w' base { V with u:=v' } n m1 m2 m3 F (us++[x]) ls ms:=by
 have ne:∀ {k:Nat} {T:TypeId},TyB w k T->T≠142->¬ V.u.ownBlock=some k:=fun hk hT e=>TyB.ne (h.u.typ _ e) hk (Ne.symm hT) rfl
 exact {
     ba:=h.ba.past ha.ext fun g hg=>ne (h.ba.typ g hg) (by decide)
     fr:=h.fr.past ha.ext fun g hg=>ne (h.fr.typ g hg) (by decide)
     be:=h.be.past ha.ext (fun g hg=>ne (h.be.typ g hg) (by decide)) ha.rds
     d:=h.d.past ha.ext (fun g hg=>ne (h.d.typ g hg) (by decide)) ha.rds
     al:=h.al.past ha.ext fun g hg=>ne (h.al.typ g hg) (by decide)
     aln:=fun g hg i d hc=>h.aln g hg i d (by
      obtain ⟨arr,ha2⟩:=h.al.typ g hg
      rw [<- ha.ext.cell (p:=⟨g,i,none⟩) (blk_lt ha2) (ne ⟨arr,ha2⟩ (by decide))]; exact hc)
     rows:=fun i hi=>⟨(h.rows i hi).1.past ha.ext (ne (h.rowT hi) (by decide)) ha.rds,(h.rows i hi).2⟩
     rr:=h.rr
     rbe:=h.rbe
     rd:=h.rd
     bed:=h.bed
     bf:=h.bf
     u:=LimAt.app ha
     l:=h.l.past ha.ext fun g hg e=>h.ul g e hg
     ul:=fun g hg e=>by
      rcases ha.new g hg with e2 | e2
      ·exact h.ul g e2 e
      ·have:=(h.l.own.lt g e).2; omega
     mp:=h.mp.past ha.ext fun k hk e=>by
      obtain ⟨mb,es,clock,h5,_,h6,_⟩:=h.mp
      rw [h5] at hk; cases hk
      exact TyB.neMap (h.u.typ _ e) h6 rfl }
theorem TRest.appBe {v':Value} {x:RatC} {q:Rat} {xs:List Value} (ha:App w w' base 31 3 V.be v' m2 xs x.cells) (hq:QCells w xs m2 F.be) (hl:xs.length=m2*3) (hx:IsRat w x.v q):TRest w' base { V with be:=v' } n m1 (m2+1) m3 { F with be:=fun i=>if i=m2 then q else F.be i } us ls ms:=by
 have ne:∀ {k:Nat} {T:TypeId},TyB w k T->T≠31->¬ V.be.ownBlock=some k:=fun hk hT e=>TyB.ne (h.be.typ _ e) hk (Ne.symm hT) rfl
 exact {
     ba:=h.ba.past ha.ext fun g hg=>ne (h.ba.typ g hg) (by decide)
     fr:=h.fr.past ha.ext fun g hg=>ne (h.fr.typ g hg) (by decide)
     be:=RatAt.app ha hq hl hx
     d:=h.d.past ha.ext (fun g hg e=>h.bed g e hg) ha.rds
     al:=h.al.past ha.ext fun g hg=>ne (h.al.typ g hg) (by decide)
     aln:=fun g hg i d hc=>h.aln g hg i d (by
      obtain ⟨arr,ha2⟩:=h.al.typ g hg
      rw [<- ha.ext.cell (p:=⟨g,i,none⟩) (blk_lt ha2) (ne ⟨arr,ha2⟩ (by decide))]; exact hc)
     rows:=fun i hi=>⟨(h.rows i hi).1.past ha.ext (h.rbe i hi) ha.rds,(h.rows i hi).2⟩
     rr:=h.rr
     rbe:=fun i hi e=>by
      rcases ha.new _ e with e2 | e2
      ·exact h.rbe i hi e2
      ·have e3:w.heap.size<=V.rb i:=e2
       have:=(h.rows i hi).1.lt; omega
     rd:=h.rd
     bed:=fun g hg e=>by
      rcases ha.new g hg with e2 | e2
      ·exact h.bed g e2 e
      ·obtain ⟨arr,ha2⟩:=h.d.typ g e
       have:=blk_lt ha2; omega
     bf:=h.bf
     u:=h.u.past ha.ext fun g hg=>ne (h.u.typ g hg) (by decide)
     l:=h.l.past ha.ext fun g hg=>ne (h.l.typ g hg) (by decide)
     ul:=h.ul
     mp:=h.mp.past ha.ext fun k hk e=>by
      obtain ⟨mb,es,clock,h5,_,h6,_⟩:=h.mp
      rw [h5] at hk; cases hk
      exact TyB.neMap (h.be.typ _ e) h6 rfl }
theorem TRest.appAl {v':Value} {nb:Nat} {f:Nat->Rat} (ha:App w w' base 32 1 V.al v' m3 (valL' m3 (fun i=>.slice (some ⟨V.rb i,0,none⟩) n n)) [.slice (some ⟨nb,0,none⟩) n n]) (hrow:RCap w nb n f) (hlow:base<=nb) (hrb:∀ i,i<m3->V.rb i≠nb) (hbe:V.be.ownBlock≠some nb) (hd:V.d.ownBlock≠some nb) :
  TRest w' base { V with al:=v',rb:=fun i=>if i=m3 then nb else V.rb i } n m1 m2 (m3+1) { F with al:=fun i=>if i=m3 then f else F.al i } us ls ms:=by
 have ne:∀ {k:Nat} {T:TypeId},TyB w k T->T≠32->¬ V.al.ownBlock=some k:=fun hk hT e=>TyB.ne (h.al.typ _ e) hk (Ne.symm hT) rfl
 have hnb:TyB w nb 31:=by
  obtain ⟨arr,h1,_⟩:=hrow.row
  exact ⟨arr,h1⟩
 exact {
     ba:=h.ba.past ha.ext fun g hg=>ne (h.ba.typ g hg) (by decide)
     fr:=h.fr.past ha.ext fun g hg=>ne (h.fr.typ g hg) (by decide)
     be:=h.be.past ha.ext (fun g hg=>ne (h.be.typ g hg) (by decide)) ha.rds
     d:=h.d.past ha.ext (fun g hg=>ne (h.d.typ g hg) (by decide)) ha.rds
     al:=(SlcAt.app ha).congr (fun i hi=>by
      dsimp only
      by_cases e:i=m3
      ·rw [if_pos e,if_pos e]
      ·rw [if_neg e,if_neg e])
     aln:=ha.noDig
     rows:=fun i hi=>by
      dsimp only
      by_cases e:i=m3
      ·rw [if_pos e,if_pos e]; exact ⟨hrow.past ha.ext (ne hnb (by decide)) ha.rds,hlow⟩
      ·rw [if_neg e,if_neg e]; exact ⟨(h.rows i (by omega)).1.past ha.ext (ne (h.rowT (by omega)) (by decide)) ha.rds,(h.rows i (by omega)).2⟩
     rr:=fun i j hi hj hne=>by
      dsimp only
      by_cases e:i=m3
      ·rw [if_pos e,if_neg (by omega)]; exact (hrb j (by omega)).symm
      ·rw [if_neg e]
       by_cases e2:j=m3
       ·rw [if_pos e2]; exact hrb i (by omega)
       ·rw [if_neg e2]; exact h.rr i j (by omega) (by omega) hne
     rbe:=fun i hi=>by
      dsimp only
      by_cases e:i=m3
      ·rw [if_pos e]; exact hbe
      ·rw [if_neg e]; exact h.rbe i (by omega)
     rd:=fun i hi=>by
      dsimp only
      by_cases e:i=m3
      ·rw [if_pos e]; exact hd
      ·rw [if_neg e]; exact h.rd i (by omega)
     bed:=h.bed
     bf:=h.bf
     u:=h.u.past ha.ext fun g hg=>ne (h.u.typ g hg) (by decide)
     l:=h.l.past ha.ext fun g hg=>ne (h.l.typ g hg) (by decide)
     ul:=h.ul
     mp:=h.mp.past ha.ext fun k hk e=>by
      obtain ⟨mb,es,clock,h5,_,h6,_⟩:=h.mp
      rw [h5] at hk; cases hk
      exact TyB.neMap (h.al.typ _ e) h6 rfl }
end
theorem TRest.setMap (h:TRest w base V n m1 m2 m3 F us ls ms) {mb:Nat} (hv:V.mp=.map (some mb)) {ms':List LimV} (hx:Ext (fun k=>k=mb) w w') (hnd:NoDig w mb) (hm:MapAt w' base V.mp ms'):TRest w' base V n m1 m2 m3 F us ls ms':=by
 obtain ⟨mb',es,clock,h5,_,h6,_⟩:=h.mp
 rw [hv] at h5; cases h5
 have hr:∀ u l,Rds w u l->Rds w' u l:=fun u l hu=>hu.past hx (fun k _ e=>by subst e; exact hnd)
 have ne:∀ {k:Nat} {T:TypeId},TyB w k T->¬ k=mb:=fun hk=>hk.neMap h6
 exact {
     ba:=h.ba.past hx fun g hg=>ne (h.ba.typ g hg)
     fr:=h.fr.past hx fun g hg=>ne (h.fr.typ g hg)
     be:=h.be.past hx (fun g hg=>ne (h.be.typ g hg)) hr
     d:=h.d.past hx (fun g hg=>ne (h.d.typ g hg)) hr
     al:=h.al.past hx fun g hg=>ne (h.al.typ g hg)
     aln:=fun g hg i d hc=>h.aln g hg i d (by
      obtain ⟨arr,ha2⟩:=h.al.typ g hg
      rw [<- hx.cell (p:=⟨g,i,none⟩) (blk_lt ha2) (ne ⟨arr,ha2⟩)]; exact hc)
     rows:=fun i hi=>⟨(h.rows i hi).1.past hx (ne (h.rowT hi)) hr,(h.rows i hi).2⟩
     rr:=h.rr
     rbe:=h.rbe
     rd:=h.rd
     bed:=h.bed
     bf:=h.bf
     u:=h.u.past hx fun g hg=>ne (h.u.typ g hg)
     l:=h.l.past hx fun g hg=>ne (h.l.typ g hg)
     ul:=h.ul
     mp:=hm }
end
def multS (p:ProgV) (us:List LimV) (v:Nat) (q:Rat) (r:Nat):Rat:=if v<p.vars.length then 0 else if (us.getD (v - p.vars.length) lim0).row=(r:Int) then (if (us.getD (v - p.vars.length) lim0).tur then q else -q) else 0
def multN (p:ProgV) (us:List LimV) (f:Nat->Nat) (g:Nat->Rat):Nat->Nat->Rat
 | 0,_=>0
 | k+1,r=>multN p us f g k r+multS p us (f k) (g k) r
theorem multS_sz {p:ProgV} {us:List LimV} {v:Nat} {q:Rat} {L:Nat} (h:Sz q L) (h1:1<=L) (r:Nat):Sz (multS p us v q r) L:=by
 unfold multS
 split
 ·exact Sz.zero.mono h1
 ·split
  ·split
   ·exact h
   ·exact h.neg
  ·exact Sz.zero.mono h1
theorem multN_sz {p:ProgV} {us:List LimV} {f:Nat->Nat} {g:Nat->Rat} {L:Nat} (h1:1<=L) (r:Nat):∀ {k:Nat},(∀ i,i<k->Sz (g i) L)->Sz (multN p us f g k r) (1+k*(L+1))
 | 0,_=>by rw [Nat.zero_mul]; exact Sz.zero
 | k+1,h=>((multN_sz h1 r (k:=k) (fun i hi=>h i (by omega))).add (multS_sz (h k (by omega)) h1 r)).mono (by rw [Nat.add_mul k 1]; omega)
theorem multipliers_any (w:World) (base tb m L:Nat) (uv vv wv:Value) (p:ProgV) (us:List LimV) (f:Nat->Nat) (g:Nat->Rat) (h:PrgAt w tb p) (hu2:w.cell? ⟨tb,2,none⟩=some uv) (hu:LimAt w base uv us) (hok:AllOk p us) (hv:NRow w vv m f) (hw:QRow w wv m g)
  (hf:∀ k,k<m->f k<p.vars.length+us.length) (hg:∀ k,k<m->Sz (g k) L) (h1L:1<=L) (hL:m*(L+1)+L+10<=4000000) (hn:p.rows.length<=1000000) (hun:us.length<=1000000) :
  Calls Tryz.prog 137 #[.pointer (some ⟨tb,0,none⟩),vv,wv] w (RowPost w p.rows.length (multN p us f g m)):=by
 obtain ⟨w1,hmk,hA,hx1⟩:=run_make_rats w p.rows.length hn
 obtain ⟨B,hB⟩:∃ B,w.heap.size=B:=⟨_,rfl⟩
 have hBw:w.heap.size<=B:=Nat.le_of_eq hB
 rw [hB] at hmk hA
 obtain ⟨uo,uc,rfl⟩:=hu.shape
 obtain ⟨va,vcap,rfl,hvm,hvc⟩:=hv
 obtain ⟨wa,wcap,rfl,hwm,hwc⟩:=hw
 obtain ⟨vo,vc,ro,rc,h1,h2,-,-,h5,h6⟩:=h.ex
 have HA:=bH (bI hA hx1)
 have HC:=bH (bI hvc (bI hwc (bI hu (bI hok (bI hf (bI hg (bI h1 hu2)))))))
 have HSg:=bH (fun W u q (hu:IsRat W u q) (hz:Sz q L)=>rsign_any W u q L (hu.reads hz) (by omega))
 clear hA hx1 hvc hwc hu hok hf hg hu2 h1 h
 obtain ⟨m2,hm2⟩:∃ m2,p.rows.length=m2:=⟨_,rfl⟩
 have HM2:=bH hm2
 rw [hm2] at HA hmk h2 h6 hn ⊢
 clear hm2
 obtain ⟨n,hn'⟩:∃ n,p.vars.length=n:=⟨_,rfl⟩
 have HN:=bH hn'
 rw [hn'] at h5 HC
 clear hn'
 obtain ⟨un,hun'⟩:∃ un,us.length=un:=⟨_,rfl⟩
 have HUn:=bH hun'
 rw [hun'] at HC hun
 clear hun'
 go_enter Tryz.func137,Tryz.ntmps137
 go_wp2_with fail
 go_loopg [20,8,9,10] m (fun gg v20 v8 v9 v10 wr=>∃ i:Nat,i<=m/\gg=m - i/\v20=.int .i64 i/\RArr wr B m2 (multN p us f g i)/\XF w wr)
 case atStart=>exact ⟨0,Nat.zero_le _,rfl,rfl,HA.out.1,HA.out.2⟩
 case round =>
  clear HA
  obtain ⟨i,hi,rfl,rfl,harr,hx⟩:=hrel
  have HX:=bH (bI harr hx)
  clear harr hx
  by_cases hin:i<m
  ·have i0:(i:Int)<(m:Int):=by omega
   have i1:(0:Int)<=(i:Int):=by omega
   obtain ⟨vb,voff,rfl,hcv⟩:=HC.out.1 i hin
   obtain ⟨wb,woff,rfl,ng,a1,m1,c1,a2,m2',c2,e0,e1,e2,hq⟩:=HC.out.2.1 i hin
   have hfi:=HC.out.2.2.2.2.1 i hin
   have hgz:=HC.out.2.2.2.2.2.1 i hin
   have k1:=cell_keep HC.out.2.2.2.2.2.2.1 HX.out.2
   have k2:=cell_keep HC.out.2.2.2.2.2.2.2 HX.out.2
   replace hcv:=cell_keep hcv HX.out.2
   replace e0:=cell_keep e0 HX.out.2
   replace e1:=cell_keep e1 HX.out.2
   replace e2:=cell_keep e2 HX.out.2
   have HQ:=bH (bI (hq.keep HX.out.2) hgz)
   have HMs:=bH (show ∀ r,multS p us (f i) (g i) r=if f i<n then 0 else if (us.getD (f i - n) lim0).row=(r:Int) then (if (us.getD (f i - n) lim0).tur then g i else -(g i)) else 0 from fun r=>by
    unfold multS; rw [HN.out])
   have HNx:=bH (show ∀ r,multN p us f g (i+1) r=multN p us f g i r+multS p us (f i) (g i) r from fun _=>rfl)
   clear hq hgz
   obtain ⟨v,hvv⟩:∃ v,f i=v:=⟨_,rfl⟩
   have HVv:=bH hvv
   rw [hvv] at hcv hfi HMs
   clear hvv
   by_cases hv:v<n
   ·have v0:(v:Int)<(n:Int):=by omega
    have HP:=bH (bI (HX.out.1.congr (g:=multN p us f g (i+1)) (fun r _=>by
     rw [HNx.out,HVv.out,HMs.out,if_pos hv]; grind)) HX.out.2)
    clear HX e0 e1 e2
    go_wp2
    go_roundg (m - (i+1))
    case measure=>omega
    case rel=>exact ⟨i+1,by omega,rfl,by go_num,HP.out⟩
   have v0:¬ (v:Int)<(n:Int):=by omega
   have HSg1:=bH (HSg.out wr _ _ HQ.out.1 HQ.out.2)
   have Hsz:=bH (sign_zero (g i))
   go_upto_if 40 with (go_at_call 51; refine HSg1.out.mono ?_; rintro r5 w5 ⟨rfl,hx5⟩)
   replace k1:=cell_keep k1 hx5
   replace k2:=cell_keep k2 hx5
   replace e0:=cell_keep e0 hx5
   replace e1:=cell_keep e1 hx5
   replace e2:=cell_keep e2 hx5
   replace HX:=bH (bI (HX.out.1.keep hx5) (HX.out.2.trans hx5))
   replace HQ:=bH (bI (HQ.out.1.keep hx5) HQ.out.2)
   clear hx5 HSg1 hcv
   generalize (g i).num.sign=sg at *
   by_cases hsg:sg=0
   ·have HP:=bH (bI (HX.out.1.congr (g:=multN p us f g (i+1)) (fun r _=>by
     rw [HNx.out,HVv.out,HMs.out,Hsz.out.1 hsg]
     split
     ·grind
     ·split
      ·split <;> grind
      ·grind)) HX.out.2)
    subst hsg
    clear HX e0 e1 e2
    go_wp2
    go_roundg (m - (i+1))
    case measure=>omega
    case rel=>exact ⟨i+1,by omega,rfl,by go_num,HP.out⟩
   have hs1:(sg == 0)=false:=by simpa using hsg
   have hs2:(sg != 0)=true:=by simpa using hsg
   obtain ⟨j,rfl⟩:∃ j,v=n+j:=⟨v - n,by omega⟩
   have hj:j<un:=by omega
   rw [show n+j - n=j from by omega] at HMs
   have j0:(0:Int)<=(j:Int):=by omega
   have j1:(j:Int)<(un:Int):=by omega
   have j2:((n+j:Nat):Int) - (n:Int)=(j:Int):=by omega
   obtain ⟨ug,ucap,hue,u0,u1,u2⟩:=(HC.out.2.2.1.keep HX.out.2).at (show j<us.length by rw [HUn.out]; exact hj)
   cases hue
   have hlok:=HC.out.2.2.2.1 j (by rw [HUn.out]; exact hj)
   generalize us.getD j lim0=l at *
   obtain ⟨row,var,tur⟩:=l
   have hw6:IntKind.i64.wrap ((n:Int)+(j:Int) - (n:Int))=(j:Int):=by rw [show (n:Int)+(j:Int) - (n:Int)=(j:Int) by omega]; exact IntWalk.i64_in _ (by omega)
   go_upto_region 6 with fail
   replace k1:=cq k1
   replace k2:=cq k2
   replace u0:=cq u0
   replace u1:=cq u1
   replace u2:=cq u2
   have hb6:blk ((w5.alloc (.cells #[.int .i64 row,.int .i64 var,.bool tur] 142)).drew) w5.heap.size=some (.cells #[.int .i64 row,.int .i64 var,.bool tur] 142 (0,0)):=blk_alloc_at w5 _
   have hx6:XF w5 ((w5.alloc (.cells #[.int .i64 row,.int .i64 var,.bool tur] 142)).drew):=((Ext.refl (fun _=>False) w5).alloc _).drew
   have g0:=cellq hb6 0 rfl
   have g2:=cellq hb6 2 rfl
   refine wp_region_held_drew (S:=(XF w5)) (by kernel_rfl) ((Ext.refl _ w5).drew) (fun hHeld=>?_)
   refine ht 0 (h:=(ht 1 (h:=(ht 2 (h:=(ht 3 (h:=(ht 4 (h:=(ht 5 (h:=(ht 6 (h:=(ht 7 (h:=(ht 8 (h:=(ht 9 (h:=(ht 10 (h:=(ht 11 (h:=(ht 12 (h:=(ht 13 (h:=?_)))))))))))))))))))))))))))
   (try go_frame)
   refine hst 14 (h:=fun K hK=>?_)
   go_simp
   refine hK.out _ _ (hHeld.alloc _) (fun hHeld=>?_)
   clear hK K
   (try go_frame)
   refine hst 15 (h:=fun K hK=>?_)
   go_simp
   refine hK.out _ _ ((Ext.refl (fun _=>False) w5).drew.alloc _) (fun hHeld=>?_)
   clear hK K
   (try go_frame)
   refine wpAnyH_done (by kernel_rfl) ?_ _
   have HX8:=bH (HX.out.2.trans hx6)
   have HB:=bH (HX.out.1.keep hx6)
   have hq8:=HQ.out.1.keep hx6
   replace e0:=cell_keep e0 hx6
   replace e1:=cell_keep e1 hx6
   replace e2:=cell_keep e2 hx6
   go_upto_region 8 with fail
   clear k1 k2 u0 u1 u2 hb6 hx6 hHeld hw6
   generalize (w5.alloc (.cells #[.int .i64 row,.int .i64 var,.bool tur] 142)).drew=w8 at *
   generalize w5.heap.size=lb at *
   rcases hlok with ⟨y1,_⟩ | ⟨y1,y2,_⟩
   ·have y1:row = -1:=y1
    subst y1
    have HP:=bH (bI (HB.out.congr (g:=multN p us f g (i+1)) (fun r _=>by
     rw [HNx.out,HVv.out,HMs.out,if_neg hv,if_neg (show ¬ (-1:Int)=(r:Int) by omega)]; grind)) HX8.out)
    clear HX HB e0 e1 e2 hq8
    go_wp2
    go_roundg (m - (i+1))
    case measure=>omega
    case rel=>exact ⟨i+1,by omega,rfl,by go_num,HP.out⟩
   ·have y1:0<=row:=y1
    have y2:row.toNat<p.rows.length:=y2
    obtain ⟨ri,rfl⟩:∃ ri:Nat,row=ri:=⟨row.toNat,by omega⟩
    have r1:ri<m2:=by have:=HM2.out; have y2:ri<p.rows.length:=y2; omega
    have r2:¬ ((ri:Int)<0):=by omega
    have r3:(0:Int)<=(ri:Int):=by omega
    have r4:(ri:Int)<(m2:Int):=by omega
    clear y1 y2
    replace HMs:=bH (show ∀ r,multS p us (f i) (g i) r=if ri=r then (if tur then g i else -(g i)) else 0 from fun r=>by
     rw [HVv.out,HMs.out r,if_neg hv]
     by_cases e:ri=r
     ·rw [if_pos e,if_pos (by show (ri:Int)=(r:Int); omega)]
     ·rw [if_neg e,if_neg (by show ¬ (ri:Int)=(r:Int); omega)])
    obtain ⟨on,oa,ol,oc,oa',ol',oc',o0,o1,o2,hoq⟩:=HB.out.cells ri r1
    have hmz:=multN_sz (p:=p) (us:=us) (f:=f) (g:=g) h1L ri (k:=i) (fun k hk=>HC.out.2.2.2.2.2.1 k (show k<m by omega))
    have hmi:=Nat.mul_le_mul_right (L+1) (Nat.le_of_lt hin)
    have hgz:=HQ.out.2
    cases tur with
    | true =>
     have HAd:=bH (fun W (hW:XF w8 W)=>radd_any W _ _ (multN p us f g i ri) (g i) (1+i*(L+1)+L) ((hoq.keep hW).reads (hmz.mono (by omega))) ((hq8.keep hW).reads (hgz.mono (by omega))) (by omega) (by omega))
     clear hoq hmz hmi hgz hq8
     replace e0:=cq e0
     replace e1:=cq e1
     replace e2:=cq e2
     replace o0:=cq o0
     replace o1:=cq o1
     replace o2:=cq o2
     go_upto_region 10 with fail
     replace g0:=cq g0
     refine ends_begin 14 (XF w8) (by kernel_rfl) ((Ext.refl _ w8).drew) (fun hHeld=>?_)
     refine et 0 (h:=(et 1 (h:=(et 2 (h:=(et 3 (h:=(et 4 (h:=(et 5 (h:=(et 6 (h:=(et 7 (h:=(et 8 (h:=(et 9 (h:=(et 10 (h:=(et 11 (h:=?_)))))))))))))))))))))))
     (try go_frame)
     refine est 12 (h:=fun K hK=>?_)
     (go_simp; go_at_call 67; (with_reducible refine (HAd.out _ hHeld).mono ?_); rintro q1 w11 ⟨v11,rfl,h11,hx11⟩; have hX1:=hHeld.trans hx11; obtain ⟨n11,a11,l11,c11,a11',l11',c11',rfl⟩:=h11.shape)
     refine hK.out _ _ (hX1) (fun hHeld=>?_)
     clear hK K
     (try go_frame)
     refine et 13 (h:=?_)
     (try go_frame)
     have HT2:=bH (HB.out.keep hX1)
     have fz0:=HT2.out.free (ri*3)
     have fz1:=HT2.out.free (ri*3+1)
     have fz2:=HT2.out.free (ri*3+2)
     have t0:=o0 _ hX1
     have t1:=o1 _ hX1
     have t2:=o2 _ hX1
     refine ends_last rfl (by kernel_rfl) (fun K hK=>?_)
     go_simp
     refine hK.out _ _ ?_
     clear hK K
     (try go_frame)
     refine ends_done (by kernel_rfl) ?_ _
     obtain ⟨p1,p2,p3⟩:=HT2.out.put (show ri<m2 from r1) h11
     have HP:=bH (bI (p1.congr (f:=_) (g:=multN p us f g (i+1)) (fun r _=>by
      show (if r=ri then _ else _)=multN p us f g i r+multS p us (f i) (g i) r
      rw [HMs.out r]
      by_cases e:r=ri
      ·rw [if_pos e,if_pos e.symm,e]; rfl
      ·rw [if_neg e,if_neg (Ne.symm e)]; grind)) ((HX8.out.trans hX1).own p2 (fun k e=>by omega)))
     clear p1 p2 p3 HT2 fz0 fz1 fz2 t0 t1 t2 o0 o1 o2 e0 e1 e2 h11 hx11 hX1 hHeld HAd HB HX8 g0 g2
     generalize ((w11.setCell ⟨B,ri*3,none⟩ (.bool n11)).setCell ⟨B,ri*3+1,none⟩ (.slice a11 l11 c11)).setCell ⟨B,ri*3+2,none⟩ (.slice a11' l11' c11')=w9 at *
     go_wp2
     go_roundg (m - (i+1))
     case measure=>omega
     case rel=>exact ⟨i+1,by omega,rfl,by go_num,HP.out⟩
    | false =>
     have HAd:=bH (fun W (hW:XF w8 W)=>rsub_any W _ _ (multN p us f g i ri) (g i) (1+i*(L+1)+L) ((hoq.keep hW).reads (hmz.mono (by omega))) ((hq8.keep hW).reads (hgz.mono (by omega))) (by omega) (by omega))
     clear hoq hmz hmi hgz hq8
     replace e0:=cq e0
     replace e1:=cq e1
     replace e2:=cq e2
     replace o0:=cq o0
     replace o1:=cq o1
     replace o2:=cq o2
     go_upto_region 7 with fail
     replace g0:=cq g0
     refine ends_begin 14 (XF w8) (by kernel_rfl) ((Ext.refl _ w8).drew) (fun hHeld=>?_)
     refine et 0 (h:=(et 1 (h:=(et 2 (h:=(et 3 (h:=(et 4 (h:=(et 5 (h:=(et 6 (h:=(et 7 (h:=(et 8 (h:=(et 9 (h:=(et 10 (h:=(et 11 (h:=?_)))))))))))))))))))))))
     (try go_frame)
     refine est 12 (h:=fun K hK=>?_)
     (go_simp; go_at_call 65; (with_reducible refine (HAd.out _ hHeld).mono ?_); rintro q1 w11 ⟨v11,rfl,h11,hx11⟩; have hX1:=hHeld.trans hx11; obtain ⟨n11,a11,l11,c11,a11',l11',c11',rfl⟩:=h11.shape)
     refine hK.out _ _ (hX1) (fun hHeld=>?_)
     clear hK K
     (try go_frame)
     refine et 13 (h:=?_)
     (try go_frame)
     have HT2:=bH (HB.out.keep hX1)
     have fz0:=HT2.out.free (ri*3)
     have fz1:=HT2.out.free (ri*3+1)
     have fz2:=HT2.out.free (ri*3+2)
     have t0:=o0 _ hX1
     have t1:=o1 _ hX1
     have t2:=o2 _ hX1
     refine ends_last rfl (by kernel_rfl) (fun K hK=>?_)
     go_simp
     refine hK.out _ _ ?_
     clear hK K
     (try go_frame)
     refine ends_done (by kernel_rfl) ?_ _
     obtain ⟨p1,p2,p3⟩:=HT2.out.put (show ri<m2 from r1) h11
     have HP:=bH (bI (p1.congr (f:=_) (g:=multN p us f g (i+1)) (fun r _=>by
      show (if r=ri then _ else _)=multN p us f g i r+multS p us (f i) (g i) r
      rw [HMs.out r]
      by_cases e:r=ri
      ·rw [if_pos e,if_pos e.symm,e]; exact Rat.sub_eq_add_neg _ _
      ·rw [if_neg e,if_neg (Ne.symm e)]; grind)) ((HX8.out.trans hX1).own p2 (fun k e=>by omega)))
     clear p1 p2 p3 HT2 fz0 fz1 fz2 t0 t1 t2 o0 o1 o2 e0 e1 e2 h11 hx11 hX1 hHeld HAd HB HX8 g0 g2
     generalize ((w11.setCell ⟨B,ri*3,none⟩ (.bool n11)).setCell ⟨B,ri*3+1,none⟩ (.slice a11 l11 c11)).setCell ⟨B,ri*3+2,none⟩ (.slice a11' l11' c11')=w9 at *
     go_wp2
     go_roundg (m - (i+1))
     case measure=>omega
     case rel=>exact ⟨i+1,by omega,rfl,by go_num,HP.out⟩
  ·obtain rfl:i=m:=by omega
   go_wp2
   go_ret
   exact ⟨B,rfl,hBw,HX.out.1,HX.out.2⟩
def idxN (f:Nat->Nat) (v:Nat):Nat->Option Nat
 | 0=>none
 | m+1=>match idxN f v m with
  | some i=>some i
  | none=>if f m=v then some m else none
theorem idxN_some {f:Nat->Nat} {v:Nat}:∀ {m i:Nat},idxN f v m=some i->i<m/\f i=v
 | 0,_,h=>by cases h
 | m+1,i,h=>by
  unfold idxN at h
  cases hm:idxN f v m with
  | some j =>
   rw [hm] at h; cases h
   have:=idxN_some hm
   exact ⟨by omega,this.2⟩
  | none =>
   rw [hm] at h
   dsimp only at h
   split at h
   ·rename_i e; cases h; exact ⟨by omega,e⟩
   ·cases h
theorem idxN_none {f:Nat->Nat} {v:Nat}:∀ {m:Nat},idxN f v m=none->∀ i,i<m->f i≠v
 | 0,_,i,hi=>by omega
 | m+1,h,i,hi=>by
  unfold idxN at h
  cases hm:idxN f v m with
  | some j=>rw [hm] at h; cases h
  | none =>
   rw [hm] at h
   dsimp only at h
   split at h
   ·cases h
   ·rename_i e
    by_cases e2:i=m
    ·rw [e2]; exact e
    ·exact idxN_none hm i (by omega)
theorem idxN_le {f:Nat->Nat} {v m i:Nat} (h:idxN f v m=some i):∀ k,idxN f v (m+k)=some i
 | 0=>h
 | k+1=>by
  show (match idxN f v (m+k) with | some i=>some i | none=>_)=_
  rw [idxN_le h k]
theorem index_any (w:World) (v:Value) (m:Nat) (f:Nat->Nat) (x:Nat) (h:NRow w v m f):Calls Tryz.prog 202 #[v,.int .i64 x] w (fun r w'=>r=.returned (.int .i64 (optI (idxN f x m)))/\w'=w):=by
 obtain ⟨ao,c,rfl,hm,hc⟩:=h
 have HC:=bH hc
 clear hc
 go_enter Tryz.func202,Tryz.ntmps202
 go_wp2_with fail
 go_loopg [8,5] m (fun gg v8 v5 wr=>∃ i:Nat,i<=m/\gg=m - i/\v8=.int .i64 i/\idxN f x i=none/\wr=w)
 case atStart=>exact ⟨0,Nat.zero_le _,rfl,rfl,rfl,rfl⟩
 case round =>
  obtain ⟨i,hi,rfl,rfl,hno,rfl⟩:=hrel
  have HN:=bH hno
  clear hno
  by_cases hin:i<m
  ·have i0:(i:Int)<(m:Int):=by omega
   have i1:(0:Int)<=(i:Int):=by omega
   obtain ⟨g,off,rfl,hcell⟩:=HC.out i hin
   have HS:=bH (show idxN f x (i+1)=if f i=x then some i else none from by
    show (match idxN f x i with | some i=>some i | none=>_)=_
    rw [HN.out])
   by_cases he:f i=x
   ·have HR:=bH (show optI (idxN f x m)=(i:Int) from by
     have h1:idxN f x (i+1)=some i:=by rw [HS.out,if_pos he]
     have:=idxN_le h1 (m - (i+1))
     rw [show i+1+(m - (i+1))=m by omega] at this
     rw [this]; rfl)
    have he2:((f i:Int) == (x:Int))=true:=by simp [he]
    have he3:((x:Int) == (f i:Int))=true:=by simp [he]
    rw [he] at hcell
    clear HC
    go_wp2
    go_ret
    exact ⟨by rw [HR.out]; rfl,rfl⟩
   ·have HR:=bH (show idxN f x (i+1)=none from by rw [HS.out,if_neg he])
    have he2:((f i:Int) == (x:Int))=false:=by simp; omega
    have he3:((x:Int) == (f i:Int))=false:=by simp; omega
    clear HC HS
    generalize f i=y at *
    go_wp2
    go_roundg (m - (i+1))
    case measure=>omega
    case rel=>exact ⟨i+1,by omega,rfl,by go_num,HR.out,rfl⟩
  ·obtain rfl:i=m:=by omega
   go_wp2
   go_ret
   exact ⟨by rw [HN.out]; rfl,rfl⟩
def gco (T:TabF) (v c:Nat):Rat:=match idxN T.fr v T.n with
 | some c'=>if c=c' then 1 else 0
 | none=>match idxN T.ba v T.m with
  | some r=>-(T.al r c)
  | none=>0
def rowP (p:ProgV) (T:TabF) (l:LimV):Nat->Nat->Rat
 | 0,_=>0
 | i+1,c=>rowP p T l i c+((((limTs p l).getD i term0).coef*limSg l:Int):Rat)*gco T ((limTs p l).getD i term0).var.toNat c
def useF (p:ProgV) (T:TabF) (us:List LimV) (l:LimV):TabF where
 n:=T.n
 m:=T.m+1
 ba:=fun i=>if i=T.m then p.vars.length+us.length else T.ba i
 fr:=T.fr
 be:=fun i=>if i=T.m then slackQ p l (listTo p.vars.length (distN T.ba T.be T.m)) false else T.be i
 d:=T.d
 al:=fun i=>if i=T.m then rowP p T l (limTs p l).length else T.al i
structure TabS (w0 w:World) (tb:Nat) (V:TabV) (T:TabF) (p:ProgV) (us ls:List LimV):Prop where
 rest:TRest w w0.heap.size V T.n T.m T.m T.m T us ls us
 box:blk w tb=some (.cells #[V.pv,V.pr,V.u,V.mp,V.ba,V.fr,V.be,V.al,V.d,V.l] 140 (0,0))
 tbl:w0.heap.size<=tb
 vars:Vrs w0 V.pv p.vars
 rows:Rws w0 V.pr p.rows
 valid:validB p=true
 old:XF w0 w
 small:T.n<=1000/\T.m<=1000
 hm:T.m=us.length
 hn:T.n=p.vars.length
 oks:AllOk p us
def NotInt (v:Value):Prop:=∀ k d,v≠.int k d
section
variable {w0 w w':World} {tb:Nat} {V:TabV} {T:TabF} {p:ProgV} {us ls:List LimV}
theorem TabS.at (h:TabS w0 w tb V T p us ls):TabAt w w0.heap.size tb V T :=
 ⟨h.box,h.rest.ba,h.rest.fr,h.rest.be,h.rest.d,h.rest.al,h.rest.rows,h.rest.rr,h.rest.rbe,h.rest.rd,h.rest.bed,h.rest.bf,h.small⟩
theorem TabS.prg (h:TabS w0 w tb V T p us ls):PrgAt w tb p:=by
 obtain ⟨vo,vc,e1,_,h1,_⟩:=h.vars.shape
 obtain ⟨ro,rc,e2,_,h2,_⟩:=h.rows.shape
 have hv:=h.vars.keep h.old
 have hr:=h.rows.keep h.old
 have hb:=h.box
 rw [e1] at hv hb
 rw [e2] at hr hb
 exact ⟨⟨vo,vc,ro,rc,cellq hb 0 rfl,cellq hb 1 rfl,hv,hr,by omega,by omega⟩,h.valid⟩
theorem TabS.keep (h:TabS w0 w tb V T p us ls) (hx:XF w w'):TabS w0 w' tb V T p us ls :=
 ⟨h.rest.keep hx,blk_keep h.box hx,h.tbl,h.vars,h.rows,h.valid,h.old.trans hx,h.small,h.hm,h.hn,h.oks⟩
theorem slice_notInt {v:Value} {ao:Option Addr} {n c:Nat} (h:v=.slice ao n c):NotInt v:=fun k d e=>by rw [h] at e; cases e
theorem IntAt.notInt {base m:Nat} {v:Value} {b:Nat->Nat} (h:IntAt w base v m b):NotInt v:=by
 rcases h with ⟨e,_⟩ | ⟨g,cap,arr,e,_⟩ <;> exact slice_notInt e
theorem RatAt.notInt {base m:Nat} {v:Value} {b:Nat->Rat} (h:RatAt w base v m b):NotInt v:=by
 rcases h with ⟨e,_⟩ | ⟨g,cap,e,_⟩ <;> exact slice_notInt e
theorem SlcAt.notInt {base m:Nat} {v:Value} {b:Nat->Value} (h:SlcAt w base v m b):NotInt v:=by
 rcases h with ⟨e,_⟩ | ⟨g,cap,arr,e,_⟩ <;> exact slice_notInt e
theorem tab_noDig {base n m1 m2 m3:Nat} {F:TabF} {ms:List LimV} (h:TRest w base V n m1 m2 m3 F us ls ms) {pv pr u mp ba fr be al d l:Value} (hb:blk w tb=some (.cells #[pv,pr,u,mp,ba,fr,be,al,d,l] 140 (0,0)))
  (h1:NotInt pv) (h2:NotInt pr) (h3:NotInt u) (h4:NotInt mp) (h5:NotInt ba) (h6:NotInt fr) (h7:NotInt be) (h8:NotInt al) (h9:NotInt d) (h10:NotInt l):NoDig w tb:=noDig_cells hb (fun x hx k e=>by
 simp only [List.mem_cons,List.not_mem_nil,or_false] at hx
 rcases hx with rfl | rfl | rfl | rfl | rfl | rfl | rfl | rfl | rfl | rfl
 ·exact h1 _ _ e
 ·exact h2 _ _ e
 ·exact h3 _ _ e
 ·exact h4 _ _ e
 ·exact h5 _ _ e
 ·exact h6 _ _ e
 ·exact h7 _ _ e
 ·exact h8 _ _ e
 ·exact h9 _ _ e
 ·exact h10 _ _ e)
theorem MapAt.notInt {base:Nat} {v:Value} {ms:List LimV} (h:MapAt w base v ms):NotInt v:=fun k d e=>by
 obtain ⟨mb,es,clock,h1,_⟩:=h
 rw [h1] at e; cases e
theorem TRest.cast {base n m1 m2 m3:Nat} {F F':TabF} {ms:List LimV} (h:TRest w base V n m1 m2 m3 F us ls ms) (h1:F.ba=F'.ba) (h2:F.fr=F'.fr) (h3:F.be=F'.be) (h4:F.d=F'.d) (h5:F.al=F'.al):TRest w base V n m1 m2 m3 F' us ls ms :=
 ⟨h1 ▸ h.ba,h2 ▸ h.fr,h3 ▸ h.be,h4 ▸ h.d,h.al,h.aln,h5 ▸ h.rows,h.rr,h.rbe,h.rd,h.bed,h.bf,h.u,h.l,h.ul,h.mp⟩
def TabV.Big (V:TabV) (tb m k:Nat):Prop:=k=tb∨V.All m k
theorem TabS.low (h:TabS w0 w tb V T p us ls) {k:Nat} (hk:V.Big tb T.m k):w0.heap.size<=k:=by
 rcases hk with rfl | hk
 ·exact h.tbl
 ·exact h.rest.low hk
theorem TabS.lt (h:TabS w0 w tb V T p us ls) {k:Nat} (hk:V.Big tb T.m k):k<w.heap.size:=by
 rcases hk with rfl | hk
 ·exact blk_lt h.box
 ·exact h.rest.old hk
theorem TabV.S_all {m k:Nat} (h:V.S m k):V.All m k:=by
 rcases h with h | h | h | h | ⟨i,hi,h⟩
 ·exact ⟨.inl h⟩
 ·exact ⟨.inr (.inl h)⟩
 ·exact ⟨.inr (.inr (.inl h))⟩
 ·exact ⟨.inr (.inr (.inr (.inl h)))⟩
 ·exact ⟨.inr (.inr (.inr (.inr (.inr (.inr (.inr (.inr ⟨i,hi,h⟩)))))))⟩
theorem TabS.turn (h:TabS w0 w tb V T p us ls) {T':TabF} (ht:TabAt w' w0.heap.size tb V T') (hn:T'.n=T.n) (hm:T'.m=T.m) (hx:Ext (V.S T.m) w w'):TabS w0 w' tb V T' p us ls:=by
 have hS:∀ {k:Nat},V.S T.m k->TyB w k 3∨TyB w k 31:=fun hk=>by
  rcases hk with hk | hk | hk | hk | ⟨i,hi,rfl⟩
  ·exact .inl (h.rest.ba.typ _ hk)
  ·exact .inl (h.rest.fr.typ _ hk)
  ·exact .inr (h.rest.be.typ _ hk)
  ·exact .inr (h.rest.d.typ _ hk)
  ·exact .inr (h.rest.rowT hi)
 have ne:∀ {k:Nat} {U:TypeId},TyB w k U->U≠3->U≠31->¬ V.S T.m k:=fun hk h1 h2 hs=>by
  rcases hS hs with h3 | h3
  ·exact TyB.ne hk h3 h1 rfl
  ·exact TyB.ne hk h3 h2 rfl
 obtain ⟨mb,es,clock,e1,e2,e3,e4⟩:=h.rest.mp
 refine ⟨⟨hm ▸ ht.ba,hn ▸ ht.fr,ht.be,ht.d,ht.al,fun g hg i d hc=>h.rest.aln g hg i d ?_,ht.rows,ht.rr,ht.rbe,ht.rd,ht.bed,ht.bf,h.rest.u.past hx (fun g hg=>ne (h.rest.u.typ g hg) (by decide) (by decide)),h.rest.l.past hx (fun g hg=>ne (h.rest.l.typ g hg) (by decide) (by decide)),h.rest.ul,
  ⟨mb,es,clock,e1,e2,(hx.blk (blk_lt e3) (fun hs=>by
   rcases hS hs with h3 | h3
   ·exact h3.neMap e3 rfl
   ·exact h3.neMap e3 rfl)).trans e3,e4⟩⟩,ht.box,h.tbl,h.vars,h.rows,h.valid,h.old.own hx (fun k hk=>h.rest.low (TabV.S_all hk)),ht.small,hm.trans h.hm,hn.trans h.hn,h.oks⟩
 obtain ⟨arr,ha⟩:=h.rest.al.typ g hg
 rw [<- hx.cell (p:=⟨g,i,none⟩) (blk_lt ha) (ne ⟨arr,ha⟩ (by decide) (by decide))]; exact hc
end
section
variable {P:Program}
theorem append_noDig1 (w:World) (base:Nat) (t ty e:TypeId) (i:TypeInfo) (z:Value) (ht:P.underlying t=some (.slice e)) (hi:P.info? e=some i) (hz:i.zero=some z)
  (hzn:NoD z.cells.toList)
  (g cap:Nat) (n:Nat) (xs:List Value) (hown:w.ownsRow base e i.size (.slice (some ⟨g,0,none⟩) n cap) n xs) (hnd:NoDig w g) (hxs:NoD xs)
  (a:Addr) (m c:Nat) (news:List Value) (hl:news.length=m*i.size) (hnews:∀ j u,news[j]?=some u->w.cell? (a.add j)=some u) (h1:∀ u ∈ news,u.oneCell'=true) (hnn:NoD news)
  (h63:n+m<=maxLen) (hbytes:(n+m)*i.bytes<=140737488355328) :
  ∀ v' w',(Builtin.append_ #[t,t] ty #[.slice (some ⟨g,0,none⟩) n cap,.slice (some a) m c]).run P w=.ok v' w'->∀ g,v'.ownBlock=some g->NoDig w' g:=by
 intro v' w' hrun g' hg'
 have hsmall:n+m<=9223372036854775807:=by simp only [maxLen] at h63; omega
 rcases hown.2 with ⟨e1,_⟩ | ⟨g2,cap2,cur,e2,hbg,hg,hnc,hcm,hcs,htake⟩
 ·cases e1
 ·cases e2
  by_cases hroom:n+m<=cap
  ·have hfit:n*i.size+news.length<=cur.size:=by rw [hl,hcs,<- Nat.add_mul]; exact Nat.mul_le_mul_right _ hroom
   have hr:=run_append_room (P:=P) w t ty e i ht hi g n cap cur hg a m c news hl hnews h1 hroom hfit
   rw [hr] at hrun
   injection hrun with h2 h3
   subst h2 h3
   cases hg'
   have hc:=hnd.cells (show blk w g=some _ from hg)
   refine noDig_cells (show blk (w.setRow g _) g=some _ from setRow_heap w g cur _ e _ hg) ?_
   exact ((hc.take _).append hnn).append (hc.drop _)
  ·have holds:∀ j u,xs[j]?=some u->w.cell? ((⟨g,0,none⟩:Addr).add j)=some u:=hown.cells (g:=g) rfl
   have hr:=run_append_grow (P:=P) w t ty e i z ht hi hz ⟨g,0,none⟩ n cap xs hown.1 holds a m c news hl hnews (by omega) (by omega) (growslice_fits (by omega) hbytes)
   rw [hr] at hrun
   injection hrun with h2 h3
   subst h2 h3
   cases hg'
   refine noDig_cells (show blk (w.drew.alloc _) w.heap.size=some _ from blk_alloc_at w.drew _) ?_
   rw [Array.toList_append,Array.toList_append]
   exact (hxs.append (by simpa using hnn:NoD news.toArray.toList)).append (noD_zero hzn _)
structure Clo (w w':World) (base:Nat) (e:TypeId) (size:Nat) (v':Value) (m:Nat) (news:List Value) (g0:Nat):Prop where
 own:w'.ownsRow base e size v' m news
 ext:Ext (fun k=>k=g0) w w'
 noDig:∀ g,v'.ownBlock=some g->NoDig w' g
theorem wpList_clone {w:World} {ops:Array Oper} {rest:List Oper} {o:Oper} {a:Act} {Q:Exit->Act->World->Prop} {e T:TypeId} {z:Value} {size bytes:Nat} (hgd:o.guard=none) (s x:Operand)
  (ho:o.op=.call { callee:=.builtin .append,args:=#[s,x],argTypes:=#[T,T] }) (ht:P.underlying T=some (.slice e)) (hi:(P.info? e).map (fun i=>(i.zero,i.size,i.bytes))=some (some z,size,bytes)) (hzs:z.cells.size=size) (hzn:NoD z.cells.toList) (hsz:0<size) (hbs:bytes<=1000)
  (base g0:Nat) (hs:a.eval s=.slice (some ⟨g0,0,none⟩) 0 0) (hg0:blk w g0=some (.cells #[] e (0,0))) (hb0:base<=g0) (ad:Addr) (m c:Nat) (hx:a.eval x=.slice (some ad) m c) (news:List Value) (hl:news.length=m*size) (hsrc:∀ j u,news[j]?=some u->w.cell? (ad.add j)=some u) (h1:∀ u ∈ news,u.oneCell'=true) (hnn:NoD news) (hm:m<=100000)
  (h:∀ v' w',Clo w w' base e size v' m news g0->wpList P ops Q rest (a.put o.dst v') w') :
  wpList P ops Q (o :: rest) a w:=by
 refine wpList_plain hgd fun K hK=>?_
 obtain ⟨i0,hi0,hz0,hz1,hz2⟩:=info_parts hi
 have hby:(0+m)*bytes<=140737488355328:=Nat.le_trans (Nat.mul_le_mul (show 0+m<=100000 by omega) hbs) (by decide)
 have hown:w.ownsRow base e size (.slice (some ⟨g0,0,none⟩) 0 0) 0 []:=⟨by simp,.inr ⟨g0,0,#[],rfl,hb0,hg0,Nat.le_refl _,Nat.zero_le _,by simp,by simp⟩⟩
 have hnd:NoDig w g0:=noDig_cells hg0 (fun u hu=>by simp at hu)
 obtain ⟨v',w',hr,g1,g2,g3⟩:=run_append_any (P:=P) (w:=w) base T o.type e i0 z size bytes ht hi0 hz0 hz1 hz2 hzs hsz _ 0 [] hown (some ad) m c (fun e=>by cases e) news hl (.inr ⟨ad,rfl,hsrc⟩) h1 (by unfold maxLen; omega) hby (Nat.le_trans hb0 (Nat.le_of_lt (blk_lt hg0)))
 have hnd':=append_noDig1 (P:=P) w base T o.type e i0 z ht hi0 hz0 hzn g0 0 0 [] (by rw [hz1]; exact hown) hnd (fun u hu=>by cases hu) ad m c news (by rw [hz1]; exact hl) hsrc h1 hnn (by unfold maxLen; omega) (by rw [hz2]; exact hby) v' w' hr
 unfold Oper.wp execOp
 simp only [ho,resolve,invoke,builtin,Sem.run_bind,Sem.run_pure,Result.andThen_ok,List.map_toArray,List.map_cons,List.map_nil,hs,hx,hr]
 refine hK _ _ (h v' w' ⟨by simpa using g1,(Ext.refl (fun k=>k=g0) w).grown g2 (fun k hk _=>?_),hnd'⟩)
 injection hk with hk
 exact hk.symm
end
theorem RCap.cellsL {w:World} {g m:Nat} {f:Nat->Rat} (h:RCap w g m f):∃ xs:List Value,xs.length=m*3/\(∀ j u,xs[j]?=some u->w.cell? ((⟨g,0,none⟩:Addr).add j)=some u)/\(∀ u ∈ xs,u.oneCell'=true)/\NoD xs/\QCells w xs m f:=by
 obtain ⟨arr,h1,h2⟩:=h.row
 have hq:QCells w (arr.toList.take (m*3)) m f:=fun i hi=>by
  obtain ⟨ng,a1,m1,c1,a2,m2,c2,k0,k1,k2,k3⟩:=h.cells i hi
  rw [cell_of_cells h1] at k0 k1 k2
  refine ⟨ng,a1,m1,c1,a2,m2,c2,?_,?_,?_,k3⟩
  ·rw [List.getElem?_take_of_lt (by omega),Array.getElem?_toList]; exact k0
  ·rw [List.getElem?_take_of_lt (by omega),Array.getElem?_toList]; exact k1
  ·rw [List.getElem?_take_of_lt (by omega),Array.getElem?_toList]; exact k2
 have hlen:(arr.toList.take (m*3)).length=m*3:=by rw [List.length_take,Array.length_toList]; omega
 refine ⟨arr.toList.take (m*3),hlen,fun j u hu=>?_,fun u hu=>?_,(h.noDig.cells h1).take _,hq⟩
 ·rw [Addr.add_lit,Nat.zero_add,cell_of_cells h1]
  have hj:j<m*3:=by rw [<- hlen]; exact (List.getElem?_eq_some_iff.1 hu).1
  rw [List.getElem?_take_of_lt hj,Array.getElem?_toList] at hu; exact hu
 ·obtain ⟨j,hj,rfl⟩:=List.getElem_of_mem hu
  rw [hlen] at hj
  obtain ⟨ng,a1,m1,c1,a2,m2,c2,k0,k1,k2,_⟩:=hq (j / 3) (by omega)
  have h3:j=j / 3*3∨j=j / 3*3+1∨j=j / 3*3+2:=by omega
  have hx:(arr.toList.take (m*3))[j]?=some (arr.toList.take (m*3))[j]:=List.getElem?_eq_getElem (by omega)
  rcases h3 with h3 | h3 | h3
  ·rw [<- h3,hx] at k0; injection k0 with k0; rw [k0]; rfl
  ·rw [<- h3,hx] at k1; injection k1 with k1; rw [k1]; rfl
  ·rw [<- h3,hx] at k2; injection k2 with k2; rw [k2]; rfl
theorem cloneR_any (w:World) (g n cap:Nat) (f:Nat->Rat) (h:RCap w g n f) (hn:n<=100000):Calls Tryz.prog 136 #[.slice (some ⟨g,0,none⟩) n cap] w (fun r w'=>∃ v',r=.returned v'/\RatAt w' w.heap.size v' n f/\XF w w'):=by
 have q22:∀ (w:World) (a:Option Addr) (n c n' c':Nat),(binOp .eql 32 (.slice a n c) (.slice none n' c')).run Tryz.prog w=.ok (.bool a.isNone) w:=fun w a n c n' c'=>Lib.run_eql_slice_nil w _ _ a n c n' c' Tryz.underlying32
 have hx1:XF w (w.alloc (.cells #[] 31)):=(Ext.refl _ w).alloc _
 have hb1:blk (w.alloc (.cells #[] 31)) w.heap.size=some (.cells #[] 31 (0,0)):=blk_alloc_at _ _
 obtain ⟨xs,k1,k2,k3,k4,k5⟩:=(h.keep hx1).cellsL
 have HX:=bH (bI hx1 (bI hb1 (bI k1 (bI k2 (bI k3 (bI k4 k5))))))
 clear hx1 hb1 k1 k2 k3 k4 k5 h
 go_enter Tryz.func136,Tryz.ntmps136
 go_wp2_with (at_builtin; refine wpList_clone rfl (.tmp 5) (.tmp 6) rfl Tryz.underlying32 Tryz.infoRat rfl (ratC_noD ⟨false,none,0,0,none,0,0⟩) (by decide) (by decide) w.heap.size w.heap.size rfl HX.out.2.1 (Nat.le_refl _) _ _ _ rfl xs HX.out.2.2.1 HX.out.2.2.2.1 HX.out.2.2.2.2.1 HX.out.2.2.2.2.2.1 hn ?_; intro v5 w5 hc5; have HO:=bH hc5)
 have HR:=bH (show RatAt w5 w.heap.size v5 n f/\XF w w5 from by
  have hx:XF w w5:=HX.out.1.own HO.out.ext (fun k e=>by have e':k=w.heap.size:=e; omega)
  refine ⟨RatAt.of HO.out.own HO.out.noDig (fun i hi=>?_),hx⟩
  obtain ⟨ng,a1,m1,c1,a2,m2,c2,e0,e1,e2,hq⟩:=HX.out.2.2.2.2.2.2 i hi
  refine ⟨ng,a1,m1,c1,a2,m2,c2,e0,e1,e2,hq.past (fun v l hv=>hv.past HO.out.ext (fun k _ e=>by
   have e':k=w.heap.size:=e
   subst e'
   exact noDig_cells HX.out.2.1 (fun u hu=>by simp at hu)))⟩)
 go_wp2
 go_ret
 exact ⟨_,rfl,HR.out⟩
theorem cloneI_any (w:World) (v:Value) (base n:Nat) (b:Nat->Nat) (h:IntAt w base v n b) (hn:n<=100000):Calls Tryz.prog 138 #[v] w (fun r w'=>∃ v',r=.returned v'/\IntAt w' w.heap.size v' n b/\XF w w'):=by
 have q22:∀ (w:World) (a:Option Addr) (n c n' c':Nat),(binOp .eql 42 (.slice a n c) (.slice none n' c')).run Tryz.prog w=.ok (.bool a.isNone) w:=fun w a n c n' c'=>Lib.run_eql_slice_nil w _ _ a n c n' c' Tryz.underlying42
 rcases h with ⟨rfl,rfl⟩ | ⟨g,cap,arr,rfl,h1,h2,h3,h4,h5,h6,h7⟩
 ·go_enter Tryz.func138,Tryz.ntmps138
  go_wp2
  go_ret
  exact ⟨_,rfl,.inl ⟨rfl,rfl⟩,Ext.refl _ _⟩
 ·have hx1:XF w (w.alloc (.cells #[] 3)):=(Ext.refl _ w).alloc _
  have hb1:blk (w.alloc (.cells #[] 3)) w.heap.size=some (.cells #[] 3 (0,0)):=blk_alloc_at _ _
  have h4':=blk_keep h4 hx1
  have HX:=bH (bI hx1 (bI hb1 (show ∀ j u,(intL n b)[j]?=some u->(w.alloc (.cells #[] 3)).cell? ((⟨g,0,none⟩:Addr).add j)=some u from fun j u hu=>by
   rw [Addr.add_lit,Nat.zero_add,cell_of_cells h4']
   have hj:j<n:=by have:=(List.getElem?_eq_some_iff.1 hu).1; simpa [intL] using this
   rw [h7 j hj]
   simpa [intL,hj] using hu)))
  clear hx1 hb1 h4' h4 h5 h6 h7
  go_enter Tryz.func138,Tryz.ntmps138
  go_wp2_with (at_builtin; refine wpList_clone rfl (.tmp 5) (.tmp 6) rfl Tryz.underlying42 Tryz.infoInt1 rfl (fun u hu d e=>by simp [Value.cells] at hu; rw [hu] at e; cases e) (by decide) (by decide) w.heap.size w.heap.size rfl HX.out.2.1 (Nat.le_refl _) _ _ _ rfl (intL n b) (by simp [intL]) HX.out.2.2 (fun u hu=>by obtain ⟨i,_,rfl⟩:=List.mem_map.1 hu; rfl) (intL_noD _ _) hn ?_; intro v5 w5 hc5; have HO:=bH hc5)
  have HR:=bH (show IntAt w5 w.heap.size v5 n b/\XF w w5 from
   ⟨IntAt.of HO.out.own HO.out.noDig,HX.out.1.own HO.out.ext (fun k e=>by have e':k=w.heap.size:=e; omega)⟩)
  go_wp2
  go_ret
  exact ⟨_,rfl,HR.out⟩
theorem wpList_app {w:World} {ops:Array Oper} {rest:List Oper} {o:Oper} {a:Act} {Q:Exit->Act->World->Prop} {z:Value} {size bytes:Nat} {e T:TypeId}
  (hgd:o.guard=none) (s x:Operand) (ho:o.op=.call { callee:=.builtin .append,args:=#[s,x],argTypes:=#[T,T] }) (ht:Tryz.prog.underlying T=some (.slice e)) (hi:(Tryz.prog.info? e).map (fun i=>(i.zero,i.size,i.bytes))=some (some z,size,bytes)) (hzs:z.cells.size=size) (hzn:NoD z.cells.toList) (hsz:0<size) (hbs:bytes<=1000)
  (base:Nat) (v:Value) (n:Nat) (xs:List Value) (hs:a.eval s=v) (hown:w.ownsRow base e size v n xs) (hnd:∀ g,v.ownBlock=some g->NoDig w g) (hxs:NoD xs) (ad:Addr) (c:Nat) (news:List Value) (hx:a.eval x=.slice (some ad) 1 c) (hl:news.length=size) (hsrc:∀ j u,news[j]?=some u->w.cell? (ad.add j)=some u) (h1:∀ u ∈ news,u.oneCell'=true) (hnn:NoD news) (hn:n<=100000) (hbase:base<=w.heap.size)
  (h:∀ v' w',App w w' base e size v v' n xs news->wpList Tryz.prog ops Q rest (a.put o.dst v') w') :
  wpList Tryz.prog ops Q (o :: rest) a w:=by
 refine wpList_plain hgd fun K hK=>?_
 have h2:=step_app (w:=w) (ops:=ops) (o:=o) (a:=a) (K:=K) (Q:=Q) (E:=True) hgd s x ho ht hi hzs hzn hsz hbs base v n xs hs hown hnd hxs ad c news hx hl hsrc h1 hnn hn hbase (fun v' w' ha=>hK _ _ (h v' w' ha))
 rwa [if_pos (by simp [Region.wanted,hgd])] at h2
section
variable {w0 w w':World} {base pb tb mb i j m:Nat} {v v' fr d l frB dB lB pv pr:Value} {ls:List LimV} {p:ProgV}
def coF (p:ProgV) (k:Nat):Rat:=((p.v k).co:Rat)
structure StartM (w0 w:World) (pb tb mb:Nat) (p:ProgV) (pv pr frB dB lB fr d l:Value) (i j:Nat) (ls:List LimV):Prop where
 box:blk w tb=some (.cells #[pv,pr,.slice none 0 0,.map (some mb),.slice none 0 0,frB,.slice none 0 0,.slice none 0 0,dB,lB] 140 (0,0))
 nod:NoDig w tb
 tbl:w0.heap.size<=tb
 mp:MapAt w w0.heap.size (.map (some mb)) []
 fr:IntAt w w0.heap.size fr i (fun k=>k)
 d:RatAt w w0.heap.size d j (coF p)
 l:LimAt w w0.heap.size l ls
 old:XF w0 w
 pbx:blk w pb=some (.cells #[pv,pr] 25 (0,0))
theorem StartM.keep (h:StartM w0 w pb tb mb p pv pr frB dB lB fr d l i j ls) (hx:XF w w'):StartM w0 w' pb tb mb p pv pr frB dB lB fr d l i j ls :=
 ⟨blk_keep h.box hx,fun i d hc=>h.nod i d (by rw [<- hx.cell (p:=⟨tb,i,none⟩) (blk_lt h.box) id]; exact hc),h.tbl,h.mp.past hx (fun _ _=>id),h.fr.past hx (fun _ _=>id),h.d.past hx (fun _ _=>id) (fun _ _ hr=>hr.keep hx),h.l.keep hx,h.old.trans hx,blk_keep h.pbx hx⟩
theorem StartM.others (h:StartM w0 w pb tb mb p pv pr frB dB lB fr d l i j ls) {v:Value} {T:TypeId} (hv:∀ g,v.ownBlock=some g->TyB w g T) (hlo:∀ g,v.ownBlock=some g->w0.heap.size<=g) (hx:Ext (fun k=>v.ownBlock=some k) w w') (hr:∀ u l,Rds w u l->Rds w' u l) (h1:T≠140) (h2:T≠25) :
  blk w' tb=some (.cells #[pv,pr,.slice none 0 0,.map (some mb),.slice none 0 0,frB,.slice none 0 0,.slice none 0 0,dB,lB] 140 (0,0))/\NoDig w' tb/\MapAt w' w0.heap.size (.map (some mb)) []/\(T≠3->IntAt w' w0.heap.size fr i (fun k=>k))/\(T≠31->RatAt w' w0.heap.size d j (coF p))/\(T≠142->LimAt w' w0.heap.size l ls)/\XF w0 w'/\blk w' pb=some (.cells #[pv,pr] 25 (0,0)):=by
 have hnt:¬ v.ownBlock=some tb:=fun e=>TyB.ne (hv tb e) ⟨_,h.box⟩ h1 rfl
 refine ⟨(hx.blk (blk_lt h.box) hnt).trans h.box,fun i d hc=>h.nod i d (by rw [<- hx.cell (p:=⟨tb,i,none⟩) (blk_lt h.box) hnt]; exact hc),h.mp.past hx (fun k hk e=>?_),fun hn=>h.fr.past hx (fun g hg e=>TyB.ne (hv g e) (h.fr.typ g hg) hn rfl),fun hn=>h.d.past hx (fun g hg e=>TyB.ne (hv g e) (h.d.typ g hg) hn rfl) hr,fun hn=>h.l.past hx (fun g hg e=>TyB.ne (hv g e) (h.l.typ g hg) hn rfl),h.old.own hx hlo,(hx.blk (blk_lt h.pbx) (fun e=>TyB.ne (hv pb e) ⟨_,h.pbx⟩ h2 rfl)).trans h.pbx⟩
 obtain ⟨mb',es,clock,e1,_,e3,_⟩:=h.mp
 cases hk; cases e1
 exact TyB.neMap (hv _ e) e3 rfl
theorem StartM.appFr (h:StartM w0 w pb tb mb p pv pr frB dB lB fr d l i j ls) (ha:App w w' w0.heap.size 3 1 fr v' i (intL i (fun k=>k)) [.int .i64 i]):StartM w0 w' pb tb mb p pv pr frB dB lB v' d l (i+1) j ls:=by
 obtain ⟨g1,g2,g3,g4,g5,g6,g7,g8⟩:=h.others (v:=fr) (T:=3) (fun g hg=>h.fr.typ g hg) (fun g hg=>h.fr.low g hg) ha.ext ha.rds (by decide) (by decide)
 exact ⟨g1,g2,h.tbl,g3,(IntAt.app ha).congr (fun k hk=>by
  by_cases e:k=i
  ·rw [if_pos e,e]
  ·rw [if_neg e]),g5 (by decide),g6 (by decide),g7,g8⟩
theorem StartM.appD (h:StartM w0 w pb tb mb p pv pr frB dB lB fr d l i j ls) {x:RatC} {xs:List Value} (ha:App w w' w0.heap.size 31 3 d v' j xs x.cells) (hq:QCells w xs j (coF p)) (hl:xs.length=j*3) (hx:IsRat w x.v (coF p j)):StartM w0 w' pb tb mb p pv pr frB dB lB fr v' l i (j+1) ls:=by
 obtain ⟨g1,g2,g3,g4,g5,g6,g7,g8⟩:=h.others (v:=d) (T:=31) (fun g hg=>h.d.typ g hg) (fun g hg=>h.d.low g hg) ha.ext ha.rds (by decide) (by decide)
 exact ⟨g1,g2,h.tbl,g3,g4 (by decide),(RatAt.app ha hq hl hx).congr (fun k hk=>by
  by_cases e:k=j
  ·rw [if_pos e,e]
  ·rw [if_neg e]),g6 (by decide),g7,g8⟩
theorem StartM.appL (h:StartM w0 w pb tb mb p pv pr frB dB lB fr d l i j ls) {x:LimV} (ha:App w w' w0.heap.size 142 3 l v' ls.length (ls.flatMap limC) (limC x)):StartM w0 w' pb tb mb p pv pr frB dB lB fr d v' i j (ls++[x]):=by
 obtain ⟨g1,g2,g3,g4,g5,g6,g7,g8⟩:=h.others (v:=l) (T:=142) (fun g hg=>h.l.typ g hg) (fun g hg=>(h.l.own.lt g hg).1) ha.ext ha.rds (by decide) (by decide)
 exact ⟨g1,g2,h.tbl,g3,g4 (by decide),g5 (by decide),LimAt.app ha,g7,g8⟩
theorem StartM.store (h:StartM w0 w pb tb mb p pv pr frB dB lB fr d l i j ls) (k:Nat) {u:Value} (hu:NotInt u) {frB' dB' lB':Value} (hV:(#[pv,pr,.slice none 0 0,.map (some mb),.slice none 0 0,frB,.slice none 0 0,.slice none 0 0,dB,lB]:Array Value).setIfInBounds k u=#[pv,pr,.slice none 0 0,.map (some mb),.slice none 0 0,frB',.slice none 0 0,.slice none 0 0,dB',lB']) :
  StartM w0 (w.setCell ⟨tb,k,none⟩ u) pb tb mb p pv pr frB' dB' lB' fr d l i j ls:=by
 have hx:Ext (fun k=>k=tb) w (w.setCell ⟨tb,k,none⟩ u):=(Ext.refl (fun k=>k=tb) w).setCell (p:=⟨tb,k,none⟩) _ (fun _=>rfl)
 have hr:∀ v l,Rds w v l->Rds (w.setCell ⟨tb,k,none⟩ u) v l:=fun v l hv=>hv.past hx (fun k _ e=>by subst e; exact h.nod)
 have hb:=blk_setCell_same h.box k u
 rw [hV] at hb
 have ne:∀ {g:Nat} {T:TypeId},TyB w g T->T≠140->¬ g=tb:=fun hg hT e=>TyB.ne hg ⟨_,h.box⟩ hT e
 refine ⟨hb,fun j d hc=>?_,h.tbl,h.mp.past hx (fun g hg e=>?_),h.fr.past hx (fun g hg=>ne (h.fr.typ g hg) (by decide)),h.d.past hx (fun g hg=>ne (h.d.typ g hg) (by decide)) hr,h.l.past hx (fun g hg=>ne (h.l.typ g hg) (by decide)),h.old.own hx (fun k e=>by have e':k=tb:=e; rw [e']; exact h.tbl),(hx.blk (blk_lt h.pbx) (fun e=>TyB.ne ⟨_,h.pbx⟩ ⟨_,h.box⟩ (by decide) e)).trans h.pbx⟩
 ·rw [cell?_setCell_if] at hc
  split at hc
  ·have hu':=hu .u32 d
   cases hw:w.cell? ⟨tb,j,none⟩ <;> simp_all
  ·exact h.nod j d hc
 ·obtain ⟨mb',es,clock,e1,_,e3,_⟩:=h.mp
  cases hg; cases e1
  have e':mb=tb:=e
  rw [e',h.box] at e3; cases e3
theorem StartM.other (h:StartM w0 w pb tb mb p pv pr frB dB lB fr d l i j ls) {x:LimV} (ha:App w w' w0.heap.size 142 3 l v' ls.length (ls.flatMap limC) (limC x)) {k:Nat} {c:Array Value} {T:TypeId} (hb:blk w k=some (.cells c T (0,0))) (h1:T≠142) (h2:T≠140) (q:Nat) (u:Value):blk (w'.setCell ⟨tb,q,none⟩ u) k=some (.cells c T (0,0)):=by
 have e1:=(ha.ext.blk (blk_lt hb) (fun e=>TyB.ne (h.l.typ _ e) ⟨_,hb⟩ (Ne.symm h1) rfl)).trans hb
 have hx:Ext (fun k=>k=tb) w' (w'.setCell ⟨tb,q,none⟩ u):=(Ext.refl (fun k=>k=tb) w').setCell (p:=⟨tb,q,none⟩) _ (fun _=>rfl)
 exact (hx.blk (blk_lt e1) (fun e=>TyB.ne ⟨_,hb⟩ ⟨_,h.box⟩ h2 e)).trans e1
def rowL (p:ProgV):Nat->List LimV
 | 0=>[]
 | i+1=>rowL p i++((if (p.r i).kind=1 then [] else [⟨(i:Int),0,false⟩])++if (p.r i).kind=0 then [] else [⟨(i:Int),0,true⟩])
def varL (p:ProgV):Nat->List LimV
 | 0=>[]
 | i+1=>varL p i++if (p.v i).op then [] else [⟨-1,i,false⟩]
def limsL (p:ProgV):List LimV:=rowL p p.rows.length++varL p p.vars.length
def startF (p:ProgV):TabF where
 n:=p.vars.length
 m:=0
 ba:=fun _=>0
 fr:=fun k=>k
 be:=fun _=>0
 d:=coF p
 al:=fun _ _=>0
theorem rowL_mem {p:ProgV} {l:LimV}:∀ {m:Nat},l ∈ rowL p m↔∃ r:Nat,r<m/\l.row=r/\l.var=0/\(l.tur=false->(p.r r).kind≠1)/\(l.tur=true->(p.r r).kind≠0)
 | 0=>by simp [rowL]
 | m+1=>by
  unfold rowL
  rw [List.mem_append,rowL_mem (m:=m),List.mem_append]
  constructor
  ·rintro (⟨r,h1,h2⟩ | h | h)
   ·exact ⟨r,by omega,h2⟩
   ·by_cases e:(p.r m).kind=1
    ·rw [if_pos e] at h; cases h
    ·rw [if_neg e] at h
     simp at h; subst h
     exact ⟨m,by omega,rfl,rfl,fun _=>e,fun h=>by cases h⟩
   ·by_cases e:(p.r m).kind=0
    ·rw [if_pos e] at h; cases h
    ·rw [if_neg e] at h
     simp at h; subst h
     exact ⟨m,by omega,rfl,rfl,fun h=>(by cases h),fun _=>e⟩
  ·rintro ⟨r,h1,h2,h3,h4,h5⟩
   by_cases e:r<m
   ·exact .inl ⟨r,e,h2,h3,h4,h5⟩
   ·obtain rfl:r=m:=by omega
    right
    obtain ⟨row,var,tur⟩:=l
    have h2:row=(r:Int):=h2
    have h3:var=0:=h3
    subst h2 h3
    cases tur with
    | false=>left; rw [if_neg (h4 rfl)]; simp
    | true=>right; rw [if_neg (h5 rfl)]; simp
theorem varL_mem {p:ProgV} {l:LimV}:∀ {m:Nat},l ∈ varL p m↔l.var<m/\l.row = -1/\l.tur=false/\(p.v l.var).op=false
 | 0=>by simp [varL]
 | m+1=>by
  unfold varL
  rw [List.mem_append,varL_mem (m:=m)]
  constructor
  ·rintro (⟨h1,h2⟩ | h)
   ·exact ⟨by omega,h2⟩
   ·cases e:(p.v m).op with
    | true=>rw [e] at h; simp at h
    | false =>
     rw [e] at h
     simp at h; subst h
     exact ⟨by show m<m+1; omega,rfl,rfl,e⟩
  ·rintro ⟨h1,h2,h3,h4⟩
   by_cases e:l.var<m
   ·exact .inl ⟨e,h2,h3,h4⟩
   ·right
    obtain ⟨row,var,tur⟩:=l
    have h1:var<m+1:=h1
    have e:¬ var<m:=e
    obtain rfl:var=m:=by omega
    have h2:row = -1:=h2
    have h3:tur=false:=h3
    subst h2 h3
    have h4:(p.v var).op=false:=h4
    rw [h4]; simp
theorem limsL_iff {p:ProgV} {l:LimV}:l ∈ limsL p↔LimOk p l:=by
 unfold limsL
 rw [List.mem_append,rowL_mem,varL_mem]
 constructor
 ·rintro (⟨r,h1,h2,h3,h4,h5⟩ | ⟨h1,h2,h3,h4⟩)
  ·refine .inr ⟨by omega,by rw [h2]; exact h1,h3,?_,?_⟩
   ·rw [h2]; exact h4
   ·rw [h2]; exact h5
  ·exact .inl ⟨h2,h1,h4,h3⟩
 ·rintro (⟨h1,h2,h3,h4⟩ | ⟨h1,h2,h3,h4,h5⟩)
  ·exact .inr ⟨h2,h1,h4,h3⟩
  ·exact .inl ⟨l.row.toNat,h2,by omega,h3,h4,h5⟩
theorem rowL_len (p:ProgV):∀ m,(rowL p m).length<=2*m
 | 0=>Nat.le_refl _
 | m+1=>by
  unfold rowL
  have:=rowL_len p m
  rw [List.length_append,List.length_append]
  split <;> split <;> simp <;> omega
theorem varL_len (p:ProgV):∀ m,(varL p m).length<=m
 | 0=>Nat.le_refl _
 | m+1=>by
  unfold varL
  have:=varL_len p m
  rw [List.length_append]
  split <;> simp <;> omega
theorem limsL_len {p:ProgV}:(limsL p).length<=2*p.rows.length+p.vars.length:=by
 unfold limsL
 rw [List.length_append]
 have:=rowL_len p p.rows.length
 have:=varL_len p p.vars.length
 omega
theorem StartM.tab {pb tb mb:Nat} {pv pr fr d l:Value} (h:StartM w0 w pb tb mb p pv pr fr d l fr d l p.vars.length p.vars.length (limsL p)) (hv:Vrs w0 pv p.vars) (hr:Rws w0 pr p.rows) (hval:validB p=true) (hn:p.vars.length<=1000) :
  TabS w0 w tb ⟨pv,pr,.slice none 0 0,.map (some mb),.slice none 0 0,fr,.slice none 0 0,.slice none 0 0,d,l,fun _=>0⟩ (startF p) p [] (limsL p) where
 rest:={
      ba:=.inl ⟨rfl,rfl⟩
      fr:=h.fr
      be:=.inl ⟨rfl,rfl⟩
      d:=h.d
      al:=.inl ⟨rfl,rfl⟩
      aln:=fun g hg=>by cases hg
      rows:=fun i hi=>absurd hi (Nat.not_lt_zero i)
      rr:=fun i j hi=>absurd hi (Nat.not_lt_zero i)
      rbe:=fun i hi=>absurd hi (Nat.not_lt_zero i)
      rd:=fun i hi=>absurd hi (Nat.not_lt_zero i)
      bed:=fun g hg=>by cases hg
      bf:=fun g hg=>by cases hg
      u:=⟨World.ownsRow_nil _ _ _ 3,fun g hg=>by cases hg⟩
      l:=h.l
      ul:=fun g hg=>by cases hg
      mp:=h.mp }
 box:=h.box
 tbl:=h.tbl
 vars:=hv
 rows:=hr
 valid:=hval
 old:=h.old
 small:=⟨hn,by show (0:Nat)<=1000; omega⟩
 hm:=rfl
 hn:=rfl
 oks:=fun j hj=>absurd hj (Nat.not_lt_zero j)
end
structure MidS (z:Nat) (w0 w1 w:World) (tb:Nat) (V0 V Vb:TabV) (m0 n m1 m2 m3:Nat) (F:TabF) (us ls ms:List LimV):Prop where
 rest:TRest w w0.heap.size V n m1 m2 m3 F us ls ms
 box:blk w tb=some (.cells #[Vb.pv,Vb.pr,Vb.u,Vb.mp,Vb.ba,Vb.fr,Vb.be,Vb.al,Vb.d,Vb.l] 140 (0,0))
 nod:NoDig w tb
 ext:Ext (V0.Big tb m0) w1 w
 rds:∀ u l,Rds w1 u l->Rds w u l
 lies:∀ k,V.All m3 k->V0.Big tb m0 k∨z<=k
 zle:z<=w1.heap.size
 size:w0.heap.size<=w.heap.size
section
variable {z:Nat} {w0 w1 w w':World} {tb m0 n m1 m2 m3:Nat} {V0 V Vb:TabV} {F:TabF} {us ls ms:List LimV}
theorem MidS.keep (h:MidS z w0 w1 w tb V0 V Vb m0 n m1 m2 m3 F us ls ms) (hx:XF w w'):MidS z w0 w1 w' tb V0 V Vb m0 n m1 m2 m3 F us ls ms :=
 ⟨h.rest.keep hx,blk_keep h.box hx,fun i d hc=>h.nod i d (by rw [<- hx.cell (p:=⟨tb,i,none⟩) (blk_lt h.box) id]; exact hc),h.ext.trans hx.none,fun u l k=>(h.rds u l k).keep hx,h.lies,h.zle,Nat.le_trans h.size hx.size⟩
theorem MidS.ntb (h:MidS z w0 w1 w tb V0 V Vb m0 n m1 m2 m3 F us ls ms) {k:Nat} (hk:V.All m3 k):k≠tb:=h.rest.ne ⟨_,h.box⟩ (by decide) (by decide) (by decide) (by decide) hk
theorem MidS.step (h:MidS w1.heap.size w0 w1 w tb V0 V Vb m0 n m1 m2 m3 F us ls ms) {S:Nat->Prop} (hx:Ext S w w') (hr:∀ u l,Rds w u l->Rds w' u l) (hS:∀ k,S k->V.All m3 k) :
  blk w' tb=some (.cells #[Vb.pv,Vb.pr,Vb.u,Vb.mp,Vb.ba,Vb.fr,Vb.be,Vb.al,Vb.d,Vb.l] 140 (0,0))/\NoDig w' tb/\Ext (V0.Big tb m0) w1 w'/\(∀ u l,Rds w1 u l->Rds w' u l)/\w0.heap.size<=w'.heap.size/\∀ k,w.heap.size<=k->w1.heap.size<=k:=by
 have hn:¬ S tb:=fun e=>h.ntb (hS tb e) rfl
 refine ⟨(hx.blk (blk_lt h.box) hn).trans h.box,fun i d hc=>h.nod i d (by rw [<- hx.cell (p:=⟨tb,i,none⟩) (blk_lt h.box) hn]; exact hc),h.ext.trans' hx (fun k hk e=>?_),fun u l k=>hr _ _ (h.rds u l k),Nat.le_trans h.size hx.size,fun k hk=>Nat.le_trans h.ext.size hk⟩
 rcases h.lies k (hS k e) with e2 | e2
 ·exact e2
 ·omega
theorem MidS.appBa (h:MidS w1.heap.size w0 w1 w tb V0 V Vb m0 n m1 m2 m3 F us ls ms) {v':Value} {x:Nat} (ha:App w w' w0.heap.size 3 1 V.ba v' m1 (intL m1 F.ba) [.int .i64 x]):MidS w1.heap.size w0 w1 w' tb V0 { V with ba:=v' } Vb m0 n (m1+1) m2 m3 { F with ba:=fun i=>if i=m1 then x else F.ba i } us ls ms:=by
 obtain ⟨g1,g2,g3,g4,g5,g6⟩:=h.step ha.ext ha.rds (fun k e=>⟨.inl e⟩)
 refine ⟨h.rest.appBa ha,g1,g2,g3,g4,fun k hk=>?_,Nat.le_refl _,g5⟩
 rcases hk.ex with e | e | e | e | e | e | e | e | e
 ·rcases ha.new k e with e2 | e2
  ·exact h.lies k ⟨.inl e2⟩
  ·exact .inr (g6 k e2)
 ·exact h.lies k ⟨.inr (.inl e)⟩
 ·exact h.lies k ⟨.inr (.inr (.inl e))⟩
 ·exact h.lies k ⟨.inr (.inr (.inr (.inl e)))⟩
 ·exact h.lies k ⟨.inr (.inr (.inr (.inr (.inl e))))⟩
 ·exact h.lies k ⟨.inr (.inr (.inr (.inr (.inr (.inl e)))))⟩
 ·exact h.lies k ⟨.inr (.inr (.inr (.inr (.inr (.inr (.inl e))))))⟩
 ·exact h.lies k ⟨.inr (.inr (.inr (.inr (.inr (.inr (.inr (.inl e)))))))⟩
 ·exact h.lies k ⟨.inr (.inr (.inr (.inr (.inr (.inr (.inr (.inr e)))))))⟩
theorem MidS.appU (h:MidS w1.heap.size w0 w1 w tb V0 V Vb m0 n m1 m2 m3 F us ls ms) {v':Value} {x:LimV} (ha:App w w' w0.heap.size 142 3 V.u v' us.length (us.flatMap limC) (limC x)):MidS w1.heap.size w0 w1 w' tb V0 { V with u:=v' } Vb m0 n m1 m2 m3 F (us++[x]) ls ms:=by
 obtain ⟨g1,g2,g3,g4,g5,g6⟩:=h.step ha.ext ha.rds (fun k e=>⟨.inr (.inr (.inr (.inr (.inr (.inl e)))))⟩)
 refine ⟨h.rest.appU ha,g1,g2,g3,g4,fun k hk=>?_,Nat.le_refl _,g5⟩
 rcases hk.ex with e | e | e | e | e | e | e | e | e
 ·exact h.lies k ⟨.inl e⟩
 ·exact h.lies k ⟨.inr (.inl e)⟩
 ·exact h.lies k ⟨.inr (.inr (.inl e))⟩
 ·exact h.lies k ⟨.inr (.inr (.inr (.inl e)))⟩
 ·exact h.lies k ⟨.inr (.inr (.inr (.inr (.inl e))))⟩
 ·rcases ha.new k e with e2 | e2
  ·exact h.lies k ⟨.inr (.inr (.inr (.inr (.inr (.inl e2)))))⟩
  ·exact .inr (g6 k e2)
 ·exact h.lies k ⟨.inr (.inr (.inr (.inr (.inr (.inr (.inl e))))))⟩
 ·exact h.lies k ⟨.inr (.inr (.inr (.inr (.inr (.inr (.inr (.inl e)))))))⟩
 ·exact h.lies k ⟨.inr (.inr (.inr (.inr (.inr (.inr (.inr (.inr e)))))))⟩
theorem MidS.appBe (h:MidS w1.heap.size w0 w1 w tb V0 V Vb m0 n m1 m2 m3 F us ls ms) {v':Value} {x:RatC} {q:Rat} {xs:List Value} (ha:App w w' w0.heap.size 31 3 V.be v' m2 xs x.cells) (hq:QCells w xs m2 F.be) (hl:xs.length=m2*3) (hx:IsRat w x.v q):MidS w1.heap.size w0 w1 w' tb V0 { V with be:=v' } Vb m0 n m1 (m2+1) m3 { F with be:=fun i=>if i=m2 then q else F.be i } us ls ms:=by
 obtain ⟨g1,g2,g3,g4,g5,g6⟩:=h.step ha.ext ha.rds (fun k e=>⟨.inr (.inr (.inl e))⟩)
 refine ⟨h.rest.appBe ha hq hl hx,g1,g2,g3,g4,fun k hk=>?_,Nat.le_refl _,g5⟩
 rcases hk.ex with e | e | e | e | e | e | e | e | e
 ·exact h.lies k ⟨.inl e⟩
 ·exact h.lies k ⟨.inr (.inl e)⟩
 ·rcases ha.new k e with e2 | e2
  ·exact h.lies k ⟨.inr (.inr (.inl e2))⟩
  ·exact .inr (g6 k e2)
 ·exact h.lies k ⟨.inr (.inr (.inr (.inl e)))⟩
 ·exact h.lies k ⟨.inr (.inr (.inr (.inr (.inl e))))⟩
 ·exact h.lies k ⟨.inr (.inr (.inr (.inr (.inr (.inl e)))))⟩
 ·exact h.lies k ⟨.inr (.inr (.inr (.inr (.inr (.inr (.inl e))))))⟩
 ·exact h.lies k ⟨.inr (.inr (.inr (.inr (.inr (.inr (.inr (.inl e)))))))⟩
 ·exact h.lies k ⟨.inr (.inr (.inr (.inr (.inr (.inr (.inr (.inr e)))))))⟩
theorem MidS.appAl (h:MidS w1.heap.size w0 w1 w tb V0 V Vb m0 n m1 m2 m3 F us ls ms) {v':Value} {nb:Nat} {f:Nat->Rat} (ha:App w w' w0.heap.size 32 1 V.al v' m3 (valL' m3 (fun i=>.slice (some ⟨V.rb i,0,none⟩) n n)) [.slice (some ⟨nb,0,none⟩) n n]) (hrow:RCap w nb n f) (hz:z<=w1.heap.size) (hnb:z<=nb) (hlow:w0.heap.size<=nb) (hno:¬ V.All m3 nb) :
  MidS z w0 w1 w' tb V0 { V with al:=v',rb:=fun i=>if i=m3 then nb else V.rb i } Vb m0 n m1 m2 (m3+1) { F with al:=fun i=>if i=m3 then f else F.al i } us ls ms:=by
 have wk:∀ {k:Nat},V0.Big tb m0 k∨w1.heap.size<=k->V0.Big tb m0 k∨z<=k:=fun h=>h.imp id (Nat.le_trans hz)
 obtain ⟨g1,g2,g3,g4,g5,g6⟩:=h.step ha.ext ha.rds (fun k e=>⟨.inr (.inr (.inr (.inr (.inl e))))⟩)
 refine ⟨h.rest.appAl ha hrow hlow (fun i hi e=>hno ⟨.inr (.inr (.inr (.inr (.inr (.inr (.inr (.inr ⟨i,hi,e.symm⟩)))))))⟩) (fun e=>hno ⟨.inr (.inr (.inl e))⟩) (fun e=>hno ⟨.inr (.inr (.inr (.inl e)))⟩),g1,g2,g3,g4,fun k hk=>?_,hz,g5⟩
 rcases hk.ex with e | e | e | e | e | e | e | e | ⟨i,hi,e⟩
 ·exact wk (h.lies k ⟨.inl e⟩)
 ·exact wk (h.lies k ⟨.inr (.inl e)⟩)
 ·exact wk (h.lies k ⟨.inr (.inr (.inl e))⟩)
 ·exact wk (h.lies k ⟨.inr (.inr (.inr (.inl e)))⟩)
 ·rcases ha.new k e with e2 | e2
  ·exact wk (h.lies k ⟨.inr (.inr (.inr (.inr (.inl e2))))⟩)
  ·exact .inr (Nat.le_trans hz (g6 k e2))
 ·exact wk (h.lies k ⟨.inr (.inr (.inr (.inr (.inr (.inl e)))))⟩)
 ·exact wk (h.lies k ⟨.inr (.inr (.inr (.inr (.inr (.inr (.inl e))))))⟩)
 ·exact wk (h.lies k ⟨.inr (.inr (.inr (.inr (.inr (.inr (.inr (.inl e)))))))⟩)
 ·have e:k=if i=m3 then nb else V.rb i:=e
  by_cases e2:i=m3
  ·rw [if_pos e2] at e; rw [e]; exact .inr hnb
  ·rw [if_neg e2] at e; exact wk (h.lies k ⟨.inr (.inr (.inr (.inr (.inr (.inr (.inr (.inr ⟨i,by omega,e⟩)))))))⟩)
theorem MidS.setMap (h:MidS w1.heap.size w0 w1 w tb V0 V Vb m0 n m1 m2 m3 F us ls ms) {mb:Nat} {es:Array MapEntry} {clock:Nat} {ms':List LimV} (hv:V.mp=.map (some mb)) (hlow:w0.heap.size<=mb) {w'':World} {O:Obj} (e1:w''=setBlock (setBlock w mb O) mb (.map es clock)) (hl:LimMap es ms') (hst:Stamped es clock):MidS w1.heap.size w0 w1 w'' tb V0 V Vb m0 n m1 m2 m3 F us ls ms':=by
 obtain ⟨mb',es0,clock0,h5,_,h6,_⟩:=h.rest.mp
 rw [hv] at h5; cases h5
 have hnd:NoDig w mb:=fun i d hc=>by
  have:w.cell? ⟨mb,i,none⟩=none:=by
   unfold World.cell?
   have h6:w.heap[mb]?=some (.map es0 clock0):=h6
   simp [h6]
  rw [this] at hc; cases hc
 have hx:Ext (fun k=>k=mb) w w'':=by
  rw [e1]
  exact ((Ext.refl (fun k=>k=mb) w).setBlock mb O (fun _=>rfl)).setBlock mb _ (fun _=>rfl)
 have hr:∀ u l,Rds w u l->Rds w'' u l:=fun u l hu=>hu.past hx (fun k _ e=>by subst e; exact hnd)
 obtain ⟨g1,g2,g3,g4,g5,g6⟩:=h.step hx hr (fun k e=>⟨.inr (.inr (.inr (.inr (.inr (.inr (.inr (.inl (by rw [show k=mb from e]; exact hv))))))))⟩)
 refine ⟨h.rest.setMap hv hx hnd ⟨mb,es,clock,hv,hlow,?_,hl,hst⟩,g1,g2,g3,g4,h.lies,Nat.le_refl _,g5⟩
 have hlt:=blk_lt h6
 rw [e1]
 unfold blk setBlock
 simp [hlt]
theorem MidS.store (h:MidS z w0 w1 w tb V0 V Vb m0 n m1 m2 m3 F us ls ms) (i:Nat) {u:Value} (hu:NotInt u) (Vb':TabV) (hV:(#[Vb.pv,Vb.pr,Vb.u,Vb.mp,Vb.ba,Vb.fr,Vb.be,Vb.al,Vb.d,Vb.l]:Array Value).setIfInBounds i u=#[Vb'.pv,Vb'.pr,Vb'.u,Vb'.mp,Vb'.ba,Vb'.fr,Vb'.be,Vb'.al,Vb'.d,Vb'.l]) :
  MidS z w0 w1 (w.setCell ⟨tb,i,none⟩ u) tb V0 V Vb' m0 n m1 m2 m3 F us ls ms:=by
 obtain ⟨g1,g2,g3⟩:=h.rest.box h.box h.nod i u
 have hb:=blk_setCell_same h.box i u
 rw [hV] at hb
 refine ⟨g1,hb,fun j d hc=>?_,h.ext.trans (g3.mono (fun k _ e=>.inl e)),fun v l k=>g2 v l (h.rds v l k),h.lies,h.zle,Nat.le_trans h.size g3.size⟩
 rw [cell?_setCell_if] at hc
 split at hc
 ·have hu':=hu .u32 d
  cases hw:w.cell? ⟨tb,j,none⟩ <;> simp_all
 ·exact h.nod j d hc
theorem TabS.noDig {T:TabF} {p:ProgV} (h:TabS w0 w tb V T p us ls):NoDig w tb:=by
 obtain ⟨vo,vc,e1,_⟩:=h.vars.shape
 obtain ⟨ro,rc,e2,_⟩:=h.rows.shape
 obtain ⟨uo,uc,e3⟩:=h.rest.u.shape
 obtain ⟨lo,lc,e4⟩:=h.rest.l.shape
 exact tab_noDig h.rest h.box (slice_notInt e1) (slice_notInt e2) (slice_notInt e3) h.rest.mp.notInt h.rest.ba.notInt h.rest.fr.notInt h.rest.be.notInt h.rest.al.notInt h.rest.d.notInt (slice_notInt e4)
theorem TabS.mid {T:TabF} {p:ProgV} (h:TabS w0 w tb V T p us ls):MidS w.heap.size w0 w w tb V V V T.m T.n T.m T.m T.m T us ls us :=
 ⟨h.rest,h.box,h.noDig,Ext.refl _ _,fun _ _ k=>k,fun k hk=>.inl (.inr hk),Nat.le_refl _,h.old.size⟩
end
section
variable {P:Program} {md:Region.Mode} {ops:Array Oper} {Q:Exit->Act->World->Prop} {S S2:World->Prop} {k:Nat->Bool}
def EndsN (P:Program) (md:Region.Mode) (ops:Array Oper) (Q:Exit->Act->World->Prop) (S S2:World->Prop) (k:Nat->Bool):Nat->Array Bool->Act->World->Prop
 | 0,ls,a,w=>Region.ready md ops ls=[]/\Q .normal a w
 | n+1,ls,a,w=>(Region.ready md ops ls=[]->Q .normal a w)/\∀ i ∈ Region.ready md ops ls,wpOp P ops Q i (fun a' w'=>((k i=false->S w->S w')/\(S2 w->S2 w'))/\EndsN P md ops Q S S2 k n (ls.setIfInBounds i true) a' w') a w
theorem EndsN.any:∀ (n:Nat) (ls:Array Bool) (a:Act) (w:World),EndsN P md ops Q S S2 k n ls a w->wpAny P md ops Q n ls a w
 | 0,_,_,_,h=>h
 | n+1,_,_,_,h=>⟨h.1,fun i hi=>wpOp_mono (fun a w h=>EndsN.any n _ a w h.2) (h.2 i hi)⟩
theorem EndsN.takeE {i:Nat} {oi:Oper} {v:Value} (hi:ops[i]?=some oi) (hsel:∀ (j:Nat) (o:Oper) cs b,ops[j]?=some o->o.op≠.select cs b) (hQ:∀ c a w,Q (.panic c) (a.put oi.dst v) w->Q (.panic c) a w) :
  ∀ (n:Nat) (ls:Array Bool) (a:Act) (w:World),Apart md ops i oi ls->i ∈ Region.ready md ops ls->YieldsIf P ops S2 oi v a->S2 w->EndsN P md ops Q S S2 k n (ls.setIfInBounds i true) (a.put oi.dst v) w->EndsN P md ops Q S S2 k (n+1) ls a w:=by
 have first:∀ (n:Nat) (ls:Array Bool) (a:Act) (w:World),YieldsIf P ops S2 oi v a->S2 w->EndsN P md ops Q S S2 k n (ls.setIfInBounds i true) (a.put oi.dst v) w->wpOp P ops Q i (fun a' w'=>((k i=false->S w->S w')/\(S2 w->S2 w'))/\EndsN P md ops Q S S2 k n (ls.setIfInBounds i true) a' w') a w :=
  fun n ls a w hy hS H=>hy.wpOp hi hS ⟨⟨fun _ hs=>hs,fun hs=>hs⟩,H⟩
 intro n
 induction n with
 | zero =>
  intro ls a w _ hr hy hS H
  refine ⟨fun h=>(by rw [h] at hr; cases hr),fun j hj=>?_⟩
  rcases Decidable.em (j=i) with e | e
  ·rw [e]; exact first 0 ls a w hy hS H
  ·have:=ready_mono hj e
   rw [H.1] at this; cases this
 | succ n ih =>
  intro ls a w hap hr hy hS H
  refine ⟨fun h=>(by rw [h] at hr; cases hr),fun j hj=>?_⟩
  rcases Decidable.em (j=i) with e | e
  ·rw [e]; exact first (n+1) ls a w hy hS H
  ·obtain ⟨hju,oj,hoj,_⟩:=mem_ready.1 hj
   have h2:=wpOp_putIf hoj (hap j oj hoj e hju (unlisted hr hoj hj)) (fun cs b=>hsel i oi cs b hi) (fun cs b=>hsel j oj cs b hoj) hQ hy (H.2 j (ready_mono hj e))
   refine wpOp_mono (fun a' w' h3=>?_) h2
   have hr':i ∈ Region.ready md ops (ls.setIfInBounds j true):=ready_mono hr (Ne.symm e)
   exact ⟨h3.2.1,ih _ a' w' (hap.next hju) hr' h3.1 (h3.2.1.2 hS) (by rw [Array.setIfInBounds_comm _ _ e]; exact h3.2.2)⟩
theorem EndsN.takeD {i:Nat} {oi:Oper} {v:Value} (D:Nat->Prop) (hi:ops[i]?=some oi) (hsel:∀ (j:Nat) (o:Oper) cs b,ops[j]?=some o->o.op≠.select cs b) (hQ:∀ c a w,Q (.panic c) (a.put oi.dst v) w->Q (.panic c) a w)
  (hD:∀ p,D p->∃ q,Wts md ops p q/\(q=i∨D q)) (hk:k i=false/\∀ j,k j=true->D j) :
  ∀ (n:Nat) (ls:Array Bool) (a:Act) (w:World),Apart md ops i oi ls->i ∈ Region.ready md ops ls->(∀ p,D p->ls.getD p false=false)->YieldsIf P ops S oi v a->S w->EndsN P md ops Q S S2 k n (ls.setIfInBounds i true) (a.put oi.dst v) w->EndsN P md ops Q S S2 k (n+1) ls a w:=by
 have first:∀ (n:Nat) (ls:Array Bool) (a:Act) (w:World),YieldsIf P ops S oi v a->S w->EndsN P md ops Q S S2 k n (ls.setIfInBounds i true) (a.put oi.dst v) w->wpOp P ops Q i (fun a' w'=>((k i=false->S w->S w')/\(S2 w->S2 w'))/\EndsN P md ops Q S S2 k n (ls.setIfInBounds i true) a' w') a w :=
  fun n ls a w hy hS H=>hy.wpOp hi hS ⟨⟨fun _ hs=>hs,fun hs=>hs⟩,H⟩
 intro n
 induction n with
 | zero =>
  intro ls a w _ hr _ hy hS H
  refine ⟨fun h=>(by rw [h] at hr; cases hr),fun j hj=>?_⟩
  rcases Decidable.em (j=i) with e | e
  ·rw [e]; exact first 0 ls a w hy hS H
  ·have:=ready_mono hj e
   rw [H.1] at this; cases this
 | succ n ih =>
  intro ls a w hap hr hnl hy hS H
  refine ⟨fun h=>(by rw [h] at hr; cases hr),fun j hj=>?_⟩
  rcases Decidable.em (j=i) with e | e
  ·rw [e]; exact first (n+1) ls a w hy hS H
  ·obtain ⟨hju,oj,hoj,_⟩:=mem_ready.1 hj
   have h2:=wpOp_putIf hoj (hap j oj hoj e hju (unlisted hr hoj hj)) (fun cs b=>hsel i oi cs b hi) (fun cs b=>hsel j oj cs b hoj) hQ hy (H.2 j (ready_mono hj e))
   refine wpOp_mono (fun a' w' h3=>?_) h2
   have hr':i ∈ Region.ready md ops (ls.setIfInBounds j true):=ready_mono hr (Ne.symm e)
   have hno:∀ p,Wts md ops j p->p≠i/\ls.getD p false=true:=fun p ⟨ok,ho,e',he,hb,hon⟩=>by
    rw [hoj] at ho; cases ho
    refine ⟨fun ep=>unlisted hr hoj hj e' he hb (hon.trans ep),?_⟩
    obtain ⟨_,o2,ho2,hall⟩:=mem_ready.1 hj
    rw [hoj] at ho2; cases ho2
    rw [<- hon]; exact hall e' he hb
   have hnD:¬ D j:=fun hd=>by
    obtain ⟨q,h4,h5⟩:=hD j hd
    rcases h5 with h5 | h5
    ·exact (hno q h4).1 h5
    ·have h6:=(hno q h4).2
     rw [hnl q h5] at h6; cases h6
   have hjk:k j=false:=by
    cases hkj:k j with
    | false=>rfl
    | true=>exact absurd (hk.2 j hkj) hnD
   have hnl':∀ p,D p->(ls.setIfInBounds j true).getD p false=false:=fun p hp=>by
    have hpj:p≠j:=fun ep=>hnD (ep ▸ hp)
    rw [getD_set_ne false (Ne.symm hpj)]; exact hnl p hp
   exact ⟨h3.2.1,ih _ a' w' (hap.next hju) hr' hnl' h3.1 (h3.2.1.1 hjk hS) (by rw [Array.setIfInBounds_comm _ _ e]; exact h3.2.2)⟩
end
section
variable {P:Program} {md:Region.Mode} {l:List Oper} {Q:Exit->Act->World->Prop} {S S2:World->Prop} {k:Nat}
abbrev EndsNk (P:Program) (md:Region.Mode) (l:List Oper) (Q:Exit->Act->World->Prop) (S S2:World->Prop) (k:Nat) (n:Nat) (ls:Array Bool) (a:Act) (w:World):Prop:=EndsN P md l.toArray Q S S2 (fun j=>decide (k<=j) && decide (j<l.length)) n ls a w
theorem nf (i:Nat) {oi:Oper} {v:Value} {fuel:Nat} {listed:Array Bool} {a:Act} {w:World} (hi:l[i]?=some oi:=by rfl) (hs:Region.noSelect l.toArray=true:=by kernel_rfl) (hf:Region.free md l.toArray listed i=true:=by kernel_rfl)
  (hr:(Region.ready md l.toArray listed).contains i=true:=by kernel_rfl) (hQ:∀ c a w,Q (.panic c) (a.put oi.dst v) w->Q (.panic c) a w:=by exact fun _ _ _ h=>h) (hw:Region.wanted oi (yielded l.toArray a.tmps)=true:=by rfl)
  (he:∀ w,S2 w->(execOp a.eval oi).run P w=.ok (.value v) w:=by (intro w hSw; (try go_frame); (try dsimp only at hSw); go_simp) <;> with_reducible rfl) (hS:S2 w:=by assumption) (h:EndsNk P md l Q S S2 k fuel (listed.setIfInBounds i true) (a.put oi.dst v) w):EndsNk P md l Q S S2 k (fuel+1) listed a w :=
 have hi':l.toArray[i]?=some oi:=by simpa using hi
 EndsN.takeE hi' (Region.noSelect_spec hs) hQ fuel listed a w (Region.free_spec hi' hf) (by simpa using hr) (.inl ⟨hw,he⟩) hS h
theorem nu (i:Nat) {oi:Oper} {v:Value} {fuel:Nat} {listed:Array Bool} {a:Act} {w:World} (hi:l[i]?=some oi:=by rfl) (hs:Region.noSelect l.toArray=true:=by kernel_rfl) (hf:Region.free md l.toArray listed i=true:=by kernel_rfl)
  (hr:(Region.ready md l.toArray listed).contains i=true:=by kernel_rfl) (hk:depsOk md l i (depsOf md i l 0 [])=true:=by kernel_rfl) (hl:lateOk l k i (depsOf md i l 0 [])=true:=by kernel_rfl) (hnl:idleD listed (depsOf md i l 0 [])=true:=by kernel_rfl) (hQ:∀ c a w,Q (.panic c) (a.put oi.dst v) w->Q (.panic c) a w:=by exact fun _ _ _ h=>h) (hw:Region.wanted oi (yielded l.toArray a.tmps)=true:=by rfl)
  (he:∀ w,S w->(execOp a.eval oi).run P w=.ok (.value v) w:=by (intro w hSw; (try go_frame); (try dsimp only at hSw); go_simp) <;> with_reducible rfl) (hS:S w:=by assumption) (h:EndsNk P md l Q S S2 k fuel (listed.setIfInBounds i true) (a.put oi.dst v) w):EndsNk P md l Q S S2 k (fuel+1) listed a w :=
 have hi':l.toArray[i]?=some oi:=by simpa using hi
 EndsN.takeD (fun p=>p ∈ depsOf md i l 0 []) hi' (Region.noSelect_spec hs) hQ (depsOk_spec hk) (lateOk_spec hl) fuel listed a w (Region.free_spec hi' hf) (by simpa using hr) (fun p hp=>by have:=List.all_eq_true.1 hnl p hp; simpa using this) (.inl ⟨hw,he⟩) hS h
theorem nst (i:Nat) {oi:Oper} {fuel:Nat} {listed:Array Bool} {a:Act} {w:World} (hi:l[i]?=some oi:=by rfl) (hr:Region.ready md l.toArray listed=[i]:=by kernel_rfl)
  (h:∀ K':Act->World->Prop,Shut (∀ a w,S w->S2 w->(S w->S2 w->EndsNk P md l Q S S2 k fuel (listed.setIfInBounds i true) a w)->K' a w)->if Region.wanted oi (yielded l.toArray a.tmps)=true then Oper.wp P oi a w K' Q else K' (a.put oi.dst undef) w) :
  EndsNk P md l Q S S2 k (fuel+1) listed a w:=by
 refine ⟨fun h0=>(by rw [hr] at h0; cases h0),fun j hj=>?_⟩
 rw [hr] at hj
 obtain rfl:=List.mem_singleton.1 hj
 exact wpOp_step (by simpa using hi) (fun K' hK=>h K' (fun a w hS hS2 hW=>hK a w ⟨⟨fun _ _=>hS,fun _=>hS2⟩,hW hS hS2⟩))
theorem nl (i:Nat) {oi:Oper} {fuel:Nat} {listed:Array Bool} {a:Act} {w:World} (hi:l[i]?=some oi:=by rfl) (hr:Region.ready md l.toArray listed=[i]:=by kernel_rfl) (hk:(decide (k<=i) && decide (i<l.length))=true:=by kernel_rfl)
  (h:∀ K':Act->World->Prop,Shut (∀ a w,S2 w->(S2 w->EndsNk P md l Q S S2 k fuel (listed.setIfInBounds i true) a w)->K' a w)->if Region.wanted oi (yielded l.toArray a.tmps)=true then Oper.wp P oi a w K' Q else K' (a.put oi.dst undef) w) :
  EndsNk P md l Q S S2 k (fuel+1) listed a w:=by
 refine ⟨fun h0=>(by rw [hr] at h0; cases h0),fun j hj=>?_⟩
 rw [hr] at hj
 obtain rfl:=List.mem_singleton.1 hj
 exact wpOp_step (by simpa using hi) (fun K' hK=>h K' (fun a w hS hW=>hK a w ⟨⟨fun e=>absurd (hk.symm.trans e) (by decide),fun _=>hS⟩,hW hS⟩))
theorem ndone {listed:Array Bool} {a:Act} {w:World} (hr:Region.ready md l.toArray listed=[]) (h:Q .normal a w):∀ fuel,EndsNk P md l Q S S2 k fuel listed a w
 | 0=>⟨hr,h⟩
 | _+1=>⟨fun _=>h,by rw [hr]; simp⟩
theorem nbegin {id:Nat} {a:Act} {w:World} (k:Nat) (S S2:World->Prop) (hm:P.follows .mixedOrders=true) (hS:S w.drew) (hS2:S2 w.drew)
  (h:S w.drew->S2 w.drew->EndsNk P .any l Q S S2 k l.toArray.size (Array.replicate l.toArray.size false) a w.drew):(Code.region id l.toArray true).wp P Q a w :=
 wp_region_any hm (EndsN.any _ _ _ _ (h hS hS2))
end
end Go.Proofs.YtbgienfcmdgaaaaGreat
