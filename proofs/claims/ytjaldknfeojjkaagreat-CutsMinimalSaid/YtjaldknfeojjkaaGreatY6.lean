/-
  Texts of the proof, part 6. Conditions: each lemma names its own.
-/
import Derived.Test.YtjaldknfeojjkaaGreatY2
import Derived.Test.YtjaldknfeojjkaaGreatY3
import Derived.Test.YtjaldknfeojjkaaGreatY4
import Derived.Test.YtjaldknfeojjkaaGreatY5
import Derived.Maps.RangeWalk
set_option linter.unusedVariables false
set_option linter.unusedSimpArgs false
set_option maxRecDepth 100000
set_option maxHeartbeats 16000000
namespace Go.Proofs.YtjaldknfeojjkaaGreat
open Go.RowKit Go.MapKept
open Go.ChangeMaps (setBlock)
structure CvSt (w wr:World) (pb rb qb sb B n:Nat) (pc rc:Array Value) (vv:Value) (l:List VarV) (sg:Int) (f:Nat->Rat):Prop where
 q:QSt w wr pb rb qb pc rc 35 vv l
 arr:RArr wr B n f
 sgn:∃ ng so sn sc s2 sm2 sc2,BoxR wr sb ng (.slice so sn sc) (.slice s2 sm2 sc2)/\IsRat wr (.agg #[.bool ng,.slice so sn sc,.slice s2 sm2 sc2]) (sg:Rat)
 ord:sb<B/\w.heap.size<=sb
section
variable {w wr w':World} {pb rb qb sb B n:Nat} {pc rc:Array Value} {vv:Value} {l:List VarV} {sg:Int} {f g:Nat->Rat}
theorem CvSt.keep (h:CvSt w wr pb rb qb sb B n pc rc vv l sg f) (hx:XF wr w'):CvSt w w' pb rb qb sb B n pc rc vv l sg f :=
 ⟨h.q.keep hx,h.arr.keep hx,(by obtain ⟨ng,so,sn,sc,s2,sm2,sc2,h1,h2⟩:=h.sgn; exact ⟨ng,so,sn,sc,s2,sm2,sc2,h1.keep hx,h2.keep hx⟩),h.ord⟩
theorem CvSt.setArr (h:CvSt w wr pb rb qb sb B n pc rc vv l sg f) {j:Nat} (hj:j<n) {neg:Bool} {a1 a2:Option Addr} {m1 c1 m2 c2:Nat} {u:Rat} (hu:IsRat wr (.agg #[.bool neg,.slice a1 m1 c1,.slice a2 m2 c2]) u) (hg:∀ i,(fun k=>if k=j then u else f k) i=g i) :
  CvSt w (((wr.setCell ⟨B,j*3,none⟩ (.bool neg)).setCell ⟨B,j*3+1,none⟩ (.slice a1 m1 c1)).setCell ⟨B,j*3+2,none⟩ (.slice a2 m2 c2)) pb rb qb sb B n pc rc vv l sg g:=by
 obtain ⟨p1,p2,p3⟩:=h.arr.put hj hu
 obtain ⟨o1,o2⟩:=h.ord
 obtain ⟨arr,hb,_⟩:=h.arr.row
 refine ⟨h.q.past p2 ⟨arr,hb⟩ (by decide) (by omega),p1.congr (fun i _=>hg i),?_,h.ord⟩
 obtain ⟨ng,so,sn,sc,s2,sm2,sc2,h1,h2⟩:=h.sgn
 exact ⟨ng,so,sn,sc,s2,sm2,sc2,h1.ext p2 (fun e=>by have e':sb=B:=e; omega),(by obtain ⟨mag,dv',g1,g2,g3⟩:=h2; exact ⟨mag,dv',g1,p3 _ _ g2,p3 _ _ g3⟩)⟩
end
theorem cfL_zero {n:Nat} {sg:Int} {ts:List TermV} {i:Nat}:atQ (cfL n sg (ts.take 0)) i=0:=by
 rw [atQ_nat]; unfold cfL
 simp [List.getD_eq_getElem?_getD,List.getElem?_replicate]
 split <;> rfl
def covO:Option Rat->Rat->Bool
 | some s,c=>decide (c<s)
 | none,_=>false
theorem covB_eq (p:ProgV) (r:RowV) (vs:List Int):covB p r vs=covO (leastQ (oneP p vs) (cfL p.vars.length (sgR r) r.terms)) ((sgR r:Rat)*(r.bound:Rat)):=by
 unfold covB
 cases leastQ (oneP p vs) (cfL p.vars.length (sgR r) r.terms) <;> rfl
theorem sgR_in (r:RowV):InR (sgR r):=by unfold sgR InR; split <;> omega
theorem sgn_gt {s t:Rat}:decide (0<(s - t).num.sign)=decide (t<s):=by
 rw [decide_eq_decide]
 exact (sign_gt _).trans (by constructor <;> intro h <;> grind)
theorem covers_any (w:World) (pv vsv:Value) (p:ProgV) (r:RowV) (ta:Option Addr) (tc:Nat) (vs:List Int) (hp:IsPrg w pv p) (hok:RowOk r) (ht:Tms w (.slice ta r.terms.length tc) r.terms) (hin:∀ t ∈ r.terms,0<=t.var/\t.var<p.vars.length) (hv:Inz w vsv vs) (hvs:∀ v ∈ vs,0<=v/\v<p.vars.length) (hn:p.vars.length<=1000) :
  Calls Tryz.prog 76 #[pv,.agg #[.string r.name,.int .i64 r.group,.int .i64 r.kind,.slice ta r.terms.length tc,.int .i64 r.bound],vsv] w (BoolPost w (covB p r vs)):=by
 obtain ⟨vv,rv,rfl,hpv,hpr⟩:=hp
 obtain ⟨vo,vc,rfl,-,-,-⟩:=hpv.shape
 obtain ⟨ro,rc,rfl,-,-,-⟩:=hpr.shape
 obtain ⟨so,sc,rfl,hsm⟩:=hv.shape
 obtain ⟨-,-,-,-,htm,-⟩:=ht.shape
 have HCl:=bH (fun W (hW:XF w W)=>cloneV_any W vo p.vars.length vc p.vars (hpv.keep hW).1 (by omega))
 have HVo:=bH hpv.2
 have HT:=bH (bI ht hin)
 have HV:=bH (bI hv hvs)
 have HOk:=bH hok
 have HF1:=bH (fun W=>rfrom_any W 1 (by decide) (by decide))
 have HFm:=bH (fun W=>rfrom_any W (-1) (by decide) (by decide))
 obtain ⟨nm,hnm⟩:∃ x,r.name=x:=⟨_,rfl⟩
 obtain ⟨gr,hgr⟩:∃ x,r.group=x:=⟨_,rfl⟩
 obtain ⟨kd,hkd⟩:∃ x,r.kind=x:=⟨_,rfl⟩
 obtain ⟨bd,hbd⟩:∃ x,r.bound=x:=⟨_,rfl⟩
 obtain ⟨tl,htl⟩:∃ x,r.terms.length=x:=⟨_,rfl⟩
 obtain ⟨n,hn'⟩:∃ x,p.vars.length=x:=⟨_,rfl⟩
 obtain ⟨m,hm'⟩:∃ x,p.rows.length=x:=⟨_,rfl⟩
 obtain ⟨sl,hsl⟩:∃ x,vs.length=x:=⟨_,rfl⟩
 have HE:=bH (bI hbd (bI htl (bI hn' hsl)))
 have HSg:=bH (show sgR r=if kd=1 then -1 else 1 from by rw [<- hkd]; rfl)
 have HSi:=bH (sgR_in r)
 have hmax:n<=1000:=by omega
 have hsm2:(sl:Int)<=9223372036854775807:=by unfold maxLen at hsm; omega
 have htm2:(tl:Int)<=9223372036854775807:=by omega
 clear hsm htm
 rw [hnm,hgr,hkd,hbd,htl,hn',hm',hsl]
 rw [hn'] at HCl HT HV
 rw [htl] at HT
 rw [hsl] at HV
 clear hpv hpr ht hin hv hvs hok hnm hgr hkd hbd htl hn' hm' hsl hn
 have hxa:=(Ext.refl (fun _=>False) w).alloc (.cells #[.slice vo n vc,.slice ro m rc] 25)
 have hxb:=(Ext.refl (fun _=>False) (w.alloc (.cells #[.slice vo n vc,.slice ro m rc] 25))).alloc (.cells #[.string nm,.int .i64 gr,.int .i64 kd,.slice ta tl tc,.int .i64 bd] 35)
 have hb2:blk ((w.alloc (.cells #[.slice vo n vc,.slice ro m rc] 25)).alloc (.cells #[.string nm,.int .i64 gr,.int .i64 kd,.slice ta tl tc,.int .i64 bd] 35)) (w.heap.size+1)=some (.cells #[.string nm,.int .i64 gr,.int .i64 kd,.slice ta tl tc,.int .i64 bd] 35 (0,0)):=by
  have h:=blk_alloc_at (w.alloc (.cells #[.slice vo n vc,.slice ro m rc] 25)) (.cells #[.string nm,.int .i64 gr,.int .i64 kd,.slice ta tl tc,.int .i64 bd] 35)
  rwa [World.size_alloc] at h
 have HB:=bH (bI (blk_keep (blk_alloc_at w (.cells #[.slice vo n vc,.slice ro m rc] 25)) hxb) (bI hb2 (hxa.trans hxb)))
 clear hxa hxb hb2
 go_enter Tryz.func76,Tryz.ntmps76
 go_upto_region 1 with fail
 generalize (w.alloc (.cells #[.slice vo n vc,.slice ro m rc] 25)).alloc (.cells #[.string nm,.int .i64 gr,.int .i64 kd,.slice ta tl tc,.int .i64 bd] 35)=w1 at *
 generalize w.heap.size+1=rb at *
 obtain ⟨pb,hpb⟩:∃ q,w.heap.size=q:=⟨_,rfl⟩
 rw [hpb] at HB ⊢
 clear hpb
 have p0:=cellq HB.out.1 0 rfl
 go_wp2_with fail
 refine (HCl.out w1 HB.out.2.2).mono ?_
 rintro r2 w2 ⟨v2,rfl,h2,hx2⟩
 have hown:SOwn cV 73 w2 w.heap.size v2 p.vars:=by
  unfold SOwn
  rw [HE.out.2.2.1]
  exact own_down h2 HB.out.2.2.size
 obtain ⟨ao,ac,rfl⟩:=ownsRow_shape h2
 have hx3:=(Ext.refl (fun _=>False) w2).alloc (.cells #[.slice ao n ac,.slice none 0 0] 25)
 have HQ:=bH (show QSt w (w2.alloc (.cells #[.slice ao n ac,.slice none 0 0] 25)) pb rb w2.heap.size #[.slice vo n vc,.slice ro m rc] #[.string nm,.int .i64 gr,.int .i64 kd,.slice ta tl tc,.int .i64 bd] 35 (.slice ao n ac) (oneL p.vars []) from
  ⟨(HB.out.2.2.trans hx2).trans hx3,blk_keep HB.out.1 (hx2.trans hx3),blk_keep HB.out.2.1 (hx2.trans hx3),blk_alloc_at w2 _,SOwn.keep hown hx3⟩)
 clear hown h2 hx2 hx3 p0 HB HCl
 go_upto_region 2 with fail
 generalize w2.alloc (.cells #[.slice ao n ac,.slice none 0 0] 25)=w3 at *
 generalize w2.heap.size=qb at *
 go_wp2_with fail
 go_loopg [22] sl (fun gg v22 wr=>∃ k:Nat,k<=sl/\gg=sl - k/\v22=.int .i64 k/\QSt w wr pb rb qb #[.slice vo n vc,.slice ro m rc] #[.string nm,.int .i64 gr,.int .i64 kd,.slice ta tl tc,.int .i64 bd] 35 (.slice ao n ac) (oneL p.vars (vs.take k)))
 case atStart=>exact ⟨0,Nat.zero_le _,rfl,rfl,HQ.out⟩
 case round =>
  clear HQ
  obtain ⟨k,hkk,rfl,rfl,hq⟩:=hrel
  have HQ:=bH hq
  clear hq
  by_cases hkn:k<sl
  ·have k0:(k:Int)<(sl:Int):=by omega
   have k1:(0:Int)<=(k:Int):=by omega
   have hkl:k<vs.length:=by rw [HE.out.2.2.2]; exact hkn
   obtain ⟨b1,o1,rfl,e0⟩:=(HV.out.1.keep HQ.out.ext).at_ (i:=k) hkl
   have hvk:=HV.out.2 (vs.getD k 0) (by rw [getD_lt hkl]; exact List.getElem_mem _)
   have HN:=bH (show oneL p.vars (vs.take (k+1))=(oneL p.vars (vs.take k)).set (vs.getD k 0).toNat { (oneL p.vars (vs.take k)).getD (vs.getD k 0).toNat var0 with lo:=1 } from by rw [take_snoc (d:=0) hkl,oneL_snoc])
   generalize vs.getD k 0=v at *
   obtain ⟨j,rfl⟩:∃ j:Nat,v=j:=⟨v.toNat,by omega⟩
   rw [show ((j:Nat):Int).toNat=j by omega] at HN
   have hjl:j<(oneL p.vars (vs.take k)).length:=by rw [oneL_length,HE.out.2.2.1]; omega
   rcases HQ.out.own.arr cV_len with ⟨h0,h1,-⟩ | ⟨g,rfl,-⟩
   ·rw [h1] at hjl; exact absurd hjl (Nat.not_lt_zero _)
   obtain ⟨hs1,hs2,u,hs3⟩:=HQ.out.set (by decide) hjl
   rw [<- HN.out] at hs1
   have HP:=bH hs1
   have q0:=cellq HQ.out.bq 0 rfl
   have j0:(0:Int)<=(j:Int):=by omega
   have j1:(j:Int)<(n:Int):=by omega
   clear hs1 hvk hjl hkl HN
   go_wp2
   generalize wr.setCell ⟨g,j*5,none⟩ (.int .i64 1)=w9 at *
   go_roundg (sl - (k+1))
   case measure=>omega
   case rel=>exact ⟨k+1,by omega,rfl,by go_num,HP.out⟩
  ·obtain rfl:sl=k:=by omega
   replace HQ:=bH (show QSt w wr pb rb qb #[.slice vo n vc,.slice ro m rc] #[.string nm,.int .i64 gr,.int .i64 kd,.slice ta tl tc,.int .i64 bd] 35 (.slice ao n ac) (oneL p.vars vs) from by have h:=HQ.out; rwa [<- HE.out.2.2.2,List.take_length] at h)
   go_wp2_with fail
   refine (HF1.out _).mono ?_
   rintro r4 w4 ⟨v4,rfl,h4,hx4⟩
   obtain ⟨n4,a4,l4,c4,a4',l4',c4',rfl⟩:=h4.shape
   have hx5:=(Ext.refl (fun _=>False) w4).alloc (.cells #[.bool n4,.slice a4 l4 c4,.slice a4' l4' c4'] 64)
   have HS:=bH (show BoxR (w4.alloc (.cells #[.bool n4,.slice a4 l4 c4,.slice a4' l4' c4'] 64)) w4.heap.size n4 (.slice a4 l4 c4) (.slice a4' l4' c4')/\IsRat (w4.alloc (.cells #[.bool n4,.slice a4 l4 c4,.slice a4' l4' c4'] 64)) (.agg #[.bool n4,.slice a4 l4 c4,.slice a4' l4' c4']) ((1:Int):Rat)/\QSt w (w4.alloc (.cells #[.bool n4,.slice a4 l4 c4,.slice a4' l4' c4'] 64)) pb rb qb #[.slice vo n vc,.slice ro m rc] #[.string nm,.int .i64 gr,.int .i64 kd,.slice ta tl tc,.int .i64 bd] 35 (.slice ao n ac) (oneL p.vars vs)/\w.heap.size<=w4.heap.size from
    ⟨boxR_new rfl n4 a4 l4 c4 a4' l4' c4',h4.keep hx5,HQ.out.keep (hx4.trans hx5),Nat.le_trans HQ.out.ext.size hx4.size⟩)
   clear h4 hx4 hx5 HQ
   obtain ⟨K,hK⟩:∃ K:Bool,decide (kd=1)=K:=⟨_,rfl⟩
   have hK2:(kd == 1)=K:=by rw [<- hK]; by_cases h:kd=1 <;> simp [h]
   go_upto_region 8 with fail
   generalize w4.alloc (.cells #[.bool n4,.slice a4 l4 c4,.slice a4' l4' c4'] 64)=w5 at *
   generalize w4.heap.size=sb at *
   have r2:=cellq HS.out.2.2.1.br 2 rfl
   go_upto_if 35 with fail
   go_cut [] (fun wx=>∃ ng so sn sc s2 sm2 sc2,BoxR wx sb ng (.slice so sn sc) (.slice s2 sm2 sc2)/\IsRat wx (.agg #[.bool ng,.slice so sn sc,.slice s2 sm2 sc2]) ((sgR r:Int):Rat)/\QSt w wx pb rb qb #[.slice vo n vc,.slice ro m rc] #[.string nm,.int .i64 gr,.int .i64 kd,.slice ta tl tc,.int .i64 bd] 35 (.slice ao n ac) (oneL p.vars vs))
   case first =>
    cases K with
    | true =>
     have HSv:=bH (show sgR r = -1 from by rw [HSg.out,if_pos (of_decide_eq_true hK)])
     go_wp2_with fail
     refine (HFm.out _).mono ?_
     rintro r6 w6 ⟨v6,rfl,h6,hx6⟩
     obtain ⟨n6,a6,l6,c6,a6',l6',c6',rfl⟩:=h6.shape
     have hb6:=HS.out.1.keep hx6
     obtain ⟨d0,d1,d2,d3,d4,d5⟩:=hb6.facts
     have hp:=hb6.put (neg:=n6) (no_int a6 l6 c6) (no_int a6' l6' c6')
     have HR:=bH (bI hp.box (bI (hp.rat h6) ((HS.out.2.2.1.keep hx6).past hp.ext ⟨_,hb6.1⟩ (by decide) HS.out.2.2.2)))
     clear hp hb6 h6 hx6
     go_wp2
     go_meet
     exact ⟨_,_,_,_,_,_,_,HR.out.1,by rw [HSv.out]; exact HR.out.2.1,HR.out.2.2⟩
    | false =>
     have HSv:=bH (show sgR r=1 from by rw [HSg.out,if_neg (of_decide_eq_false hK)])
     go_wp2
     go_meet
     exact ⟨_,_,_,_,_,_,_,HS.out.1,by rw [HSv.out]; exact HS.out.2.1,HS.out.2.2.1⟩
   case rest =>
   obtain ⟨ng,so2,sn,sc2,s2,sm2,scc,hb,hq,hst⟩:=hcut
   obtain ⟨w6,rfl⟩:∃ x,x=wc:=⟨_,rfl⟩
   have HLo:=bH HS.out.2.2.2
   have HSl:=bH hb.lt
   obtain ⟨w7,hmk,hA,hx7⟩:=run_make_rats w6 n (by omega)
   have HC:=bH (show CvSt w w7 pb rb qb sb w6.heap.size n #[.slice vo n vc,.slice ro m rc] #[.string nm,.int .i64 gr,.int .i64 kd,.slice ta tl tc,.int .i64 bd] (.slice ao n ac) (oneL p.vars vs) (sgR r) (fun _=>0) from
    ⟨hst.keep hx7,hA,⟨ng,so2,sn,sc2,s2,sm2,scc,hb.keep hx7,hq.keep hx7⟩,HSl.out,HLo.out⟩)
   have p0:=cellq hst.bp 0 rfl
   have HB6:=bH hst.br
   have HX7:=bH hx7
   clear hb hq hst hA hx7 hK hK2 HS r2
   go_upto_region 11 with fail
   clear p0 hmk
   have r3:=cellq (blk_keep HB6.out HX7.out) 3 rfl
   clear HB6 HX7 HSl HLo
   generalize w6.heap.size=B at *
   go_wp2_with fail
   clear r3
   go_loopg [44] tl (fun gg v44 wr=>∃ k:Nat,k<=tl/\gg=tl - k/\v44=.int .i64 k/\CvSt w wr pb rb qb sb B n #[.slice vo n vc,.slice ro m rc] #[.string nm,.int .i64 gr,.int .i64 kd,.slice ta tl tc,.int .i64 bd] (.slice ao n ac) (oneL p.vars vs) (sgR r) (fun j=>atQ (cfL n (sgR r) (r.terms.take k)) j))
   case atStart=>exact ⟨0,Nat.zero_le _,rfl,rfl,⟨HC.out.q,HC.out.arr.congr (fun i _=>cfL_zero.symm),HC.out.sgn,HC.out.ord⟩⟩
   case round =>
    clear HC
    obtain ⟨k,hkk,rfl,rfl,hst⟩:=hrel
    have HCv:=bH hst
    clear hst
    by_cases hkn:k<tl
    ·have k0:(k:Int)<(tl:Int):=by omega
     have k1:(0:Int)<=(k:Int):=by omega
     have hkl:k<r.terms.length:=by rw [HE.out.2.1]; exact hkn
     have hatr:=(HT.out.1.keep HCv.out.q.ext).atr (r:=r) k hkl
     obtain ⟨b1,o1,rfl,-,e0,e1,hto⟩:=hatr
     have hvk:=HT.out.2 (r.t k) (by unfold RowV.t; rw [getD_lt hkl]; exact List.getElem_mem _)
     have HNx:=bH (fun v hv hn=>cfL_next (n:=n) (sg:=sgR r) (ts:=r.terms) (k:=k) (v:=v) hkl hv hn)
     rw [show r.terms.getD k term0=r.t k from rfl] at HNx
     obtain ⟨tv,htv⟩:∃ x,(r.t k).var=x:=⟨_,rfl⟩
     obtain ⟨tcf,htc⟩:∃ x,(r.t k).coef=x:=⟨_,rfl⟩
     rw [htv] at e0 hvk HNx
     rw [htc] at e1 HNx
     have hcin:InR tcf:=by rw [<- htc]; exact hto.coef
     obtain ⟨j,rfl⟩:∃ j:Nat,tv=j:=⟨tv.toNat,by omega⟩
     have Hjn:=bH (show j<n from by omega)
     have HNy:=bH (HNx.out j rfl Hjn.out)
     have HFc:=bH (fun W=>rfrom_any W tcf hcin.1 hcin.2)
     obtain ⟨ng,so2,sn,sc2,s2,sm2,scc,hb,hq⟩:=HCv.out.sgn
     have HMc:=bH (fun W (hW:XF wr W) u (hu:IsRat W u (tcf:Rat))=>rmul_any W _ u _ _ 2 ((hq.keep hW).reads (Sz.int HSi.out)) (hu.reads (Sz.int hcin)) (by decide) (by decide))
     have hx1:=(Ext.refl (fun _=>False) wr).alloc (.cells #[.int .i64 j,.int .i64 tcf] 70)
     have hb1:=blk_alloc_at wr (.cells #[.int .i64 j,.int .i64 tcf] 70)
     have HS2:=bH (bI (HCv.out.keep hx1) (bI (HCv.out.arr.keep hx1) (bI hb1 (hb.keep hx1))))
     have HMc2:=bH (fun W (hW:XF (wr.alloc (.cells #[.int .i64 j,.int .i64 tcf] 70)) W) u hu=>HMc.out W (hx1.trans hW) u hu)
     clear HMc
     have HMc:=HMc2
     have j0:(0:Int)<=(j:Int):=by omega
     have j1:(j:Int)<(n:Int):=by omega
     clear hx1 hb1 hb hq HCv hcin hto hkl hvk htv htc HNx HMc2
     go_upto_region 14 with fail
     generalize wr.alloc (.cells #[.int .i64 j,.int .i64 tcf] 70)=w4 at *
     generalize wr.heap.size=tb at *
     clear e0 e1
     have g0:=cq (cellq HS2.out.2.2.1 0 rfl)
     have g1:=cq (cellq HS2.out.2.2.1 1 rfl)
     have u0:=cq HS2.out.2.2.2.facts.1
     have u1:=cq HS2.out.2.2.2.facts.2.1
     have u2:=cq HS2.out.2.2.2.facts.2.2.1
     refine ends_begin 9 (XF w4) (by kernel_rfl) ((Ext.refl _ w4).drew) (fun hHeld=>?_)
     refine et 0 (h:=(et 1 (h:=(et 2 (h:=(et 3 (h:=(et 4 (h:=(et 5 (h:=?_)))))))))))
     (try go_frame)
     refine est 6 (h:=fun K hK=>?_)
     (go_simp; go_at_call 85; (with_reducible refine (HFc.out _).mono ?_); rintro q1 w11 ⟨v11,rfl,h11,hx11⟩; have hX1:=hHeld.trans hx11; obtain ⟨n11,a11,l11,c11,a11',l11',c11',rfl⟩:=h11.shape)
     refine hK.out _ _ (hX1) (fun hHeld=>?_)
     clear hK K
     (try go_frame)
     refine est 7 (h:=fun K hK=>?_)
     (go_simp; go_at_call 116; (with_reducible refine (HMc.out _ hX1 _ h11).mono ?_); rintro q2 w12 ⟨v12,rfl,h12,hx12⟩; have hX2:=hX1.trans hx12; obtain ⟨n12,a12,l12,c12,a12',l12',c12',rfl⟩:=h12.shape)
     refine hK.out _ _ (hX2) (fun hHeld=>?_)
     clear hK K
     (try go_frame)
     refine et 8 (h:=?_)
     (try go_frame)
     have harr:=HS2.out.2.1.keep hX2
     have f0:=harr.free (j*3)
     have f1:=harr.free (j*3+1)
     have f2:=harr.free (j*3+2)
     obtain ⟨y0,y1,y2,y3,y4,y5,y6,t0,t1,t2,-⟩:=harr.cells j Hjn.out
     refine ends_last rfl (by kernel_rfl) (fun K hK=>?_)
     go_simp
     refine hK.out _ _ ?_
     clear hK K
     (try go_frame)
     refine ends_done (by kernel_rfl) ?_ _
     have HP:=bH ((HS2.out.1.keep hX2).setArr Hjn.out h12 HNy.out)
     clear hX1 hX2 h11 h12 hx11 hx12 f0 f1 f2 t0 t1 t2 harr hHeld u0 u1 u2 g0 g1
     generalize ((w12.setCell ⟨B,j*3,none⟩ (.bool n12)).setCell ⟨B,j*3+1,none⟩ (.slice a12 l12 c12)).setCell ⟨B,j*3+2,none⟩ (.slice a12' l12' c12')=w9 at *
     go_wp2
     go_roundg (tl - (k+1))
     case measure=>omega
     case rel=>exact ⟨k+1,by omega,rfl,by go_num,HP.out⟩
    ·obtain rfl:k=tl:=by omega
     have hkt:r.terms.take k=r.terms:=by rw [<- HE.out.2.1,List.take_length]
     rw [hkt] at HCv
     have hci:∀ x ∈ r.terms,InR x.coef:=fun x hx=>(HT.out.1.2 x hx).coef
     have HLs:=bH (fun W (hW:XF wr W)=>Least_any W (.agg #[.slice ao n ac,.slice none 0 0]) (.slice (some ⟨B,0,none⟩) n n) (oneP p vs) (cfL n (sgR r) r.terms) 4 ((HCv.out.q.prg HVo.out).keep hW) (by
      have h:=(HCv.out.arr.keep hW).rats (L:=4) (fun i _=>cfL_sz HSi.out hci i) (Nat.le_refl n) (by unfold maxLen; omega)
      rwa [listTo_atQ (cfL_length n (sgR r) r.terms)] at h) (by decide) (by rw [oneP_len,HE.out.2.2.1]; omega))
     obtain ⟨OQ,hOQ⟩:∃ x,leastQ (oneP p vs) (cfL n (sgR r) r.terms)=x:=⟨_,rfl⟩
     rw [hOQ] at HLs
     have HCo:=bH (covB_eq p r vs)
     rw [HE.out.2.2.1,hOQ] at HCo
     have HSz:=bH (show ∀ s,OQ=some s->Sz s 10000 from fun s hs=>by
      rw [hs] at hOQ
      obtain ⟨-,-,rfl⟩:=least_some hOQ
      have hvr:Vrs wr (.slice ao n ac) (oneP p vs).vars:=(by obtain ⟨_,_,e,h,_⟩:=HCv.out.q.prg HVo.out; cases e; exact h)
      have h:=sum_size (f:=fun i=>pickQ ((oneP p vs).v i) (atQ (cfL n (sgR r) r.terms) i)) (g:=fun i=>atQ (cfL n (sgR r) r.terms) i) (L:=4) (n:=(oneP p vs).vars.length) (fun i hi=>pick_in hvr _ i hi) (fun i _=>cfL_sz HSi.out hci i) _ (Nat.le_refl _)
      exact h.mono (by rw [oneP_len,HE.out.2.2.1]; omega))
     have q0:=cellq HCv.out.q.bq 0 rfl
     have q1:=cellq HCv.out.q.bq 1 rfl
     clear hOQ hkt hci
     go_wp2_with fail
     refine (HLs.out wr (Ext.refl _ _)).mono ?_
     rintro r8 w8 ⟨hx8,h8⟩
     have HC8:=bH (HCv.out.keep hx8)
     clear HLs HCv hx8 q0 q1
     cases OQ with
     | none =>
      obtain ⟨v8,rfl,h8⟩:=h8
      obtain ⟨n8,a8,l8,c8,a8',l8',c8',rfl⟩:=h8.shape
      have hx9:=(Ext.refl (fun _=>False) w8).alloc (.cells #[.bool n8,.slice a8 l8 c8,.slice a8' l8' c8'] 64)
      have HX:=bH (HC8.out.q.ext.trans hx9)
      clear h8 hx9
      go_upto_region 17 with fail
      generalize w8.alloc (.cells #[.bool n8,.slice a8 l8 c8,.slice a8' l8' c8'] 64)=w5 at *
      refine wp_region_held_drew (S:=(XF w5)) (by kernel_rfl) ((Ext.refl _ w5).drew) (fun hHeld=>?_)
      refine ht 0 (h:=(ht 1 (h:=?_)))
      (try go_frame)
      refine hk 2 (h:=?_)
      (try go_frame)
      refine hk 3 (h:=?_)
      (try go_frame)
      refine hk 4 (h:=?_)
      (try go_frame)
      refine hk 5 (h:=?_)
      (try go_frame)
      refine hk 6 (h:=?_)
      (try go_frame)
      refine hk 7 (h:=?_)
      (try go_frame)
      refine hk 8 (h:=?_)
      (try go_frame)
      refine hk 9 (h:=(ht 10 (h:=(ht 11 (h:=?_)))))
      (try go_frame)
      refine wpAnyH_done (by kernel_rfl) ?_ _
      go_wp2
      go_ret
      exact ⟨ret_bool HCo.out.symm,HX.out.trans hHeld⟩
     | some sv =>
      obtain ⟨v8,rfl,h8⟩:=h8
      obtain ⟨n8,a8,l8,c8,a8',l8',c8',rfl⟩:=h8.shape
      have hx9:=(Ext.refl (fun _=>False) w8).alloc (.cells #[.bool n8,.slice a8 l8 c8,.slice a8' l8' c8'] 64)
      have HC9:=bH (bI (HC8.out.keep hx9) (bI (h8.keep hx9) (boxR_new (W:=w8) rfl n8 a8 l8 c8 a8' l8' c8')))
      clear h8 hx9
      go_upto_region 17 with fail
      generalize w8.alloc (.cells #[.bool n8,.slice a8 l8 c8,.slice a8' l8' c8'] 64)=w5 at *
      generalize w8.heap.size=lb at *
      have hbi:InR bd:=by rw [<- HE.out.1]; exact HOk.out.bound
      have HFb:=bH (fun W=>rfrom_any W bd hbi.1 hbi.2)
      obtain ⟨ng,so2,sn,sc2,s2,sm2,scc,hb,hq⟩:=HC9.out.1.sgn
      have HMb:=bH (fun W (hW:XF w5 W) u (hu:IsRat W u (bd:Rat))=>rmul_any W _ u _ _ 2 ((hq.keep hW).reads (Sz.int HSi.out)) (hu.reads (Sz.int hbi)) (by decide) (by decide))
      have HCb:=bH (fun W (hW:XF w5 W) u (hu:IsRat W u ((sgR r:Rat)*(bd:Rat)))=>rcmp_any W _ u _ _ 10000 ((HC9.out.2.1.keep hW).reads (HSz.out sv rfl)) (hu.reads (((Sz.int HSi.out).mul (Sz.int hbi)).mono (by decide))) (by decide) (by decide))
      have u0:=cq hb.facts.1
      have u1:=cq hb.facts.2.1
      have u2:=cq hb.facts.2.2.1
      have l0:=cq HC9.out.2.2.facts.1
      have l1:=cq HC9.out.2.2.facts.2.1
      have l2:=cq HC9.out.2.2.facts.2.2.1
      have r4:=cq (cellq HC9.out.1.q.br 4 rfl)
      have HCo2:=bH (show covB p r vs=decide (0<(sv - (sgR r:Rat)*(bd:Rat)).num.sign) from by rw [HCo.out,HE.out.1]; exact sgn_gt.symm)
      have HX:=bH HC9.out.1.q.ext
      clear hb hq hbi HC8 HC9 HCo
      generalize (sv - (sgR r:Rat)*(bd:Rat)).num.sign=X at *
      generalize (sgR r:Rat)*(bd:Rat)=Y at *
      refine wp_region_held_drew (S:=(XF w5)) (by kernel_rfl) ((Ext.refl _ w5).drew) (fun hHeld=>?_)
      refine ht 0 (h:=(ht 1 (h:=?_)))
      (try go_frame)
      refine ht 2 (h:=?_)
      (try go_frame)
      refine ht 3 (h:=?_)
      (try go_frame)
      refine ht 4 (h:=?_)
      (try go_frame)
      refine ht 5 (h:=?_)
      (try go_frame)
      refine hst 6 (h:=fun K hK=>?_)
      (go_simp; go_at_call 85; (with_reducible refine (HFb.out _).mono ?_); rintro q1 w11 ⟨v11,rfl,h11,hx11⟩; have hX1:=hHeld.trans hx11; obtain ⟨n11,a11,l11,c11,a11',l11',c11',rfl⟩:=h11.shape)
      refine hK.out _ _ (hX1) (fun hHeld=>?_)
      clear hK K
      (try go_frame)
      refine hst 7 (h:=fun K hK=>?_)
      (go_simp; go_at_call 116; (with_reducible refine (HMb.out _ hX1 _ h11).mono ?_); rintro q2 w12 ⟨v12,rfl,h12,hx12⟩; have hX2:=hX1.trans hx12; obtain ⟨n12,a12,l12,c12,a12',l12',c12',rfl⟩:=h12.shape)
      refine hK.out _ _ (hX2) (fun hHeld=>?_)
      clear hK K
      (try go_frame)
      refine hst 8 (h:=fun K hK=>?_)
      (go_simp; go_at_call 74; (with_reducible refine (HCb.out _ hX2 _ h12).mono ?_); rintro q3 w13 ⟨rfl,hx13⟩; have hX3:=hX2.trans hx13)
      refine hK.out _ _ (hX3) (fun hHeld=>?_)
      clear hK K
      (try go_frame)
      refine ht 9 (h:=(ht 10 (h:=(ht 11 (h:=?_)))))
      (try go_frame)
      refine wpAnyH_done (by kernel_rfl) ?_ _
      go_wp2
      go_ret
      exact ⟨ret_bool HCo2.out.symm,HX.out.trans hX3⟩
structure KSt (w wr:World) (pb B n:Nat) (pc:Array Value) (f:Nat->Rat):Prop where
 ext:XF w wr
 bp:blk wr pb=some (.cells pc 25 (0,0))
 arr:RArr wr B n f
 low:w.heap.size<=B
section
variable {w wr w':World} {pb B n:Nat} {pc:Array Value} {f g:Nat->Rat}
theorem KSt.keep (h:KSt w wr pb B n pc f) (hx:XF wr w'):KSt w w' pb B n pc f:=⟨h.ext.trans hx,blk_keep h.bp hx,h.arr.keep hx,h.low⟩
theorem KSt.setArr (h:KSt w wr pb B n pc f) {j:Nat} (hj:j<n) {neg:Bool} {a1 a2:Option Addr} {m1 c1 m2 c2:Nat} {u:Rat} (hu:IsRat wr (.agg #[.bool neg,.slice a1 m1 c1,.slice a2 m2 c2]) u) (hg:∀ i,(fun k=>if k=j then u else f k) i=g i) :
  KSt w (((wr.setCell ⟨B,j*3,none⟩ (.bool neg)).setCell ⟨B,j*3+1,none⟩ (.slice a1 m1 c1)).setCell ⟨B,j*3+2,none⟩ (.slice a2 m2 c2)) pb B n pc g:=by
 obtain ⟨p1,p2,p3⟩:=h.arr.put hj hu
 have hl:=h.low
 obtain ⟨arr,hb,_⟩:=h.arr.row
 exact ⟨h.ext.own p2 (fun k e=>by have e':k=B:=e; omega),(p2.blk (blk_lt h.bp) (fun e=>typ_ne' ⟨_,h.bp⟩ ⟨arr,hb⟩ (by decide) e)).trans h.bp,p1.congr (fun i _=>hg i),h.low⟩
end
theorem coefs_any (w:World) (pv:Value) (p:ProgV) (i:Nat) (sg:Int) (hp:IsPrg w pv p) (hi:i<p.rows.length) (hin:∀ t ∈ (p.r i).terms,0<=t.var/\t.var<p.vars.length) (hco:∀ t ∈ (p.r i).terms,limB t.coef=true) (hsg:sg=1∨sg = -1) (hn:p.vars.length<=1000) :
  Calls Tryz.prog 82 #[pv,.int .i64 i,.int .i64 sg] w (RowPost w p.vars.length (fun j=>atQ (cfL p.vars.length sg (p.r i).terms) j)):=by
 obtain ⟨vv,rv,rfl,hpv,hpr⟩:=hp
 obtain ⟨vo,vc,rfl,-,-,-⟩:=hpv.shape
 obtain ⟨ro,rc,rfl,-,-,-⟩:=hpr.shape
 have HPr:=bH hpr
 obtain ⟨b0,o0,ta0,tcc,-,-,-,-,-,-,-,-,hT0⟩:=hpr.atp i hi
 obtain ⟨-,-,-,-,htm,-⟩:=hT0.shape
 have HT:=bH (bI hin hco)
 obtain ⟨tl,htl⟩:∃ x,(p.r i).terms.length=x:=⟨_,rfl⟩
 obtain ⟨n,hn'⟩:∃ x,p.vars.length=x:=⟨_,rfl⟩
 obtain ⟨m,hm'⟩:∃ x,p.rows.length=x:=⟨_,rfl⟩
 have HE:=bH (bI htl (bI hn' hm'))
 have HSg:=bH hsg
 have hmax:n<=1000:=by omega
 have htm2:(tl:Int)<=9223372036854775807:=by omega
 have i0:(0:Int)<=(i:Int):=by omega
 have i1:(i:Int)<(m:Int):=by omega
 have HIm:=bH hi
 rw [hn'] at HT ⊢
 rw [hm']
 clear hpv hpr hin hco htl hn' hm' hn hsg hi htm hT0 tcc b0 o0 ta0
 have hb0:=blk_alloc_at w (.cells #[.slice vo n vc,.slice ro m rc] 25)
 have hx0:=(Ext.refl (fun _=>False) w).alloc (.cells #[.slice vo n vc,.slice ro m rc] 25)
 obtain ⟨w2,hmk,hA,hx2⟩:=run_make_rats (w.alloc (.cells #[.slice vo n vc,.slice ro m rc] 25)) n (by omega)
 rw [World.size_alloc] at hmk hA
 have HK:=bH (show KSt w w2 w.heap.size (w.heap.size+1) n #[.slice vo n vc,.slice ro m rc] (fun _=>0) from ⟨hx0.trans hx2,blk_keep hb0 hx2,hA,by omega⟩)
 have HB0:=bH hb0
 clear hx0 hx2 hA hb0
 go_enter Tryz.func82,Tryz.ntmps82
 go_upto_region 1 with fail
 generalize w.alloc (.cells #[.slice vo n vc,.slice ro m rc] 25)=w1 at *
 obtain ⟨pb,hpb⟩:∃ q,w.heap.size=q:=⟨_,rfl⟩
 rw [hpb] at HB0 HK hmk ⊢
 generalize pb+1=B at *
 clear hpb
 have p0:=cellq HB0.out 0 rfl
 go_upto_region 2 with fail
 clear p0 hmk HB0
 go_wp2_with fail
 go_loopg [8] tl (fun gg v8 wr=>∃ k:Nat,k<=tl/\gg=tl - k/\v8=.int .i64 k/\KSt w wr pb B n #[.slice vo n vc,.slice ro m rc] (fun j=>atQ (cfL n sg ((p.r i).terms.take k)) j))
 case atStart=>exact ⟨0,Nat.zero_le _,rfl,rfl,⟨HK.out.ext,HK.out.bp,HK.out.arr.congr (fun i _=>cfL_zero.symm),HK.out.low⟩⟩
 case round =>
  clear HK
  obtain ⟨k,hkk,rfl,rfl,hst⟩:=hrel
  have HCv:=bH hst
  clear hst
  have p1:=cellq HCv.out.bp 1 rfl
  obtain ⟨rb,off,ta,tc,rfl,hbw,-,-,-,e3,-,-,hT⟩:=HPr.out.atp i HIm.out
  replace e3:=cell_keep e3 HCv.out.ext
  rw [HE.out.1] at e3 hT
  have HTm:=bH hT
  clear hT hbw
  by_cases hkn:k<tl
  ·have k0:(k:Int)<(tl:Int):=by omega
   have k1:(0:Int)<=(k:Int):=by omega
   have hkl:k<(p.r i).terms.length:=by rw [HE.out.1]; exact hkn
   have hatr:=(HTm.out.keep HCv.out.ext).atr (r:=p.r i) k hkl
   obtain ⟨b1,o1,rfl,-,e0,e1,hto⟩:=hatr
   have hvk:=HT.out.1 ((p.r i).t k) (by unfold RowV.t; rw [getD_lt hkl]; exact List.getElem_mem _)
   have hck:=HT.out.2 ((p.r i).t k) (by unfold RowV.t; rw [getD_lt hkl]; exact List.getElem_mem _)
   have HNx:=bH (fun v hv hn=>cfL_next (n:=n) (sg:=sg) (ts:=(p.r i).terms) (k:=k) (v:=v) hkl hv hn)
   rw [show (p.r i).terms.getD k term0=(p.r i).t k from rfl] at HNx
   obtain ⟨tv,htv⟩:∃ x,((p.r i).t k).var=x:=⟨_,rfl⟩
   obtain ⟨tcf,htc⟩:∃ x,((p.r i).t k).coef=x:=⟨_,rfl⟩
   rw [htv] at e0 hvk HNx
   rw [htc] at e1 HNx hck
   obtain ⟨j,rfl⟩:∃ j:Nat,tv=j:=⟨tv.toNat,by omega⟩
   have Hjn:=bH (show j<n from by omega)
   have HNy:=bH (HNx.out j rfl Hjn.out)
   rw [<- Rat.intCast_mul] at HNy
   have hpi:-1099511627776<=sg*tcf/\sg*tcf<=1099511627776:=by
    unfold limB at hck
    simp only [Bool.and_eq_true,decide_eq_true_eq] at hck
    rcases HSg.out with e | e <;> rw [e] <;> omega
   obtain ⟨PP,hPP⟩:∃ PP,sg*tcf=PP:=⟨_,rfl⟩
   rw [hPP] at hpi HNy
   have hPw:IntKind.i64.wrap PP=PP:=IntWalk.i64_in _ (by omega)
   have HFc:=bH (fun W=>Rrfrom_any W PP (by omega) (by omega))
   have hx1:=(Ext.refl (fun _=>False) wr).alloc (.cells #[.int .i64 j,.int .i64 tcf] 70)
   have hb1:=blk_alloc_at wr (.cells #[.int .i64 j,.int .i64 tcf] 70)
   have HS2:=bH (bI (HCv.out.keep hx1) (bI (HCv.out.arr.keep hx1) hb1))
   have j0:(0:Int)<=(j:Int):=by omega
   have j1:(j:Int)<(n:Int):=by omega
   clear hx1 hb1 HCv hck hto hkl hvk htv htc HNx hpi HTm
   go_upto_region 6 with fail
   generalize wr.alloc (.cells #[.int .i64 j,.int .i64 tcf] 70)=w4 at *
   generalize wr.heap.size=tb at *
   clear e0 e1 e3 p1
   have g0:=cq (cellq HS2.out.2.2 0 rfl)
   have g1:=cq (cellq HS2.out.2.2 1 rfl)
   refine ends_begin 9 (XF w4) (by kernel_rfl) ((Ext.refl _ w4).drew) (fun hHeld=>?_)
   refine et 0 (h:=(et 1 (h:=(et 2 (h:=(et 3 (h:=(et 4 (h:=(et 5 (h:=(et 6 (h:=?_)))))))))))))
   (try go_frame)
   refine est 7 (h:=fun K hK=>?_)
   (go_simp; go_at_call 31; (with_reducible refine (HFc.out _).mono ?_); rintro q1 w11 ⟨v11,rfl,h11,hx11⟩; have hX1:=hHeld.trans hx11; obtain ⟨n11,a11,l11,c11,a11',l11',c11',rfl⟩:=h11.shape)
   refine hK.out _ _ (hX1) (fun hHeld=>?_)
   clear hK K
   (try go_frame)
   refine et 8 (h:=?_)
   (try go_frame)
   have harr:=HS2.out.2.1.keep hX1
   have f0:=harr.free (j*3)
   have f1:=harr.free (j*3+1)
   have f2:=harr.free (j*3+2)
   obtain ⟨y0,y1,y2,y3,y4,y5,y6,t0,t1,t2,-⟩:=harr.cells j Hjn.out
   refine ends_last rfl (by kernel_rfl) (fun K hK=>?_)
   go_simp
   refine hK.out _ _ ?_
   clear hK K
   (try go_frame)
   refine ends_done (by kernel_rfl) ?_ _
   have HP:=bH ((HS2.out.1.keep hX1).setArr Hjn.out h11 HNy.out)
   clear hX1 h11 hx11 f0 f1 f2 t0 t1 t2 harr hHeld g0 g1
   generalize ((w11.setCell ⟨B,j*3,none⟩ (.bool n11)).setCell ⟨B,j*3+1,none⟩ (.slice a11 l11 c11)).setCell ⟨B,j*3+2,none⟩ (.slice a11' l11' c11')=w9 at *
   go_wp2
   go_roundg (tl - (k+1))
   case measure=>omega
   case rel=>exact ⟨k+1,by omega,rfl,by go_num,HP.out⟩
  ·obtain rfl:k=tl:=by omega
   have hkt:(p.r i).terms.take k=(p.r i).terms:=by rw [<- HE.out.1,List.take_length]
   rw [hkt] at HCv
   clear hkt
   go_wp2
   go_ret
   exact ⟨B,rfl,HCv.out.low,HCv.out.arr,HCv.out.ext⟩
def emB (p:ProgV) (i:Nat):Bool:=(p.v i).op || decide ((p.v i).lo<=(p.v i).up)
theorem Empty4_any (w:World) (pv:Value) (p:ProgV) (hp:IsPrg w pv p) :
  Calls Tryz.prog 136 #[pv] w (BoolPost w (emptyB p)):=by
 obtain ⟨vv,rv,rfl,hr,-⟩:=hp
 obtain ⟨vo,vc,rfl,-,hn,-⟩:=hr.shape
 have HV:=bH hr
 clear hr
 obtain ⟨n,hn'⟩:∃ n,p.vars.length=n:=⟨_,rfl⟩
 have HN:=bH hn'
 rw [hn'] at hn ⊢ HV
 clear hn'
 have HB:=bH (bI (blk_alloc_at w (.cells #[.slice vo n vc,rv] 25)) ((Ext.refl (fun _=>False) w).alloc (.cells #[.slice vo n vc,rv] 25)))
 go_enter Tryz.func136,Tryz.ntmps136
 go_upto_region 1 with fail
 generalize hw1:w.alloc (.cells #[.slice vo n vc,rv] 25)=w1 at *
 clear hw1
 obtain ⟨pb,hpb⟩:∃ pb,w.heap.size=pb:=⟨_,rfl⟩
 rw [hpb] at HB ⊢
 clear hpb
 have z0:=cellq HB.out.1 0 rfl
 go_wp2_with fail
 go_loopg [3] n (fun gg v3 wr=>∃ i:Nat,i<=n/\gg=n - i/\v3=.int .i64 i/\allTo i (emB p)=true/\wr.cell? ⟨pb,0,none⟩=some (.slice vo n vc)/\XF w wr)
 case atStart=>exact ⟨0,Nat.zero_le _,rfl,rfl,rfl,z0,HB.out.2⟩
 case round =>
  clear z0
  obtain ⟨i,hi,rfl,rfl,hall,z0,hx⟩:=hrel
  have HX:=bH (bI hall (bI z0 hx))
  have HXN:=bH (fun N=>hx.drewN N)
  clear hall
  by_cases hin:i<n
  ·have i0:(i:Int)<(n:Int):=by omega
   have i1:(0:Int)<=(i:Int):=by omega
   obtain ⟨b,off,rfl,-,e0,e1,e2,e3,e4,hok⟩:=(HV.out.keep hx).atp i (by rw [HN.out]; exact hin)
   clear e3 e4 hok hx
   obtain ⟨q,hq⟩:∃ q,emB p i=q:=⟨_,rfl⟩
   have HQ:=bH hq
   have HR:Hid (q=((p.v i).op || decide ((p.v i).lo<=(p.v i).up))):=bH hq.symm
   clear hq
   generalize (p.v i).op=o at *
   generalize (p.v i).lo=lo at *
   generalize (p.v i).up=up at *
   cases o with
   | true =>
    have HE:Hid (q=true):=bH HR.out
    go_upto_region 4 with fail
    go_quiet (fail)
    go_wp2
    go_roundg (n - (i+1))
    case measure=>omega
    case rel=>exact ⟨i+1,by omega,rfl,by go_num,allTo_next HX.out.1 (HQ.out.trans HE.out),HX.out.2.1,HXN.out _⟩
   | false =>
    by_cases hlu:up<lo
    ·have HE:Hid (q=false):=bH (HR.out.trans (by simp; omega))
     go_upto_region 4 with fail
     go_quiet (fail)
     go_wp2
     go_ret
     exact ⟨ret_bool (by show true=!allTo p.vars.length (emB p); rw [allTo_false (i:=i) (by rw [HN.out]; exact hin) (HQ.out.trans HE.out)]; rfl),HXN.out _⟩
    ·have HE:Hid (q=true):=bH (HR.out.trans (by simp; omega))
     go_upto_region 4 with fail
     go_quiet (fail)
     go_wp2
     go_roundg (n - (i+1))
     case measure=>omega
     case rel=>exact ⟨i+1,by omega,rfl,by go_num,allTo_next HX.out.1 (HQ.out.trans HE.out),HX.out.2.1,HXN.out _⟩
  ·obtain rfl:i=n:=by omega
   go_wp2
   go_ret
   exact ⟨ret_bool (by show false=!allTo p.vars.length (emB p); rw [HN.out,HX.out.1]; rfl),HX.out.2.2⟩
theorem Valid4_any (w:World) (pv:Value) (p:ProgV) (hp:IsPrg w pv p) :
  Calls Tryz.prog 43 #[pv] w (BoolPost w (validB p)):=by
 obtain ⟨vv,rv,rfl,hv,hr⟩:=hp
 obtain ⟨vo,vc,rfl,-,hnv,-⟩:=hv.shape
 obtain ⟨ro,rc,rfl,-,hnr,-⟩:=hr.shape
 have HV:=bH (bI hv hr)
 clear hv hr
 obtain ⟨n,hn'⟩:∃ n,p.vars.length=n:=⟨_,rfl⟩
 obtain ⟨m,hm'⟩:∃ m,p.rows.length=m:=⟨_,rfl⟩
 have HN:=bH (bI hn' hm')
 have HR:=bH (show validB p=(decide (n<=400) && decide (m<=4000) && p.vars.all varB && p.rows.all (rowB n)) from by unfold validB; rw [hn',hm'])
 rw [hn'] at hnv ⊢ HV
 rw [hm'] at hnr ⊢ HV
 clear hn' hm'
 have HB:=bH (bI (blk_alloc_at w (.cells #[.slice vo n vc,.slice ro m rc] 25)) ((Ext.refl (fun _=>False) w).alloc (.cells #[.slice vo n vc,.slice ro m rc] 25)))
 go_enter Tryz.func43,Tryz.ntmps43
 go_upto_region 1 with fail
 generalize hw1:w.alloc (.cells #[.slice vo n vc,.slice ro m rc] 25)=w1 at *
 clear hw1
 obtain ⟨pb,hpb⟩:∃ pb,w.heap.size=pb:=⟨_,rfl⟩
 rw [hpb] at HB ⊢
 clear hpb
 have z0:=cellq HB.out.1 0 rfl
 have z1:=cellq HB.out.1 1 rfl
 by_cases c1:400<n
 ·have c1':(400:Int)<(n:Int):=by omega
  go_wp2
  go_ret
  exact ⟨ret_bool (by rw [HR.out,decide_eq_false (p:=(n<=400)) (by omega)]; simp),HB.out.2⟩
 have c1':¬ (400:Int)<(n:Int):=by omega
 by_cases c2:4000<m
 ·have c2':(4000:Int)<(m:Int):=by omega
  go_wp2
  go_ret
  exact ⟨ret_bool (by rw [HR.out,decide_eq_false (p:=(m<=4000)) (by omega)]; simp),HB.out.2⟩
 have c2':¬ (4000:Int)<(m:Int):=by omega
 have HR2:Hid (validB p=(p.vars.all varB && p.rows.all (rowB n))):=bH (by rw [HR.out,decide_eq_true (p:=(n<=400)) (by omega),decide_eq_true (p:=(m<=4000)) (by omega)]; simp)
 clear HR
 go_wp2_with fail
 go_loopg [3,4] n (fun gg v3 v4 wr=>∃ i:Nat,i<=n/\gg=n - i/\v3=.int .i64 i/\(p.vars.take i).all varB=true/\(wr.cell? ⟨pb,0,none⟩=some (.slice vo n vc)/\wr.cell? ⟨pb,1,none⟩=some (.slice ro m rc))/\XF w wr)
 case atStart=>exact ⟨0,Nat.zero_le _,rfl,rfl,rfl,⟨z0,z1⟩,HB.out.2⟩
 case round =>
  clear z0 z1
  obtain ⟨i,hi,rfl,rfl,hall,⟨z0,z1⟩,hx⟩:=hrel
  have HX:=bH (bI hall (bI hx (bI z0 z1)))
  clear hall
  by_cases hin:i<n
  ·have i0:(i:Int)<(n:Int):=by omega
   have i1:(0:Int)<=(i:Int):=by omega
   have HI:Hid (i<p.vars.length):=bH (by rw [HN.out.1]; exact hin)
   obtain ⟨b,off,rfl,-,e0,e1,e2,e3,e4,-⟩:=(HV.out.1.keep HX.out.2.1).atp i HI.out
   have hb1:=BoxV.new wr (p.v i)
   have hx1:=(Ext.refl (fun _=>False) wr).alloc (.cells #[.int .i64 (p.v i).lo,.int .i64 (p.v i).up,.bool (p.v i).op,.bool (p.v i).ig,.int .i64 (p.v i).co] 73)
   have HB1:=bH (bI hb1 hx1)
   have HVB:=bH (show varB (p.vars.getD i var0)=(limB (p.v i).lo && limB (p.v i).up && limB (p.v i).co && !((p.v i).op && !decide ((p.v i).up=0))) from rfl)
   clear hb1 hx1 hx
   go_upto_region 7 with fail
   generalize hw2:wr.alloc (.cells #[.int .i64 (p.v i).lo,.int .i64 (p.v i).up,.bool (p.v i).op,.bool (p.v i).ig,.int .i64 (p.v i).co] 73)=w2 at *
   clear hw2 e0 e1 e2 e3 e4 z0 z1
   obtain ⟨vb,hvb⟩:∃ vb,wr.heap.size=vb:=⟨_,rfl⟩
   rw [hvb] at HB1 ⊢
   clear hvb
   generalize p.v i=vv at *
   obtain ⟨lo,up,o,ig,co⟩:=vv
   dsimp only at HVB
   have f0:w2.cell? ⟨vb,0,none⟩=some (.int .i64 lo):=HB1.out.1.facts.1
   go_wp2_with fail
   refine (inn_any _ _).mono ?_
   rintro r3 w3 ⟨rfl,hx3⟩
   have HB3:=bH (bI (HB1.out.1.keep hx3) (HB1.out.2.trans hx3))
   clear hx3 HB1 f0
   cases hl:limB lo with
   | false =>
    rw [hl] at HVB
    go_wp2
    go_ret
    exact ⟨ret_bool (by rw [HR2.out,all_fails (d:=var0) HI.out (HVB.out.trans rfl)]; rfl),HX.out.2.1.trans HB3.out.2⟩
   | true =>
   rw [hl] at HVB
   clear hl
   have f1:w3.cell? ⟨vb,1,none⟩=some (.int .i64 up):=HB3.out.1.facts.2.1
   go_wp2_with fail
   refine (inn_any _ _).mono ?_
   rintro r4 w4 ⟨rfl,hx4⟩
   have HB4:=bH (bI (HB3.out.1.keep hx4) (HB3.out.2.trans hx4))
   clear hx4 HB3 f1
   cases hl:limB up with
   | false =>
    rw [hl] at HVB
    go_wp2
    go_ret
    exact ⟨ret_bool (by rw [HR2.out,all_fails (d:=var0) HI.out (HVB.out.trans rfl)]; rfl),HX.out.2.1.trans HB4.out.2⟩
   | true =>
   rw [hl] at HVB
   clear hl
   have f4:w4.cell? ⟨vb,4,none⟩=some (.int .i64 co):=HB4.out.1.facts.2.2.2.2
   go_wp2_with fail
   refine (inn_any _ _).mono ?_
   rintro r5 w5 ⟨rfl,hx5⟩
   have HB5:=bH (bI (HB4.out.1.keep hx5) (HB4.out.2.trans hx5))
   clear hx5 HB4 f4
   cases hl:limB co with
   | false =>
    rw [hl] at HVB
    go_wp2
    go_ret
    exact ⟨ret_bool (by rw [HR2.out,all_fails (d:=var0) HI.out (HVB.out.trans rfl)]; rfl),HX.out.2.1.trans HB5.out.2⟩
   | true =>
   rw [hl] at HVB
   clear hl
   have f1:w5.cell? ⟨vb,1,none⟩=some (.int .i64 up):=HB5.out.1.facts.2.1
   have f2:w5.cell? ⟨vb,2,none⟩=some (.bool o):=HB5.out.1.facts.2.2.1
   have HZ:=bH (bI (cell_keep HX.out.2.2.1 HB5.out.2) (cell_keep HX.out.2.2.2 HB5.out.2))
   cases o with
   | false =>
    go_wp2
    go_roundg (n - (i+1))
    case measure=>omega
    case rel=>exact ⟨i+1,by omega,rfl,by go_num,all_next (d:=var0) HI.out HX.out.1 (HVB.out.trans rfl),HZ.out,HX.out.2.1.trans HB5.out.2⟩
   | true =>
    by_cases hu:up=0
    ·have HVB':=bH (HVB.out.trans (show _=true by rw [decide_eq_true hu]; rfl))
     clear HVB
     subst hu
     go_wp2
     go_roundg (n - (i+1))
     case measure=>omega
     case rel=>exact ⟨i+1,by omega,rfl,by go_num,all_next (d:=var0) HI.out HX.out.1 HVB'.out,HZ.out,HX.out.2.1.trans HB5.out.2⟩
    ·have hu':(up == 0)=false:=by simpa using hu
     have hu2:(up != 0)=true:=by simpa using hu
     have HVB':=bH (HVB.out.trans (show _=false by rw [decide_eq_false hu]; rfl))
     clear HVB
     go_wp2
     go_ret
     exact ⟨ret_bool (by rw [HR2.out,all_fails (d:=var0) HI.out HVB'.out]; rfl),HX.out.2.1.trans HB5.out.2⟩
  ·obtain rfl:n=i:=by omega
   have HF:Hid (validB p=p.rows.all (rowB n)):=bH (by
    have:=HX.out.1
    rw [List.take_of_length_le (by rw [HN.out.1]; exact Nat.le_refl _)] at this
    rw [HR2.out,this]; rfl)
   clear HR2 hi hin hx
   have HVr:=bH (HV.out.2.keep HX.out.2.1)
   have HRow:=bH (fun W (hW:XF w W) (i:Nat) (hi:i<p.rows.length) ta tc (hok:RowOk (p.r i)) (ht:Tms w (.slice ta (p.r i).terms.length tc) (p.r i).terms)=>ValidRow_any W n (by omega) (p.r i) ta tc hok (ht.keep hW))
   go_wp2_with fail
   go_loopg [5] m (fun gg v5 wr=>∃ i:Nat,i<=m/\gg=m - i/\v5=.int .i64 i/\(p.rows.take i).all (rowB n)=true/\(wr.cell? ⟨pb,0,none⟩=some (.slice vo n vc)/\wr.cell? ⟨pb,1,none⟩=some (.slice ro m rc))/\XF w wr)
   case atStart=>exact ⟨0,Nat.zero_le _,rfl,rfl,rfl,HX.out.2.2,HX.out.2.1⟩
   case round =>
    clear z0 z1 HX HVr
    obtain ⟨i,hi,rfl,rfl,hall,⟨z0,z1⟩,hx⟩:=hrel
    have HX:=bH (bI hall (bI hx (bI z0 z1)))
    clear hall
    by_cases hin:i<m
    ·have i0:(i:Int)<(m:Int):=by omega
     have i1:(0:Int)<=(i:Int):=by omega
     have HI:Hid (i<p.rows.length):=bH (by rw [HN.out.2]; exact hin)
     obtain ⟨b,off,ta,tc,rfl,-,e0,e1,e2,e3,e4,hrok,htm⟩:=HV.out.2.atp i HI.out
     replace e0:=cell_keep e0 hx
     replace e1:=cell_keep e1 hx
     replace e2:=cell_keep e2 hx
     replace e3:=cell_keep e3 hx
     replace e4:=cell_keep e4 hx
     have HH:=bH (fun W (hW:XF w W)=>HRow.out W hW i HI.out ta tc hrok htm)
     clear hrok htm
     obtain ⟨hb,hhb⟩:∃ hb,rowB n (p.r i)=hb:=⟨_,rfl⟩
     have HHB:=bH hhb
     rw [hhb] at HH
     clear hhb
     generalize (p.r i).terms.length=tl at *
     generalize (p.r i).name=nm at *
     generalize (p.r i).group=gr at *
     generalize (p.r i).kind=k at *
     generalize (p.r i).bound=bd at *
     have hS:S7 pb pb b b b b b 0 1 (off+i*5) (off+i*5+1) (off+i*5+2) (off+i*5+3) (off+i*5+4) (.slice vo n vc) (.slice (some ⟨b,off,none⟩) m rc) (.string nm) (.int .i64 gr) (.int .i64 k) (.slice ta tl tc) (.int .i64 bd) wr:=⟨z0,z1,e0,e1,e2,e3,e4⟩
     have hxw:=hx
     clear z0 z1 e0 e1 e2 e3 e4 hx
     go_upto_region 12 with fail
     refine wp_region_held_drew (S:=(S7 pb pb b b b b b 0 1 (off+i*5) (off+i*5+1) (off+i*5+2) (off+i*5+3) (off+i*5+4) (.slice vo n vc) (.slice (some ⟨b,off,none⟩) m rc) (.string nm) (.int .i64 gr) (.int .i64 k) (.slice ta tl tc) (.int .i64 bd))) (by kernel_rfl) (hS.drew) (fun hHeld=>?_)
     refine ht 0 (h:=?_)
     (try go_frame)
     refine ht 1 (h:=?_)
     (try go_frame)
     refine ht 2 (h:=?_)
     (try go_frame)
     refine ht 3 (h:=?_)
     (try go_frame)
     refine ht 4 (h:=?_)
     (try go_frame)
     refine ht 5 (h:=?_)
     (try go_frame)
     refine ht 6 (h:=?_)
     (try go_frame)
     refine ht 7 (h:=?_)
     (try go_frame)
     refine held_step 8 rfl (by kernel_rfl) (fun K hK=>?_)
     (go_simp; go_at_call 16; (with_reducible refine (HH.out _ (hxw.drew)).mono ?_); rintro q1 w11 ⟨rfl,hx11⟩; have hX1:=(Ext.refl (fun _=>False) wr).drew.trans hx11; have hK1:=hS.keep hX1)
     refine hK.out _ _ (hK1) (fun hHeld=>?_)
     clear hK K
     (try go_frame)
     refine ht 9 (h:=?_)
     (try go_frame)
     refine wpAnyH_done (by kernel_rfl) ?_ _
     have y0:=hK1.1
     have y1:=hK1.2.1
     have HXa:=bH (bI (HX.out.2.1.trans hX1) (bI y0 y1))
     clear hX1 hK1 hS hx11 hxw hHeld y0 y1
     cases hb with
     | true =>
      go_wp2
      go_roundg (m - (i+1))
      case measure=>omega
      case rel=>exact ⟨i+1,by omega,rfl,by go_num,all_next (d:=row0) HI.out HX.out.1 HHB.out,HXa.out.2,HXa.out.1⟩
     | false =>
      go_wp2
      go_ret
      exact ⟨ret_bool (by rw [HF.out,all_fails (d:=row0) HI.out HHB.out]),HXa.out.1⟩
    ·obtain rfl:i=m:=by omega
     have HG:Hid (validB p=true):=bH (by
      have:=HX.out.1
      rw [List.take_of_length_le (by rw [HN.out.2]; exact Nat.le_refl _)] at this
      rw [HF.out,this])
     go_wp2
     go_ret
     exact ⟨ret_bool (by rw [HG.out]),HX.out.2.1⟩
structure AcSt (w wr:World) (pb rb sb:Nat) (va vb:Value) (q:Rat):Prop where
 ext:XF w wr
 p0:wr.cell? ⟨pb,0,none⟩=some va
 p1:wr.cell? ⟨pb,1,none⟩=some vb
 res:BoxR wr rb false (.slice none 0 0) (.slice none 0 0)
 acc:∃ sn s1 sm1 sc1 s2 sm2 sc2,BoxR wr sb sn (.slice s1 sm1 sc1) (.slice s2 sm2 sc2)/\IsRat wr (.agg #[.bool sn,.slice s1 sm1 sc1,.slice s2 sm2 sc2]) q
 ord:w.heap.size<=pb/\pb<rb/\rb<sb
section
variable {w wr w':World} {pb rb sb:Nat} {va vb:Value} {q:Rat}
theorem AcSt.keep (h:AcSt w wr pb rb sb va vb q) (hx:XF wr w'):AcSt w w' pb rb sb va vb q :=
 ⟨h.ext.trans hx,cell_keep h.p0 hx,cell_keep h.p1 hx,h.res.keep hx,(by obtain ⟨sn,s1,sm1,sc1,s2,sm2,sc2,h1,h2⟩:=h.acc; exact ⟨sn,s1,sm1,sc1,s2,sm2,sc2,h1.keep hx,h2.keep hx⟩),h.ord⟩
theorem AcSt.congr (h:AcSt w wr pb rb sb va vb q) {q':Rat} (hq:q=q'):AcSt w wr pb rb sb va vb q':=hq ▸ h
theorem AcSt.setAcc (h:AcSt w wr pb rb sb va vb q) {n0:Bool} {m0 d0:Value} (hb:BoxR wr sb n0 m0 d0) {neg:Bool} {a1 a2:Option Addr} {m1 c1 m2 c2:Nat} {u:Rat} (hu:IsRat wr (.agg #[.bool neg,.slice a1 m1 c1,.slice a2 m2 c2]) u) :
  AcSt w (((wr.setCell ⟨sb,0,none⟩ (.bool neg)).setCell ⟨sb,1,none⟩ (.slice a1 m1 c1)).setCell ⟨sb,2,none⟩ (.slice a2 m2 c2)) pb rb sb va vb u:=by
 have hp:=hb.put (neg:=neg) (no_int a1 m1 c1) (no_int a2 m2 c2)
 have p2:=hp.ext
 obtain ⟨o1,o2,o3⟩:=h.ord
 exact ⟨h.ext.own p2 (fun k e=>by omega),(p2.cell (p:=⟨pb,0,none⟩) (World.block_lt_of_cell? _ _ h.p0) (fun e=>by have:pb=sb:=e; omega)).trans h.p0,(p2.cell (p:=⟨pb,1,none⟩) (World.block_lt_of_cell? _ _ h.p1) (fun e=>by have:pb=sb:=e; omega)).trans h.p1,h.res.ext p2 (fun e=>by omega),⟨_,_,_,_,_,_,_,hp.box,hp.rat hu⟩,h.ord⟩
end
def lwB (p:ProgV) (c:List Rat) (i:Nat):Bool:=!((p.v i).op && decide (atQ c i<0))
theorem Least4_any (w:World) (pv xv:Value) (p:ProgV) (l:List Rat) (L:Nat) (hp:IsPrg w pv p) (hl:Rats w xv l L) (h1:1<=L) (hL:1+p.vars.length*(L+3)+(L+3)<=4000000) (hL3:L<=1000000) :
  Calls Tryz.prog 81 #[pv,xv] w (OptPost w (leastQ p l)):=by
 have HP:=bH hp
 obtain ⟨vv,rv,rfl,hv,-⟩:=hp
 obtain ⟨vo,vc,rfl,-,hn,-⟩:=hv.shape
 have HA:=bH (fun W (hW:XF w W) (i:Nat)=>At_any W _ l L (hl.keep hW) i)
 have HG:=bH (fun W u q (hu:Rrat W u q L)=>Rrsign_any W u q L hu (by omega))
 have hsz:∀ i,i<p.vars.length->Sz (sumTo i fun k=>(pickQ (p.v k) (atQ l k):Rat)*atQ l k) 4000000:=fun i hi =>
  (sum_size (f:=fun k=>pickQ (p.v k) (atQ l k)) (g:=fun k=>atQ l k) (L:=L) (n:=p.vars.length) (fun k hk=>pick_in hv l k hk) (fun k _=>hl.sz h1 _) i (Nat.le_of_lt hi)).mono (by have:=Nat.mul_le_mul_right (L+3) (Nat.le_of_lt hi); omega)
 have Hsz:=bH hsz
 have Hq:=bH (fun i=>hl.sz h1 i)
 have HV:=bH hv
 clear hv hl hsz hL
 obtain ⟨n,hn'⟩:∃ n,p.vars.length=n:=⟨_,rfl⟩
 have HN:=bH hn'
 rw [hn'] at hn HP ⊢ HV Hsz
 clear hn'
 have HQn:Hid (∀ i,i<n->lwB p l i=false->leastQ p l=none):=bH (fun i hi h=>by
  unfold leastQ lowB
  rw [HN.out,show allTo n (fun i=>!((p.v i).op && decide (atQ l i<0)))=false from allTo_false (f:=lwB p l) hi h]
  simp)
 have HQs:Hid (emptyB p=false->allTo n (lwB p l)=true->leastQ p l=some (sumTo n fun k=>(pickQ (p.v k) (atQ l k):Rat)*atQ l k)):=bH (fun h0 h=>by
  unfold leastQ lowB leastS
  rw [HN.out,h0,show allTo n (fun i=>!((p.v i).op && decide (atQ l i<0)))=true from h]
  simp)
 have hb1:blk ((w.alloc (.cells #[.slice vo n vc,rv] 25)).alloc (.cells #[.bool false,.slice none 0 0,.slice none 0 0] 64)) w.heap.size=some (.cells #[.slice vo n vc,rv] 25 (0,0)):=(blk_alloc_past _ _ _ (by simp)).trans (blk_alloc_at _ _)
 have hb2:=boxR_of (blk_alloc_at (w.alloc (.cells #[.slice vo n vc,rv] 25)) (.cells #[.bool false,.slice none 0 0,.slice none 0 0] 64))
 rw [World.size_alloc] at hb2
 have hxx:=((Ext.refl (fun _=>False) w).alloc (.cells #[.slice vo n vc,rv] 25)).alloc (.cells #[.bool false,.slice none 0 0,.slice none 0 0] 64)
 have HB:=bH (bI hb1 (bI hb2 hxx))
 clear hb1 hb2 hxx
 go_enter Tryz.func81,Tryz.ntmps81
 go_upto_region 1 with fail
 generalize hw1:(w.alloc (.cells #[.slice vo n vc,rv] 25)).alloc (.cells #[.bool false,.slice none 0 0,.slice none 0 0] 64)=w1 at *
 clear hw1
 obtain ⟨pb,hpb⟩:∃ pb,w.heap.size=pb:=⟨_,rfl⟩
 have hpw:w.heap.size<=pb:=Nat.le_of_eq hpb
 rw [hpb] at HB ⊢
 clear hpb
 obtain ⟨rb,hrb⟩:∃ rb,pb+1=rb:=⟨_,rfl⟩
 have hpr0:pb<rb:=by omega
 rw [hrb] at HB ⊢
 clear hrb
 have z0:=cellq HB.out.1 0 rfl
 have z1:=cellq HB.out.1 1 rfl
 go_wp2_with fail
 refine (Empty4_any _ _ p (HP.out.keep HB.out.2.2)).mono ?_
 rintro r2 w2 ⟨rfl,hx2⟩
 have HB2:=bH (bI (blk_keep HB.out.1 hx2) (bI (HB.out.2.1.keep hx2) (HB.out.2.2.trans hx2)))
 clear hx2 HB z0 z1 HP
 cases hem:emptyB p with
 | true =>
  have HE:=bH (show leastQ p l=none from by unfold leastQ; rw [hem]; rfl)
  clear hem
  have hbr:=HB2.out.2.1
  obtain ⟨d0,d1,d2,d3,d4,d5⟩:=hbr.facts
  have hp:=hbr.put (neg:=false) (no_int none 0 0) (no_int none 0 0)
  have HR:=bH (bI hp.box (HB2.out.2.2.own hp.ext (fun k e=>by omega)))
  clear hp hbr
  go_wp2
  generalize ((w2.setCell ⟨rb,0,none⟩ (.bool false)).setCell ⟨rb,1,none⟩ (.slice none 0 0)).setCell ⟨rb,2,none⟩ (.slice none 0 0)=w9 at *
  obtain ⟨g0,g1,g2,_⟩:=HR.out.1.facts
  exact bodyPost_ret (v:=.tuple #[.agg #[.bool false,.slice none 0 0,.slice none 0 0],.bool false]) (by simp [results,Tryz.results81,go_sem,g0,g1,g2]) rfl (by rw [HE.out]; exact ⟨HR.out.2,_,rfl,IsRat.zero _⟩)
 | false =>
 replace HQs:=bH (HQs.out hem)
 clear hem
 have hsz2:rb<w2.heap.size:=HB2.out.2.1.lt
 have hq:AcSt w (w2.alloc (.cells #[.bool false,.slice none 0 0,.slice none 0 0] 64)) pb rb w2.heap.size (.slice vo n vc) rv 0:=by
  have hx3:=(Ext.refl (fun _=>False) w2).alloc (.cells #[.bool false,.slice none 0 0,.slice none 0 0] 64)
  have hb:=blk_keep HB2.out.1 hx3
  exact ⟨HB2.out.2.2.trans hx3,cellq hb 0 rfl,cellq hb 1 rfl,HB2.out.2.1.keep hx3,⟨_,_,_,_,_,_,_,boxR_new rfl false none 0 0 none 0 0,IsRat.zero _⟩,by omega⟩
 have HQ:=bH hq
 clear hq
 go_upto_region 4 with fail
 generalize w2.alloc (.cells #[.bool false,.slice none 0 0,.slice none 0 0] 64)=w3 at *
 generalize w2.heap.size=sb at *
 clear HB2
 have z0:=HQ.out.p0
 go_wp2_with fail
 go_loopg [7,8,9] n (fun gg v7 v8 v9 wr=>∃ i:Nat,i<=n/\gg=n - i/\v7=.int .i64 i/\allTo i (lwB p l)=true/\AcSt w wr pb rb sb (.slice vo n vc) rv (sumTo i fun k=>(pickQ (p.v k) (atQ l k):Rat)*atQ l k))
 case atStart=>exact ⟨0,Nat.zero_le _,rfl,rfl,rfl,HQ.out⟩
 case round =>
  clear z0 HQ
  obtain ⟨i,hi,rfl,rfl,hall,hst⟩:=hrel
  have HC:=bH hst
  have HAll:=bH hall
  clear hst hall
  have z0:=HC.out.p0
  have ord:=HC.out.ord
  by_cases hin:i<n
  ·have i0:(i:Int)<(n:Int):=by omega
   have i1:(0:Int)<=(i:Int):=by omega
   obtain ⟨b,off,rfl,-,e0,e1,e2,e3,e4,hok⟩:=(HV.out.keep HC.out.ext).atp i (by rw [HN.out]; exact hin)
   have HNx:=bH (show ∀ v,p.v i=v->sumTo (i+1) (fun k=>(pickQ (p.v k) (atQ l k):Rat)*atQ l k)=sumTo i (fun k=>(pickQ (p.v k) (atQ l k):Rat)*atQ l k)+(pickQ v (atQ l i):Rat)*atQ l i from fun v h=>by rw [<- h]; rfl)
   have HLw:=bH (show ∀ v,p.v i=v->lwB p l i=!(v.op && decide (atQ l i<0)) from fun v h=>by rw [<- h]; rfl)
   replace HNx:=bH (HNx.out _ rfl)
   replace HLw:=bH (HLw.out _ rfl)
   generalize p.v i=vv at *
   obtain ⟨lo,up,o,ig,co⟩:=vv
   dsimp only at e0 e1 e2 e3 e4 HLw
   have hinlo:InR lo:=hok.lo
   have hinup:InR up:=hok.up
   have hx3:=(Ext.refl (fun _=>False) wr).alloc (.cells #[.int .i64 lo,.int .i64 up,.bool o,.bool ig,.int .i64 co] 73)
   have hb3:=blk_alloc_at wr (.cells #[.int .i64 lo,.int .i64 up,.bool o,.bool ig,.int .i64 co] 73)
   have HC3:=bH (bI (HC.out.keep hx3) hb3)
   clear hb3 hx3 hok HC
   go_upto_region 8 with fail
   generalize wr.alloc (.cells #[.int .i64 lo,.int .i64 up,.bool o,.bool ig,.int .i64 co] 73)=w4 at *
   generalize wr.heap.size=vbx at *
   clear e0 e1 e2 e3 e4 z0
   have f0:=cellq HC3.out.2 0 rfl
   go_wp2_with fail
   refine (HA.out _ HC3.out.1.ext i).mono ?_
   rintro r5 w5 ⟨v5,rfl,h5,hx5⟩
   obtain ⟨n5,a5,l5,c5,a5',l5',c5',rfl⟩:=h5.shape
   have HG5:=bH (HG.out w5 _ _ h5)
   have HX5:=bH hx5
   clear h5 hx5 f0
   go_wp2_with fail
   refine HG5.out.mono ?_
   rintro r6 w6 ⟨rfl,hx6⟩
   have HCm:=bH (HC3.out.1.keep (HX5.out.trans hx6))
   have HVb:=bH (blk_keep HC3.out.2 (HX5.out.trans hx6))
   have HSl:=bH (sign_lt (atQ l i))
   clear hx6 HX5 HG5 HC3
   generalize hsg:(atQ l i).num.sign=sg at *
   clear hsg
   by_cases hs:sg<0
   ·have hqn:=HSl.out.1 hs
    cases o with
    | true =>
     have HE:=bH (HQn.out i hin (by rw [HLw.out,decide_eq_true hqn]; rfl))
     have f2:=cellq HVb.out 2 rfl
     have hbr:=HCm.out.res
     obtain ⟨d0,d1,d2,d3,d4,d5⟩:=hbr.facts
     have hp:=hbr.put (neg:=false) (no_int none 0 0) (no_int none 0 0)
     have HR:=bH (bI hp.box (HCm.out.ext.own hp.ext (fun k e=>by omega)))
     clear hp hbr
     go_wp2
     generalize ((w6.setCell ⟨rb,0,none⟩ (.bool false)).setCell ⟨rb,1,none⟩ (.slice none 0 0)).setCell ⟨rb,2,none⟩ (.slice none 0 0)=w9 at *
     obtain ⟨g0,g1,g2,_⟩:=HR.out.1.facts
     exact bodyPost_ret (v:=.tuple #[.agg #[.bool false,.slice none 0 0,.slice none 0 0],.bool false]) (by simp [results,Tryz.results81,go_sem,g0,g1,g2]) rfl (by rw [HE.out]; exact ⟨HR.out.2,_,rfl,IsRat.zero _⟩)
    | false =>
     replace HLw:=bH (show lwB p l i=true from HLw.out)
     rw [show pickQ ⟨lo,up,false,ig,co⟩ (atQ l i)=up from if_pos hqn] at HNx
     have f1:=cellq HVb.out 1 rfl
     have f2:=cellq HVb.out 2 rfl
     clear hqn
     have hxi:=HCm.out.ext
     have HAt:=bH (fun W (hW:XF w6 W)=>HA.out W (hxi.trans hW) i)
     obtain ⟨sn,s1,sm1,sc1,s2,sm2,sc2,hsb,hsq⟩:=HCm.out.acc
     have HTm:=bH (fun W u (hu:Rrat W u (atQ l i) L)=>times_any W up u _ L hinup hu hL3)
     have hpr:=(Sz.int hinup).mul (Hq.out i)
     have HAd:=bH (fun W u (hW:XF w6 W) (hu:IsRat W u ((up:Rat)*atQ l i))=>Rradd_any W _ u _ _ 4000000 ((hsq.keep hW).reads (Hsz.out i hin)) (hu.reads (hpr.mono (by omega))) (by omega) (by omega))
     rw [<- HNx.out] at HAd
     obtain ⟨t0,t1,t2,-⟩:=hsb.facts
     replace t0:=cq t0
     replace t1:=cq t1
     replace t2:=cq t2
     clear hpr hsq
     generalize (up:Rat)*atQ l i=PR at *
     generalize hSR:sumTo (i+1) (fun k=>(pickQ (p.v k) (atQ l k):Rat)*atQ l k)=SR at *
     have HSR:=bH hSR
     clear hSR
     generalize hAQ:atQ l i=AQ at *
     clear hAQ
     go_upto_region 13 with fail
     refine ends_begin 7 (XF w6) (by kernel_rfl) ((Ext.refl _ w6).drew) (fun hHeld=>?_)
     refine et 0 (h:=(et 1 (h:=(et 2 (h:=(et 3 (h:=?_)))))))
     (try go_frame)
     refine est 4 (h:=fun K hK=>?_)
     (go_simp; go_at_call 40; (with_reducible refine (HAt.out _ hHeld).mono ?_); rintro q1 w11 ⟨v11,rfl,h11,hx11⟩; have hX1:=hHeld.trans hx11; have hT:=HTm.out w11 _ h11; obtain ⟨n11,a11,l11,c11,a11',l11',c11',rfl⟩:=h11.shape)
     refine hK.out _ _ (hX1) (fun hHeld=>?_)
     clear hK K
     (try go_frame)
     refine est 5 (h:=fun K hK=>?_)
     (go_simp; go_at_call 67; (with_reducible refine hT.mono ?_); rintro q2 w12 ⟨v12,rfl,h12,hx12⟩; have hX2:=hX1.trans hx12; have hA:=HAd.out w12 _ hX2 h12; obtain ⟨n12,a12,l12,c12,a12',l12',c12',rfl⟩:=h12.shape)
     refine hK.out _ _ (hX2) (fun hHeld=>?_)
     clear hK K
     (try go_frame)
     refine est 6 (h:=fun K hK=>?_)
     (go_simp; go_at_call 66; (with_reducible refine hA.mono ?_); rintro q3 w13 ⟨v13,rfl,h13,hx13⟩; have hX3:=hX2.trans hx13; obtain ⟨n13,a13,l13,c13,a13',l13',c13',rfl⟩:=h13.shape)
     refine hK.out _ _ (hX3) (fun hHeld=>?_)
     clear hK K
     (try go_frame)
     have HC:=bH (HCm.out.keep hX3)
     have hbr:=hsb.keep hX3
     obtain ⟨d0,d1,d2,d3,d4,d5⟩:=hbr.facts
     refine ends_last rfl (by kernel_rfl) (fun K hK=>?_)
     go_simp
     refine hK.out _ _ ?_
     clear hK K
     (try go_frame)
     refine ends_done (by kernel_rfl) ?_ _
     have HP:=bH (HC.out.setAcc hbr h13)
     clear HC h11 h12 h13 hx11 hx12 hx13 hX1 hX2 hX3 hT hA t0 t1 t2 hHeld HAd HTm HAt hbr hsb d0 d1 d2 d3 d4 d5 hxi
     generalize ((w13.setCell ⟨sb,0,none⟩ (.bool n13)).setCell ⟨sb,1,none⟩ (.slice a13 l13 c13)).setCell ⟨sb,2,none⟩ (.slice a13' l13' c13')=w9 at *
     go_wp2
     go_roundg (n - (i+1))
     case measure=>omega
     case rel=>exact ⟨i+1,by omega,rfl,by go_num,allTo_next HAll.out HLw.out,HP.out.congr HSR.out.symm⟩
   ·have hqn:¬ atQ l i<0:=fun h=>hs (HSl.out.2 h)
    replace HLw:=bH (show lwB p l i=true from by rw [HLw.out,decide_eq_false hqn]; simp)
    rw [show pickQ ⟨lo,up,o,ig,co⟩ (atQ l i)=lo from if_neg hqn] at HNx
    clear hqn
    have hxi:=HCm.out.ext
    have HAt:=bH (fun W (hW:XF w6 W)=>HA.out W (hxi.trans hW) i)
    obtain ⟨sn,s1,sm1,sc1,s2,sm2,sc2,hsb,hsq⟩:=HCm.out.acc
    have HTm:=bH (fun W u (hu:Rrat W u (atQ l i) L)=>times_any W lo u _ L hinlo hu hL3)
    have hpr:=(Sz.int hinlo).mul (Hq.out i)
    have HAd:=bH (fun W u (hW:XF w6 W) (hu:IsRat W u ((lo:Rat)*atQ l i))=>Rradd_any W _ u _ _ 4000000 ((hsq.keep hW).reads (Hsz.out i hin)) (hu.reads (hpr.mono (by omega))) (by omega) (by omega))
    rw [<- HNx.out] at HAd
    obtain ⟨t0,t1,t2,-⟩:=hsb.facts
    replace t0:=cq t0
    replace t1:=cq t1
    replace t2:=cq t2
    clear hpr hsq
    generalize (lo:Rat)*atQ l i=PR at *
    generalize hSR:sumTo (i+1) (fun k=>(pickQ (p.v k) (atQ l k):Rat)*atQ l k)=SR at *
    have HSR:=bH hSR
    clear hSR
    generalize hAQ:atQ l i=AQ at *
    clear hAQ
    go_upto_region 13 with fail
    refine ends_begin 7 (XF w6) (by kernel_rfl) ((Ext.refl _ w6).drew) (fun hHeld=>?_)
    refine et 0 (h:=(et 1 (h:=(et 2 (h:=(et 3 (h:=?_)))))))
    (try go_frame)
    refine est 4 (h:=fun K hK=>?_)
    (go_simp; go_at_call 40; (with_reducible refine (HAt.out _ hHeld).mono ?_); rintro q1 w11 ⟨v11,rfl,h11,hx11⟩; have hX1:=hHeld.trans hx11; have hT:=HTm.out w11 _ h11; obtain ⟨n11,a11,l11,c11,a11',l11',c11',rfl⟩:=h11.shape)
    refine hK.out _ _ (hX1) (fun hHeld=>?_)
    clear hK K
    (try go_frame)
    refine est 5 (h:=fun K hK=>?_)
    (go_simp; go_at_call 67; (with_reducible refine hT.mono ?_); rintro q2 w12 ⟨v12,rfl,h12,hx12⟩; have hX2:=hX1.trans hx12; have hA:=HAd.out w12 _ hX2 h12; obtain ⟨n12,a12,l12,c12,a12',l12',c12',rfl⟩:=h12.shape)
    refine hK.out _ _ (hX2) (fun hHeld=>?_)
    clear hK K
    (try go_frame)
    refine est 6 (h:=fun K hK=>?_)
    (go_simp; go_at_call 66; (with_reducible refine hA.mono ?_); rintro q3 w13 ⟨v13,rfl,h13,hx13⟩; have hX3:=hX2.trans hx13; obtain ⟨n13,a13,l13,c13,a13',l13',c13',rfl⟩:=h13.shape)
    refine hK.out _ _ (hX3) (fun hHeld=>?_)
    clear hK K
    (try go_frame)
    have HC:=bH (HCm.out.keep hX3)
    have hbr:=hsb.keep hX3
    obtain ⟨d0,d1,d2,d3,d4,d5⟩:=hbr.facts
    refine ends_last rfl (by kernel_rfl) (fun K hK=>?_)
    go_simp
    refine hK.out _ _ ?_
    clear hK K
    (try go_frame)
    refine ends_done (by kernel_rfl) ?_ _
    have HP:=bH (HC.out.setAcc hbr h13)
    clear HC h11 h12 h13 hx11 hx12 hx13 hX1 hX2 hX3 hT hA t0 t1 t2 hHeld HAd HTm HAt hbr hsb d0 d1 d2 d3 d4 d5 hxi
    generalize ((w13.setCell ⟨sb,0,none⟩ (.bool n13)).setCell ⟨sb,1,none⟩ (.slice a13 l13 c13)).setCell ⟨sb,2,none⟩ (.slice a13' l13' c13')=w9 at *
    go_wp2
    go_roundg (n - (i+1))
    case measure=>omega
    case rel=>exact ⟨i+1,by omega,rfl,by go_num,allTo_next HAll.out HLw.out,HP.out.congr HSR.out.symm⟩
  ·obtain rfl:i=n:=by omega
   have HE:=bH (HQs.out HAll.out)
   obtain ⟨sn,s1,sm1,sc1,s2,sm2,sc2,hsb,hsq⟩:=HC.out.acc
   obtain ⟨t0,t1,t2,-⟩:=hsb.facts
   have hbr:=HC.out.res
   obtain ⟨d0,d1,d2,d3,d4,d5⟩:=hbr.facts
   have hp:=hbr.put (neg:=sn) (no_int s1 sm1 sc1) (no_int s2 sm2 sc2)
   have HR:=bH (bI (hp.rat hsq) (bI (HC.out.ext.own hp.ext (fun k e=>by omega)) hp.box))
   clear hp hsb hsq hbr
   go_wp2
   generalize ((wr.setCell ⟨rb,0,none⟩ (.bool sn)).setCell ⟨rb,1,none⟩ (.slice s1 sm1 sc1)).setCell ⟨rb,2,none⟩ (.slice s2 sm2 sc2)=w9 at *
   obtain ⟨g0,g1,g2,_⟩:=HR.out.2.2.facts
   exact bodyPost_ret (v:=.tuple #[.agg #[.bool sn,.slice s1 sm1 sc1,.slice s2 sm2 sc2],.bool true]) (by simp [results,Tryz.results81,go_sem,g0,g1,g2]) rfl (by rw [HE.out]; exact ⟨HR.out.2.1,_,rfl,HR.out.1⟩)
theorem dg_len_pos (n:Nat):decide (0<(dg n).length)=decide (0<n):=by
 by_cases h:n=0
 ·subst h; rw [dg_zero]; rfl
 ·have:¬ dg n=[]:=fun e=>h (dg_eq_nil.1 e)
  rw [decide_eq_true (List.length_pos_iff.2 this),decide_eq_true (Nat.pos_of_ne_zero h)]
theorem sg_fdiv {z z':Int} (h:0<z'):sg (decide (z.sign*z'.sign<0)) (z.natAbs / z'.natAbs+if (decide (z.sign*z'.sign<0) && decide (0<z.natAbs % z'.natAbs))=true then 1 else 0)=z / z':=by
 obtain ⟨y,rfl⟩:∃ y:Nat,z'=y:=⟨z'.natAbs,by omega⟩
 have hy:0<y:=by omega
 rw [Int.natAbs_natCast,sign_pos hy,Int.mul_one]
 have hm:=Nat.mod_lt z.natAbs hy
 have hd:=Nat.div_add_mod z.natAbs y
 rcases Int.natAbs_eq z with hz | hz <;> generalize z.natAbs=x at*<;> subst hz
 ·have h0:¬ ((x:Int).sign<0):=by
   rw [Int.sign_neg_iff]; omega
  rw [decide_eq_false h0]
  simp [sg]
 ·by_cases hx:x=0
  ·subst hx; simp [sg]
  ·have h0:(-(x:Int)).sign<0:=by rw [Int.sign_neg_iff]; omega
   rw [decide_eq_true h0]
   unfold sg
   rw [if_pos rfl]
   generalize x / y=q at *
   generalize x % y=r at *
   have hx2:(x:Int)=(y:Int)*q+r:=by rw [<- hd]; simp
   by_cases hr:r=0
   ·subst hr
    rw [if_neg (by simp)]
    refine ((Int.ediv_emod_unique (b:=(y:Int)) (r:=0) (q:=-(q:Int)) h).2 ⟨?_,Int.le_refl _,h⟩).1.symm
    rw [hx2]; simp [Int.mul_neg]
   ·rw [if_pos (by simp; omega)]
    refine ((Int.ediv_emod_unique (b:=(y:Int)) (r:=(y:Int) - r) (q:=-((q+1:Nat):Int)) h).2 ⟨?_,by omega,by omega⟩).1.symm
    rw [hx2,Int.mul_neg]
    have:(y:Int)*((q+1:Nat):Int)=y*q+y:=by rw [Int.natCast_add,Int.mul_add]; simp
    rw [this]
    omega
theorem ediv_len {z z':Int} {L:Nat} (h:0<z') (hl:(dg z.natAbs).length<=L):(dg (z / z').natAbs).length<=L+1:=by
 have h1:(z / z').natAbs<=z.natAbs:=Int.natAbs_ediv_le_natAbs z z'
 exact Nat.le_trans (dg_mono h1) (by omega)
theorem floorf_any (w:World) (a b:Bool):Calls Tryz.prog 215 #[.bool a,.bool b] w fun r w'=>r=.returned (.bool (a && b))/\w'=w:=by
 go_enter Tryz.func215,Tryz.ntmps215
 cases a <;> (go_wp2; go_ret; exact ⟨rfl,rfl⟩)
def FloorPost (w:World) (z z':Int) (r:Ending) (w':World):Prop :=
 ∃ q s,r=.returned (.tuple #[q,s,.int .i64 0])/\IsInt w' q (z / z')/\IsInt w' s (z - z / z'*z')/\XF w w'
theorem dividef_any (w:World) (v v':Value) (z z':Int) (L:Nat) (h:Rint w v z L) (h':Rint w v' z' L) (h0:0<z') (hL:L<=33554432) :
  Calls Tryz.prog 214 #[v,v',.func (.func 215) #[] #[]] w (FloorPost w z z'):=by
 have HG1:=bH (fun W (hW:XF w W)=>isign_any W v z L (h.keep hW) (by omega))
 have HG2:=bH (fun W (hW:XF w W)=>isign_any W v' z' L (h'.keep hW) (by omega))
 have hlq:(dg (z / z').natAbs).length<=L+1:=ediv_len h0 h.len
 have HM:=bH (fun W (hW:XF w W) u (hu:IsInt W u (z / z'))=>imul_any W u v' (z / z') z' (L+1) (hu.reads hlq) ((h'.keep hW).mono (by omega)) (by omega))
 have HU:=bH (fun W (hW:XF w W) u (hu:IsInt W u (z / z'*z'))=>isub_any W v u z (z / z'*z') (L+1+L) ((h.keep hW).mono (by omega)) (hu.reads (len_mul hlq h'.len)) (by omega))
 have hsg:=sg_fdiv (z:=z) h0
 have hlz:=h.len
 obtain ⟨neg,ao,m,c,l,rfl,hr,hl,hz⟩:=h.open
 obtain ⟨neg',ao',m',c',l',rfl,hr',hl',hz'⟩:=h'.open
 have HD:=bH (fun W (hW:XF w W)=>divmod_any W _ _ l l' (hr.keep hW) (hr'.keep hW) (by omega) (by omega))
 have e1:vl l=z.natAbs:=by rw [hz,sg_natAbs]
 have e2:vl l'=z'.natAbs:=by rw [hz',sg_natAbs]
 rw [e1,e2] at HD
 have hy0:¬ z'.natAbs=0:=by omega
 have hDP:∀ W,DivPost W z.natAbs z'.natAbs=fun r w'=>∃ v1 v2,r=.returned (.tuple #[v1,v2,.int .i64 0])/\IsNat w' v1 (z.natAbs / z'.natAbs)/\IsNat w' v2 (z.natAbs % z'.natAbs)/\XF W w':=fun W=>by
  funext r w'; unfold DivPost; rw [if_neg hy0]
 simp only [hDP] at HD
 have hxl:(dg (z.natAbs / z'.natAbs)).length<=L:=Nat.le_trans (dg_mono (Nat.div_le_self _ _)) hlz
 have HS:=bH (fun W v n k (hk:k<=1) (hn:IsNat W v (z.natAbs / z'.natAbs+k))=>signed_any W n v _ hn (Nat.le_trans (dg_len_add (dg_lt _) (Nat.lt_of_le_of_lt hk (show 1<4294967296 ^ 1 by decide))) (by omega)))
 have HF:=bH (fun W=>from_any W 1 (by decide))
 have HA:=bH (fun W va vb (h1:IsNat W va (z.natAbs / z'.natAbs)) (h2:IsNat W vb 1)=>(show Calls Tryz.prog 171 #[va,vb] W (NatPost W (z.natAbs / z'.natAbs+1)) from by have:=add_any W va vb _ _ h1 h2 (by omega) (by rw [dg_1]; decide); rwa [vl_dg,vl_dg] at this))
 have hPb:-1<=z.sign*z'.sign/\z.sign*z'.sign<=1:=by
  rcases Int.sign_trichotomy z with h | h | h <;> rcases Int.sign_trichotomy z' with h' | h' | h' <;> rw [h,h'] <;> decide
 have hPw:IntKind.i64.wrap (z.sign*z'.sign)=z.sign*z'.sign:=IntWalk.i64_in _ (by omega)
 obtain ⟨PP,hPP⟩:∃ PP,z.sign*z'.sign=PP:=⟨_,rfl⟩
 rw [hPP] at hPw hPb hsg
 obtain ⟨P,hP⟩:∃ P,decide (PP<0)=P:=⟨_,rfl⟩
 rw [hP] at hsg
 obtain ⟨D,hD⟩:∃ D,decide (0<z.natAbs % z'.natAbs)=D:=⟨_,rfl⟩
 rw [hD] at hsg
 rw [<- dg_len_pos] at hD
 have HDD:=bH hD
 clear hD
 have Hsg:=bH hsg
 generalize z.natAbs / z'.natAbs=x at *
 generalize z.natAbs % z'.natAbs=y at *
 unfold FloorPost
 have hq:∀ t t':Int,t=t->t'=t'->True:=fun _ _ _ _=>trivial
 clear hr hr' hl hl' h h' hz hz' e1 e2 hy0 hDP hlq hlz hxl hsg hq h0
 generalize z / z'=q at *
 generalize z - q*z'=s at *
 generalize q*z'=qz at *
 generalize z.sign=sz at *
 generalize z'.sign=sz' at *
 go_enter Tryz.func214,Tryz.ntmps214
 go_upto_region 0 with fail
 go_cut [3,4,6,7,8] (fun v1 v2 v3 v4 v8 wx=>∃ b b' r r',v1=.pointer (some ⟨b,0,none⟩)/\v2=.pointer (some ⟨b',0,none⟩)/\v3=.pointer (some ⟨r,0,none⟩)/\v4=.pointer (some ⟨r',0,none⟩)/\v8=.int .i64 0/\BoxI wx b neg (.slice ao m c)/\BoxI wx b' neg' (.slice ao' m' c')/\BoxI wx r false (.slice none 0 0)/\BoxI wx r' false (.slice none 0 0)/\¬ b=r/\¬ b'=r/\¬ b=r'/\¬ b'=r'/\¬ r=r'/\w.heap.size<=r/\w.heap.size<=r'/\XF w wx)
 case first =>
  go_wp2
  go_meet
  exact ⟨_,_,_,_,rfl,rfl,rfl,rfl,rfl,(((boxI_new rfl neg ao m c).alloc _).alloc _).alloc _,((boxI_new (by simp) neg' ao' m' c').alloc _).alloc _,(boxI_new (by simp) false none 0 0).alloc _,boxI_new (by simp) false none 0 0,(by omega),(by omega),(by omega),(by omega),(by omega),(by omega),(by omega),((((Ext.refl _ w).alloc _).alloc _).alloc _).alloc _⟩
 case rest =>
  obtain ⟨b,b',r,r',rfl,rfl,rfl,rfl,rfl,hb,hb',hrb,hrb',n1,n2,n3,n4,n5,hle,hle',hx⟩:=hcut
  obtain ⟨c0,c1,_⟩:=hb.facts
  obtain ⟨e0,e1,_⟩:=hb'.facts
  have HD1:=bH (HD.out wc hx)
  have HB:=bH (bI hb (bI hb' (bI hrb (bI hrb' hx))))
  clear hb hb' hrb hrb' hx
  go_wp2_with fail
  refine HD1.out.mono ?_
  rintro r1 w1 ⟨v1,v2,rfl,h1,h2,hx1⟩
  have hS:=SI2.of (HB.out.1.ext hx1 id) (HB.out.2.1.ext hx1 id)
  have HX1:=bH (bI hx1 h1)
  obtain ⟨ao2,c2,rfl⟩:=h2.shape
  obtain ⟨ao1,c1',rfl⟩:=h1.shape
  clear h1 h2 hx1 c0 c1 e0 e1
  generalize (dg y).length=ly at *
  generalize (dg x).length=lx at *
  go_upto_region 4 with fail
  go_region_held3 (SI2 b b' neg neg' (.slice ao m c) (.slice ao' m' c'))
   (repeat (first | (with_reducible assumption) | (with_reducible refine SI2.drew ?_) | (with_reducible refine SI2.set ?_ _ _ ?_ ?_) | (dsimp only; omega)))
   (first
    | (go_at_call 152; (with_reducible refine (HG1.out _ ?_).mono ?_); (exact (HB.out.2.2.2.2.trans HX1.out.1).drew); rintro r2 w2 ⟨rfl,hx2⟩; have hX2:=HX1.out.1.drew.trans hx2; have hK2:=SI2.of (HB.out.1.ext hX2 id) (HB.out.2.1.ext hX2 id))
    | (go_at_call 152; (with_reducible refine (HG2.out _ ?_).mono ?_); (exact HB.out.2.2.2.2.trans hX2); rintro r3 w3 ⟨rfl,hx3⟩; have hX3:=hX2.trans hx3; have hK3:=SI2.of (HB.out.1.ext hX3 id) (HB.out.2.1.ext hX3 id)))
  have h13:XF w1 w3:=(Ext.refl _ w1).drew.trans (hx2.trans hx3)
  have HX3:=bH (bI (HX1.out.2.keep h13) hX3)
  clear hK2 hK3 hX2 hX3 hx2 hx3 h13 hS hPw hPP hPb
  go_wp2_with fail
  refine (floorf_any _ _ _).mono ?_
  rintro r4 w4 ⟨rfl,hw⟩; obtain rfl:=hw.symm
  clear hw
  obtain ⟨R,hR⟩:∃ R,(P && decide (0<ly))=R:=⟨_,rfl⟩
  rw [hR]
  rw [HDD.out] at hR
  have HRR:=bH hR
  clear hR HDD
  go_upto_if 39 with fail
  go_cut [9] (fun v9 wx=>IsNat wx v9 (x+if R=true then 1 else 0)/\XF w3 wx)
  case first =>
   cases R with
   | false =>
    go_wp2
    go_meet
    exact ⟨by simpa using HX3.out.1,Ext.refl _ _⟩
   | true =>
    go_wp2_with fail
    refine (HF.out _).mono ?_
    rintro r5 w5 ⟨v5,rfl,h5,hx5⟩
    have H5:=bH (bI h5 hx5)
    go_wp2_with fail
    refine (HA.out _ _ _ (HX3.out.1.keep hx5) h5).mono ?_
    rintro r6 w6 ⟨v6,rfl,h6,hx6⟩
    go_wp2
    go_meet
    exact ⟨by simpa using h6,hx5.trans hx6⟩
  case rest =>
  obtain ⟨h9,hx9⟩:=hcut
  have HS3:=bH (HS.out wc _ P (if R=true then 1 else 0) (by split <;> omega) h9)
  rw [<- HRR.out,Hsg.out] at HS3
  rw [<- HRR.out] at h9
  replace HX3:=bH (bI h9 (HX3.out.2.trans hx9))
  clear h9 hx9
  go_wp2_with fail
  refine HS3.out.mono ?_
  rintro r5 w5 ⟨v5,rfl,h5,hx5⟩
  have HX5:=bH (bI h5 (HX3.out.2.trans hx5))
  obtain ⟨neg5,ao5,n6,k5,rfl⟩:=h5.shape
  clear h5 hx5 HS3
  go_upto_region 8 with fail
  obtain ⟨bq,hbq⟩:∃ bq,w5.heap.size=bq:=⟨_,rfl⟩
  have hbox:=boxI_new hbq.symm neg5 ao5 n6 k5
  have hx57:=(Ext.refl (fun _=>False) w5).alloc (.cells #[.bool neg5,.slice ao5 n6 k5] 62)
  rw [hbq]
  generalize w5.alloc (.cells #[.bool neg5,.slice ao5 n6 k5] 62)=w7 at *
  have hX7:=HX5.out.2.trans hx57
  have hI7:=HX5.out.1.keep hx57
  have HM7:=bH (HM.out w7.drew (HB.out.2.2.2.2.trans hX7).drew _ (hI7.keep (Ext.refl _ w7).drew))
  have hS:=SI3.of (HB.out.1.ext hX7 id) (HB.out.2.1.ext hX7 id) hbox
  have HX7:=bH (bI hX7 (bI hI7 hbox))
  have hq1:¬ bq=r:=fun e=>by
   have h1:=HB.out.2.2.1.lt
   have h2:=HX5.out.2.size
   omega
  have hq2:¬ bq=r':=fun e=>by
   have h1:=HB.out.2.2.2.1.lt
   have h2:=HX5.out.2.size
   omega
  clear hX7 hI7 hbox hx57 hbq HX5 HX3 HX1 hP
  go_region_held3 (SI3 b b' bq neg neg' neg5 (.slice ao m c) (.slice ao' m' c') (.slice ao5 n6 k5))
   (repeat (first | (with_reducible assumption) | (with_reducible refine SI3.drew ?_) | (with_reducible refine SI3.set ?_ _ _ ?_ ?_ ?_) | (dsimp only; omega)))
   (first
    | (go_at_call 132; (with_reducible refine HM7.out.mono ?_); rintro r8 w8 ⟨v8,rfl,h8,hx8⟩; have hx78:=(Ext.refl (fun _=>False) w7).drew.trans hx8; have hX8:=HX7.out.1.trans hx78; have hU8:=HU.out w8 (HB.out.2.2.2.2.trans hX8) v8 h8; have hK8:=SI3.of (HB.out.1.ext hX8 id) (HB.out.2.1.ext hX8 id) (HX7.out.2.2.ext hx78 id); obtain ⟨neg8,ao8,n8,k8,rfl⟩:=h8.shape)
    | (go_at_call 184; (with_reducible refine hU8.mono ?_); rintro r9 w9 ⟨v9,rfl,h9,hx9⟩; have hx79:=hx78.trans hx9; have hX9:=HX7.out.1.trans hx79; have hK9:=SI3.of (HB.out.1.ext hX9 id) (HB.out.2.1.ext hX9 id) (HX7.out.2.2.ext hx79 id); have hr9:=HB.out.2.2.1.ext hX9 id; have hr9':=HB.out.2.2.2.1.ext hX9 id; obtain ⟨d0,d1,d2,d3⟩:=hr9.facts; obtain ⟨f0,f1,f2,f3⟩:=hr9'.facts; obtain ⟨neg9,ao9,n9,k9,rfl⟩:=h9.shape))
  have hp1:=hr9.put (neg:=neg5) (no_int ao5 n6 k5)
  have hp2:=(hr9'.ext hp1.ext (fun e=>n5 e.symm)).put (neg:=neg9) (no_int ao9 n9 k9)
  have HR:=bH (bI (hp2.int (hp1.int (HX7.out.2.1.keep hx79))) (bI (hp2.int (hp1.int h9)) (bI (((HB.out.2.2.2.2.trans hX9).own hp1.ext (fun k e=>by omega)).own hp2.ext (fun k e=>by omega)) (bI (hp1.box.ext hp2.ext n5) hp2.box))))
  clear hp1 hp2 h8 h9 hx8 hx9 hx78 hx79 hX8 hX9 hK8 hK9 hU8 d0 d1 d2 d3 f0 f1 f2 f3 hr9 hr9' hS
  generalize (((w9.setCell ⟨r,0,none⟩ (.bool neg5)).setCell ⟨r,1,none⟩ (.slice ao5 n6 k5)).setCell ⟨r',0,none⟩ (.bool neg9)).setCell ⟨r',1,none⟩ (.slice ao9 n9 k9)=w10 at *
  obtain ⟨g0,g1,_⟩:=HR.out.2.2.2.1.facts
  obtain ⟨g2,g3,_⟩:=HR.out.2.2.2.2.facts
  go_wp2
  exact bodyPost_ret (v:=.tuple #[.agg #[.bool neg5,.slice ao5 n6 k5],.agg #[.bool neg9,.slice ao9 n9 k9],.int .i64 0]) (by simp [results,Tryz.results214,go_sem,g0,g1,g2,g3]) rfl ⟨_,_,rfl,HR.out.1,HR.out.2.1,HR.out.2.2.1⟩
theorem floor_any (w:World) (v v':Value) (z z':Int) (L:Nat) (h:Rint w v z L) (h':Rint w v' z' L) (h0:0<z') (hL:L<=33554432) :
  Calls Tryz.prog 174 #[v,v'] w (FloorPost w z z'):=by
 have HD:=bH (fun W (hW:XF w W)=>dividef_any W v v' z z' L (h.keep hW) (h'.keep hW) h0 hL)
 obtain ⟨neg,ao,m,c,l,rfl,_,_,_⟩:=h.open
 obtain ⟨neg',ao',m',c',l',rfl,_,_,_⟩:=h'.open
 clear h h'
 unfold FloorPost at *
 generalize z / z'=q at *
 generalize z - q*z'=s at *
 go_enter Tryz.func174,Tryz.ntmps174
 go_upto_region 0 with fail
 go_cut [2,3,4,5,6] (fun v1 v2 v3 v4 v8 wx=>∃ b b' r r',v1=.pointer (some ⟨b,0,none⟩)/\v2=.pointer (some ⟨b',0,none⟩)/\v3=.pointer (some ⟨r,0,none⟩)/\v4=.pointer (some ⟨r',0,none⟩)/\v8=.int .i64 0/\BoxI wx b neg (.slice ao m c)/\BoxI wx b' neg' (.slice ao' m' c')/\BoxI wx r false (.slice none 0 0)/\BoxI wx r' false (.slice none 0 0)/\¬ r=r'/\w.heap.size<=r/\w.heap.size<=r'/\XF w wx)
 case first =>
  go_wp2
  go_meet
  exact ⟨_,_,_,_,rfl,rfl,rfl,rfl,rfl,(((boxI_new rfl neg ao m c).alloc _).alloc _).alloc _,((boxI_new (by simp) neg' ao' m' c').alloc _).alloc _,(boxI_new (by simp) false none 0 0).alloc _,boxI_new (by simp) false none 0 0,(by omega),(by omega),(by omega),((((Ext.refl _ w).alloc _).alloc _).alloc _).alloc _⟩
 case rest =>
  obtain ⟨b,b',r,r',rfl,rfl,rfl,rfl,rfl,hb,hb',hrb,hrb',n5,hle,hle',hx⟩:=hcut
  obtain ⟨c0,c1,_⟩:=hb.facts
  obtain ⟨e0,e1,_⟩:=hb'.facts
  have HD1:=bH (HD.out wc hx)
  have HB:=bH (bI hrb (bI hrb' hx))
  clear hb hb' hrb hrb' hx
  go_wp2_with fail
  refine HD1.out.mono ?_
  rintro r1 w9 ⟨v1,v2,rfl,h1,h2,hx1⟩
  have hr9:=HB.out.1.ext hx1 id
  have hr9':=HB.out.2.1.ext hx1 id
  obtain ⟨d0,d1,d2,d3⟩:=hr9.facts
  obtain ⟨f0,f1,f2,f3⟩:=hr9'.facts
  obtain ⟨neg5,ao5,n6,k5,rfl⟩:=h1.shape
  obtain ⟨neg9,ao9,n9,k9,rfl⟩:=h2.shape
  have hp1:=hr9.put (neg:=neg5) (no_int ao5 n6 k5)
  have hp2:=(hr9'.ext hp1.ext (fun e=>n5 e.symm)).put (neg:=neg9) (no_int ao9 n9 k9)
  have HR:=bH (bI (hp2.int (hp1.int h1)) (bI (hp2.int (hp1.int h2)) (bI (((HB.out.2.2.trans hx1).own hp1.ext (fun k e=>by omega)).own hp2.ext (fun k e=>by omega)) (bI (hp1.box.ext hp2.ext n5) hp2.box))))
  clear hp1 hp2 h1 h2 hx1 hr9 hr9' c0 c1 e0 e1
  go_wp2
  generalize (((w9.setCell ⟨r,0,none⟩ (.bool neg5)).setCell ⟨r,1,none⟩ (.slice ao5 n6 k5)).setCell ⟨r',0,none⟩ (.bool neg9)).setCell ⟨r',1,none⟩ (.slice ao9 n9 k9)=w10 at *
  obtain ⟨g0,g1,_⟩:=HR.out.2.2.2.1.facts
  obtain ⟨g2,g3,_⟩:=HR.out.2.2.2.2.facts
  exact bodyPost_ret (v:=.tuple #[.agg #[.bool neg5,.slice ao5 n6 k5],.agg #[.bool neg9,.slice ao9 n9 k9],.int .i64 0]) (by simp [results,Tryz.results174,go_sem,g0,g1,g2,g3]) rfl ⟨_,_,rfl,HR.out.1,HR.out.2.1,HR.out.2.2.1⟩
section
variable {P:Program} {md:Region.Mode} {l:List Oper} {Q:Exit->Act->World->Prop} {S:World->Prop} {k:Nat}
theorem mtwo (i j:Nat) {oi oj:Oper} {fuel:Nat} {listed:Array Bool} {a:Act} {w:World} (hi:l[i]?=some oi) (hj:l[j]?=some oj) (hr:Region.ready md l.toArray listed=[i,j])
  (h1:∀ K':Act->World->Prop,Shut (∀ a w,S w->(S w->EndsMk P md l Q S k fuel (listed.setIfInBounds i true) a w)->K' a w)->if Region.wanted oi (yielded l.toArray a.tmps)=true then Oper.wp P oi a w K' Q else K' (a.put oi.dst undef) w)
  (h2:∀ K':Act->World->Prop,Shut (∀ a w,S w->(S w->EndsMk P md l Q S k fuel (listed.setIfInBounds j true) a w)->K' a w)->if Region.wanted oj (yielded l.toArray a.tmps)=true then Oper.wp P oj a w K' Q else K' (a.put oj.dst undef) w) :
  EndsMk P md l Q S k (fuel+1) listed a w:=by
 refine ⟨fun h0=>(by rw [hr] at h0; cases h0),fun q hq=>?_⟩
 rw [hr] at hq
 rcases List.mem_cons.1 hq with rfl | hq
 ·exact wpOp_step (by simpa using hi) (fun K' hK=>h1 K' (fun a w hS hW=>hK a w ⟨fun _ _=>hS,hW hS⟩))
 ·obtain rfl:=List.mem_singleton.1 hq
  exact wpOp_step (by simpa using hj) (fun K' hK=>h2 K' (fun a w hS hW=>hK a w ⟨fun _ _=>hS,hW hS⟩))
theorem mthree (i j m:Nat) {oi oj om:Oper} {fuel:Nat} {listed:Array Bool} {a:Act} {w:World} (hi:l[i]?=some oi) (hj:l[j]?=some oj) (hm:l[m]?=some om) (hr:Region.ready md l.toArray listed=[i,j,m])
  (h1:∀ K':Act->World->Prop,Shut (∀ a w,S w->(S w->EndsMk P md l Q S k fuel (listed.setIfInBounds i true) a w)->K' a w)->if Region.wanted oi (yielded l.toArray a.tmps)=true then Oper.wp P oi a w K' Q else K' (a.put oi.dst undef) w)
  (h2:∀ K':Act->World->Prop,Shut (∀ a w,S w->(S w->EndsMk P md l Q S k fuel (listed.setIfInBounds j true) a w)->K' a w)->if Region.wanted oj (yielded l.toArray a.tmps)=true then Oper.wp P oj a w K' Q else K' (a.put oj.dst undef) w)
  (h3:∀ K':Act->World->Prop,Shut (∀ a w,S w->(S w->EndsMk P md l Q S k fuel (listed.setIfInBounds m true) a w)->K' a w)->if Region.wanted om (yielded l.toArray a.tmps)=true then Oper.wp P om a w K' Q else K' (a.put om.dst undef) w) :
  EndsMk P md l Q S k (fuel+1) listed a w:=by
 refine ⟨fun h0=>(by rw [hr] at h0; cases h0),fun q hq=>?_⟩
 rw [hr] at hq
 rcases List.mem_cons.1 hq with rfl | hq
 ·exact wpOp_step (by simpa using hi) (fun K' hK=>h1 K' (fun a w hS hW=>hK a w ⟨fun _ _=>hS,hW hS⟩))
 ·rcases List.mem_cons.1 hq with rfl | hq
  ·exact wpOp_step (by simpa using hj) (fun K' hK=>h2 K' (fun a w hS hW=>hK a w ⟨fun _ _=>hS,hW hS⟩))
  ·obtain rfl:=List.mem_singleton.1 hq
   exact wpOp_step (by simpa using hm) (fun K' hK=>h3 K' (fun a w hS hW=>hK a w ⟨fun _ _=>hS,hW hS⟩))
end
structure BoxN (w0 W:World) (s:Nat):Prop where
 box:BoxI W s false (.slice none 0 0)
 low:w0.heap.size<=s
theorem BoxN.new {w0 W:World} {s:Nat} (hl:w0.heap.size<=s) (h:BoxI W s false (.slice none 0 0)):BoxN w0 W s:=⟨h,hl⟩
theorem BoxN.keep {w0 W W':World} {s:Nat} (h:BoxN w0 W s) (hx:XF W W'):BoxN w0 W' s:=⟨h.box.ext hx id,h.low⟩
theorem floor_mk {z:Int} {d:Nat} (h:0<d):(mkRat z d).floor=z / (d:Int):=by
 have hd:(0:Rat)<(d:Rat):=by exact_mod_cast h
 have hdi:(0:Int)<(d:Int):=by omega
 have key:∀ x:Int,x<=(mkRat z d).floor↔x<=z / (d:Int):=fun x=>by
  rw [Rat.le_floor_iff,Int.le_ediv_iff_mul_le hdi,Rat.mkRat_eq_div]
  rw [<- Rat.not_lt,<- Int.not_lt,Rat.div_lt_iff hd,<- Rat.intCast_natCast,<- Rat.intCast_mul,Rat.intCast_lt_intCast]
 exact Int.le_antisymm ((key _).1 (Int.le_refl _)) ((key _).2 (Int.le_refl _))
theorem floor_len {q:Rat} {L:Nat} (h:Sz q L):(dg q.floor.natAbs).length<=L+1:=by
 rw [Rat.floor_def]
 exact ediv_len (by have:=q.den_pos; omega) h.1
theorem rfloor_any (w:World) (v:Value) (q:Rat) (L:Nat) (h:Rrat w v q L) (h0:1<=L) (hL:L<=4194304) :
  Calls Tryz.prog 120 #[v] w (IntPost w q.floor):=by
 obtain ⟨n1,a1,l1,c1,x1,y1,k1,l,d,rfl,hr,hd,hm,hdl,hq⟩:=h.open
 clear hm
 have HDn:=bH (fun W (hW:XF w W)=>den_any W _ n1 a1 l1 c1 x1 y1 k1 d L rfl (hd.keep hW) hdl (by omega) h0)
 have HFl:=bH (fun W (hW:XF w W) u (hu:Rint W u ((dn (vl d):Nat):Int) L)=>floor_any W _ u _ _ L (hr.keep hW) hu (by have:=dn_pos (vl d); omega) (by omega))
 unfold FloorPost at HFl
 rw [<- floor_mk (dn_pos _),<- hq] at HFl
 clear hr hd hdl hq h
 generalize q.floor=z at *
 generalize ((dn (vl d):Nat):Int)=D at *
 generalize sg n1 (vl l) - z*D=y at *
 go_enter Tryz.func120,Tryz.ntmps120
 go_upto_region 0 with fail
 go_cut [1,2] (fun v1 v2 wx=>∃ b1 r,v1=.pointer (some ⟨b1,0,none⟩)/\v2=.pointer (some ⟨r,0,none⟩)/\BoxR wx b1 n1 (.slice a1 l1 c1) (.slice x1 y1 k1)/\BoxI wx r false (.slice none 0 0)/\¬ b1=r/\w.heap.size<=r/\XF w wx)
 case first =>
  go_wp2
  go_meet
  exact ⟨_,_,rfl,rfl,(boxR_new rfl n1 a1 l1 c1 x1 y1 k1).alloc _,boxI_new (by simp) false none 0 0,(by omega),(by omega),((Ext.refl _ w).alloc _).alloc _⟩
 case rest =>
  obtain ⟨b1,r,rfl,rfl,hb1,hrb,i1,hle,hx⟩:=hcut
  obtain ⟨wq,rfl⟩:∃ x,x=wc:=⟨_,rfl⟩
  have HB:=bH (bI hb1 (bI hrb hx))
  clear hb1 hrb hx
  replace HDn:=bH (fun W (hW:XF wq W)=>HDn.out W (HB.out.2.2.trans hW))
  replace HFl:=bH (fun W (hW:XF wq W)=>HFl.out W (HB.out.2.2.trans hW))
  have b0:=cq HB.out.1.facts.1
  have b1':=cq HB.out.1.facts.2.1
  have b2:=cq HB.out.1.facts.2.2.1
  go_upto_region 1 with fail
  go_cut [3] (fun v3 wx=>∃ s9 ng qo qn qc,v3=.pointer (some ⟨s9,0,none⟩)/\BoxI wx s9 ng (.slice qo qn qc)/\IsInt wx (.agg #[.bool ng,.slice qo qn qc]) z/\XF wq wx)
  case first =>
   refine mbegin 11 (XF wq) (by kernel_rfl) ((Ext.refl _ wq).drew) (fun hHeld=>?_)
   refine mu 0 (h:=(mu 1 (h:=(mu 2 (h:=?_)))))
   (try go_frame)
   refine mthree 3 9 10 rfl rfl rfl (by kernel_rfl) (fun K hK=>?_) (fun K hK=>?_) (fun K hK=>?_)
   ·go_simp
    go_at_call 133
    with_reducible refine (HDn.out _ ((Ext.refl _ wq).drew)).mono ?_
    rintro r0 u0 ⟨v3,rfl,h3,hy⟩
    have HV3:=bH h3
    clear h3
    replace hy:=(Ext.refl (fun _=>False) wq).drew.trans hy
    have hx0:XF wq u0:=hy
    clear hy
    refine hK.out _ _ (hx0) (fun hHeld=>?_)
    clear hK K
    (try go_frame)
    refine mthree 4 9 10 rfl rfl rfl (by kernel_rfl) (fun K hK=>?_) (fun K hK=>?_) (fun K hK=>?_)
    ·go_simp
     go_at_call 174
     with_reducible refine (HFl.out _ (hx0) _ HV3.out).mono ?_
     rintro r1 u1 ⟨q4,m4,rfl,h4,hm4,hy⟩
     obtain ⟨ng,qo,qn,qc,rfl⟩:=h4.shape
     obtain ⟨mg,mo,mn,mc,rfl⟩:=hm4.shape
     have HQ4:=bH h4
     have HM4:=bH hm4
     clear h4 hm4
     replace HV3:=bH (HV3.out.keep hy)
     have hx1:XF wq u1:=hx0.trans hy
     clear hy
     refine hK.out _ _ (hx1) (fun hHeld=>?_)
     clear hK K
     (try go_frame)
     refine mu 5 (h:=(mu 6 (h:=(mf 7 (h:=(mf 8 (h:=?_)))))))
     (try go_frame)
     refine mtwo 9 10 rfl rfl (by kernel_rfl) (fun K hK=>?_) (fun K hK=>?_)
     ·go_simp
      have hy:XF u1 ((u1.alloc (.cells #[.bool false,.slice none 0 0] 62))):=((Ext.refl (fun _=>False) u1).alloc (.cells #[.bool false,.slice none 0 0] 62))
      have HO9:=bH (BoxN.new (w0:=wq) (W:=(u1.alloc (.cells #[.bool false,.slice none 0 0] 62))) hx1.size (show BoxI ((u1.alloc (.cells #[.bool false,.slice none 0 0] 62))) u1.heap.size false (.slice none 0 0) from boxI_new (W:=u1) rfl false none 0 0))
      have hx2:XF wq ((u1.alloc (.cells #[.bool false,.slice none 0 0] 62))):=hx1.trans hy
      replace HV3:=bH (HV3.out.keep hy)
      replace HQ4:=bH (HQ4.out.keep hy)
      replace HM4:=bH (HM4.out.keep hy)
      clear hy
      generalize (u1.alloc (.cells #[.bool false,.slice none 0 0] 62))=u2 at *
      generalize u1.heap.size=s9 at *
      refine hK.out _ _ (hx2) (fun hHeld=>?_)
      clear hK K
      (try go_frame)
      refine mst 10 (h:=fun K hK=>?_)
      go_simp
      have hy:XF u2 ((u2.alloc (.cells #[.bool false,.slice none 0 0] 62))):=((Ext.refl (fun _=>False) u2).alloc (.cells #[.bool false,.slice none 0 0] 62))
      have HO10:=bH (BoxN.new (w0:=wq) (W:=(u2.alloc (.cells #[.bool false,.slice none 0 0] 62))) hx2.size (show BoxI ((u2.alloc (.cells #[.bool false,.slice none 0 0] 62))) u2.heap.size false (.slice none 0 0) from boxI_new (W:=u2) rfl false none 0 0))
      have HNE:=bH (show s9≠u2.heap.size from Nat.ne_of_lt HO9.out.box.lt)
      have hx3:XF wq ((u2.alloc (.cells #[.bool false,.slice none 0 0] 62))):=hx2.trans hy
      replace HV3:=bH (HV3.out.keep hy)
      replace HQ4:=bH (HQ4.out.keep hy)
      replace HM4:=bH (HM4.out.keep hy)
      replace HO9:=bH (HO9.out.keep hy)
      clear hy
      generalize (u2.alloc (.cells #[.bool false,.slice none 0 0] 62))=u3 at *
      generalize u2.heap.size=s10 at *
      refine hK.out _ _ (hx3) (fun hHeld=>?_)
      clear hK K
      (try go_frame)
      obtain ⟨c0,c1,c2,c3⟩:=HO9.out.box.facts
      obtain ⟨d0,d1,d2,d3⟩:=HO10.out.box.facts
      refine ml 11 (h:=fun K hK=>?_)
      go_simp
      refine hK.out _ _ ?_
      clear hK K
      (try go_frame)
      have hp9:=HO9.out.box.put (neg:=ng) (no_int qo qn qc)
      obtain ⟨e0,e1,e2,e3⟩:=(HO10.out.box.ext hp9.ext (fun e=>HNE.out e.symm)).facts
      refine ml 12 (h:=fun K hK=>?_)
      go_simp
      refine hK.out _ _ ?_
      clear hK K
      (try go_frame)
      have hp9:=HO9.out.box.put (neg:=ng) (no_int qo qn qc)
      obtain ⟨e0,e1,e2,e3⟩:=(HO10.out.box.ext hp9.ext (fun e=>HNE.out e.symm)).facts
      refine ml 13 (h:=fun K hK=>?_)
      go_simp
      refine hK.out _ _ ?_
      clear hK K
      (try go_frame)
      refine mdone (by kernel_rfl) ?_ _
      have hp10:=(HO10.out.box.ext hp9.ext (fun e=>HNE.out e.symm)).put (neg:=mg) (no_int mo mn mc)
      go_wp2
      go_meet
      exact ⟨s9,ng,qo,qn,qc,rfl,hp9.box.ext hp10.ext HNE.out,hp10.int (hp9.int HQ4.out),(hx3.own hp9.ext (fun k e=>by rw [e]; exact HO9.out.low)).own hp10.ext (fun k e=>by rw [e]; exact HO10.out.low)⟩
     ·go_simp
      have hy:XF u1 ((u1.alloc (.cells #[.bool false,.slice none 0 0] 62))):=((Ext.refl (fun _=>False) u1).alloc (.cells #[.bool false,.slice none 0 0] 62))
      have HO10:=bH (BoxN.new (w0:=wq) (W:=(u1.alloc (.cells #[.bool false,.slice none 0 0] 62))) hx1.size (show BoxI ((u1.alloc (.cells #[.bool false,.slice none 0 0] 62))) u1.heap.size false (.slice none 0 0) from boxI_new (W:=u1) rfl false none 0 0))
      have hx2:XF wq ((u1.alloc (.cells #[.bool false,.slice none 0 0] 62))):=hx1.trans hy
      replace HV3:=bH (HV3.out.keep hy)
      replace HQ4:=bH (HQ4.out.keep hy)
      replace HM4:=bH (HM4.out.keep hy)
      clear hy
      generalize (u1.alloc (.cells #[.bool false,.slice none 0 0] 62))=u2 at *
      generalize u1.heap.size=s10 at *
      refine hK.out _ _ (hx2) (fun hHeld=>?_)
      clear hK K
      (try go_frame)
      refine mst 9 (h:=fun K hK=>?_)
      go_simp
      have hy:XF u2 ((u2.alloc (.cells #[.bool false,.slice none 0 0] 62))):=((Ext.refl (fun _=>False) u2).alloc (.cells #[.bool false,.slice none 0 0] 62))
      have HO9:=bH (BoxN.new (w0:=wq) (W:=(u2.alloc (.cells #[.bool false,.slice none 0 0] 62))) hx2.size (show BoxI ((u2.alloc (.cells #[.bool false,.slice none 0 0] 62))) u2.heap.size false (.slice none 0 0) from boxI_new (W:=u2) rfl false none 0 0))
      have HNE:=bH (show s10≠u2.heap.size from Nat.ne_of_lt HO10.out.box.lt)
      have hx3:XF wq ((u2.alloc (.cells #[.bool false,.slice none 0 0] 62))):=hx2.trans hy
      replace HV3:=bH (HV3.out.keep hy)
      replace HQ4:=bH (HQ4.out.keep hy)
      replace HM4:=bH (HM4.out.keep hy)
      replace HO10:=bH (HO10.out.keep hy)
      clear hy
      generalize (u2.alloc (.cells #[.bool false,.slice none 0 0] 62))=u3 at *
      generalize u2.heap.size=s9 at *
      replace HNE:=bH (Ne.symm HNE.out)
      refine hK.out _ _ (hx3) (fun hHeld=>?_)
      clear hK K
      (try go_frame)
      obtain ⟨c0,c1,c2,c3⟩:=HO9.out.box.facts
      obtain ⟨d0,d1,d2,d3⟩:=HO10.out.box.facts
      refine ml 11 (h:=fun K hK=>?_)
      go_simp
      refine hK.out _ _ ?_
      clear hK K
      (try go_frame)
      have hp9:=HO9.out.box.put (neg:=ng) (no_int qo qn qc)
      obtain ⟨e0,e1,e2,e3⟩:=(HO10.out.box.ext hp9.ext (fun e=>HNE.out e.symm)).facts
      refine ml 12 (h:=fun K hK=>?_)
      go_simp
      refine hK.out _ _ ?_
      clear hK K
      (try go_frame)
      have hp9:=HO9.out.box.put (neg:=ng) (no_int qo qn qc)
      obtain ⟨e0,e1,e2,e3⟩:=(HO10.out.box.ext hp9.ext (fun e=>HNE.out e.symm)).facts
      refine ml 13 (h:=fun K hK=>?_)
      go_simp
      refine hK.out _ _ ?_
      clear hK K
      (try go_frame)
      refine mdone (by kernel_rfl) ?_ _
      have hp10:=(HO10.out.box.ext hp9.ext (fun e=>HNE.out e.symm)).put (neg:=mg) (no_int mo mn mc)
      go_wp2
      go_meet
      exact ⟨s9,ng,qo,qn,qc,rfl,hp9.box.ext hp10.ext HNE.out,hp10.int (hp9.int HQ4.out),(hx3.own hp9.ext (fun k e=>by rw [e]; exact HO9.out.low)).own hp10.ext (fun k e=>by rw [e]; exact HO10.out.low)⟩
    ·go_simp
     have hy:XF u0 ((u0.alloc (.cells #[.bool false,.slice none 0 0] 62))):=((Ext.refl (fun _=>False) u0).alloc (.cells #[.bool false,.slice none 0 0] 62))
     have HO9:=bH (BoxN.new (w0:=wq) (W:=(u0.alloc (.cells #[.bool false,.slice none 0 0] 62))) hx0.size (show BoxI ((u0.alloc (.cells #[.bool false,.slice none 0 0] 62))) u0.heap.size false (.slice none 0 0) from boxI_new (W:=u0) rfl false none 0 0))
     have hx1:XF wq ((u0.alloc (.cells #[.bool false,.slice none 0 0] 62))):=hx0.trans hy
     replace HV3:=bH (HV3.out.keep hy)
     clear hy
     generalize (u0.alloc (.cells #[.bool false,.slice none 0 0] 62))=u1 at *
     generalize u0.heap.size=s9 at *
     refine hK.out _ _ (hx1) (fun hHeld=>?_)
     clear hK K
     (try go_frame)
     refine mtwo 4 10 rfl rfl (by kernel_rfl) (fun K hK=>?_) (fun K hK=>?_)
     ·go_simp
      go_at_call 174
      with_reducible refine (HFl.out _ (hx1) _ HV3.out).mono ?_
      rintro r2 u2 ⟨q4,m4,rfl,h4,hm4,hy⟩
      obtain ⟨ng,qo,qn,qc,rfl⟩:=h4.shape
      obtain ⟨mg,mo,mn,mc,rfl⟩:=hm4.shape
      have HQ4:=bH h4
      have HM4:=bH hm4
      clear h4 hm4
      replace HV3:=bH (HV3.out.keep hy)
      replace HO9:=bH (HO9.out.keep hy)
      have hx2:XF wq u2:=hx1.trans hy
      clear hy
      refine hK.out _ _ (hx2) (fun hHeld=>?_)
      clear hK K
      (try go_frame)
      refine mu 5 (h:=(mu 6 (h:=(mf 7 (h:=(mf 8 (h:=?_)))))))
      (try go_frame)
      refine mst 10 (h:=fun K hK=>?_)
      go_simp
      have hy:XF u2 ((u2.alloc (.cells #[.bool false,.slice none 0 0] 62))):=((Ext.refl (fun _=>False) u2).alloc (.cells #[.bool false,.slice none 0 0] 62))
      have HO10:=bH (BoxN.new (w0:=wq) (W:=(u2.alloc (.cells #[.bool false,.slice none 0 0] 62))) hx2.size (show BoxI ((u2.alloc (.cells #[.bool false,.slice none 0 0] 62))) u2.heap.size false (.slice none 0 0) from boxI_new (W:=u2) rfl false none 0 0))
      have HNE:=bH (show s9≠u2.heap.size from Nat.ne_of_lt HO9.out.box.lt)
      have hx3:XF wq ((u2.alloc (.cells #[.bool false,.slice none 0 0] 62))):=hx2.trans hy
      replace HV3:=bH (HV3.out.keep hy)
      replace HO9:=bH (HO9.out.keep hy)
      replace HQ4:=bH (HQ4.out.keep hy)
      replace HM4:=bH (HM4.out.keep hy)
      clear hy
      generalize (u2.alloc (.cells #[.bool false,.slice none 0 0] 62))=u3 at *
      generalize u2.heap.size=s10 at *
      refine hK.out _ _ (hx3) (fun hHeld=>?_)
      clear hK K
      (try go_frame)
      obtain ⟨c0,c1,c2,c3⟩:=HO9.out.box.facts
      obtain ⟨d0,d1,d2,d3⟩:=HO10.out.box.facts
      refine ml 11 (h:=fun K hK=>?_)
      go_simp
      refine hK.out _ _ ?_
      clear hK K
      (try go_frame)
      have hp9:=HO9.out.box.put (neg:=ng) (no_int qo qn qc)
      obtain ⟨e0,e1,e2,e3⟩:=(HO10.out.box.ext hp9.ext (fun e=>HNE.out e.symm)).facts
      refine ml 12 (h:=fun K hK=>?_)
      go_simp
      refine hK.out _ _ ?_
      clear hK K
      (try go_frame)
      have hp9:=HO9.out.box.put (neg:=ng) (no_int qo qn qc)
      obtain ⟨e0,e1,e2,e3⟩:=(HO10.out.box.ext hp9.ext (fun e=>HNE.out e.symm)).facts
      refine ml 13 (h:=fun K hK=>?_)
      go_simp
      refine hK.out _ _ ?_
      clear hK K
      (try go_frame)
      refine mdone (by kernel_rfl) ?_ _
      have hp10:=(HO10.out.box.ext hp9.ext (fun e=>HNE.out e.symm)).put (neg:=mg) (no_int mo mn mc)
      go_wp2
      go_meet
      exact ⟨s9,ng,qo,qn,qc,rfl,hp9.box.ext hp10.ext HNE.out,hp10.int (hp9.int HQ4.out),(hx3.own hp9.ext (fun k e=>by rw [e]; exact HO9.out.low)).own hp10.ext (fun k e=>by rw [e]; exact HO10.out.low)⟩
     ·go_simp
      have hy:XF u1 ((u1.alloc (.cells #[.bool false,.slice none 0 0] 62))):=((Ext.refl (fun _=>False) u1).alloc (.cells #[.bool false,.slice none 0 0] 62))
      have HO10:=bH (BoxN.new (w0:=wq) (W:=(u1.alloc (.cells #[.bool false,.slice none 0 0] 62))) hx1.size (show BoxI ((u1.alloc (.cells #[.bool false,.slice none 0 0] 62))) u1.heap.size false (.slice none 0 0) from boxI_new (W:=u1) rfl false none 0 0))
      have HNE:=bH (show s9≠u1.heap.size from Nat.ne_of_lt HO9.out.box.lt)
      have hx2:XF wq ((u1.alloc (.cells #[.bool false,.slice none 0 0] 62))):=hx1.trans hy
      replace HV3:=bH (HV3.out.keep hy)
      replace HO9:=bH (HO9.out.keep hy)
      clear hy
      generalize (u1.alloc (.cells #[.bool false,.slice none 0 0] 62))=u2 at *
      generalize u1.heap.size=s10 at *
      refine hK.out _ _ (hx2) (fun hHeld=>?_)
      clear hK K
      (try go_frame)
      refine mst 4 (h:=fun K hK=>?_)
      go_simp
      go_at_call 174
      with_reducible refine (HFl.out _ (hx2) _ HV3.out).mono ?_
      rintro r3 u3 ⟨q4,m4,rfl,h4,hm4,hy⟩
      obtain ⟨ng,qo,qn,qc,rfl⟩:=h4.shape
      obtain ⟨mg,mo,mn,mc,rfl⟩:=hm4.shape
      have HQ4:=bH h4
      have HM4:=bH hm4
      clear h4 hm4
      replace HV3:=bH (HV3.out.keep hy)
      replace HO9:=bH (HO9.out.keep hy)
      replace HO10:=bH (HO10.out.keep hy)
      have hx3:XF wq u3:=hx2.trans hy
      clear hy
      refine hK.out _ _ (hx3) (fun hHeld=>?_)
      clear hK K
      (try go_frame)
      refine mu 5 (h:=(mu 6 (h:=(mf 7 (h:=(mf 8 (h:=?_)))))))
      (try go_frame)
      obtain ⟨c0,c1,c2,c3⟩:=HO9.out.box.facts
      obtain ⟨d0,d1,d2,d3⟩:=HO10.out.box.facts
      refine ml 11 (h:=fun K hK=>?_)
      go_simp
      refine hK.out _ _ ?_
      clear hK K
      (try go_frame)
      have hp9:=HO9.out.box.put (neg:=ng) (no_int qo qn qc)
      obtain ⟨e0,e1,e2,e3⟩:=(HO10.out.box.ext hp9.ext (fun e=>HNE.out e.symm)).facts
      refine ml 12 (h:=fun K hK=>?_)
      go_simp
      refine hK.out _ _ ?_
      clear hK K
      (try go_frame)
      have hp9:=HO9.out.box.put (neg:=ng) (no_int qo qn qc)
      obtain ⟨e0,e1,e2,e3⟩:=(HO10.out.box.ext hp9.ext (fun e=>HNE.out e.symm)).facts
      refine ml 13 (h:=fun K hK=>?_)
      go_simp
      refine hK.out _ _ ?_
      clear hK K
      (try go_frame)
      refine mdone (by kernel_rfl) ?_ _
      have hp10:=(HO10.out.box.ext hp9.ext (fun e=>HNE.out e.symm)).put (neg:=mg) (no_int mo mn mc)
      go_wp2
      go_meet
      exact ⟨s9,ng,qo,qn,qc,rfl,hp9.box.ext hp10.ext HNE.out,hp10.int (hp9.int HQ4.out),(hx3.own hp9.ext (fun k e=>by rw [e]; exact HO9.out.low)).own hp10.ext (fun k e=>by rw [e]; exact HO10.out.low)⟩
    ·go_simp
     have hy:XF u0 ((u0.alloc (.cells #[.bool false,.slice none 0 0] 62))):=((Ext.refl (fun _=>False) u0).alloc (.cells #[.bool false,.slice none 0 0] 62))
     have HO10:=bH (BoxN.new (w0:=wq) (W:=(u0.alloc (.cells #[.bool false,.slice none 0 0] 62))) hx0.size (show BoxI ((u0.alloc (.cells #[.bool false,.slice none 0 0] 62))) u0.heap.size false (.slice none 0 0) from boxI_new (W:=u0) rfl false none 0 0))
     have hx1:XF wq ((u0.alloc (.cells #[.bool false,.slice none 0 0] 62))):=hx0.trans hy
     replace HV3:=bH (HV3.out.keep hy)
     clear hy
     generalize (u0.alloc (.cells #[.bool false,.slice none 0 0] 62))=u1 at *
     generalize u0.heap.size=s10 at *
     refine hK.out _ _ (hx1) (fun hHeld=>?_)
     clear hK K
     (try go_frame)
     refine mtwo 4 9 rfl rfl (by kernel_rfl) (fun K hK=>?_) (fun K hK=>?_)
     ·go_simp
      go_at_call 174
      with_reducible refine (HFl.out _ (hx1) _ HV3.out).mono ?_
      rintro r2 u2 ⟨q4,m4,rfl,h4,hm4,hy⟩
      obtain ⟨ng,qo,qn,qc,rfl⟩:=h4.shape
      obtain ⟨mg,mo,mn,mc,rfl⟩:=hm4.shape
      have HQ4:=bH h4
      have HM4:=bH hm4
      clear h4 hm4
      replace HV3:=bH (HV3.out.keep hy)
      replace HO10:=bH (HO10.out.keep hy)
      have hx2:XF wq u2:=hx1.trans hy
      clear hy
      refine hK.out _ _ (hx2) (fun hHeld=>?_)
      clear hK K
      (try go_frame)
      refine mu 5 (h:=(mu 6 (h:=(mf 7 (h:=(mf 8 (h:=?_)))))))
      (try go_frame)
      refine mst 9 (h:=fun K hK=>?_)
      go_simp
      have hy:XF u2 ((u2.alloc (.cells #[.bool false,.slice none 0 0] 62))):=((Ext.refl (fun _=>False) u2).alloc (.cells #[.bool false,.slice none 0 0] 62))
      have HO9:=bH (BoxN.new (w0:=wq) (W:=(u2.alloc (.cells #[.bool false,.slice none 0 0] 62))) hx2.size (show BoxI ((u2.alloc (.cells #[.bool false,.slice none 0 0] 62))) u2.heap.size false (.slice none 0 0) from boxI_new (W:=u2) rfl false none 0 0))
      have HNE:=bH (show s10≠u2.heap.size from Nat.ne_of_lt HO10.out.box.lt)
      have hx3:XF wq ((u2.alloc (.cells #[.bool false,.slice none 0 0] 62))):=hx2.trans hy
      replace HV3:=bH (HV3.out.keep hy)
      replace HO10:=bH (HO10.out.keep hy)
      replace HQ4:=bH (HQ4.out.keep hy)
      replace HM4:=bH (HM4.out.keep hy)
      clear hy
      generalize (u2.alloc (.cells #[.bool false,.slice none 0 0] 62))=u3 at *
      generalize u2.heap.size=s9 at *
      replace HNE:=bH (Ne.symm HNE.out)
      refine hK.out _ _ (hx3) (fun hHeld=>?_)
      clear hK K
      (try go_frame)
      obtain ⟨c0,c1,c2,c3⟩:=HO9.out.box.facts
      obtain ⟨d0,d1,d2,d3⟩:=HO10.out.box.facts
      refine ml 11 (h:=fun K hK=>?_)
      go_simp
      refine hK.out _ _ ?_
      clear hK K
      (try go_frame)
      have hp9:=HO9.out.box.put (neg:=ng) (no_int qo qn qc)
      obtain ⟨e0,e1,e2,e3⟩:=(HO10.out.box.ext hp9.ext (fun e=>HNE.out e.symm)).facts
      refine ml 12 (h:=fun K hK=>?_)
      go_simp
      refine hK.out _ _ ?_
      clear hK K
      (try go_frame)
      have hp9:=HO9.out.box.put (neg:=ng) (no_int qo qn qc)
      obtain ⟨e0,e1,e2,e3⟩:=(HO10.out.box.ext hp9.ext (fun e=>HNE.out e.symm)).facts
      refine ml 13 (h:=fun K hK=>?_)
      go_simp
      refine hK.out _ _ ?_
      clear hK K
      (try go_frame)
      refine mdone (by kernel_rfl) ?_ _
      have hp10:=(HO10.out.box.ext hp9.ext (fun e=>HNE.out e.symm)).put (neg:=mg) (no_int mo mn mc)
      go_wp2
      go_meet
      exact ⟨s9,ng,qo,qn,qc,rfl,hp9.box.ext hp10.ext HNE.out,hp10.int (hp9.int HQ4.out),(hx3.own hp9.ext (fun k e=>by rw [e]; exact HO9.out.low)).own hp10.ext (fun k e=>by rw [e]; exact HO10.out.low)⟩
     ·go_simp
      have hy:XF u1 ((u1.alloc (.cells #[.bool false,.slice none 0 0] 62))):=((Ext.refl (fun _=>False) u1).alloc (.cells #[.bool false,.slice none 0 0] 62))
      have HO9:=bH (BoxN.new (w0:=wq) (W:=(u1.alloc (.cells #[.bool false,.slice none 0 0] 62))) hx1.size (show BoxI ((u1.alloc (.cells #[.bool false,.slice none 0 0] 62))) u1.heap.size false (.slice none 0 0) from boxI_new (W:=u1) rfl false none 0 0))
      have HNE:=bH (show s10≠u1.heap.size from Nat.ne_of_lt HO10.out.box.lt)
      have hx2:XF wq ((u1.alloc (.cells #[.bool false,.slice none 0 0] 62))):=hx1.trans hy
      replace HV3:=bH (HV3.out.keep hy)
      replace HO10:=bH (HO10.out.keep hy)
      clear hy
      generalize (u1.alloc (.cells #[.bool false,.slice none 0 0] 62))=u2 at *
      generalize u1.heap.size=s9 at *
      replace HNE:=bH (Ne.symm HNE.out)
      refine hK.out _ _ (hx2) (fun hHeld=>?_)
      clear hK K
      (try go_frame)
      refine mst 4 (h:=fun K hK=>?_)
      go_simp
      go_at_call 174
      with_reducible refine (HFl.out _ (hx2) _ HV3.out).mono ?_
      rintro r3 u3 ⟨q4,m4,rfl,h4,hm4,hy⟩
      obtain ⟨ng,qo,qn,qc,rfl⟩:=h4.shape
      obtain ⟨mg,mo,mn,mc,rfl⟩:=hm4.shape
      have HQ4:=bH h4
      have HM4:=bH hm4
      clear h4 hm4
      replace HV3:=bH (HV3.out.keep hy)
      replace HO10:=bH (HO10.out.keep hy)
      replace HO9:=bH (HO9.out.keep hy)
      have hx3:XF wq u3:=hx2.trans hy
      clear hy
      refine hK.out _ _ (hx3) (fun hHeld=>?_)
      clear hK K
      (try go_frame)
      refine mu 5 (h:=(mu 6 (h:=(mf 7 (h:=(mf 8 (h:=?_)))))))
      (try go_frame)
      obtain ⟨c0,c1,c2,c3⟩:=HO9.out.box.facts
      obtain ⟨d0,d1,d2,d3⟩:=HO10.out.box.facts
      refine ml 11 (h:=fun K hK=>?_)
      go_simp
      refine hK.out _ _ ?_
      clear hK K
      (try go_frame)
      have hp9:=HO9.out.box.put (neg:=ng) (no_int qo qn qc)
      obtain ⟨e0,e1,e2,e3⟩:=(HO10.out.box.ext hp9.ext (fun e=>HNE.out e.symm)).facts
      refine ml 12 (h:=fun K hK=>?_)
      go_simp
      refine hK.out _ _ ?_
      clear hK K
      (try go_frame)
      have hp9:=HO9.out.box.put (neg:=ng) (no_int qo qn qc)
      obtain ⟨e0,e1,e2,e3⟩:=(HO10.out.box.ext hp9.ext (fun e=>HNE.out e.symm)).facts
      refine ml 13 (h:=fun K hK=>?_)
      go_simp
      refine hK.out _ _ ?_
      clear hK K
      (try go_frame)
      refine mdone (by kernel_rfl) ?_ _
      have hp10:=(HO10.out.box.ext hp9.ext (fun e=>HNE.out e.symm)).put (neg:=mg) (no_int mo mn mc)
      go_wp2
      go_meet
      exact ⟨s9,ng,qo,qn,qc,rfl,hp9.box.ext hp10.ext HNE.out,hp10.int (hp9.int HQ4.out),(hx3.own hp9.ext (fun k e=>by rw [e]; exact HO9.out.low)).own hp10.ext (fun k e=>by rw [e]; exact HO10.out.low)⟩
   ·go_simp
    have hy:XF wq ((wq.alloc (.cells #[.bool false,.slice none 0 0] 62)).drew):=((Ext.refl (fun _=>False) wq).alloc (.cells #[.bool false,.slice none 0 0] 62)).drew
    have HO9:=bH (BoxN.new (w0:=wq) (W:=(wq.alloc (.cells #[.bool false,.slice none 0 0] 62)).drew) (Ext.refl (fun _=>False) wq).size (show BoxI ((wq.alloc (.cells #[.bool false,.slice none 0 0] 62)).drew) wq.heap.size false (.slice none 0 0) from boxI_new (W:=wq) rfl false none 0 0))
    have hx0:XF wq ((wq.alloc (.cells #[.bool false,.slice none 0 0] 62)).drew):=hy
    clear hy
    generalize (wq.alloc (.cells #[.bool false,.slice none 0 0] 62)).drew=u0 at *
    generalize wq.heap.size=s9 at *
    refine hK.out _ _ (hx0) (fun hHeld=>?_)
    clear hK K
    (try go_frame)
    refine mtwo 3 10 rfl rfl (by kernel_rfl) (fun K hK=>?_) (fun K hK=>?_)
    ·go_simp
     go_at_call 133
     with_reducible refine (HDn.out _ (hx0)).mono ?_
     rintro r1 u1 ⟨v3,rfl,h3,hy⟩
     have HV3:=bH h3
     clear h3
     replace HO9:=bH (HO9.out.keep hy)
     have hx1:XF wq u1:=hx0.trans hy
     clear hy
     refine hK.out _ _ (hx1) (fun hHeld=>?_)
     clear hK K
     (try go_frame)
     refine mtwo 4 10 rfl rfl (by kernel_rfl) (fun K hK=>?_) (fun K hK=>?_)
     ·go_simp
      go_at_call 174
      with_reducible refine (HFl.out _ (hx1) _ HV3.out).mono ?_
      rintro r2 u2 ⟨q4,m4,rfl,h4,hm4,hy⟩
      obtain ⟨ng,qo,qn,qc,rfl⟩:=h4.shape
      obtain ⟨mg,mo,mn,mc,rfl⟩:=hm4.shape
      have HQ4:=bH h4
      have HM4:=bH hm4
      clear h4 hm4
      replace HO9:=bH (HO9.out.keep hy)
      replace HV3:=bH (HV3.out.keep hy)
      have hx2:XF wq u2:=hx1.trans hy
      clear hy
      refine hK.out _ _ (hx2) (fun hHeld=>?_)
      clear hK K
      (try go_frame)
      refine mu 5 (h:=(mu 6 (h:=(mf 7 (h:=(mf 8 (h:=?_)))))))
      (try go_frame)
      refine mst 10 (h:=fun K hK=>?_)
      go_simp
      have hy:XF u2 ((u2.alloc (.cells #[.bool false,.slice none 0 0] 62))):=((Ext.refl (fun _=>False) u2).alloc (.cells #[.bool false,.slice none 0 0] 62))
      have HO10:=bH (BoxN.new (w0:=wq) (W:=(u2.alloc (.cells #[.bool false,.slice none 0 0] 62))) hx2.size (show BoxI ((u2.alloc (.cells #[.bool false,.slice none 0 0] 62))) u2.heap.size false (.slice none 0 0) from boxI_new (W:=u2) rfl false none 0 0))
      have HNE:=bH (show s9≠u2.heap.size from Nat.ne_of_lt HO9.out.box.lt)
      have hx3:XF wq ((u2.alloc (.cells #[.bool false,.slice none 0 0] 62))):=hx2.trans hy
      replace HO9:=bH (HO9.out.keep hy)
      replace HV3:=bH (HV3.out.keep hy)
      replace HQ4:=bH (HQ4.out.keep hy)
      replace HM4:=bH (HM4.out.keep hy)
      clear hy
      generalize (u2.alloc (.cells #[.bool false,.slice none 0 0] 62))=u3 at *
      generalize u2.heap.size=s10 at *
      refine hK.out _ _ (hx3) (fun hHeld=>?_)
      clear hK K
      (try go_frame)
      obtain ⟨c0,c1,c2,c3⟩:=HO9.out.box.facts
      obtain ⟨d0,d1,d2,d3⟩:=HO10.out.box.facts
      refine ml 11 (h:=fun K hK=>?_)
      go_simp
      refine hK.out _ _ ?_
      clear hK K
      (try go_frame)
      have hp9:=HO9.out.box.put (neg:=ng) (no_int qo qn qc)
      obtain ⟨e0,e1,e2,e3⟩:=(HO10.out.box.ext hp9.ext (fun e=>HNE.out e.symm)).facts
      refine ml 12 (h:=fun K hK=>?_)
      go_simp
      refine hK.out _ _ ?_
      clear hK K
      (try go_frame)
      have hp9:=HO9.out.box.put (neg:=ng) (no_int qo qn qc)
      obtain ⟨e0,e1,e2,e3⟩:=(HO10.out.box.ext hp9.ext (fun e=>HNE.out e.symm)).facts
      refine ml 13 (h:=fun K hK=>?_)
      go_simp
      refine hK.out _ _ ?_
      clear hK K
      (try go_frame)
      refine mdone (by kernel_rfl) ?_ _
      have hp10:=(HO10.out.box.ext hp9.ext (fun e=>HNE.out e.symm)).put (neg:=mg) (no_int mo mn mc)
      go_wp2
      go_meet
      exact ⟨s9,ng,qo,qn,qc,rfl,hp9.box.ext hp10.ext HNE.out,hp10.int (hp9.int HQ4.out),(hx3.own hp9.ext (fun k e=>by rw [e]; exact HO9.out.low)).own hp10.ext (fun k e=>by rw [e]; exact HO10.out.low)⟩
     ·go_simp
      have hy:XF u1 ((u1.alloc (.cells #[.bool false,.slice none 0 0] 62))):=((Ext.refl (fun _=>False) u1).alloc (.cells #[.bool false,.slice none 0 0] 62))
      have HO10:=bH (BoxN.new (w0:=wq) (W:=(u1.alloc (.cells #[.bool false,.slice none 0 0] 62))) hx1.size (show BoxI ((u1.alloc (.cells #[.bool false,.slice none 0 0] 62))) u1.heap.size false (.slice none 0 0) from boxI_new (W:=u1) rfl false none 0 0))
      have HNE:=bH (show s9≠u1.heap.size from Nat.ne_of_lt HO9.out.box.lt)
      have hx2:XF wq ((u1.alloc (.cells #[.bool false,.slice none 0 0] 62))):=hx1.trans hy
      replace HO9:=bH (HO9.out.keep hy)
      replace HV3:=bH (HV3.out.keep hy)
      clear hy
      generalize (u1.alloc (.cells #[.bool false,.slice none 0 0] 62))=u2 at *
      generalize u1.heap.size=s10 at *
      refine hK.out _ _ (hx2) (fun hHeld=>?_)
      clear hK K
      (try go_frame)
      refine mst 4 (h:=fun K hK=>?_)
      go_simp
      go_at_call 174
      with_reducible refine (HFl.out _ (hx2) _ HV3.out).mono ?_
      rintro r3 u3 ⟨q4,m4,rfl,h4,hm4,hy⟩
      obtain ⟨ng,qo,qn,qc,rfl⟩:=h4.shape
      obtain ⟨mg,mo,mn,mc,rfl⟩:=hm4.shape
      have HQ4:=bH h4
      have HM4:=bH hm4
      clear h4 hm4
      replace HO9:=bH (HO9.out.keep hy)
      replace HV3:=bH (HV3.out.keep hy)
      replace HO10:=bH (HO10.out.keep hy)
      have hx3:XF wq u3:=hx2.trans hy
      clear hy
      refine hK.out _ _ (hx3) (fun hHeld=>?_)
      clear hK K
      (try go_frame)
      refine mu 5 (h:=(mu 6 (h:=(mf 7 (h:=(mf 8 (h:=?_)))))))
      (try go_frame)
      obtain ⟨c0,c1,c2,c3⟩:=HO9.out.box.facts
      obtain ⟨d0,d1,d2,d3⟩:=HO10.out.box.facts
      refine ml 11 (h:=fun K hK=>?_)
      go_simp
      refine hK.out _ _ ?_
      clear hK K
      (try go_frame)
      have hp9:=HO9.out.box.put (neg:=ng) (no_int qo qn qc)
      obtain ⟨e0,e1,e2,e3⟩:=(HO10.out.box.ext hp9.ext (fun e=>HNE.out e.symm)).facts
      refine ml 12 (h:=fun K hK=>?_)
      go_simp
      refine hK.out _ _ ?_
      clear hK K
      (try go_frame)
      have hp9:=HO9.out.box.put (neg:=ng) (no_int qo qn qc)
      obtain ⟨e0,e1,e2,e3⟩:=(HO10.out.box.ext hp9.ext (fun e=>HNE.out e.symm)).facts
      refine ml 13 (h:=fun K hK=>?_)
      go_simp
      refine hK.out _ _ ?_
      clear hK K
      (try go_frame)
      refine mdone (by kernel_rfl) ?_ _
      have hp10:=(HO10.out.box.ext hp9.ext (fun e=>HNE.out e.symm)).put (neg:=mg) (no_int mo mn mc)
      go_wp2
      go_meet
      exact ⟨s9,ng,qo,qn,qc,rfl,hp9.box.ext hp10.ext HNE.out,hp10.int (hp9.int HQ4.out),(hx3.own hp9.ext (fun k e=>by rw [e]; exact HO9.out.low)).own hp10.ext (fun k e=>by rw [e]; exact HO10.out.low)⟩
    ·go_simp
     have hy:XF u0 ((u0.alloc (.cells #[.bool false,.slice none 0 0] 62))):=((Ext.refl (fun _=>False) u0).alloc (.cells #[.bool false,.slice none 0 0] 62))
     have HO10:=bH (BoxN.new (w0:=wq) (W:=(u0.alloc (.cells #[.bool false,.slice none 0 0] 62))) hx0.size (show BoxI ((u0.alloc (.cells #[.bool false,.slice none 0 0] 62))) u0.heap.size false (.slice none 0 0) from boxI_new (W:=u0) rfl false none 0 0))
     have HNE:=bH (show s9≠u0.heap.size from Nat.ne_of_lt HO9.out.box.lt)
     have hx1:XF wq ((u0.alloc (.cells #[.bool false,.slice none 0 0] 62))):=hx0.trans hy
     replace HO9:=bH (HO9.out.keep hy)
     clear hy
     generalize (u0.alloc (.cells #[.bool false,.slice none 0 0] 62))=u1 at *
     generalize u0.heap.size=s10 at *
     refine hK.out _ _ (hx1) (fun hHeld=>?_)
     clear hK K
     (try go_frame)
     refine mst 3 (h:=fun K hK=>?_)
     go_simp
     go_at_call 133
     with_reducible refine (HDn.out _ (hx1)).mono ?_
     rintro r2 u2 ⟨v3,rfl,h3,hy⟩
     have HV3:=bH h3
     clear h3
     replace HO9:=bH (HO9.out.keep hy)
     replace HO10:=bH (HO10.out.keep hy)
     have hx2:XF wq u2:=hx1.trans hy
     clear hy
     refine hK.out _ _ (hx2) (fun hHeld=>?_)
     clear hK K
     (try go_frame)
     refine mst 4 (h:=fun K hK=>?_)
     go_simp
     go_at_call 174
     with_reducible refine (HFl.out _ (hx2) _ HV3.out).mono ?_
     rintro r3 u3 ⟨q4,m4,rfl,h4,hm4,hy⟩
     obtain ⟨ng,qo,qn,qc,rfl⟩:=h4.shape
     obtain ⟨mg,mo,mn,mc,rfl⟩:=hm4.shape
     have HQ4:=bH h4
     have HM4:=bH hm4
     clear h4 hm4
     replace HO9:=bH (HO9.out.keep hy)
     replace HO10:=bH (HO10.out.keep hy)
     replace HV3:=bH (HV3.out.keep hy)
     have hx3:XF wq u3:=hx2.trans hy
     clear hy
     refine hK.out _ _ (hx3) (fun hHeld=>?_)
     clear hK K
     (try go_frame)
     refine mu 5 (h:=(mu 6 (h:=(mf 7 (h:=(mf 8 (h:=?_)))))))
     (try go_frame)
     obtain ⟨c0,c1,c2,c3⟩:=HO9.out.box.facts
     obtain ⟨d0,d1,d2,d3⟩:=HO10.out.box.facts
     refine ml 11 (h:=fun K hK=>?_)
     go_simp
     refine hK.out _ _ ?_
     clear hK K
     (try go_frame)
     have hp9:=HO9.out.box.put (neg:=ng) (no_int qo qn qc)
     obtain ⟨e0,e1,e2,e3⟩:=(HO10.out.box.ext hp9.ext (fun e=>HNE.out e.symm)).facts
     refine ml 12 (h:=fun K hK=>?_)
     go_simp
     refine hK.out _ _ ?_
     clear hK K
     (try go_frame)
     have hp9:=HO9.out.box.put (neg:=ng) (no_int qo qn qc)
     obtain ⟨e0,e1,e2,e3⟩:=(HO10.out.box.ext hp9.ext (fun e=>HNE.out e.symm)).facts
     refine ml 13 (h:=fun K hK=>?_)
     go_simp
     refine hK.out _ _ ?_
     clear hK K
     (try go_frame)
     refine mdone (by kernel_rfl) ?_ _
     have hp10:=(HO10.out.box.ext hp9.ext (fun e=>HNE.out e.symm)).put (neg:=mg) (no_int mo mn mc)
     go_wp2
     go_meet
     exact ⟨s9,ng,qo,qn,qc,rfl,hp9.box.ext hp10.ext HNE.out,hp10.int (hp9.int HQ4.out),(hx3.own hp9.ext (fun k e=>by rw [e]; exact HO9.out.low)).own hp10.ext (fun k e=>by rw [e]; exact HO10.out.low)⟩
   ·go_simp
    have hy:XF wq ((wq.alloc (.cells #[.bool false,.slice none 0 0] 62)).drew):=((Ext.refl (fun _=>False) wq).alloc (.cells #[.bool false,.slice none 0 0] 62)).drew
    have HO10:=bH (BoxN.new (w0:=wq) (W:=(wq.alloc (.cells #[.bool false,.slice none 0 0] 62)).drew) (Ext.refl (fun _=>False) wq).size (show BoxI ((wq.alloc (.cells #[.bool false,.slice none 0 0] 62)).drew) wq.heap.size false (.slice none 0 0) from boxI_new (W:=wq) rfl false none 0 0))
    have hx0:XF wq ((wq.alloc (.cells #[.bool false,.slice none 0 0] 62)).drew):=hy
    clear hy
    generalize (wq.alloc (.cells #[.bool false,.slice none 0 0] 62)).drew=u0 at *
    generalize wq.heap.size=s10 at *
    refine hK.out _ _ (hx0) (fun hHeld=>?_)
    clear hK K
    (try go_frame)
    refine mtwo 3 9 rfl rfl (by kernel_rfl) (fun K hK=>?_) (fun K hK=>?_)
    ·go_simp
     go_at_call 133
     with_reducible refine (HDn.out _ (hx0)).mono ?_
     rintro r1 u1 ⟨v3,rfl,h3,hy⟩
     have HV3:=bH h3
     clear h3
     replace HO10:=bH (HO10.out.keep hy)
     have hx1:XF wq u1:=hx0.trans hy
     clear hy
     refine hK.out _ _ (hx1) (fun hHeld=>?_)
     clear hK K
     (try go_frame)
     refine mtwo 4 9 rfl rfl (by kernel_rfl) (fun K hK=>?_) (fun K hK=>?_)
     ·go_simp
      go_at_call 174
      with_reducible refine (HFl.out _ (hx1) _ HV3.out).mono ?_
      rintro r2 u2 ⟨q4,m4,rfl,h4,hm4,hy⟩
      obtain ⟨ng,qo,qn,qc,rfl⟩:=h4.shape
      obtain ⟨mg,mo,mn,mc,rfl⟩:=hm4.shape
      have HQ4:=bH h4
      have HM4:=bH hm4
      clear h4 hm4
      replace HO10:=bH (HO10.out.keep hy)
      replace HV3:=bH (HV3.out.keep hy)
      have hx2:XF wq u2:=hx1.trans hy
      clear hy
      refine hK.out _ _ (hx2) (fun hHeld=>?_)
      clear hK K
      (try go_frame)
      refine mu 5 (h:=(mu 6 (h:=(mf 7 (h:=(mf 8 (h:=?_)))))))
      (try go_frame)
      refine mst 9 (h:=fun K hK=>?_)
      go_simp
      have hy:XF u2 ((u2.alloc (.cells #[.bool false,.slice none 0 0] 62))):=((Ext.refl (fun _=>False) u2).alloc (.cells #[.bool false,.slice none 0 0] 62))
      have HO9:=bH (BoxN.new (w0:=wq) (W:=(u2.alloc (.cells #[.bool false,.slice none 0 0] 62))) hx2.size (show BoxI ((u2.alloc (.cells #[.bool false,.slice none 0 0] 62))) u2.heap.size false (.slice none 0 0) from boxI_new (W:=u2) rfl false none 0 0))
      have HNE:=bH (show s10≠u2.heap.size from Nat.ne_of_lt HO10.out.box.lt)
      have hx3:XF wq ((u2.alloc (.cells #[.bool false,.slice none 0 0] 62))):=hx2.trans hy
      replace HO10:=bH (HO10.out.keep hy)
      replace HV3:=bH (HV3.out.keep hy)
      replace HQ4:=bH (HQ4.out.keep hy)
      replace HM4:=bH (HM4.out.keep hy)
      clear hy
      generalize (u2.alloc (.cells #[.bool false,.slice none 0 0] 62))=u3 at *
      generalize u2.heap.size=s9 at *
      replace HNE:=bH (Ne.symm HNE.out)
      refine hK.out _ _ (hx3) (fun hHeld=>?_)
      clear hK K
      (try go_frame)
      obtain ⟨c0,c1,c2,c3⟩:=HO9.out.box.facts
      obtain ⟨d0,d1,d2,d3⟩:=HO10.out.box.facts
      refine ml 11 (h:=fun K hK=>?_)
      go_simp
      refine hK.out _ _ ?_
      clear hK K
      (try go_frame)
      have hp9:=HO9.out.box.put (neg:=ng) (no_int qo qn qc)
      obtain ⟨e0,e1,e2,e3⟩:=(HO10.out.box.ext hp9.ext (fun e=>HNE.out e.symm)).facts
      refine ml 12 (h:=fun K hK=>?_)
      go_simp
      refine hK.out _ _ ?_
      clear hK K
      (try go_frame)
      have hp9:=HO9.out.box.put (neg:=ng) (no_int qo qn qc)
      obtain ⟨e0,e1,e2,e3⟩:=(HO10.out.box.ext hp9.ext (fun e=>HNE.out e.symm)).facts
      refine ml 13 (h:=fun K hK=>?_)
      go_simp
      refine hK.out _ _ ?_
      clear hK K
      (try go_frame)
      refine mdone (by kernel_rfl) ?_ _
      have hp10:=(HO10.out.box.ext hp9.ext (fun e=>HNE.out e.symm)).put (neg:=mg) (no_int mo mn mc)
      go_wp2
      go_meet
      exact ⟨s9,ng,qo,qn,qc,rfl,hp9.box.ext hp10.ext HNE.out,hp10.int (hp9.int HQ4.out),(hx3.own hp9.ext (fun k e=>by rw [e]; exact HO9.out.low)).own hp10.ext (fun k e=>by rw [e]; exact HO10.out.low)⟩
     ·go_simp
      have hy:XF u1 ((u1.alloc (.cells #[.bool false,.slice none 0 0] 62))):=((Ext.refl (fun _=>False) u1).alloc (.cells #[.bool false,.slice none 0 0] 62))
      have HO9:=bH (BoxN.new (w0:=wq) (W:=(u1.alloc (.cells #[.bool false,.slice none 0 0] 62))) hx1.size (show BoxI ((u1.alloc (.cells #[.bool false,.slice none 0 0] 62))) u1.heap.size false (.slice none 0 0) from boxI_new (W:=u1) rfl false none 0 0))
      have HNE:=bH (show s10≠u1.heap.size from Nat.ne_of_lt HO10.out.box.lt)
      have hx2:XF wq ((u1.alloc (.cells #[.bool false,.slice none 0 0] 62))):=hx1.trans hy
      replace HO10:=bH (HO10.out.keep hy)
      replace HV3:=bH (HV3.out.keep hy)
      clear hy
      generalize (u1.alloc (.cells #[.bool false,.slice none 0 0] 62))=u2 at *
      generalize u1.heap.size=s9 at *
      replace HNE:=bH (Ne.symm HNE.out)
      refine hK.out _ _ (hx2) (fun hHeld=>?_)
      clear hK K
      (try go_frame)
      refine mst 4 (h:=fun K hK=>?_)
      go_simp
      go_at_call 174
      with_reducible refine (HFl.out _ (hx2) _ HV3.out).mono ?_
      rintro r3 u3 ⟨q4,m4,rfl,h4,hm4,hy⟩
      obtain ⟨ng,qo,qn,qc,rfl⟩:=h4.shape
      obtain ⟨mg,mo,mn,mc,rfl⟩:=hm4.shape
      have HQ4:=bH h4
      have HM4:=bH hm4
      clear h4 hm4
      replace HO10:=bH (HO10.out.keep hy)
      replace HV3:=bH (HV3.out.keep hy)
      replace HO9:=bH (HO9.out.keep hy)
      have hx3:XF wq u3:=hx2.trans hy
      clear hy
      refine hK.out _ _ (hx3) (fun hHeld=>?_)
      clear hK K
      (try go_frame)
      refine mu 5 (h:=(mu 6 (h:=(mf 7 (h:=(mf 8 (h:=?_)))))))
      (try go_frame)
      obtain ⟨c0,c1,c2,c3⟩:=HO9.out.box.facts
      obtain ⟨d0,d1,d2,d3⟩:=HO10.out.box.facts
      refine ml 11 (h:=fun K hK=>?_)
      go_simp
      refine hK.out _ _ ?_
      clear hK K
      (try go_frame)
      have hp9:=HO9.out.box.put (neg:=ng) (no_int qo qn qc)
      obtain ⟨e0,e1,e2,e3⟩:=(HO10.out.box.ext hp9.ext (fun e=>HNE.out e.symm)).facts
      refine ml 12 (h:=fun K hK=>?_)
      go_simp
      refine hK.out _ _ ?_
      clear hK K
      (try go_frame)
      have hp9:=HO9.out.box.put (neg:=ng) (no_int qo qn qc)
      obtain ⟨e0,e1,e2,e3⟩:=(HO10.out.box.ext hp9.ext (fun e=>HNE.out e.symm)).facts
      refine ml 13 (h:=fun K hK=>?_)
      go_simp
      refine hK.out _ _ ?_
      clear hK K
      (try go_frame)
      refine mdone (by kernel_rfl) ?_ _
      have hp10:=(HO10.out.box.ext hp9.ext (fun e=>HNE.out e.symm)).put (neg:=mg) (no_int mo mn mc)
      go_wp2
      go_meet
      exact ⟨s9,ng,qo,qn,qc,rfl,hp9.box.ext hp10.ext HNE.out,hp10.int (hp9.int HQ4.out),(hx3.own hp9.ext (fun k e=>by rw [e]; exact HO9.out.low)).own hp10.ext (fun k e=>by rw [e]; exact HO10.out.low)⟩
    ·go_simp
     have hy:XF u0 ((u0.alloc (.cells #[.bool false,.slice none 0 0] 62))):=((Ext.refl (fun _=>False) u0).alloc (.cells #[.bool false,.slice none 0 0] 62))
     have HO9:=bH (BoxN.new (w0:=wq) (W:=(u0.alloc (.cells #[.bool false,.slice none 0 0] 62))) hx0.size (show BoxI ((u0.alloc (.cells #[.bool false,.slice none 0 0] 62))) u0.heap.size false (.slice none 0 0) from boxI_new (W:=u0) rfl false none 0 0))
     have HNE:=bH (show s10≠u0.heap.size from Nat.ne_of_lt HO10.out.box.lt)
     have hx1:XF wq ((u0.alloc (.cells #[.bool false,.slice none 0 0] 62))):=hx0.trans hy
     replace HO10:=bH (HO10.out.keep hy)
     clear hy
     generalize (u0.alloc (.cells #[.bool false,.slice none 0 0] 62))=u1 at *
     generalize u0.heap.size=s9 at *
     replace HNE:=bH (Ne.symm HNE.out)
     refine hK.out _ _ (hx1) (fun hHeld=>?_)
     clear hK K
     (try go_frame)
     refine mst 3 (h:=fun K hK=>?_)
     go_simp
     go_at_call 133
     with_reducible refine (HDn.out _ (hx1)).mono ?_
     rintro r2 u2 ⟨v3,rfl,h3,hy⟩
     have HV3:=bH h3
     clear h3
     replace HO10:=bH (HO10.out.keep hy)
     replace HO9:=bH (HO9.out.keep hy)
     have hx2:XF wq u2:=hx1.trans hy
     clear hy
     refine hK.out _ _ (hx2) (fun hHeld=>?_)
     clear hK K
     (try go_frame)
     refine mst 4 (h:=fun K hK=>?_)
     go_simp
     go_at_call 174
     with_reducible refine (HFl.out _ (hx2) _ HV3.out).mono ?_
     rintro r3 u3 ⟨q4,m4,rfl,h4,hm4,hy⟩
     obtain ⟨ng,qo,qn,qc,rfl⟩:=h4.shape
     obtain ⟨mg,mo,mn,mc,rfl⟩:=hm4.shape
     have HQ4:=bH h4
     have HM4:=bH hm4
     clear h4 hm4
     replace HO10:=bH (HO10.out.keep hy)
     replace HO9:=bH (HO9.out.keep hy)
     replace HV3:=bH (HV3.out.keep hy)
     have hx3:XF wq u3:=hx2.trans hy
     clear hy
     refine hK.out _ _ (hx3) (fun hHeld=>?_)
     clear hK K
     (try go_frame)
     refine mu 5 (h:=(mu 6 (h:=(mf 7 (h:=(mf 8 (h:=?_)))))))
     (try go_frame)
     obtain ⟨c0,c1,c2,c3⟩:=HO9.out.box.facts
     obtain ⟨d0,d1,d2,d3⟩:=HO10.out.box.facts
     refine ml 11 (h:=fun K hK=>?_)
     go_simp
     refine hK.out _ _ ?_
     clear hK K
     (try go_frame)
     have hp9:=HO9.out.box.put (neg:=ng) (no_int qo qn qc)
     obtain ⟨e0,e1,e2,e3⟩:=(HO10.out.box.ext hp9.ext (fun e=>HNE.out e.symm)).facts
     refine ml 12 (h:=fun K hK=>?_)
     go_simp
     refine hK.out _ _ ?_
     clear hK K
     (try go_frame)
     have hp9:=HO9.out.box.put (neg:=ng) (no_int qo qn qc)
     obtain ⟨e0,e1,e2,e3⟩:=(HO10.out.box.ext hp9.ext (fun e=>HNE.out e.symm)).facts
     refine ml 13 (h:=fun K hK=>?_)
     go_simp
     refine hK.out _ _ ?_
     clear hK K
     (try go_frame)
     refine mdone (by kernel_rfl) ?_ _
     have hp10:=(HO10.out.box.ext hp9.ext (fun e=>HNE.out e.symm)).put (neg:=mg) (no_int mo mn mc)
     go_wp2
     go_meet
     exact ⟨s9,ng,qo,qn,qc,rfl,hp9.box.ext hp10.ext HNE.out,hp10.int (hp9.int HQ4.out),(hx3.own hp9.ext (fun k e=>by rw [e]; exact HO9.out.low)).own hp10.ext (fun k e=>by rw [e]; exact HO10.out.low)⟩
  case rest =>
  obtain ⟨s9,ng,qo,qn,qc,rfl,hb9,hq9,hx9⟩:=hcut
  clear b0 b1' b2
  have hr9:=HB.out.2.1.ext hx9 id
  obtain ⟨d0,d1,d2,d3⟩:=hr9.facts
  obtain ⟨e0,e1,-⟩:=hb9.facts
  have hp:=hr9.put (neg:=ng) (no_int qo qn qc)
  have HR:=bH (bI (hp.int hq9) (bI ((HB.out.2.2.trans hx9).own hp.ext (fun k e=>by omega)) hp.box))
  clear hp hr9 hb9 hq9 hx9
  go_wp2
  generalize (wc.setCell ⟨r,0,none⟩ (.bool ng)).setCell ⟨r,1,none⟩ (.slice qo qn qc)=w20 at *
  obtain ⟨g0,g1,_⟩:=HR.out.2.2.facts
  exact bodyPost_ret (v:=.agg #[.bool ng,.slice qo qn qc]) (by simp [results,Tryz.results120,go_sem,g0,g1]) rfl ⟨_,rfl,HR.out.1,HR.out.2.1⟩
theorem rceil_any (w:World) (v:Value) (q:Rat) (L:Nat) (h:Rrat w v q L) (h0:1<=L) (hL:L<=4000000) :
  Calls Tryz.prog 114 #[v] w (IntPost w q.ceil):=by
 have hsz:=h.sz h0
 obtain ⟨n1,a1,l1,c1,x1,y1,k1,l,d,rfl,-,-,-,-,-⟩:=h.open
 have HN:=bH (fun W (hW:XF w W)=>rneg_any W _ q L (h.keep hW) h0 (by omega))
 have HF:=bH (fun W u (hu:IsRat W u (-q))=>rfloor_any W u (-q) L (hu.reads hsz.neg) h0 (by omega))
 have HI:=bH (fun W u (hu:IsInt W u ((-q).floor))=>ineg_any W u _ (L+1) (hu.reads (floor_len hsz.neg)) (by omega))
 rw [<- Rat.ceil_eq_neg_floor_neg] at HI
 clear h hsz
 generalize q.ceil=Z at *
 go_enter Tryz.func114,Tryz.ntmps114
 go_upto_region 0 with fail
 go_cut [1,2] (fun v1 v2 wx=>∃ b1 r,v1=.pointer (some ⟨b1,0,none⟩)/\v2=.pointer (some ⟨r,0,none⟩)/\BoxR wx b1 n1 (.slice a1 l1 c1) (.slice x1 y1 k1)/\BoxI wx r false (.slice none 0 0)/\¬ b1=r/\w.heap.size<=r/\XF w wx)
 case first =>
  go_wp2
  go_meet
  exact ⟨_,_,rfl,rfl,(boxR_new rfl n1 a1 l1 c1 x1 y1 k1).alloc _,boxI_new (by simp) false none 0 0,(by omega),(by omega),((Ext.refl _ w).alloc _).alloc _⟩
 case rest =>
  obtain ⟨b1,r,rfl,rfl,hb1,hrb,i1,hle,hx⟩:=hcut
  obtain ⟨c0,c1',c2,-⟩:=hb1.facts
  have HB:=bH (bI hrb hx)
  clear hb1 hrb hx
  go_wp2_with fail
  refine (HN.out _ HB.out.2).mono ?_
  rintro q1 w11 ⟨v11,rfl,h11,hx11⟩
  have H11:=bH (bI h11 hx11)
  clear h11 hx11 c0 c1' c2
  go_wp2_with fail
  refine (HF.out _ _ H11.out.1).mono ?_
  rintro q2 w12 ⟨v12,rfl,h12,hx12⟩
  have H12:=bH (bI h12 (H11.out.2.trans hx12))
  clear h12 hx12 H11
  go_wp2_with fail
  refine (HI.out _ _ H12.out.1).mono ?_
  rintro q3 w13 ⟨v13,rfl,h13,hx13⟩
  obtain ⟨ng,qo,qn,qc,rfl⟩:=h13.shape
  have hX:=H12.out.2.trans hx13
  have hr9:=HB.out.1.ext hX id
  obtain ⟨d0,d1,d2,d3⟩:=hr9.facts
  have hp:=hr9.put (neg:=ng) (no_int qo qn qc)
  have HR:=bH (bI (hp.int h13) (bI ((HB.out.2.trans hX).own hp.ext (fun k e=>by omega)) hp.box))
  clear hp hr9 h13 hx13 hX H12
  go_wp2
  generalize (w13.setCell ⟨r,0,none⟩ (.bool ng)).setCell ⟨r,1,none⟩ (.slice qo qn qc)=w20 at *
  obtain ⟨g0,g1,_⟩:=HR.out.2.2.facts
  exact bodyPost_ret (v:=.agg #[.bool ng,.slice qo qn qc]) (by simp [results,Tryz.results114,go_sem,g0,g1]) rfl ⟨_,rfl,HR.out.1,HR.out.2.1⟩
end Go.Proofs.YtjaldknfeojjkaaGreat
