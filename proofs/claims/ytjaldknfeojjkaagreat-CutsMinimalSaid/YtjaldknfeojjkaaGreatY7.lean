/-
  Texts of the proof, part 7. Conditions: each lemma names its own.
-/
import Derived.Test.YtjaldknfeojjkaaGreatY4
import Derived.Test.YtjaldknfeojjkaaGreatY5
import Derived.Test.YtjaldknfeojjkaaGreatY6
import Derived.Maps.RangeWalk
set_option linter.unusedVariables false
set_option linter.unusedSimpArgs false
set_option maxRecDepth 100000
set_option maxHeartbeats 16000000
namespace Go.Proofs.YtjaldknfeojjkaaGreat
open Go.RowKit Go.MapKept
open Go.ChangeMaps (setBlock)
structure BoxN3 (w0 W:World) (s:Nat):Prop where
 box:BoxR W s false (.slice none 0 0) (.slice none 0 0)
 low:w0.heap.size<=s
theorem BoxN3.keep {w0 W W':World} {s:Nat} (h:BoxN3 w0 W s) (hx:XF W W'):BoxN3 w0 W' s:=⟨h.box.keep hx,h.low⟩
def OptBoth (w:World) (q:Option Rat) (r:Ending) (w':World):Prop:=∃ v,r=.returned (.tuple #[v,.bool q.isSome])/\IsRat w' v (q.getD 0)/\XF w w'
theorem OptPost.both {w:World} {q:Option Rat} {r:Ending} {w':World} (h:OptPost w q r w'):OptBoth w q r w':=by
 obtain ⟨hx,h⟩:=h
 cases q with
 | none=>obtain ⟨v,h1,h2⟩:=h; exact ⟨v,h1,h2,hx⟩
 | some s=>obtain ⟨v,h1,h2⟩:=h; exact ⟨v,h1,h2,hx⟩
theorem termsB_lim {n:Int}:∀ {l:List TermV} {last:Int},termsB n last l=true->∀ t ∈ l,limB t.coef=true
 | [],_,_,_,h=>by cases h
 | t :: l,last,h,s,hs=>by
  simp only [termsB,Bool.and_eq_true] at h
  rcases List.mem_cons.1 hs with rfl | hs
  ·exact h.1.2
  ·exact termsB_lim h.2 s hs
theorem covO_some {q:Option Rat} {c:Rat} (h:q.isSome=true):covO q c=decide (c<q.getD 0):=by
 cases q with
 | none=>cases h
 | some s=>rfl
theorem covO_none {q:Option Rat} {c:Rat} (h:q.isSome=false):covO q c=false:=by
 cases q with
 | none=>rfl
 | some s=>cases h
def isCovB (p:ProgV) (r:RowV) (vs:List Int):Bool:=covB p r vs && decide (0<vs.length)
theorem IsCover_any (w:World) (pv vsv:Value) (p:ProgV) (i:Nat) (vs:List Int) (hp:IsPrg w pv p) (hval:validB p=true) (hi:i<p.rows.length) (hv:Inz w vsv vs) (hvs:∀ v ∈ vs,0<=v/\v<p.vars.length) :
  Calls Tryz.prog 45 #[pv,.int .i64 i,vsv] w (BoolPost w (isCovB p (p.r i) vs)):=by
 have hrow:=valid_row hval hi
 have hn:p.vars.length<=400:=by
  unfold validB at hval
  simp only [Bool.and_eq_true,decide_eq_true_eq] at hval
  exact hval.1.1.1
 have hin:∀ t ∈ (p.r i).terms,0<=t.var/\t.var<p.vars.length:=fun t ht=>by
  obtain ⟨k,hkl,rfl⟩:=List.getElem_of_mem ht
  have:=row_terms hrow k hkl
  unfold RowV.t at this
  rw [getD_lt hkl] at this
  exact this
 have hter:termsB p.vars.length (-1) (p.r i).terms=true/\limB (p.r i).bound=true:=by
  unfold rowB at hrow
  simp only [Bool.and_eq_true] at hrow
  exact ⟨hrow.2,hrow.1.1.2⟩
 have hco:∀ t ∈ (p.r i).terms,limB t.coef=true:=termsB_lim hter.1
 have hbd:=hter.2
 have hsg:sgR (p.r i)=1∨sgR (p.r i) = -1:=by unfold sgR; split <;> simp
 have HCo:=bH (fun W (hW:XF w W)=>coefs_any W pv p i (sgR (p.r i)) (hp.keep hW) hi hin hco hsg (by omega))
 unfold RowPost at HCo
 obtain ⟨vv,rv,rfl,hpv,hpr⟩:=hp
 obtain ⟨vo,vc,rfl,-,-,-⟩:=hpv.shape
 obtain ⟨ro,rc,rfl,-,-,-⟩:=hpr.shape
 obtain ⟨so,sc,rfl,hsm⟩:=hv.shape
 have HPw:=bH (bI hpv hpr)
 have HV:=bH (bI hv hvs)
 have HIm:=bH hi
 have HCt:=bH (show ∀ x ∈ (p.r i).terms,InR x.coef from fun x hx=>by
  have:=hco x hx
  unfold limB at this
  simp only [Bool.and_eq_true,decide_eq_true_eq] at this
  exact ⟨by omega,by omega⟩)
 have HSi:=bH (sgR_in (p.r i))
 obtain ⟨kd,hkd⟩:∃ x,(p.r i).kind=x:=⟨_,rfl⟩
 obtain ⟨bd,hbd'⟩:∃ x,(p.r i).bound=x:=⟨_,rfl⟩
 rw [hbd'] at hbd
 have hbi:-1099511627776<=bd/\bd<=1099511627776:=by
  unfold limB at hbd
  simpa only [Bool.and_eq_true,decide_eq_true_eq] using hbd
 obtain ⟨n,hn'⟩:∃ x,p.vars.length=x:=⟨_,rfl⟩
 obtain ⟨m,hm'⟩:∃ x,p.rows.length=x:=⟨_,rfl⟩
 obtain ⟨sl,hsl⟩:∃ x,vs.length=x:=⟨_,rfl⟩
 have HE:=bH (bI hbd' (bI hkd (bI hn' (bI hsl hm'))))
 have HSg:=bH (show sgR (p.r i)=if kd=1 then -1 else 1 from by rw [<- hkd]; rfl)
 have hmax:n<=400:=by omega
 have hsm2:(sl:Int)<=9223372036854775807:=by unfold maxLen at hsm; omega
 have i0:(0:Int)<=(i:Int):=by omega
 have i1:(i:Int)<(m:Int):=by omega
 obtain ⟨SG,hSG⟩:∃ x,sgR (p.r i)=x:=⟨_,rfl⟩
 have hsgi:SG=1∨SG = -1:=by rw [<- hSG]; exact hsg
 have HSG:=bH hSG
 rw [hSG] at HSg HCo
 rw [hn',hm'] at HCo
 rw [hn',hm',hsl]
 rw [hn'] at HV
 rw [hsl] at HV
 clear hpv hpr hin hco hv hvs hkd hbd' hn' hm' hsl hn hsg hi hrow hter hbd hval hsm hSG
 have HB:=bH (bI (blk_alloc_at w (.cells #[.slice vo n vc,.slice ro m rc] 25)) ((Ext.refl (fun _=>False) w).alloc (.cells #[.slice vo n vc,.slice ro m rc] 25)))
 go_enter Tryz.func45,Tryz.ntmps45
 go_upto_region 1 with fail
 generalize w.alloc (.cells #[.slice vo n vc,.slice ro m rc] 25)=w1 at *
 obtain ⟨pb,hpb⟩:∃ q,w.heap.size=q:=⟨_,rfl⟩
 rw [hpb] at HB ⊢
 clear hpb
 have hxe:=(Ext.refl (fun _=>False) w1).alloc (.cells #[] 73)
 have HEm:=bH (bI (show SOwn cV 73 (w1.alloc (.cells #[] 73)) w.heap.size (.slice (some ⟨w1.heap.size,0,none⟩) 0 0) [] from SOwn.empty (blk_alloc_at w1 (.cells #[] 73)) HB.out.2.size) (HB.out.2.trans hxe))
 have p0:=cell_keep (cellq HB.out.1 0 rfl) hxe
 clear hxe
 go_upto_region 2 with (at_builtin; refine wpList_append_new (f:=cV) rfl (.tmp 12) (.tmp 14) rfl cV_len p.vars (fun x _=>cV_one x) Tryz.underlying22 Tryz.infoVar rfl (by decide) (by decide) w.heap.size (.slice (some ⟨w1.heap.size,0,none⟩) 0 0) rfl HEm.out.1 vo n vc rfl (by have h:=(HPw.out.1.keep HEm.out.2).1; rwa [HE.out.2.2.1] at h) (by rw [HE.out.2.2.1]; omega) HEm.out.2.size ?_; intro va wa g1 g2 g3; rw [HE.out.2.2.1] at g1; obtain ⟨vao,vac,rfl⟩:=ownsRow_shape g1)
 have hge:XF w1 wa:=((Ext.refl (fun _=>False) w1).alloc (.cells #[] 73)).own g2 (fun k hk'=>by cases hk'; exact Nat.le_refl _)
 have hxw:=(Ext.refl (fun _=>False) wa).alloc (.cells #[.slice vao n vac,.slice none 0 0] 25)
 have HQ:=bH (show QSt w (wa.alloc (.cells #[.slice vao n vac,.slice none 0 0] 25)) pb pb wa.heap.size #[.slice vo n vc,.slice ro m rc] #[.slice vo n vc,.slice ro m rc] 25 (.slice vao n vac) (oneL p.vars []) from
  ⟨(HB.out.2.trans hge).trans hxw,blk_keep HB.out.1 (hge.trans hxw),blk_keep HB.out.1 (hge.trans hxw),blk_alloc_at wa _,SOwn.keep (show SOwn cV 73 wa w.heap.size (.slice vao n vac) p.vars from by unfold SOwn; rw [HE.out.2.2.1]; exact g1) hxw⟩)
 clear g1 g2 g3 p0 HEm HB hge hxw
 generalize wa.alloc (.cells #[.slice vao n vac,.slice none 0 0] 25)=w3 at *
 generalize wa.heap.size=qb at *
 go_wp2_with fail
 go_loopg [8] sl (fun gg v8 wr=>∃ k:Nat,k<=sl/\gg=sl - k/\v8=.int .i64 k/\QSt w wr pb pb qb #[.slice vo n vc,.slice ro m rc] #[.slice vo n vc,.slice ro m rc] 25 (.slice vao n vac) (oneL p.vars (vs.take k)))
 case atStart=>exact ⟨0,Nat.zero_le _,rfl,rfl,HQ.out⟩
 case round =>
  clear HQ
  obtain ⟨k,hkk,rfl,rfl,hq⟩:=hrel
  have HQ:=bH hq
  clear hq
  by_cases hkn:k<sl
  ·have k0:(k:Int)<(sl:Int):=by omega
   have k1:(0:Int)<=(k:Int):=by omega
   have hkl:k<vs.length:=by rw [HE.out.2.2.2.1]; exact hkn
   obtain ⟨b1,o1,rfl,e0⟩:=(HV.out.1.keep HQ.out.ext).at_ (i:=k) hkl
   have hvk:=HV.out.2 (vs.getD k 0) (by rw [getD_lt hkl]; exact List.getElem_mem _)
   have HN:=bH (show oneL p.vars (vs.take (k+1))=(oneL p.vars (vs.take k)).set (vs.getD k 0).toNat { (oneL p.vars (vs.take k)).getD (vs.getD k 0).toNat var0 with lo:=1 } from by rw [take_snoc (d:=0) hkl,oneL_snoc])
   generalize vs.getD k 0=v at *
   obtain ⟨j,rfl⟩:∃ j:Nat,v=j:=⟨v.toNat,by omega⟩
   rw [show ((j:Nat):Int).toNat=j by omega] at HN
   have hjl:j<(oneL p.vars (vs.take k)).length:=by rw [oneL_length,HE.out.2.2.1]; omega
   rcases HQ.out.own.arr cV_len with ⟨h0,h1,-⟩ | ⟨g,rfl,-⟩
   ·rw [h1] at hjl; exact absurd hjl (Nat.not_lt_zero _)
   have q0:=cq (cellq HQ.out.bq 0 rfl)
   replace e0:=cq e0
   have j0:(0:Int)<=(j:Int):=by omega
   have j1:(j:Int)<(n:Int):=by omega
   clear hvk hkl
   go_upto_region 5 with fail
   refine mbegin 8 (XF wr) (by kernel_rfl) ((Ext.refl _ wr).drew) (fun hHeld=>?_)
   refine mu 0 (h:=(mu 1 (h:=(mu 2 (h:=(mu 3 (h:=(mu 4 (h:=(mu 5 (h:=(mu 6 (h:=(mu 7 (h:=?_)))))))))))))))
   (try go_frame)
   obtain ⟨hs1,hs2,u,hs3⟩:=HQ.out.set (by decide) hjl
   rw [<- HN.out] at hs1
   have HP:=bH (hs1.keep ((Ext.refl (fun _=>False) _).drew))
   clear hs1
   refine ml 8 (h:=fun K hK=>?_)
   go_simp
   refine hK.out _ _ ?_
   clear hK K
   (try go_frame)
   refine mdone (by kernel_rfl) ?_ _
   clear hs2 hs3 q0 e0
   generalize (wr.setCell ⟨g,j*5,none⟩ (.int .i64 1)).drew=w9 at *
   go_wp2
   go_roundg (sl - (k+1))
   case measure=>omega
   case rel=>exact ⟨k+1,by omega,rfl,by go_num,HP.out⟩
  ·obtain rfl:sl=k:=by omega
   replace HQ:=bH (show QSt w wr pb pb qb #[.slice vo n vc,.slice ro m rc] #[.slice vo n vc,.slice ro m rc] 25 (.slice vao n vac) (oneL p.vars vs) from by have h:=HQ.out; rwa [<- HE.out.2.2.2.1,List.take_length] at h)
   obtain ⟨K,hK⟩:∃ K:Bool,decide (kd=1)=K:=⟨_,rfl⟩
   have hK2:(kd == 1)=K:=by rw [<- hK]; by_cases h:kd=1 <;> simp [h]
   have p1:=cellq HQ.out.bp 1 rfl
   obtain ⟨rb,off,ta,tc,rfl,hbw,-,-,e2,-,e4,-,-⟩:=HPw.out.2.atp i HIm.out
   rw [HE.out.2.1] at e2
   rw [HE.out.1] at e4
   have HE4:=bH e4
   clear e4 hbw
   replace e2:=cell_keep e2 HQ.out.ext
   go_upto_if 37 with fail
   go_cut [9] (fun v9 wx=>v9=.int .i64 SG/\wx=wr)
   case first =>
    cases K with
    | true =>
     have HSv:=bH (show SG = -1 from by rw [HSg.out,if_pos (of_decide_eq_true hK)])
     go_wp2
     go_meet
     exact ⟨by rw [HSv.out],rfl⟩
    | false =>
     have HSv:=bH (show SG=1 from by rw [HSg.out,if_neg (of_decide_eq_false hK)])
     go_wp2
     go_meet
     exact ⟨by rw [HSv.out],rfl⟩
   case rest =>
   obtain ⟨rfl,rfl⟩:=hcut
   obtain ⟨wq,rfl⟩:∃ x,x=wc:=⟨_,rfl⟩
   clear hK hK2 e2 p1 HSg
   obtain ⟨OQ,hOQ⟩:∃ x,leastQ (oneP p vs) (cfL n SG (p.r i).terms)=x:=⟨_,rfl⟩
   have HCv:=bH (covB_eq p (p.r i) vs)
   rw [HE.out.2.2.1,HSG.out,hOQ,HE.out.1] at HCv
   have HSz:=bH (show Sz (OQ.getD 0) 10000 from by
    cases OQ with
    | none=>exact Sz.zero.mono (by decide)
    | some s =>
     obtain ⟨-,-,rfl⟩:=least_some hOQ
     have hvr:Vrs wq (.slice vao n vac) (oneP p vs).vars:=(by obtain ⟨_,_,e,h,_⟩:=HQ.out.prg HPw.out.1.2; cases e; exact h)
     have h:=sum_size (f:=fun i'=>pickQ ((oneP p vs).v i') (atQ (cfL n SG (p.r i).terms) i')) (g:=fun i'=>atQ (cfL n SG (p.r i).terms) i') (L:=4) (n:=(oneP p vs).vars.length) (fun i' hi=>pick_in hvr _ i' hi) (fun i' _=>cfL_sz (by rw [<- HSG.out]; exact HSi.out) HCt.out i') _ (Nat.le_refl _)
     exact h.mono (by rw [oneP_len,HE.out.2.2.1]; omega))
   have HQq:=bH HQ.out
   have HLs:=bH (fun W (hW:XF wq W) B (hB:RArr W B n (fun j=>atQ (cfL n SG (p.r i).terms) j))=>((Least4_any W (.agg #[.slice vao n vac,.slice none 0 0]) (.slice (some ⟨B,0,none⟩) n n) (oneP p vs) (cfL n SG (p.r i).terms) 4 ((HQq.out.prg HPw.out.1.2).keep hW) (by
    have h:=hB.rats (L:=4) (fun i' _=>cfL_sz (by rw [<- HSG.out]; exact HSi.out) HCt.out i') (Nat.le_refl n) (by unfold maxLen; omega)
    rwa [listTo_atQ (cfL_length n SG (p.r i).terms)] at h) (by decide) (by rw [oneP_len,HE.out.2.2.1]; omega) (by decide)).mono (fun r w' h=>h.both)))
   rw [hOQ] at HLs
   unfold OptBoth at HLs
   obtain ⟨K,hK⟩:∃ K,OQ.isSome=K:=⟨_,rfl⟩
   have HK:=bH hK
   rw [hK] at HLs
   clear hK
   replace HCo:=bH (fun W (hW:XF wq W)=>HCo.out W (HQq.out.ext.trans hW))
   obtain ⟨SV,hSV⟩:∃ x,OQ.getD 0=x:=⟨_,rfl⟩
   have HCk:=bH (show covB p (p.r i) vs=if K=true then decide ((SG:Rat)*(bd:Rat)<SV) else false from by
    rw [HCv.out]
    cases K with
    | true=>rw [covO_some HK.out,hSV]; rfl
    | false=>rw [covO_none HK.out]; rfl)
   rw [hSV] at HLs HSz
   clear hSV HCv HK hOQ HQ
   have q0:=cq (cellq HQq.out.bq 0 rfl)
   have q1:=cq (cellq HQq.out.bq 1 rfl)
   have p0:=cq (cellq HQq.out.bp 0 rfl)
   have p1:=cq (cellq HQq.out.bp 1 rfl)
   go_upto_region 9 with fail
   go_cut [10,11] (fun v10 v11 wx=>∃ lb n8 a8 l8 c8 a8' l8' c8',v10=.pointer (some ⟨lb,0,none⟩)/\v11=.bool K/\BoxR wx lb n8 (.slice a8 l8 c8) (.slice a8' l8' c8')/\IsRat wx (.agg #[.bool n8,.slice a8 l8 c8,.slice a8' l8' c8']) SV/\XF wq wx/\blk wx pb=some (.cells #[.slice vo n vc,.slice (some ⟨rb,off,none⟩) m rc] 25 (0,0)))
   case first =>
    refine mbegin 10 (XF wq) (by kernel_rfl) ((Ext.refl _ wq).drew) (fun hHeld=>?_)
    refine mu 0 (h:=(mu 1 (h:=(mu 2 (h:=(mu 3 (h:=?_)))))))
    (try go_frame)
    refine mtwo 4 9 rfl rfl (by kernel_rfl) (fun K hK=>?_) (fun K hK=>?_)
    ·go_simp
     go_at_call 82
     with_reducible refine (HCo.out _ ((Ext.refl _ wq).drew)).mono ?_
     rintro r0 u0 ⟨B,rfl,hB0,h4,hy⟩
     have HAr:=bH h4
     clear h4 hB0
     replace hy:=(Ext.refl (fun _=>False) wq).drew.trans hy
     have hx0:XF wq u0:=hy
     clear hy
     refine hK.out _ _ (hx0) (fun hHeld=>?_)
     clear hK K
     (try go_frame)
     refine mtwo 5 9 rfl rfl (by kernel_rfl) (fun K hK=>?_) (fun K hK=>?_)
     ·go_simp
      go_at_call 81
      with_reducible refine (HLs.out _ (hx0) _ HAr.out).mono ?_
      rintro r1 u1 ⟨v5,rfl,h5,hy⟩
      obtain ⟨n8,a8,l8,c8,a8',l8',c8',rfl⟩:=h5.shape
      have HL5:=bH h5
      clear h5
      replace HAr:=bH (HAr.out.keep hy)
      have hx1:XF wq u1:=hx0.trans hy
      clear hy
      refine hK.out _ _ (hx1) (fun hHeld=>?_)
      clear hK K
      (try go_frame)
      refine mu 6 (h:=(mu 7 (h:=(mf 8 (h:=?_)))))
      (try go_frame)
      refine mst 9 (h:=fun K hK=>?_)
      go_simp
      have hy:XF u1 ((u1.alloc (.cells #[.bool false,.slice none 0 0,.slice none 0 0] 64))):=((Ext.refl (fun _=>False) u1).alloc (.cells #[.bool false,.slice none 0 0,.slice none 0 0] 64))
      have HBx:=bH (show BoxN3 wq ((u1.alloc (.cells #[.bool false,.slice none 0 0,.slice none 0 0] 64))) u1.heap.size from ⟨boxR_new (W:=u1) rfl false none 0 0 none 0 0,hx1.size⟩)
      have hx2:XF wq ((u1.alloc (.cells #[.bool false,.slice none 0 0,.slice none 0 0] 64))):=hx1.trans hy
      replace HAr:=bH (HAr.out.keep hy)
      replace HL5:=bH (HL5.out.keep hy)
      clear hy
      generalize (u1.alloc (.cells #[.bool false,.slice none 0 0,.slice none 0 0] 64))=u2 at *
      generalize u1.heap.size=lb at *
      refine hK.out _ _ (hx2) (fun hHeld=>?_)
      clear hK K
      (try go_frame)
      obtain ⟨c0,c1,c2,c3,c4,c5⟩:=HBx.out.box.facts
      refine ml 10 (h:=fun K hK=>?_)
      go_simp
      refine hK.out _ _ ?_
      clear hK K
      (try go_frame)
      obtain ⟨c0,c1,c2,c3,c4,c5⟩:=HBx.out.box.facts
      refine ml 11 (h:=fun K hK=>?_)
      go_simp
      refine hK.out _ _ ?_
      clear hK K
      (try go_frame)
      refine mdone (by kernel_rfl) ?_ _
      have hp:=HBx.out.box.put (neg:=n8) (no_int a8 l8 c8) (no_int a8' l8' c8')
      go_wp2
      go_meet
      exact ⟨lb,n8,a8,l8,c8,a8',l8',c8',rfl,rfl,hp.box,hp.rat HL5.out,(hx2.own hp.ext (fun k e=>by rw [e]; exact HBx.out.low)),(hp.ext.blk (blk_lt (blk_keep HQq.out.bp hx2)) (fun e=>typ_ne' ⟨_,blk_keep HQq.out.bp hx2⟩ ⟨_,HBx.out.box.1⟩ (by decide) e)).trans (blk_keep HQq.out.bp hx2)⟩
     ·go_simp
      have hy:XF u0 ((u0.alloc (.cells #[.bool false,.slice none 0 0,.slice none 0 0] 64))):=((Ext.refl (fun _=>False) u0).alloc (.cells #[.bool false,.slice none 0 0,.slice none 0 0] 64))
      have HBx:=bH (show BoxN3 wq ((u0.alloc (.cells #[.bool false,.slice none 0 0,.slice none 0 0] 64))) u0.heap.size from ⟨boxR_new (W:=u0) rfl false none 0 0 none 0 0,hx0.size⟩)
      have hx1:XF wq ((u0.alloc (.cells #[.bool false,.slice none 0 0,.slice none 0 0] 64))):=hx0.trans hy
      replace HAr:=bH (HAr.out.keep hy)
      clear hy
      generalize (u0.alloc (.cells #[.bool false,.slice none 0 0,.slice none 0 0] 64))=u1 at *
      generalize u0.heap.size=lb at *
      refine hK.out _ _ (hx1) (fun hHeld=>?_)
      clear hK K
      (try go_frame)
      refine mst 5 (h:=fun K hK=>?_)
      go_simp
      go_at_call 81
      with_reducible refine (HLs.out _ (hx1) _ HAr.out).mono ?_
      rintro r2 u2 ⟨v5,rfl,h5,hy⟩
      obtain ⟨n8,a8,l8,c8,a8',l8',c8',rfl⟩:=h5.shape
      have HL5:=bH h5
      clear h5
      replace HAr:=bH (HAr.out.keep hy)
      replace HBx:=bH (HBx.out.keep hy)
      have hx2:XF wq u2:=hx1.trans hy
      clear hy
      refine hK.out _ _ (hx2) (fun hHeld=>?_)
      clear hK K
      (try go_frame)
      refine mu 6 (h:=(mu 7 (h:=(mf 8 (h:=?_)))))
      (try go_frame)
      obtain ⟨c0,c1,c2,c3,c4,c5⟩:=HBx.out.box.facts
      refine ml 10 (h:=fun K hK=>?_)
      go_simp
      refine hK.out _ _ ?_
      clear hK K
      (try go_frame)
      obtain ⟨c0,c1,c2,c3,c4,c5⟩:=HBx.out.box.facts
      refine ml 11 (h:=fun K hK=>?_)
      go_simp
      refine hK.out _ _ ?_
      clear hK K
      (try go_frame)
      refine mdone (by kernel_rfl) ?_ _
      have hp:=HBx.out.box.put (neg:=n8) (no_int a8 l8 c8) (no_int a8' l8' c8')
      go_wp2
      go_meet
      exact ⟨lb,n8,a8,l8,c8,a8',l8',c8',rfl,rfl,hp.box,hp.rat HL5.out,(hx2.own hp.ext (fun k e=>by rw [e]; exact HBx.out.low)),(hp.ext.blk (blk_lt (blk_keep HQq.out.bp hx2)) (fun e=>typ_ne' ⟨_,blk_keep HQq.out.bp hx2⟩ ⟨_,HBx.out.box.1⟩ (by decide) e)).trans (blk_keep HQq.out.bp hx2)⟩
    ·go_simp
     have hy:XF wq ((wq.alloc (.cells #[.bool false,.slice none 0 0,.slice none 0 0] 64)).drew):=((Ext.refl (fun _=>False) wq).alloc (.cells #[.bool false,.slice none 0 0,.slice none 0 0] 64)).drew
     have HBx:=bH (show BoxN3 wq ((wq.alloc (.cells #[.bool false,.slice none 0 0,.slice none 0 0] 64)).drew) wq.heap.size from ⟨boxR_new (W:=wq) rfl false none 0 0 none 0 0,(Ext.refl (fun _=>False) wq).size⟩)
     have hx0:XF wq ((wq.alloc (.cells #[.bool false,.slice none 0 0,.slice none 0 0] 64)).drew):=hy
     clear hy
     generalize (wq.alloc (.cells #[.bool false,.slice none 0 0,.slice none 0 0] 64)).drew=u0 at *
     generalize wq.heap.size=lb at *
     refine hK.out _ _ (hx0) (fun hHeld=>?_)
     clear hK K
     (try go_frame)
     refine mst 4 (h:=fun K hK=>?_)
     go_simp
     go_at_call 82
     with_reducible refine (HCo.out _ (hx0)).mono ?_
     rintro r1 u1 ⟨B,rfl,hB0,h4,hy⟩
     have HAr:=bH h4
     clear h4 hB0
     replace HBx:=bH (HBx.out.keep hy)
     have hx1:XF wq u1:=hx0.trans hy
     clear hy
     refine hK.out _ _ (hx1) (fun hHeld=>?_)
     clear hK K
     (try go_frame)
     refine mst 5 (h:=fun K hK=>?_)
     go_simp
     go_at_call 81
     with_reducible refine (HLs.out _ (hx1) _ HAr.out).mono ?_
     rintro r2 u2 ⟨v5,rfl,h5,hy⟩
     obtain ⟨n8,a8,l8,c8,a8',l8',c8',rfl⟩:=h5.shape
     have HL5:=bH h5
     clear h5
     replace HBx:=bH (HBx.out.keep hy)
     replace HAr:=bH (HAr.out.keep hy)
     have hx2:XF wq u2:=hx1.trans hy
     clear hy
     refine hK.out _ _ (hx2) (fun hHeld=>?_)
     clear hK K
     (try go_frame)
     refine mu 6 (h:=(mu 7 (h:=(mf 8 (h:=?_)))))
     (try go_frame)
     obtain ⟨c0,c1,c2,c3,c4,c5⟩:=HBx.out.box.facts
     refine ml 10 (h:=fun K hK=>?_)
     go_simp
     refine hK.out _ _ ?_
     clear hK K
     (try go_frame)
     obtain ⟨c0,c1,c2,c3,c4,c5⟩:=HBx.out.box.facts
     refine ml 11 (h:=fun K hK=>?_)
     go_simp
     refine hK.out _ _ ?_
     clear hK K
     (try go_frame)
     refine mdone (by kernel_rfl) ?_ _
     have hp:=HBx.out.box.put (neg:=n8) (no_int a8 l8 c8) (no_int a8' l8' c8')
     go_wp2
     go_meet
     exact ⟨lb,n8,a8,l8,c8,a8',l8',c8',rfl,rfl,hp.box,hp.rat HL5.out,(hx2.own hp.ext (fun k e=>by rw [e]; exact HBx.out.low)),(hp.ext.blk (blk_lt (blk_keep HQq.out.bp hx2)) (fun e=>typ_ne' ⟨_,blk_keep HQq.out.bp hx2⟩ ⟨_,HBx.out.box.1⟩ (by decide) e)).trans (blk_keep HQq.out.bp hx2)⟩
   case rest =>
   obtain ⟨lb,n8,a8,l8,c8,a8',l8',c8',rfl,rfl,hb,hq,hx5,hbp⟩:=hcut
   obtain ⟨w5,rfl⟩:∃ x,x=wc:=⟨_,rfl⟩
   clear q0 q1 p0 p1
   have HX:=bH (HQq.out.ext.trans hx5)
   cases K with
   | false =>
    have HR:=bH (show isCovB p (p.r i) vs=false from by unfold isCovB; rw [HCk.out]; rfl)
    go_upto_region 10 with fail
    refine wp_region_held_drew (S:=(XF w5)) (by kernel_rfl) ((Ext.refl _ w5).drew) (fun hHeld=>?_)
    refine ht 0 (h:=(ht 1 (h:=?_)))
    (try go_frame)
    refine hk 2 (h:=?_)
    (try go_frame)
    refine hk 3 (h:=?_)
    (try go_frame)
    refine hk 4 (h:=(ht 5 (h:=(ht 6 (h:=?_)))))
    (try go_frame)
    refine hk 7 (h:=?_)
    (try go_frame)
    refine hk 8 (h:=?_)
    (try go_frame)
    refine hk 9 (h:=?_)
    (try go_frame)
    refine hk 10 (h:=?_)
    (try go_frame)
    refine hk 11 (h:=?_)
    (try go_frame)
    refine hk 12 (h:=?_)
    (try go_frame)
    refine hk 13 (h:=?_)
    (try go_frame)
    refine hk 14 (h:=?_)
    (try go_frame)
    refine hk 15 (h:=?_)
    (try go_frame)
    refine hk 16 (h:=?_)
    (try go_frame)
    refine hk 17 (h:=?_)
    (try go_frame)
    refine hk 18 (h:=(ht 19 (h:=(ht 20 (h:=?_)))))
    (try go_frame)
    refine wpAnyH_done (by kernel_rfl) ?_ _
    go_wp2
    go_ret
    exact ⟨ret_bool HR.out.symm,HX.out.trans hHeld⟩
   | true =>
    by_cases hs0:sl=0
    ·have HR:=bH (show isCovB p (p.r i) vs=false from by unfold isCovB; rw [HE.out.2.2.2.1,hs0]; simp)
     subst hs0
     go_upto_region 10 with fail
     refine wp_region_held_drew (S:=(XF w5)) (by kernel_rfl) ((Ext.refl _ w5).drew) (fun hHeld=>?_)
     refine ht 0 (h:=(ht 1 (h:=?_)))
     (try go_frame)
     refine ht 2 (h:=?_)
     (try go_frame)
     refine ht 3 (h:=?_)
     (try go_frame)
     refine ht 4 (h:=(ht 5 (h:=(ht 6 (h:=?_)))))
     (try go_frame)
     refine hk 7 (h:=?_)
     (try go_frame)
     refine hk 8 (h:=?_)
     (try go_frame)
     refine hk 9 (h:=?_)
     (try go_frame)
     refine hk 10 (h:=?_)
     (try go_frame)
     refine hk 11 (h:=?_)
     (try go_frame)
     refine hk 12 (h:=?_)
     (try go_frame)
     refine hk 13 (h:=?_)
     (try go_frame)
     refine hk 14 (h:=?_)
     (try go_frame)
     refine hk 15 (h:=?_)
     (try go_frame)
     refine hk 16 (h:=?_)
     (try go_frame)
     refine hk 17 (h:=?_)
     (try go_frame)
     refine hk 18 (h:=(ht 19 (h:=(ht 20 (h:=?_)))))
     (try go_frame)
     refine wpAnyH_done (by kernel_rfl) ?_ _
     go_wp2
     go_ret
     exact ⟨ret_bool HR.out.symm,HX.out.trans hHeld⟩
    ·have s0:(0:Int)<(sl:Int):=by omega
     have s1:0<sl:=by omega
     obtain ⟨PP,hPP⟩:∃ PP,SG*bd=PP:=⟨_,rfl⟩
     have hpi:-1099511627776<=PP/\PP<=1099511627776:=by
      rw [<- hPP]
      rcases hsgi with e | e <;> rw [e] <;> omega
     have hPw:IntKind.i64.wrap PP=PP:=IntWalk.i64_in _ (by omega)
     have HFb:=bH (fun W=>Rrfrom_any W PP (by omega) (by omega))
     have HCb:=bH (fun W (hW:XF w5 W) u (hu:IsRat W u (PP:Rat))=>Rrcmp_any W _ u _ _ 10000 ((hq.keep hW).reads HSz.out) (hu.reads ((Sz.int (k:=PP) ⟨by omega,by omega⟩).mono (by decide))) (by decide) (by decide))
     have HR:=bH (show isCovB p (p.r i) vs=decide (0<(SV - (PP:Rat)).num.sign) from by
      unfold isCovB
      rw [HCk.out,HE.out.2.2.2.1,decide_eq_true (show 0<sl by omega),Bool.and_true,if_pos rfl,<- hPP,Rat.intCast_mul]
      exact sgn_gt.symm)
     have l0:=cq hb.facts.1
     have l1:=cq hb.facts.2.1
     have l2:=cq hb.facts.2.2.1
     have p1:=cq (cellq hbp 1 rfl)
     have e4:=cq (cell_keep HE4.out HX.out)
     clear hb hq hbp hpi hsgi HCk HSz
     generalize (SV - (PP:Rat)).num.sign=X at *
     go_upto_region 10 with fail
     refine wp_region_held_drew (S:=(XF w5)) (by kernel_rfl) ((Ext.refl _ w5).drew) (fun hHeld=>?_)
     refine ht 0 (h:=(ht 1 (h:=?_)))
     (try go_frame)
     refine ht 2 (h:=?_)
     (try go_frame)
     refine ht 3 (h:=?_)
     (try go_frame)
     refine ht 4 (h:=(ht 5 (h:=(ht 6 (h:=?_)))))
     (try go_frame)
     refine ht 7 (h:=?_)
     (try go_frame)
     refine ht 8 (h:=?_)
     (try go_frame)
     refine ht 9 (h:=?_)
     (try go_frame)
     refine ht 10 (h:=?_)
     (try go_frame)
     refine ht 11 (h:=?_)
     (try go_frame)
     refine ht 12 (h:=?_)
     (try go_frame)
     refine ht 13 (h:=?_)
     (try go_frame)
     refine ht 14 (h:=?_)
     (try go_frame)
     refine ht 15 (h:=?_)
     (try go_frame)
     refine hst 16 (h:=fun K hK=>?_)
     (go_simp; go_at_call 31; (with_reducible refine (HFb.out _).mono ?_); rintro q1 w11 ⟨v11,rfl,h11,hx11⟩; have hX1:=hHeld.trans hx11; obtain ⟨n11,a11,l11,c11,a11',l11',c11',rfl⟩:=h11.shape)
     refine hK.out _ _ (hX1) (fun hHeld=>?_)
     clear hK K
     (try go_frame)
     refine hst 17 (h:=fun K hK=>?_)
     (go_simp; go_at_call 35; (with_reducible refine (HCb.out _ hX1 _ h11).mono ?_); rintro q3 w13 ⟨rfl,hx13⟩; have hX3:=hX1.trans hx13)
     refine hK.out _ _ (hX3) (fun hHeld=>?_)
     clear hK K
     (try go_frame)
     refine ht 18 (h:=(ht 19 (h:=(ht 20 (h:=?_)))))
     (try go_frame)
     refine wpAnyH_done (by kernel_rfl) ?_ _
     go_wp2
     go_ret
     exact ⟨ret_bool HR.out.symm,HX.out.trans hX3⟩
def inRB (z:Int):Bool:=decide (-9223372036854775808<=z) && decide (z<=9223372036854775807)
def toR (z:Int):Int:=if inRB z then z else 0
theorem toR_in {z:Int} (h:inRB z=true):toR z=z:=if_pos h
theorem toR_out {z:Int} (h:inRB z=false):toR z=0:=by unfold toR; rw [h]; rfl
def I64Post (w:World) (z:Int) (r:Ending) (w':World):Prop:=r=.returned (.tuple #[.int .i64 (toR z),.bool (inRB z)])/\XF w w'
theorem inRB_neg {n:Nat}:inRB (sg true n)=decide ((n:Int)<=9223372036854775808):=by
 unfold inRB sg
 rw [if_pos rfl]
 rw [show decide (-(n:Int)<=9223372036854775807)=true from decide_eq_true (by omega),Bool.and_true]
 exact decide_eq_decide.2 (by omega)
theorem inRB_pos {n:Nat}:inRB (sg false n)=decide ((n:Int)<9223372036854775808):=by
 unfold inRB sg
 rw [if_neg (by decide)]
 rw [show decide (-9223372036854775808<=(n:Int))=true from decide_eq_true (by omega),Bool.true_and]
 exact decide_eq_decide.2 (by omega)
theorem iint64_any (w:World) (v:Value) (z:Int) (L:Nat) (h:Rint w v z L):Calls Tryz.prog 209 #[v] w (I64Post w z):=by
 obtain ⟨neg,ao,m,c,l,rfl,hr,-,hz⟩:=h.open
 clear h
 have HU:=bH (fun W (hW:XF w W)=>uint_any W _ l (hr.keep hW))
 clear hr
 generalize vl l=n at *
 have HX:=bH ((Ext.refl (fun _=>False) w).alloc (.cells #[.bool neg,.slice ao m c] 62))
 unfold I64Post
 cases neg with
 | true =>
  have HI:=bH (inRB_neg (n:=n))
  rw [<- hz] at HI
  have HZ:=bH hz
  clear hz
  by_cases h1:n<18446744073709551616
  ·rw [if_pos h1,decide_eq_true h1] at HU
   by_cases h2:(n:Int)<=9223372036854775808
   ·have HV:=bH (show toR z = -(n:Int)/\inRB z=true from by
     have hb:inRB z=true:=by rw [HI.out]; exact decide_eq_true h2
     exact ⟨(toR_in hb).trans (by rw [HZ.out]; rfl),hb⟩)
    rw [HV.out.1,HV.out.2]
    clear HI HZ HV
    have HW:=bH (show wrap64 (IntKind.u64.wrap (-(n:Int))) = -(n:Int) from by
     simp [wrap64,IntKind.wrap,IntKind.bits,IntKind.signed]; omega)
    have h5:decide ((n:Int)<=9223372036854775808)=true:=decide_eq_true h2
    go_enter Tryz.func209,Tryz.ntmps209
    go_wp2_with fail
    refine (HU.out _ HX.out).mono ?_
    rintro r w' ⟨rfl,hw⟩; obtain rfl:=hw.symm
    clear hw
    go_wp2
    rw [HW.out]
    go_ret2
    exact ⟨rfl,HX.out⟩
   ·have HV:=bH (show toR z=0/\inRB z=false from by
     have hb:inRB z=false:=by rw [HI.out]; exact decide_eq_false h2
     exact ⟨toR_out hb,hb⟩)
    rw [HV.out.1,HV.out.2]
    clear HI HZ HV
    have h5:decide ((n:Int)<=9223372036854775808)=false:=decide_eq_false h2
    go_enter Tryz.func209,Tryz.ntmps209
    go_wp2_with fail
    refine (HU.out _ HX.out).mono ?_
    rintro r w' ⟨rfl,hw⟩; obtain rfl:=hw.symm
    clear hw
    go_wp2
    go_ret2
    exact ⟨rfl,HX.out⟩
  ·rw [if_neg h1,decide_eq_false h1] at HU
   have HV:=bH (show toR z=0/\inRB z=false from by
    have hb:inRB z=false:=by rw [HI.out]; exact decide_eq_false (by omega)
    exact ⟨toR_out hb,hb⟩)
   rw [HV.out.1,HV.out.2]
   clear HI HZ HV
   go_enter Tryz.func209,Tryz.ntmps209
   go_wp2_with fail
   refine (HU.out _ HX.out).mono ?_
   rintro r w' ⟨rfl,hw⟩; obtain rfl:=hw.symm
   clear hw
   go_wp2
   go_ret2
   exact ⟨rfl,HX.out⟩
 | false =>
  have HI:=bH (inRB_pos (n:=n))
  rw [<- hz] at HI
  have HZ:=bH hz
  clear hz
  by_cases h1:n<18446744073709551616
  ·rw [if_pos h1,decide_eq_true h1] at HU
   by_cases h2:(n:Int)<9223372036854775808
   ·have HV:=bH (show toR z=(n:Int)/\inRB z=true from by
     have hb:inRB z=true:=by rw [HI.out]; exact decide_eq_true h2
     exact ⟨(toR_in hb).trans (by rw [HZ.out]; rfl),hb⟩)
    rw [HV.out.1,HV.out.2]
    clear HI HZ HV
    have HW:=bH (show wrap64 (n:Int)=(n:Int) from by
     simp [wrap64]; omega)
    have h5:decide ((n:Int)<9223372036854775808)=true:=decide_eq_true h2
    go_enter Tryz.func209,Tryz.ntmps209
    go_wp2_with fail
    refine (HU.out _ HX.out).mono ?_
    rintro r w' ⟨rfl,hw⟩; obtain rfl:=hw.symm
    clear hw
    go_wp2
    (try rw [HW.out])
    go_ret2
    exact ⟨rfl,HX.out⟩
   ·have HV:=bH (show toR z=0/\inRB z=false from by
     have hb:inRB z=false:=by rw [HI.out]; exact decide_eq_false h2
     exact ⟨toR_out hb,hb⟩)
    rw [HV.out.1,HV.out.2]
    clear HI HZ HV
    have h5:decide ((n:Int)<9223372036854775808)=false:=decide_eq_false h2
    go_enter Tryz.func209,Tryz.ntmps209
    go_wp2_with fail
    refine (HU.out _ HX.out).mono ?_
    rintro r w' ⟨rfl,hw⟩; obtain rfl:=hw.symm
    clear hw
    go_wp2
    go_ret2
    exact ⟨rfl,HX.out⟩
  ·rw [if_neg h1,decide_eq_false h1] at HU
   have HV:=bH (show toR z=0/\inRB z=false from by
    have hb:inRB z=false:=by rw [HI.out]; exact decide_eq_false (by omega)
    exact ⟨toR_out hb,hb⟩)
   rw [HV.out.1,HV.out.2]
   clear HI HZ HV
   go_enter Tryz.func209,Tryz.ntmps209
   go_wp2_with fail
   refine (HU.out _ HX.out).mono ?_
   rintro r w' ⟨rfl,hw⟩; obtain rfl:=hw.symm
   clear hw
   go_wp2
   go_ret2
   exact ⟨rfl,HX.out⟩
theorem rint64_any (w:World) (n1:Bool) (a1:Option Addr) (l1 c1:Nat) (x1:Option Addr) (y1 k1:Nat) (z:Int) (L:Nat) (h:Rint w (.agg #[.bool n1,.slice a1 l1 c1]) z L) (hd:Rds w (.slice x1 y1 k1) []) (h0:1<=L) (hL:L<=4194304) :
  Calls Tryz.prog 170 #[.agg #[.bool n1,.slice a1 l1 c1,.slice x1 y1 k1]] w (I64Post w z):=by
 have HDn:=bH (fun W (hW:XF w W)=>den_any W _ n1 a1 l1 c1 x1 y1 k1 [] L rfl (hd.keep hW) (by simp) (by omega) h0)
 rw [show ((dn (vl []):Nat):Int)=1 from rfl] at HDn
 have HFl:=bH (fun W (hW:XF w W) u (hu:Rint W u 1 L)=>quo_any W _ u _ _ L (h.keep hW) hu (by decide) (by omega))
 unfold QuoPost at HFl
 rw [Int.tdiv_one,Int.mul_one,Int.sub_self] at HFl
 have HIi:=bH (fun W u (hu:IsInt W u z)=>iint64_any W u z L (hu.reads h.len))
 have HSg:=bH (fun W u (hu:IsInt W u 0)=>isign_any W u 0 1 (hu.reads (by rw [show (0:Int).natAbs=0 from rfl,dg_zero]; decide)) (by omega))
 rw [show (0:Int).sign=0 from rfl] at HSg
 clear h hd
 unfold I64Post at *
 generalize toR z=t at *
 generalize inRB z=b at *
 go_enter Tryz.func170,Tryz.ntmps170
 go_upto_region 0 with fail
 go_cut [1,2,3] (fun v1 v2 v3 wx=>∃ b1,v1=.pointer (some ⟨b1,0,none⟩)/\v2=.int .i64 0/\v3=.bool false/\BoxR wx b1 n1 (.slice a1 l1 c1) (.slice x1 y1 k1)/\XF w wx)
 case first =>
  go_wp2
  go_meet
  exact ⟨_,rfl,rfl,rfl,boxR_new rfl n1 a1 l1 c1 x1 y1 k1,(Ext.refl _ w).alloc _⟩
 case rest =>
  obtain ⟨b1,rfl,rfl,rfl,hb1,hx⟩:=hcut
  obtain ⟨wq,rfl⟩:∃ x,x=wc:=⟨_,rfl⟩
  have HB:=bH (bI hb1 hx)
  clear hb1 hx
  replace HDn:=bH (fun W (hW:XF wq W)=>HDn.out W (HB.out.2.trans hW))
  replace HFl:=bH (fun W (hW:XF wq W)=>HFl.out W (HB.out.2.trans hW))
  have b0:=cq HB.out.1.facts.1
  have b1':=cq HB.out.1.facts.2.1
  have b2:=cq HB.out.1.facts.2.2.1
  go_upto_region 1 with fail
  go_cut [4,5] (fun v4 v5 wx=>∃ s9 s10 ng qo qn qc mg mo mn mc,v4=.pointer (some ⟨s9,0,none⟩)/\v5=.pointer (some ⟨s10,0,none⟩)/\BoxI wx s9 ng (.slice qo qn qc)/\BoxI wx s10 mg (.slice mo mn mc)/\IsInt wx (.agg #[.bool ng,.slice qo qn qc]) z/\IsInt wx (.agg #[.bool mg,.slice mo mn mc]) 0/\XF wq wx)
  case first =>
   refine mbegin 11 (XF wq) (by kernel_rfl) ((Ext.refl _ wq).drew) (fun hHeld=>?_)
   refine mu 0 (h:=(mu 1 (h:=(mu 2 (h:=?_)))))
   (try go_frame)
   refine mthree 3 9 10 rfl rfl rfl (by kernel_rfl) (fun K hK=>?_) (fun K hK=>?_) (fun K hK=>?_)
   ·go_simp
    go_at_call 133
    with_reducible refine (HDn.out _ ((Ext.refl _ wq).drew)).mono ?_
    rintro r0 u0 ⟨v3,rfl,h3,hy⟩
    have HV3:=bH h3
    clear h3
    replace hy:=(Ext.refl (fun _=>False) wq).drew.trans hy
    have hx0:XF wq u0:=hy
    clear hy
    refine hK.out _ _ (hx0) (fun hHeld=>?_)
    clear hK K
    (try go_frame)
    refine mthree 4 9 10 rfl rfl rfl (by kernel_rfl) (fun K hK=>?_) (fun K hK=>?_) (fun K hK=>?_)
    ·go_simp
     go_at_call 204
     with_reducible refine (HFl.out _ (hx0) _ HV3.out).mono ?_
     rintro r1 u1 ⟨q4,m4,rfl,h4,hm4,hy⟩
     obtain ⟨ng,qo,qn,qc,rfl⟩:=h4.shape
     obtain ⟨mg,mo,mn,mc,rfl⟩:=hm4.shape
     have HQ4:=bH h4
     have HM4:=bH hm4
     clear h4 hm4
     replace HV3:=bH (HV3.out.keep hy)
     have hx1:XF wq u1:=hx0.trans hy
     clear hy
     refine hK.out _ _ (hx1) (fun hHeld=>?_)
     clear hK K
     (try go_frame)
     refine mu 5 (h:=(mu 6 (h:=(mf 7 (h:=(mf 8 (h:=?_)))))))
     (try go_frame)
     refine mtwo 9 10 rfl rfl (by kernel_rfl) (fun K hK=>?_) (fun K hK=>?_)
     ·go_simp
      have hy:XF u1 ((u1.alloc (.cells #[.bool false,.slice none 0 0] 62))):=((Ext.refl (fun _=>False) u1).alloc (.cells #[.bool false,.slice none 0 0] 62))
      have HO9:=bH (BoxN.new (w0:=wq) (W:=(u1.alloc (.cells #[.bool false,.slice none 0 0] 62))) hx1.size (show BoxI ((u1.alloc (.cells #[.bool false,.slice none 0 0] 62))) u1.heap.size false (.slice none 0 0) from boxI_new (W:=u1) rfl false none 0 0))
      have hx2:XF wq ((u1.alloc (.cells #[.bool false,.slice none 0 0] 62))):=hx1.trans hy
      replace HV3:=bH (HV3.out.keep hy)
      replace HQ4:=bH (HQ4.out.keep hy)
      replace HM4:=bH (HM4.out.keep hy)
      clear hy
      generalize (u1.alloc (.cells #[.bool false,.slice none 0 0] 62))=u2 at *
      generalize u1.heap.size=s9 at *
      refine hK.out _ _ (hx2) (fun hHeld=>?_)
      clear hK K
      (try go_frame)
      refine mst 10 (h:=fun K hK=>?_)
      go_simp
      have hy:XF u2 ((u2.alloc (.cells #[.bool false,.slice none 0 0] 62))):=((Ext.refl (fun _=>False) u2).alloc (.cells #[.bool false,.slice none 0 0] 62))
      have HO10:=bH (BoxN.new (w0:=wq) (W:=(u2.alloc (.cells #[.bool false,.slice none 0 0] 62))) hx2.size (show BoxI ((u2.alloc (.cells #[.bool false,.slice none 0 0] 62))) u2.heap.size false (.slice none 0 0) from boxI_new (W:=u2) rfl false none 0 0))
      have HNE:=bH (show s9≠u2.heap.size from Nat.ne_of_lt HO9.out.box.lt)
      have hx3:XF wq ((u2.alloc (.cells #[.bool false,.slice none 0 0] 62))):=hx2.trans hy
      replace HV3:=bH (HV3.out.keep hy)
      replace HQ4:=bH (HQ4.out.keep hy)
      replace HM4:=bH (HM4.out.keep hy)
      replace HO9:=bH (HO9.out.keep hy)
      clear hy
      generalize (u2.alloc (.cells #[.bool false,.slice none 0 0] 62))=u3 at *
      generalize u2.heap.size=s10 at *
      refine hK.out _ _ (hx3) (fun hHeld=>?_)
      clear hK K
      (try go_frame)
      obtain ⟨c0,c1,c2,c3⟩:=HO9.out.box.facts
      obtain ⟨d0,d1,d2,d3⟩:=HO10.out.box.facts
      refine ml 11 (h:=fun K hK=>?_)
      go_simp
      refine hK.out _ _ ?_
      clear hK K
      (try go_frame)
      have hp9:=HO9.out.box.put (neg:=ng) (no_int qo qn qc)
      obtain ⟨e0,e1,e2,e3⟩:=(HO10.out.box.ext hp9.ext (fun e=>HNE.out e.symm)).facts
      refine ml 12 (h:=fun K hK=>?_)
      go_simp
      refine hK.out _ _ ?_
      clear hK K
      (try go_frame)
      have hp9:=HO9.out.box.put (neg:=ng) (no_int qo qn qc)
      obtain ⟨e0,e1,e2,e3⟩:=(HO10.out.box.ext hp9.ext (fun e=>HNE.out e.symm)).facts
      refine ml 13 (h:=fun K hK=>?_)
      go_simp
      refine hK.out _ _ ?_
      clear hK K
      (try go_frame)
      refine mdone (by kernel_rfl) ?_ _
      have hp10:=(HO10.out.box.ext hp9.ext (fun e=>HNE.out e.symm)).put (neg:=mg) (no_int mo mn mc)
      go_wp2
      go_meet
      exact ⟨s9,s10,ng,qo,qn,qc,mg,mo,mn,mc,rfl,rfl,hp9.box.ext hp10.ext HNE.out,hp10.box,hp10.int (hp9.int HQ4.out),hp10.int (hp9.int HM4.out),(hx3.own hp9.ext (fun k e=>by rw [e]; exact HO9.out.low)).own hp10.ext (fun k e=>by rw [e]; exact HO10.out.low)⟩
     ·go_simp
      have hy:XF u1 ((u1.alloc (.cells #[.bool false,.slice none 0 0] 62))):=((Ext.refl (fun _=>False) u1).alloc (.cells #[.bool false,.slice none 0 0] 62))
      have HO10:=bH (BoxN.new (w0:=wq) (W:=(u1.alloc (.cells #[.bool false,.slice none 0 0] 62))) hx1.size (show BoxI ((u1.alloc (.cells #[.bool false,.slice none 0 0] 62))) u1.heap.size false (.slice none 0 0) from boxI_new (W:=u1) rfl false none 0 0))
      have hx2:XF wq ((u1.alloc (.cells #[.bool false,.slice none 0 0] 62))):=hx1.trans hy
      replace HV3:=bH (HV3.out.keep hy)
      replace HQ4:=bH (HQ4.out.keep hy)
      replace HM4:=bH (HM4.out.keep hy)
      clear hy
      generalize (u1.alloc (.cells #[.bool false,.slice none 0 0] 62))=u2 at *
      generalize u1.heap.size=s10 at *
      refine hK.out _ _ (hx2) (fun hHeld=>?_)
      clear hK K
      (try go_frame)
      refine mst 9 (h:=fun K hK=>?_)
      go_simp
      have hy:XF u2 ((u2.alloc (.cells #[.bool false,.slice none 0 0] 62))):=((Ext.refl (fun _=>False) u2).alloc (.cells #[.bool false,.slice none 0 0] 62))
      have HO9:=bH (BoxN.new (w0:=wq) (W:=(u2.alloc (.cells #[.bool false,.slice none 0 0] 62))) hx2.size (show BoxI ((u2.alloc (.cells #[.bool false,.slice none 0 0] 62))) u2.heap.size false (.slice none 0 0) from boxI_new (W:=u2) rfl false none 0 0))
      have HNE:=bH (show s10≠u2.heap.size from Nat.ne_of_lt HO10.out.box.lt)
      have hx3:XF wq ((u2.alloc (.cells #[.bool false,.slice none 0 0] 62))):=hx2.trans hy
      replace HV3:=bH (HV3.out.keep hy)
      replace HQ4:=bH (HQ4.out.keep hy)
      replace HM4:=bH (HM4.out.keep hy)
      replace HO10:=bH (HO10.out.keep hy)
      clear hy
      generalize (u2.alloc (.cells #[.bool false,.slice none 0 0] 62))=u3 at *
      generalize u2.heap.size=s9 at *
      replace HNE:=bH (Ne.symm HNE.out)
      refine hK.out _ _ (hx3) (fun hHeld=>?_)
      clear hK K
      (try go_frame)
      obtain ⟨c0,c1,c2,c3⟩:=HO9.out.box.facts
      obtain ⟨d0,d1,d2,d3⟩:=HO10.out.box.facts
      refine ml 11 (h:=fun K hK=>?_)
      go_simp
      refine hK.out _ _ ?_
      clear hK K
      (try go_frame)
      have hp9:=HO9.out.box.put (neg:=ng) (no_int qo qn qc)
      obtain ⟨e0,e1,e2,e3⟩:=(HO10.out.box.ext hp9.ext (fun e=>HNE.out e.symm)).facts
      refine ml 12 (h:=fun K hK=>?_)
      go_simp
      refine hK.out _ _ ?_
      clear hK K
      (try go_frame)
      have hp9:=HO9.out.box.put (neg:=ng) (no_int qo qn qc)
      obtain ⟨e0,e1,e2,e3⟩:=(HO10.out.box.ext hp9.ext (fun e=>HNE.out e.symm)).facts
      refine ml 13 (h:=fun K hK=>?_)
      go_simp
      refine hK.out _ _ ?_
      clear hK K
      (try go_frame)
      refine mdone (by kernel_rfl) ?_ _
      have hp10:=(HO10.out.box.ext hp9.ext (fun e=>HNE.out e.symm)).put (neg:=mg) (no_int mo mn mc)
      go_wp2
      go_meet
      exact ⟨s9,s10,ng,qo,qn,qc,mg,mo,mn,mc,rfl,rfl,hp9.box.ext hp10.ext HNE.out,hp10.box,hp10.int (hp9.int HQ4.out),hp10.int (hp9.int HM4.out),(hx3.own hp9.ext (fun k e=>by rw [e]; exact HO9.out.low)).own hp10.ext (fun k e=>by rw [e]; exact HO10.out.low)⟩
    ·go_simp
     have hy:XF u0 ((u0.alloc (.cells #[.bool false,.slice none 0 0] 62))):=((Ext.refl (fun _=>False) u0).alloc (.cells #[.bool false,.slice none 0 0] 62))
     have HO9:=bH (BoxN.new (w0:=wq) (W:=(u0.alloc (.cells #[.bool false,.slice none 0 0] 62))) hx0.size (show BoxI ((u0.alloc (.cells #[.bool false,.slice none 0 0] 62))) u0.heap.size false (.slice none 0 0) from boxI_new (W:=u0) rfl false none 0 0))
     have hx1:XF wq ((u0.alloc (.cells #[.bool false,.slice none 0 0] 62))):=hx0.trans hy
     replace HV3:=bH (HV3.out.keep hy)
     clear hy
     generalize (u0.alloc (.cells #[.bool false,.slice none 0 0] 62))=u1 at *
     generalize u0.heap.size=s9 at *
     refine hK.out _ _ (hx1) (fun hHeld=>?_)
     clear hK K
     (try go_frame)
     refine mtwo 4 10 rfl rfl (by kernel_rfl) (fun K hK=>?_) (fun K hK=>?_)
     ·go_simp
      go_at_call 204
      with_reducible refine (HFl.out _ (hx1) _ HV3.out).mono ?_
      rintro r2 u2 ⟨q4,m4,rfl,h4,hm4,hy⟩
      obtain ⟨ng,qo,qn,qc,rfl⟩:=h4.shape
      obtain ⟨mg,mo,mn,mc,rfl⟩:=hm4.shape
      have HQ4:=bH h4
      have HM4:=bH hm4
      clear h4 hm4
      replace HV3:=bH (HV3.out.keep hy)
      replace HO9:=bH (HO9.out.keep hy)
      have hx2:XF wq u2:=hx1.trans hy
      clear hy
      refine hK.out _ _ (hx2) (fun hHeld=>?_)
      clear hK K
      (try go_frame)
      refine mu 5 (h:=(mu 6 (h:=(mf 7 (h:=(mf 8 (h:=?_)))))))
      (try go_frame)
      refine mst 10 (h:=fun K hK=>?_)
      go_simp
      have hy:XF u2 ((u2.alloc (.cells #[.bool false,.slice none 0 0] 62))):=((Ext.refl (fun _=>False) u2).alloc (.cells #[.bool false,.slice none 0 0] 62))
      have HO10:=bH (BoxN.new (w0:=wq) (W:=(u2.alloc (.cells #[.bool false,.slice none 0 0] 62))) hx2.size (show BoxI ((u2.alloc (.cells #[.bool false,.slice none 0 0] 62))) u2.heap.size false (.slice none 0 0) from boxI_new (W:=u2) rfl false none 0 0))
      have HNE:=bH (show s9≠u2.heap.size from Nat.ne_of_lt HO9.out.box.lt)
      have hx3:XF wq ((u2.alloc (.cells #[.bool false,.slice none 0 0] 62))):=hx2.trans hy
      replace HV3:=bH (HV3.out.keep hy)
      replace HO9:=bH (HO9.out.keep hy)
      replace HQ4:=bH (HQ4.out.keep hy)
      replace HM4:=bH (HM4.out.keep hy)
      clear hy
      generalize (u2.alloc (.cells #[.bool false,.slice none 0 0] 62))=u3 at *
      generalize u2.heap.size=s10 at *
      refine hK.out _ _ (hx3) (fun hHeld=>?_)
      clear hK K
      (try go_frame)
      obtain ⟨c0,c1,c2,c3⟩:=HO9.out.box.facts
      obtain ⟨d0,d1,d2,d3⟩:=HO10.out.box.facts
      refine ml 11 (h:=fun K hK=>?_)
      go_simp
      refine hK.out _ _ ?_
      clear hK K
      (try go_frame)
      have hp9:=HO9.out.box.put (neg:=ng) (no_int qo qn qc)
      obtain ⟨e0,e1,e2,e3⟩:=(HO10.out.box.ext hp9.ext (fun e=>HNE.out e.symm)).facts
      refine ml 12 (h:=fun K hK=>?_)
      go_simp
      refine hK.out _ _ ?_
      clear hK K
      (try go_frame)
      have hp9:=HO9.out.box.put (neg:=ng) (no_int qo qn qc)
      obtain ⟨e0,e1,e2,e3⟩:=(HO10.out.box.ext hp9.ext (fun e=>HNE.out e.symm)).facts
      refine ml 13 (h:=fun K hK=>?_)
      go_simp
      refine hK.out _ _ ?_
      clear hK K
      (try go_frame)
      refine mdone (by kernel_rfl) ?_ _
      have hp10:=(HO10.out.box.ext hp9.ext (fun e=>HNE.out e.symm)).put (neg:=mg) (no_int mo mn mc)
      go_wp2
      go_meet
      exact ⟨s9,s10,ng,qo,qn,qc,mg,mo,mn,mc,rfl,rfl,hp9.box.ext hp10.ext HNE.out,hp10.box,hp10.int (hp9.int HQ4.out),hp10.int (hp9.int HM4.out),(hx3.own hp9.ext (fun k e=>by rw [e]; exact HO9.out.low)).own hp10.ext (fun k e=>by rw [e]; exact HO10.out.low)⟩
     ·go_simp
      have hy:XF u1 ((u1.alloc (.cells #[.bool false,.slice none 0 0] 62))):=((Ext.refl (fun _=>False) u1).alloc (.cells #[.bool false,.slice none 0 0] 62))
      have HO10:=bH (BoxN.new (w0:=wq) (W:=(u1.alloc (.cells #[.bool false,.slice none 0 0] 62))) hx1.size (show BoxI ((u1.alloc (.cells #[.bool false,.slice none 0 0] 62))) u1.heap.size false (.slice none 0 0) from boxI_new (W:=u1) rfl false none 0 0))
      have HNE:=bH (show s9≠u1.heap.size from Nat.ne_of_lt HO9.out.box.lt)
      have hx2:XF wq ((u1.alloc (.cells #[.bool false,.slice none 0 0] 62))):=hx1.trans hy
      replace HV3:=bH (HV3.out.keep hy)
      replace HO9:=bH (HO9.out.keep hy)
      clear hy
      generalize (u1.alloc (.cells #[.bool false,.slice none 0 0] 62))=u2 at *
      generalize u1.heap.size=s10 at *
      refine hK.out _ _ (hx2) (fun hHeld=>?_)
      clear hK K
      (try go_frame)
      refine mst 4 (h:=fun K hK=>?_)
      go_simp
      go_at_call 204
      with_reducible refine (HFl.out _ (hx2) _ HV3.out).mono ?_
      rintro r3 u3 ⟨q4,m4,rfl,h4,hm4,hy⟩
      obtain ⟨ng,qo,qn,qc,rfl⟩:=h4.shape
      obtain ⟨mg,mo,mn,mc,rfl⟩:=hm4.shape
      have HQ4:=bH h4
      have HM4:=bH hm4
      clear h4 hm4
      replace HV3:=bH (HV3.out.keep hy)
      replace HO9:=bH (HO9.out.keep hy)
      replace HO10:=bH (HO10.out.keep hy)
      have hx3:XF wq u3:=hx2.trans hy
      clear hy
      refine hK.out _ _ (hx3) (fun hHeld=>?_)
      clear hK K
      (try go_frame)
      refine mu 5 (h:=(mu 6 (h:=(mf 7 (h:=(mf 8 (h:=?_)))))))
      (try go_frame)
      obtain ⟨c0,c1,c2,c3⟩:=HO9.out.box.facts
      obtain ⟨d0,d1,d2,d3⟩:=HO10.out.box.facts
      refine ml 11 (h:=fun K hK=>?_)
      go_simp
      refine hK.out _ _ ?_
      clear hK K
      (try go_frame)
      have hp9:=HO9.out.box.put (neg:=ng) (no_int qo qn qc)
      obtain ⟨e0,e1,e2,e3⟩:=(HO10.out.box.ext hp9.ext (fun e=>HNE.out e.symm)).facts
      refine ml 12 (h:=fun K hK=>?_)
      go_simp
      refine hK.out _ _ ?_
      clear hK K
      (try go_frame)
      have hp9:=HO9.out.box.put (neg:=ng) (no_int qo qn qc)
      obtain ⟨e0,e1,e2,e3⟩:=(HO10.out.box.ext hp9.ext (fun e=>HNE.out e.symm)).facts
      refine ml 13 (h:=fun K hK=>?_)
      go_simp
      refine hK.out _ _ ?_
      clear hK K
      (try go_frame)
      refine mdone (by kernel_rfl) ?_ _
      have hp10:=(HO10.out.box.ext hp9.ext (fun e=>HNE.out e.symm)).put (neg:=mg) (no_int mo mn mc)
      go_wp2
      go_meet
      exact ⟨s9,s10,ng,qo,qn,qc,mg,mo,mn,mc,rfl,rfl,hp9.box.ext hp10.ext HNE.out,hp10.box,hp10.int (hp9.int HQ4.out),hp10.int (hp9.int HM4.out),(hx3.own hp9.ext (fun k e=>by rw [e]; exact HO9.out.low)).own hp10.ext (fun k e=>by rw [e]; exact HO10.out.low)⟩
    ·go_simp
     have hy:XF u0 ((u0.alloc (.cells #[.bool false,.slice none 0 0] 62))):=((Ext.refl (fun _=>False) u0).alloc (.cells #[.bool false,.slice none 0 0] 62))
     have HO10:=bH (BoxN.new (w0:=wq) (W:=(u0.alloc (.cells #[.bool false,.slice none 0 0] 62))) hx0.size (show BoxI ((u0.alloc (.cells #[.bool false,.slice none 0 0] 62))) u0.heap.size false (.slice none 0 0) from boxI_new (W:=u0) rfl false none 0 0))
     have hx1:XF wq ((u0.alloc (.cells #[.bool false,.slice none 0 0] 62))):=hx0.trans hy
     replace HV3:=bH (HV3.out.keep hy)
     clear hy
     generalize (u0.alloc (.cells #[.bool false,.slice none 0 0] 62))=u1 at *
     generalize u0.heap.size=s10 at *
     refine hK.out _ _ (hx1) (fun hHeld=>?_)
     clear hK K
     (try go_frame)
     refine mtwo 4 9 rfl rfl (by kernel_rfl) (fun K hK=>?_) (fun K hK=>?_)
     ·go_simp
      go_at_call 204
      with_reducible refine (HFl.out _ (hx1) _ HV3.out).mono ?_
      rintro r2 u2 ⟨q4,m4,rfl,h4,hm4,hy⟩
      obtain ⟨ng,qo,qn,qc,rfl⟩:=h4.shape
      obtain ⟨mg,mo,mn,mc,rfl⟩:=hm4.shape
      have HQ4:=bH h4
      have HM4:=bH hm4
      clear h4 hm4
      replace HV3:=bH (HV3.out.keep hy)
      replace HO10:=bH (HO10.out.keep hy)
      have hx2:XF wq u2:=hx1.trans hy
      clear hy
      refine hK.out _ _ (hx2) (fun hHeld=>?_)
      clear hK K
      (try go_frame)
      refine mu 5 (h:=(mu 6 (h:=(mf 7 (h:=(mf 8 (h:=?_)))))))
      (try go_frame)
      refine mst 9 (h:=fun K hK=>?_)
      go_simp
      have hy:XF u2 ((u2.alloc (.cells #[.bool false,.slice none 0 0] 62))):=((Ext.refl (fun _=>False) u2).alloc (.cells #[.bool false,.slice none 0 0] 62))
      have HO9:=bH (BoxN.new (w0:=wq) (W:=(u2.alloc (.cells #[.bool false,.slice none 0 0] 62))) hx2.size (show BoxI ((u2.alloc (.cells #[.bool false,.slice none 0 0] 62))) u2.heap.size false (.slice none 0 0) from boxI_new (W:=u2) rfl false none 0 0))
      have HNE:=bH (show s10≠u2.heap.size from Nat.ne_of_lt HO10.out.box.lt)
      have hx3:XF wq ((u2.alloc (.cells #[.bool false,.slice none 0 0] 62))):=hx2.trans hy
      replace HV3:=bH (HV3.out.keep hy)
      replace HO10:=bH (HO10.out.keep hy)
      replace HQ4:=bH (HQ4.out.keep hy)
      replace HM4:=bH (HM4.out.keep hy)
      clear hy
      generalize (u2.alloc (.cells #[.bool false,.slice none 0 0] 62))=u3 at *
      generalize u2.heap.size=s9 at *
      replace HNE:=bH (Ne.symm HNE.out)
      refine hK.out _ _ (hx3) (fun hHeld=>?_)
      clear hK K
      (try go_frame)
      obtain ⟨c0,c1,c2,c3⟩:=HO9.out.box.facts
      obtain ⟨d0,d1,d2,d3⟩:=HO10.out.box.facts
      refine ml 11 (h:=fun K hK=>?_)
      go_simp
      refine hK.out _ _ ?_
      clear hK K
      (try go_frame)
      have hp9:=HO9.out.box.put (neg:=ng) (no_int qo qn qc)
      obtain ⟨e0,e1,e2,e3⟩:=(HO10.out.box.ext hp9.ext (fun e=>HNE.out e.symm)).facts
      refine ml 12 (h:=fun K hK=>?_)
      go_simp
      refine hK.out _ _ ?_
      clear hK K
      (try go_frame)
      have hp9:=HO9.out.box.put (neg:=ng) (no_int qo qn qc)
      obtain ⟨e0,e1,e2,e3⟩:=(HO10.out.box.ext hp9.ext (fun e=>HNE.out e.symm)).facts
      refine ml 13 (h:=fun K hK=>?_)
      go_simp
      refine hK.out _ _ ?_
      clear hK K
      (try go_frame)
      refine mdone (by kernel_rfl) ?_ _
      have hp10:=(HO10.out.box.ext hp9.ext (fun e=>HNE.out e.symm)).put (neg:=mg) (no_int mo mn mc)
      go_wp2
      go_meet
      exact ⟨s9,s10,ng,qo,qn,qc,mg,mo,mn,mc,rfl,rfl,hp9.box.ext hp10.ext HNE.out,hp10.box,hp10.int (hp9.int HQ4.out),hp10.int (hp9.int HM4.out),(hx3.own hp9.ext (fun k e=>by rw [e]; exact HO9.out.low)).own hp10.ext (fun k e=>by rw [e]; exact HO10.out.low)⟩
     ·go_simp
      have hy:XF u1 ((u1.alloc (.cells #[.bool false,.slice none 0 0] 62))):=((Ext.refl (fun _=>False) u1).alloc (.cells #[.bool false,.slice none 0 0] 62))
      have HO9:=bH (BoxN.new (w0:=wq) (W:=(u1.alloc (.cells #[.bool false,.slice none 0 0] 62))) hx1.size (show BoxI ((u1.alloc (.cells #[.bool false,.slice none 0 0] 62))) u1.heap.size false (.slice none 0 0) from boxI_new (W:=u1) rfl false none 0 0))
      have HNE:=bH (show s10≠u1.heap.size from Nat.ne_of_lt HO10.out.box.lt)
      have hx2:XF wq ((u1.alloc (.cells #[.bool false,.slice none 0 0] 62))):=hx1.trans hy
      replace HV3:=bH (HV3.out.keep hy)
      replace HO10:=bH (HO10.out.keep hy)
      clear hy
      generalize (u1.alloc (.cells #[.bool false,.slice none 0 0] 62))=u2 at *
      generalize u1.heap.size=s9 at *
      replace HNE:=bH (Ne.symm HNE.out)
      refine hK.out _ _ (hx2) (fun hHeld=>?_)
      clear hK K
      (try go_frame)
      refine mst 4 (h:=fun K hK=>?_)
      go_simp
      go_at_call 204
      with_reducible refine (HFl.out _ (hx2) _ HV3.out).mono ?_
      rintro r3 u3 ⟨q4,m4,rfl,h4,hm4,hy⟩
      obtain ⟨ng,qo,qn,qc,rfl⟩:=h4.shape
      obtain ⟨mg,mo,mn,mc,rfl⟩:=hm4.shape
      have HQ4:=bH h4
      have HM4:=bH hm4
      clear h4 hm4
      replace HV3:=bH (HV3.out.keep hy)
      replace HO10:=bH (HO10.out.keep hy)
      replace HO9:=bH (HO9.out.keep hy)
      have hx3:XF wq u3:=hx2.trans hy
      clear hy
      refine hK.out _ _ (hx3) (fun hHeld=>?_)
      clear hK K
      (try go_frame)
      refine mu 5 (h:=(mu 6 (h:=(mf 7 (h:=(mf 8 (h:=?_)))))))
      (try go_frame)
      obtain ⟨c0,c1,c2,c3⟩:=HO9.out.box.facts
      obtain ⟨d0,d1,d2,d3⟩:=HO10.out.box.facts
      refine ml 11 (h:=fun K hK=>?_)
      go_simp
      refine hK.out _ _ ?_
      clear hK K
      (try go_frame)
      have hp9:=HO9.out.box.put (neg:=ng) (no_int qo qn qc)
      obtain ⟨e0,e1,e2,e3⟩:=(HO10.out.box.ext hp9.ext (fun e=>HNE.out e.symm)).facts
      refine ml 12 (h:=fun K hK=>?_)
      go_simp
      refine hK.out _ _ ?_
      clear hK K
      (try go_frame)
      have hp9:=HO9.out.box.put (neg:=ng) (no_int qo qn qc)
      obtain ⟨e0,e1,e2,e3⟩:=(HO10.out.box.ext hp9.ext (fun e=>HNE.out e.symm)).facts
      refine ml 13 (h:=fun K hK=>?_)
      go_simp
      refine hK.out _ _ ?_
      clear hK K
      (try go_frame)
      refine mdone (by kernel_rfl) ?_ _
      have hp10:=(HO10.out.box.ext hp9.ext (fun e=>HNE.out e.symm)).put (neg:=mg) (no_int mo mn mc)
      go_wp2
      go_meet
      exact ⟨s9,s10,ng,qo,qn,qc,mg,mo,mn,mc,rfl,rfl,hp9.box.ext hp10.ext HNE.out,hp10.box,hp10.int (hp9.int HQ4.out),hp10.int (hp9.int HM4.out),(hx3.own hp9.ext (fun k e=>by rw [e]; exact HO9.out.low)).own hp10.ext (fun k e=>by rw [e]; exact HO10.out.low)⟩
   ·go_simp
    have hy:XF wq ((wq.alloc (.cells #[.bool false,.slice none 0 0] 62)).drew):=((Ext.refl (fun _=>False) wq).alloc (.cells #[.bool false,.slice none 0 0] 62)).drew
    have HO9:=bH (BoxN.new (w0:=wq) (W:=(wq.alloc (.cells #[.bool false,.slice none 0 0] 62)).drew) (Ext.refl (fun _=>False) wq).size (show BoxI ((wq.alloc (.cells #[.bool false,.slice none 0 0] 62)).drew) wq.heap.size false (.slice none 0 0) from boxI_new (W:=wq) rfl false none 0 0))
    have hx0:XF wq ((wq.alloc (.cells #[.bool false,.slice none 0 0] 62)).drew):=hy
    clear hy
    generalize (wq.alloc (.cells #[.bool false,.slice none 0 0] 62)).drew=u0 at *
    generalize wq.heap.size=s9 at *
    refine hK.out _ _ (hx0) (fun hHeld=>?_)
    clear hK K
    (try go_frame)
    refine mtwo 3 10 rfl rfl (by kernel_rfl) (fun K hK=>?_) (fun K hK=>?_)
    ·go_simp
     go_at_call 133
     with_reducible refine (HDn.out _ (hx0)).mono ?_
     rintro r1 u1 ⟨v3,rfl,h3,hy⟩
     have HV3:=bH h3
     clear h3
     replace HO9:=bH (HO9.out.keep hy)
     have hx1:XF wq u1:=hx0.trans hy
     clear hy
     refine hK.out _ _ (hx1) (fun hHeld=>?_)
     clear hK K
     (try go_frame)
     refine mtwo 4 10 rfl rfl (by kernel_rfl) (fun K hK=>?_) (fun K hK=>?_)
     ·go_simp
      go_at_call 204
      with_reducible refine (HFl.out _ (hx1) _ HV3.out).mono ?_
      rintro r2 u2 ⟨q4,m4,rfl,h4,hm4,hy⟩
      obtain ⟨ng,qo,qn,qc,rfl⟩:=h4.shape
      obtain ⟨mg,mo,mn,mc,rfl⟩:=hm4.shape
      have HQ4:=bH h4
      have HM4:=bH hm4
      clear h4 hm4
      replace HO9:=bH (HO9.out.keep hy)
      replace HV3:=bH (HV3.out.keep hy)
      have hx2:XF wq u2:=hx1.trans hy
      clear hy
      refine hK.out _ _ (hx2) (fun hHeld=>?_)
      clear hK K
      (try go_frame)
      refine mu 5 (h:=(mu 6 (h:=(mf 7 (h:=(mf 8 (h:=?_)))))))
      (try go_frame)
      refine mst 10 (h:=fun K hK=>?_)
      go_simp
      have hy:XF u2 ((u2.alloc (.cells #[.bool false,.slice none 0 0] 62))):=((Ext.refl (fun _=>False) u2).alloc (.cells #[.bool false,.slice none 0 0] 62))
      have HO10:=bH (BoxN.new (w0:=wq) (W:=(u2.alloc (.cells #[.bool false,.slice none 0 0] 62))) hx2.size (show BoxI ((u2.alloc (.cells #[.bool false,.slice none 0 0] 62))) u2.heap.size false (.slice none 0 0) from boxI_new (W:=u2) rfl false none 0 0))
      have HNE:=bH (show s9≠u2.heap.size from Nat.ne_of_lt HO9.out.box.lt)
      have hx3:XF wq ((u2.alloc (.cells #[.bool false,.slice none 0 0] 62))):=hx2.trans hy
      replace HO9:=bH (HO9.out.keep hy)
      replace HV3:=bH (HV3.out.keep hy)
      replace HQ4:=bH (HQ4.out.keep hy)
      replace HM4:=bH (HM4.out.keep hy)
      clear hy
      generalize (u2.alloc (.cells #[.bool false,.slice none 0 0] 62))=u3 at *
      generalize u2.heap.size=s10 at *
      refine hK.out _ _ (hx3) (fun hHeld=>?_)
      clear hK K
      (try go_frame)
      obtain ⟨c0,c1,c2,c3⟩:=HO9.out.box.facts
      obtain ⟨d0,d1,d2,d3⟩:=HO10.out.box.facts
      refine ml 11 (h:=fun K hK=>?_)
      go_simp
      refine hK.out _ _ ?_
      clear hK K
      (try go_frame)
      have hp9:=HO9.out.box.put (neg:=ng) (no_int qo qn qc)
      obtain ⟨e0,e1,e2,e3⟩:=(HO10.out.box.ext hp9.ext (fun e=>HNE.out e.symm)).facts
      refine ml 12 (h:=fun K hK=>?_)
      go_simp
      refine hK.out _ _ ?_
      clear hK K
      (try go_frame)
      have hp9:=HO9.out.box.put (neg:=ng) (no_int qo qn qc)
      obtain ⟨e0,e1,e2,e3⟩:=(HO10.out.box.ext hp9.ext (fun e=>HNE.out e.symm)).facts
      refine ml 13 (h:=fun K hK=>?_)
      go_simp
      refine hK.out _ _ ?_
      clear hK K
      (try go_frame)
      refine mdone (by kernel_rfl) ?_ _
      have hp10:=(HO10.out.box.ext hp9.ext (fun e=>HNE.out e.symm)).put (neg:=mg) (no_int mo mn mc)
      go_wp2
      go_meet
      exact ⟨s9,s10,ng,qo,qn,qc,mg,mo,mn,mc,rfl,rfl,hp9.box.ext hp10.ext HNE.out,hp10.box,hp10.int (hp9.int HQ4.out),hp10.int (hp9.int HM4.out),(hx3.own hp9.ext (fun k e=>by rw [e]; exact HO9.out.low)).own hp10.ext (fun k e=>by rw [e]; exact HO10.out.low)⟩
     ·go_simp
      have hy:XF u1 ((u1.alloc (.cells #[.bool false,.slice none 0 0] 62))):=((Ext.refl (fun _=>False) u1).alloc (.cells #[.bool false,.slice none 0 0] 62))
      have HO10:=bH (BoxN.new (w0:=wq) (W:=(u1.alloc (.cells #[.bool false,.slice none 0 0] 62))) hx1.size (show BoxI ((u1.alloc (.cells #[.bool false,.slice none 0 0] 62))) u1.heap.size false (.slice none 0 0) from boxI_new (W:=u1) rfl false none 0 0))
      have HNE:=bH (show s9≠u1.heap.size from Nat.ne_of_lt HO9.out.box.lt)
      have hx2:XF wq ((u1.alloc (.cells #[.bool false,.slice none 0 0] 62))):=hx1.trans hy
      replace HO9:=bH (HO9.out.keep hy)
      replace HV3:=bH (HV3.out.keep hy)
      clear hy
      generalize (u1.alloc (.cells #[.bool false,.slice none 0 0] 62))=u2 at *
      generalize u1.heap.size=s10 at *
      refine hK.out _ _ (hx2) (fun hHeld=>?_)
      clear hK K
      (try go_frame)
      refine mst 4 (h:=fun K hK=>?_)
      go_simp
      go_at_call 204
      with_reducible refine (HFl.out _ (hx2) _ HV3.out).mono ?_
      rintro r3 u3 ⟨q4,m4,rfl,h4,hm4,hy⟩
      obtain ⟨ng,qo,qn,qc,rfl⟩:=h4.shape
      obtain ⟨mg,mo,mn,mc,rfl⟩:=hm4.shape
      have HQ4:=bH h4
      have HM4:=bH hm4
      clear h4 hm4
      replace HO9:=bH (HO9.out.keep hy)
      replace HV3:=bH (HV3.out.keep hy)
      replace HO10:=bH (HO10.out.keep hy)
      have hx3:XF wq u3:=hx2.trans hy
      clear hy
      refine hK.out _ _ (hx3) (fun hHeld=>?_)
      clear hK K
      (try go_frame)
      refine mu 5 (h:=(mu 6 (h:=(mf 7 (h:=(mf 8 (h:=?_)))))))
      (try go_frame)
      obtain ⟨c0,c1,c2,c3⟩:=HO9.out.box.facts
      obtain ⟨d0,d1,d2,d3⟩:=HO10.out.box.facts
      refine ml 11 (h:=fun K hK=>?_)
      go_simp
      refine hK.out _ _ ?_
      clear hK K
      (try go_frame)
      have hp9:=HO9.out.box.put (neg:=ng) (no_int qo qn qc)
      obtain ⟨e0,e1,e2,e3⟩:=(HO10.out.box.ext hp9.ext (fun e=>HNE.out e.symm)).facts
      refine ml 12 (h:=fun K hK=>?_)
      go_simp
      refine hK.out _ _ ?_
      clear hK K
      (try go_frame)
      have hp9:=HO9.out.box.put (neg:=ng) (no_int qo qn qc)
      obtain ⟨e0,e1,e2,e3⟩:=(HO10.out.box.ext hp9.ext (fun e=>HNE.out e.symm)).facts
      refine ml 13 (h:=fun K hK=>?_)
      go_simp
      refine hK.out _ _ ?_
      clear hK K
      (try go_frame)
      refine mdone (by kernel_rfl) ?_ _
      have hp10:=(HO10.out.box.ext hp9.ext (fun e=>HNE.out e.symm)).put (neg:=mg) (no_int mo mn mc)
      go_wp2
      go_meet
      exact ⟨s9,s10,ng,qo,qn,qc,mg,mo,mn,mc,rfl,rfl,hp9.box.ext hp10.ext HNE.out,hp10.box,hp10.int (hp9.int HQ4.out),hp10.int (hp9.int HM4.out),(hx3.own hp9.ext (fun k e=>by rw [e]; exact HO9.out.low)).own hp10.ext (fun k e=>by rw [e]; exact HO10.out.low)⟩
    ·go_simp
     have hy:XF u0 ((u0.alloc (.cells #[.bool false,.slice none 0 0] 62))):=((Ext.refl (fun _=>False) u0).alloc (.cells #[.bool false,.slice none 0 0] 62))
     have HO10:=bH (BoxN.new (w0:=wq) (W:=(u0.alloc (.cells #[.bool false,.slice none 0 0] 62))) hx0.size (show BoxI ((u0.alloc (.cells #[.bool false,.slice none 0 0] 62))) u0.heap.size false (.slice none 0 0) from boxI_new (W:=u0) rfl false none 0 0))
     have HNE:=bH (show s9≠u0.heap.size from Nat.ne_of_lt HO9.out.box.lt)
     have hx1:XF wq ((u0.alloc (.cells #[.bool false,.slice none 0 0] 62))):=hx0.trans hy
     replace HO9:=bH (HO9.out.keep hy)
     clear hy
     generalize (u0.alloc (.cells #[.bool false,.slice none 0 0] 62))=u1 at *
     generalize u0.heap.size=s10 at *
     refine hK.out _ _ (hx1) (fun hHeld=>?_)
     clear hK K
     (try go_frame)
     refine mst 3 (h:=fun K hK=>?_)
     go_simp
     go_at_call 133
     with_reducible refine (HDn.out _ (hx1)).mono ?_
     rintro r2 u2 ⟨v3,rfl,h3,hy⟩
     have HV3:=bH h3
     clear h3
     replace HO9:=bH (HO9.out.keep hy)
     replace HO10:=bH (HO10.out.keep hy)
     have hx2:XF wq u2:=hx1.trans hy
     clear hy
     refine hK.out _ _ (hx2) (fun hHeld=>?_)
     clear hK K
     (try go_frame)
     refine mst 4 (h:=fun K hK=>?_)
     go_simp
     go_at_call 204
     with_reducible refine (HFl.out _ (hx2) _ HV3.out).mono ?_
     rintro r3 u3 ⟨q4,m4,rfl,h4,hm4,hy⟩
     obtain ⟨ng,qo,qn,qc,rfl⟩:=h4.shape
     obtain ⟨mg,mo,mn,mc,rfl⟩:=hm4.shape
     have HQ4:=bH h4
     have HM4:=bH hm4
     clear h4 hm4
     replace HO9:=bH (HO9.out.keep hy)
     replace HO10:=bH (HO10.out.keep hy)
     replace HV3:=bH (HV3.out.keep hy)
     have hx3:XF wq u3:=hx2.trans hy
     clear hy
     refine hK.out _ _ (hx3) (fun hHeld=>?_)
     clear hK K
     (try go_frame)
     refine mu 5 (h:=(mu 6 (h:=(mf 7 (h:=(mf 8 (h:=?_)))))))
     (try go_frame)
     obtain ⟨c0,c1,c2,c3⟩:=HO9.out.box.facts
     obtain ⟨d0,d1,d2,d3⟩:=HO10.out.box.facts
     refine ml 11 (h:=fun K hK=>?_)
     go_simp
     refine hK.out _ _ ?_
     clear hK K
     (try go_frame)
     have hp9:=HO9.out.box.put (neg:=ng) (no_int qo qn qc)
     obtain ⟨e0,e1,e2,e3⟩:=(HO10.out.box.ext hp9.ext (fun e=>HNE.out e.symm)).facts
     refine ml 12 (h:=fun K hK=>?_)
     go_simp
     refine hK.out _ _ ?_
     clear hK K
     (try go_frame)
     have hp9:=HO9.out.box.put (neg:=ng) (no_int qo qn qc)
     obtain ⟨e0,e1,e2,e3⟩:=(HO10.out.box.ext hp9.ext (fun e=>HNE.out e.symm)).facts
     refine ml 13 (h:=fun K hK=>?_)
     go_simp
     refine hK.out _ _ ?_
     clear hK K
     (try go_frame)
     refine mdone (by kernel_rfl) ?_ _
     have hp10:=(HO10.out.box.ext hp9.ext (fun e=>HNE.out e.symm)).put (neg:=mg) (no_int mo mn mc)
     go_wp2
     go_meet
     exact ⟨s9,s10,ng,qo,qn,qc,mg,mo,mn,mc,rfl,rfl,hp9.box.ext hp10.ext HNE.out,hp10.box,hp10.int (hp9.int HQ4.out),hp10.int (hp9.int HM4.out),(hx3.own hp9.ext (fun k e=>by rw [e]; exact HO9.out.low)).own hp10.ext (fun k e=>by rw [e]; exact HO10.out.low)⟩
   ·go_simp
    have hy:XF wq ((wq.alloc (.cells #[.bool false,.slice none 0 0] 62)).drew):=((Ext.refl (fun _=>False) wq).alloc (.cells #[.bool false,.slice none 0 0] 62)).drew
    have HO10:=bH (BoxN.new (w0:=wq) (W:=(wq.alloc (.cells #[.bool false,.slice none 0 0] 62)).drew) (Ext.refl (fun _=>False) wq).size (show BoxI ((wq.alloc (.cells #[.bool false,.slice none 0 0] 62)).drew) wq.heap.size false (.slice none 0 0) from boxI_new (W:=wq) rfl false none 0 0))
    have hx0:XF wq ((wq.alloc (.cells #[.bool false,.slice none 0 0] 62)).drew):=hy
    clear hy
    generalize (wq.alloc (.cells #[.bool false,.slice none 0 0] 62)).drew=u0 at *
    generalize wq.heap.size=s10 at *
    refine hK.out _ _ (hx0) (fun hHeld=>?_)
    clear hK K
    (try go_frame)
    refine mtwo 3 9 rfl rfl (by kernel_rfl) (fun K hK=>?_) (fun K hK=>?_)
    ·go_simp
     go_at_call 133
     with_reducible refine (HDn.out _ (hx0)).mono ?_
     rintro r1 u1 ⟨v3,rfl,h3,hy⟩
     have HV3:=bH h3
     clear h3
     replace HO10:=bH (HO10.out.keep hy)
     have hx1:XF wq u1:=hx0.trans hy
     clear hy
     refine hK.out _ _ (hx1) (fun hHeld=>?_)
     clear hK K
     (try go_frame)
     refine mtwo 4 9 rfl rfl (by kernel_rfl) (fun K hK=>?_) (fun K hK=>?_)
     ·go_simp
      go_at_call 204
      with_reducible refine (HFl.out _ (hx1) _ HV3.out).mono ?_
      rintro r2 u2 ⟨q4,m4,rfl,h4,hm4,hy⟩
      obtain ⟨ng,qo,qn,qc,rfl⟩:=h4.shape
      obtain ⟨mg,mo,mn,mc,rfl⟩:=hm4.shape
      have HQ4:=bH h4
      have HM4:=bH hm4
      clear h4 hm4
      replace HO10:=bH (HO10.out.keep hy)
      replace HV3:=bH (HV3.out.keep hy)
      have hx2:XF wq u2:=hx1.trans hy
      clear hy
      refine hK.out _ _ (hx2) (fun hHeld=>?_)
      clear hK K
      (try go_frame)
      refine mu 5 (h:=(mu 6 (h:=(mf 7 (h:=(mf 8 (h:=?_)))))))
      (try go_frame)
      refine mst 9 (h:=fun K hK=>?_)
      go_simp
      have hy:XF u2 ((u2.alloc (.cells #[.bool false,.slice none 0 0] 62))):=((Ext.refl (fun _=>False) u2).alloc (.cells #[.bool false,.slice none 0 0] 62))
      have HO9:=bH (BoxN.new (w0:=wq) (W:=(u2.alloc (.cells #[.bool false,.slice none 0 0] 62))) hx2.size (show BoxI ((u2.alloc (.cells #[.bool false,.slice none 0 0] 62))) u2.heap.size false (.slice none 0 0) from boxI_new (W:=u2) rfl false none 0 0))
      have HNE:=bH (show s10≠u2.heap.size from Nat.ne_of_lt HO10.out.box.lt)
      have hx3:XF wq ((u2.alloc (.cells #[.bool false,.slice none 0 0] 62))):=hx2.trans hy
      replace HO10:=bH (HO10.out.keep hy)
      replace HV3:=bH (HV3.out.keep hy)
      replace HQ4:=bH (HQ4.out.keep hy)
      replace HM4:=bH (HM4.out.keep hy)
      clear hy
      generalize (u2.alloc (.cells #[.bool false,.slice none 0 0] 62))=u3 at *
      generalize u2.heap.size=s9 at *
      replace HNE:=bH (Ne.symm HNE.out)
      refine hK.out _ _ (hx3) (fun hHeld=>?_)
      clear hK K
      (try go_frame)
      obtain ⟨c0,c1,c2,c3⟩:=HO9.out.box.facts
      obtain ⟨d0,d1,d2,d3⟩:=HO10.out.box.facts
      refine ml 11 (h:=fun K hK=>?_)
      go_simp
      refine hK.out _ _ ?_
      clear hK K
      (try go_frame)
      have hp9:=HO9.out.box.put (neg:=ng) (no_int qo qn qc)
      obtain ⟨e0,e1,e2,e3⟩:=(HO10.out.box.ext hp9.ext (fun e=>HNE.out e.symm)).facts
      refine ml 12 (h:=fun K hK=>?_)
      go_simp
      refine hK.out _ _ ?_
      clear hK K
      (try go_frame)
      have hp9:=HO9.out.box.put (neg:=ng) (no_int qo qn qc)
      obtain ⟨e0,e1,e2,e3⟩:=(HO10.out.box.ext hp9.ext (fun e=>HNE.out e.symm)).facts
      refine ml 13 (h:=fun K hK=>?_)
      go_simp
      refine hK.out _ _ ?_
      clear hK K
      (try go_frame)
      refine mdone (by kernel_rfl) ?_ _
      have hp10:=(HO10.out.box.ext hp9.ext (fun e=>HNE.out e.symm)).put (neg:=mg) (no_int mo mn mc)
      go_wp2
      go_meet
      exact ⟨s9,s10,ng,qo,qn,qc,mg,mo,mn,mc,rfl,rfl,hp9.box.ext hp10.ext HNE.out,hp10.box,hp10.int (hp9.int HQ4.out),hp10.int (hp9.int HM4.out),(hx3.own hp9.ext (fun k e=>by rw [e]; exact HO9.out.low)).own hp10.ext (fun k e=>by rw [e]; exact HO10.out.low)⟩
     ·go_simp
      have hy:XF u1 ((u1.alloc (.cells #[.bool false,.slice none 0 0] 62))):=((Ext.refl (fun _=>False) u1).alloc (.cells #[.bool false,.slice none 0 0] 62))
      have HO9:=bH (BoxN.new (w0:=wq) (W:=(u1.alloc (.cells #[.bool false,.slice none 0 0] 62))) hx1.size (show BoxI ((u1.alloc (.cells #[.bool false,.slice none 0 0] 62))) u1.heap.size false (.slice none 0 0) from boxI_new (W:=u1) rfl false none 0 0))
      have HNE:=bH (show s10≠u1.heap.size from Nat.ne_of_lt HO10.out.box.lt)
      have hx2:XF wq ((u1.alloc (.cells #[.bool false,.slice none 0 0] 62))):=hx1.trans hy
      replace HO10:=bH (HO10.out.keep hy)
      replace HV3:=bH (HV3.out.keep hy)
      clear hy
      generalize (u1.alloc (.cells #[.bool false,.slice none 0 0] 62))=u2 at *
      generalize u1.heap.size=s9 at *
      replace HNE:=bH (Ne.symm HNE.out)
      refine hK.out _ _ (hx2) (fun hHeld=>?_)
      clear hK K
      (try go_frame)
      refine mst 4 (h:=fun K hK=>?_)
      go_simp
      go_at_call 204
      with_reducible refine (HFl.out _ (hx2) _ HV3.out).mono ?_
      rintro r3 u3 ⟨q4,m4,rfl,h4,hm4,hy⟩
      obtain ⟨ng,qo,qn,qc,rfl⟩:=h4.shape
      obtain ⟨mg,mo,mn,mc,rfl⟩:=hm4.shape
      have HQ4:=bH h4
      have HM4:=bH hm4
      clear h4 hm4
      replace HO10:=bH (HO10.out.keep hy)
      replace HV3:=bH (HV3.out.keep hy)
      replace HO9:=bH (HO9.out.keep hy)
      have hx3:XF wq u3:=hx2.trans hy
      clear hy
      refine hK.out _ _ (hx3) (fun hHeld=>?_)
      clear hK K
      (try go_frame)
      refine mu 5 (h:=(mu 6 (h:=(mf 7 (h:=(mf 8 (h:=?_)))))))
      (try go_frame)
      obtain ⟨c0,c1,c2,c3⟩:=HO9.out.box.facts
      obtain ⟨d0,d1,d2,d3⟩:=HO10.out.box.facts
      refine ml 11 (h:=fun K hK=>?_)
      go_simp
      refine hK.out _ _ ?_
      clear hK K
      (try go_frame)
      have hp9:=HO9.out.box.put (neg:=ng) (no_int qo qn qc)
      obtain ⟨e0,e1,e2,e3⟩:=(HO10.out.box.ext hp9.ext (fun e=>HNE.out e.symm)).facts
      refine ml 12 (h:=fun K hK=>?_)
      go_simp
      refine hK.out _ _ ?_
      clear hK K
      (try go_frame)
      have hp9:=HO9.out.box.put (neg:=ng) (no_int qo qn qc)
      obtain ⟨e0,e1,e2,e3⟩:=(HO10.out.box.ext hp9.ext (fun e=>HNE.out e.symm)).facts
      refine ml 13 (h:=fun K hK=>?_)
      go_simp
      refine hK.out _ _ ?_
      clear hK K
      (try go_frame)
      refine mdone (by kernel_rfl) ?_ _
      have hp10:=(HO10.out.box.ext hp9.ext (fun e=>HNE.out e.symm)).put (neg:=mg) (no_int mo mn mc)
      go_wp2
      go_meet
      exact ⟨s9,s10,ng,qo,qn,qc,mg,mo,mn,mc,rfl,rfl,hp9.box.ext hp10.ext HNE.out,hp10.box,hp10.int (hp9.int HQ4.out),hp10.int (hp9.int HM4.out),(hx3.own hp9.ext (fun k e=>by rw [e]; exact HO9.out.low)).own hp10.ext (fun k e=>by rw [e]; exact HO10.out.low)⟩
    ·go_simp
     have hy:XF u0 ((u0.alloc (.cells #[.bool false,.slice none 0 0] 62))):=((Ext.refl (fun _=>False) u0).alloc (.cells #[.bool false,.slice none 0 0] 62))
     have HO9:=bH (BoxN.new (w0:=wq) (W:=(u0.alloc (.cells #[.bool false,.slice none 0 0] 62))) hx0.size (show BoxI ((u0.alloc (.cells #[.bool false,.slice none 0 0] 62))) u0.heap.size false (.slice none 0 0) from boxI_new (W:=u0) rfl false none 0 0))
     have HNE:=bH (show s10≠u0.heap.size from Nat.ne_of_lt HO10.out.box.lt)
     have hx1:XF wq ((u0.alloc (.cells #[.bool false,.slice none 0 0] 62))):=hx0.trans hy
     replace HO10:=bH (HO10.out.keep hy)
     clear hy
     generalize (u0.alloc (.cells #[.bool false,.slice none 0 0] 62))=u1 at *
     generalize u0.heap.size=s9 at *
     replace HNE:=bH (Ne.symm HNE.out)
     refine hK.out _ _ (hx1) (fun hHeld=>?_)
     clear hK K
     (try go_frame)
     refine mst 3 (h:=fun K hK=>?_)
     go_simp
     go_at_call 133
     with_reducible refine (HDn.out _ (hx1)).mono ?_
     rintro r2 u2 ⟨v3,rfl,h3,hy⟩
     have HV3:=bH h3
     clear h3
     replace HO10:=bH (HO10.out.keep hy)
     replace HO9:=bH (HO9.out.keep hy)
     have hx2:XF wq u2:=hx1.trans hy
     clear hy
     refine hK.out _ _ (hx2) (fun hHeld=>?_)
     clear hK K
     (try go_frame)
     refine mst 4 (h:=fun K hK=>?_)
     go_simp
     go_at_call 204
     with_reducible refine (HFl.out _ (hx2) _ HV3.out).mono ?_
     rintro r3 u3 ⟨q4,m4,rfl,h4,hm4,hy⟩
     obtain ⟨ng,qo,qn,qc,rfl⟩:=h4.shape
     obtain ⟨mg,mo,mn,mc,rfl⟩:=hm4.shape
     have HQ4:=bH h4
     have HM4:=bH hm4
     clear h4 hm4
     replace HO10:=bH (HO10.out.keep hy)
     replace HO9:=bH (HO9.out.keep hy)
     replace HV3:=bH (HV3.out.keep hy)
     have hx3:XF wq u3:=hx2.trans hy
     clear hy
     refine hK.out _ _ (hx3) (fun hHeld=>?_)
     clear hK K
     (try go_frame)
     refine mu 5 (h:=(mu 6 (h:=(mf 7 (h:=(mf 8 (h:=?_)))))))
     (try go_frame)
     obtain ⟨c0,c1,c2,c3⟩:=HO9.out.box.facts
     obtain ⟨d0,d1,d2,d3⟩:=HO10.out.box.facts
     refine ml 11 (h:=fun K hK=>?_)
     go_simp
     refine hK.out _ _ ?_
     clear hK K
     (try go_frame)
     have hp9:=HO9.out.box.put (neg:=ng) (no_int qo qn qc)
     obtain ⟨e0,e1,e2,e3⟩:=(HO10.out.box.ext hp9.ext (fun e=>HNE.out e.symm)).facts
     refine ml 12 (h:=fun K hK=>?_)
     go_simp
     refine hK.out _ _ ?_
     clear hK K
     (try go_frame)
     have hp9:=HO9.out.box.put (neg:=ng) (no_int qo qn qc)
     obtain ⟨e0,e1,e2,e3⟩:=(HO10.out.box.ext hp9.ext (fun e=>HNE.out e.symm)).facts
     refine ml 13 (h:=fun K hK=>?_)
     go_simp
     refine hK.out _ _ ?_
     clear hK K
     (try go_frame)
     refine mdone (by kernel_rfl) ?_ _
     have hp10:=(HO10.out.box.ext hp9.ext (fun e=>HNE.out e.symm)).put (neg:=mg) (no_int mo mn mc)
     go_wp2
     go_meet
     exact ⟨s9,s10,ng,qo,qn,qc,mg,mo,mn,mc,rfl,rfl,hp9.box.ext hp10.ext HNE.out,hp10.box,hp10.int (hp9.int HQ4.out),hp10.int (hp9.int HM4.out),(hx3.own hp9.ext (fun k e=>by rw [e]; exact HO9.out.low)).own hp10.ext (fun k e=>by rw [e]; exact HO10.out.low)⟩
  case rest =>
  obtain ⟨s9,s10,ng,qo,qn,qc,mg,mo,mn,mc,rfl,rfl,hb9,hb10,hq9,hm9,hx9⟩:=hcut
  clear b0 b1' b2
  obtain ⟨e0,e1,-⟩:=hb10.facts
  have HR:=bH (bI hb9 (bI hq9 (bI hm9 (HB.out.2.trans hx9))))
  clear hb9 hb10 hq9 hm9 hx9
  go_wp2_with fail
  refine (HSg.out _ _ HR.out.2.2.1).mono ?_
  rintro r1 w1 ⟨rfl,hx1⟩
  obtain ⟨f0,f1,-⟩:=(HR.out.1.ext hx1 id).facts
  have HQ:=bH (bI (HR.out.2.1.keep hx1) (HR.out.2.2.2.trans hx1))
  clear hx1 e0 e1
  go_wp2_with fail
  refine (HIi.out _ _ HQ.out.1).mono ?_
  rintro r2 w2 ⟨rfl,hx2⟩
  have HX:=bH (HQ.out.2.trans hx2)
  clear hx2 f0 f1
  go_wp2
  go_ret2
  exact ⟨rfl,HX.out⟩
def LimPost (w:World) (z:Int) (r:Ending) (w':World):Prop:=r=.returned (.tuple #[.int .i64 (toR z),.bool (limB z)])/\XF w w'
theorem lim_parts (z:Int):limB z=(inRB z && (decide (-1099511627776<=toR z) && decide (toR z<=1099511627776))):=by
 unfold limB
 cases h:inRB z with
 | true=>rw [toR_in h]; rfl
 | false =>
  unfold inRB at h
  rw [Bool.false_and,Bool.and_eq_false_iff,decide_eq_false_iff_not,decide_eq_false_iff_not]
  rw [Bool.and_eq_false_iff,decide_eq_false_iff_not,decide_eq_false_iff_not] at h
  omega
theorem climitedR_any (w:World) (n1:Bool) (a1:Option Addr) (l1 c1:Nat) (x1:Option Addr) (y1 k1:Nat) (z:Int) (L:Nat) (h:Rint w (.agg #[.bool n1,.slice a1 l1 c1]) z L) (hd:Rds w (.slice x1 y1 k1) []) (h0:1<=L) (hL:L<=4194304) :
  Calls Tryz.prog 118 #[.agg #[.bool n1,.slice a1 l1 c1,.slice x1 y1 k1]] w (LimPost w z):=by
 have HI:=bH (fun W (hW:XF w W)=>rint64_any W n1 a1 l1 c1 x1 y1 k1 z L (h.keep hW) (hd.keep hW) h0 hL)
 clear h hd
 unfold LimPost
 have HP:=bH (lim_parts z)
 unfold I64Post at HI
 generalize limB z=B at *
 generalize toR z=t at *
 generalize inRB z=b at *
 have HX:=bH ((Ext.refl (fun _=>False) w).alloc (.cells #[.bool n1,.slice a1 l1 c1,.slice x1 y1 k1] 64))
 cases b with
 | false =>
  have HB:=bH (show B=false from HP.out)
  clear HP
  go_enter Tryz.func118,Tryz.ntmps118
  go_wp2_with fail
  refine (HI.out _ HX.out).mono ?_
  rintro r2 w2 ⟨rfl,hx2⟩
  have HX2:=bH (HX.out.trans hx2)
  clear hx2
  go_wp2
  go_ret2
  exact ⟨(by rw [HB.out]; rfl),HX2.out⟩
 | true =>
  by_cases h1:-1099511627776<=t
  ·by_cases h2:t<=1099511627776
   ·have HB:=bH (show B=true from by rw [HP.out,decide_eq_true h1,decide_eq_true h2]; rfl)
    clear HP
    go_enter Tryz.func118,Tryz.ntmps118
    go_wp2_with fail
    refine (HI.out _ HX.out).mono ?_
    rintro r2 w2 ⟨rfl,hx2⟩
    have HX2:=bH (HX.out.trans hx2)
    clear hx2
    go_wp2
    go_ret2
    exact ⟨(by rw [HB.out]; rfl),HX2.out⟩
   ·have HB:=bH (show B=false from by rw [HP.out,decide_eq_true h1,decide_eq_false h2]; rfl)
    have h3:decide (t<=1099511627776)=false:=decide_eq_false h2
    clear HP
    go_enter Tryz.func118,Tryz.ntmps118
    go_wp2_with fail
    refine (HI.out _ HX.out).mono ?_
    rintro r2 w2 ⟨rfl,hx2⟩
    have HX2:=bH (HX.out.trans hx2)
    clear hx2
    go_wp2
    go_ret2
    exact ⟨(by rw [HB.out]; rfl),HX2.out⟩
  ·have HB:=bH (show B=false from by rw [HP.out,decide_eq_false h1]; rfl)
   have h3:decide (-1099511627776<=t)=false:=decide_eq_false h1
   clear HP
   go_enter Tryz.func118,Tryz.ntmps118
   go_wp2_with fail
   refine (HI.out _ HX.out).mono ?_
   rintro r2 w2 ⟨rfl,hx2⟩
   have HX2:=bH (HX.out.trans hx2)
   clear hx2
   go_wp2
   go_ret2
   exact ⟨(by rw [HB.out]; rfl),HX2.out⟩
theorem IsRat.whole {w:World} {b:Bool} {m d:Value} {z:Int} (h:IsRat w (.agg #[.bool b,m,d]) (z:Rat)):IsInt w (.agg #[.bool b,m]) z/\Rds w d []:=by
 obtain ⟨m',d',e,h1,h2⟩:=h
 cases e
 refine ⟨⟨_,rfl,h1⟩,?_⟩
 have h3:IsNat w d (dw 1):=h2
 unfold IsNat dw at h3
 rwa [if_pos rfl,dg_zero] at h3
theorem climited_any (w:World) (v:Value) (z:Int) (L:Nat) (h:IsRat w v (z:Rat)) (hl:(dg z.natAbs).length<=L) (h0:1<=L) (hL:L<=4194304):Calls Tryz.prog 118 #[v] w (LimPost w z):=by
 obtain ⟨n1,a1,l1,c1,x1,y1,k1,rfl⟩:=h.shape
 exact climitedR_any w n1 a1 l1 c1 x1 y1 k1 z L (h.whole.1.reads hl) h.whole.2 h0 hL
theorem IsInt.rat {w:World} {ng:Bool} {ao:Option Addr} {n c:Nat} {z:Int} (h:IsInt w (.agg #[.bool ng,.slice ao n c]) z):IsRat w (.agg #[.bool ng,.slice ao n c,.slice none 0 0]) (z:Rat):=by
 obtain ⟨m,e,hm⟩:=h
 cases e
 refine ⟨_,_,rfl,hm,?_⟩
 show IsNat w (.slice none 0 0) (dw 1)
 unfold IsNat dw
 rw [if_pos rfl,dg_zero]
 exact Rds.nil w
def WholePost (w:World) (ng:Bool) (ao:Option Addr) (n c:Nat) (r:Ending) (w':World):Prop:=r=.returned (.agg #[.bool ng,.slice ao n c,.slice none 0 0])/\XF w w'
theorem whole_any (w:World) (ng:Bool) (ao:Option Addr) (n c:Nat):Calls Tryz.prog 113 #[.agg #[.bool ng,.slice ao n c]] w (WholePost w ng ao n c):=by
 have hr:=boxR_new (W:=w.alloc (.cells #[.bool ng,.slice ao n c] 62)) (k:=w.heap.size+1) (by simp) false none 0 0 none 0 0
 have hb:=(boxI_new (W:=w) rfl ng ao n c).alloc (.cells #[.bool false,.slice none 0 0,.slice none 0 0] 64)
 have hx:=((Ext.refl (fun _=>False) w).alloc (.cells #[.bool ng,.slice ao n c] 62)).alloc (.cells #[.bool false,.slice none 0 0,.slice none 0 0] 64)
 have hlt:w.heap.size<=w.heap.size+1:=by omega
 have HB:=bH (bI hr (bI hx hlt))
 obtain ⟨b0,b1,b2,b3⟩:=hb.facts
 obtain ⟨d0,d1,d2,d3,d4,d5⟩:=hr.facts
 clear hr hb hx hlt
 go_enter Tryz.func113,Tryz.ntmps113
 go_upto_region 1 with fail
 generalize (w.alloc (.cells #[.bool ng,.slice ao n c] 62)).alloc (.cells #[.bool false,.slice none 0 0,.slice none 0 0] 64)=w1 at *
 generalize w.heap.size+1=rb at *
 have hp:=HB.out.1.put (neg:=ng) (no_int ao n c) (no_int none 0 0)
 have HR:=bH (bI (HB.out.2.1.own hp.ext (fun k e=>by rw [e]; exact HB.out.2.2)) hp.box)
 clear hp
 go_wp2
 generalize ((w1.setCell ⟨rb,0,none⟩ (.bool ng)).setCell ⟨rb,1,none⟩ (.slice ao n c)).setCell ⟨rb,2,none⟩ (.slice none 0 0)=w20 at *
 obtain ⟨g0,g1,g2,_⟩:=HR.out.2.facts
 exact bodyPost_ret (v:=.agg #[.bool ng,.slice ao n c,.slice none 0 0]) (by simp [results,Tryz.results113,go_sem,g0,g1,g2]) rfl ⟨rfl,HR.out.1⟩
structure AppG (w w':World) (base:Nat) (e:TypeId) (size:Nat) (v v':Value) (n:Nat) (xs news:List Value):Prop where
 own:w'.ownsRow base e size v' (n+1) (xs++news)
 ext:Ext (fun k=>v.ownBlock=some k) w w'
 rds:∀ u d,Rds w u d->Rds w' u d
 noDig:∀ g,v'.ownBlock=some g->NoDig w' g
theorem step_appG {w:World} {ops:Array Oper} {o:Oper} {a:Act} {K:Act->World->Prop} {Q:Exit->Act->World->Prop} {E:Prop} {z:Value} {size bytes:Nat} {e T:TypeId}
  (hgd:o.guard=none) (s x:Operand) (ho:o.op=.call { callee:=.builtin .append,args:=#[s,x],argTypes:=#[T,T] }) (ht:Tryz.prog.underlying T=some (.slice e)) (hi:(Tryz.prog.info? e).map (fun i=>(i.zero,i.size,i.bytes))=some (some z,size,bytes)) (hzs:z.cells.size=size) (hzn:NoD z.cells.toList) (hsz:0<size) (hbs:bytes<=1000)
  (base:Nat) (v:Value) (n:Nat) (xs:List Value) (hs:a.eval s=v) (hown:w.ownsRow base e size v n xs) (hnd:∀ g,v.ownBlock=some g->NoDig w g) (hxs:NoD xs) (ad:Addr) (c:Nat) (news:List Value) (hx:a.eval x=.slice (some ad) 1 c) (hl:news.length=size) (hsrc:∀ j u,news[j]?=some u->w.cell? (ad.add j)=some u) (h1:∀ u ∈ news,u.oneCell'=true) (hnn:NoD news) (hn:n<=100000) (hbase:base<=w.heap.size)
  (h:∀ v' w',AppG w w' base e size v v' n xs news->K (a.put o.dst v') w') :
  if Region.wanted o (yielded ops a.tmps)=true then Oper.wp Tryz.prog o a w K Q else E:=by
 have hw:Region.wanted o (yielded ops a.tmps)=true:=by simp [Region.wanted,hgd]
 rw [if_pos hw]
 obtain ⟨i0,hi0,hz0,hz1,hz2⟩:=info_parts hi
 have hby:(n+1)*bytes<=140737488355328:=Nat.le_trans (Nat.mul_le_mul (show n+1<=100001 by omega) hbs) (by decide)
 obtain ⟨v',w',hr,g1,g2,g3⟩:=run_append_any (P:=Tryz.prog) (w:=w) base T o.type e i0 z size bytes ht hi0 hz0 hz1 hz2 hzs hsz v n xs hown (some ad) 1 c (fun e=>by cases e) news (by rw [hl]; omega) (.inr ⟨ad,rfl,hsrc⟩) h1 (by unfold maxLen; omega) hby hbase
 have hx':Ext (fun k=>v.ownBlock=some k) w w':=(Ext.refl (fun k=>v.ownBlock=some k) w).grown g2 (fun k hk _=>hk)
 have hnd':=append_noDig (P:=Tryz.prog) w base T o.type e i0 z ht hi0 hz0 (by rw [hz1]; exact hzs) hzn v n xs (by rw [hz1]; exact hown) hnd hxs ad 1 c news (by rw [hz1,hl]; omega) hsrc h1 hnn (by decide) (by unfold maxLen; omega) (by rw [hz2]; exact hby) v' w' hr
 unfold Oper.wp execOp
 simp only [ho,resolve,invoke,builtin,Sem.run_bind,Sem.run_pure,Result.andThen_ok,List.map_toArray,List.map_cons,List.map_nil,hs,hx,hr]
 exact h v' w' ⟨g1,hx',fun u d hu=>hu.past hx' (fun k _ hk=>hnd k hk),hnd'⟩
theorem wpList_appG {w:World} {ops:Array Oper} {rest:List Oper} {o:Oper} {a:Act} {Q:Exit->Act->World->Prop} {z:Value} {size bytes:Nat} {e T:TypeId}
  (hgd:o.guard=none) (s x:Operand) (ho:o.op=.call { callee:=.builtin .append,args:=#[s,x],argTypes:=#[T,T] }) (ht:Tryz.prog.underlying T=some (.slice e)) (hi:(Tryz.prog.info? e).map (fun i=>(i.zero,i.size,i.bytes))=some (some z,size,bytes)) (hzs:z.cells.size=size) (hzn:NoD z.cells.toList) (hsz:0<size) (hbs:bytes<=1000)
  (base:Nat) (v:Value) (n:Nat) (xs:List Value) (hs:a.eval s=v) (hown:w.ownsRow base e size v n xs) (hnd:∀ g,v.ownBlock=some g->NoDig w g) (hxs:NoD xs) (ad:Addr) (c:Nat) (news:List Value) (hx:a.eval x=.slice (some ad) 1 c) (hl:news.length=size) (hsrc:∀ j u,news[j]?=some u->w.cell? (ad.add j)=some u) (h1:∀ u ∈ news,u.oneCell'=true) (hnn:NoD news) (hn:n<=100000) (hbase:base<=w.heap.size)
  (h:∀ v' w',AppG w w' base e size v v' n xs news->wpList Tryz.prog ops Q rest (a.put o.dst v') w') :
  wpList Tryz.prog ops Q (o :: rest) a w:=by
 refine wpList_plain hgd fun K hK=>?_
 have h2:=step_appG (w:=w) (ops:=ops) (o:=o) (a:=a) (K:=K) (Q:=Q) (E:=True) hgd s x ho ht hi hzs hzn hsz hbs base v n xs hs hown hnd hxs ad c news hx hl hsrc h1 hnn hn hbase (fun v' w' ha=>hK _ _ (h v' w' ha))
 rwa [if_pos (by simp [Region.wanted,hgd])] at h2
theorem cT_noD (t:TermV):NoD (cT t):=fun u hu d e=>by
 simp [cT] at hu
 rcases hu with rfl | rfl <;> cases e
theorem cTs_noD (ts:List TermV):NoD (ts.flatMap cT):=fun u hu d e=>by
 obtain ⟨t,_,h⟩:=List.mem_flatMap.1 hu
 exact cT_noD t u h d e
def AccR (w:World) (b:Nat) (q:Rat):Prop:=∃ ng a1 m1 c1 a2 m2 c2,BoxR w b ng (.slice a1 m1 c1) (.slice a2 m2 c2)/\IsRat w (.agg #[.bool ng,.slice a1 m1 c1,.slice a2 m2 c2]) q
theorem IsRat.pastR {w w':World} {v:Value} {q:Rat} (h:IsRat w v q) (hr:∀ v l,Rds w v l->Rds w' v l):IsRat w' v q:=by
 obtain ⟨mag,dv',g1,g2,g3⟩:=h
 exact ⟨mag,dv',g1,hr _ _ g2,hr _ _ g3⟩
theorem AccR.keep {w w':World} {b:Nat} {q:Rat} (h:AccR w b q) (hx:XF w w'):AccR w' b q:=by
 obtain ⟨ng,a1,m1,c1,a2,m2,c2,h1,h2⟩:=h
 exact ⟨ng,a1,m1,c1,a2,m2,c2,h1.keep hx,h2.keep hx⟩
theorem AccR.past {S:Nat->Prop} {w w':World} {b:Nat} {q:Rat} (h:AccR w b q) (hx:Ext S w w') (hb:¬ S b) (hr:∀ v l,Rds w v l->Rds w' v l):AccR w' b q:=by
 obtain ⟨ng,a1,m1,c1,a2,m2,c2,h1,h2⟩:=h
 exact ⟨ng,a1,m1,c1,a2,m2,c2,h1.ext hx hb,h2.pastR hr⟩
theorem AccR.lt {w:World} {b:Nat} {q:Rat} (h:AccR w b q):b<w.heap.size:=by
 obtain ⟨ng,a1,m1,c1,a2,m2,c2,h1,h2⟩:=h
 exact h1.lt
theorem AccR.ty {w:World} {b:Nat} {q:Rat} (h:AccR w b q):TyB w b 64:=by
 obtain ⟨ng,a1,m1,c1,a2,m2,c2,h1,h2⟩:=h
 exact ⟨_,h1.1⟩
def zeroRow:Array Value:=#[.string ⟨#[]⟩,.int .i64 0,.int .i64 0,.slice none 0 0,.int .i64 0]
def cutRow (vt:Value) (b:Int):Array Value:=#[.string ⟨#[99,117,116]⟩,.int .i64 0,.int .i64 1,vt,.int .i64 b]
theorem blk_ext {S:Nat->Prop} {w w':World} {b:Nat} {a:Array Value} {T:TypeId} (h:blk w b=some (.cells a T (0,0))) (hx:Ext S w w') (hn:¬ S b):blk w' b=some (.cells a T (0,0)):=(hx.blk (blk_lt h) hn).trans h
structure RdSt (w wr:World) (pb resb bb rwb mb B n:Nat) (pc:Array Value) (f:Nat->Rat) (qb qm:Rat) (vt:Value) (ts:List TermV):Prop where
 ext:XF w wr
 bp:blk wr pb=some (.cells pc 25 (0,0))
 res:blk wr resb=some (.cells zeroRow 35 (0,0))
 arr:RArr wr B n f
 accb:AccR wr bb qb
 row:blk wr rwb=some (.cells (cutRow vt 0) 35 (0,0))
 accm:AccR wr mb qm
 own:wr.ownsRow w.heap.size 70 2 vt ts.length (ts.flatMap cT)
 nod:∀ g,vt.ownBlock=some g->NoDig wr g
 ord:w.heap.size<=resb/\resb<B/\B<bb/\bb<rwb/\rwb<mb
section
variable {w wr w':World} {pb resb bb rwb mb B n:Nat} {pc:Array Value} {f:Nat->Rat} {qb qm q:Rat} {vt vt':Value} {ts:List TermV} {t:TermV}
theorem RdSt.keep (h:RdSt w wr pb resb bb rwb mb B n pc f qb qm vt ts) (hx:XF wr w'):RdSt w w' pb resb bb rwb mb B n pc f qb qm vt ts :=
 ⟨h.ext.trans hx,blk_keep h.bp hx,blk_keep h.res hx,h.arr.keep hx,h.accb.keep hx,blk_keep h.row hx,h.accm.keep hx,ownsRow_ext h.own hx (fun _ _ e=>e),fun g hg i d hc=>h.nod g hg i d (by rw [<- hx.cell (p:=⟨g,i,none⟩) (World.ownsRow.lt h.own g hg).2 (fun e=>e)]; exact hc),h.ord⟩
theorem RdSt.congr {qb' qm':Rat} {ts':List TermV} (h:RdSt w wr pb resb bb rwb mb B n pc f qb qm vt ts) (h1:qb=qb') (h2:qm=qm') (h3:ts=ts'):RdSt w wr pb resb bb rwb mb B n pc f qb' qm' vt ts':=by
 subst h1; subst h2; subst h3; exact h
theorem RdSt.setBox {s:Nat} (h:RdSt w wr pb resb bb rwb mb B n pc f qb qm vt ts) (hs:s=bb∨s=mb) {n0:Bool} {m0 d0:Value} (hb:BoxR wr s n0 m0 d0) {neg:Bool} {a1 a2:Option Addr} {m1 c1 m2 c2:Nat} (hq:IsRat wr (.agg #[.bool neg,.slice a1 m1 c1,.slice a2 m2 c2]) q) :
  RdSt w (((wr.setCell ⟨s,0,none⟩ (.bool neg)).setCell ⟨s,1,none⟩ (.slice a1 m1 c1)).setCell ⟨s,2,none⟩ (.slice a2 m2 c2)) pb resb bb rwb mb B n pc f (if s=bb then q else qb) (if s=bb then qm else q) vt ts /\
  Ext (fun k=>k=s) wr (((wr.setCell ⟨s,0,none⟩ (.bool neg)).setCell ⟨s,1,none⟩ (.slice a1 m1 c1)).setCell ⟨s,2,none⟩ (.slice a2 m2 c2))/\∀ v l,Rds wr v l->Rds (((wr.setCell ⟨s,0,none⟩ (.bool neg)).setCell ⟨s,1,none⟩ (.slice a1 m1 c1)).setCell ⟨s,2,none⟩ (.slice a2 m2 c2)) v l:=by
 have hp:=hb.put (neg:=neg) (no_int a1 m1 c1) (no_int a2 m2 c2)
 have hx:=hp.ext
 have hr:=hp.rds
 obtain ⟨o0,o1,o2,o3,o4⟩:=h.ord
 have hty:TyB wr s 64:=⟨_,hb.1⟩
 refine ⟨⟨h.ext.own hx (fun k e=>by have e':k=s:=e; omega),blk_ext h.bp hx (fun e=>typ_ne' ⟨_,h.bp⟩ hty (by decide) e),blk_ext h.res hx (fun e=>typ_ne' ⟨_,h.res⟩ hty (by decide) e),h.arr.past hx (fun e=>by have e':B=s:=e; omega) hr,?_,blk_ext h.row hx (fun e=>typ_ne' ⟨_,h.row⟩ hty (by decide) e),?_,ownsRow_ext h.own hx (fun g hg e=>typ_ne' (own_ty h.own g hg) hty (by decide) e),fun g hg i d hc=>h.nod g hg i d (by rw [<- hx.cell (p:=⟨g,i,none⟩) (World.ownsRow.lt h.own g hg).2 (fun e=>typ_ne' (own_ty h.own g hg) hty (by decide) e)]; exact hc),h.ord⟩,hx,hr⟩
 ·by_cases e:s=bb
  ·rw [if_pos e]; subst e
   exact ⟨_,_,_,_,_,_,_,hp.box,hq.pastR hr⟩
  ·rw [if_neg e]
   exact h.accb.past hx (fun e2=>e e2.symm) hr
 ·by_cases e:s=bb
  ·rw [if_pos e]
   exact h.accm.past hx (fun e2=>by have e':mb=s:=e2; omega) hr
  ·rw [if_neg e]
   have e':s=mb:=hs.resolve_left e
   subst e'
   exact ⟨_,_,_,_,_,_,_,hp.box,hq.pastR hr⟩
theorem RdSt.push (h:RdSt w wr pb resb bb rwb mb B n pc f qb qm vt ts) (hA:AppG wr w' w.heap.size 70 2 vt vt' ts.length (ts.flatMap cT) (cT t)) (hsl:∃ ao m c,vt'=.slice ao m c) (h0:∃ ao m c,vt=.slice ao m c) :
  RdSt w (w'.setCell ⟨rwb,3,none⟩ vt') pb resb bb rwb mb B n pc f qb qm vt' (ts++[t])/\blk w' rwb=some (.cells (cutRow vt 0) 35 (0,0)):=by
 obtain ⟨o0,o1,o2,o3,o4⟩:=h.ord
 obtain ⟨hn,hx,hr,hnd⟩:=hA
 have hn':w'.ownsRow w.heap.size 70 2 vt' (ts++[t]).length ((ts++[t]).flatMap cT):=by
  rw [List.length_append,List.flatMap_append]
  simpa using hn
 have hty:∀ k,vt.ownBlock=some k->TyB wr k 70:=own_ty h.own
 have k1:=blk_ext h.bp hx (fun e=>typ_ne' ⟨_,h.bp⟩ (hty _ e) (by decide) rfl)
 have k2:=blk_ext h.res hx (fun e=>typ_ne' ⟨_,h.res⟩ (hty _ e) (by decide) rfl)
 have k3:=blk_ext h.row hx (fun e=>typ_ne' ⟨_,h.row⟩ (hty _ e) (by decide) rfl)
 obtain ⟨arr,ha,hsz⟩:=h.arr.row
 have k4:=h.arr.past hx (fun e=>typ_ne' ⟨_,ha⟩ (hty _ e) (by decide) rfl) hr
 have k5:=h.accb.past hx (fun e=>typ_ne' h.accb.ty (hty _ e) (by decide) rfl) hr
 have k6:=h.accm.past hx (fun e=>typ_ne' h.accm.ty (hty _ e) (by decide) rfl) hr
 have hx2:=(Ext.refl (fun k=>k=rwb) w').setCell (p:=⟨rwb,3,none⟩) vt' (fun _=>rfl)
 have hndr:NoDig w' rwb:=noDig_cells k3 (fun u hu d e=>by
  obtain ⟨ao,m,c,rfl⟩:=h0
  simp [cutRow] at hu
  rcases hu with rfl | rfl | rfl | rfl | rfl <;> cases e)
 have hr2:∀ v l,Rds w' v l->Rds (w'.setCell ⟨rwb,3,none⟩ vt') v l:=fun v l hv=>hv.past hx2 (fun k _ e=>by have e':k=rwb:=e; subst e'; exact hndr)
 refine ⟨⟨(h.ext.own hx (fun k e=>(World.ownsRow.lt h.own k e).1)).own hx2 (fun k e=>by have e':k=rwb:=e; omega),blk_ext k1 hx2 (fun e=>typ_ne' ⟨_,k1⟩ ⟨_,k3⟩ (by decide) e),blk_ext k2 hx2 (fun e=>by have e':resb=rwb:=e; omega),k4.past hx2 (fun e=>by have e':B=rwb:=e; omega) hr2,k5.past hx2 (fun e=>by have e':bb=rwb:=e; omega) hr2,blk_setCell_same k3 3 vt',k6.past hx2 (fun e=>by have e':mb=rwb:=e; omega) hr2,ownsRow_ext hn' hx2 (fun g hg e=>typ_ne' (own_ty hn' g hg) ⟨_,k3⟩ (by decide) e),fun g hg i d hc=>hnd g hg i d (by rw [<- hx2.cell (p:=⟨g,i,none⟩) (World.ownsRow.lt hn' g hg).2 (fun e=>typ_ne' (own_ty hn' g hg) ⟨_,k3⟩ (by decide) e)]; exact hc),h.ord⟩,k3⟩
end
def lowT (p:ProgV) (y:List Rat) (i:Nat):Rat:=sumTo i fun j=>combA p y j*((p.v j).lo:Rat)
def upT' (p:ProgV) (y:List Rat) (i:Nat):Rat:=sumTo i fun j=>(upJ p y j:Rat)*((p.v j).lo:Rat)
def smallT (p:ProgV) (y:List Rat) (i:Nat):Bool:=allTo i fun j=>limB (upJ p y j)
def termsR (p:ProgV) (y:List Rat) (i:Nat):List TermV:=termsTo i fun j=>toR (upJ p y j)
def noneT (p:ProgV) (y:List Rat) (i:Nat):Bool:=allTo i fun j=>(p.v j).ig || decide (combA p y j<=0)
theorem upJ_zero {p:ProgV} {y:List Rat} {i:Nat} (h:combA p y i=0):upJ p y i=0:=by
 unfold upJ; rw [h]; split <;> rfl
theorem toR_zero:toR 0=0:=rfl
theorem skip_sums {p:ProgV} {y:List Rat} {i:Nat} (h:combA p y i=0):combB p y - lowT p y i=combB p y - lowT p y (i+1)/\upT' p y i=upT' p y (i+1)/\termsR p y i=termsR p y (i+1)/\smallT p y (i+1)=smallT p y i:=by
 refine ⟨?_,?_,?_,?_⟩
 ·show _=_ - (lowT p y i+combA p y i*_)
  rw [h]; grind
 ·show _=upT' p y i+(upJ p y i:Rat)*_
  rw [upJ_zero h]
  have h5:((0:Int):Rat)=0:=rfl
  rw [h5]; grind
 ·unfold termsR
  rw [termsTo_succ,upJ_zero h,toR_zero,if_pos rfl,List.append_nil]
 ·show (smallT p y i && limB (upJ p y i))=_
  rw [upJ_zero h,show limB 0=true from by decide,Bool.and_true]
theorem limB_in {z:Int} (h:limB z=true):inRB z=true:=by
 unfold limB at h
 unfold inRB
 simp only [Bool.and_eq_true,decide_eq_true_eq] at h ⊢
 omega
theorem termsR_ok {p:ProgV} {y:List Rat} (h:smallT p y p.vars.length=true):termsR p y p.vars.length=termsTo p.vars.length (upJ p y):=by
 have:∀ n,n<=p.vars.length->termsTo n (fun j=>toR (upJ p y j))=termsTo n (upJ p y):=fun n=>by
  induction n with
  | zero=>exact fun _=>rfl
  | succ n ih =>
   intro hn
   rw [termsTo_succ,termsTo_succ,ih (by omega),toR_in (limB_in (allTo_iff.1 h n (by omega)))]
 exact this _ (Nat.le_refl _)
theorem upT_all {p:ProgV} {y:List Rat}:(upT' p y p.vars.length).floor=upI p y:=by
 have:upT' p y p.vars.length=((upI p y:Int):Rat):=by
  unfold upT' upI
  rw [isum_cast]
  exact sumTo_congr fun j _=>(Rat.intCast_mul _ _).symm
 rw [this,Rat.floor_intCast]
theorem Sz.cast {z:Int} {L:Nat} (h:(dg z.natAbs).length<=L) (h1:1<=L):Sz (z:Rat) L:=⟨by rw [Rat.num_intCast]; exact h,by rw [Rat.den_intCast]; exact Nat.le_trans (dg_length_le (k:=1) (by decide)) h1⟩
theorem ceil_len {q:Rat} {L:Nat} (h:Sz q L):(dg q.ceil.natAbs).length<=L+1:=by
 rw [Rat.ceil_eq_neg_floor_neg,Int.natAbs_neg]
 exact floor_len h.neg
def DrvPost (w:World) (re:RowV × Int) (r:Ending) (w':World):Prop:=∃ tv,r=.returned (.tuple #[.agg #[.string re.1.name,.int .i64 re.1.group,.int .i64 re.1.kind,tv,.int .i64 re.1.bound],.int .i64 re.2])/\Tms w' tv re.1.terms/\XF w w'/\∀ g,tv.ownBlock=some g->w.heap.size<=g
theorem sign_eq0 (q:Rat):decide (q.num.sign=0)=decide (q=0):=by
 rw [decide_eq_decide,Int.sign_eq_zero_iff_zero]
 exact Rat.num_eq_zero
theorem row_put {w:World} {b:Nat} {a0 a1 a2 a3 a4:Value} (h:blk w b=some (.cells #[a0,a1,a2,a3,a4] 35 (0,0))) (x0 x1 x2 x3 x4:Value) :
  blk (((((w.setCell ⟨b,0,none⟩ x0).setCell ⟨b,1,none⟩ x1).setCell ⟨b,2,none⟩ x2).setCell ⟨b,3,none⟩ x3).setCell ⟨b,4,none⟩ x4) b=some (.cells #[x0,x1,x2,x3,x4] 35 (0,0)) /\
  Ext (fun k=>k=b) w (((((w.setCell ⟨b,0,none⟩ x0).setCell ⟨b,1,none⟩ x1).setCell ⟨b,2,none⟩ x2).setCell ⟨b,3,none⟩ x3).setCell ⟨b,4,none⟩ x4):=by
 have hx:=(((((Ext.refl (fun k=>k=b) w).setCell (p:=⟨b,0,none⟩) x0 (fun _=>rfl)).setCell (p:=⟨b,1,none⟩) x1 (fun _=>rfl)).setCell (p:=⟨b,2,none⟩) x2 (fun _=>rfl)).setCell (p:=⟨b,3,none⟩) x3 (fun _=>rfl)).setCell (p:=⟨b,4,none⟩) x4 (fun _=>rfl)
 have h5:=blk_setCell_same (blk_setCell_same (blk_setCell_same (blk_setCell_same (blk_setCell_same h 0 x0) 1 x1) 2 x2) 3 x3) 4 x4
 exact ⟨(by simpa using h5),hx⟩
theorem none_next {p:ProgV} {y:List Rat} {i:Nat} (h:noneT p y i=true) (hk:(!(p.v i).ig && decide (0<combA p y i))=false):noneT p y (i+1)=true:=allTo_next h (by
 cases hg:(p.v i).ig with
 | true=>rfl
 | false =>
  rw [hg] at hk
  have h2:¬ 0<combA p y i:=of_decide_eq_false hk
  rw [Bool.false_or]
  exact decide_eq_true (Rat.not_lt.1 h2))
theorem termsTo_len (f:Nat->Int) (n:Nat):(termsTo n f).length<=n:=by
 unfold termsTo
 exact Nat.le_trans (List.length_filterMap_le _ _) (by simp)
theorem toR_InR (z:Int):InR (toR z):=by
 unfold toR
 split
 ·rename_i h
  unfold inRB at h
  simp only [Bool.and_eq_true,decide_eq_true_eq] at h
  exact h
 ·exact ⟨by decide,by decide⟩
theorem termsR_in {p:ProgV} {y:List Rat} {n:Nat} (hn:n<=1000):∀ t ∈ termsR p y n,TermOk t:=fun t ht=>by
 obtain ⟨j,hj,rfl,-⟩:=termsTo_mem t ht
 exact ⟨⟨by show (-9223372036854775808:Int)<=(j:Int); omega,by show (j:Int)<=9223372036854775807; omega⟩,toR_InR _⟩
theorem term_src (w:World) (t:TermV):∀ j u,(cT t)[j]?=some u->(w.alloc (.cells #[.int .i64 t.var,.int .i64 t.coef] 70)).cell? ((⟨w.heap.size,0,none⟩:Addr).add j)=some u:=fun j u hu=>by
 match j,hu with
 | 0,hu=>cases hu; exact cellq (blk_alloc_at w _) 0 rfl
 | 1,hu=>cases hu; exact cellq (blk_alloc_at w _) 1 rfl
 | j+2,hu=>simp [cT] at hu
theorem row0_tms (w:World):Tms w (.slice none 0 0) row0.terms:=⟨Sl.nil w 2,fun t ht=>by cases ht⟩
theorem signed_no {p:ProgV} {y:List Rat} (h:signedB p y=false):roundP p y=(row0,13):=by
 unfold roundP; rw [h]; rfl
theorem up_no {p:ProgV} {y:List Rat} {i:Nat} (hi:i<p.vars.length) (h:(!(p.v i).ig && decide (0<combA p y i))=true):roundP p y=(row0,13):=by
 unfold roundP
 have:noneUp p y=false:=allTo_false hi (by
  rw [Bool.and_eq_true,Bool.not_eq_true',decide_eq_true_eq] at h
  rw [h.1,Bool.false_or]
  exact decide_eq_false (fun e=>absurd h.2 (Rat.not_lt.2 e)))
 rw [this,Bool.and_false]; rfl
theorem round_any (w:World) (pv yv cvs:Value) (p:ProgV) (y:List Rat) (kd crow:Int) (hp:IsPrg w pv p) (hy:Rats w yv y 10) (hcv:∃ ao n c,cvs=.slice ao n c) (hn:p.vars.length<=6) (hm:p.rows.length<=8) (hT:∀ i,i<p.rows.length->(p.r i).terms.length<=12) :
  Calls Tryz.prog 61 #[pv,.agg #[.int .i64 kd,yv,.int .i64 crow,cvs]] w (DrvPost w (roundP p y)):=by
 have HSn:=bH (fun W (hW:XF w W)=>Signed_any W pv yv p y 10 (hp.keep hW) (hy.keep hW) (by decide) (by decide))
 have HCb:=bH (fun W (hW:XF w W)=>Combine_any W pv yv p y 10 12 (hp.keep hW) (hy.keep hW) (by decide) hT (by omega) (by omega) (by omega))
 unfold CombPost at HCb
 have hszA:∀ j,Sz (combA p y j) 2000:=fun j=>by
  obtain ⟨vv,rv,rfl,-,hpr⟩:=hp
  exact (combA_sz hpr (fun i=>hy.sz (by decide) i) hT j).mono (by unfold sizeA; omega)
 have hszB:Sz (combB p y) 2000:=by
  obtain ⟨vv,rv,rfl,-,hpr⟩:=hp
  exact (sum_size (f:=fun k=>(p.r k).bound) (g:=fun k=>atQ y k) (L:=10) (n:=p.rows.length) (fun k hk=>(hpr.ok k hk).bound) (fun k _=>hy.sz (by decide) _) _ (Nat.le_refl _)).mono (by omega)
 obtain ⟨vv,rv,rfl,hpv,hpr⟩:=hp
 obtain ⟨vo,vc,rfl,-,-,-⟩:=hpv.shape
 obtain ⟨ro,rc,rfl,-,-,-⟩:=hpr.shape
 obtain ⟨yo,yc,rfl,-,-,-⟩:=hy.shape
 obtain ⟨co,cn,cc,rfl⟩:=hcv
 obtain ⟨yn,hyn⟩:∃ x,y.length=x:=⟨_,rfl⟩
 rw [hyn] at HSn HCb ⊢
 have HPv:=bH hpv
 have hvin:∀ i,i<p.vars.length->VarOk (p.v i):=fun i hi=>by
  unfold ProgV.v; rw [getD_lt hi]; exact hpv.2 _ (List.getElem_mem _)
 have hszu:∀ j,(dg (upJ p y j).natAbs).length<=2001:=fun j=>by
  unfold upJ
  split
  ·exact ceil_len (hszA j)
  ·rw [show (0:Int).natAbs=0 from rfl,dg_zero]; decide
 have hszL:∀ i,i<=p.vars.length->Sz (combB p y - lowT p y i) 100000:=fun i hi=>by
  have h:=sumTo_sz (g:=fun j=>combA p y j*((p.v j).lo:Rat)) (M:=2002) (n:=i) (fun j hj=>((hszA j).mul (Sz.int (hvin j (by omega)).lo)).mono (by omega))
  exact (hszB.sub h).mono (by have:=Nat.mul_le_mul_right (2003) (show i<=6 by omega); omega)
 have hszU:∀ i,i<=p.vars.length->Sz (upT' p y i) 100000:=fun i hi=>by
  have h:=sumTo_sz (g:=fun j=>(upJ p y j:Rat)*((p.v j).lo:Rat)) (M:=2003) (n:=i) (fun j hj=>((Sz.cast (hszu j) (by decide)).mul (Sz.int (hvin j (by omega)).lo)).mono (by omega))
  exact h.mono (by have:=Nat.mul_le_mul_right (2004) (show i<=6 by omega); omega)
 have HZa:=bH hszA
 have HZb:=bH (bI hszL (bI hszU hszu))
 have HF0:=bH (fun W=>rfrom_any W 0 (by decide) (by decide))
 obtain ⟨n,hn'⟩:∃ x,p.vars.length=x:=⟨_,rfl⟩
 obtain ⟨m,hm'⟩:∃ x,p.rows.length=x:=⟨_,rfl⟩
 have HE:=bH (bI hn' hm')
 have hmax:n<=6:=by omega
 rw [hn',hm'] at HSn HCb ⊢
 rw [hn'] at HZb
 clear hpv hpr hy hn' hm' hn hm hT hszA hszB hszL hszU hszu hvin hyn
 have hxa:=(Ext.refl (fun _=>False) w).alloc (.cells #[.slice vo n vc,.slice ro m rc] 25)
 have hxb:=(Ext.refl (fun _=>False) (w.alloc (.cells #[.slice vo n vc,.slice ro m rc] 25))).alloc (.cells #[.int .i64 kd,.slice yo yn yc,.int .i64 crow,.slice co cn cc] 29)
 have hxc:=(Ext.refl (fun _=>False) ((w.alloc (.cells #[.slice vo n vc,.slice ro m rc] 25)).alloc (.cells #[.int .i64 kd,.slice yo yn yc,.int .i64 crow,.slice co cn cc] 29))).alloc (.cells zeroRow 35)
 have hb1:=blk_keep (blk_alloc_at w (.cells #[.slice vo n vc,.slice ro m rc] 25)) (hxb.trans hxc)
 have hb2:blk (((w.alloc (.cells #[.slice vo n vc,.slice ro m rc] 25)).alloc (.cells #[.int .i64 kd,.slice yo yn yc,.int .i64 crow,.slice co cn cc] 29)).alloc (.cells zeroRow 35)) (w.heap.size+1)=some (.cells #[.int .i64 kd,.slice yo yn yc,.int .i64 crow,.slice co cn cc] 29 (0,0)):=by
  have h:=blk_alloc_at (w.alloc (.cells #[.slice vo n vc,.slice ro m rc] 25)) (.cells #[.int .i64 kd,.slice yo yn yc,.int .i64 crow,.slice co cn cc] 29)
  rw [World.size_alloc] at h
  exact blk_keep h hxc
 have hb3:blk (((w.alloc (.cells #[.slice vo n vc,.slice ro m rc] 25)).alloc (.cells #[.int .i64 kd,.slice yo yn yc,.int .i64 crow,.slice co cn cc] 29)).alloc (.cells zeroRow 35)) (w.heap.size+1+1)=some (.cells zeroRow 35 (0,0)):=by
  have h:=blk_alloc_at ((w.alloc (.cells #[.slice vo n vc,.slice ro m rc] 25)).alloc (.cells #[.int .i64 kd,.slice yo yn yc,.int .i64 crow,.slice co cn cc] 29)) (.cells zeroRow 35)
  rwa [World.size_alloc,World.size_alloc] at h
 have HB:=bH (bI hb1 (bI hb2 (bI hb3 (bI ((hxa.trans hxb).trans hxc) (show w.heap.size<=w.heap.size+1+1 by omega)))))
 clear hxa hxb hxc hb1 hb2 hb3
 unfold zeroRow at HB
 go_enter Tryz.func61,Tryz.ntmps61
 go_upto_region 1 with fail
 generalize ((w.alloc (.cells #[.slice vo n vc,.slice ro m rc] 25)).alloc (.cells #[.int .i64 kd,.slice yo yn yc,.int .i64 crow,.slice co cn cc] 29)).alloc (.cells #[.string ⟨#[]⟩,.int .i64 0,.int .i64 0,.slice none 0 0,.int .i64 0] 35)=w1 at *
 generalize w.heap.size+1+1=resb at *
 generalize w.heap.size+1=cb at *
 obtain ⟨pb,hpb⟩:∃ q,w.heap.size=q:=⟨_,rfl⟩
 have HLo:=bH HB.out.2.2.2.2
 rw [hpb] at HB ⊢
 clear hpb
 have p0:=cellq HB.out.1 0 rfl
 have p1:=cellq HB.out.1 1 rfl
 have c1:=cellq HB.out.2.1 1 rfl
 obtain ⟨S,hS⟩:∃ S,signedB p y=S:=⟨_,rfl⟩
 have HS:=bH hS
 rw [hS] at HSn
 clear hS
 go_wp2_with fail
 refine (HSn.out w1 HB.out.2.2.2.1).mono ?_
 rintro r2 w2 ⟨rfl,hx2⟩
 replace HB:=bH (bI (blk_keep HB.out.1 hx2) (bI (blk_keep HB.out.2.1 hx2) (bI (blk_keep HB.out.2.2.1 hx2) (HB.out.2.2.2.1.trans hx2))))
 clear p0 p1 c1 hx2 HSn
 cases S with
 | false =>
  have z0:=cellq HB.out.2.2.1 0 rfl
  have z1:=cellq HB.out.2.2.1 1 rfl
  have z2:=cellq HB.out.2.2.1 2 rfl
  have z3:=cellq HB.out.2.2.1 3 rfl
  have z4:=cellq HB.out.2.2.1 4 rfl
  have y0:=free_of_cells HB.out.2.2.1
  have HP:=bH (row_put HB.out.2.2.1 (.string ⟨#[]⟩) (.int .i64 0) (.int .i64 0) (.slice none 0 0) (.int .i64 0))
  go_wp2
  generalize ((((w2.setCell ⟨resb,0,none⟩ (.string ⟨#[]⟩)).setCell ⟨resb,1,none⟩ (.int .i64 0)).setCell ⟨resb,2,none⟩ (.int .i64 0)).setCell ⟨resb,3,none⟩ (.slice none 0 0)).setCell ⟨resb,4,none⟩ (.int .i64 0)=w9 at *
  have g0:=cellq HP.out.1 0 rfl
  have g1:=cellq HP.out.1 1 rfl
  have g2:=cellq HP.out.1 2 rfl
  have g3:=cellq HP.out.1 3 rfl
  have g4:=cellq HP.out.1 4 rfl
  exact bodyPost_ret (v:=.tuple #[.agg #[.string ⟨#[]⟩,.int .i64 0,.int .i64 0,.slice none 0 0,.int .i64 0],.int .i64 13]) (by simp [results,Tryz.results61,go_sem,g0,g1,g2,g3,g4]) rfl (by rw [signed_no HS.out]; exact ⟨_,rfl,row0_tms _,HB.out.2.2.2.own HP.out.2 (fun k e=>by rw [e]; exact HLo.out),fun g hg=>by cases hg⟩)
 | true =>
  have p0:=cellq HB.out.1 0 rfl
  have p1:=cellq HB.out.1 1 rfl
  have c1:=cellq HB.out.2.1 1 rfl
  go_wp2_with fail
  refine (HCb.out w2 HB.out.2.2.2).mono ?_
  rintro r3 w3 ⟨B,v3,rfl,hBl,hA3,hq3,hx3⟩
  obtain ⟨n3,a3,l3,c3,a3',l3',c3',rfl⟩:=hq3.shape
  have hx4:=(Ext.refl (fun _=>False) w3).alloc (.cells #[.bool n3,.slice a3 l3 c3,.slice a3' l3' c3'] 64)
  have HC:=bH (bI (hA3.keep hx4) (bI (show AccR (w3.alloc (.cells #[.bool n3,.slice a3 l3 c3,.slice a3' l3' c3'] 64)) w3.heap.size (combB p y) from ⟨_,_,_,_,_,_,_,boxR_new rfl n3 a3 l3 c3 a3' l3' c3',hq3.keep hx4⟩) (bI (blk_keep HB.out.1 (hx3.trans hx4)) (bI (blk_keep HB.out.2.2.1 (hx3.trans hx4)) (bI (HB.out.2.2.2.trans (hx3.trans hx4)) (bI (show resb<B from Nat.lt_of_lt_of_le (blk_lt HB.out.2.2.1) hBl) hA3.lt))))))
  clear p0 p1 c1 hBl hA3 hq3 hx3 hx4 HB HCb
  go_upto_region 4 with fail
  generalize w3.alloc (.cells #[.bool n3,.slice a3 l3 c3,.slice a3' l3' c3'] 64)=w4 at *
  generalize w3.heap.size=bb at *
  go_wp2_with fail
  refine (HF0.out w4).mono ?_
  rintro r5 w5 ⟨v5,rfl,h5,hx5⟩
  obtain ⟨n5,a5,l5,c5,a5',l5',c5',rfl⟩:=h5.shape
  have hx6:=(Ext.refl (fun _=>False) w5).alloc (.cells (cutRow (.slice none 0 0) 0) 35)
  have hx7:=(Ext.refl (fun _=>False) (w5.alloc (.cells (cutRow (.slice none 0 0) 0) 35))).alloc (.cells #[.bool n5,.slice a5 l5 c5,.slice a5' l5' c5'] 64)
  have HR:=bH (show RdSt w ((w5.alloc (.cells (cutRow (.slice none 0 0) 0) 35)).alloc (.cells #[.bool n5,.slice a5 l5 c5,.slice a5' l5' c5'] 64)) pb resb bb w5.heap.size (w5.heap.size+1) B n #[.slice vo n vc,.slice ro m rc] (combA p y) (combB p y) ((0:Int):Rat) (.slice none 0 0) [] from by
   have hxx:=hx5.trans (hx6.trans hx7)
   have hlt:=HC.out.2.1.lt
   have hsz:=hx5.size
   exact ⟨HC.out.2.2.2.2.1.trans hxx,blk_keep HC.out.2.2.1 hxx,blk_keep HC.out.2.2.2.1 hxx,HC.out.1.keep hxx,HC.out.2.1.keep hxx,blk_keep (blk_alloc_at w5 _) hx7,⟨_,_,_,_,_,_,_,boxR_new (W:=w5.alloc (.cells (cutRow (.slice none 0 0) 0) 35)) (by simp) n5 a5 l5 c5 a5' l5' c5',h5.keep (hx6.trans hx7)⟩,World.ownsRow_nil _ _ _ 2,(fun g hg=>by cases hg),HLo.out,HC.out.2.2.2.2.2.1,HC.out.2.2.2.2.2.2,by omega,by omega⟩)
  unfold cutRow at HR
  clear h5 hx5 hx6 hx7 HC HF0
  have HF0:=bH (fun W=>rfrom_any W 0 (by decide) (by decide))
  go_upto_region 5 with fail
  generalize (w5.alloc (.cells #[.string ⟨#[99,117,116]⟩,.int .i64 0,.int .i64 1,.slice none 0 0,.int .i64 0] 35)).alloc (.cells #[.bool n5,.slice a5 l5 c5,.slice a5' l5' c5'] 64)=w6 at *
  generalize w5.heap.size+1=mb at *
  generalize w5.heap.size=rwb at *
  have p0:=cellq HR.out.bp 0 rfl
  go_wp2_with fail
  clear p0
  go_loopg [37,10] n (fun gg v37 v10 wr=>∃ (i:Nat) (vt:Value),i<=n/\gg=n - i/\v37=.int .i64 i/\v10=.bool (smallT p y i)/\noneT p y i=true/\RdSt w wr pb resb bb rwb mb B n #[.slice vo n vc,.slice ro m rc] (combA p y) (combB p y - lowT p y i) (upT' p y i) vt (termsR p y i))
  case atStart=>exact ⟨0,_,Nat.zero_le _,rfl,rfl,rfl,rfl,HR.out.congr (by show _=_ - (0:Rat); grind) rfl rfl⟩
  case round =>
   clear HR
   obtain ⟨i,vt,hi,rfl,rfl,rfl,hnt,hst⟩:=hrel
   have HR:=bH hst
   have HNt:=bH hnt
   clear hst hnt
   obtain ⟨sm,hsm⟩:∃ x,smallT p y i=x:=⟨_,rfl⟩
   have HSm:=bH hsm
   rw [hsm]
   clear hsm
   by_cases hin:i<n
   ·have i0:(i:Int)<(n:Int):=by omega
    have i1:(0:Int)<=(i:Int):=by omega
    have hil:i<p.vars.length:=by rw [HE.out.1]; exact hin
    obtain ⟨b1,off,rfl,-,e0,e1,e2,e3,e4,hvok⟩:=(HPv.out.keep HR.out.ext).atp i hil
    obtain ⟨lo,hlo⟩:∃ x,(p.v i).lo=x:=⟨_,rfl⟩
    obtain ⟨ig,hig⟩:∃ x,(p.v i).ig=x:=⟨_,rfl⟩
    have HLi:=bH (show combB p y - lowT p y (i+1)=combB p y - lowT p y i - combA p y i*(lo:Rat) from by
     show _ - (lowT p y i+combA p y i*((p.v i).lo:Rat))=_
     rw [hlo]; grind)
    have HUi:=bH (show upT' p y (i+1)=upT' p y i+(upJ p y i:Rat)*(lo:Rat) from by
     show upT' p y i+(upJ p y i:Rat)*((p.v i).lo:Rat)=_
     rw [hlo])
    have HJi:=bH (show upJ p y i=if ig=true then (combA p y i).ceil else 0 from by rw [<- hig]; rfl)
    have HNn:=bH (fun (h:(!ig && decide (0<combA p y i))=false)=>none_next (p:=p) (y:=y) HNt.out (by rw [hig]; exact h))
    have HNo:=bH (fun (h:(!ig && decide (0<combA p y i))=true)=>up_no (y:=y) hil (by rw [hig]; exact h))
    rw [hlo] at e0
    rw [hig] at e3
    have HFl:=bH (show InR lo from hlo ▸ hvok.lo)
    clear hvok hlo hig hil
    generalize (p.v i).up=up at *
    generalize (p.v i).op=op at *
    generalize (p.v i).co=co' at *
    have hx1:=(Ext.refl (fun _=>False) wr).alloc (.cells #[.int .i64 lo,.int .i64 up,.bool op,.bool ig,.int .i64 co'] 73)
    have HR1:=bH (bI (HR.out.keep hx1) (blk_alloc_at wr (.cells #[.int .i64 lo,.int .i64 up,.bool op,.bool ig,.int .i64 co'] 73)))
    obtain ⟨CA,hCA⟩:∃ x,combA p y i=x:=⟨_,rfl⟩
    have HZc:=bH (show Sz CA 2000 from hCA ▸ HZa.out i)
    obtain ⟨ng,a1,m1,c1,a2,m2,c2,f0,f1,f2,hca⟩:=HR1.out.1.arr.cells i hin
    rw [hCA] at hca
    have HCA:=bH hca
    have HCAe:=bH hCA
    rw [hCA] at HLi HJi HNo HNn
    clear hca hCA hx1
    go_upto_region 9 with fail
    generalize wr.alloc (.cells #[.int .i64 lo,.int .i64 up,.bool op,.bool ig,.int .i64 co'] 73)=w1 at *
    generalize wr.heap.size=vb at *
    clear e0 e1 e2 e3 e4
    have e0:=cellq HR1.out.2 0 rfl
    have e3:=cellq HR1.out.2 3 rfl
    have HSi:=bH (fun W (hW:XF w1 W)=>rsign_any W _ CA 2000 ((HCA.out.keep hW).reads HZc.out) (by decide))
    obtain ⟨K,hK⟩:∃ K:Bool,(!ig && decide (0<CA))=K:=⟨_,rfl⟩
    have HK:=bH hK
    rw [hK] at HNo HNn
    clear hK
    go_cut [52] (fun v52 wx=>v52=.bool K/\XF w1 wx)
    case first =>
     have HP:=bH (show decide (0<CA.num.sign)=decide (0<CA) from by rw [decide_eq_decide]; exact sign_gt CA)
     cases ig with
     | true =>
      have HK2:=bH (show K=false from HK.out.symm)
      go_wp2
      go_meet
      exact ⟨by rw [HK2.out],Ext.refl _ _⟩
     | false =>
      have HK2:=bH (show K=decide (0<CA.num.sign) from by rw [HP.out]; exact HK.out.symm)
      generalize CA.num.sign=X at *
      go_wp2_with fail
      refine (HSi.out w1 (Ext.refl _ _)).mono ?_
      rintro r7 w7 ⟨rfl,hx7⟩
      go_wp2
      go_meet
      exact ⟨by rw [HK2.out],hx7⟩
    case rest =>
    obtain ⟨rfl,hx2⟩:=hcut
    obtain ⟨w2,rfl⟩:∃ x,x=wc:=⟨_,rfl⟩
    replace HR:=bH (bI (HR1.out.1.keep hx2) (bI (blk_keep HR1.out.2 hx2) (HCA.out.keep hx2)))
    replace f0:=cell_keep f0 hx2
    replace f1:=cell_keep f1 hx2
    replace f2:=cell_keep f2 hx2
    clear e0 e3 hx2 HR1 HCA HSi
    have e0:=cellq HR.out.2.1 0 rfl
    have e3:=cellq HR.out.2.1 3 rfl
    cases K with
    | true =>
     have hres:=HR.out.1.res
     unfold zeroRow at hres
     have z0:=cellq hres 0 rfl
     have z1:=cellq hres 1 rfl
     have z2:=cellq hres 2 rfl
     have z3:=cellq hres 3 rfl
     have z4:=cellq hres 4 rfl
     have y0:=free_of_cells hres
     have HP:=bH (row_put hres (.string ⟨#[]⟩) (.int .i64 0) (.int .i64 0) (.slice none 0 0) (.int .i64 0))
     clear hres
     go_wp2
     generalize ((((w2.setCell ⟨resb,0,none⟩ (.string ⟨#[]⟩)).setCell ⟨resb,1,none⟩ (.int .i64 0)).setCell ⟨resb,2,none⟩ (.int .i64 0)).setCell ⟨resb,3,none⟩ (.slice none 0 0)).setCell ⟨resb,4,none⟩ (.int .i64 0)=w9 at *
     have g0:=cellq HP.out.1 0 rfl
     have g1:=cellq HP.out.1 1 rfl
     have g2:=cellq HP.out.1 2 rfl
     have g3:=cellq HP.out.1 3 rfl
     have g4:=cellq HP.out.1 4 rfl
     exact bodyPost_ret (v:=.tuple #[.agg #[.string ⟨#[]⟩,.int .i64 0,.int .i64 0,.slice none 0 0,.int .i64 0],.int .i64 13]) (by simp [results,Tryz.results61,go_sem,g0,g1,g2,g3,g4]) rfl (by rw [HNo.out trivial]; exact ⟨_,rfl,row0_tms _,HR.out.1.ext.own HP.out.2 (fun k e=>by rw [e]; exact HR.out.1.ord.1),fun g hg=>by cases hg⟩)
    | false =>
     have HSi:=bH (fun W (hW:XF w2 W)=>rsign_any W _ CA 2000 ((HR.out.2.2.keep hW).reads HZc.out) (by decide))
     obtain ⟨Z,hZ⟩:∃ Z:Bool,decide (CA=0)=Z:=⟨_,rfl⟩
     have HZ:=bH hZ
     have HZs:=bH (show decide (CA.num.sign=0)=Z from by rw [sign_eq0]; exact hZ)
     clear hZ HNo HK
     go_upto_region 11 with fail
     go_cut [59] (fun v59 wx=>v59=.bool Z/\XF w2 wx)
     case first =>
      generalize CA.num.sign=X at *
      have HX2:=bH (show (X == 0)=Z from by rw [<- HZs.out]; by_cases h:X=0 <;> simp [h])
      go_wp2_with fail
      refine (HSi.out w2 (Ext.refl _ _)).mono ?_
      rintro r7 w7 ⟨rfl,hx7⟩
      go_wp2
      go_meet
      exact ⟨by rw [HX2.out],hx7⟩
     case rest =>
     obtain ⟨rfl,hx3⟩:=hcut
     obtain ⟨w3,rfl⟩:∃ x,x=wc:=⟨_,rfl⟩
     replace HR:=bH (bI (HR.out.1.keep hx3) (bI (blk_keep HR.out.2.1 hx3) (HR.out.2.2.keep hx3)))
     replace f0:=cell_keep f0 hx3
     replace f1:=cell_keep f1 hx3
     replace f2:=cell_keep f2 hx3
     clear e0 e3 hx3 HSi HZs
     cases Z with
     | true =>
      have hz:=skip_sums (p:=p) (y:=y) (i:=i) (HCAe.out.trans (of_decide_eq_true HZ.out))
      have HS2:=bH (bI (HR.out.1.congr hz.1 hz.2.1 hz.2.2.1) (show sm=smallT p y (i+1) from by rw [hz.2.2.2,HSm.out]))
      clear hz
      go_wp2
      go_roundg (n - (i+1))
      case measure=>omega
      case rel=>exact ⟨i+1,vt,by omega,rfl,by go_num,by rw [HS2.out.2],HNn.out trivial,HS2.out.1⟩
     | false =>
      clear HZ
      go_wp2_with fail
      refine (HF0.out w3).mono ?_
      rintro r8 w8 ⟨v8,rfl,h8,hx8⟩
      obtain ⟨n8,a8,l8,c8,a8',l8',c8',rfl⟩:=h8.shape
      have hx9:=(Ext.refl (fun _=>False) w8).alloc (.cells #[.bool n8,.slice a8 l8 c8,.slice a8' l8' c8'] 64)
      have HU:=bH (bI (boxR_new (W:=w8) rfl n8 a8 l8 c8 a8' l8' c8') (bI (h8.keep hx9) (bI (hx8.trans hx9) hx8.size)))
      clear h8 hx8 hx9
      go_upto_region 13 with fail
      generalize w8.alloc (.cells #[.bool n8,.slice a8 l8 c8,.slice a8' l8' c8'] 64)=w4 at *
      generalize w8.heap.size=ub at *
      have e3:=cellq (blk_keep HR.out.2.1 HU.out.2.2.1) 3 rfl
      replace f0:=cell_keep f0 HU.out.2.2.1
      replace f1:=cell_keep f1 HU.out.2.2.1
      replace f2:=cell_keep f2 HU.out.2.2.1
      go_upto_if 62 with fail
      go_cut [] (fun wx=>∃ ng a1 m1 c1 a2 m2 c2,BoxR wx ub ng (.slice a1 m1 c1) (.slice a2 m2 c2)/\IsRat wx (.agg #[.bool ng,.slice a1 m1 c1,.slice a2 m2 c2]) ((upJ p y i:Int):Rat)/\XF w3 wx)
      case first =>
       cases ig with
       | true =>
        have HJ:=bH (show upJ p y i=CA.ceil from HJi.out)
        have HCe:=bH (fun W (hW:XF w3 W)=>rceil_any W _ CA 2000 ((HR.out.2.2.keep hW).reads HZc.out) (by decide) (by decide))
        go_wp2_with fail
        refine (HCe.out w4 HU.out.2.2.1).mono ?_
        rintro r9 w9 ⟨v9,rfl,h9,hx9⟩
        obtain ⟨n9,a9,l9,c9,rfl⟩:=h9.shape
        have H9:=bH (bI h9 hx9)
        clear h9 hx9
        go_wp2_with fail
        refine (whole_any w9 n9 a9 l9 c9).mono ?_
        rintro r10 w10 ⟨rfl,hx10⟩
        have hX:=H9.out.2.trans hx10
        have hb10:=HU.out.1.keep hX
        obtain ⟨d0,d1,d2,d3,d4,d5⟩:=hb10.facts
        have hp:=hb10.put (neg:=n9) (no_int a9 l9 c9) (no_int none 0 0)
        have HP:=bH (bI hp.box (bI (hp.rat (H9.out.1.keep hx10).rat) ((HU.out.2.2.1.trans hX).own hp.ext (fun k e=>by rw [e]; exact HU.out.2.2.2))))
        clear hp hb10 hX hx10
        go_wp2
        go_meet
        exact ⟨_,_,_,_,_,_,_,HP.out.1,by rw [HJ.out]; exact HP.out.2.1,HP.out.2.2⟩
       | false =>
        have HJ:=bH (show upJ p y i=0 from HJi.out)
        go_wp2
        go_meet
        exact ⟨_,_,_,_,_,_,_,HU.out.1,by rw [HJ.out]; exact HU.out.2.1,HU.out.2.2.1⟩
      case rest =>
      obtain ⟨nu,au,lu,cu,au',lu',cu',hbu,hqu,hxu⟩:=hcut
      have HUq:=bH (bI hbu (bI hqu hxu))
      have HUl:=bH HU.out.2.2.2
      clear hbu hqu hxu e3 HU f0 f1 f2
      have HFo:=bH (fun W=>rfrom_any W lo HFl.out.1 HFl.out.2)
      have e0:=cellq (blk_keep HR.out.2.1 HUq.out.2.2) 0 rfl
      go_wp2_with fail
      refine (HFo.out wc).mono ?_
      rintro r11 w11 ⟨v11,rfl,h11,hx11⟩
      obtain ⟨n14,a14,l14,c14,a14',l14',c14',rfl⟩:=h11.shape
      have hx12:=(Ext.refl (fun _=>False) w11).alloc (.cells #[.bool n14,.slice a14 l14 c14,.slice a14' l14' c14'] 64)
      have HLb:=bH (bI (boxR_new (W:=w11) rfl n14 a14 l14 c14 a14' l14' c14') (h11.keep hx12))
      have hxx:=hx11.trans hx12
      replace HUq:=bH (bI (HUq.out.1.keep hxx) (bI (HUq.out.2.1.keep hxx) (bI (HUq.out.2.2.trans hxx) (show ub<w11.heap.size from Nat.lt_of_lt_of_le HUq.out.1.lt hx11.size))))
      have HRw:=bH (bI (HR.out.1.keep HUq.out.2.2.1) (HR.out.2.2.keep HUq.out.2.2.1))
      have HMbu:=bH (show mb<ub from Nat.lt_of_lt_of_le HR.out.1.accm.lt HUl.out)
      clear h11 hx11 hx12 hxx e0 HR
      go_upto_region 16 with fail
      generalize w11.alloc (.cells #[.bool n14,.slice a14 l14 c14,.slice a14' l14' c14'] 64)=w5 at *
      generalize w11.heap.size=lb at *
      have HR:=bH HRw.out.1
      have HCA:=bH HRw.out.2
      obtain ⟨arr0,arr1,arr2,arr3,arr4,arr5,arr6,f0,f1,f2,hca⟩:=HR.out.arr.cells i hin
      rw [HCAe.out] at hca
      replace HCA:=bH hca
      clear HRw hca
      replace f0:=cq f0
      replace f1:=cq f1
      replace f2:=cq f2
      have m0:=cq HLb.out.1.facts.1
      have m1:=cq HLb.out.1.facts.2.1
      have m2:=cq HLb.out.1.facts.2.2.1
      obtain ⟨nb0,ab0,lb0,cb0,ab0',lb0',cb0',hbb0,hqb0⟩:=HR.out.accb
      have t0:=cq hbb0.facts.1
      have t1:=cq hbb0.facts.2.1
      have t2:=cq hbb0.facts.2.2.1
      have HMb:=bH (fun W (hW:XF w5 W)=>rmul_any W _ _ CA (lo:Rat) 2000 ((HCA.out.keep hW).reads HZc.out) ((HLb.out.2.keep hW).reads ((Sz.int HFl.out).mono (by decide))) (by decide) (by decide))
      have HSb:=bH (fun W (hW:XF w5 W) u (hu:IsRat W u (CA*(lo:Rat)))=>rsub_any W _ u _ _ 100000 ((hqb0.keep hW).reads (HZb.out.1 i (by omega))) (hu.reads ((HZc.out.mul (Sz.int HFl.out)).mono (by decide))) (by decide) (by decide))
      clear hbb0 hqb0 HCA
      rw [<- HLi.out] at HSb
      generalize CA*(lo:Rat)=Y1 at *
      refine ends_begin 8 (XF w5) (by kernel_rfl) ((Ext.refl _ w5).drew) (fun hHeld=>?_)
      refine et 0 (h:=(et 1 (h:=(et 2 (h:=(et 3 (h:=(et 4 (h:=(et 5 (h:=?_)))))))))))
      (try go_frame)
      refine est 6 (h:=fun K hK=>?_)
      (go_simp; go_at_call 116; (with_reducible refine (HMb.out _ hHeld).mono ?_); rintro q1 w11 ⟨v11,rfl,h11,hx11⟩; have hX1:=hHeld.trans hx11; obtain ⟨n11,a11,l11,c11,a11',l11',c11',rfl⟩:=h11.shape)
      refine hK.out _ _ (hX1) (fun hHeld=>?_)
      clear hK K
      (try go_frame)
      refine est 7 (h:=fun K hK=>?_)
      (go_simp; go_at_call 115; (with_reducible refine (HSb.out _ hX1 _ h11).mono ?_); rintro q2 w12 ⟨v12,rfl,h12,hx12⟩; have hX2:=hX1.trans hx12; obtain ⟨n12,a12,l12,c12,a12',l12',c12',rfl⟩:=h12.shape)
      refine hK.out _ _ (hX2) (fun hHeld=>?_)
      clear hK K
      (try go_frame)
      have HR2:=bH (HR.out.keep hX2)
      obtain ⟨nb,ab,mb',cb',ab2,mb2,cb2,hbb,-⟩:=HR2.out.accb
      obtain ⟨d0,d1,d2,d3,d4,d5⟩:=hbb.facts
      refine ends_last rfl (by kernel_rfl) (fun K hK=>?_)
      go_simp
      refine hK.out _ _ ?_
      clear hK K
      (try go_frame)
      refine ends_done (by kernel_rfl) ?_ _
      obtain ⟨hst6,hx6,hr6⟩:=HR2.out.setBox (.inl rfl) hbb h12
      rw [if_pos rfl,if_pos rfl] at hst6
      have HRb:=bH hst6
      have HUbl:=bH HUq.out.2.2.2
      replace HUq:=bH (show BoxR _ ub nu (.slice au lu cu) (.slice au' lu' cu')/\IsRat _ (.agg #[.bool nu,.slice au lu cu,.slice au' lu' cu']) ((upJ p y i:Int):Rat) from ⟨(HUq.out.1.keep hX2).ext hx6 (fun e=>by have e':ub=bb:=e; have h1:=HMbu.out; have h2:=HR2.out.ord; omega),(HUq.out.2.1.keep hX2).pastR hr6⟩)
      replace HLb:=bH (show BoxR _ lb n14 (.slice a14 l14 c14) (.slice a14' l14' c14')/\IsRat _ (.agg #[.bool n14,.slice a14 l14 c14,.slice a14' l14' c14']) (lo:Rat) from ⟨(HLb.out.1.keep hX2).ext hx6 (fun e=>by have e':lb=bb:=e; have h1:=HMbu.out; have h2:=HR2.out.ord; have h3:=HUbl.out; omega),(HLb.out.2.keep hX2).pastR hr6⟩)
      clear hst6 hx6 hr6 hX1 hX2 h11 h12 hx11 hx12 HR2 HR hbb d0 d1 d2 d3 d4 d5 t0 t1 t2 f0 f1 f2 m0 m1 m2 HMb HSb hHeld
      generalize ((w12.setCell ⟨bb,0,none⟩ (.bool n12)).setCell ⟨bb,1,none⟩ (.slice a12 l12 c12)).setCell ⟨bb,2,none⟩ (.slice a12' l12' c12')=w6 at *
      have u0:=cq HUq.out.1.facts.1
      have u1:=cq HUq.out.1.facts.2.1
      have u2:=cq HUq.out.1.facts.2.2.1
      have m0:=cq HLb.out.1.facts.1
      have m1:=cq HLb.out.1.facts.2.1
      have m2:=cq HLb.out.1.facts.2.2.1
      obtain ⟨nb0,ab0,lb0,cb0,ab0',lb0',cb0',hbb0,hqb0⟩:=HRb.out.accm
      have t0:=cq hbb0.facts.1
      have t1:=cq hbb0.facts.2.1
      have t2:=cq hbb0.facts.2.2.1
      have HMm:=bH (fun W (hW:XF w6 W)=>rmul_any W _ _ ((upJ p y i:Int):Rat) (lo:Rat) 2001 ((HUq.out.2.keep hW).reads (Sz.cast (HZb.out.2.2 i) (by decide))) ((HLb.out.2.keep hW).reads ((Sz.int HFl.out).mono (by decide))) (by decide) (by decide))
      have HAm:=bH (fun W (hW:XF w6 W) u (hu:IsRat W u (((upJ p y i:Int):Rat)*(lo:Rat)))=>radd_any W _ u _ _ 100000 ((hqb0.keep hW).reads (HZb.out.2.1 i (by omega))) (hu.reads (((Sz.cast (HZb.out.2.2 i) (by decide)).mul (Sz.int HFl.out)).mono (by decide))) (by decide) (by decide))
      clear hbb0 hqb0
      rw [<- HUi.out] at HAm
      generalize ((upJ p y i:Int):Rat)*(lo:Rat)=Y2 at *
      go_upto_region 17 with fail
      refine ends_begin 5 (XF w6) (by kernel_rfl) ((Ext.refl _ w6).drew) (fun hHeld=>?_)
      refine et 0 (h:=(et 1 (h:=(et 2 (h:=?_)))))
      (try go_frame)
      refine est 3 (h:=fun K hK=>?_)
      (go_simp; go_at_call 116; (with_reducible refine (HMm.out _ hHeld).mono ?_); rintro q1 w11 ⟨v11,rfl,h11,hx11⟩; have hX1:=hHeld.trans hx11; obtain ⟨n11,a11,l11,c11,a11',l11',c11',rfl⟩:=h11.shape)
      refine hK.out _ _ (hX1) (fun hHeld=>?_)
      clear hK K
      (try go_frame)
      refine est 4 (h:=fun K hK=>?_)
      (go_simp; go_at_call 117; (with_reducible refine (HAm.out _ hX1 _ h11).mono ?_); rintro q2 w12 ⟨v12,rfl,h12,hx12⟩; have hX2:=hX1.trans hx12; obtain ⟨n12,a12,l12,c12,a12',l12',c12',rfl⟩:=h12.shape)
      refine hK.out _ _ (hX2) (fun hHeld=>?_)
      clear hK K
      (try go_frame)
      have HR3:=bH (HRb.out.keep hX2)
      obtain ⟨nb,ab,mb',cb',ab2,mb2,cb2,hbb,-⟩:=HR3.out.accm
      obtain ⟨d0,d1,d2,d3,d4,d5⟩:=hbb.facts
      refine ends_last rfl (by kernel_rfl) (fun K hK=>?_)
      go_simp
      refine hK.out _ _ ?_
      clear hK K
      (try go_frame)
      refine ends_done (by kernel_rfl) ?_ _
      obtain ⟨hst7,hx7,hr7⟩:=HR3.out.setBox (.inr rfl) hbb h12
      have hne:¬ mb=bb:=fun e=>by have h2:=HR3.out.ord; omega
      rw [if_neg hne,if_neg hne] at hst7
      have HRc:=bH hst7
      replace HUq:=bH (show BoxR _ ub nu (.slice au lu cu) (.slice au' lu' cu')/\IsRat _ (.agg #[.bool nu,.slice au lu cu,.slice au' lu' cu']) ((upJ p y i:Int):Rat) from ⟨(HUq.out.1.keep hX2).ext hx7 (fun e=>by have e':ub=mb:=e; have h1:=HMbu.out; omega),(HUq.out.2.keep hX2).pastR hr7⟩)
      clear hst7 hx7 hr7 hX1 hX2 h11 h12 hx11 hx12 HR3 HRb hbb d0 d1 d2 d3 d4 d5 t0 t1 t2 u0 u1 u2 m0 m1 m2 HMm HAm hHeld HLb
      generalize ((w12.setCell ⟨mb,0,none⟩ (.bool n12)).setCell ⟨mb,1,none⟩ (.slice a12 l12 c12)).setCell ⟨mb,2,none⟩ (.slice a12' l12' c12')=w7 at *
      have HLm:=bH (fun W (hW:XF w7 W)=>climited_any W _ (upJ p y i) 2001 (HUq.out.2.keep hW) (HZb.out.2.2 i) (by decide) (by decide))
      unfold LimPost at HLm
      obtain ⟨u0,u1,u2,-⟩:=HUq.out.1.facts
      have HSq:=bH (show smallT p y (i+1)=(sm && limB (upJ p y i)) from by rw [<- HSm.out]; rfl)
      have HTq:=bH (show termsR p y (i+1)=termsR p y i++if toR (upJ p y i)=0 then [] else [⟨i,toR (upJ p y i)⟩] from termsTo_succ i _)
      generalize toR (upJ p y i)=TR at *
      generalize limB (upJ p y i)=LB at *
      go_wp2_with fail
      refine (HLm.out w7 (Ext.refl _ _)).mono ?_
      rintro r13 w13 ⟨rfl,hx13⟩
      replace HRc:=bH (HRc.out.keep hx13)
      clear u0 u1 u2 hx13 HLm HUq
      go_upto_region 19 with fail
      go_cut [10] (fun v10 wx=>v10=.bool (sm && LB)/\wx=w13)
      case first =>
       cases sm <;> (go_wp2; go_meet; exact ⟨rfl,rfl⟩)
      case rest =>
      obtain ⟨rfl,rfl⟩:=hcut
      rw [<- HSq.out]
      by_cases hT0:TR=0
      ·have HTe:=bH (show termsR p y (i+1)=termsR p y i from by rw [HTq.out,if_pos hT0,List.append_nil])
       subst hT0
       go_wp2
       go_roundg (n - (i+1))
       case measure=>omega
       case rel=>exact ⟨i+1,vt,by omega,rfl,by go_num,rfl,HNn.out trivial,HRc.out.congr rfl rfl HTe.out.symm⟩
      ·have h5:(TR == 0)=false:=by simpa using hT0
       have h6:decide (TR=0)=false:=decide_eq_false hT0
       have HTe:=bH (show termsR p y (i+1)=termsR p y i++[⟨i,TR⟩] from by rw [HTq.out,if_neg hT0])
       obtain ⟨wd,rfl⟩:∃ x,x=wc:=⟨_,rfl⟩
       have hxA:=(Ext.refl (fun _=>False) wd).alloc (.cells #[.int .i64 i,.int .i64 TR] 70)
       have HKp:=bH (bI (HRc.out.keep hxA) (term_src wd ⟨i,TR⟩))
       have HLn:=bH (termsTo_len (fun j=>toR (upJ p y j)) i)
       have hshape:=ownsRow_shape HKp.out.1.own
       have t3:=cellq HRc.out.row 3 rfl
       clear hxA
       go_wp2_with (at_builtin; refine wpList_appG rfl (.tmp 97) (.tmp 101) rfl Tryz.underlying33 Tryz.infoTerm rfl (cT_noD term0) (by decide) (by decide) w.heap.size vt (termsR p y i).length ((termsR p y i).flatMap cT) rfl HKp.out.1.own HKp.out.1.nod (cTs_noD _) ⟨wd.heap.size,0,none⟩ 1 (cT ⟨i,TR⟩) rfl rfl HKp.out.2 (cT_one' _) (cT_noD _) (by have h1:=HLn.out; unfold termsR; omega) HKp.out.1.ext.size ?_; intro v15 w15 ha15; obtain ⟨to',tc',rfl⟩:=ownsRow_shape ha15.own; have HP:=bH (HKp.out.1.push ha15 ⟨_,_,_,rfl⟩ (by obtain ⟨a,c,e⟩:=hshape; exact ⟨a,_,c,e⟩)); have q3:=cellq HP.out.2 3 rfl; have q4:=free_of_cells HP.out.2 3)
       go_roundg (n - (i+1))
       case measure=>omega
       case rel=>exact ⟨i+1,_,by omega,rfl,by go_num,rfl,HNn.out trivial,HP.out.1.congr rfl rfl HTe.out.symm⟩
   ·obtain rfl:n=i:=by omega
    have HNu:=bH (show noneUp p y=true from by have h:=HNt.out; rw [<- HE.out.1] at h; exact h)
    obtain ⟨nb0,ab0,lb0,cb0,ab0',lb0',cb0',hbb0,hqb0⟩:=HR.out.accb
    have t0:=cq hbb0.facts.1
    have t1:=cq hbb0.facts.2.1
    have t2:=cq hbb0.facts.2.2.1
    obtain ⟨nm0,am0,lm0,cm0,am0',lm0',cm0',hbm0,hqm0⟩:=HR.out.accm
    have m0:=cq hbm0.facts.1
    have m1:=cq hbm0.facts.2.1
    have m2:=cq hbm0.facts.2.2.1
    have hz1:=HZb.out.1 n (Nat.le_refl _)
    have hz2:=HZb.out.2.1 n (Nat.le_refl _)
    have HCe:=bH (fun W (hW:XF wr W)=>rceil_any W _ _ 100000 ((hqb0.keep hW).reads hz1) (by decide) (by decide))
    have HFl:=bH (fun W (hW:XF wr W)=>rfloor_any W _ _ 100000 ((hqm0.keep hW).reads hz2) (by decide) (by decide))
    have hl1:=ceil_len hz1
    have hl2:=floor_len hz2
    have HZr:=bH (show (combB p y - lowT p y n).ceil+(upT' p y n).floor=roundBd p y from by
     unfold roundBd
     rw [<- upT_all,HE.out.1]
     show _=(combB p y - sumTo p.vars.length _).ceil+_
     rw [HE.out.1]; rfl)
    clear hbb0 hqb0 hbm0 hqm0 hz1 hz2
    generalize (combB p y - lowT p y n).ceil=Zc at *
    generalize (upT' p y n).floor=Zf at *
    have HAd:=bH (fun W u v (hu:IsInt W u Zc) (hv:IsInt W v Zf)=>iadd_any W u v Zc Zf 100001 (hu.reads hl1) (hv.reads hl2) (by decide))
    have HLi:=bH (fun W u (hu:IsRat W u ((Zc+Zf:Int):Rat))=>climited_any W u (Zc+Zf) 100002 hu (len_add hl1 hl2) (by decide) (by decide))
    unfold LimPost at HLi
    rw [HZr.out] at HAd HLi
    clear hl1 hl2
    have HBd:=bH (show limB (roundBd p y)=true->toR (roundBd p y)=roundBd p y from fun h=>toR_in (limB_in h))
    have HBe:=bH (show ∃ b,b=roundBd p y from ⟨_,rfl⟩)
    generalize hBQ:roundBd p y=BQ at *
    have HBQ:=bH hBQ
    clear hBQ HBe HZr
    obtain ⟨TB,hTB⟩:∃ x,toR BQ=x:=⟨_,rfl⟩
    obtain ⟨LB,hLB⟩:∃ x,limB BQ=x:=⟨_,rfl⟩
    have HLB:=bH hLB
    rw [hTB,hLB] at HLi HBd
    clear hTB hLB
    go_upto_region 23 with fail
    refine wp_region_held_drew (S:=(XF wr)) (by kernel_rfl) ((Ext.refl _ wr).drew) (fun hHeld=>?_)
    refine ht 0 (h:=(ht 2 (h:=?_)))
    (try go_frame)
    refine hst 1 (h:=fun K hK=>?_)
    (go_simp; go_at_call 114; (with_reducible refine (HCe.out _ hHeld).mono ?_); rintro q1 w11 ⟨v11,rfl,h11,hx11⟩; have hX1:=hHeld.trans hx11; obtain ⟨n11,a11,l11,c11,rfl⟩:=h11.shape)
    refine hK.out _ _ (hX1) (fun hHeld=>?_)
    clear hK K
    (try go_frame)
    refine hst 3 (h:=fun K hK=>?_)
    (go_simp; go_at_call 120; (with_reducible refine (HFl.out _ hX1).mono ?_); rintro q2 w12 ⟨v12,rfl,h12,hx12⟩; have hX2:=hX1.trans hx12; have h11':=h11.keep hx12; obtain ⟨n12,a12,l12,c12,rfl⟩:=h12.shape)
    refine hK.out _ _ (hX2) (fun hHeld=>?_)
    clear hK K
    (try go_frame)
    refine hst 4 (h:=fun K hK=>?_)
    (go_simp; go_at_call 119; (with_reducible refine (HAd.out _ _ _ h11' h12).mono ?_); rintro q3 w13 ⟨v13,rfl,h13,hx13⟩; have hX3:=hX2.trans hx13; obtain ⟨n13,a13,l13,c13,rfl⟩:=h13.shape)
    refine hK.out _ _ (hX3) (fun hHeld=>?_)
    clear hK K
    (try go_frame)
    refine hst 5 (h:=fun K hK=>?_)
    (go_simp; go_at_call 113; (with_reducible refine (whole_any _ _ _ _ _).mono ?_); rintro q4 w14 ⟨rfl,hx14⟩; have hX4:=hX3.trans hx14; have h14:=(h13.keep hx14).rat)
    refine hK.out _ _ (hX4) (fun hHeld=>?_)
    clear hK K
    (try go_frame)
    refine hst 6 (h:=fun K hK=>?_)
    (go_simp; go_at_call 118; (with_reducible refine (HLi.out _ _ h14).mono ?_); rintro q5 w15 ⟨rfl,hx15⟩; have hX5:=hX4.trans hx15)
    refine hK.out _ _ (hX5) (fun hHeld=>?_)
    clear hK K
    (try go_frame)
    refine ht 7 (h:=(ht 8 (h:=(ht 9 (h:=(ht 10 (h:=(ht 11 (h:=?_)))))))))
    (try go_frame)
    refine wpAnyH_done (by kernel_rfl) ?_ _
    have HRf:=bH (HR.out.keep hX5)
    clear t0 t1 t2 m0 m1 m2 hX1 hX2 hX3 hX4 hX5 h11 h11' h12 h13 h14 hx11 hx12 hx13 hx14 hx15 HCe HFl HAd HLi HR hHeld
    obtain ⟨KK,hKK⟩:∃ x,(!LB || !sm)=x:=⟨_,rfl⟩
    have HKK:=bH hKK
    clear hKK
    go_upto_region 24 with fail
    go_cut [120] (fun v120 wx=>v120=.bool KK/\wx=w15)
    case first =>
     have HK3:=bH HKK.out.symm
     cases LB <;> cases sm <;> (go_wp2; go_meet; exact ⟨by rw [HK3.out]; rfl,rfl⟩)
    case rest =>
    obtain ⟨rfl,rfl⟩:=hcut
    obtain ⟨wd,rfl⟩:∃ x,x=wc:=⟨_,rfl⟩
    have hres:=HRf.out.res
    unfold zeroRow at hres
    have y0:=free_of_cells hres
    have z0:=cellq hres 0 rfl
    have z1:=cellq hres 1 rfl
    have z2:=cellq hres 2 rfl
    have z3:=cellq hres 3 rfl
    have z4:=cellq hres 4 rfl
    cases KK with
    | true =>
     have HRP:=bH (show roundP p y=(row0,8) from by
      unfold roundP
      rw [HS.out,HNu.out,Bool.and_true,if_pos rfl,if_neg]
      intro h
      unfold roundOk at h
      rw [Bool.and_eq_true] at h
      have h1:sm=true:=by rw [<- HSm.out,<- HE.out.1]; exact h.1
      have h2:LB=true:=by rw [<- HLB.out,<- HBQ.out]; exact h.2
      have h3:=HKK.out
      rw [h1,h2] at h3
      cases h3)
     have HP:=bH (row_put hres (.string ⟨#[]⟩) (.int .i64 0) (.int .i64 0) (.slice none 0 0) (.int .i64 0))
     clear hres
     go_wp2
     generalize ((((wd.setCell ⟨resb,0,none⟩ (.string ⟨#[]⟩)).setCell ⟨resb,1,none⟩ (.int .i64 0)).setCell ⟨resb,2,none⟩ (.int .i64 0)).setCell ⟨resb,3,none⟩ (.slice none 0 0)).setCell ⟨resb,4,none⟩ (.int .i64 0)=w9 at *
     have g0:=cellq HP.out.1 0 rfl
     have g1:=cellq HP.out.1 1 rfl
     have g2:=cellq HP.out.1 2 rfl
     have g3:=cellq HP.out.1 3 rfl
     have g4:=cellq HP.out.1 4 rfl
     exact bodyPost_ret (v:=.tuple #[.agg #[.string ⟨#[]⟩,.int .i64 0,.int .i64 0,.slice none 0 0,.int .i64 0],.int .i64 8]) (by simp [results,Tryz.results61,go_sem,g0,g1,g2,g3,g4]) rfl (by rw [HRP.out]; exact ⟨_,rfl,row0_tms _,HRf.out.ext.own HP.out.2 (fun k e=>by rw [e]; exact HRf.out.ord.1),fun g hg=>by cases hg⟩)
    | false =>
     have hbo:LB=true/\sm=true:=by have h:=HKK.out; revert h; cases LB <;> cases sm <;> simp
     have HRP:=bH (show roundP p y=(⟨cutName,0,1,termsR p y n,TB⟩,0) from by
      unfold roundP
      rw [HS.out,HNu.out,Bool.and_true,if_pos rfl,if_pos]
      ·rw [HBd.out hbo.1,HBQ.out]
       have h:=termsR_ok (p:=p) (y:=y) (by rw [HE.out.1,HSm.out]; exact hbo.2)
       rw [HE.out.1] at h ⊢
       rw [h]
      ·unfold roundOk
       rw [Bool.and_eq_true]
       exact ⟨by have h:=HSm.out; rw [<- HE.out.1] at h; exact h.trans hbo.2,by rw [HBQ.out,HLB.out]; exact hbo.1⟩)
     have HIn:=bH (show ∀ t ∈ termsR p y n,TermOk t from termsR_in (by omega))
     obtain ⟨to',tc',hvt⟩:=ownsRow_shape HRf.out.own
     have hrow:=HRf.out.row
     unfold cutRow at hrow
     have r0:=cellq hrow 0 rfl
     have r1:=cellq hrow 1 rfl
     have r2:=cellq hrow 2 rfl
     have r3:=cellq hrow 3 rfl
     have r4:=cellq hrow 4 rfl
     have q0:=free_of_cells hrow
     have HO:=bH HRf.out.ord
     have hxr:=(Ext.refl (fun k=>k=rwb) wd).setCell (p:=⟨rwb,4,none⟩) (.int .i64 TB) (fun _=>rfl)
     have hne:¬ resb=rwb:=by have h:=HO.out; omega
     have hrow2:=blk_setCell_same hrow 4 (.int .i64 TB)
     have hres2:=blk_ext hres hxr (fun e=>hne e)
     have HP:=bH (row_put hres2 (.string ⟨#[99,117,116]⟩) (.int .i64 0) (.int .i64 1) vt (.int .i64 TB))
     have HOw:=bH (ownsRow_ext (ownsRow_ext HRf.out.own hxr (fun g hg e=>typ_ne' (own_ty HRf.out.own g hg) ⟨_,hrow⟩ (by decide) e)) HP.out.2 (fun g hg e=>typ_ne' (own_ty (ownsRow_ext HRf.out.own hxr (fun g hg e=>typ_ne' (own_ty HRf.out.own g hg) ⟨_,hrow⟩ (by decide) e)) g hg) ⟨_,hres2⟩ (by decide) e))
     have HXf:=bH ((HRf.out.ext.own hxr (fun k e=>by have e':k=rwb:=e; have h:=HO.out; omega)).own HP.out.2 (fun k e=>by have e':k=resb:=e; have h:=HO.out; omega))
     have hres3:=hres2
     clear hres hrow hxr hbo hres2
     subst hvt
     go_wp2
     generalize ((((((wd.setCell ⟨rwb,4,none⟩ (.int .i64 TB)).setCell ⟨resb,0,none⟩ (.string ⟨#[99,117,116]⟩)).setCell ⟨resb,1,none⟩ (.int .i64 0)).setCell ⟨resb,2,none⟩ (.int .i64 1)).setCell ⟨resb,3,none⟩ (.slice to' (termsR p y n).length tc')).setCell ⟨resb,4,none⟩ (.int .i64 TB))=w9 at *
     have g0:=cellq HP.out.1 0 rfl
     have g1:=cellq HP.out.1 1 rfl
     have g2:=cellq HP.out.1 2 rfl
     have g3:=cellq HP.out.1 3 rfl
     have g4:=cellq HP.out.1 4 rfl
     exact bodyPost_ret (v:=.tuple #[.agg #[.string ⟨#[99,117,116]⟩,.int .i64 0,.int .i64 1,.slice to' (termsR p y n).length tc',.int .i64 TB],.int .i64 0]) (by simp [results,Tryz.results61,go_sem,g0,g1,g2,g3,g4]) rfl (by rw [HRP.out]; exact ⟨_,rfl,⟨own_sl cT_len' HOw.out,HIn.out⟩,HXf.out,fun g hg=>(World.ownsRow.lt HOw.out g hg).1⟩)
end Go.Proofs.YtjaldknfeojjkaaGreat
