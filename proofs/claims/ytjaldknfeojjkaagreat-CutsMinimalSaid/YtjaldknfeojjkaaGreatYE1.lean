/-
  Texts of the proof, part 1. Conditions: each lemma names its own.
-/
import Derived.Test.YtjaldknfeojjkaaGreatY8
import Derived.Test.YtjaldknfeojjkaaGreatY9
import Derived.Maps.RangeWalk
set_option linter.unusedVariables false
set_option linter.unusedSimpArgs false
set_option maxRecDepth 100000
set_option maxHeartbeats 16000000
namespace Go.Proofs.YtjaldknfeojjkaaGreat
open Go.RowKit Go.MapKept
open Go.ChangeMaps (setBlock)
theorem Inz.take {w:World} {ao:Option Addr} {n c:Nat} {l:List Int} (h:Inz w (.slice ao n c) l) {k:Nat} (hk:k<=n):Inz w (.slice ao k c) (l.take k):=by
 obtain ⟨ao',c',e,h1,h2,h3,h4⟩:=h
 cases e
 rw [List.length_map] at h1 h4 hk
 refine ⟨ao,c,by rw [List.length_map,List.length_take,Nat.min_eq_left hk],by rw [List.length_map,List.length_take]; omega,h2,h3,fun hp=>?_⟩
 rw [List.length_map,List.length_take] at hp
 obtain ⟨b,off,e,hb,hc⟩:=h4 (by omega)
 refine ⟨b,off,e,hb,fun i r hi j u hu=>hc i r ?_ j u hu⟩
 rw [List.getElem?_map] at hi ⊢
 rw [List.getElem?_take] at hi
 split at hi
 ·exact hi
 ·cases hi
theorem Inz.drop {w:World} {b off n c:Nat} {l:List Int} (h:Inz w (.slice (some ⟨b,off,none⟩) n c) l) {k:Nat} (hk:k<=n):Inz w (.slice (some ⟨b,off+k,none⟩) (n - k) (c - k)) (l.drop k):=by
 obtain ⟨ao',c',e,h1,h2,h3,h4⟩:=h
 cases e
 rw [List.length_map] at h1 h4 hk
 refine ⟨_,c - k,by rw [List.length_map,List.length_map,List.length_drop],by rw [List.length_map,List.length_drop]; omega,by omega,(fun e=>by cases e),fun hp=>?_⟩
 rw [List.length_map,List.length_drop] at hp
 obtain ⟨b',off',e,hb,hc⟩:=h4 (by omega)
 cases e
 refine ⟨b,off+k,rfl,hb,fun i r hi j u hu=>?_⟩
 have:=hc (k+i) r (by rw [List.getElem?_map,List.getElem?_drop] at hi; rw [List.getElem?_map]; exact hi) j u hu
 rw [show off+k+i*1+j=off+(k+i)*1+j by omega]
 exact this
theorem cI_len (x:Int):(cI x).length=1:=rfl
theorem cI_one (x:Int):∀ u ∈ cI x,u.oneCell'=true:=fun u hu=>by
 rw [List.mem_singleton.1 hu]; rfl
theorem step_append_list {w:World} {ops:Array Oper} {o:Oper} {a:Act} {K:Act->World->Prop} {Q:Exit->Act->World->Prop} {E:Prop} {β:Type} {f:β->List Value} {T ts:TypeId} {z:Value} {size bytes:Nat} {l:List β} (hgd:o.guard=none) (s x:Operand)
  (ho:o.op=.call { callee:=.builtin .append,args:=#[s,x],argTypes:=#[ts,ts] }) (hf:∀ x,(f x).length=size) (l2:List β) (h1:∀ x ∈ l2,∀ u ∈ f x,u.oneCell'=true) (ht:Tryz.prog.underlying ts=some (.slice T)) (hi:(Tryz.prog.info? T).map (fun i=>(i.zero,i.size,i.bytes))=some (some z,size,bytes)) (hz:z.cells.size=size) (hsz:0<size) (hbs:bytes<=1000)
  (base:Nat) (v:Value) (hs:a.eval s=v) (hown:w.ownsRow base T size v l.length (l.flatMap f)) (ao:Option Addr) (n c:Nat) (hx:a.eval x=.slice ao n c) (hsl:Sl w (.slice ao n c) size (l2.map f)) (hl:l.length+l2.length<=1000) (hbase:base<=w.heap.size)
  (h:∀ v' w',w'.ownsRow base T size v' (l++l2).length ((l++l2).flatMap f)->Ext (fun k=>v.ownBlock=some k) w w'->(v'.ownBlock=v.ownBlock∨v'.ownBlock=some w.heap.size)->K (a.put o.dst v') w') :
  if Region.wanted o (yielded ops a.tmps)=true then Oper.wp Tryz.prog o a w K Q else E:=by
 obtain ⟨i0,hi0,hz0,hz1,hz2⟩:=info_parts hi
 obtain ⟨rfl,hc,hnews⟩:=sl_lies hsz hf hsl
 refine step_append_any hgd s x ts ho base T i0 z size bytes ht hi0 hz0 hz1 hz2 hz hsz v l.length (l.flatMap f) hs hown ao l2.length c hc (l2.flatMap f) hx (fm_length hf l2) hnews (fun u hu=>?_) (by unfold maxLen; omega) (Nat.le_trans (Nat.mul_le_mul hl hbs) (by decide)) hbase (fun v' w' g1 g2 g3=>h v' w' ?_ ?_ g3)
 ·obtain ⟨x,hm,hu⟩:=List.mem_flatMap.1 hu
  exact h1 x hm u hu
 ·rw [List.length_append,List.flatMap_append]
  exact g1
 ·exact (Ext.refl (fun k=>v.ownBlock=some k) w).grown g2 (fun k hk _=>hk)
structure InsSt (w0 w:World) (B:Nat) (v:Value) (l:List Int):Prop where
 base:w0.heap.size=B
 ext:XF w0 w
 own:w.ownsRow B 3 1 v l.length (l.flatMap cI)
section
variable {w0 w w':World} {B:Nat} {v v':Value} {l l':List Int}
theorem InsSt.low (h:InsSt w0 w B v l):B<=w.heap.size:=by rw [<- h.base]; exact h.ext.size
theorem InsSt.new {s:Nat} (hB:w0.heap.size=B) (hx:XF w0 w) (hb:blk w s=some (.cells #[] 3 (0,0))) (hs:w0.heap.size<=s):InsSt w0 w B (.slice (some ⟨s,0,none⟩) 0 0) [] :=
 ⟨hB,hx,ownsRow_empty 1 (by rw [<- hB]; exact hs) hb⟩
theorem InsSt.app (h:InsSt w0 w B v l) (g1:w'.ownsRow B 3 1 v' l'.length (l'.flatMap cI)) (g2:Ext (fun k=>v.ownBlock=some k) w w'):InsSt w0 w' B v' l' :=
 ⟨h.base,h.ext.own g2 (fun k e=>by rw [h.base]; exact (World.ownsRow.lt h.own k e).1),g1⟩
end
theorem Inz.cap {w:World} {ao:Option Addr} {n c:Nat} {l:List Int} (h:Inz w (.slice ao n c) l):l.length=n/\n<=c/\c<=maxLen:=by
 obtain ⟨ao',c',e,h1,h2,h3,h4⟩:=h
 cases e
 rw [List.length_map] at h1 ⊢
 exact ⟨rfl,h1,h2⟩
theorem Inz.nil {w:World} {ao:Option Addr} {c:Nat} (hc:c<=maxLen) (h0:ao=none->c=0):Inz w (.slice ao 0 c) []:=⟨ao,c,rfl,Nat.zero_le _,hc,h0,fun h=>absurd h (Nat.lt_irrefl 0)⟩
theorem Inz.dropIf {w:World} {b n c:Nat} {l:List Int} (h:Inz w (.slice (some ⟨b,0,none⟩) n c) l) {k:Nat} (hk:k<=n):Inz w (.slice (if c=k then some ⟨b,0,none⟩ else some ⟨b,k,none⟩) (n - k) (c - k)) (l.drop k):=by
 have ⟨h1,h2,h3⟩:=h.cap
 by_cases e:c=k
 ·rw [if_pos e,List.drop_eq_nil_of_le (by omega),show n - k=0 by omega]
  exact Inz.nil (by omega) (fun e=>by cases e)
 ·rw [if_neg e]
  have:=h.drop hk
  rwa [Nat.zero_add] at this
theorem minimal_facts {p:ProgV} {row:Int} {x:List Rat} {c:CutV} (hn:p.vars.length<=6) (hm:p.rows.length<=8) (hT:∀ i,i<p.rows.length->(p.r i).terms.length<=12) (h:CovR p row x c true):CSmall p c/\(deriveP p c).2=0/\∀ j,j<c.vars.length->CSmall p { c with vars:=c.vars.take j++c.vars.drop (j+1) }/\(deriveP p { c with vars:=c.vars.take j++c.vars.drop (j+1) }).2≠0:=by
 rcases h with ⟨⟨h0,h1,h2⟩,h⟩ | ⟨_,h,_⟩
 ·have hl:=covIs_len h hn
  refine ⟨⟨hn,hm,hT,hl⟩,cov_derive h2 h0 h1 h,fun j hj=>⟨⟨hn,hm,hT,?_⟩,?_⟩⟩
  ·show (c.vars.take j++c.vars.drop (j+1)).length<=1000
   simp only [List.length_append,List.length_take,List.length_drop]
   omega
  ·rw [<- List.eraseIdx_eq_take_drop_succ]
   exact cov_less h hj
 ·cases h
theorem minimal7_core (w:World) (pv xv:Value) (p:ProgV) (row:Int) (x:List RatV) (hp:IsPrg w pv p) (hrow:InR row) (hx:Raws w xv x):Calls Tryz.prog 6 #[pv,.int .i64 row,xv] w (BoolPost w true):=by
 obtain ⟨vo,vn,vc,ro,rn,rc,rfl⟩:=hp.slicesP
 have HLn:=bH (show p.vars.length=vn/\p.rows.length=rn from by
  obtain ⟨vv,rv,e,h,h2⟩:=hp
  cases e
  obtain ⟨_,_,e,_⟩:=h.shape
  obtain ⟨_,_,e2,_⟩:=h2.shape
  cases e; cases e2
  exact ⟨rfl,rfl⟩)
 obtain ⟨xo,xc,rfl,-⟩:=hx.shape
 have hxp:=(Ext.refl (fun _=>False) w).alloc (.cells #[.slice vo vn vc,.slice ro rn rc] 25)
 have hxa:=hxp
 have HB:=bH (bI (hp.keep hxa) (bI (blk_alloc_at w (.cells #[.slice vo vn vc,.slice ro rn rc] 25)) (bI hxa trivial)))
 have HXx:=bH (fun W (hW:XF (w.alloc (.cells #[.slice vo vn vc,.slice ro rn rc] 25)) W)=>hx.keep (hxa.trans hW))
 clear hp hxa hxp hx
 obtain ⟨xn,hxn⟩:∃ n,x.length=n:=⟨_,rfl⟩
 rw [hxn] at HXx ⊢
 clear hxn
 go_enter Tryz.func6,Tryz.ntmps6
 go_upto_region 1 with fail
 generalize w.alloc (.cells #[.slice vo vn vc,.slice ro rn rc] 25)=w1 at *
 obtain ⟨pb,hpb⟩:∃ q,w.heap.size=q:=⟨_,rfl⟩
 rw [hpb] at HB ⊢
 have HPb:=bH (Nat.le_of_eq hpb)
 clear hpb
 have p0:w1.cell? ⟨pb,0,none⟩=some (.slice vo vn vc):=cellq HB.out.2.1 0 rfl
 have p1:w1.cell? ⟨pb,1,none⟩=some (.slice ro rn rc):=cellq HB.out.2.1 1 rfl
 have HC0:=bH (fun W (hW:XF w1 W)=>show Calls Tryz.prog 10 #[(.agg #[.slice vo vn vc,.slice ro rn rc]),.int .i64 6,.int .i64 8] W (BoolPost W (fewP p 6 8)) from FewP_any W (.agg #[.slice vo vn vc,.slice ro rn rc]) p 6 8 (by decide) (by decide) (HB.out.1.keep hW))
 obtain ⟨b0,hb0⟩:∃ b,fewP p 6 8=b:=⟨_,rfl⟩
 rw [hb0] at HC0
 have HG0:=bH hb0
 clear hb0
 cases b0 with
 | false =>
  go_upto_region 2 with (first | (go_at_call 9; (with_reducible refine (awake7_any _).mono ?_); rintro q2 w2 ⟨rfl,hx2⟩; replace p0:=cell_keep p0 hx2; replace p1:=cell_keep p1 hx2) | (go_at_call 10; (with_reducible refine (HC0.out _ (hx2)).mono ?_); rintro q3 w3 ⟨rfl,hx3⟩; replace p0:=cell_keep p0 hx3; replace p1:=cell_keep p1 hx3))
  go_wp2_with (go_at_call 9; refine (awake7_any _).mono ?_; rintro r8 w8 ⟨rfl,hx8⟩)
  go_ret
  exact ⟨rfl,(HB.out.2.2.1.trans (hx2.trans hx3)).trans hx8⟩
 | true =>
 have HC1:=bH (fun W (hW:XF w1 W)=>show Calls Tryz.prog 17 #[.slice xo xn xc,.int .i64 8] W (BoolPost W (shortB x 8)) from Short_any W (.slice xo xn xc) x 8 (by decide) (HXx.out W hW))
 obtain ⟨b1,hb1⟩:∃ b,shortB x 8=b:=⟨_,rfl⟩
 rw [hb1] at HC1
 have HG1:=bH hb1
 clear hb1
 cases b1 with
 | false =>
  go_upto_region 2 with (first | (go_at_call 9; (with_reducible refine (awake7_any _).mono ?_); rintro q2 w2 ⟨rfl,hx2⟩; replace p0:=cell_keep p0 hx2; replace p1:=cell_keep p1 hx2) | (go_at_call 10; (with_reducible refine (HC0.out _ (hx2)).mono ?_); rintro q3 w3 ⟨rfl,hx3⟩; replace p0:=cell_keep p0 hx3; replace p1:=cell_keep p1 hx3) | (go_at_call 17; (with_reducible refine (HC1.out _ (hx2.trans hx3)).mono ?_); rintro q4 w4 ⟨rfl,hx4⟩; replace p0:=cell_keep p0 hx4; replace p1:=cell_keep p1 hx4))
  go_wp2_with (go_at_call 9; refine (awake7_any _).mono ?_; rintro r8 w8 ⟨rfl,hx8⟩)
  go_ret
  exact ⟨rfl,(HB.out.2.2.1.trans ((hx2.trans hx3).trans hx4)).trans hx8⟩
 | true =>
 go_upto_region 3 with (first | (go_at_call 9; (with_reducible refine (awake7_any _).mono ?_); rintro q2 w2 ⟨rfl,hx2⟩; replace p0:=cell_keep p0 hx2; replace p1:=cell_keep p1 hx2) | (go_at_call 10; (with_reducible refine (HC0.out _ (hx2)).mono ?_); rintro q3 w3 ⟨rfl,hx3⟩; replace p0:=cell_keep p0 hx3; replace p1:=cell_keep p1 hx3) | (go_at_call 17; (with_reducible refine (HC1.out _ (hx2.trans hx3)).mono ?_); rintro q4 w4 ⟨rfl,hx4⟩; replace p0:=cell_keep p0 hx4; replace p1:=cell_keep p1 hx4))
 have HX:=bH ((hx2.trans hx3).trans hx4)
 clear hx2 hx3 hx4 HC0 HC1
 have HRx:=bH (fun W (hW:XF w1 W)=>show Rats W (.slice xo xn xc) (valL x) 4 from (HXx.out W hW).rats (by
  have:=HG1.out
  unfold shortB at this
  simp only [Bool.and_eq_true] at this
  exact this.2))
 obtain ⟨hT,hn6,hm6⟩:=few_parts7 HG0.out
 have HCo:=bH (fun W (hW:XF w1 W)=>Cover_any W (.agg #[.slice vo vn vc,.slice ro rn rc]) (.slice xo xn xc) p row (valL x) 4 (HB.out.1.keep hW) (HRx.out W hW) (by decide) (by decide) hn6 hT)
 have HFa:=bH (fun c h=>minimal_facts (p:=p) (row:=row) (x:=valL x) (c:=c) hn6 hm6 hT h)
 clear hn6 hm6 hT
 go_upto_region 4 with (go_at_call 20; (with_reducible refine (HCo.out _ HX.out).mono ?_); rintro q6 w6 ⟨sv,c,ok,rfl,hs,hmul,hcr,hx6⟩; obtain ⟨so,sc,hsv⟩:=ownsRow_shape hs; subst hsv; have HS:=bH (bI hs (bI hmul (bI hcr hx6))); clear hs hmul hcr hx6)
 obtain ⟨kd,mu,cw,vs⟩:=c
 obtain ⟨n,hn⟩:∃ q,vs.length=q:=⟨_,rfl⟩
 have HNl:=bH hn
 dsimp only at HS ⊢
 rw [hn] at HS ⊢
 clear hn
 cases ok with
 | false =>
  have hxa:=(Ext.refl (fun _=>False) w6).alloc (.cells #[.int .i64 kd,.slice none 0 0,.int .i64 cw,.slice so n sc] 29)
  go_wp2
  go_ret
  exact ⟨rfl,HB.out.2.2.1.trans ((HX.out.trans HS.out.2.2.2).trans hxa)⟩
 | true =>
 obtain ⟨hsm,hd0,hdl⟩:=HFa.out _ HS.out.2.2.1
 obtain rfl:mu=[]:=HS.out.2.1
 have hxa:=(Ext.refl (fun _=>False) w6).alloc (.cells #[.int .i64 kd,.slice none 0 0,.int .i64 cw,.slice so n sc] 29)
 have HC:=bH (bI (blk_alloc_at w6 (.cells #[.int .i64 kd,.slice none 0 0,.int .i64 cw,.slice so n sc] 29)) (bI (HS.out.1.keep hxa) (HX.out.trans (HS.out.2.2.2.trans hxa))))
 replace p0:=cell_keep p0 (HS.out.2.2.2.trans hxa)
 replace p1:=cell_keep p1 (HS.out.2.2.2.trans hxa)
 have HDl:=bH hdl
 have hn1:n<=1000:=by rw [<- HNl.out]; exact hsm.cut
 clear hxa HS HFa hdl HX HCo
 generalize w6.alloc (.cells #[.int .i64 kd,.slice none 0 0,.int .i64 cw,.slice so n sc] 29)=w7 at *
 generalize w6.heap.size=cb at *
 have HDv:=bH (fun W c v (hW:XF w1 W) (hv:IsCut W v c 10) (hs:CSmall p c)=>Derive_any W (.agg #[.slice vo vn vc,.slice ro rn rc]) v p c (HB.out.1.keep hW) hv hs)
 obtain ⟨⟨⟨nm,gr,kr,ts,br⟩,er⟩,hre⟩:∃ re,deriveP p ⟨kd,[],cw,vs⟩=re:=⟨_,rfl⟩
 obtain ⟨tn,htn⟩:∃ n,ts.length=n:=⟨_,rfl⟩
 rw [hre] at hd0
 obtain rfl:er=0:=hd0
 have HD1:=bH (show Calls Tryz.prog 12 #[(.agg #[.slice vo vn vc,.slice ro rn rc]),.agg #[.int .i64 kd,.slice none 0 0,.int .i64 cw,.slice so n sc]] w7 (DrvAs w7 nm gr kr ts tn br 0) from (HDv.out w7 ⟨kd,[],cw,vs⟩ _ HC.out.2.2 ⟨_,_,rfl,Rats.nil w7 10,IRow.inz HC.out.2.1⟩ hsm).mono (fun _ _ h=>h.as hre htn))
 clear hre htn hsm
 have c0:=cellq HC.out.1 0 rfl
 have c1:=cellq HC.out.1 1 rfl
 have c2:=cellq HC.out.1 2 rfl
 have c3:=cellq HC.out.1 3 rfl
 go_upto_region 7 with (go_at_call 12; (with_reducible refine HD1.out.mono ?_); rintro q8 w8 ⟨ta,tc,rfl,h8,hx8⟩)
 have hx9:=hx8.trans ((Ext.refl (fun _=>False) w8).alloc (.cells #[.string nm,.int .i64 gr,.int .i64 kr,.slice ta tn tc,.int .i64 br] 35))
 replace HC:=bH (bI (blk_keep HC.out.1 hx9) (bI (HC.out.2.1.keep hx9) (HC.out.2.2.trans hx9)))
 replace p0:=cell_keep p0 hx9
 replace p1:=cell_keep p1 hx9
 clear h8 hx8 hx9 HD1 c0 c1 c2 c3
 generalize w8.alloc (.cells #[.string nm,.int .i64 gr,.int .i64 kr,.slice ta tn tc,.int .i64 br] 35)=w9 at *
 generalize w8.heap.size=rb at *
 have c3:=cellq HC.out.1 3 rfl
 go_upto_block 0 with fail
 clear c3 p0 p1
 go_wp2_with fail
 go_loopg [48] n (fun gg v48 wr=>∃ i:Nat,i<=n/\gg=n - i/\v48=.int .i64 i/\XF w9 wr)
 case atStart=>exact ⟨0,Nat.zero_le _,rfl,rfl,Ext.refl _ _⟩
 case round =>
  obtain ⟨i,hi,rfl,rfl,hxr⟩:=hrel
  have hxq:=HC.out.2.2.trans hxr
  have hbp:=blk_keep HB.out.2.1 hxq
  have hbc:=blk_keep HC.out.1 hxr
  have hrc:=HC.out.2.1.keep hxr
  by_cases hin:i<n
  ·have i0:(i:Int)<(n:Int):=by omega
   have i1:(0:Int)<=(i:Int):=by omega
   obtain ⟨k,hk⟩:∃ k,i+1=k:=⟨_,rfl⟩
   have ik:(i:Int)+1=(k:Int):=by omega
   have k0:(k:Int)<=(n:Int):=by omega
   have k1:(0:Int)<=(k:Int):=by omega
   have hwk:IntKind.i64.wrap (k:Int)=(k:Int):=IntWalk.i64_in _ (by omega)
   obtain ⟨g,rfl⟩:∃ g,so=some ⟨g,0,none⟩:=by
    rcases hrc.2 with ⟨_,h0⟩ | ⟨g',_,_,h,_⟩
    ·rw [HNl.out] at h0; omega
    ·cases h; exact ⟨g',rfl⟩
   have hnc:n<=sc:=by
    rcases hrc.2 with ⟨h,_⟩ | ⟨_,_,_,h,_,_,h3,_⟩
    ·cases h
    ·cases h; rw [<- HNl.out]; exact h3
   have i2:i<=sc:=by omega
   have HIn:=bH (show vs.length=n/\i<=n/\k<=n/\n<=1000 from ⟨HNl.out,hi,by omega,hn1⟩)
   have HDj:=bH (HDl.out i (by rw [HNl.out]; exact hin))
   rw [hk] at HDj
   have c0:=cellq hbc 0 rfl
   have c1:=cellq hbc 1 rfl
   have c2:=cellq hbc 2 rfl
   have c3:=cellq hbc 3 rfl
   go_upto_region 13 with fail
   clear c0 c1 c2 c3
   have hxa:=(Ext.refl (fun _=>False) wr).alloc (.cells #[.int .i64 kd,.slice none 0 0,.int .i64 cw,.slice (some ⟨g,0,none⟩) n sc] 29)
   have HD:=bH (blk_alloc_at wr (.cells #[.int .i64 kd,.slice none 0 0,.int .i64 cw,.slice (some ⟨g,0,none⟩) n sc] 29))
   have HSv:=bH (IRow.inz (hrc.keep hxa))
   have HX:=bH (bI hxr (bI hxa (blk_keep hbp hxa)))
   have c3:=cq (cellq (blk_keep hbc hxa) 3 rfl)
   clear hxa hbc hrc hxq hxr
   generalize wr.alloc (.cells #[.int .i64 kd,.slice none 0 0,.int .i64 cw,.slice (some ⟨g,0,none⟩) n sc] 29)=w10 at *
   have HDb:=bH (blk_lt hbp)
   obtain ⟨db,hdb⟩:∃ q,wr.heap.size=q:=⟨_,rfl⟩
   rw [hdb] at HD HDb ⊢
   have HDz:=bH hdb
   clear hdb hbp
   obtain ⟨B,hB⟩:∃ q,w10.heap.size=q:=⟨_,rfl⟩
   have HBd:=bH hB
   clear hB
   refine ends_begin 13 (XF w10) (by kernel_rfl) ((Ext.refl _ w10).drew) (fun hHeld=>?_)
   refine et 1 (h:=(et 2 (h:=(et 3 (h:=(et 4 (h:=(et 6 (h:=(et 7 (h:=(et 8 (h:=(et 9 (h:=(et 10 (h:=?_)))))))))))))))))
   (try go_frame)
   refine est 0 (h:=fun K hK=>?_)
   go_simp
   have hx0:XF w10 (w10.alloc (.cells #[] 3)).drew:=((Ext.refl (fun _=>False) w10).alloc (.cells #[] 3)).drew
   have HO0:=bH (show InsSt w10 (w10.alloc (.cells #[] 3)).drew B (.slice (some ⟨w10.heap.size,0,none⟩) 0 0) [] from InsSt.new HBd.out hx0 (blk_alloc_at w10 _) (Ext.refl (fun _=>False) w10).size)
   generalize (w10.alloc (.cells #[] 3)).drew=u0 at *
   rw [HBd.out]
   rw [HBd.out] at HO0
   refine hK.out _ _ (hx0) (fun hHeld=>?_)
   clear hK K
   (try go_frame)
   refine est 5 (h:=fun K hK=>?_)
   refine step_append_list (f:=cI) rfl (.tmp 52) (.tmp 56) rfl cI_len (vs.take i) (fun x _=>cI_one x) Tryz.underlying27 Tryz.infoInt rfl (by decide) (by decide) B (.slice (some ⟨B,0,none⟩) 0 0) rfl (HO0.out).own _ _ _ rfl ((HSv.out.take HIn.out.2.1).keep hx0) (by simp only [List.length_take,List.length_nil,HIn.out.1]; have:=HIn.out.2.2.2; omega) (HO0.out).low (fun v1 u1 g1 g2 g3=>?_)
   have HO1:Hid (InsSt w10 u1 B v1 (vs.take i)):=bH ((HO0.out).app g1 g2)
   have hx1:=HO1.out.ext
   clear g1 g2 g3
   refine hK.out _ _ (hx1) (fun hHeld=>?_)
   clear hK K
   (try go_frame)
   refine est 11 (h:=fun K hK=>?_)
   refine step_append_list (f:=cI) rfl (.tmp 57) (.tmp 62) rfl cI_len (vs.drop k) (fun x _=>cI_one x) Tryz.underlying27 Tryz.infoInt rfl (by decide) (by decide) B v1 rfl (HO1.out).own _ _ _ rfl ((HSv.out.dropIf HIn.out.2.2.1).keep hx1) (by simp only [List.length_take,List.length_drop,HIn.out.1]; have:=HIn.out.2.2.2; omega) (HO1.out).low (fun v2 u2 g1 g2 g3=>?_)
   have HO2:Hid (InsSt w10 u2 B v2 (vs.take i++vs.drop k)):=bH ((HO1.out).app g1 g2)
   have hx2:=HO2.out.ext
   clear g1 g2 g3
   refine hK.out _ _ (hx2) (fun hHeld=>?_)
   clear hK K
   (try go_frame)
   refine et 12 (h:=?_)
   (try go_frame)
   obtain ⟨no,nc,hv2⟩:=ownsRow_shape HO2.out.own
   obtain ⟨n2,hn2⟩:∃ q,(vs.take i++vs.drop k).length=q:=⟨_,rfl⟩
   rw [hn2] at hv2
   have HN2:=bH hn2
   clear hn2
   subst hv2
   have hdb2:=blk_keep HD.out hx2
   have d3:=cellq hdb2 3 rfl
   have z3:=free_of_cells hdb2 3
   refine ends_last rfl (by kernel_rfl) (fun K hK=>?_)
   go_simp
   refine hK.out _ _ ?_
   clear hK K
   (try go_frame)
   refine ends_done (by kernel_rfl) ?_ _
   generalize (if sc=k then (some ⟨g,0,none⟩:Option Addr) else some ⟨g,k,none⟩)=xo'
   have hxs:Ext (fun q=>q=db) u2 (u2.setCell ⟨db,3,none⟩ (.slice no n2 nc)):=(Ext.refl (fun q=>q=db) u2).setCell (p:=⟨db,3,none⟩) _ (fun _=>rfl)
   have hbl:db<B:=by rw [<- HBd.out]; exact blk_lt HD.out
   have hbs:=blk_setCell_same hdb2 3 (.slice no n2 nc)
   have hrw:=ownsRow_ext HO2.out.own hxs (fun q hq e=>by have:=(World.ownsRow.lt HO2.out.own q hq).1; omega)
   have HE:=bH (bI hbs (bI (show Inz _ _ (vs.take i++vs.drop k) from own_sl cI_len hrw) (bI ((HX.out.1.trans HX.out.2.1).trans hx2) (bI (blk_ext (blk_keep HX.out.2.2 hx2) hxs (fun e=>by have:=HDb.out; omega)) hxs))))
   have HEx:=bH ((HX.out.1).trans ((HX.out.2.1.trans hx2).own hxs (fun q e=>by rw [HDz.out]; omega)))
   clear hxs hbl hbs hrw HO2 hdb2 d3 z3 hx2 hHeld HX HSv c3 HD HBd HDb HDz hx1 hx0 HO1 HO0
   generalize u2.setCell ⟨db,3,none⟩ (.slice no n2 nc)=w11 at *
   have HDq:=bH (HDv.out w11 ⟨kd,[],cw,vs.take i++vs.drop k⟩ _ (HC.out.2.2.trans HEx.out) ⟨_,_,rfl,Rats.nil w11 10,HE.out.2.1⟩ HDj.out.1)
   obtain ⟨⟨⟨nm2,gr2,kr2,ts2,br2⟩,er2⟩,hre2⟩:∃ re,deriveP p ⟨kd,[],cw,vs.take i++vs.drop k⟩=re:=⟨_,rfl⟩
   obtain ⟨tn2,htn2⟩:∃ n,ts2.length=n:=⟨_,rfl⟩
   have hne:¬ er2=0:=by have h:=HDj.out.2; rw [hre2] at h; exact h
   have HD2:=bH (show Calls Tryz.prog 12 #[(.agg #[.slice vo vn vc,.slice ro rn rc]),.agg #[.int .i64 kd,.slice none 0 0,.int .i64 cw,.slice no n2 nc]] w11 (DrvAs w11 nm2 gr2 kr2 ts2 tn2 br2 er2) from by
    exact HDq.out.mono (fun _ _ h=>h.as hre2 htn2))
   have p0:=cellq HE.out.2.2.2.1 0 rfl
   have p1:=cellq HE.out.2.2.2.1 1 rfl
   have c0:w11.cell? ⟨db,0,none⟩=some (.int .i64 kd):=cellq HE.out.1 0 rfl
   have c1:w11.cell? ⟨db,1,none⟩=some (.slice none 0 0):=cellq HE.out.1 1 rfl
   have c2:w11.cell? ⟨db,2,none⟩=some (.int .i64 cw):=cellq HE.out.1 2 rfl
   have c3:w11.cell? ⟨db,3,none⟩=some (.slice no n2 nc):=cellq HE.out.1 3 rfl
   clear hre2 htn2 HDq HDj HE
   go_wp2_with (go_at_call 12; (with_reducible refine HD2.out.mono ?_); rintro q12 w12 ⟨ta2,tc2,rfl,h12,hx12⟩)
   go_roundg (n - (i+1))
   case measure=>omega
   case rel=>exact ⟨i+1,by omega,rfl,by go_num,HEx.out.trans (hx12.trans ((Ext.refl (fun _=>False) w12).alloc _))⟩
  ·obtain rfl:i=n:=by omega
   have i0:¬ (i:Int)<(i:Int):=by omega
   go_wp2
   go_ret
   exact ⟨rfl,HB.out.2.2.1.trans hxq⟩
end Go.Proofs.YtjaldknfeojjkaaGreat
