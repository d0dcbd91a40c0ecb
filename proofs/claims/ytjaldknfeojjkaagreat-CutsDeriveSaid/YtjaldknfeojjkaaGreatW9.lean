/-
  Texts of the proof, part 9. Conditions: each lemma names its own.
-/
import Derived.Test.YtjaldknfeojjkaaGreatW3
import Derived.Test.YtjaldknfeojjkaaGreatW4
import Derived.Test.YtjaldknfeojjkaaGreatW5
import Derived.Test.YtjaldknfeojjkaaGreatW8
import Derived.Maps.RangeWalk
set_option linter.unusedVariables false
set_option linter.unusedSimpArgs false
set_option maxRecDepth 100000
set_option maxHeartbeats 16000000
namespace Go.Proofs.YtjaldknfeojjkaaGreat
open Go.RowKit Go.MapKept
open Go.ChangeMaps (setBlock)
section
variable {p:ProgV} {r:RowV} {o:List Int} {k:Nat}
theorem takeV_go:∀ {k:Nat},(∀ j,j<k->covB p r (o.take (j+1))=false)->k<=o.length->takeV p r [] o=takeV p r (o.take k) (o.drop k)
 | 0,_,_=>by rw [List.take_zero,List.drop_zero]
 | k+1,h,hk=>by
  have hk':k<o.length:=(by omega);have h1:=h k (Nat.lt_succ_self k);rw [take_snoc (d:=0) hk',getD_lt hk'] at h1 ⊢;rw [takeV_go (k:=k) (fun j hj=>h j (by omega)) (by omega),List.drop_eq_getElem_cons hk'];show (if covB p r (o.take k++[o[k]])=true then _ else _)=_;rw [h1,if_neg (by decide)]
theorem takeV_hit (h:∀ j,j<k->covB p r (o.take (j+1))=false) (hk:k<o.length) (hc:covB p r (o.take (k+1))=true):takeV p r [] o=o.take (k+1):=by
 rw [takeV_go h (Nat.le_of_lt hk),List.drop_eq_getElem_cons hk];rw [take_snoc (d:=0) hk,getD_lt hk] at hc ⊢;show (if covB p r (o.take k++[o[k]])=true then _ else _)=_;rw [hc,if_pos rfl]
theorem takeV_all (h:∀ j,j<o.length->covB p r (o.take (j+1))=false):takeV p r [] o=o:=by
 rw [takeV_go h (Nat.le_refl _),List.take_length,List.drop_length];rfl
theorem minV_some {T:List Int} (hT:takeV p r [] o=T) (h0:T≠[]) (hc:covB p r T=true):minV p r o=some (dropV p r T.length T):=by
 unfold minV; rw [hT,if_pos ⟨h0,hc⟩]
theorem minV_none {T:List Int} (hT:takeV p r [] o=T) (h:T=[]∨covB p r T=false):minV p r o=none:=by
 unfold minV; rw [hT,if_neg];rintro ⟨h0,hc⟩;rcases h with h | h
 ·exact h0 h
 ·rw [h] at hc; cases hc
theorem lessV_yes {l:List Int} {i:Nat} (h0:l.eraseIdx i≠[]) (hc:covB p r (l.eraseIdx i)=true):lessV p r l i=l.eraseIdx i:=if_pos ⟨h0,hc⟩
theorem lessV_no {l:List Int} {i:Nat} (h:l.eraseIdx i=[]∨covB p r (l.eraseIdx i)=false):lessV p r l i=l:=if_neg (by
 rintro ⟨h0,hc⟩;rcases h with h | h
 ·exact h0 h
 ·rw [h] at hc; cases hc)
theorem cov_binary {l:List Int} (hb:∀ v ∈ l,binB p v=true):∀ v ∈ l,0<=v/\v<p.vars.length:=fun v hv=>⟨(binB_parts (hb v hv)).1,(binB_parts (hb v hv)).2.1⟩
def bnT (p:ProgV) (ts:List TermV) (k:Nat):List Int:=((ts.take k).map (·.var)).filter (binB p)
theorem bnT_yes {ts:List TermV} (h:k<ts.length) (hb:binB p (ts.getD k term0).var=true):bnT p ts (k+1)=bnT p ts k++[(ts.getD k term0).var]:=by
 unfold bnT;rw [take_snoc (d:=term0) h,List.map_append,List.filter_append,List.map_singleton,List.filter_cons_of_pos hb,List.filter_nil]
theorem bnT_no {ts:List TermV} (h:k<ts.length) (hb:binB p (ts.getD k term0).var=false):bnT p ts (k+1)=bnT p ts k:=by
 unfold bnT;rw [take_snoc (d:=term0) h,List.map_append,List.filter_append,List.map_singleton,List.filter_cons_of_neg (by rw [hb]; decide),List.filter_nil,List.append_nil]
theorem bnT_all:bnT p r.terms r.terms.length=binsR p r:=by unfold bnT binsR; rw [List.take_length]
theorem bnT_len {ts:List TermV} (k:Nat):(bnT p ts k).length<=ts.length:=by
 unfold bnT;refine Nat.le_trans (List.length_filter_le _ _) ?_;rw [List.length_map,List.length_take];exact Nat.min_le_right _ _
theorem binsR_nodup {n:Int} {last:Int} (h:termsB n last r.terms=true):(binsR p r).Nodup:=by
 unfold binsR;refine List.Pairwise.filter _ ?_;rw [List.pairwise_map];exact (terms_pair h).imp (fun h=>by omega)
theorem ord_of {x:List Rat} {l:List Int} (hp:l.Perm (binsR p r)) (hs:l.Pairwise (fun a b=>cmpX x a b<0)):OrdOk p r x l:=⟨hs.imp (fun h=>cmpX_lt.1 h),fun _=>hp.mem_iff⟩
end
theorem IRow.rebase {w:World} {b b' g n c:Nat} {l:List Int} (h:IRow w b (.slice (some ⟨g,0,none⟩) n c) l) (hb:b'<=g):IRow w b' (.slice (some ⟨g,0,none⟩) n c) l:=by
 have hl:=h.len;obtain ⟨cur,_,h1,h2,h3,h4,h5⟩:=h.data;have:=IRow.mk' (l:=l) hb h1 (by omega) h3 h4 (by rw [hl]; exact h5);rwa [hl] at this
theorem IRow.shape {w:World} {b:Nat} {v:Value} {l:List Int} (h:IRow w b v l):(v=.slice none 0 0/\l=[])∨∃ g c,v=.slice (some ⟨g,0,none⟩) l.length c/\b<=g/\g<w.heap.size:=by
 rcases h.2 with ⟨rfl,h0⟩ | ⟨g,cap,cur,rfl,hb,hg,_⟩
 ·exact .inl ⟨rfl,List.length_eq_zero_iff.1 h0⟩
 ·exact .inr ⟨g,cap,rfl,hb,blk_lt hg⟩
theorem IRow.nil (w:World) (b:Nat):IRow w b (.slice none 0 0) []:=World.ownsRow_nil _ _ _ 1
def VoidPost (w:World) (r:Ending) (w':World):Prop:=r=.returned (.tuple #[])/\w'=w
theorem insS_nil (w:World) (fv:Value):Calls Tryz.prog 176 #[.slice none 0 0,.int .i64 0,.int .i64 0,fv] w (VoidPost w):=by
 go_enter Tryz.func176,Tryz.ntmps176;go_wp2_with fail;go_loopg [8] 1 (fun gg v8 wr=>gg=1/\v8=.int .i64 1/\wr=w);case atStart=>exact ⟨rfl,rfl,rfl⟩
 case round =>
  obtain ⟨rfl,rfl,rfl⟩:=hrel;go_wp2;go_end0;exact ⟨rfl,rfl⟩
theorem pdq_nil (w:World) (q:Nat) (fv:Value):Calls Tryz.prog 130 #[.slice none 0 0,.int .i64 0,.int .i64 0,.int .i64 q,fv] w (VoidPost w):=by
 have HI:=bH (insS_nil w fv);go_enter Tryz.func130,Tryz.ntmps130;go_wp2_with fail;go_loopg [1,2,3] 1 (fun gg v1 v2 v3 wr=>gg=1/\v1=.int .i64 0/\v2=.int .i64 0/\v3=.int .i64 q/\wr=w);case atStart=>exact ⟨rfl,rfl,rfl,rfl,rfl⟩
 case round =>
  obtain ⟨rfl,rfl,rfl,rfl,rfl⟩:=hrel;go_wp2_with fail;refine HI.o.mono ?_;rintro r w' ⟨rfl,rfl⟩;go_wp2;((try simp only [Exit.inBlock,Exit.then]); refine bodyPost_ret (results_none rfl _ _ _) rfl ?_);exact ⟨rfl,rfl⟩
theorem SortFunc_nil (w:World) (fv:Value):Calls Tryz.prog 71 #[.slice none 0 0,fv] w (VoidPost w):=by
 have HB:=bH (blen_any w 0 (by omega));have HP:=bH (fun q=>pdq_nil w q fv);go_enter Tryz.func71,Tryz.ntmps71;go_wp2_with fail;refine HB.o.mono ?_;rintro r w' ⟨q,hq,rfl,rfl⟩;go_wp2_with fail;refine (HP.o q).mono ?_;rintro r w2 ⟨rfl,rfl⟩;go_wp2;go_end0;exact ⟨rfl,rfl⟩
theorem sortX_any (w w0:World) (xb B:Nat) (ov xv:Value) (p:ProgV) (r:RowV) (x:List Rat) (L:Nat) (hw:XF w w0) (hx:Rats w xv x L) (h1:1<=L) (hL:L<=4194304) (hb:blk w0 xb=some (.cells #[xv] 26 (0,0))) (hB:w.heap.size<=B) (hr:IRow w0 B ov (binsR p r)) (hnd:(binsR p r).Nodup) (hn:(binsR p r).length<=12) (hsm:p.vars.length<=1000) :
  Calls Tryz.prog 71 #[ov,.func (.func 72) #[] #[.pointer (some ⟨xb,0,none⟩)]] w0 (fun e w'=>e=.returned (.tuple #[])/\∃ l,OrdOk p r x l/\IRow w' B ov l/\l.length=(binsR p r).length/\Ext (fun k=>ov.ownBlock=some k) w0 w'):=by
 rcases hr.shape with ⟨rfl,h0⟩ | ⟨g,c,rfl,hbg,hgs⟩
 ·refine (SortFunc_nil w0 _).mono ?_;rintro e w' ⟨rfl,rfl⟩;refine ⟨rfl,binsR p r,ord_of (List.Perm.refl _) (by rw [h0]; exact List.Pairwise.nil),hr,rfl,Ext.refl _ _⟩
 ·obtain ⟨n,hn'⟩:∃ n,(binsR p r).length=n:=⟨_,rfl⟩;rw [hn'] at hr hn ⊢;have hC:CmpC w0 g 72 #[.pointer (some ⟨xb,0,none⟩)] (cmpX x) (binsR p r):=by
   refine ⟨fun args W=>?_,fun W hW a ha b hb'=>?_,fun a b c h1 h2=>cmpX_lt.2 (bef_trans (cmpX_lt.1 h1) (cmpX_lt.1 h2)),fun a b hab=>?_⟩
   ·exact enters_of Tryz.func72 (by kernel_rfl) rfl args W
   ·have hxb:blk W xb=some (.cells #[xv] 26 (0,0)):=blk_ext hb hW (fun e=>by
     obtain ⟨cur,_,hg,_⟩:=hr.data;exact typ_ne' ⟨_,hb⟩ ⟨_,hg⟩ (by decide) e)
    have hxW:XF w W:=hw.own hW (fun k e=>by have e':k=g:=e; omega);have ga:=cov_binary (p:=p) (l:=binsR p r) (fun v hv=>(List.mem_filter.1 hv).2) a ha;have gb:=cov_binary (p:=p) (l:=binsR p r) (fun v hv=>(List.mem_filter.1 hv).2) b hb';exact min1_any W xb xv x L hxb (hx.keep hxW) h1 hL a b ⟨ga.1,by omega⟩ ⟨gb.1,by omega⟩
   ·rcases bef_total (x:=x) hab with h | h
    ·exact .inl (cmpX_lt.2 h)
    ·exact .inr (cmpX_lt.2 h)
  refine (SortFunc_any w0 g n c 72 #[.pointer (some ⟨xb,0,none⟩)] (cmpX x) (binsR p r) hC (hr.rebase (Nat.zero_le _)) hn' hnd hn).mono ?_;rintro e w' ⟨rfl,l,hp,hs,hi,hx2⟩;refine ⟨rfl,l,ord_of hp hs,hi.rebase hbg,by rw [hp.length_eq,hn'],hx2.mono (fun k _ e=>?_)⟩;rw [show k=g from e]; rfl
theorem cI_len' (x:Int):(cI x).length=1:=rfl
theorem cI_one' (x:Int):∀ u ∈ cI x,u.oneCell'=true:=fun u hu=>by
 rw [show cI x=[.int .i64 x] from rfl,List.mem_singleton] at hu;subst hu; rfl
theorem flat_cI:∀ l:List Int,l.flatMap cI=l.map fun n=>Value.int .i64 n
 | []=>rfl
 | a :: l=>by rw [List.flatMap_cons,List.map_cons,flat_cI l]; rfl
theorem IRow.own {w:World} {b:Nat} {v:Value} {l:List Int} (h:IRow w b v l):w.ownsRow b 3 1 v l.length (l.flatMap cI):=by rw [flat_cI]; exact h
theorem IRow.of {w:World} {b:Nat} {v:Value} {l:List Int} (h:w.ownsRow b 3 1 v l.length (l.flatMap cI)):IRow w b v l:=by rw [flat_cI] at h; exact h
theorem int_src (w:World) (n:Int):∀ j u,(cI n)[j]?=some u->(w.alloc (.cells #[.int .i64 n] 3)).cell? ((⟨w.heap.size,0,none⟩:Addr).add j)=some u:=fun j u hu=>by
 match j,hu with
 | 0,hu =>
  cases hu;exact cellq (blk_alloc_at w _) 0 rfl
theorem cut_put {w:World} {b:Nat} {a0 a1 a2 a3:Value} (h:blk w b=some (.cells #[a0,a1,a2,a3] 29 (0,0))) (x0 x1 x2 x3:Value) :
  blk ((((w.setCell ⟨b,0,none⟩ x0).setCell ⟨b,1,none⟩ x1).setCell ⟨b,2,none⟩ x2).setCell ⟨b,3,none⟩ x3) b=some (.cells #[x0,x1,x2,x3] 29 (0,0)) /\
  Ext (fun k=>k=b) w ((((w.setCell ⟨b,0,none⟩ x0).setCell ⟨b,1,none⟩ x1).setCell ⟨b,2,none⟩ x2).setCell ⟨b,3,none⟩ x3):=by
 have hx:=((((Ext.refl (fun k=>k=b) w).setCell (p:=⟨b,0,none⟩) x0 (fun _=>rfl)).setCell (p:=⟨b,1,none⟩) x1 (fun _=>rfl)).setCell (p:=⟨b,2,none⟩) x2 (fun _=>rfl)).setCell (p:=⟨b,3,none⟩) x3 (fun _=>rfl);exact ⟨blk_setCell_same (blk_setCell_same (blk_setCell_same (blk_setCell_same h 0 x0) 1 x1) 2 x2) 3 x3,hx⟩
theorem covIs_none {p:ProgV} {i:Nat} {x:List Rat} {o:List Int} (hO:OrdOk p (p.r i) x o) (h:minV p (p.r i) o=none):CovIs p i x ⟨0,[],0,[]⟩ false:=by
 refine ⟨o,hO,?_⟩;simp only [Int.toNat_natCast,h];exact ⟨trivial,trivial⟩
theorem covIs_some {p:ProgV} {i:Nat} {x:List Rat} {o s t:List Int} (hO:OrdOk p (p.r i) x o) (h:minV p (p.r i) o=some s) (ht:Srt s t):CovIs p i x ⟨1,[],i,t⟩ true:=by
 refine ⟨o,hO,?_⟩;simp only [Int.toNat_natCast,h];exact ⟨trivial,trivial,trivial,trivial,ht⟩
def CovPost (w:World) (p:ProgV) (i:Nat) (x:List Rat) (r:Ending) (w':World):Prop:=∃ sv c ok,r=.returned (.tuple #[.agg #[.int .i64 c.kind,.slice none 0 0,.int .i64 c.row,sv],.bool ok])/\IRow w' w.heap.size sv c.vars/\c.mul=[]/\CovIs p i x c ok/\XF w w'
theorem minimal_any (w:World) (pv xv:Value) (p:ProgV) (i:Nat) (x:List Rat) (L:Nat) (hp:IsPrg w pv p) (hval:validB p=true) (hi:i<p.rows.length) (hx:Rats w xv x L) (h1:1<=L) (hL:L<=4194304) (hn:p.vars.length<=6) (hl:(p.r i).terms.length<=12) :
  Calls Tryz.prog 42 #[pv,.int .i64 i,xv] w (CovPost w p i x):=by
 have HPr:=bH hp;obtain ⟨vv,rv,rfl,hpv,hpr⟩:=hp;obtain ⟨vo,vc,rfl,-,-,-⟩:=hpv.shape;obtain ⟨ro,rc,rfl,-,-,-⟩:=hpr.shape;have HX:=bH hx;obtain ⟨xo,xc,rfl,-,-,-⟩:=hx.shape;obtain ⟨rb,off,ta,tc,rfl,-,e0,e1,e2,e3,e4,hok,hT⟩:=hpr.atp i hi;have hin:=valid_terms hval hi;have HCv:=bH (fun W (hW:XF w W) vsv vs (hv:Inz W vsv vs) (hvs:∀ v ∈ vs,binB p v=true)=>covers_any W _ vsv p (p.r i) ta tc vs (HPr.o.keep hW) hok (hT.keep hW) hin hv (cov_binary hvs) (by omega));have HBn:=bH (fun W (hW:XF w W) v=>bin_any W _ p (HPr.o.keep hW) v);have HT:=bH (bI hT hl);have HNd:=bH (show (binsR p (p.r i)).Nodup/\(binsR p (p.r i)).length<=12 from by
  have h:=valid_row hval hi;unfold rowB at h;simp only [Bool.and_eq_true] at h;refine ⟨binsR_nodup h.2,?_⟩;have h2:=bnT_len (p:=p) (ts:=(p.r i).terms) (p.r i).terms.length;rw [bnT_all] at h2;omega)
 have HSo:=bH (fun w0 xb B ov (hw:XF w w0) (hb:blk w0 xb=some (.cells #[.slice xo x.length xc] 26 (0,0))) (hB:w.heap.size<=B) (hr:IRow w0 B ov (binsR p (p.r i)))=>sortX_any w w0 xb B ov _ p (p.r i) x L hw HX.o h1 hL hb hB hr HNd.o.1 HNd.o.2 (by omega));have HE0:=bH (bI e0 (bI e1 (bI e2 (bI e3 e4))));have HBa:=bH (bnT_all (p:=p) (r:=p.r i));have HBb:=bH (fun k=>(bnT_yes (p:=p) (ts:=(p.r i).terms) (k:=k)));have HBc:=bH (fun k=>(bnT_no (p:=p) (ts:=(p.r i).terms) (k:=k)));have HBl:=bH (bnT_len (p:=p) (ts:=(p.r i).terms));obtain ⟨n,hn'⟩:∃ x,p.vars.length=x:=⟨_,rfl⟩;obtain ⟨m,hm'⟩:∃ x,p.rows.length=x:=⟨_,rfl⟩;obtain ⟨tl,htl⟩:∃ x,(p.r i).terms.length=x:=⟨_,rfl⟩;have HTl:=bH htl;obtain ⟨xn,hxn⟩:∃ y,x.length=y:=⟨_,rfl⟩;have i0:(0:Int)<=(i:Int):=by omega
 have i1:(i:Int)<(m:Int):=by omega
 have hmax:tl<=12:=by omega
 rw [hn',hm',htl] at HCv;rw [hn',hm'] at HBn;rw [htl] at HE0 HT HBa HBb HBc HBl;rw [hxn] at HSo;rw [hn',hm',hxn];generalize (p.r i).name=nm at *;generalize (p.r i).group=gr at *;generalize (p.r i).kind=rk at *;generalize (p.r i).bound=bd at *;clear hpv hpr hx hin hn hl hi hok hT hn' hm' htl hxn e0 e1 e2 e3 e4 HPr HX hval;have hxa:=(Ext.refl (fun _=>False) w).alloc (.cells #[.slice vo n vc,.slice (some ⟨rb,off,none⟩) m rc] 25);have hxb:=(Ext.refl (fun _=>False) (w.alloc (.cells #[.slice vo n vc,.slice (some ⟨rb,off,none⟩) m rc] 25))).alloc (.cells #[.slice xo xn xc] 26);have hxc:=(Ext.refl (fun _=>False) ((w.alloc (.cells #[.slice vo n vc,.slice (some ⟨rb,off,none⟩) m rc] 25)).alloc (.cells #[.slice xo xn xc] 26))).alloc (.cells #[.int .i64 0,.slice none 0 0,.int .i64 0,.slice none 0 0] 29);have hb1:=blk_keep (blk_alloc_at w (.cells #[.slice vo n vc,.slice (some ⟨rb,off,none⟩) m rc] 25)) (hxb.trans hxc);have hb2:blk (((w.alloc (.cells #[.slice vo n vc,.slice (some ⟨rb,off,none⟩) m rc] 25)).alloc (.cells #[.slice xo xn xc] 26)).alloc (.cells #[.int .i64 0,.slice none 0 0,.int .i64 0,.slice none 0 0] 29)) (w.heap.size+1)=some (.cells #[.slice xo xn xc] 26 (0,0)):=by
  have h:=blk_alloc_at (w.alloc (.cells #[.slice vo n vc,.slice (some ⟨rb,off,none⟩) m rc] 25)) (.cells #[.slice xo xn xc] 26);rw [World.size_alloc] at h;exact blk_keep h hxc
 have hb3:blk (((w.alloc (.cells #[.slice vo n vc,.slice (some ⟨rb,off,none⟩) m rc] 25)).alloc (.cells #[.slice xo xn xc] 26)).alloc (.cells #[.int .i64 0,.slice none 0 0,.int .i64 0,.slice none 0 0] 29)) (w.heap.size+1+1)=some (.cells #[.int .i64 0,.slice none 0 0,.int .i64 0,.slice none 0 0] 29 (0,0)):=by
  have h:=blk_alloc_at ((w.alloc (.cells #[.slice vo n vc,.slice (some ⟨rb,off,none⟩) m rc] 25)).alloc (.cells #[.slice xo xn xc] 26)) (.cells #[.int .i64 0,.slice none 0 0,.int .i64 0,.slice none 0 0] 29);rwa [World.size_alloc,World.size_alloc] at h
 have HB:=bH (bI hb1 (bI hb2 (bI hb3 ((hxa.trans hxb).trans hxc))));have HLo:=bH (show w.heap.size<=w.heap.size+1+1/\True from ⟨by omega,trivial⟩);clear hxa hxb hxc hb1 hb2 hb3;go_enter Tryz.func42,Tryz.ntmps42;go_upto_region 1 with fail;generalize ((w.alloc (.cells #[.slice vo n vc,.slice (some ⟨rb,off,none⟩) m rc] 25)).alloc (.cells #[.slice xo xn xc] 26)).alloc (.cells #[.int .i64 0,.slice none 0 0,.int .i64 0,.slice none 0 0] 29)=w1 at *;generalize w.heap.size+1+1=cb at *;generalize w.heap.size+1=xb at *;obtain ⟨pb,hpb⟩:∃ q,w.heap.size=q:=⟨_,rfl⟩;rw [hpb] at HB ⊢;clear hpb;have p1:=cellq HB.o.1 1 rfl;have e0:=cell_keep HE0.o.1 HB.o.2.2.2;have e1:=cell_keep HE0.o.2.1 HB.o.2.2.2;have e2:=cell_keep HE0.o.2.2.1 HB.o.2.2.2;have e3:=cell_keep HE0.o.2.2.2.1 HB.o.2.2.2;have e4:=cell_keep HE0.o.2.2.2.2 HB.o.2.2.2;have hxr:=(Ext.refl (fun _=>False) w1).alloc (.cells #[.string nm,.int .i64 gr,.int .i64 rk,.slice ta tl tc,.int .i64 bd] 35);replace HB:=bH (show blk (w1.alloc (.cells #[.string nm,.int .i64 gr,.int .i64 rk,.slice ta tl tc,.int .i64 bd] 35)) pb=_/\blk (w1.alloc (.cells #[.string nm,.int .i64 gr,.int .i64 rk,.slice ta tl tc,.int .i64 bd] 35)) xb=_/\blk (w1.alloc (.cells #[.string nm,.int .i64 gr,.int .i64 rk,.slice ta tl tc,.int .i64 bd] 35)) cb=_/\blk (w1.alloc (.cells #[.string nm,.int .i64 gr,.int .i64 rk,.slice ta tl tc,.int .i64 bd] 35)) w1.heap.size=_/\XF w (w1.alloc (.cells #[.string nm,.int .i64 gr,.int .i64 rk,.slice ta tl tc,.int .i64 bd] 35)) from
  ⟨blk_keep HB.o.1 hxr,blk_keep HB.o.2.1 hxr,blk_keep HB.o.2.2.1 hxr,blk_alloc_at w1 _,HB.o.2.2.2.trans hxr⟩)
 clear hxr;go_upto_region 3 with fail;clear p1 e0 e1 e2 e3 e4 HE0;generalize w1.alloc (.cells #[.string nm,.int .i64 gr,.int .i64 rk,.slice ta tl tc,.int .i64 bd] 35)=w2 at *;generalize w1.heap.size=rwb at *;have r3:=cellq HB.o.2.2.2.1 3 rfl;go_upto_block 0 with fail;clear r3;go_cut [9] (fun v9 wx=>IRow wx w2.heap.size v9 (binsR p (p.r i))/\XF w2 wx);case first =>
  go_wp2_with fail;go_loopg [9,25] tl (fun gg v9 v25 wr=>∃ (k:Nat) (ov:Value),k<=tl/\gg=tl - k/\ov=v9/\v25=.int .i64 k/\IRow wr w2.heap.size ov (bnT p (p.r i).terms k)/\XF w2 wr);case atStart=>exact ⟨0,_,Nat.zero_le _,rfl,rfl,rfl,IRow.nil _ _,Ext.refl _ _⟩
  case round =>
   obtain ⟨k,ov,hk,rfl,rfl,rfl,hir,hxr⟩:=hrel;have HI:=bH (bI hir hxr);clear hir hxr;by_cases hkt:k<tl
   ·have k0:(k:Int)<(tl:Int):=(by omega);have k1:(0:Int)<=(k:Int):=(by omega);obtain ⟨tb,tof,rfl,-,e0,e1,-⟩:=(HT.o.1.keep (HB.o.2.2.2.2.trans HI.o.2)).at k (by rw [HTl.o]; exact hkt);replace HBb:=bH (HBb.o k hkt);replace HBc:=bH (HBc.o k hkt);generalize ((p.r i).terms.getD k term0).var=v at *;generalize ((p.r i).terms.getD k term0).coef=cf at *;have hxA:=(Ext.refl (fun _=>False) wr).alloc (.cells #[.int .i64 v,.int .i64 cf] 70);replace HI:=bH (show IRow (wr.alloc (.cells #[.int .i64 v,.int .i64 cf] 70)) w2.heap.size ov (bnT p (p.r i).terms k)/\XF w2 (wr.alloc (.cells #[.int .i64 v,.int .i64 cf] 70)) from ⟨HI.o.1.keep hxA,HI.o.2.trans hxA⟩);have HA:=bH (blk_alloc_at wr (.cells #[.int .i64 v,.int .i64 cf] 70));clear hxA;go_upto_region 6 with fail;clear e0 e1;generalize wr.alloc (.cells #[.int .i64 v,.int .i64 cf] 70)=wA at *;generalize wr.heap.size=tbx at *;have p0:=cell_keep (cellq HB.o.1 0 rfl) HI.o.2;have p1:=cell_keep (cellq HB.o.1 1 rfl) HI.o.2;have t0:=cellq HA.o 0 rfl;have HBx:=bH (HBn.o wA (HB.o.2.2.2.2.trans HI.o.2) v);obtain ⟨S,hS⟩:∃ S,binB p v=S:=⟨_,rfl⟩;rw [hS] at HBx HBb HBc;clear hS;go_wp2_with fail;refine HBx.o.mono ?_;rintro r7 w7 ⟨rfl,hx7⟩;replace HI:=bH (bI (HI.o.1.keep hx7) (HI.o.2.trans hx7));replace HA:=bH (blk_keep HA.o hx7);clear p0 p1 t0 hx7 HBx;cases S with
    | false =>
     go_wp2;go_roundg (tl - (k+1));case measure=>omega
     case rel=>exact ⟨k+1,_,by omega,rfl,rfl,by go_num,by rw [HBc.o trivial]; exact HI.o.1,HI.o.2⟩
    | true =>
     have t0:=cellq HA.o 0 rfl;have hxs:=(Ext.refl (fun _=>False) w7).alloc (.cells #[.int .i64 v] 3);have HIs:=bH (bI (HI.o.1.keep hxs) (bI (HI.o.2.trans hxs) (bI (int_src w7 v) (show (bnT p (p.r i).terms k).length<=100000 from by have:=HBl.o k; omega))));clear hxs;go_wp2_with (at_builtin; refine wpList_append_el (f:=cI) rfl (.tmp 33) (.tmp 36) rfl cI_len' v (cI_one' _) Tryz.underlying27 Tryz.infoInt rfl (by decide) (by decide) w2.heap.size ov (bnT p (p.r i).terms k) rfl HIs.o.1.own ⟨w7.heap.size,0,none⟩ 1 rfl HIs.o.2.2.1 HIs.o.2.2.2 HIs.o.2.1.size ?_; intro v15 w15 g1 g2 g3; have HN:=bH (bI (IRow.of g1) (HIs.o.2.1.own g2 (fun k e=>(World.ownsRow.lt HIs.o.1 k e).1))); clear g1 g2 g3);go_roundg (tl - (k+1));case measure=>omega
     case rel=>exact ⟨k+1,_,by omega,rfl,rfl,by go_num,by rw [HBb.o trivial]; exact HN.o.1,HN.o.2⟩
   ·obtain rfl:k=tl:=(by omega);rw [HBa.o] at HI;go_wp2;go_meet;exact HI.o
 case rest =>
 clear HBa HBb HBc HBl HBn HT HTl;obtain ⟨hr,hx⟩:=hcut;obtain ⟨w3,rfl⟩:∃ q,q=wc:=⟨_,rfl⟩;obtain ⟨oo,oc,rfl,-⟩:=hr.inz.shape;obtain ⟨on,hon⟩:∃ q,(binsR p (p.r i)).length=q:=⟨_,rfl⟩;have HSx:=bH (HSo.o w3 xb w2.heap.size _ (HB.o.2.2.2.2.trans hx) (blk_keep HB.o.2.1 hx) HB.o.2.2.2.2.size hr);have HR:=bH (bI hr hx);have hon12:on<=12:=by rw [<- hon]; exact HNd.o.2
 rw [hon] at HSx HR;rw [hon];clear hr hx hon HSo HNd;go_wp2_with fail;refine HSx.o.mono ?_;rintro r4 w4 ⟨rfl,o,hO,hI,hlo,hx4⟩;have hx24:=HR.o.2.own hx4 (fun k e=>(World.ownsRow.lt HR.o.1 k e).1);have HO:=bH (bI hO (bI hI (bI hlo hx24)));have HOb:=bH hO.bin;clear hO hI hlo hx4 hx24 HSx HR;go_upto_block 2 with fail;go_cut [10] (fun v10 wx=>IRow wx w4.heap.size v10 (takeV p (p.r i) [] o)/\XF w4 wx);case first =>
  go_wp2_with fail;go_loopg [10,44] on (fun gg v10 v44 wr=>∃ (k:Nat) (tv:Value),k<=on/\gg=on - k/\tv=v10/\v44=.int .i64 k/\IRow wr w4.heap.size tv (o.take k)/\(∀ j,j<k->covB p (p.r i) (o.take (j+1))=false)/\XF w4 wr);case atStart=>exact ⟨0,_,Nat.zero_le _,rfl,rfl,rfl,IRow.nil _ _,fun j h=>absurd h (Nat.not_lt_zero j),Ext.refl _ _⟩
  case round =>
   obtain ⟨k,tv,hk,rfl,rfl,rfl,hir,hno,hxr⟩:=hrel;have HI:=bH (bI hir (bI hno hxr));clear hir hno hxr;by_cases hko:k<on
   ·have k0:(k:Int)<(on:Int):=(by omega);have k1:(0:Int)<=(k:Int):=(by omega);have hkl:k<o.length:=(by rw [HO.o.2.2.1]; exact hko);obtain ⟨b1,o1,rfl,e0⟩:=(HO.o.2.1.inz.keep HI.o.2.2).at_ hkl;have HKs:=bH (take_snoc (d:=0) hkl);have HKl:=bH hkl;have HKb:=bH (show ∀ u ∈ o.take (k+1),binB p u=true from fun u hu=>HOb.o u (List.mem_of_mem_take hu));clear hkl;generalize o.getD k 0=v at *;have hxs:=(Ext.refl (fun _=>False) wr).alloc (.cells #[.int .i64 v] 3);have HIs:=bH (bI (HI.o.1.keep hxs) (bI (HI.o.2.2.trans hxs) (bI (int_src wr v) (show (o.take k).length<=100000 from by rw [List.length_take]; have:=HO.o.2.2.1; omega))));clear hxs;go_wp2_with (at_builtin; refine wpList_append_el (f:=cI) rfl (.tmp 48) (.tmp 50) rfl cI_len' v (cI_one' _) Tryz.underlying27 Tryz.infoInt rfl (by decide) (by decide) w4.heap.size tv (o.take k) rfl HIs.o.1.own ⟨wr.heap.size,0,none⟩ 1 rfl HIs.o.2.2.1 HIs.o.2.2.2 HIs.o.2.1.size ?_; intro v15 w15 g1 g2 g3; have HN:=bH (bI (show IRow w15 w4.heap.size v15 (o.take (k+1)) from by rw [HKs.o]; exact IRow.of g1) (HIs.o.2.1.own g2 (fun k e=>(World.ownsRow.lt HIs.o.1 k e).1))); clear g1 g2 g3; have p0:=cell_keep (cellq HB.o.1 0 rfl) (HO.o.2.2.2.trans HN.o.2); have p1:=cell_keep (cellq HB.o.1 1 rfl) (HO.o.2.2.2.trans HN.o.2); have r0:=cell_keep (cellq HB.o.2.2.2.1 0 rfl) (HO.o.2.2.2.trans HN.o.2); have r1:=cell_keep (cellq HB.o.2.2.2.1 1 rfl) (HO.o.2.2.2.trans HN.o.2); have r2:=cell_keep (cellq HB.o.2.2.2.1 2 rfl) (HO.o.2.2.2.trans HN.o.2); have r3:=cell_keep (cellq HB.o.2.2.2.1 3 rfl) (HO.o.2.2.2.trans HN.o.2); have r4:=cell_keep (cellq HB.o.2.2.2.1 4 rfl) (HO.o.2.2.2.trans HN.o.2));have HCx:=bH (HCv.o w15 (HB.o.2.2.2.2.trans (HO.o.2.2.2.trans HN.o.2)) _ _ HN.o.1.inz HKb.o);obtain ⟨S,hS⟩:∃ S,covB p (p.r i) (o.take (k+1))=S:=⟨_,rfl⟩;have HS:=bH hS;rw [hS] at HCx;refine HCx.o.mono ?_;rintro r7 w7 ⟨rfl,hx7⟩;replace HN:=bH (bI (HN.o.1.keep hx7) (HN.o.2.trans hx7));clear p0 p1 r0 r1 r2 r3 r4 e0 hx7 HCx hS;cases S with
    | false =>
     go_wp2;go_roundg (on - (k+1));case measure=>omega
     case rel=>exact ⟨k+1,_,by omega,rfl,rfl,by go_num,HN.o.1,fun j hj=>(by
      by_cases e:j=k
      ·subst e; exact HS.o
      ·exact HI.o.2.1 j (by omega)),HN.o.2⟩
    | true =>
     have HTk:=bH (takeV_hit HI.o.2.1 HKl.o HS.o);go_wp2;go_meet;exact ⟨by rw [HTk.o]; exact HN.o.1,HN.o.2⟩
   ·obtain rfl:k=on:=(by omega);have HTk:=bH (takeV_all (p:=p) (r:=p.r i) (o:=o) (fun j hj=>HI.o.2.1 j (by rw [<- HO.o.2.2.1]; exact hj)));have HTe:=bH (show o.take k=o from List.take_of_length_le (by rw [HO.o.2.2.1]; exact Nat.le_refl _));rw [HTe.o] at HI;go_wp2;go_meet;exact ⟨by rw [HTk.o]; exact HI.o.1,HI.o.2.2⟩
 case rest =>
 obtain ⟨hr,hx⟩:=hcut;obtain ⟨w5,rfl⟩:∃ q,q=wc:=⟨_,rfl⟩;obtain ⟨T,hT⟩:∃ T,takeV p (p.r i) [] o=T:=⟨_,rfl⟩;have HTb:=bH (show ∀ v ∈ T,binB p v=true from fun v hv=>by
  rw [<- hT] at hv;rcases takeV_mem o [] v hv with h | h
  ·cases h
  ·exact HOb.o v h)
 have HTl:=bH (show T.length<=12 from by
  obtain ⟨o',h⟩:=takeV_pre (p:=p) (r:=p.r i) o [];rw [hT,List.nil_append] at h;have h2:=congrArg List.length h;rw [List.length_append,HO.o.2.2.1] at h2;omega)
 rw [hT] at hr;obtain ⟨tao,tcap,rfl,-⟩:=hr.inz.shape;have HT:=bH hT;have HR:=bH (bI hr (HO.o.2.2.2.trans hx));clear hr hx hT;have HXz:=bH (HB.o.2.2.2.2.trans HR.o.2);have HZc:=bH (blk_keep HB.o.2.2.1 HR.o.2);obtain ⟨tn,htn⟩:∃ q,T.length=q:=⟨_,rfl⟩;have HTn:=bH htn;rw [htn] at HTl HR;rw [htn];clear htn;by_cases hT0:tn=0
 ·subst hT0;have HN:=bH (minV_none HT.o (.inl (List.length_eq_zero_iff.1 HTn.o)));have HP:=bH (cut_put HZc.o (.int .i64 0) (.slice none 0 0) (.int .i64 0) (.slice none 0 0));have y0:=free_of_cells HZc.o;have z0:=cellq HZc.o 0 rfl;have z1:=cellq HZc.o 1 rfl;have z2:=cellq HZc.o 2 rfl;have z3:=cellq HZc.o 3 rfl;go_wp2;generalize (((w5.setCell ⟨cb,0,none⟩ (.int .i64 0)).setCell ⟨cb,1,none⟩ (.slice none 0 0)).setCell ⟨cb,2,none⟩ (.int .i64 0)).setCell ⟨cb,3,none⟩ (.slice none 0 0)=w9 at *;have g0:=cellq HP.o.1 0 rfl;have g1:=cellq HP.o.1 1 rfl;have g2:=cellq HP.o.1 2 rfl;have g3:=cellq HP.o.1 3 rfl;exact bodyPost_ret (v:=.tuple #[.agg #[.int .i64 0,.slice none 0 0,.int .i64 0,.slice none 0 0],.bool false]) (by simp [results,Tryz.results42,go_sem,g0,g1,g2,g3]) rfl ⟨.slice none 0 0,⟨0,[],0,[]⟩,false,rfl,IRow.nil _ _,rfl,covIs_none HO.o.1 HN.o,HXz.o.own HP.o.2 (fun k e=>by rw [show k=cb from e]; exact HLo.o.1)⟩
 ·have h4:¬ (tn:Int)=0:=(by omega);have h5:((tn:Int) == 0)=false:=(by simpa using h4);have h6:decide ((tn:Int)=0)=false:=decide_eq_false h4;have h7:(tn == 0)=false:=(by simpa using hT0);have h8:decide (tn=0)=false:=decide_eq_false hT0;have p0:=cell_keep (cellq HB.o.1 0 rfl) (HR.o.2);have p1:=cell_keep (cellq HB.o.1 1 rfl) (HR.o.2);have r0:=cell_keep (cellq HB.o.2.2.2.1 0 rfl) (HR.o.2);have r1:=cell_keep (cellq HB.o.2.2.2.1 1 rfl) (HR.o.2);have r2:=cell_keep (cellq HB.o.2.2.2.1 2 rfl) (HR.o.2);have r3:=cell_keep (cellq HB.o.2.2.2.1 3 rfl) (HR.o.2);have r4:=cell_keep (cellq HB.o.2.2.2.1 4 rfl) (HR.o.2);have HCx:=bH (HCv.o w5 HXz.o _ _ HR.o.1.inz HTb.o);obtain ⟨S,hS⟩:∃ S,covB p (p.r i) T=S:=⟨_,rfl⟩;have HS:=bH hS;rw [hS] at HCx;clear hS;go_wp2_with fail;refine HCx.o.mono ?_;rintro r7 w7 ⟨rfl,hx7⟩;replace HR:=bH (bI (HR.o.1.keep hx7) (HR.o.2.trans hx7));replace HXz:=bH (HXz.o.trans hx7);replace HZc:=bH (blk_keep HZc.o hx7);clear p0 p1 r0 r1 r2 r3 r4 hx7 HCx;cases S with
  | false =>
   have HN:=bH (minV_none HT.o (.inr HS.o));have HP:=bH (cut_put HZc.o (.int .i64 0) (.slice none 0 0) (.int .i64 0) (.slice none 0 0));have y0:=free_of_cells HZc.o;have z0:=cellq HZc.o 0 rfl;have z1:=cellq HZc.o 1 rfl;have z2:=cellq HZc.o 2 rfl;have z3:=cellq HZc.o 3 rfl;go_wp2;generalize (((w7.setCell ⟨cb,0,none⟩ (.int .i64 0)).setCell ⟨cb,1,none⟩ (.slice none 0 0)).setCell ⟨cb,2,none⟩ (.int .i64 0)).setCell ⟨cb,3,none⟩ (.slice none 0 0)=w9 at *;have g0:=cellq HP.o.1 0 rfl;have g1:=cellq HP.o.1 1 rfl;have g2:=cellq HP.o.1 2 rfl;have g3:=cellq HP.o.1 3 rfl;exact bodyPost_ret (v:=.tuple #[.agg #[.int .i64 0,.slice none 0 0,.int .i64 0,.slice none 0 0],.bool false]) (by simp [results,Tryz.results42,go_sem,g0,g1,g2,g3]) rfl ⟨.slice none 0 0,⟨0,[],0,[]⟩,false,rfl,IRow.nil _ _,rfl,covIs_none HO.o.1 HN.o,HXz.o.own HP.o.2 (fun k e=>by rw [show k=cb from e]; exact HLo.o.1)⟩
  | true =>
   have HN:=bH (minV_some HT.o (fun e=>by have h:=HTn.o; rw [e] at h; exact hT0 h.symm) HS.o);rw [HTn.o] at HN;have hwr:IntKind.i64.wrap ((tn:Int) - 1)=(tn:Int) - 1:=IntWalk.i64_in _ (by have:=HTl.o; omega);clear h4 h5 h6 h7 h8;obtain ⟨F,hF⟩:∃ F,dropV p (p.r i) tn T=F:=⟨_,rfl⟩;rw [hF] at HN;have HFs:=bH (minV_spec HO.o.1 HN.o);go_upto_block 4 with fail;go_cut [10] (fun v10 wx=>IRow wx w4.heap.size v10 F/\F.length<=12/\XF w7 wx);case first =>
    go_wp2_with fail;go_loopg [10,15] tn (fun gg v10 v15 wr=>∃ (j:Nat) (z:Int) (lv:Value) (l:List Int),j=gg/\z=(j:Int) - 1/\v15=.int .i64 z/\lv=v10/\dropV p (p.r i) j l=F/\j<=l.length/\l≠[]/\l.length<=12/\(∀ v ∈ l,binB p v=true)/\IRow wr w4.heap.size lv l/\XF w7 wr);case atStart=>exact ⟨tn,_,_,T,rfl,rfl,rfl,rfl,hF,Nat.le_of_eq HTn.o.symm,(fun e=>by have h:=HTn.o; rw [e] at h; exact hT0 h.symm),(by rw [HTn.o]; exact HTl.o),HTb.o,HR.o.1,Ext.refl _ _⟩
    case round =>
     clear hwr;obtain ⟨j,z,lv,l,rfl,hz,rfl,rfl,hdr,hjl,hl0,hl12,hlb,hir,hxr⟩:=hrel;have HD:=bH hdr;have HI:=bH (bI hir (bI hxr hlb));clear hdr hir hxr hlb;by_cases hj0:j=0
     ·subst hj0;have z0:¬ (0:Int)<=z:=(by omega);clear hz;have HDe:=bH (show l=F from HD.o);have HLe:=bH hl12;go_wp2;go_meet;exact ⟨by rw [<- HDe.o]; exact HI.o.1,by rw [<- HDe.o]; exact HLe.o,HI.o.2.1⟩
     ·obtain ⟨k,rfl⟩:∃ k,j=k+1:=⟨j - 1,by omega⟩;obtain rfl:z=(k:Int):=(by omega);clear hz hj0;have hl1:0<l.length:=List.length_pos_iff.2 hl0;obtain ⟨lm,hlm⟩:∃ q,l.length=q+1:=⟨l.length - 1,by omega⟩;rcases HI.o.1.shape with ⟨_,e⟩ | ⟨g,lc,rfl,hgb,hgs⟩
      ·exact absurd e hl0
      have HLe:=bH (bI hl0 (bI hl12 hlm));have HG:=bH (Nat.le_of_lt (Nat.lt_of_le_of_lt hgb hgs));have HE:=bH (show (l.eraseIdx k).length=lm from by rw [List.length_eraseIdx_of_lt (by omega)]; omega);have HEb:=bH (show ∀ v ∈ l.eraseIdx k,binB p v=true from fun v hv=>HI.o.2.2 v (List.mem_of_mem_eraseIdx hv));have HDs:=bH (show dropV p (p.r i) k (lessV p (p.r i) l k)=F from HD.o);rw [hlm] at HI ⊢;have hkm:k<lm+1:=(by omega);have hlm12:lm<=12:=(by omega);clear hl0 hl12 hl1 hlm hjl HD hgb hgs;have HCl:=bH (iclone_any wr w4.heap.size g (lm+1) lc l HI.o.1 (by omega));have HDl:=bH (fun W b g' c' (h:IRow W b (.slice (some ⟨g',0,none⟩) (lm+1) c') l)=>idel_any W b g' (lm+1) c' k l h hkm);have k0:(0:Int)<=(k:Int):=(by omega);have k1:IntKind.i64.wrap ((k:Int)+1)=(k:Int)+1:=IntWalk.i64_in _ (by omega);have k2:IntKind.i64.wrap ((k:Int) - 1)=(k:Int) - 1:=IntWalk.i64_in _ (by omega);go_wp2_with fail;refine HCl.o.mono ?_;rintro r6 w6 ⟨g6,c6,rfl,hI6,hx6⟩;have HC6:=bH (bI hI6 hx6);clear hI6 hx6 HCl;go_wp2_with fail;refine (HDl.o w6 wr.heap.size g6 c6 HC6.o.1).mono ?_;rintro r8 w8 ⟨rfl,hI8,hx8⟩;rw [Nat.add_sub_cancel] at hI8 ⊢;have hxx:=HC6.o.2.own hx8 (fun q e=>by rw [show q=g6 from e]; obtain ⟨_,h,_⟩:=HC6.o.1.data; exact h);have HC8:=bH (bI hI8 (bI hxx (show w4.heap.size<=g6 from by
       obtain ⟨_,h,_⟩:=HC6.o.1.data;exact Nat.le_trans HG.o h)))
      clear HC6 HDl hI8 hx8 hxx;by_cases hm0:lm=0
      ·subst hm0;have HLn:=bH (lessV_no (p:=p) (r:=p.r i) (i:=k) (l:=l) (.inl (List.length_eq_zero_iff.1 HE.o)));go_wp2;go_roundg k;case measure=>omega
       case rel=>exact ⟨k,(k:Int) - 1,_,l,rfl,rfl,rfl,rfl,by rw [<- HLn.o]; exact HDs.o,by have:=HLe.o.2.2; omega,HLe.o.1,HLe.o.2.1,HI.o.2.2,HI.o.1.keep HC8.o.2.1,HI.o.2.1.trans HC8.o.2.1⟩
      ·have m0:(0:Int)<(lm:Int):=(by omega);have HW:=bH ((HR.o.2.trans HI.o.2.1).trans HC8.o.2.1);have p0:=cell_keep (cellq HB.o.1 0 rfl) (HW.o);have p1:=cell_keep (cellq HB.o.1 1 rfl) (HW.o);have r0:=cell_keep (cellq HB.o.2.2.2.1 0 rfl) (HW.o);have r1:=cell_keep (cellq HB.o.2.2.2.1 1 rfl) (HW.o);have r2:=cell_keep (cellq HB.o.2.2.2.1 2 rfl) (HW.o);have r3:=cell_keep (cellq HB.o.2.2.2.1 3 rfl) (HW.o);have r4:=cell_keep (cellq HB.o.2.2.2.1 4 rfl) (HW.o);have HCx:=bH (HCv.o w8 (HB.o.2.2.2.2.trans HW.o) _ _ HC8.o.1.inz HEb.o);obtain ⟨S2,hS2⟩:∃ S,covB p (p.r i) (l.eraseIdx k)=S:=⟨_,rfl⟩;have HS2:=bH hS2;rw [hS2] at HCx;clear hS2;go_wp2_with fail;refine HCx.o.mono ?_;rintro r9 w9 ⟨rfl,hx9⟩;replace HC8:=bH (bI (HC8.o.1.keep hx9) (bI (HC8.o.2.1.trans hx9) HC8.o.2.2));clear p0 p1 r0 r1 r2 r3 r4 hx9 HCx HW;cases S2 with
       | false =>
        have HLn:=bH (lessV_no (p:=p) (r:=p.r i) (i:=k) (l:=l) (.inr HS2.o));go_wp2;go_roundg k;case measure=>omega
        case rel=>exact ⟨k,(k:Int) - 1,_,l,rfl,rfl,rfl,rfl,by rw [<- HLn.o]; exact HDs.o,by have:=HLe.o.2.2; omega,HLe.o.1,HLe.o.2.1,HI.o.2.2,HI.o.1.keep HC8.o.2.1,HI.o.2.1.trans HC8.o.2.1⟩
       | true =>
        have HLn:=bH (lessV_yes (p:=p) (r:=p.r i) (i:=k) (l:=l) (fun e=>by have h:=HE.o; rw [e] at h; exact hm0 h.symm) HS2.o);go_wp2;go_roundg k;case measure=>omega
        case rel=>exact ⟨k,(k:Int) - 1,_,l.eraseIdx k,rfl,rfl,rfl,rfl,by rw [<- HLn.o]; exact HDs.o,by rw [HE.o]; omega,(fun e=>by have h:=HE.o; rw [e] at h; exact hm0 h.symm),by rw [HE.o]; omega,HEb.o,HC8.o.1.rebase HC8.o.2.2,HI.o.2.1.trans HC8.o.2.1⟩
   case rest =>
   obtain ⟨hr,hl12,hx⟩:=hcut;obtain ⟨w10,rfl⟩:∃ q,q=wc:=⟨_,rfl⟩;rcases hr.shape with ⟨_,e⟩ | ⟨g,fc,rfl,hgb,hgs⟩
   ·exact absurd e HFs.o.2.2.1
   have HSt:=bH (isort_any w10 w4.heap.size g F.length fc F hr (by omega));have HX:=bH (HR.o.2.trans hx);have HG:=bH (Nat.le_trans HO.o.2.2.2.size hgb);obtain ⟨fn,hfn⟩:∃ q,F.length=q:=⟨_,rfl⟩;rw [hfn] at HSt ⊢;clear hr hx hl12 hgb hgs hfn hwr HR HXz HZc;go_wp2_with fail;refine HSt.o.mono ?_;rintro r11 w11 ⟨rfl,hI,hx11⟩;replace HX:=bH (HX.o.own hx11 (fun q e=>by rw [show q=g from e]; exact HG.o));have HZ:=bH (blk_keep HB.o.2.2.1 HX.o);have HI:=bH hI;clear hI hx11 HSt;have y0:=free_of_cells HZ.o;have z0:=cellq HZ.o 0 rfl;have z1:=cellq HZ.o 1 rfl;have z2:=cellq HZ.o 2 rfl;have z3:=cellq HZ.o 3 rfl;have HP:=bH (cut_put HZ.o (.int .i64 1) (.slice none 0 0) (.int .i64 i) (.slice (some ⟨g,0,none⟩) fn fc));have HOw:=bH (IRow.rebase (b':=w.heap.size) (show IRow _ w4.heap.size (.slice (some ⟨g,0,none⟩) fn fc) (F.mergeSort fun x y=>decide (x<=y)) from ownsRow_ext HI.o HP.o.2 (fun g hg e=>typ_ne' (own_ty HI.o g hg) ⟨_,HZ.o⟩ (by decide) e)) (Nat.le_trans HB.o.2.2.2.2.size HG.o));have HXf:=bH ((HB.o.2.2.2.2.trans HX.o).own HP.o.2 (fun k e=>by rw [show k=cb from e]; exact HLo.o.1));go_wp2;generalize (((w11.setCell ⟨cb,0,none⟩ (.int .i64 1)).setCell ⟨cb,1,none⟩ (.slice none 0 0)).setCell ⟨cb,2,none⟩ (.int .i64 i)).setCell ⟨cb,3,none⟩ (.slice (some ⟨g,0,none⟩) fn fc)=w9 at *;have g0:=cellq HP.o.1 0 rfl;have g1:=cellq HP.o.1 1 rfl;have g2:=cellq HP.o.1 2 rfl;have g3:=cellq HP.o.1 3 rfl;exact bodyPost_ret (v:=.tuple #[.agg #[.int .i64 1,.slice none 0 0,.int .i64 i,.slice (some ⟨g,0,none⟩) fn fc],.bool true]) (by simp [results,Tryz.results42,go_sem,g0,g1,g2,g3]) rfl ⟨_,⟨1,[],i,_⟩,true,rfl,HOw.o,rfl,covIs_some HO.o.1 HN.o (merge_srt HFs.o.2.1),HXf.o⟩
def CovR (p:ProgV) (row:Int) (x:List Rat) (c:CutV) (ok:Bool):Prop :=
 ((0<=row/\row<p.rows.length/\validB p=true)/\CovIs p row x c ok)∨(¬ (0<=row/\row<p.rows.length/\validB p=true)/\ok=false/\c=⟨0,[],0,[]⟩)
def CoverPost (w:World) (p:ProgV) (row:Int) (x:List Rat) (r:Ending) (w':World):Prop:=∃ sv c ok,r=.returned (.tuple #[.agg #[.int .i64 c.kind,.slice none 0 0,.int .i64 c.row,sv],.bool ok])/\IRow w' w.heap.size sv c.vars/\c.mul=[]/\CovR p row x c ok/\XF w w'
theorem Cover_any (w:World) (pv xv:Value) (p:ProgV) (row:Int) (x:List Rat) (L:Nat) (hp:IsPrg w pv p) (hx:Rats w xv x L) (h1:1<=L) (hL:L<=4194304) (hn:p.vars.length<=6) (hl:∀ i,i<p.rows.length->(p.r i).terms.length<=12) :
  Calls Tryz.prog 20 #[pv,.int .i64 row,xv] w (CoverPost w p row x):=by
 have HVa:=bH (fun W (hW:XF w W)=>Valid_any W pv p (hp.keep hW));have HMi:=bH (fun W (hW:XF w W) (i:Nat) (hi:i<p.rows.length) (hval:validB p=true)=>minimal_any W pv xv p i x L (hp.keep hW) hval hi (hx.keep hW) h1 hL hn (hl i hi));obtain ⟨vv,rv,rfl,hpv,hpr⟩:=hp;obtain ⟨vo,vc,rfl,-,-,-⟩:=hpv.shape;obtain ⟨ro,rc,rfl,-,-,-⟩:=hpr.shape;obtain ⟨xo,xc,rfl,-,-,-⟩:=hx.shape;obtain ⟨VB,hVB⟩:∃ x,validB p=x:=⟨_,rfl⟩;have HVB:=bH hVB;rw [hVB] at HVa HMi;obtain ⟨n,hn'⟩:∃ x,p.vars.length=x:=⟨_,rfl⟩;obtain ⟨m,hm'⟩:∃ x,p.rows.length=x:=⟨_,rfl⟩;obtain ⟨xn,hxn⟩:∃ y,x.length=y:=⟨_,rfl⟩;have HM:=bH hm';rw [hn',hm'] at HVa HMi;rw [hxn] at HMi;rw [hn',hm',hxn];clear hpv hpr hx hn hl hn' hm' hxn hVB;have hxa:=(Ext.refl (fun _=>False) w).alloc (.cells #[.slice vo n vc,.slice ro m rc] 25);have hxb:=(Ext.refl (fun _=>False) (w.alloc (.cells #[.slice vo n vc,.slice ro m rc] 25))).alloc (.cells #[.int .i64 0,.slice none 0 0,.int .i64 0,.slice none 0 0] 29);have hb1:=blk_keep (blk_alloc_at w (.cells #[.slice vo n vc,.slice ro m rc] 25)) hxb;have hb2:blk ((w.alloc (.cells #[.slice vo n vc,.slice ro m rc] 25)).alloc (.cells #[.int .i64 0,.slice none 0 0,.int .i64 0,.slice none 0 0] 29)) (w.heap.size+1)=some (.cells #[.int .i64 0,.slice none 0 0,.int .i64 0,.slice none 0 0] 29 (0,0)):=by
  have h:=blk_alloc_at (w.alloc (.cells #[.slice vo n vc,.slice ro m rc] 25)) (.cells #[.int .i64 0,.slice none 0 0,.int .i64 0,.slice none 0 0] 29);rwa [World.size_alloc] at h
 have HB:=bH hb1;have HZ:=bH hb2;have HX:=bH (hxa.trans hxb);have HLo:=bH (show w.heap.size<=w.heap.size+1 by omega);clear hxa hxb hb1 hb2;go_enter Tryz.func20,Tryz.ntmps20;go_upto_region 1 with fail;generalize (w.alloc (.cells #[.slice vo n vc,.slice ro m rc] 25)).alloc (.cells #[.int .i64 0,.slice none 0 0,.int .i64 0,.slice none 0 0] 29)=w1 at *;generalize w.heap.size+1=cb at *;obtain ⟨pb,hpb⟩:∃ q,w.heap.size=q:=⟨_,rfl⟩;rw [hpb] at HB ⊢;clear hpb;have p0:=cellq HB.o 0 rfl;have p1:=cellq HB.o 1 rfl;by_cases hr0:row<0
 ·have HEx:=bH (show ¬ (0<=row/\row<p.rows.length/\validB p=true) from fun h=>by omega);clear p0;have HP:=bH (cut_put HZ.o (.int .i64 0) (.slice none 0 0) (.int .i64 0) (.slice none 0 0));have y0:=free_of_cells HZ.o;have z0:=cellq HZ.o 0 rfl;have z1:=cellq HZ.o 1 rfl;have z2:=cellq HZ.o 2 rfl;have z3:=cellq HZ.o 3 rfl;go_wp2;generalize (((w1.setCell ⟨cb,0,none⟩ (.int .i64 0)).setCell ⟨cb,1,none⟩ (.slice none 0 0)).setCell ⟨cb,2,none⟩ (.int .i64 0)).setCell ⟨cb,3,none⟩ (.slice none 0 0)=w9 at *;have g0:=cellq HP.o.1 0 rfl;have g1:=cellq HP.o.1 1 rfl;have g2:=cellq HP.o.1 2 rfl;have g3:=cellq HP.o.1 3 rfl;exact bodyPost_ret (v:=.tuple #[.agg #[.int .i64 0,.slice none 0 0,.int .i64 0,.slice none 0 0],.bool false]) (by simp [results,Tryz.results20,go_sem,g0,g1,g2,g3]) rfl ⟨.slice none 0 0,⟨0,[],0,[]⟩,false,rfl,IRow.nil _ _,rfl,.inr ⟨HEx.o,rfl,rfl⟩,HX.o.own HP.o.2 (fun k e=>by rw [show k=cb from e]; exact HLo.o)⟩
 ·by_cases hr1:(m:Int)<=row
  ·have HEx:=bH (show ¬ (0<=row/\row<p.rows.length/\validB p=true) from fun h=>by have:=HM.o; omega);clear p0;have HP:=bH (cut_put HZ.o (.int .i64 0) (.slice none 0 0) (.int .i64 0) (.slice none 0 0));have y0:=free_of_cells HZ.o;have z0:=cellq HZ.o 0 rfl;have z1:=cellq HZ.o 1 rfl;have z2:=cellq HZ.o 2 rfl;have z3:=cellq HZ.o 3 rfl;go_wp2;generalize (((w1.setCell ⟨cb,0,none⟩ (.int .i64 0)).setCell ⟨cb,1,none⟩ (.slice none 0 0)).setCell ⟨cb,2,none⟩ (.int .i64 0)).setCell ⟨cb,3,none⟩ (.slice none 0 0)=w9 at *;have g0:=cellq HP.o.1 0 rfl;have g1:=cellq HP.o.1 1 rfl;have g2:=cellq HP.o.1 2 rfl;have g3:=cellq HP.o.1 3 rfl;exact bodyPost_ret (v:=.tuple #[.agg #[.int .i64 0,.slice none 0 0,.int .i64 0,.slice none 0 0],.bool false]) (by simp [results,Tryz.results20,go_sem,g0,g1,g2,g3]) rfl ⟨.slice none 0 0,⟨0,[],0,[]⟩,false,rfl,IRow.nil _ _,rfl,.inr ⟨HEx.o,rfl,rfl⟩,HX.o.own HP.o.2 (fun k e=>by rw [show k=cb from e]; exact HLo.o)⟩
  ·obtain ⟨i,rfl⟩:∃ i:Nat,row=i:=⟨row.toNat,by omega⟩;have him:i<m:=(by omega);go_wp2_with fail;refine (HVa.o w1 HX.o).mono ?_;rintro r2 w2 ⟨rfl,hx2⟩;replace HB:=bH (blk_keep HB.o hx2);replace HZ:=bH (blk_keep HZ.o hx2);replace HX:=bH (HX.o.trans hx2);clear p0 p1 hx2 HVa;cases VB with
   | false =>
    have HEx:=bH (show ¬ (0<=(i:Int)/\(i:Int)<p.rows.length/\validB p=true) from fun h=>by rw [HVB.o] at h; cases h.2.2);have HP:=bH (cut_put HZ.o (.int .i64 0) (.slice none 0 0) (.int .i64 0) (.slice none 0 0));have y0:=free_of_cells HZ.o;have z0:=cellq HZ.o 0 rfl;have z1:=cellq HZ.o 1 rfl;have z2:=cellq HZ.o 2 rfl;have z3:=cellq HZ.o 3 rfl;go_wp2;generalize (((w2.setCell ⟨cb,0,none⟩ (.int .i64 0)).setCell ⟨cb,1,none⟩ (.slice none 0 0)).setCell ⟨cb,2,none⟩ (.int .i64 0)).setCell ⟨cb,3,none⟩ (.slice none 0 0)=w9 at *;have g0:=cellq HP.o.1 0 rfl;have g1:=cellq HP.o.1 1 rfl;have g2:=cellq HP.o.1 2 rfl;have g3:=cellq HP.o.1 3 rfl;exact bodyPost_ret (v:=.tuple #[.agg #[.int .i64 0,.slice none 0 0,.int .i64 0,.slice none 0 0],.bool false]) (by simp [results,Tryz.results20,go_sem,g0,g1,g2,g3]) rfl ⟨.slice none 0 0,⟨0,[],0,[]⟩,false,rfl,IRow.nil _ _,rfl,.inr ⟨HEx.o,rfl,rfl⟩,HX.o.own HP.o.2 (fun k e=>by rw [show k=cb from e]; exact HLo.o)⟩
   | true =>
    have HEx:=bH (show 0<=(i:Int)/\(i:Int)<p.rows.length/\validB p=true from ⟨by omega,by rw [HM.o]; omega,HVB.o⟩);have HMx:=bH (HMi.o w2 HX.o i him rfl);have p0:=cellq HB.o 0 rfl;have p1:=cellq HB.o 1 rfl;go_wp2_with fail;refine HMx.o.mono ?_;rintro r3 w3 ⟨sv,c,ok,rfl,hir,hmul,hcov,hx3⟩;have HR:=bH (bI hir (bI hmul (bI hcov (HX.o.trans hx3))));replace HZ:=bH (blk_keep HZ.o hx3);have HLs:=bH (Nat.le_trans HX.o.size (Nat.le_refl _));clear p0 p1 hir hmul hcov hx3 HMx HB;obtain ⟨kd,hkd⟩:∃ q,c.kind=q:=⟨_,rfl⟩;obtain ⟨cr,hcr⟩:∃ q,c.row=q:=⟨_,rfl⟩;rw [hkd,hcr];have HK:=bH (bI hkd hcr);clear hkd hcr;have y0:=free_of_cells HZ.o;have z0:=cellq HZ.o 0 rfl;have z1:=cellq HZ.o 1 rfl;have z2:=cellq HZ.o 2 rfl;have z3:=cellq HZ.o 3 rfl;have HP:=bH (cut_put HZ.o (.int .i64 kd) (.slice none 0 0) (.int .i64 cr) sv);have HOw:=bH (show IRow _ w.heap.size sv c.vars from own_down (ownsRow_ext HR.o.1 HP.o.2 (fun g hg e=>typ_ne' (own_ty HR.o.1 g hg) ⟨_,HZ.o⟩ (by decide) e)) HLs.o);have HXf:=bH (HR.o.2.2.2.own HP.o.2 (fun k e=>by rw [show k=cb from e]; exact HLo.o));obtain ⟨so,sn,sc,rfl⟩:∃ so sn sc,sv=.slice so sn sc:=(by obtain ⟨a,b,h,-⟩:=HR.o.1.inz.shape; exact ⟨_,_,_,h⟩);go_wp2;generalize (((w3.setCell ⟨cb,0,none⟩ (.int .i64 kd)).setCell ⟨cb,1,none⟩ (.slice none 0 0)).setCell ⟨cb,2,none⟩ (.int .i64 cr)).setCell ⟨cb,3,none⟩ (.slice so sn sc)=w9 at *;have g0:=cellq HP.o.1 0 rfl;have g1:=cellq HP.o.1 1 rfl;have g2:=cellq HP.o.1 2 rfl;have g3:=cellq HP.o.1 3 rfl;exact bodyPost_ret (v:=.tuple #[.agg #[.int .i64 kd,.slice none 0 0,.int .i64 cr,.slice so sn sc],.bool ok]) (by simp [results,Tryz.results20,go_sem,g0,g1,g2,g3]) rfl ⟨_,c,ok,by rw [HK.o.1,HK.o.2],HOw.o,HR.o.2.1,.inl ⟨HEx.o,HR.o.2.2.1⟩,HXf.o⟩
def breaksP (p:ProgV) (c:CutV) (x:List Rat):Bool:=decide ((dervP p c).2=0) && (decide ((dervP p c).1.kind=1) && decide ((dotQ (dervP p c).1.terms x - ((dervP p c).1.bound:Rat)).num.sign<0) || decide ((dervP p c).1.kind=0) && decide (0<(dotQ (dervP p c).1.terms x - ((dervP p c).1.bound:Rat)).num.sign))
theorem limB_inR {z:Int} (h:limB z=true):InR z:=by
 unfold limB at h;simp only [Bool.and_eq_true,decide_eq_true_eq] at h;exact ⟨by omega,by omega⟩
theorem derv_small {p:ProgV} {c:CutV} (hs:CSmall p c):InR (dervP p c).1.bound/\(dervP p c).1.terms.length<=1000:=by
 have hz:InR row0.bound/\row0.terms.length<=1000:=⟨⟨by decide,by decide⟩,by decide⟩;unfold dervP;split
 ·split
  ·unfold roundP;split
   ·split
    ·rename_i h;unfold roundOk at h;simp only [Bool.and_eq_true] at h;exact ⟨limB_inR h.2,Nat.le_trans (termsTo_len _ _) (by have:=hs.vars; omega)⟩
    ·exact hz
   ·exact hz
  ·split
   ·refine ⟨?_,?_⟩
    ·have:=hs.cut;show (-9223372036854775808:Int)<=(c.vars.length:Int) - 1/\(c.vars.length:Int) - 1<=9223372036854775807;omega
    ·show (onesT c.vars).length<=1000;unfold onesT;rw [List.length_map]; exact hs.cut
   ·exact hz
 ·exact hz
theorem breaks_any (w:World) (pv cv xv:Value) (p:ProgV) (c:CutV) (x:List Rat) (L:Nat) (hp:IsPrg w pv p) (hc:IsCut w cv c 10) (hval:validB p=true) (hs:CSmall p c) (hx:Rats w xv x L) (h1:1<=L) (hL:L<=100) :
  Calls Tryz.prog 48 #[pv,cv,xv] w (BoolPost w (breaksP p c x)):=by
 have HDv:=bH (fun W (hW:XF w W)=>derive_any W pv cv p c (hp.keep hW) (hc.keep hW) hval hs);have HX:=bH hx;have HSm:=bH (derv_small hs);have HBr:=bH (show breaksP p c x=(decide ((dervP p c).2=0) && (decide ((dervP p c).1.kind=1) && decide ((dotQ (dervP p c).1.terms x - ((dervP p c).1.bound:Rat)).num.sign<0) || decide ((dervP p c).1.kind=0) && decide (0<(dotQ (dervP p c).1.terms x - ((dervP p c).1.bound:Rat)).num.sign))) from rfl);obtain ⟨vv,rv,rfl,hpv,hpr⟩:=hp;obtain ⟨vo,vc,rfl,-,-,-⟩:=hpv.shape;obtain ⟨ro,rc,rfl,-,-,-⟩:=hpr.shape;obtain ⟨yv,sv,rfl,hy,hv⟩:=hc;obtain ⟨yo,yc,rfl,-,-,-⟩:=hy.shape;obtain ⟨so,sc,rfl,hsm⟩:=hv.shape;obtain ⟨xo,xc,rfl,-,-,-⟩:=hx.shape;obtain ⟨BR,hBR⟩:∃ b,breaksP p c x=b:=⟨_,rfl⟩;rw [hBR] at HBr ⊢;obtain ⟨kd,hkd⟩:∃ x,c.kind=x:=⟨_,rfl⟩;obtain ⟨crow,hcr⟩:∃ x,c.row=x:=⟨_,rfl⟩;obtain ⟨n,hn⟩:∃ x,p.vars.length=x:=⟨_,rfl⟩;obtain ⟨m,hm⟩:∃ x,p.rows.length=x:=⟨_,rfl⟩;obtain ⟨yn,hyn⟩:∃ x,c.mul.length=x:=⟨_,rfl⟩;obtain ⟨sl,hsl⟩:∃ x,c.vars.length=x:=⟨_,rfl⟩;obtain ⟨xn,hxn⟩:∃ y,x.length=y:=⟨_,rfl⟩;rw [hkd,hcr,hn,hm,hyn,hsl] at HDv;rw [hkd,hcr,hn,hm,hyn,hsl,hxn];rw [hxn] at HX;obtain ⟨re,hre⟩:∃ re,dervP p c=re:=⟨_,rfl⟩;rw [hre] at HDv HSm HBr;obtain ⟨⟨nm,gr,rk,ts,bd⟩,er⟩:=re;clear hpv hpr hy hv hx hkd hcr hn hm hyn hsl hxn hsm hBR hre hs hval;have hxa:=(Ext.refl (fun _=>False) w).alloc (.cells #[.slice vo n vc,.slice ro m rc] 25);have hxb:=(Ext.refl (fun _=>False) (w.alloc (.cells #[.slice vo n vc,.slice ro m rc] 25))).alloc (.cells #[.int .i64 kd,.slice yo yn yc,.int .i64 crow,.slice so sl sc] 29);have HXa:=bH (hxa.trans hxb);clear hxa hxb;go_enter Tryz.func48,Tryz.ntmps48;go_wp2_with fail;refine (HDv.o _ HXa.o).mono ?_;rintro r1 w1 ⟨tv,rfl,ht,hx1,-⟩;obtain ⟨tao,tac,rfl,-⟩:=ht.shape;have HT:=bH (bI ht (HXa.o.trans hx1));clear ht hx1 HDv;obtain ⟨tl,htl⟩:∃ q,ts.length=q:=⟨_,rfl⟩;have HTl:=bH htl;dsimp only at HBr HSm HT ⊢;rw [htl] at HT ⊢;clear htl;have hxr:=(Ext.refl (fun _=>False) w1).alloc (.cells #[.string nm,.int .i64 gr,.int .i64 rk,.slice tao tl tac,.int .i64 bd] 35);have HRb:=bH (blk_alloc_at w1 (.cells #[.string nm,.int .i64 gr,.int .i64 rk,.slice tao tl tac,.int .i64 bd] 35));replace HT:=bH (bI (HT.o.1.keep hxr) (HT.o.2.trans hxr));clear hxr;by_cases he:er=0
 ·subst he;have HBe:=bH (show BR=(decide (rk=1) && decide ((dotQ ts x - (bd:Rat)).num.sign<0) || decide (rk=0) && decide (0<(dotQ ts x - (bd:Rat)).num.sign)) from by rw [HBr.o,decide_eq_true (show (0:Int)=0 from rfl),Bool.true_and]);clear HBr;go_upto_region 4 with fail;generalize w1.alloc (.cells #[.string nm,.int .i64 gr,.int .i64 rk,.slice tao tl tac,.int .i64 bd] 35)=w3 at *;generalize w1.heap.size=rwb at *;have HDo:=bH (fun W (hW:XF w3 W)=>Dot_any W _ _ ts x L (HT.o.1.keep hW) (HX.o.keep (HT.o.2.trans hW)) h1 (by
   have h:=HSm.o.2;have:=Nat.mul_le_mul h (show L+3<=103 by omega);omega))
  have HDs:=bH (dot_sz (T:=1000) (fun k hk=>HT.o.1.ok k hk) (fun i=>HX.o.sz h1 i) HSm.o.2);have HF:=bH (fun W=>rfrom_any W bd HSm.o.1.1 HSm.o.1.2);have HC:=bH (fun W u u' (hu:IsRat W u (dotQ ts x)) (hu':IsRat W u' ((bd:Int):Rat))=>rcmp_any W u u' (dotQ ts x) _ (1+1000*(L+3)+2) (hu.reads (HDs.o.mono (by omega))) (hu'.reads ((Sz.int HSm.o.1).mono (by omega))) (by omega) (by omega));obtain ⟨S,hS⟩:∃ S,(dotQ ts x - (bd:Rat)).num.sign=S:=⟨_,rfl⟩;rw [hS] at HC HBe;generalize dotQ ts x=D at *;have HBq:=bH (rfl:(bd:Rat)=(bd:Rat));clear HSm HDs hS;have r3:=cq (cellq HRb.o 3 rfl);have r4:=cq (cellq HRb.o 4 rfl);refine wp_region_held_drew (S:=(XF w3)) (by kernel_rfl) ((Ext.refl _ w3).drew) (fun hHeld=>?_);refine ht 0 (h:=(ht 1 (h:=(ht 2 (h:=(ht 4 (h:=(ht 5 (h:=?_)))))))));(try go_frame);refine hst 3 (h:=fun K hK=>?_);(go_simp; go_at_call 84; (with_reducible refine (HDo.o _ hHeld).mono ?_); rintro q1 w11 ⟨v11,rfl,h11,hx11⟩; have hX1:=hHeld.trans hx11; have H11:=bH h11);refine hK.o _ _ (hX1) (fun hHeld=>?_);clear hK K;(try go_frame);refine hst 6 (h:=fun K hK=>?_);(go_simp; go_at_call 85; (with_reducible refine (HF.o w11).mono ?_); rintro q2 w12 ⟨v12,rfl,h12,hx12⟩; have hX2:=hX1.trans hx12; have H12:=bH (bI (H11.o.keep hx12) h12));refine hK.o _ _ (hX2) (fun hHeld=>?_);clear hK K;(try go_frame);refine hst 7 (h:=fun K hK=>?_);(go_simp; go_at_call 74; (with_reducible refine (HC.o w12 v11 v12 H12.o.1 H12.o.2).mono ?_); rintro q3 w13 ⟨rfl,hx13⟩; have hX3:=hX2.trans hx13);refine hK.o _ _ (hX3) (fun hHeld=>?_);clear hK K;(try go_frame);refine ht 8 (h:=?_);(try go_frame);refine wpAnyH_done (by kernel_rfl) ?_ _;have HXe:=bH (HT.o.2.trans hX3);have HRe:=bH (blk_keep HRb.o hX3);clear r3 r4 hX1 hX2 hX3 hx11 hx12 hx13 HDo HF HC H11 H12 HT HX hHeld;have r2:=cellq HRe.o 2 rfl;obtain ⟨Nn,hNn⟩:∃ b,decide (S<0)=b:=⟨_,rfl⟩;obtain ⟨Np,hNp⟩:∃ b,decide (0<S)=b:=⟨_,rfl⟩;rw [hNn,hNp] at HBe;by_cases hk1:rk=1
  ·subst hk1;have HBf:=bH (show BR=Nn from by rw [HBe.o]; simp);cases Nn <;> (go_wp2; go_ret; exact ⟨by rw [HBf.o]; rfl,HXe.o⟩)
  ·by_cases hk0:rk=0
   ·subst hk0;have HBf:=bH (show BR=Np from by rw [HBe.o]; simp);cases Np <;> (go_wp2; go_ret; exact ⟨by rw [HBf.o]; rfl,HXe.o⟩)
   ·have HBf:=bH (show BR=false from by rw [HBe.o,decide_eq_false hk1,decide_eq_false hk0]; rfl);have k1:(rk == 1)=false:=(by simpa using hk1);have k2:decide (rk=1)=false:=decide_eq_false hk1;have k3:(rk == 0)=false:=(by simpa using hk0);have k4:decide (rk=0)=false:=decide_eq_false hk0;go_wp2;go_ret;exact ⟨by rw [HBf.o]; rfl,HXe.o⟩
 ·have HBe:=bH (show BR=false from by rw [HBr.o,decide_eq_false he]; rfl);have k1:(er == 0)=false:=(by simpa using he);have k2:decide (er=0)=false:=decide_eq_false he;go_wp2;go_ret;exact ⟨by rw [HBe.o]; rfl,HT.o.2⟩
theorem reducedN_any (w:World) (v v':Value) (z:Int) (y L:Nat) (h:Rint w v z L) (h':Rint w v' (-(y:Int)) L) (hy:0<y) (hL:L<=33554432) :
  Calls Tryz.prog 153 #[v,v'] w (RatPost w (mkRat (-z) y)):=by
 have HSg:=bH (fun W (hW:XF w W)=>isign_any W v' _ L (h'.keep hW) (by omega));rw [show (-(y:Int)).sign = -1 from Int.sign_eq_neg_one_of_neg (by omega)] at HSg;have HN1:=bH (fun W (hW:XF w W)=>ineg_any W v z L (h.keep hW) (by omega));have HN2:=bH (fun W (hW:XF w W)=>ineg_any W v' _ L (h'.keep hW) (by omega));rw [Int.neg_neg] at HN2;obtain ⟨hq1,hq2⟩:=red_num (z:=-z) hy;have hzl:(dg (-z).natAbs).length<=L:=by rw [Int.natAbs_neg]; exact h.len
 have hyl:(dg y).length<=L:=by have:=h'.len; rwa [Int.natAbs_neg,Int.natAbs_natCast] at this
 have hg:0<Nat.gcd (-z).natAbs y:=Nat.gcd_pos_of_pos_right _ hy;have hgl:(dg (Nat.gcd (-z).natAbs y)).length<=L:=Nat.le_trans (dg_mono (Nat.gcd_le_right _ hy)) hyl;have HQ1:=bH (fun W u (hu0:IsInt W u (-z)) ao n c (hu:IsNat W (.slice ao n c) (Nat.gcd (-z).natAbs y))=>quo_any W u (.agg #[.bool false,.slice ao n c]) (-z) ((Nat.gcd (-z).natAbs y:Nat):Int) L (hu0.reads hzl) ⟨false,_,_,rfl,hu,hgl,by rw [vl_dg]; rfl⟩ (by omega) hL);have HQ2:=bH (fun W u (hu0:IsInt W u (y:Int)) ao n c (hu:IsNat W (.slice ao n c) (Nat.gcd (-z).natAbs y))=>quo_any W u (.agg #[.bool false,.slice ao n c]) y ((Nat.gcd (-z).natAbs y:Nat):Int) L (hu0.reads (by rw [Int.natAbs_natCast]; exact hyl)) ⟨false,_,_,rfl,hu,hgl,by rw [vl_dg]; rfl⟩ (by omega) hL);unfold QuoPost at HQ1 HQ2;simp only [hq1,hq2] at HQ1 HQ2;have hdl:(dg (mkRat (-z) y).den).length<=L:=by
  have:(mkRat (-z) y).den<=y:=by
   have e:=hq2;rw [tdiv_nat] at e;have:=Nat.div_le_self y (Nat.gcd (-z).natAbs y);omega
  exact Nat.le_trans (dg_mono this) hyl
 have HC:=bH (fun W u u' (h1:IsNat W u (mkRat (-z) y).den) (h2:IsNat W u' 1)=>cmp_any W u u' _ _ h1 h2 (by omega) (Nat.le_trans (dg_two (n:=1) (by decide)).1 (by decide)));simp only [vl_dg] at HC;have hF:∀ W,Calls Tryz.prog 155 #[.int .u64 1] W (NatPost W 1):=fun W=>from_any W 1 (by decide);have HF:=bH hF;clear hF;obtain ⟨neg,ao,m,c,l,rfl,-,-,-⟩:=h.open;obtain ⟨neg',ao',m',c',l',rfl,-,-,-⟩:=h'.open;have HG:=bH (fun W u u' (h1:IsNat W u (-z).natAbs) (h2:IsNat W u' y)=>gcd_any W u u' _ _ h1 h2 (by omega) (by omega));simp only [vl_dg] at HG;clear hq1 hq2 hg hgl hdl h h' hzl hyl;generalize Nat.gcd (-z).natAbs y=g at *;generalize mkRat (-z) y=q at *;go_enter Tryz.func153,Tryz.ntmps153;go_upto_region 0 with fail;go_cut [2,3,4] (fun v1 v2 v3 wx=>∃ b b' r,v1=.pointer (some ⟨b,0,none⟩)/\v2=.pointer (some ⟨b',0,none⟩)/\v3=.pointer (some ⟨r,0,none⟩)/\BoxI wx b neg (.slice ao m c)/\BoxI wx b' neg' (.slice ao' m' c')/\BoxR wx r false (.slice none 0 0) (.slice none 0 0)/\w.heap.size<=b/\b<b'/\b'<r/\XF w wx);case first =>
  go_wp2;go_meet;exact ⟨_,_,_,rfl,rfl,rfl,((boxI_new rfl neg ao m c).alloc _).alloc _,(boxI_new (by simp) neg' ao' m' c').alloc _,boxR_new (by simp) false none 0 0 none 0 0,(by omega),(by simp),(by simp),(((Ext.refl _ w).alloc _).alloc _).alloc _⟩
 case rest =>
  obtain ⟨b,b',r,rfl,rfl,rfl,hb,hb',hrb,hlb,hbb,hbr,hx⟩:=hcut;have hle:w.heap.size<=r:=(by omega);have hne:b≠b'/\b≠r/\b'≠r:=(by omega);obtain ⟨e0,e1,_⟩:=hb'.facts;have HB:=bH (bI hb (bI hb' (bI hrb hx)));clear hb hb' hrb hx;go_wp2_with fail;refine (HSg.o _ HB.o.2.2.2).mono ?_;rintro r1 w1 ⟨rfl,hx1⟩;obtain ⟨x0,x1,_⟩:=(HB.o.1.ext hx1 id).facts;obtain ⟨y0,y1,_⟩:=(HB.o.2.1.ext hx1 id).facts;replace HN1:=bH (fun W (hW:XF w1 W)=>HN1.o W ((HB.o.2.2.2.trans hx1).trans hW));replace HN2:=bH (fun W (hW:XF w1 W)=>HN2.o W ((HB.o.2.2.2.trans hx1).trans hW));clear e0 e1;go_upto_region 2 with fail;replace x0:=cq x0;replace x1:=cq x1;replace y0:=cq y0;replace y1:=cq y1;refine lbegin 4 (XF w1) (by kernel_rfl) ((Ext.refl _ w1).drew) (fun hHeld=>?_);refine lt 0 (h:=(lt 2 (h:=?_)));(try go_frame);refine lst 1 (h:=fun K hK=>?_);(go_simp; go_at_call 165; (with_reducible refine (HN1.o _ hHeld).mono ?_); rintro q1 w11 ⟨v11,rfl,h11,hx11⟩; have hX1:=hHeld.trans hx11; obtain ⟨n11,a11,l11,c11,rfl⟩:=h11.shape);refine hK.o _ _ (hX1) (fun hHeld=>?_);clear hK K;(try go_frame);refine lst 3 (h:=fun K hK=>?_);(go_simp; go_at_call 165; (with_reducible refine (HN2.o _ hX1).mono ?_); rintro q2 w12 ⟨v12,rfl,h12,hx12⟩; have hX2:=hX1.trans hx12; obtain ⟨n12,a12,l12,c12,rfl⟩:=h12.shape);refine hK.o _ _ (hX2) (fun hHeld=>?_);clear hK K;(try go_frame);have hb2:=HB.o.1.ext (hx1.trans hX2) id;have hb2':=HB.o.2.1.ext (hx1.trans hX2) id;obtain ⟨d0,d1,d2,d3⟩:=hb2.facts;obtain ⟨f0,f1,f2,f3⟩:=hb2'.facts;refine ll 4 (h:=fun K hK=>?_);go_simp;refine hK.o _ _ ?_;clear hK K;(try go_frame);refine ll 5 (h:=fun K hK=>?_);go_simp;refine hK.o _ _ ?_;clear hK K;(try go_frame);refine ldone (by kernel_rfl) ?_ _;have hp1:=hb2.put (neg:=n11) (no_int a11 l11 c11);have hp2:=(hb2'.ext hp1.ext (fun e=>hne.1 e.symm)).put (neg:=n12) (no_int a12 l12 c12);have hi1:=hp2.int (hp1.int (h11.keep hx12));have hi2:=hp2.int (hp1.int h12);have HZ:=bH (bI (hp1.box.ext hp2.ext hne.1) (bI hp2.box (bI (((HB.o.2.2.1.ext (hx1.trans hX2) id).ext hp1.ext (fun e=>hne.2.1 e.symm)).ext hp2.ext (fun e=>hne.2.2 e.symm)) (((HB.o.2.2.2.trans (hx1.trans hX2)).own hp1.ext (fun k e=>by omega)).own hp2.ext (fun k e=>by omega)))));have HI:=bH (bI hi1 hi2);clear hp1 hp2 hi1 hi2 hb2 hb2' d0 d1 d2 d3 f0 f1 f2 f3 h11 h12 hx11 hx12 hX1 hX2 hx1 x0 x1 y0 y1 hHeld HN1 HN2 HB;go_upto_region 3 with fail;generalize (((w12.setCell ⟨b,0,none⟩ (.bool n11)).setCell ⟨b,1,none⟩ (.slice a11 l11 c11)).setCell ⟨b',0,none⟩ (.bool n12)).setCell ⟨b',1,none⟩ (.slice a12 l12 c12)=w1z at *;have hm1:IsNat w1z (.slice a11 l11 c11) (-z).natAbs:=by
   obtain ⟨m0,h1,h2⟩:=HI.o.1;cases h1;exact h2
  have hm2:IsNat w1z (.slice a12 l12 c12) y:=by
   obtain ⟨m0,h1,h2⟩:=HI.o.2;cases h1;rw [Int.natAbs_natCast] at h2;exact h2
  have HX1:=bH (Ext.refl (fun _=>False) w1z);obtain ⟨c10,c11',_⟩:=HZ.o.1.facts;obtain ⟨e10,e11,_⟩:=HZ.o.2.1.facts;have HG1:=bH (HG.o w1z _ _ hm1 hm2);clear hm1 hm2;go_wp2_with fail;refine HG1.o.mono ?_;rintro r2 w2 ⟨vg,rfl,hg2,hx2⟩;obtain ⟨aog,cg,rfl⟩:=hg2.shape;generalize (dg g).length=ng at *;clear c10 c11' e10 e11 HG1;have hbg:=boxI_new (W:=w2) rfl false aog ng cg;have hx23:=(Ext.refl (fun _=>False) w2).alloc (.cells #[.bool false,.slice aog ng cg] 62);have hX3:=(HX1.o.trans hx2).trans hx23;go_upto_region 4 with fail;obtain ⟨bg,hbge⟩:∃ bg,w2.heap.size=bg:=⟨_,rfl⟩;rw [hbge] at hbg ⊢;generalize w2.alloc (.cells #[.bool false,.slice aog ng cg] 62)=w3 at *;obtain ⟨c0,c1,_⟩:=(HZ.o.1.ext hX3 id).facts;obtain ⟨g0,g1,_⟩:=hbg.facts;have HQ13:=bH (HQ1.o w3 _ (HI.o.1.keep hX3) aog ng cg (hg2.keep hx23));have HX3:=bH (bI hX3 (bI hbg (hg2.keep hx23)));clear hg2 hx2 hX3 hbg hx23 hbge HX1;go_wp2_with fail;refine HQ13.o.mono ?_;rintro r4 w4 ⟨vn,vs,rfl,hn4,hs4,hx4⟩;obtain ⟨nn,aon,mn,cn,rfl⟩:=hn4.shape;obtain ⟨ns,aos,ms,cs,rfl⟩:=hs4.shape;have hX4:=HX3.o.1.trans hx4;clear c0 c1 g0 g1;go_upto_region 5 with fail;obtain ⟨bn,hbne⟩:∃ bn,w4.heap.size=bn:=⟨_,rfl⟩;have hbn:=(boxI_new (W:=w4) rfl nn aon mn cn).alloc (.cells #[.bool ns,.slice aos ms cs] 62);have hx45:=((Ext.refl (fun _=>False) w4).alloc (.cells #[.bool nn,.slice aon mn cn] 62)).alloc (.cells #[.bool ns,.slice aos ms cs] 62);rw [hbne] at hbn ⊢;generalize (w4.alloc (.cells #[.bool nn,.slice aon mn cn] 62)).alloc (.cells #[.bool ns,.slice aos ms cs] 62)=w5 at *;have hX5:=hX4.trans hx45;obtain ⟨e0,e1,_⟩:=(HZ.o.2.1.ext hX5 id).facts;obtain ⟨g0,g1,_⟩:=(HX3.o.2.1.ext (hx4.trans hx45) id).facts;have HQ25:=bH (HQ2.o w5 _ (HI.o.2.keep hX5) aog ng cg (HX3.o.2.2.keep (hx4.trans hx45)));have HX5:=bH (bI hX5 (bI (hn4.keep hx45) hbn));clear hX4 hx4 hX5 hx45 hbn hn4 hs4 hbne;go_wp2_with fail;refine HQ25.o.mono ?_;rintro r6 w6 ⟨vd,vt,rfl,hd6,ht6,hx6⟩;obtain ⟨nd,aod,md,cd,rfl⟩:=hd6.shape;obtain ⟨nt,aot,mt,ct,rfl⟩:=ht6.shape;have hX6:=HX5.o.1.trans hx6;clear e0 e1 g0 g1;go_upto_region 6 with fail;obtain ⟨bd,hbde⟩:∃ bd,w6.heap.size=bd:=⟨_,rfl⟩;have hbd:=(boxI_new (W:=w6) rfl nd aod md cd).alloc (.cells #[.bool nt,.slice aot mt ct] 62);have hx67:=((Ext.refl (fun _=>False) w6).alloc (.cells #[.bool nd,.slice aod md cd] 62)).alloc (.cells #[.bool nt,.slice aot mt ct] 62);rw [hbde] at hbd ⊢;generalize (w6.alloc (.cells #[.bool nd,.slice aod md cd] 62)).alloc (.cells #[.bool nt,.slice aot mt ct] 62)=w7 at *;have hX7:=hX6.trans hx67;have hnd:IsNat w7 (.slice aod md cd) q.den:=by
   obtain ⟨m0,h1,h2⟩:=hd6.keep hx67;cases h1;rw [Int.natAbs_natCast] at h2;exact h2
  have hS:S1 bd (.slice aod md cd) w7:=hbd.facts.2.1;have HX7:=bH (bI hX7 (bI (HX5.o.2.1.keep (hx6.trans hx67)) (bI (HX5.o.2.2.ext (hx6.trans hx67) id) (bI hbd hnd))));clear hX6 hx6 hX7 hx67 hbd hd6 ht6 hbde hnd;go_region_held3 (S1 bd (.slice aod md cd))
   (repeat (first | (with_reducible assumption) | (with_reducible refine S1.drew ?_)))
   (first
    | (go_at_call 155; (with_reducible refine (HF.o _).mono ?_); rintro r8 w8 ⟨v8,rfl,h8,hx8⟩; have hx78:=(Ext.refl (fun _=>False) w7).drew.trans hx8; have hK8:S1 bd (.slice aod md cd) w8:=(HX7.o.2.2.2.1.ext hx78 id).facts.2.1; have hC8:=HC.o w8 _ _ (HX7.o.2.2.2.2.keep hx78) h8)
    | (go_at_call 172; (with_reducible refine hC8.mono ?_); rintro r9 w' ⟨rfl,hw⟩; obtain rfl:=hw.symm))
  have hX8:=HX7.o.1.trans hx78;have hr8:=HZ.o.2.2.1.ext hX8 id;obtain ⟨d0,d1,d2,d3,d4,d5⟩:=hr8.facts;obtain ⟨c0,c1,_⟩:=(HX7.o.2.2.1.ext hx78 id).facts;have hn8:=HX7.o.2.1.keep hx78;have hd8:=HX7.o.2.2.2.2.keep hx78;have hXw:=HZ.o.2.2.2.trans hX8;have hc1:=cmpN_one q.den;generalize cmpN q.den 1=cq at *;by_cases h1:q.den=1
  ·have hcq:=hc1.2 h1;subst hcq;have hp:=hr8.put (neg:=nn) (no_int aon mn cn) (no_int none 0 0);have hR0:IsRat w8 (.agg #[.bool nn,.slice aon mn cn,.slice none 0 0]) q:=IsRat.mk hn8 (by rw [h1]; exact IsNat.nil w8);have HR:=bH (bI (hp.rat hR0) (bI (hXw.own hp.ext (fun k e=>by omega)) hp.box));clear hp hR0 hn8 hd8 hr8 hXw hX8 hx8 hx78 h8 hC8 hK8 hS hc1 h1;go_wp2;generalize ((w8.setCell ⟨r,0,none⟩ (.bool nn)).setCell ⟨r,1,none⟩ (.slice aon mn cn)).setCell ⟨r,2,none⟩ (.slice none 0 0)=w9 at *;obtain ⟨g0,g1,g2,_⟩:=HR.o.2.2.facts;exact bodyPost_ret (v:=.agg #[.bool nn,.slice aon mn cn,.slice none 0 0]) (by simp [results,Tryz.results153,go_sem,g0,g1,g2]) rfl ⟨_,rfl,HR.o.1,HR.o.2.1⟩
  ·have hcq:¬ cq=0:=fun e=>h1 (hc1.1 e);have hp:=hr8.put (neg:=nn) (no_int aon mn cn) (no_int aod md cd);have hR0:IsRat w8 (.agg #[.bool nn,.slice aon mn cn,.slice aod md cd]) q:=IsRat.mk hn8 (by unfold dw; rw [if_neg h1]; exact hd8);have HR:=bH (bI (hp.rat hR0) (bI (hXw.own hp.ext (fun k e=>by omega)) hp.box));clear hp hR0 hn8 hd8 hr8 hXw hX8 hx8 hx78 h8 hC8 hS hc1 h1;have hcb:(cq == 0)=false:=(by simpa using hcq);go_wp2;generalize ((w8.setCell ⟨r,0,none⟩ (.bool nn)).setCell ⟨r,1,none⟩ (.slice aon mn cn)).setCell ⟨r,2,none⟩ (.slice aod md cd)=w9 at *;obtain ⟨g0,g1,g2,_⟩:=HR.o.2.2.facts;exact bodyPost_ret (v:=.agg #[.bool nn,.slice aon mn cn,.slice aod md cd]) (by simp [results,Tryz.results153,go_sem,g0,g1,g2]) rfl ⟨_,rfl,HR.o.1,HR.o.2.1⟩
theorem reducedQ_any (w:World) (v v':Value) (z y:Int) (L:Nat) (h:Rint w v z L) (h':Rint w v' y L) (hy:y≠0) (hL:L<=33554432) :
  Calls Tryz.prog 153 #[v,v'] w (RatPost w ((z:Rat) / (y:Rat))):=by
 by_cases hp:0<y
 ·obtain ⟨n,rfl⟩:∃ n:Nat,y=n:=⟨y.toNat,by omega⟩;have:=reduced_any w v v' z n L h h' (by omega) hL;rw [Rat.mkRat_eq_div] at this;exact this
 ·obtain ⟨n,rfl⟩:∃ n:Nat,y = -(n:Int):=⟨(-y).toNat,by omega⟩;have:=reducedN_any w v v' z n L h h' (by omega) hL;rw [Rat.mkRat_eq_div] at this;have e:((-z:Int):Rat) / ((n:Nat):Rat)=(z:Rat) / ((-(n:Int):Int):Rat):=by
   rw [Rat.intCast_neg,Rat.intCast_neg,Rat.intCast_natCast];grind
  rw [e] at this;exact this
def QtPost (w:World) (q:Rat) (r:Ending) (w':World):Prop:=∃ v,r=.returned (.tuple #[v,.int .i64 0])/\IsRat w' v q/\XF w w'
theorem pmake_any (w:World) (v v':Value) (z y:Int) (L:Nat) (h:Rint w v z L) (h':Rint w v' y L) (hy:y≠0) (hL:L<=33554432) :
  Calls Tryz.prog 88 #[v,v'] w (QtPost w ((z:Rat) / (y:Rat))):=by
 have HC:=bH (fun W (hW:XF w W)=>reducedQ_any W v v' z y L (h.keep hW) (h'.keep hW) hy hL);have HS:=bH (fun W (hW:XF w W)=>isign_any W v' y L (h'.keep hW) (by omega));have hsg:y.sign≠0:=fun e=>hy (Int.sign_eq_zero_iff_zero.1 e);obtain ⟨n1,a1,l1,c1,rfl⟩:=h.shape;obtain ⟨n2,a2,l2,c2,rfl⟩:=h'.shape;clear h h';generalize y.sign=sg at *;generalize (z:Rat) / (y:Rat)=Q at *;obtain ⟨b0,b1,b2,hx⟩:=box3 w (.cells #[.bool n1,.slice a1 l1 c1] 62) (.cells #[.bool n2,.slice a2 l2 c2] 62) (.cells #[.bool false,.slice none 0 0,.slice none 0 0] 64);have HB:=bH (bI b0 (bI b1 (bI (boxR_of b2) hx)));clear b0 b1 b2 hx;go_enter Tryz.func88,Tryz.ntmps88;go_upto_region 1 with fail;generalize ((w.alloc (.cells #[.bool n1,.slice a1 l1 c1] 62)).alloc (.cells #[.bool n2,.slice a2 l2 c2] 62)).alloc (.cells #[.bool false,.slice none 0 0,.slice none 0 0] 64)=w1 at *;obtain ⟨pb,hpb⟩:∃ pb,w.heap.size=pb:=⟨_,rfl⟩;have hpw:w.heap.size<=pb:=Nat.le_of_eq hpb;rw [hpb] at HB ⊢;clear hpb;have e0:=cellq HB.o.2.1 0 rfl;have e1:=cellq HB.o.2.1 1 rfl;go_wp2_with fail;refine (HS.o _ HB.o.2.2.2).mono ?_;rintro r2 w2 ⟨rfl,hx2⟩;have HB2:=bH (bI (blk_keep HB.o.1 hx2) (bI (blk_keep HB.o.2.1 hx2) (bI (HB.o.2.2.1.keep hx2) (HB.o.2.2.2.trans hx2))));clear hx2 e0 e1 HB HS;have hsb:(sg == 0)=false:=by simpa using hsg
 have c0:=cellq HB2.o.1 0 rfl;have c1':=cellq HB2.o.1 1 rfl;have e0:=cellq HB2.o.2.1 0 rfl;have e1:=cellq HB2.o.2.1 1 rfl;go_wp2_with fail;refine (HC.o _ HB2.o.2.2.2).mono ?_;rintro q4 w14 ⟨v14,rfl,h14,hx14⟩;obtain ⟨ng,sa,sn,sc,ta,tn,tc,rfl⟩:=h14.shape;have hr4:=HB2.o.2.2.1.keep hx14;obtain ⟨d0,d1,d2,d3,d4,d5⟩:=hr4.facts;have hp:=hr4.put (neg:=ng) (no_int sa sn sc) (no_int ta tn tc);have HR:=bH (bI (hp.rat h14) (bI ((HB2.o.2.2.2.trans hx14).own hp.ext (fun k e=>by omega)) hp.box));clear hp hr4 h14 hx14;go_wp2;generalize ((w14.setCell ⟨pb+1+1,0,none⟩ (.bool ng)).setCell ⟨pb+1+1,1,none⟩ (.slice sa sn sc)).setCell ⟨pb+1+1,2,none⟩ (.slice ta tn tc)=w20 at *;obtain ⟨g0,g1,g2,_⟩:=HR.o.2.2.facts;exact bodyPost_ret (v:=.tuple #[.agg #[.bool ng,.slice sa sn sc,.slice ta tn tc],.int .i64 0]) (by simp [results,Tryz.results88,go_sem,g0,g1,g2]) rfl ⟨_,rfl,HR.o.1,HR.o.2.1⟩
theorem pfrac_any (w:World) (k d:Int) (hk:InR k) (hd:InR d) (h0:d≠0):Calls Tryz.prog 51 #[.int .i64 k,.int .i64 d] w (QtPost w ((k:Rat) / (d:Rat))):=by
 have hlk:(dg k.natAbs).length<=2:=by have h:=(Sz.int hk).1; rwa [Rat.num_intCast] at h
 have hld:(dg d.natAbs).length<=2:=by have h:=(Sz.int hd).1; rwa [Rat.num_intCast] at h
 have HFk:=bH (fun W=>ifrom_any W k hk.1 hk.2);have HFd:=bH (fun W=>ifrom_any W d hd.1 hd.2);have HM:=bH (fun W u v (hu:IsInt W u k) (hv:IsInt W v d)=>pmake_any W u v k d 2 (hu.reads hlk) (hv.reads hld) h0 (by decide));have HB:=bH (bI (boxR_new rfl false none 0 0 none 0 0 (W:=w)) ((Ext.refl (fun _=>False) w).alloc (.cells #[.bool false,.slice none 0 0,.slice none 0 0] 64)));clear hlk hld hk hd h0;go_enter Tryz.func51,Tryz.ntmps51;go_upto_region 1 with fail;generalize w.alloc (.cells #[.bool false,.slice none 0 0,.slice none 0 0] 64)=w0 at *;obtain ⟨rb,hrb⟩:∃ q,w.heap.size=q:=⟨_,rfl⟩;rw [hrb] at HB ⊢;have HRl:=bH (show w.heap.size<=rb from Nat.le_of_eq hrb);clear hrb;go_wp2_with (first | (go_at_call 89; (first | ((with_reducible refine (HFk.o w0).mono ?_); rintro q1 w1 ⟨v1,rfl,h1,hx1⟩) | ((with_reducible refine (HFd.o w1).mono ?_); rintro q2 w2 ⟨v2,rfl,h2,hx2⟩))) | (go_at_call 88; (with_reducible refine (HM.o w2 _ _ (h1.keep hx2) h2).mono ?_); rintro q3 w3 ⟨v3,rfl,h3,hx3⟩; obtain ⟨n3,a3,l3,c3,a3',l3',c3',rfl⟩:=h3.shape; have hbk:=HB.o.1.ext ((hx1.trans hx2).trans hx3) id; obtain ⟨d0,d1,d2,d3,d4,d5⟩:=hbk.facts; have hpt:=hbk.put (neg:=n3) (no_int a3 l3 c3) (no_int a3' l3' c3'); have HE:=bH (bI hpt.box (bI (hpt.rat h3) ((HB.o.2.trans ((hx1.trans hx2).trans hx3)).own hpt.ext (fun q e=>by have:=HRl.o; omega)))); clear hbk hpt));generalize ((w3.setCell ⟨rb,0,none⟩ (.bool n3)).setCell ⟨rb,1,none⟩ (.slice a3 l3 c3)).setCell ⟨rb,2,none⟩ (.slice a3' l3' c3')=w9 at *;obtain ⟨g0,g1,g2,_⟩:=HE.o.1.facts;exact bodyPost_ret (v:=.tuple #[.agg #[.bool n3,.slice a3 l3 c3,.slice a3' l3' c3'],.int .i64 0]) (by simp [results,Tryz.results51,go_sem,g0,g1,g2]) rfl ⟨_,rfl,HE.o.2.1,HE.o.2.2⟩
open Go.Lib Go.Sort
def LRow (w:World) (base:Nat) (v:Value) (l:List Int):Prop:=w.ownsRow base 2 1 v l.length (l.map fun n=>Value.int .i64 n)
section
variable {w w':World} {base g n c:Nat} {v:Value} {l:List Int}
theorem LRow.keep (h:LRow w base v l) (hx:XF w w'):LRow w' base v l:=ownsRow_ext h hx (fun _ _ e=>e)
theorem LRow.nil (w:World) (b:Nat):LRow w b (.slice none 0 0) []:=World.ownsRow_nil _ _ _ 1
theorem LRow.own (h:LRow w base v l):w.ownsRow base 2 1 v l.length (l.flatMap cI):=by rw [flat_cI]; exact h
theorem LRow.of (h:w.ownsRow base 2 1 v l.length (l.flatMap cI)):LRow w base v l:=by rw [flat_cI] at h; exact h
theorem LRow.shape (h:LRow w base v l):(v=.slice none 0 0/\l=[])∨∃ g c,v=.slice (some ⟨g,0,none⟩) l.length c/\base<=g/\g<w.heap.size:=by
 rcases h.2 with ⟨rfl,h0⟩ | ⟨g,cap,cur,rfl,hb,hg,_⟩
 ·exact .inl ⟨rfl,List.length_eq_zero_iff.1 h0⟩
 ·exact .inr ⟨g,cap,rfl,hb,blk_lt hg⟩
theorem LRow.len (h:LRow w base (.slice (some ⟨g,0,none⟩) n c) l):l.length=n:=by
 rcases h.2 with ⟨e,_⟩ | ⟨g',cap,cur,e,_⟩ <;> cases e;rfl
theorem LRow.data (h:LRow w base (.slice (some ⟨g,0,none⟩) n c) l):∃ cur:Array Value,base<=g/\blk w g=some (.cells cur 2 (0,0))/\n<=c/\c<=maxLen/\cur.size=c/\cur.toList.take n=l.map (Value.int .i64):=by
 rcases h.2 with ⟨e,_⟩ | ⟨g',cap,cur,e,h1,h2,h3,h4,h5,h6⟩ <;> cases e;exact ⟨cur,h1,h2,h3,h4,by rw [h5,Nat.mul_one],by rw [Nat.mul_one] at h6; exact h6⟩
theorem LRow.mk' {cur:Array Value} (h0:base<=g) (h1:blk w g=some (.cells cur 2 (0,0))) (h2:l.length<=c) (h3:c<=maxLen) (h4:cur.size=c) (h5:cur.toList.take l.length=l.map (Value.int .i64)):LRow w base (.slice (some ⟨g,0,none⟩) l.length c) l :=
 ⟨by rw [List.length_map,Nat.mul_one],.inr ⟨g,c,cur,rfl,h0,h1,h2,h3,by rw [h4,Nat.mul_one],by rw [Nat.mul_one]; exact h5⟩⟩
theorem LRow.cell (h:LRow w base (.slice (some ⟨g,0,none⟩) n c) l) {j:Nat} (hj:j<l.length):w.cell? ⟨g,j,none⟩=some (.int .i64 (l.getD j 0))/\w.frozen? ⟨g,j,none⟩=false:=by
 have hl:=h.len;obtain ⟨cur,h0,h1,h2,h3,h4,h5⟩:=h.data;refine ⟨?_,free_of_cells h1 _⟩;have e:(cur.toList.take n)[j]?=(l.map (Value.int .i64))[j]?:=by rw [h5]
 rw [List.getElem?_take_of_lt (by omega),List.getElem?_map,List.getElem?_eq_getElem hj] at e;rw [cell_of_cells h1,<- Array.getElem?_toList,e,getD_lt hj];rfl
theorem LRow.holds (h:LRow w base (.slice (some ⟨g,0,none⟩) n c) l):Holds (Value.int .i64) w g 0 l.toArray:=fun j hj=>by
 rw [List.size_toArray] at hj;rw [Nat.zero_add,getElem!_pos _ _ (by rw [List.size_toArray]; exact hj),List.getElem_toArray,<- getD_lt hj];exact h.cell hj
theorem LRow.putRow (h:LRow w base (.slice (some ⟨g,0,none⟩) n c) l) (q:Nat) {d d':List Int} (hd:d.length=n) (hp:d.take d'.length=d'):LRow (Sort.putRow (Value.int .i64) (Sort.ahead w q) g 0 d.toArray) base (.slice (some ⟨g,0,none⟩) d'.length c) d':=by
 obtain ⟨cur,h0,h1,h2,h3,h4,h5⟩:=h.data;have hl:d'.length<=d.length:=by rw [<- hp,List.length_take]; exact Nat.min_le_right _ _
 refine LRow.mk' h0 (blk_putRow h1 q d) (by omega) h3 (by rw [putCells_size]; exact h4) ?_;have e:=putCells_take (c:=cur) (d:=d) (by omega);have e2:=congrArg (List.take d'.length) e;rw [List.take_take,Nat.min_eq_left hl,<- List.map_take,hp] at e2;exact e2
theorem LRow.block (h:LRow w base (.slice (some ⟨g,0,none⟩) n c) l):g<w.heap.size:=by obtain ⟨cur,_,h1,_⟩:=h.data; exact blk_lt h1
end
theorem lsort_any (w:World) (base:Nat) (v:Value) (l:List Int) (h:LRow w base v l) (hn:l.length<=100000):Calls Tryz.prog 49 #[v] w (fun r w'=>r=.returned (.tuple #[])/\∃ l',l'.Perm l/\LRow w' base v l'/\Ext (fun k=>v.ownBlock=some k) w w'):=by
 rcases h.shape with ⟨rfl,rfl⟩ | ⟨g,c,rfl,_,_⟩
 ·refine (Tryz.slices_Sort_int_none_f49 none 0 w).mono ?_;rintro r w' ⟨rfl,rfl⟩;exact ⟨rfl,[],List.Perm.refl _,h,Ext.refl _ _⟩
 ·refine (Tryz.slices_Sort_int_f49 g 0 c l w h.holds h.block (by omega)).mono ?_;rintro r w' ⟨rfl,q,os,rfl⟩;have e:(l.mergeSort fun x y=>decide (x<=y)).length=l.length:=(List.mergeSort_perm l _).length_eq;have hq:=h.putRow q (d:=l.mergeSort fun x y=>decide (x<=y)) (d':=l.mergeSort fun x y=>decide (x<=y)) e (by rw [List.take_length]);rw [e] at hq;exact ⟨rfl,_,List.mergeSort_perm l _,hq.keep (ext_grow _ _),((ext_putRow _ _ _ _).trans (ext_grow _ _).none).mono (fun k _ e=>by rw [show k=g from e]; rfl)⟩
theorem compact_mem {zs:List Int} {z:Int} (h:z ∈ Lib.compact zs):z ∈ zs:=by
 unfold Lib.compact Lib.compactUpTo at h;obtain ⟨j,hj,rfl⟩:=List.mem_map.1 h;have hjl:j<zs.length:=List.mem_range.1 (List.mem_filter.1 hj).1;rw [getElem!_pos _ _ (by rw [List.size_toArray]; exact hjl),List.getElem_toArray];exact List.getElem_mem _
theorem lcomp_any (w:World) (base:Nat) (v:Value) (l:List Int) (h:LRow w base v l) (hn:l.length<=100000):Calls Tryz.prog 50 #[v] w (fun r w'=>∃ v' l',r=.returned v'/\(∀ z ∈ l',z ∈ l)/\l'.length<=l.length/\LRow w' base v' l'/\Ext (fun k=>v.ownBlock=some k) w w'):=by
 rcases h.shape with ⟨rfl,rfl⟩ | ⟨g,c,rfl,_,_⟩
 ·refine (Tryz.slices_Compact_int_empty none 0 w).mono ?_;rintro r w' ⟨rfl,rfl⟩;exact ⟨_,[],rfl,fun z h=>h,Nat.le_refl _,h,Ext.refl _ _⟩
 ·have hl:=compact_length_le l;obtain ⟨cur,h0,h1,h2,h3,h4,h5⟩:=h.data;refine (Tryz.slices_Compact_int g 0 c l w h.holds (by omega) h2).mono ?_;rintro r w' ⟨rfl,q,rfl⟩;have hq:=h.putRow q (d:=Lib.compact l++List.replicate (l.length - (Lib.compact l).length) 0) (d':=Lib.compact l) (by rw [List.length_append,List.length_replicate]; omega) (by rw [List.take_append_of_le_length (Nat.le_refl _),List.take_length]);exact ⟨_,_,rfl,fun z hz=>compact_mem hz,hl,hq,(ext_putRow _ _ _ _).mono (fun k _ e=>by rw [show k=g from e]; rfl)⟩
structure CutQ where
 c:CutV
 yo:Option Addr
 yn:Nat
 yc:Nat
 so:Option Addr
 sn:Nat
 sc:Nat
def cQ (q:CutQ):List Value:=[.int .i64 q.c.kind,.slice q.yo q.yn q.yc,.int .i64 q.c.row,.slice q.so q.sn q.sc]
theorem cQ_one (q:CutQ):∀ u ∈ cQ q,u.oneCell'=true:=fun u hu=>by
 simp [cQ] at hu;rcases hu with rfl | rfl | rfl | rfl <;> rfl
theorem cQ_noD (q:CutQ):NoD (cQ q):=fun u hu d e=>by
 simp [cQ] at hu;rcases hu with rfl | rfl | rfl | rfl <;> cases e
theorem cQs_noD (qs:List CutQ):NoD (qs.flatMap cQ):=fun u hu d e=>by
 obtain ⟨q,_,h⟩:=List.mem_flatMap.1 hu;exact cQ_noD q u h d e
theorem cut_src (w:World) (q:CutQ):∀ j u,(cQ q)[j]?=some u->(w.alloc (.cells #[.int .i64 q.c.kind,.slice q.yo q.yn q.yc,.int .i64 q.c.row,.slice q.so q.sn q.sc] 29)).cell? ((⟨w.heap.size,0,none⟩:Addr).add j)=some u:=fun j u hu=>by
 match j,hu with
 | 0,hu=>cases hu; exact cellq (blk_alloc_at w _) 0 rfl
 | 1,hu=>cases hu; exact cellq (blk_alloc_at w _) 1 rfl
 | 2,hu=>cases hu; exact cellq (blk_alloc_at w _) 2 rfl
 | 3,hu=>cases hu; exact cellq (blk_alloc_at w _) 3 rfl
structure CutAt (w:World) (q:CutQ):Prop where
 mul:(q.yo=none/\q.yn=0/\q.yc=0/\q.c.mul=[])∨∃ B f,q.yo=some ⟨B,0,none⟩/\q.yn=q.yc/\q.yc<=1000/\RArr w B q.yn f/\q.c.mul=listTo q.yn f/\∀ i,i<q.yn->Sz (f i) 10
 vars:IRow w 0 (.slice q.so q.sn q.sc) q.c.vars
section
variable {w w' w1 wr:World} {q:CutQ} {qs:List CutQ} {ov ov':Value}
theorem CutAt.past {S:Nat->Prop} (h:CutAt w q) (hx:Ext S w w') (hS:∀ k,S k->TyB w k 29) (hr:∀ v l,Rds w v l->Rds w' v l):CutAt w' q:=by
 refine ⟨?_,ownsRow_ext h.vars hx (fun g hg e=>typ_ne' (own_ty h.vars g hg) (hS g e) (by decide) rfl)⟩;rcases h.mul with h | ⟨B,f,h1,h2,h3,h4,h5⟩
 ·exact .inl h
 ·exact .inr ⟨B,f,h1,h2,h3,h4.past hx (fun e=>by obtain ⟨arr,hb,_⟩:=h4.row; exact typ_ne' ⟨_,hb⟩ (hS B e) (by decide) rfl) hr,h5⟩
theorem CutAt.keep (h:CutAt w q) (hx:XF w w'):CutAt w' q:=h.past hx (fun _ e=>e.elim) (fun _ _ hu=>hu.keep hx)
theorem CutAt.isCut (h:CutAt w q):IsCut w (.agg #[.int .i64 q.c.kind,.slice q.yo q.yn q.yc,.int .i64 q.c.row,.slice q.so q.sn q.sc]) q.c 10:=by
 refine ⟨_,_,rfl,?_,IRow.inz h.vars⟩;rcases h.mul with ⟨h1,h2,h3,h4⟩ | ⟨B,f,h1,h2,h3,h4,h5,h6⟩
 ·rw [h1,h2,h3,h4];exact ⟨[],rfl,Sl.nil w 3,fun i c q h=>by cases h⟩
 ·rw [h1,h5];exact h4.rats h6 (Nat.le_of_eq h2) (by unfold maxLen; omega)
structure SepSt (w1 wr:World) (ov:Value) (qs:List CutQ):Prop where
 ext:XF w1 wr
 own:wr.ownsRow w1.heap.size 29 4 ov qs.length (qs.flatMap cQ)
 nod:∀ g,ov.ownBlock=some g->NoDig wr g
 cuts:∀ q ∈ qs,CutAt wr q
theorem SepSt.keep (h:SepSt w1 wr ov qs) (hx:XF wr w'):SepSt w1 w' ov qs:=by
 refine ⟨h.ext.trans hx,ownsRow_ext h.own hx (fun _ _ e=>e),fun g hg i d hc=>?_,fun q hq=>(h.cuts q hq).keep hx⟩;have hlt:g<wr.heap.size:=(World.ownsRow.lt h.own g hg).2;exact h.nod g hg i d ((hx.cell (p:=⟨g,i,none⟩) hlt id).symm.trans hc)
theorem SepSt.push (h:SepSt w1 wr ov qs) (ha:AppG wr w' w1.heap.size 29 4 ov ov' qs.length (qs.flatMap cQ) (cQ q)) (hq:CutAt wr q):SepSt w1 w' ov' (qs++[q]):=by
 have hty:∀ k,ov.ownBlock=some k->TyB wr k 29:=own_ty h.own;refine ⟨h.ext.own ha.ext (fun k e=>(World.ownsRow.lt h.own k e).1),?_,ha.noDig,fun q' hq'=>?_⟩
 ·rw [List.length_append,List.flatMap_append];simpa using ha.own
 ·rcases List.mem_append.1 hq' with h1 | h1
  ·exact (h.cuts q' h1).past ha.ext hty ha.rds
  ·rw [List.mem_singleton.1 h1]; exact hq.past ha.ext hty ha.rds
theorem SepSt.blk_push {b:Nat} {cs:Array Value} {T:TypeId} (h:SepSt w1 wr ov qs) (ha:AppG wr w' w1.heap.size 29 4 ov ov' qs.length (qs.flatMap cQ) (cQ q)) (hb:blk wr b=some (.cells cs T (0,0))) (hT:T≠29):blk w' b=some (.cells cs T (0,0)) :=
 blk_ext hb ha.ext (fun e=>typ_ne' ⟨_,hb⟩ (own_ty h.own _ e) hT rfl)
theorem SepSt.row_push {b:Nat} {v:Value} {l:List Int} (h:SepSt w1 wr ov qs) (ha:AppG wr w' w1.heap.size 29 4 ov ov' qs.length (qs.flatMap cQ) (cQ q)) (hb:LRow wr b v l):LRow w' b v l :=
 ownsRow_ext hb ha.ext (fun g hg e=>typ_ne' (own_ty hb g hg) (own_ty h.own _ e) (by decide) rfl)
end
theorem covIs_len {p:ProgV} {i:Int} {x:List Rat} {c:CutV} (h:CovIs p i x c true) (hn:p.vars.length<=6):c.vars.length<=1000:=by
 obtain ⟨o,ho,h⟩:=h;cases hm:minV p (p.r i.toNat) o with
 | none=>rw [hm] at h; cases h.1
 | some s =>
  rw [hm] at h;obtain ⟨_,_,_,_,hs⟩:=h;have hb:=(minV_spec ho hm).1;have:=inc_len (last:=-1) (n:=p.vars.length) hs.pair (fun v hv=>by
   have:=binB_parts (hb v ((hs.mem v).1 hv));omega)
  omega
theorem Tryz.infoCut:(Tryz.prog.info? 29).map (fun i=>(i.zero,i.size,i.bytes))=some (some (.agg #[.int .i64 0,.slice none 0 0,.int .i64 0,.slice none 0 0]),4,64):=by kernel_rfl
theorem Tryz.infoL:(Tryz.prog.info? 2).map (fun i=>(i.zero,i.size,i.bytes))=some (some (.int .i64 0),1,8):=by kernel_rfl
theorem l_src (w:World) (n:Int):∀ j u,(cI n)[j]?=some u->(w.alloc (.cells #[.int .i64 n] 2)).cell? ((⟨w.heap.size,0,none⟩:Addr).add j)=some u:=fun j u hu=>by
 match j,hu with
 | 0,hu =>
  cases hu;exact cellq (blk_alloc_at w _) 0 rfl
theorem quot_sz {a b:Int} (ha:InR a) (hb:InR b):Sz ((a:Rat) / (b:Rat)) 10:=by
 have h1:Sz (a:Rat) 2:=Sz.int ha;have h2:Sz (b:Rat) 2:=Sz.int hb;have h3:Sz ((b:Rat)⁻¹) 2:=by
  by_cases h0:(b:Rat)=0
  ·rw [h0,Rat.inv_zero]; exact Sz.zero.mono (by decide)
  ·refine ⟨?_,?_⟩
   ·rw [Rat.num_inv,Int.natAbs_mul,Int.natAbs_natCast];have hs:(b:Rat).num.sign.natAbs=1:=by
     have:(b:Rat).num≠0:=fun e=>h0 (Rat.num_eq_zero.1 e);rcases Int.lt_or_gt_of_ne this with h | h
     ·rw [Int.sign_eq_neg_one_of_neg h]; rfl
     ·rw [Int.sign_eq_one_of_pos h]; rfl
    rw [hs,Nat.one_mul]; exact h2.2
   ·rw [Rat.den_inv,if_neg (fun e=>h0 (Rat.num_eq_zero.1 e))]; exact h2.1
 rw [Rat.div_def];exact (h1.mul h3).mono (by decide)
theorem valid_coefs {p:ProgV} (hval:validB p=true) {i:Nat} (hi:i<p.rows.length):∀ t ∈ (p.r i).terms,limB t.coef=true:=by
 have h:=valid_row hval hi;unfold rowB at h;simp only [Bool.and_eq_true] at h;exact termsB_lim h.2
def SepOk (p:ProgV) (x:List Rat) (q:CutQ):Prop:=breaksP p q.c x=true/\CSmall p q.c
def Sep0 (p:ProgV) (x:List Rat) (qs:List CutQ):Prop:=∀ c,CovIs p 0 x c true->breaksP p c x=true->qs≠[]
def SepPost (w:World) (p:ProgV) (x:List Rat) (r:Ending) (w':World):Prop:=∃ ov qs,r=.returned ov/\w'.ownsRow w.heap.size 29 4 ov qs.length (qs.flatMap cQ)/\(∀ q ∈ qs,CutAt w' q/\SepOk p x q)/\(validB p=false->qs=[])/\(validB p=true->0<p.rows.length->Sep0 p x qs)/\XF w w'
theorem Separate_any (w:World) (pv xv:Value) (p:ProgV) (x:List Rat) (L:Nat) (hp:IsPrg w pv p) (hx:Rats w xv x L) (h1:1<=L) (hL:L<=100) (hn:p.vars.length<=6) (hm:p.rows.length<=8) (hl:∀ i,i<p.rows.length->(p.r i).terms.length<=12) :
  Calls Tryz.prog 23 #[pv,xv] w (SepPost w p x):=by
 have HVa:=bH (fun W (hW:XF w W)=>Valid_any W pv p (hp.keep hW));have HMi:=bH (fun (hval:validB p=true) W (hW:XF w W) (i:Nat) (hi:i<p.rows.length)=>minimal_any W pv xv p i x L (hp.keep hW) hval hi (hx.keep hW) h1 (by omega) hn (hl i hi));have HBr:=bH (fun (hval:validB p=true) W (hW:XF w W) cv c (hc:IsCut W cv c 10) (hs:c.vars.length<=1000)=>breaks_any W pv cv xv p c x L (hp.keep hW) hc hval ⟨hn,hm,hl,hs⟩ (hx.keep hW) h1 hL);have HSk:=bH (fun (c:CutV) (hs:c.vars.length<=1000)=>(⟨hn,hm,hl,hs⟩:CSmall p c));have HCl:=bH (fun i c (h:CovIs p i x c true)=>covIs_len h hn);have HLn:=bH hl;have HCo:=bH (fun (hval:validB p=true) i (hi:i<p.rows.length)=>valid_coefs hval hi);obtain ⟨vv,rv,rfl,hpv,hpr⟩:=hp;obtain ⟨vo,vc,rfl,-,-,-⟩:=hpv.shape;obtain ⟨ro,rc,rfl,-,-,-⟩:=hpr.shape;have HPr:=bH hpr;obtain ⟨xo,xc,rfl,-,-,-⟩:=hx.shape;obtain ⟨VB,hVB⟩:∃ x,validB p=x:=⟨_,rfl⟩;have HVB:=bH hVB;rw [hVB] at HVa HMi HBr HCo;obtain ⟨n,hn'⟩:∃ x,p.vars.length=x:=⟨_,rfl⟩;obtain ⟨m,hm'⟩:∃ x,p.rows.length=x:=⟨_,rfl⟩;obtain ⟨xn,hxn⟩:∃ y,x.length=y:=⟨_,rfl⟩;have HM:=bH hm';have hm8:m<=8:=by omega
 rw [hn',hm',hxn] at HMi HBr;rw [hm'] at HCo HLn HPr;rw [hn',hm'] at HVa;rw [hn',hm',hxn];clear hpv hpr hx hn hm hl hn' hm' hxn hVB;have HB:=bH (bI (blk_alloc_at w (.cells #[.slice vo n vc,.slice ro m rc] 25)) ((Ext.refl (fun _=>False) w).alloc (.cells #[.slice vo n vc,.slice ro m rc] 25)));go_enter Tryz.func23,Tryz.ntmps23;go_upto_region 2 with fail;generalize w.alloc (.cells #[.slice vo n vc,.slice ro m rc] 25)=w1 at *;obtain ⟨pb,hpb⟩:∃ q,w.heap.size=q:=⟨_,rfl⟩;rw [hpb] at HB ⊢;clear hpb;have p0:=cellq HB.o.1 0 rfl;have p1:=cellq HB.o.1 1 rfl;go_wp2_with fail;refine (HVa.o w1 HB.o.2).mono ?_;rintro r2 w2 ⟨rfl,hx2⟩;replace HB:=bH (bI (blk_keep HB.o.1 hx2) (HB.o.2.trans hx2));clear p0 p1 hx2 HVa;cases VB with
 | false =>
  go_wp2;go_ret;exact ⟨.slice none 0 0,[],rfl,World.ownsRow_nil _ _ _ 4,fun q hq=>(by cases hq),fun _=>rfl,fun e=>(by rw [HVB.o] at e; cases e),HB.o.2⟩
 | true =>
  have p1:=cellq HB.o.1 1 rfl;replace HMi:=bH (HMi.o rfl);replace HBr:=bH (HBr.o rfl);replace HCo:=bH (HCo.o rfl);go_upto_block 0 with fail;clear p1;go_wp2_with fail;go_loopg [5,25] m (fun gg v5 v25 wr=>∃ (i:Nat) (ov:Value) (qs:List CutQ),i<=m/\gg=m - i/\ov=v5/\v25=.int .i64 i/\SepSt w2 wr ov qs/\(∀ q ∈ qs,SepOk p x q)/\(0<i->Sep0 p x qs)/\qs.length<=20*i);case atStart=>exact ⟨0,_,[],Nat.zero_le _,rfl,rfl,rfl,⟨Ext.refl _ _,World.ownsRow_nil _ _ _ 4,fun g hg=>(by cases hg),fun q hq=>(by cases hq)⟩,fun q hq=>(by cases hq),fun h=>absurd h (Nat.lt_irrefl 0),Nat.zero_le _⟩
  case round =>
   obtain ⟨i,ov,qs,him,rfl,rfl,rfl,hst,hok,h0,hql⟩:=hrel;have HS:=bH (bI hst (bI hok (bI h0 hql)));clear hst hok h0 hql;by_cases hi:i<m
   ·have i0:(0:Int)<=(i:Int):=(by omega);have i1:(i:Int)<(m:Int):=(by omega);have HIm:=bH hi;obtain ⟨rb,off,ta,tc,rfl,-,e0,e1,e2,e3,e4,-,hT⟩:=HPr.o.atp i (by rw [HM.o]; exact hi);have HX:=bH (HB.o.2.trans HS.o.1.ext);replace e0:=cell_keep e0 HX.o;replace e1:=cell_keep e1 HX.o;replace e2:=cell_keep e2 HX.o;replace e3:=cell_keep e3 HX.o;replace e4:=cell_keep e4 HX.o;have HT:=bH hT;obtain ⟨tl,htl⟩:∃ q,(p.r i).terms.length=q:=⟨_,rfl⟩;have HTl:=bH htl;have htl12:tl<=12:=(by rw [<- htl]; exact HLn.o i hi);rw [htl] at e3 HT;clear hT htl;generalize (p.r i).name=nm at *;generalize (p.r i).group=gr at *;generalize (p.r i).kind=rk at *;generalize (p.r i).bound=bd at *;have hxr:=(Ext.refl (fun _=>False) wr).alloc (.cells #[.string nm,.int .i64 gr,.int .i64 rk,.slice ta tl tc,.int .i64 bd] 35);have HR:=bH (bI (blk_alloc_at wr (.cells #[.string nm,.int .i64 gr,.int .i64 rk,.slice ta tl tc,.int .i64 bd] 35)) (HS.o.1.keep hxr));clear hxr;go_upto_region 7 with fail;clear e0 e1 e2 e3 e4 HX;generalize wr.alloc (.cells #[.string nm,.int .i64 gr,.int .i64 rk,.slice ta tl tc,.int .i64 bd] 35)=wA at *;generalize wr.heap.size=rwb at *;have HX:=bH (HB.o.2.trans HR.o.2.ext);have p0:=cell_keep (cellq HB.o.1 0 rfl) HR.o.2.ext;have p1:=cell_keep (cellq HB.o.1 1 rfl) HR.o.2.ext;have HMx:=bH (HMi.o wA HX.o i hi);go_wp2_with fail;refine HMx.o.mono ?_;rintro r3 w3 ⟨sv,c,ok,rfl,hir,hmul,hcov,hx3⟩;obtain ⟨so,sc,rfl,-⟩:=hir.inz.shape;replace HR:=bH (bI (blk_keep HR.o.1 hx3) (HR.o.2.keep hx3));have HQ:=bH (show CutAt w3 ⟨c,none,0,0,so,c.vars.length,sc⟩ from ⟨.inl ⟨rfl,rfl,rfl,hmul⟩,own_down hir (Nat.zero_le _)⟩);have HCv:=bH hcov;clear p0 p1 HX HMx hir hmul hcov hx3;have HCs:=bH (show c=⟨c.kind,c.mul,c.row,c.vars⟩ from rfl);obtain ⟨kd,hkd⟩:∃ q,c.kind=q:=⟨_,rfl⟩;obtain ⟨cr,hcr⟩:∃ q,c.row=q:=⟨_,rfl⟩;obtain ⟨sn,hsn⟩:∃ q,c.vars.length=q:=⟨_,rfl⟩;have HK:=bH (bI hkd (bI hcr hsn));rw [hsn] at HQ;rw [hkd,hcr,hsn];clear hkd hcr hsn;have hxc:=(Ext.refl (fun _=>False) w3).alloc (.cells #[.int .i64 kd,.slice none 0 0,.int .i64 cr,.slice so sn sc] 29);replace HR:=bH (bI (blk_keep HR.o.1 hxc) (HR.o.2.keep hxc));replace HQ:=bH (HQ.o.keep hxc);have HC:=bH (blk_alloc_at w3 (.cells #[.int .i64 kd,.slice none 0 0,.int .i64 cr,.slice so sn sc] 29));clear hxc;go_upto_region 8 with fail;generalize w3.alloc (.cells #[.int .i64 kd,.slice none 0 0,.int .i64 cr,.slice so sn sc] 29)=w4 at *;generalize w3.heap.size=cbx at *;have HX:=bH (HB.o.2.trans HR.o.2.ext);go_cut [43] (fun v43 wx=>∃ Bx:Bool,v43=.bool Bx/\(Bx=true->ok=true/\breaksP p c x=true)/\(ok=true->breaksP p c x=true->Bx=true)/\XF w4 wx);case first =>
     cases ok with
     | false =>
      go_wp2;go_meet;exact ⟨false,rfl,(fun h=>by cases h),(fun h=>by cases h),Ext.refl _ _⟩
     | true =>
      have hI:=HQ.o.isCut;dsimp only at hI;rw [HK.o.1,HK.o.2.1] at hI;have HBx:=bH (HBr.o w4 HX.o _ c hI (HCl.o i c HCv.o));clear hI;obtain ⟨BR,hBR⟩:∃ b,breaksP p c x=b:=⟨_,rfl⟩;have HBR:=bH hBR;rw [hBR] at HBx;have p0:=cell_keep (cellq HB.o.1 0 rfl) HR.o.2.ext;have p1:=cell_keep (cellq HB.o.1 1 rfl) HR.o.2.ext;have c0:=cellq HC.o 0 rfl;have c1:=cellq HC.o 1 rfl;have c2:=cellq HC.o 2 rfl;have c3:=cellq HC.o 3 rfl;clear hBR;go_wp2_with fail;refine HBx.o.mono ?_;rintro r5 w5 ⟨rfl,hx5⟩;go_wp2;go_meet;exact ⟨BR,rfl,(fun h=>⟨(by first | rfl | trivial),HBR.o.trans h⟩),(fun _ h=>HBR.o.symm.trans h),hx5⟩
    case rest =>
    obtain ⟨Bx,rfl,hB1,hB2,hx5⟩:=hcut;obtain ⟨w5,rfl⟩:∃ q,q=wc:=⟨_,rfl⟩;have HBx:=bH (bI hB1 hB2);replace HR:=bH (bI (blk_keep HR.o.1 hx5) (HR.o.2.keep hx5));replace HQ:=bH (HQ.o.keep hx5);replace HC:=bH (blk_keep HC.o hx5);clear hB1 hB2 hx5 HX;go_step;go_cut [5] (fun v5 wx=>∃ (ov':Value) (qs':List CutQ),ov'=v5/\SepSt w2 wx ov' qs'/\(∀ q ∈ qs',SepOk p x q)/\Sep0 p x qs'/\qs'.length<=20*i+1/\blk wx rwb=some (.cells #[.string nm,.int .i64 gr,.int .i64 rk,.slice ta tl tc,.int .i64 bd] 35 (0,0)));case first =>
     cases Bx with
     | false =>
      have HS0:=bH (show Sep0 p x qs from fun c' hc' hb'=>by
       by_cases e:i=0
       ·subst e;obtain ⟨e1,e2⟩:=CovIs.uniq HCv.o hc';subst e1;have:=HBx.o.2 e2 hb';cases this
       ·exact HS.o.2.2.1 (Nat.pos_of_ne_zero e) c' hc' hb')
      go_wp2;go_meet;exact ⟨_,qs,rfl,HR.o.2,HS.o.2.1,HS0.o,by have:=HS.o.2.2.2; omega,HR.o.1⟩
     | true =>
      have c0:=cellq HC.o 0 rfl;have c1:=cellq HC.o 1 rfl;have c2:=cellq HC.o 2 rfl;have c3:=cellq HC.o 3 rfl;have hxs:=(Ext.refl (fun _=>False) w5).alloc (.cells #[.int .i64 kd,.slice none 0 0,.int .i64 cr,.slice so sn sc] 29);have hsr:=cut_src w5 ⟨c,none,0,0,so,sn,sc⟩;dsimp only at hsr;rw [HK.o.1,HK.o.2.1] at hsr;have HKp:=bH (bI (HR.o.2.keep hxs) (bI hsr (bI (blk_keep HR.o.1 hxs) (HQ.o.keep hxs))));clear hxs hsr;have HLq:=bH (show qs.length<=100000 from by have:=HS.o.2.2.2; omega);go_wp2_with (at_builtin; refine wpList_appG rfl (.tmp 44) (.tmp 46) rfl Tryz.underlying52 Tryz.infoCut rfl (cQ_noD ⟨⟨0,[],0,[]⟩,none,0,0,none,0,0⟩) (by decide) (by decide) w2.heap.size ov qs.length (qs.flatMap cQ) rfl HKp.o.1.own HKp.o.1.nod (cQs_noD _) ⟨w5.heap.size,0,none⟩ 1 (cQ ⟨c,none,0,0,so,sn,sc⟩) rfl rfl HKp.o.2.1 (cQ_one _) (cQ_noD _) HLq.o HKp.o.1.ext.size ?_; intro v15 w15 ha15; have HP:=bH (bI (HKp.o.1.push ha15 HKp.o.2.2.2) (HKp.o.1.blk_push ha15 HKp.o.2.2.1 (by decide))); clear ha15);go_meet;exact ⟨_,_,rfl,HP.o.1,(fun q hq=>by
       rcases List.mem_append.1 hq with h | h
       ·exact HS.o.2.1 q h
       ·rw [List.mem_singleton.1 h];obtain ⟨e1,e2⟩:=HBx.o.1 (by first | rfl | trivial);exact ⟨e2,HSk.o c (HCl.o i c (e1 ▸ HCv.o))⟩),(fun _ _ _ h=>by simp at h),(by rw [List.length_append,List.length_singleton]; have:=HS.o.2.2.2; omega),HP.o.2⟩
    case rest =>
    clear HR HQ HC HBx HCv HCs HK;obtain ⟨ov1,qs1,rfl,hst,hok,h0,hql,hrb⟩:=hcut;obtain ⟨w6,rfl⟩:∃ q,q=wc:=⟨_,rfl⟩;replace HS:=bH (bI hst (bI hok (bI h0 hql)));have HRb:=bH hrb;clear hst hok h0 hql hrb;have r3:=cellq HRb.o 3 rfl;go_upto_block 2 with fail;clear r3;go_cut [10] (fun v10 wx=>∃ (lv:Value) (l:List Int),lv=v10/\LRow wx w6.heap.size lv l/\(∀ z ∈ l,2<=z/\z<=1099511627776)/\l.length<=tl/\XF w6 wx);case first =>
     go_wp2_with fail;go_loopg [10,51] tl (fun gg v10 v51 wr=>∃ (k:Nat) (lv:Value) (l:List Int),k<=tl/\gg=tl - k/\lv=v10/\v51=.int .i64 k/\LRow wr w6.heap.size lv l/\(∀ z ∈ l,2<=z/\z<=1099511627776)/\l.length<=k/\XF w6 wr);case atStart=>exact ⟨0,_,[],Nat.zero_le _,rfl,rfl,rfl,LRow.nil _ _,(fun z hz=>by cases hz),Nat.le_refl _,Ext.refl _ _⟩
     case round =>
      obtain ⟨k,lv,l,hk,rfl,rfl,rfl,hlr,hl2,hlk,hxr⟩:=hrel;have HI:=bH (bI hlr (bI hl2 (bI hlk hxr)));clear hlr hl2 hlk hxr;by_cases hkt:k<tl
      ·have k0:(k:Int)<(tl:Int):=(by omega);have k1:(0:Int)<=(k:Int):=(by omega);have hkl:k<(p.r i).terms.length:=(by rw [HTl.o]; exact hkt);obtain ⟨tb,tof,rfl,-,t0,t1,-⟩:=(HT.o.keep (HB.o.2.trans (HS.o.1.ext.trans HI.o.2.2.2))).atr (r:=p.r i) k hkl;have hlim:=HCo.o i HIm.o ((p.r i).t k) (by unfold RowV.t; rw [getD_lt hkl]; exact List.getElem_mem _);clear hkl;generalize ((p.r i).t k).var=v at *;generalize ((p.r i).t k).coef=cf at *;have hcf:-1099511627776<=cf/\cf<=1099511627776:=by
        unfold limB at hlim;simp only [Bool.and_eq_true,decide_eq_true_eq] at hlim;omega
       clear hlim;have hxA:=(Ext.refl (fun _=>False) wr).alloc (.cells #[.int .i64 v,.int .i64 cf] 70);replace HI:=bH (show LRow (wr.alloc (.cells #[.int .i64 v,.int .i64 cf] 70)) w6.heap.size lv l/\(∀ z ∈ l,2<=z/\z<=1099511627776)/\l.length<=k/\XF w6 (wr.alloc (.cells #[.int .i64 v,.int .i64 cf] 70)) from ⟨HI.o.1.keep hxA,HI.o.2.1,HI.o.2.2.1,HI.o.2.2.2.trans hxA⟩);have HA:=bH (blk_alloc_at wr (.cells #[.int .i64 v,.int .i64 cf] 70));clear hxA;go_upto_region 14 with fail;clear t0 t1;generalize wr.alloc (.cells #[.int .i64 v,.int .i64 cf] 70)=wA at *;generalize wr.heap.size=tbx at *;have t1:=cellq HA.o 1 rfl;have hwn:IntKind.i64.wrap (-cf) = -cf:=IntWalk.i64_in _ (by omega);go_cut [13] (fun v13 wx=>∃ N:Int,v13=.int .i64 N/\0<=N/\N<=1099511627776/\wx=wA);case first =>
        go_wp2;go_meet;exact ⟨_,rfl,by omega,by omega,rfl⟩
       case rest =>
       clear t1 hwn;obtain ⟨N,rfl,hN0,hN1,rfl⟩:=hcut;obtain ⟨wB,rfl⟩:∃ q,q=wc:=⟨_,rfl⟩;clear HA hcf;by_cases h2:2<=N
       ·have hxs:=(Ext.refl (fun _=>False) wB).alloc (.cells #[.int .i64 N] 2);have HIs:=bH (bI (HI.o.1.keep hxs) (bI (HI.o.2.2.2.trans hxs) (bI (l_src wB N) (show l.length<=100000 from by have:=HI.o.2.2.1; omega))));have HNb:=bH (show ∀ z ∈ l++[N],2<=z/\z<=1099511627776 from fun z hz=>by
         rcases List.mem_append.1 hz with h | h
         ·exact HI.o.2.1 z h
         ·rw [List.mem_singleton.1 h]; exact ⟨h2,hN1⟩)
        clear hxs;go_wp2_with (at_builtin; refine wpList_append_el (f:=cI) rfl (.tmp 63) (.tmp 65) rfl cI_len' N (cI_one' _) Tryz.underlying85 Tryz.infoL rfl (by decide) (by decide) w6.heap.size lv l rfl HIs.o.1.own ⟨wB.heap.size,0,none⟩ 1 rfl HIs.o.2.2.1 HIs.o.2.2.2 HIs.o.2.1.size ?_; intro v15 w15 g1 g2 g3; have HN:=bH (bI (LRow.of g1) (HIs.o.2.1.own g2 (fun k e=>(World.ownsRow.lt HIs.o.1 k e).1))); clear g1 g2 g3);go_roundg (tl - (k+1));case measure=>omega
        case rel=>exact ⟨k+1,_,_,by omega,rfl,rfl,by go_num,HN.o.1,HNb.o,by rw [List.length_append,List.length_singleton]; have:=HI.o.2.2.1; omega,HN.o.2⟩
       ·go_wp2;go_roundg (tl - (k+1));case measure=>omega
        case rel=>exact ⟨k+1,_,l,by omega,rfl,rfl,by go_num,HI.o.1,HI.o.2.1,by have:=HI.o.2.2.1; omega,HI.o.2.2.2⟩
      ·obtain rfl:k=tl:=(by omega);go_wp2;go_meet;exact ⟨_,l,rfl,HI.o⟩
    case rest =>
    obtain ⟨lv,l,rfl,hlr,hl2,hll,hxr⟩:=hcut;obtain ⟨w7,rfl⟩:∃ q,q=wc:=⟨_,rfl⟩;have HSo:=bH (lsort_any w7 w6.heap.size lv l hlr (by omega));have HI:=bH (bI hlr (bI hl2 (bI hll hxr)));clear hlr hl2 hll hxr;go_wp2_with fail;refine HSo.o.mono ?_;rintro r8 w8 ⟨rfl,l1,hp1,hl1,hx8⟩;have hx68:=HI.o.2.2.2.own hx8 (fun k e=>(World.ownsRow.lt HI.o.1 k e).1);replace HI:=bH (show LRow w8 w6.heap.size lv l1/\(∀ z ∈ l1,2<=z/\z<=1099511627776)/\l1.length<=tl/\XF w6 w8 from ⟨hl1,fun z hz=>HI.o.2.1 z (hp1.mem_iff.1 hz),by rw [hp1.length_eq]; exact HI.o.2.2.1,hx68⟩);clear hp1 hl1 hx8 hx68 HSo;have r2:=cell_keep (cellq HRb.o 2 rfl) HI.o.2.2.2;go_upto_region 20 with fail;go_cut [72] (fun v72 wx=>∃ b:Bool,v72=.bool b/\wx=w8);case first =>
     by_cases hk0:rk=0
     ·subst hk0;go_wp2;go_meet;exact ⟨_,rfl,rfl⟩
     ·have k3:(rk == 0)=false:=(by simpa using hk0);have k4:decide (rk=0)=false:=decide_eq_false hk0;go_wp2;go_meet;exact ⟨_,rfl,rfl⟩
    case rest =>
    obtain ⟨b,rfl,rfl⟩:=hcut;obtain ⟨w9,rfl⟩:∃ q,q=wc:=⟨_,rfl⟩;clear r2;go_step;go_cut [14] (fun v14 wx=>∃ sg:Int,v14=.int .i64 sg/\(sg=1∨sg = -1)/\wx=w9);case first =>
     cases b with
     | false =>
      go_wp2;go_meet;exact ⟨1,rfl,.inl rfl,rfl⟩
     | true =>
      go_wp2;go_meet;exact ⟨-1,rfl,.inr rfl,rfl⟩
    case rest =>
    obtain ⟨sg,rfl,hsg,rfl⟩:=hcut;obtain ⟨w10,rfl⟩:∃ q,q=wc:=⟨_,rfl⟩;have HSg:=bH hsg;have HCm:=bH (lcomp_any w10 w6.heap.size lv l1 HI.o.1 (by have:=HI.o.2.2.1; omega));clear hsg;go_wp2_with fail;refine HCm.o.mono ?_;rintro r11 w11 ⟨cv,l2,rfl,hm2,hl2,hr2,hx11⟩;have hx611:=HI.o.2.2.2.own hx11 (fun k e=>(World.ownsRow.lt HI.o.1 k e).1);replace HI:=bH (show LRow w11 w6.heap.size cv l2/\(∀ z ∈ l2,2<=z/\z<=1099511627776)/\l2.length<=12/\XF w6 w11 from ⟨hr2,fun z hz=>HI.o.2.1 z (hm2 z hz),by have:=HI.o.2.2.1; omega,hx611⟩);clear hm2 hl2 hr2 hx11 hx611 HCm;obtain ⟨co,cc,rfl⟩:∃ co cc,cv=.slice co l2.length cc:=by
     rcases HI.o.1.shape with ⟨rfl,rfl⟩ | ⟨g,c,rfl,_,_⟩
     ·exact ⟨none,0,rfl⟩
     ·exact ⟨_,_,rfl⟩
    obtain ⟨cn,hcn⟩:∃ q,l2.length=q:=⟨_,rfl⟩;have HCn:=bH hcn;have hcn12:cn<=12:=(by have:=HI.o.2.2.1; omega);rw [hcn] at HI ⊢;clear hcn;replace HS:=bH (bI (HS.o.1.keep HI.o.2.2.2) HS.o.2);go_upto_block 4 with fail;go_wp2_with fail;go_loopg [5,76] cn (fun gg v5 v76 wr=>∃ (k:Nat) (ov':Value) (qs':List CutQ),k<=cn/\gg=cn - k/\ov'=v5/\v76=.int .i64 k/\SepSt w2 wr ov' qs'/\(∀ q ∈ qs',SepOk p x q)/\Sep0 p x qs'/\qs'.length<=20*i+1+k/\LRow wr w6.heap.size (.slice co cn cc) l2);case atStart=>exact ⟨0,_,qs1,Nat.zero_le _,rfl,rfl,rfl,HS.o.1,HS.o.2.1,HS.o.2.2.1,HS.o.2.2.2,HI.o.1⟩
    case round =>
     obtain ⟨k,ov3,qs3,hk,rfl,rfl,rfl,hst,hok,h0,hql,hlr⟩:=hrel;have HS3:=bH (bI hst (bI hok (bI h0 hql)));have HL:=bH hlr;clear hst hok h0 hql hlr;by_cases hkc:k<cn
     ·have k0:(k:Int)<(cn:Int):=(by omega);have k1:(0:Int)<=(k:Int):=(by omega);have hkl:k<l2.length:=(by rw [HCn.o]; exact hkc);have hkv:=HI.o.2.1 (l2.getD k 0) (by rw [getD_lt hkl]; exact List.getElem_mem _);obtain ⟨cg,rfl⟩:∃ cg,co=some ⟨cg,0,none⟩:=by
       rcases HL.o.shape with ⟨e,e2⟩ | ⟨g,c,e,_,_⟩
       ·rw [e2] at hkl; exact absurd hkl (Nat.not_lt_zero k)
       ·cases e; exact ⟨_,rfl⟩
      have e0:=(HL.o.cell hkl).1;generalize l2.getD k 0=kv at *;clear hkl;obtain ⟨wm,hmk,hA,hxm⟩:=run_make_rats wr (i+1) (by omega);have hi1:((i+1:Nat):Int)=(i:Int)+1:=(by omega);rw [hi1] at hmk;have HA:=bH (bI hA (bI hxm (show wr.heap.size<wm.heap.size from hA.lt)));clear hA hxm hi1;have k2:IntKind.i64.wrap ((i:Int)+1)=(i:Int)+1:=IntWalk.i64_in _ (by omega);have i2:(i:Int)<(i:Int)+1:=(by omega);have i3:(i:Int)<((i+1:Nat):Int):=(by omega);have HFr:=bH (pfrac_any wm sg kv (by rcases HSg.o with e | e <;> rw [e] <;> exact ⟨by decide,by decide⟩) ⟨by omega,by omega⟩ (by omega));have HSq:=bH (show Sz ((sg:Rat) / (kv:Rat)) 10 from quot_sz (by rcases HSg.o with e | e <;> rw [e] <;> exact ⟨by decide,by decide⟩) ⟨by omega,by omega⟩);generalize ((sg:Rat) / (kv:Rat))=Q at *;clear hkv;go_upto_region 26 with fail;clear e0 hmk;obtain ⟨B,hB⟩:∃ q,wr.heap.size=q:=⟨_,rfl⟩;have HBw:=bH (Nat.le_of_eq hB);rw [hB] at HA ⊢;clear hB;go_wp2_with fail;refine HFr.o.mono ?_;rintro r13 w13 ⟨v13,rfl,h13,hx13⟩;obtain ⟨n3,a3,l3,c3,a3',l3',c3',rfl⟩:=h13.shape;have harr:=HA.o.1.keep hx13;have f0:=harr.free (i*3);have f1:=harr.free (i*3+1);have f2:=harr.free (i*3+2);obtain ⟨y0,y1,y2,y3,y4,y5,y6,t0,t1,t2,-⟩:=harr.cells i (Nat.lt_succ_self i);obtain ⟨q1,q2,-⟩:=harr.put (Nat.lt_succ_self i) h13;have HA2:=bH (bI q1 ((HA.o.2.1.trans hx13).own q2 (fun k e=>by rw [show k=B from e]; exact HBw.o)));clear harr q1 q2 h13 hx13 HFr;go_upto_region 27 with fail;generalize ((w13.setCell ⟨B,i*3,none⟩ (.bool n3)).setCell ⟨B,i*3+1,none⟩ (.slice a3 l3 c3)).setCell ⟨B,i*3+2,none⟩ (.slice a3' l3' c3')=w14 at *;clear f0 f1 f2 t0 t1 t2;have HQ:=bH (show CutAt w14 ⟨⟨0,listTo (i+1) (fun j=>if j=i then Q else 0),0,[]⟩,some ⟨B,0,none⟩,i+1,i+1,none,0,0⟩ from
       ⟨.inr ⟨B,_,rfl,rfl,(show i+1<=1000 by omega),HA2.o.1,rfl,fun j _=>(by
        show Sz (if j=i then Q else 0) 10;split
        ·exact HSq.o
        ·exact Sz.zero.mono (by decide))⟩,IRow.nil _ _⟩)
      obtain ⟨c2,hc2⟩:∃ c:CutV,c=⟨0,listTo (i+1) (fun j=>if j=i then Q else 0),0,[]⟩:=⟨_,rfl⟩;have HC2:=bH (show c2.kind=0/\c2.row=0/\c2.vars.length<=1000 from by rw [hc2]; exact ⟨rfl,rfl,Nat.zero_le _⟩);rw [<- hc2] at HQ;clear hc2 HSq;have hxc:=(Ext.refl (fun _=>False) w14).alloc (.cells #[.int .i64 0,.slice (some ⟨B,0,none⟩) (i+1) (i+1),.int .i64 0,.slice none 0 0] 29);replace HQ:=bH (HQ.o.keep hxc);have HC:=bH (blk_alloc_at w14 (.cells #[.int .i64 0,.slice (some ⟨B,0,none⟩) (i+1) (i+1),.int .i64 0,.slice none 0 0] 29));replace HA2:=bH (HA2.o.2.trans hxc);clear hxc HA;go_upto_region 28 with fail;generalize w14.alloc (.cells #[.int .i64 0,.slice (some ⟨B,0,none⟩) (i+1) (i+1),.int .i64 0,.slice none 0 0] 29)=w15 at *;generalize w14.heap.size=cbx2 at *;have HX:=bH (HB.o.2.trans (HS3.o.1.ext.trans HA2.o));have p0:=cell_keep (cellq HB.o.1 0 rfl) (HS3.o.1.ext.trans HA2.o);have p1:=cell_keep (cellq HB.o.1 1 rfl) (HS3.o.1.ext.trans HA2.o);have c0:=cellq HC.o 0 rfl;have c1:=cellq HC.o 1 rfl;have c2':=cellq HC.o 2 rfl;have c3':=cellq HC.o 3 rfl;have hI:=HQ.o.isCut;dsimp only at hI;rw [HC2.o.1,HC2.o.2.1] at hI;have HBx:=bH (HBr.o w15 HX.o _ c2 hI HC2.o.2.2);obtain ⟨BR,hBR⟩:∃ b,breaksP p c2 x=b:=⟨_,rfl⟩;have HBR:=bH hBR;rw [hBR] at HBx;clear hI hBR HX;go_wp2_with fail;refine HBx.o.mono ?_;rintro r16 w16 ⟨rfl,hx16⟩;replace HQ:=bH (HQ.o.keep hx16);replace HC:=bH (blk_keep HC.o hx16);replace HA2:=bH (HA2.o.trans hx16);replace HS3:=bH (bI (HS3.o.1.keep HA2.o) HS3.o.2);replace HL:=bH (HL.o.keep HA2.o);clear p0 p1 c0 c1 c2' c3' hx16 HBx;cases BR with
      | false =>
       go_wp2;go_roundg (cn - (k+1));case measure=>omega
       case rel=>exact ⟨k+1,_,qs3,by omega,rfl,rfl,by go_num,HS3.o.1,HS3.o.2.1,HS3.o.2.2.1,by have:=HS3.o.2.2.2; omega,HL.o⟩
      | true =>
       have c0:=cellq HC.o 0 rfl;have c1:=cellq HC.o 1 rfl;have c2':=cellq HC.o 2 rfl;have c3':=cellq HC.o 3 rfl;have hxs:=(Ext.refl (fun _=>False) w16).alloc (.cells #[.int .i64 0,.slice (some ⟨B,0,none⟩) (i+1) (i+1),.int .i64 0,.slice none 0 0] 29);have hsr:=cut_src w16 ⟨c2,some ⟨B,0,none⟩,i+1,i+1,none,0,0⟩;dsimp only at hsr;rw [HC2.o.1,HC2.o.2.1] at hsr;have HKp:=bH (bI (HS3.o.1.keep hxs) (bI hsr (bI (HL.o.keep hxs) (HQ.o.keep hxs))));clear hxs hsr;have HLq:=bH (show qs3.length<=100000 from by have:=HS3.o.2.2.2; omega);go_wp2_with (at_builtin; refine wpList_appG rfl (.tmp 98) (.tmp 100) rfl Tryz.underlying52 Tryz.infoCut rfl (cQ_noD ⟨⟨0,[],0,[]⟩,none,0,0,none,0,0⟩) (by decide) (by decide) w2.heap.size ov3 qs3.length (qs3.flatMap cQ) rfl HKp.o.1.own HKp.o.1.nod (cQs_noD _) ⟨w16.heap.size,0,none⟩ 1 (cQ ⟨c2,some ⟨B,0,none⟩,i+1,i+1,none,0,0⟩) rfl rfl HKp.o.2.1 (cQ_one _) (cQ_noD _) HLq.o HKp.o.1.ext.size ?_; intro v15 w17 ha15; have HP:=bH (bI (HKp.o.1.push ha15 HKp.o.2.2.2) (HKp.o.1.row_push ha15 HKp.o.2.2.1)); clear ha15);go_roundg (cn - (k+1));case measure=>omega
       case rel=>exact ⟨k+1,_,_,by omega,rfl,rfl,by go_num,HP.o.1,(fun q hq=>by
        rcases List.mem_append.1 hq with h | h
        ·exact HS3.o.2.1 q h
        ·rw [List.mem_singleton.1 h];exact ⟨HBR.o,HSk.o c2 HC2.o.2.2⟩),(fun _ _ _ h=>by simp at h),(by rw [List.length_append,List.length_singleton]; have:=HS3.o.2.2.2; omega),HP.o.2⟩
     ·obtain rfl:k=cn:=(by omega);clear HI HL HCn;go_wp2;go_roundg (m - (i+1));case measure=>omega
      case rel=>exact ⟨i+1,_,qs3,by omega,rfl,rfl,by go_num,HS3.o.1,HS3.o.2.1,fun _=>HS3.o.2.2.1,by have:=HS3.o.2.2.2; omega⟩
   ·obtain rfl:i=m:=(by omega);have HOw:=bH (own_down HS.o.1.own HB.o.2.size);have HXe:=bH (HB.o.2.trans HS.o.1.ext);have HMe:=bH (show validB p=true->0<p.rows.length->Sep0 p x qs from fun _ h=>HS.o.2.2.1 (by rw [<- HM.o]; exact h));go_wp2;go_ret;exact ⟨_,qs,rfl,HOw.o,fun q hq=>⟨HS.o.1.cuts q hq,HS.o.2.1 q hq⟩,(fun e=>by rw [HVB.o] at e; cases e),HMe.o,HXe.o⟩
theorem quot_pos {z y:Int} (hy:0<y):mkRat z y.natAbs=(z:Rat) / (y:Rat):=by
 obtain ⟨n,rfl⟩:∃ n:Nat,y=n:=⟨y.toNat,by omega⟩;rw [Int.natAbs_natCast,Rat.mkRat_eq_div]; rfl
theorem quot_neg {z y:Int} (hy:y<0):mkRat (-z) y.natAbs=(z:Rat) / (y:Rat):=by
 obtain ⟨n,rfl⟩:∃ n:Nat,y = -(n:Int):=⟨(-y).toNat,by omega⟩;rw [Int.natAbs_neg,Int.natAbs_natCast,Rat.mkRat_eq_div,Rat.intCast_neg,Rat.intCast_neg,Rat.intCast_natCast];grind
theorem boxI_of {W:World} {k:Nat} {neg:Bool} {ao:Option Addr} {n c:Nat} (h:blk W k=some (.cells #[.bool neg,.slice ao n c] 62 (0,0))):BoxI W k neg (.slice ao n c):=⟨h,no_int _ _ _⟩
theorem BoxI.keep {W W':World} {b:Nat} {neg:Bool} {m:Value} (h:BoxI W b neg m) (hx:XF W W'):BoxI W' b neg m:=h.ext hx id
theorem Rmake_any (w:World) (v v':Value) (z y:Int) (L:Nat) (h:Rint w v z L) (h':Rint w v' y L) (hy:y≠0) (hL:L<=33554432) :
  Calls Tryz.prog 55 #[v,v'] w (QtPost w ((z:Rat) / (y:Rat))):=by
 have HF:=bH (fun W (hW:XF w W)=>Rfix_any W v' y L (h'.keep hW) (by omega));have hlz:=h.len;have hly:=h'.len;obtain ⟨n1,a1,m1,c1,l1,rfl,hr,hl,hz⟩:=h.open;obtain ⟨n2,a2,m2,c2,l2,rfl,-,-,-⟩:=h'.open;have HZ:=bH (bI hr (bI hl hz));clear hr hl hz h h';obtain ⟨b0,b1,b2,hx⟩:=box3 w (.cells #[.bool n1,.slice a1 m1 c1] 62) (.cells #[.bool n2,.slice a2 m2 c2] 62) (.cells #[.bool false,.slice none 0 0,.slice none 0 0] 64);have HB:=bH (bI (boxI_of b0) (bI (boxI_of b1) (bI (boxR_of b2) hx)));clear b0 b1 b2 hx;go_enter Tryz.func55,Tryz.ntmps55;go_upto_region 1 with fail;generalize ((w.alloc (.cells #[.bool n1,.slice a1 m1 c1] 62)).alloc (.cells #[.bool n2,.slice a2 m2 c2] 62)).alloc (.cells #[.bool false,.slice none 0 0,.slice none 0 0] 64)=w1 at *;obtain ⟨pb,hpb⟩:∃ pb,w.heap.size=pb:=⟨_,rfl⟩;have hpw:w.heap.size<=pb:=Nat.le_of_eq hpb;rw [hpb] at HB ⊢;clear hpb;obtain ⟨e0,e1,-⟩:=HB.o.2.1.facts;go_upto_region 2 with (go_at_call 100; refine (HF.o _ HB.o.2.2.2).mono ?_; rintro r2 w2 ⟨v2,rfl,h2,hx2⟩; obtain ⟨m0,rfl,hm0⟩:=h2; obtain ⟨ao,cc,rfl⟩:=hm0.shape; have hb2:=HB.o.2.1.keep hx2; obtain ⟨d0,d1,d2,d3⟩:=hb2.facts; clear e0 e1);have hp:=hb2.put (neg:=decide (y<0)) (no_int ao (dg y.natAbs).length cc);have HB2:=bH (bI ((HB.o.1.keep hx2).ext hp.ext (by omega)) (bI hp.box (bI ((HB.o.2.2.1.keep hx2).ext hp.ext (by omega)) (bI ((HB.o.2.2.2.trans hx2).own hp.ext (fun k e=>by omega)) (bI (hp.rds _ _ (HZ.o.1.keep (HB.o.2.2.2.trans hx2))) (hp.rds _ _ hm0))))));clear d0 d1 d2 d3 hp hb2 hm0 hx2 HB HF;generalize (w2.setCell ⟨pb+1,0,none⟩ (.bool (decide (y<0)))).setCell ⟨pb+1,1,none⟩ (.slice ao (dg y.natAbs).length cc)=w3 at *;have hny:0<y.natAbs:=by omega
 have hnl:(dg y.natAbs).length≠0:=fun e=>by
  have h1:=vl_dg y.natAbs;rw [List.eq_nil_of_length_eq_zero e] at h1;have h2:vl []=0:=rfl;omega
 have HLy:=bH hly;obtain ⟨yl,hyl⟩:∃ yl,(dg y.natAbs).length=yl:=⟨_,rfl⟩;rw [hyl] at HB2 hnl hly ⊢;have hyl1:¬ (yl:Int)=0:=by omega
 clear hyl;have HRb:=bH (fun W u zz (hu:Rint W u zz L) (hn:IsNat W (.slice ao yl cc) y.natAbs)=>Rrbuild_any W u zz y.natAbs L _ hu hn hny (by omega) (Nat.le_trans HLy.o (by omega)));have HN:=bH (fun W (hW:XF w3 W)=>Rneg_any W (.agg #[.bool n1,.slice a1 m1 c1]) z L ⟨n1,_,l1,rfl,Rds.keep HB2.o.2.2.2.2.1 hW,HZ.o.2.1,HZ.o.2.2⟩ (by omega));obtain ⟨e0,e1,-⟩:=HB2.o.2.1.facts;rcases Int.lt_or_gt_of_ne hy with hlt | hgt
 ·have hd:decide (y<0)=true:=decide_eq_true hlt;obtain ⟨zn,hzn⟩:∃ x,-z=x:=⟨_,rfl⟩;have hq:mkRat zn y.natAbs=(z:Rat) / (y:Rat):=(by rw [<- hzn]; exact quot_neg hlt);have hlz2:(dg zn.natAbs).length<=L:=(by rw [<- hzn,Int.natAbs_neg]; exact hlz);rw [hzn] at HN;clear hzn;rw [hd] at e0;obtain ⟨f0,f1,f2,f3⟩:=HB2.o.1.facts;go_upto_region 6 with (go_at_call 101; refine (HN.o _ (Ext.refl _ _)).mono ?_; rintro r4 w4 ⟨v4,rfl,h4,hx4⟩; obtain ⟨m4,rfl,hm4⟩:=h4; obtain ⟨bo,bc,rfl⟩:=hm4.shape; have hb4:=HB2.o.1.keep hx4; obtain ⟨d0,d1,d2,d3⟩:=hb4.facts);have hp:=hb4.put (neg:=decide (zn<0)) (no_int bo (dg zn.natAbs).length bc);have HB3:=bH (bI hp.box (bI (((HB2.o.2.1.keep hx4)).ext hp.ext (by omega)) (bI ((HB2.o.2.2.1.keep hx4).ext hp.ext (by omega)) ((HB2.o.2.2.2.1.trans hx4).own hp.ext (fun k e=>by omega)))));have HRc:=bH (HRb.o _ _ zn (IsInt.reads ⟨_,rfl,hp.rds _ _ hm4⟩ hlz2) (hp.rds _ _ (Rds.keep HB2.o.2.2.2.2.2 hx4)));rw [hq] at HRc;clear d0 d1 d2 d3 hp hb4 hm4 hx4 e0 e1 f0 f1 f2 f3 HB2 HN HRb;generalize (w4.setCell ⟨pb,0,none⟩ (.bool (decide (zn<0)))).setCell ⟨pb,1,none⟩ (.slice bo (dg zn.natAbs).length bc)=w5 at *;obtain ⟨f0,f1,-⟩:=HB3.o.1.facts;obtain ⟨g0,g1,-⟩:=HB3.o.2.1.facts;go_wp2_with fail;refine HRc.o.mono ?_;rintro q4 w14 ⟨v14,rfl,h14,hx14⟩;obtain ⟨ng,sa,sn,sc,ta,tn,tc,rfl⟩:=h14.shape;have hr4:=HB3.o.2.2.1.keep hx14;obtain ⟨d0,d1,d2,d3,d4,d5⟩:=hr4.facts;have hp:=hr4.put (neg:=ng) (no_int sa sn sc) (no_int ta tn tc);have HR:=bH (bI (hp.rat h14) (bI ((HB3.o.2.2.2.trans hx14).own hp.ext (fun k e=>by omega)) hp.box));clear hp hr4 h14 hx14 f0 f1 g0 g1;go_wp2;generalize ((w14.setCell ⟨pb+1+1,0,none⟩ (.bool ng)).setCell ⟨pb+1+1,1,none⟩ (.slice sa sn sc)).setCell ⟨pb+1+1,2,none⟩ (.slice ta tn tc)=w20 at *;obtain ⟨g0,g1,g2,_⟩:=HR.o.2.2.facts;exact bodyPost_ret (v:=.tuple #[.agg #[.bool ng,.slice sa sn sc,.slice ta tn tc],.int .i64 0]) (by simp [results,Tryz.results55,go_sem,g0,g1,g2]) rfl ⟨_,rfl,HR.o.1,HR.o.2.1⟩
 ·have hd:decide (y<0)=false:=decide_eq_false (by omega);rw [hd] at e0;have HB3:=bH (bI HB2.o.1 (bI HB2.o.2.1 (bI HB2.o.2.2.1 HB2.o.2.2.2.1)));have HRc:=bH (HRb.o _ (.agg #[.bool n1,.slice a1 m1 c1]) z ⟨n1,_,l1,rfl,HB2.o.2.2.2.2.1,HZ.o.2.1,HZ.o.2.2⟩ HB2.o.2.2.2.2.2);rw [quot_pos hgt] at HRc;go_upto_region 6 with fail;clear e0 e1 HB2 HN HRb;obtain ⟨f0,f1,-⟩:=HB3.o.1.facts;obtain ⟨g0,g1,-⟩:=HB3.o.2.1.facts;go_wp2_with fail;refine HRc.o.mono ?_;rintro q4 w14 ⟨v14,rfl,h14,hx14⟩;obtain ⟨ng,sa,sn,sc,ta,tn,tc,rfl⟩:=h14.shape;have hr4:=HB3.o.2.2.1.keep hx14;obtain ⟨d0,d1,d2,d3,d4,d5⟩:=hr4.facts;have hp:=hr4.put (neg:=ng) (no_int sa sn sc) (no_int ta tn tc);have HR:=bH (bI (hp.rat h14) (bI ((HB3.o.2.2.2.trans hx14).own hp.ext (fun k e=>by omega)) hp.box));clear hp hr4 h14 hx14 f0 f1 g0 g1;go_wp2;generalize ((w14.setCell ⟨pb+1+1,0,none⟩ (.bool ng)).setCell ⟨pb+1+1,1,none⟩ (.slice sa sn sc)).setCell ⟨pb+1+1,2,none⟩ (.slice ta tn tc)=w20 at *;obtain ⟨g0,g1,g2,_⟩:=HR.o.2.2.facts;exact bodyPost_ret (v:=.tuple #[.agg #[.bool ng,.slice sa sn sc,.slice ta tn tc],.int .i64 0]) (by simp [results,Tryz.results55,go_sem,g0,g1,g2]) rfl ⟨_,rfl,HR.o.1,HR.o.2.1⟩
theorem Rfrac_any (w:World) (k d:Int) (hk:InR k) (hd:InR d) (h0:d≠0):Calls Tryz.prog 30 #[.int .i64 k,.int .i64 d] w (QtPost w ((k:Rat) / (d:Rat))):=by
 have hlk:(dg k.natAbs).length<=2:=by have h:=(Sz.int hk).1; rwa [Rat.num_intCast] at h
 have hld:(dg d.natAbs).length<=2:=by have h:=(Sz.int hd).1; rwa [Rat.num_intCast] at h
 have HFk:=bH (fun W=>Rifrom_any W k hk.1 hk.2);have HFd:=bH (fun W=>Rifrom_any W d hd.1 hd.2);have HM:=bH (fun W u v (hu:IsInt W u k) (hv:IsInt W v d)=>Rmake_any W u v k d 2 (hu.reads hlk) (hv.reads hld) h0 (by decide));have HB:=bH (bI (boxR_new rfl false none 0 0 none 0 0 (W:=w)) ((Ext.refl (fun _=>False) w).alloc (.cells #[.bool false,.slice none 0 0,.slice none 0 0] 64)));clear hlk hld hk hd h0;go_enter Tryz.func30,Tryz.ntmps30;go_upto_region 1 with fail;generalize w.alloc (.cells #[.bool false,.slice none 0 0,.slice none 0 0] 64)=w0 at *;obtain ⟨rb,hrb⟩:∃ q,w.heap.size=q:=⟨_,rfl⟩;rw [hrb] at HB ⊢;have HRl:=bH (show w.heap.size<=rb from Nat.le_of_eq hrb);clear hrb;go_wp2_with (first | (go_at_call 56; (first | ((with_reducible refine (HFk.o w0).mono ?_); rintro q1 w1 ⟨v1,rfl,h1,hx1⟩) | ((with_reducible refine (HFd.o w1).mono ?_); rintro q2 w2 ⟨v2,rfl,h2,hx2⟩))) | (go_at_call 55; (with_reducible refine (HM.o w2 _ _ (h1.keep hx2) h2).mono ?_); rintro q3 w3 ⟨v3,rfl,h3,hx3⟩; obtain ⟨n3,a3,l3,c3,a3',l3',c3',rfl⟩:=h3.shape; have hbk:=HB.o.1.ext ((hx1.trans hx2).trans hx3) id; obtain ⟨d0,d1,d2,d3,d4,d5⟩:=hbk.facts; have hpt:=hbk.put (neg:=n3) (no_int a3 l3 c3) (no_int a3' l3' c3'); have HE:=bH (bI hpt.box (bI (hpt.rat h3) ((HB.o.2.trans ((hx1.trans hx2).trans hx3)).own hpt.ext (fun q e=>by have:=HRl.o; omega)))); clear hbk hpt));generalize ((w3.setCell ⟨rb,0,none⟩ (.bool n3)).setCell ⟨rb,1,none⟩ (.slice a3 l3 c3)).setCell ⟨rb,2,none⟩ (.slice a3' l3' c3')=w9 at *;obtain ⟨g0,g1,g2,_⟩:=HE.o.1.facts;exact bodyPost_ret (v:=.tuple #[.agg #[.bool n3,.slice a3 l3 c3,.slice a3' l3' c3'],.int .i64 0]) (by simp [results,Tryz.results30,go_sem,g0,g1,g2]) rfl ⟨_,rfl,HE.o.2.1,HE.o.2.2⟩
def ex7V:List VarV:=[⟨0,1,false,true,0⟩,⟨0,1,false,true,0⟩,⟨0,1,false,true,0⟩]
def ex7T:List TermV:=[⟨0,3⟩,⟨1,4⟩,⟨2,5⟩]
def ex7R:RowV:=⟨⟨#[]⟩,0,0,ex7T,7⟩
def ex7:ProgV:=⟨ex7V,[ex7R]⟩
def ex7X:List Rat:=[((1:Int):Rat),((1:Int):Rat) / ((2:Int):Rat),((2:Int):Rat) / ((5:Int):Rat)]
theorem example7_any (w:World):Calls Tryz.prog 29 #[] w (PrgPost w ex7):=by
 have hx:=Ext.refl (fun _=>False) w;go_enter Tryz.func29,Tryz.ntmps29;go_wp2;(try simp only [Exit.inBlock,Exit.then]);obtain ⟨bs,hbs⟩:∃ bs,w.heap.size=bs:=⟨_,rfl⟩;have hx4:=((((hx.alloc (.cells #[.slice (some ⟨w.heap.size+1+1,0,none⟩) 3 3,.slice (some ⟨w.heap.size+1+1+1+1,0,none⟩) 1 1] 25)).alloc (.cells #[.int .i64 0,.int .i64 1,.bool false,.bool true,.int .i64 0] 73)).alloc (.cells #[.int .i64 0,.int .i64 1,.bool false,.bool true,.int .i64 0,.int .i64 0,.int .i64 1,.bool false,.bool true,.int .i64 0,.int .i64 0,.int .i64 1,.bool false,.bool true,.int .i64 0] 73)).alloc (.cells #[.int .i64 0,.int .i64 3,.int .i64 1,.int .i64 4,.int .i64 2,.int .i64 5] 70)).alloc (.cells #[.string ⟨#[]⟩,.int .i64 0,.int .i64 0,.slice (some ⟨w.heap.size+1+1+1,0,none⟩) 3 3,.int .i64 7] 35);obtain ⟨W,hW⟩:∃ W,((((w.alloc (.cells #[.slice (some ⟨w.heap.size+1+1,0,none⟩) 3 3,.slice (some ⟨w.heap.size+1+1+1+1,0,none⟩) 1 1] 25)).alloc (.cells #[.int .i64 0,.int .i64 1,.bool false,.bool true,.int .i64 0] 73)).alloc (.cells #[.int .i64 0,.int .i64 1,.bool false,.bool true,.int .i64 0,.int .i64 0,.int .i64 1,.bool false,.bool true,.int .i64 0,.int .i64 0,.int .i64 1,.bool false,.bool true,.int .i64 0] 73)).alloc (.cells #[.int .i64 0,.int .i64 3,.int .i64 1,.int .i64 4,.int .i64 2,.int .i64 5] 70)).alloc (.cells #[.string ⟨#[]⟩,.int .i64 0,.int .i64 0,.slice (some ⟨w.heap.size+1+1+1,0,none⟩) 3 3,.int .i64 7] 35)=W:=⟨_,rfl⟩;have b0:blk W (w.heap.size)=some (.cells #[.slice (some ⟨w.heap.size+1+1,0,none⟩) 3 3,.slice (some ⟨w.heap.size+1+1+1+1,0,none⟩) 1 1] 25 (0,0)):=by
  rw [<- hW];exact ((blk_alloc_past _ _ _ (by simp [World.size_alloc] <;> omega)).trans ((blk_alloc_past _ _ _ (by simp [World.size_alloc] <;> omega)).trans ((blk_alloc_past _ _ _ (by simp [World.size_alloc] <;> omega)).trans ((blk_alloc_past _ _ _ (by simp [World.size_alloc] <;> omega)).trans (blk_alloc_at _ _)))))
 have b2:blk W (w.heap.size+1+1)=some (.cells #[.int .i64 0,.int .i64 1,.bool false,.bool true,.int .i64 0,.int .i64 0,.int .i64 1,.bool false,.bool true,.int .i64 0,.int .i64 0,.int .i64 1,.bool false,.bool true,.int .i64 0] 73 (0,0)):=by
  rw [<- hW];exact ((blk_alloc_past _ _ _ (by simp [World.size_alloc] <;> omega)).trans ((blk_alloc_past _ _ _ (by simp [World.size_alloc] <;> omega)).trans (blk_alloc_at' _ _ _ (by simp [World.size_alloc]))))
 have b3:blk W (w.heap.size+1+1+1)=some (.cells #[.int .i64 0,.int .i64 3,.int .i64 1,.int .i64 4,.int .i64 2,.int .i64 5] 70 (0,0)):=by
  rw [<- hW];exact ((blk_alloc_past _ _ _ (by simp [World.size_alloc] <;> omega)).trans (blk_alloc_at' _ _ _ (by simp [World.size_alloc])))
 have b4:blk W (w.heap.size+1+1+1+1)=some (.cells #[.string ⟨#[]⟩,.int .i64 0,.int .i64 0,.slice (some ⟨w.heap.size+1+1+1,0,none⟩) 3 3,.int .i64 7] 35 (0,0)):=by
  rw [<- hW];exact (blk_alloc_at' _ _ _ (by simp [World.size_alloc]))
 rw [hW] at hx4 ⊢;have hs:w.heap.size+1+1+1+1<W.heap.size:=blk_lt b4;clear hW;rw [hbs] at b0 b2 b3 b4 hs ⊢;refine bodyPost_ret (results_cell_row rfl _ W bs 25 _ (0,0) _ rfl b0 Tryz.underlying25 rfl (by kernel_rfl)) rfl ?_;refine ⟨_,rfl,⟨_,_,rfl,⟨⟨_,_,rfl,Nat.le_refl _,(by unfold maxLen; decide),(fun e=>by cases e),fun _=>⟨bs+1+1,0,rfl,by omega,?_⟩⟩,?_⟩,⟨[.slice (some ⟨bs+1+1+1,0,none⟩) 3 3],rfl,⟨_,_,rfl,Nat.le_refl _,(by show (1:Nat)<=maxLen; unfold maxLen; decide),(fun e=>by cases e),fun _=>⟨bs+1+1+1+1,0,rfl,by omega,?_⟩⟩,?_⟩⟩,hx4⟩
 ·intro i r hi j u hu;match i,hi with
  | 0,hi=>cases hi; match j,hu with
   | 0,hu=>cases hu; exact cellq b2 0 rfl
   | 1,hu=>cases hu; exact cellq b2 1 rfl
   | 2,hu=>cases hu; exact cellq b2 2 rfl
   | 3,hu=>cases hu; exact cellq b2 3 rfl
   | 4,hu=>cases hu; exact cellq b2 4 rfl
  | 1,hi=>cases hi; match j,hu with
   | 0,hu=>cases hu; exact cellq b2 5 rfl
   | 1,hu=>cases hu; exact cellq b2 6 rfl
   | 2,hu=>cases hu; exact cellq b2 7 rfl
   | 3,hu=>cases hu; exact cellq b2 8 rfl
   | 4,hu=>cases hu; exact cellq b2 9 rfl
  | 2,hi=>cases hi; match j,hu with
   | 0,hu=>cases hu; exact cellq b2 10 rfl
   | 1,hu=>cases hu; exact cellq b2 11 rfl
   | 2,hu=>cases hu; exact cellq b2 12 rfl
   | 3,hu=>cases hu; exact cellq b2 13 rfl
   | 4,hu=>cases hu; exact cellq b2 14 rfl
 ·intro x hx;simp [ex7,ex7V] at hx;subst hx;exact ⟨by unfold InR; decide,by unfold InR; decide,by unfold InR; decide⟩
 ·intro i r hi j u hu;match i,hi with
  | 0,hi=>cases hi; match j,hu with
   | 0,hu=>cases hu; exact cellq b4 0 rfl
   | 1,hu=>cases hu; exact cellq b4 1 rfl
   | 2,hu=>cases hu; exact cellq b4 2 rfl
   | 3,hu=>cases hu; exact cellq b4 3 rfl
   | 4,hu=>cases hu; exact cellq b4 4 rfl
 ·intro i r tv hr ht;match i,hr,ht with
  | 0,hr,ht =>
   cases hr; cases ht;refine ⟨⟨⟨_,_,rfl,Nat.le_refl _,(by unfold maxLen; decide),(fun e=>by cases e),fun _=>⟨bs+1+1+1,0,rfl,by omega,?_⟩⟩,?_⟩,⟨(by show (0:Nat)<=maxLen; unfold maxLen; decide),by unfold InR; decide,by unfold InR; decide,by unfold InR; decide⟩⟩
   ·intro i r hi j u hu;match i,hi with
    | 0,hi=>cases hi; match j,hu with
     | 0,hu=>cases hu; exact cellq b3 0 rfl
     | 1,hu=>cases hu; exact cellq b3 1 rfl
    | 1,hi=>cases hi; match j,hu with
     | 0,hu=>cases hu; exact cellq b3 2 rfl
     | 1,hu=>cases hu; exact cellq b3 3 rfl
    | 2,hi=>cases hi; match j,hu with
     | 0,hu=>cases hu; exact cellq b3 4 rfl
     | 1,hu=>cases hu; exact cellq b3 5 rfl
   ·intro x hx;have hx:x ∈ ex7T:=hx; simp [ex7T] at hx;rcases hx with rfl | rfl | rfl <;> exact ⟨by unfold InR; decide,by unfold InR; decide⟩
theorem ex7_valid:validB ex7=true:=by decide +kernel
theorem ex7_ord:OrdOk ex7 (ex7.r 0) ex7X [0,1,2]:=by
 refine ⟨?_,fun v=>?_⟩
 ·have h1:bef ex7X 0 1:=.inl (by decide +kernel);have h2:bef ex7X 0 2:=.inl (by decide +kernel);have h3:bef ex7X 1 2:=.inl (by decide +kernel);simp [h1,h2,h3]
 ·rw [show binsR ex7 (ex7.r 0)=[0,1,2] from by decide +kernel]
theorem ex7_min:minV ex7 (ex7.r 0) [0,1,2]=some [0,2]:=by decide +kernel
def ex7C:CutV:=⟨1,[],0,[0,2]⟩
def ex7D:CutV:=⟨0,[((-1:Int):Rat) / ((4:Int):Rat)],0,[]⟩
theorem ex7_cov:CovIs ex7 ((0:Nat):Int) ex7X ex7C true:=covIs_some ex7_ord ex7_min ⟨by decide,fun v=>Iff.rfl⟩
theorem terms_eq:∀ {a b:List TermV},a.map (fun t=>(t.var,t.coef))=b.map (fun t=>(t.var,t.coef))->a=b
 | [],[],_=>rfl
 | [],_ :: _,h=>by simp at h
 | _ :: _,[],h=>by simp at h
 | ⟨v,c⟩ :: a,⟨v',c'⟩ :: b,h=>by
  simp only [List.map_cons,List.cons.injEq,Prod.mk.injEq] at h;obtain ⟨⟨rfl,rfl⟩,h⟩:=h;rw [terms_eq h]
theorem rowE_eq {a b:RowV × Int} (h1:a.1.name=b.1.name) (h2:(a.1.group,a.1.kind,a.1.bound,a.2)=(b.1.group,b.1.kind,b.1.bound,b.2)) (h3:a.1.terms.map (fun t=>(t.var,t.coef))=b.1.terms.map (fun t=>(t.var,t.coef))):a=b:=by
 obtain ⟨⟨n,g,k,t,c⟩,e⟩:=a;obtain ⟨⟨n',g',k',t',c'⟩,e'⟩:=b;simp only [Prod.mk.injEq] at h1 h2;obtain ⟨rfl,rfl,rfl,rfl⟩:=h2;subst h1;rw [show t=t' from terms_eq h3]
theorem ex7_der:deriveP ex7 ex7C=(⟨⟨#[99,117,116]⟩,0,0,[⟨0,1⟩,⟨2,1⟩],1⟩,0):=rowE_eq (by decide +kernel) (by decide +kernel) (by decide +kernel)
theorem ex7_der2:deriveP ex7 ex7D=(⟨⟨#[99,117,116]⟩,0,1,[⟨1,-1⟩,⟨2,-1⟩],-1⟩,0):=rowE_eq (by decide +kernel) (by decide +kernel) (by decide +kernel)
theorem ex7_brk:breaksP ex7 ex7C ex7X=true:=by decide +kernel
end Go.Proofs.YtjaldknfeojjkaaGreat
