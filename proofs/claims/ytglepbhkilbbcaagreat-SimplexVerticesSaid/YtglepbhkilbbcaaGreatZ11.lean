/-
  Texts of the proof, part 11. Conditions: each lemma names its own.
-/
import Derived.Test.YtglepbhkilbbcaaGreatZ10
import Derived.Test.YtglepbhkilbbcaaGreatZ4
import Derived.Test.YtglepbhkilbbcaaGreatZ5
import Derived.Test.YtglepbhkilbbcaaGreatZ6
import Derived.Test.YtglepbhkilbbcaaGreatZ7
import Derived.Test.YtglepbhkilbbcaaGreatZ8
import Derived.Test.YtglepbhkilbbcaaGreatZ9
import Derived.Maps.RangeWalk
open Go.Proofs.Tryz
set_option linter.unusedVariables false
set_option linter.unusedSimpArgs false
set_option maxRecDepth 100000
set_option maxHeartbeats 16000000
namespace Go.Proofs.YtglepbhkilbbcaaGreat
open Go.RowKit Go.MapKept
open Go.ChangeMaps (setBlock)
theorem BT.crats{w:World} {b n:Nat} {f:Nat->Rat} (h:BT w b n f) {L:Nat} (hs:∀i,i<n->Sz (f i) L) (hm:n<=maxLen):Ci w (.slice (some ⟨b,0,none⟩) n n) (AP n f) L:=by
 have hex:∀i:Fin n,∃c:BW,w.cell? ⟨b,i*3,none⟩=some (.bool c.ng)/\w.cell? ⟨b,i*3+1,none⟩=some (.slice c.a1 c.m1 c.c1)/\w.cell? ⟨b,i*3+2,none⟩=some (.slice c.a2 c.m2 c.c2)/\AN w c.v (f i):=fun i=>by
  obtain⟨neg,a1,m1,c1,a2,m2,c2,h1⟩:=h.cells i i.2;exact⟨⟨neg,a1,m1,c1,a2,m2,c2⟩,h1⟩
 have hget:∀(i:Nat) (hi:i<n),(List.ofFn fun i:Fin n=>Classical.choose (hex i))[i]?=some (Classical.choose (hex ⟨i,hi⟩)):=fun i hi=>by rw[List.getElem?_ofFn,dif_pos hi]
 refine⟨List.ofFn fun i:Fin n=>Classical.choose (hex i),by rw[List.length_ofFn,A9],⟨some ⟨b,0,none⟩,n,by rw[List.length_map,List.length_ofFn],by rw[List.length_map,List.length_ofFn];exact Nat.le_refl _,hm,(fun e=>by cases e),fun hp=>⟨b,0,rfl,h.lt,fun i r hi j u hu=>?_⟩⟩,fun i c q hc hq=>?_⟩
 ·rw[List.getElem?_map] at hi;obtain⟨x,hx,rfl⟩:=Option.map_eq_some_iff.1 hi;have hin:i<n:=(by have:=(List.getElem?_eq_some_iff.1 hx).1;rwa [List.length_ofFn] at this);rw[hget i hin] at hx;cases hx;obtain⟨e0,e1,e2,_⟩:=Classical.choose_spec (hex ⟨i,hin⟩);rw[Nat.zero_add];match j,hu with
  | 0,hu=>cases hu;exact e0
  | 1,hu=>cases hu;exact e1
  | 2,hu=>cases hu;exact e2
  | j+3,hu=>simp[BW.cells] at hu
 have hin:i<n:=(by have:=(List.getElem?_eq_some_iff.1 hc).1;rwa [List.length_ofFn] at this);rw[hget i hin] at hc;cases hc;have:f i=q:=by
  simp[AP,hin] at hq;exact hq
 rw[<- this];exact⟨(Classical.choose_spec (hex ⟨i,hin⟩)).2.2.2,hs i hin⟩
theorem Di.neBig{w0 w:World} {tb:Nat} {V:Bh} {T:AX} {p:AH} {us ls:List AZ} (h:Di w0 w tb V T p us ls) {b:Nat} {U:TypeId} (hb:DT w b U) (h1:U≠3) (h2:U≠34) (h3:U≠35) (h4:U≠124) (h5:U≠122):¬V.Big tb T.m b:=fun e=>by
 rcases e with e|e
 ·exact DT.ne hb ⟨_,h.box⟩ h5 e
 exact h.rest.ne hb h1 h2 h3 h4 e rfl
theorem C8{w:World} {ob:Nat} {a0 a1 a2 a3 a4 a5 a6:Value} (h:Au w ob=some (.cells #[a0,a1,a2,a3,a4,a5,a6] 37 (0,0))) (x0 x1 x2 x3 x4 x5 x6:Value) :
  Au (((((((w.setCell ⟨ob,0,none⟩ x0).setCell ⟨ob,1,none⟩ x1).setCell ⟨ob,2,none⟩ x2).setCell ⟨ob,3,none⟩ x3).setCell ⟨ob,4,none⟩ x4).setCell ⟨ob,5,none⟩ x5).setCell ⟨ob,6,none⟩ x6) ob=some (.cells #[x0,x1,x2,x3,x4,x5,x6] 37 (0,0)) /\
  AK (fun k=>k=ob) w (((((((w.setCell ⟨ob,0,none⟩ x0).setCell ⟨ob,1,none⟩ x1).setCell ⟨ob,2,none⟩ x2).setCell ⟨ob,3,none⟩ x3).setCell ⟨ob,4,none⟩ x4).setCell ⟨ob,5,none⟩ x5).setCell ⟨ob,6,none⟩ x6):=by
 refine⟨?_,(((((((AK.refl (fun k=>k=ob) w).setCell (p:=⟨ob,0,none⟩) _ (fun _=>rfl)).setCell (p:=⟨ob,1,none⟩) _ (fun _=>rfl)).setCell (p:=⟨ob,2,none⟩) _ (fun _=>rfl)).setCell (p:=⟨ob,3,none⟩) _ (fun _=>rfl)).setCell (p:=⟨ob,4,none⟩) _ (fun _=>rfl)).setCell (p:=⟨ob,5,none⟩) _ (fun _=>rfl)).setCell (p:=⟨ob,6,none⟩) _ (fun _=>rfl)⟩;have h1:=AI h 0 x0;have h2:=AI h1 1 x1;have h3:=AI h2 2 x2;have h4:=AI h3 3 x3;have h5:=AI h4 4 x4;have h6:=AI h5 5 x5;have h7:=AI h6 6 x6;simpa using h7
theorem Fu{w:World} {ob:Nat} (h:Au w ob=some (.cells #[.int .i64 0,.bool false,.slice none 0 0,.slice none 0 0,.slice none 0 0,.slice none 0 0,.slice none 0 0] 37 (0,0))):BN w ob:=Ae h (fun u hu d e=>by
 simp only[List.mem_cons,List.not_mem_nil,or_false] at hu;rcases hu with rfl|rfl|rfl|rfl|rfl|rfl|rfl<;>cases e)
structure Ao(w0 w:World) (tb ob:Nat) (V:Bh) (T:AX) (p:AH) (us ls:List AZ):Prop where
 tab:Di w0 w tb V T p us ls
 good:Dx p ls T us
 obx:Au w ob=some (.cells #[.int .i64 0,.bool false,.slice none 0 0,.slice none 0 0,.slice none 0 0,.slice none 0 0,.slice none 0 0] 37 (0,0))
 obl:w0.heap.size<=ob
section
variable {w0 w w':World} {tb ob s:Nat} {V:Bh} {T:AX} {p:AH} {us ls:List AZ}
theorem Ao.keep(h:Ao w0 w tb ob V T p us ls) (hx:XF w w'):Ao w0 w' tb ob V T p us ls:=⟨h.tab.keep hx,h.good,AM h.obx hx,h.obl⟩
theorem Ao.nob(h:Ao w0 w tb ob V T p us ls):¬V.Big tb T.m ob:=h.tab.neBig ⟨_,h.obx⟩ (by decide) (by decide) (by decide) (by decide) (by decide)
theorem Ao.turn(h:Ao w0 w tb ob V T p us ls) {T':AX} {D D':Tb} (he:F4 (p.vars.length+us.length) (Cb p us) D) (ht:Ud w w' w0.heap.size tb (p.vars.length+us.length) V T T' D D'):Ao w0 w' tb ob V T' p us ls :=
 ⟨h.tab.turn ht.tab ht.n ht.m ht.ext,⟨⟨D',ht.rep,he.trans ht.equ⟩,h.good.nd,h.good.sub⟩,(ht.ext.blk (AT h.obx) (fun e=>h.nob (.inr (Bh.S_all e)))).trans h.obx,h.obl⟩
theorem Ao.more(h:Ao w0 w tb ob V T p us ls) {V':Bh} {R:Dw} (hm:FJ w0 w w' tb V V' T p ls R):Ao w0 w' tb ob V' R.T p R.us ls :=
 ⟨hm.tab,hm.good,(hm.ext.blk (AT h.obx) h.nob).trans h.obx,h.obl⟩
theorem Ao.dual(h:Ao w0 w tb ob V T p us ls) (hB:DA p ls s) (h2s:2<=s) (hs:s<=200000):Calls prog 87 #[.pointer (some ⟨tb,0,none⟩)] w (fun r w'=>∃T',r=.returned (.int .i64 (DG (CK T')))/\Ao w0 w' tb ob V T' p us ls/\Cc (CE (Dj T)) T T'/\((CK T'=none/\∀k,k<T'.m->0<=T'.be k)∨∃i,CK T'=some i/\i<T'.m/\T'.be i<0/\∀c,c<T'.n->0<=T'.al i c)):=by
 obtain⟨D,hr,he⟩:=h.good.rep;refine (TS w w0.heap.size tb _ s V T D h.tab.at hr (fun E hw he2=>hB us h.good.len h.tab.oks E hw (he.trans he2)) h2s hs).mono ?_;rintro r w' ⟨T',D',good,hgd,rfl,ht,_,hh,hend⟩;refine⟨T',rfl,h.turn he ht,by rw[show Dj T=good from hgd.symm];exact hh,?_⟩;rw[ht.n,ht.m];exact hend
theorem Ao.primal(h:Ao w0 w tb ob V T p us ls) (hb:∀k,k<T.m->0<=T.be k) (hB:DA p ls s) (h2s:2<=s) (hs:s<=200000):Calls prog 93 #[.pointer (some ⟨tb,0,none⟩)] w (fun r w'=>∃T',r=.returned (.int .i64 (DG (CF T')))/\Ao w0 w' tb ob V T' p us ls/\Cc CJ T T'/\((CF T'=none)∨∃c,CF T'=some c/\c<T'.n)):=by
 obtain⟨D,hr,he⟩:=h.good.rep;refine (O8 w w0.heap.size tb _ s V T D h.tab.at hr hb (fun E hw he2=>hB us h.good.len h.tab.oks E hw (he.trans he2)) h2s hs).mono ?_;rintro r w' ⟨T',D',rfl,ht,_,hh,hend⟩;refine⟨T',rfl,h.turn he ht,hh,?_⟩;rw[ht.n];rcases hend with⟨e,_⟩|⟨c,e,hc,_⟩
 ·exact .inl e
 exact .inr ⟨c,e,hc⟩
theorem Ao.dist(h:Ao w0 w tb ob V T p us ls) (hn:p.vars.length<=1000):Calls prog 92 #[.pointer (some ⟨tb,0,none⟩)] w (Gu w p.vars.length (BS T.ba T.be T.m)):=FH w w0.heap.size tb V T p h.tab.at h.tab.prg (by omega)
theorem Ao.moreC(h:Ao w0 w tb ob V T p us ls) (hB:DA p ls s) (h2s:2<=s) (hs:s<=200000) (hok:∀l∈ls,BF p l) (hls:ls.length<1000) (hT:∀l∈ls,(AV p l).length*(s+8)+s+20<=2000000) (f:Nat->Rat) (dir:Bool) (hf:∀i,i<p.vars.length->Sz (f i) s) (zb:Nat) (hzn:¬V.Big tb T.m zb) (hz:BT w zb p.vars.length f) :
  Calls prog 91 #[.pointer (some ⟨tb,0,none⟩),.slice (some ⟨zb,0,none⟩) p.vars.length p.vars.length,.bool dir] w (fun r w'=>∃V',r=.returned (.bool (Av p (AP p.vars.length f) dir ls ⟨T,us,false⟩).b)/\Ao w0 w' tb ob V' (Av p (AP p.vars.length f) dir ls ⟨T,us,false⟩).T p (Av p (AP p.vars.length f) dir ls ⟨T,us,false⟩).us ls/\BT w' zb p.vars.length f):=by
 refine (TA w0 w tb s zb V T p us ls f dir h.tab h.good hB hz hzn hf h2s hs hok hls hT).mono ?_;rintro r w' ⟨V',rfl,hm⟩;exact⟨V',rfl,h.more hm,hz.past hm.ext hzn hm.rds⟩
theorem Ao.dsz(h:Ao w0 w tb ob V T p us ls) (hB:DA p ls s) (h2s:2<=s):∀i,i<p.vars.length->Sz (BS T.ba T.be T.m i) s:=fun i _=>In (by omega) (h.good.sz h.tab.oks hB).2.1 i
theorem Ao.nw(h:Ao w0 w tb ob V T p us ls) {k:Nat} (hk:w.heap.size<=k):¬V.Big tb T.m k:=fun e=>by have:=h.tab.lt e;omega
theorem MV{c:Nat} (h1:2<=s):∀{m:Nat},(∀k,k<m->Sz (T.al k c) s)->∀v,Sz (FE T c m v) s
 | 0,_,v=>by
  unfold FE;split
  ·exact (Sz.int (k:=1) ⟨by omega,by omega⟩).mono h1
  exact Sz.zero.mono (by omega)
 | m+1,h,v=>by
  unfold FE;split
  ·exact (h m (by omega)).neg
  exact MV h1 (fun k hk=>h k (by omega)) v
end
def MX(w0 w:World) (v:Value) (o:Co) (L:Nat):Prop:=∀(S:Nat->Prop) (W:World),AK S w W->(∀k,S k->k<w0.heap.size)->(∀u d,Ad w u d->Ad W u d)->IB W v o L
theorem MX.now{w0 w:World} {v:Value} {o:Co} {L:Nat} (h:MX w0 w v o L):IB w v o L:=h (fun _=>False) w (AK.refl _ _) (fun _ e=>e.elim) (fun _ _ k=>k)
theorem BT.far{w0 w W:World} {b n:Nat} {f:Nat->Rat} {S:Nat->Prop} (h:BT w b n f) (hb:w0.heap.size<=b) (hX:AK S w W) (hS:∀k,S k->k<w0.heap.size) (hR:∀u d,Ad w u d->Ad W u d):BT W b n f:=h.past hX (fun e=>by have:=hS _ e;omega) hR
def M6(w0:World) (p:AH) (ls:List AZ) (T0:AX) (us0:List AZ) (L:Nat) (r:Ending) (w':World):Prop:=∃v o,r=.returned v/\CM p ls T0 us0 o/\MX w0 w' v o L/\XF w0 w'
theorem Gq{w w':World} {ob Y n:Nat} {f:Nat->Rat} (hb:Au w ob=some (.cells #[.int .i64 0,.bool false,.slice none 0 0,.slice none 0 0,.slice none 0 0,.slice none 0 0,.slice none 0 0] 37 (0,0))) (hx:AK (fun k=>k=ob) w w') (hY:BT w Y n f):BT w' Y n f:=by
 have hne:¬Y=ob:=fun e=>by
  subst e;obtain⟨arr,h1,_⟩:=hY.row;rw[hb] at h1;cases h1
 exact hY.past hx hne (fun v l k=>k.past hx (fun k _ e=>by have e':k=ob:=e;subst e';exact Fu hb))
theorem Hh{w:World} {ops:Array Oper} {rest:List Oper} {o:Oper} {a:Act} {Q:Exit->Act->World->Prop}
  (hgd:o.guard=none) (s x:Operand) (ho:o.op=.call { callee:=.builtin .append,args:=#[s,x],argTypes:=#[35,35] }) (base:Nat) (v:Value) (n:Nat) (f:Nat->Rat) (hs:a.eval s=v) (hq:A8 w base v n f) (ad:Addr) (c:Nat) (r:BW) (q:Rat) (hr:AN w r.v q) (hx:a.eval x=.slice (some ad) 1 c) (hsrc:∀j u,r.cells[j]?=some u->w.cell? (ad.add j)=some u) (hn:n<=100000) (hbase:base<=w.heap.size)
  (h:∀v' w',A8 w' base v' (n+1) (fun i=>if i=n then q else f i)->AK (fun k=>v.ownBlock=some k) w w'->wpList prog ops Q rest (a.put o.dst v') w'):wpList prog ops Q (o::rest) a w:=by
 obtain⟨xs,k1,k2,k3,k4⟩:=hq.own;exact Df hgd s x ho underlying35 Tryz.infoRat rfl (CL ⟨false,none,0,0,none,0,0⟩) (by decide) (by decide) base v n xs hs k1 k2 k3 ad c r.cells hx rfl hsrc (En _) (CL _) hn hbase (fun v' w' ha=>h v' w' (A8.app ha k4 k1.1 hr) ha.ext)
section
variable {w0 w w':World} {tb ob s L:Nat} {V:Bh} {T T1 T2 T0:AX} {p:AH} {us us0 ls:List AZ}
theorem T6(h:Ao w0 w tb ob V T p us ls) {i:Nat} (hi:i<T.m):∀k,k<T.n+1->Kq T i k<p.vars.length+us.length:=fun k hk=>by
 obtain⟨D,hr,_⟩:=h.good.rep;unfold Kq;split
 ·exact hr.wf.dom _ (hr.ba i hi)
 exact hr.fr k (by omega)
theorem Pg(h:Ao w0 w tb ob V T p us ls) (hB:DA p ls s) (h2s:2<=s) {i:Nat} (hi:i<T.m):∀k,k<T.n+1->Sz (Jw T i k) s:=fun k hk=>by
 unfold Jw;split
 ·exact (Sz.int (k:=1) ⟨by omega,by omega⟩).mono h2s
 exact (h.good.sz h.tab.oks hB).1 i k hi (by omega)
theorem Ao.mult(h:Ao w0 w tb ob V T p us ls) {W:World} {v wv:Value} {m:Nat} {f:Nat->Nat} {g:Nat->Rat} (hW:XF w W) (hv:Mz W v m f) (hw:RV w wv m g) (hf:∀k,k<m->f k<p.vars.length+us.length) (hg:∀k,k<m->Sz (g k) s) (h2s:2<=s) (hm:m*(s+1)+s+10<=4000000) (hrn:p.rows.length<=100000) :
  Calls prog 89 #[.pointer (some ⟨tb,0,none⟩),v,wv] W (Gu W p.rows.length (Cv p us f g m)):=by
 have hk:=h.tab.keep hW;have hs:=h.tab.small.2;have hmu:=h.tab.hm;exact Jx W w0.heap.size tb m s V.u v wv p us f g hk.prg (AA hk.box 2 rfl) hk.rest.u h.tab.oks hv (hw.keep hW) hf hg (by omega) hm (by omega) (by omega)
theorem SE(h:Ao w0 w tb ob V T1 p us ls) (hB:DA p ls s) (h2s:2<=s) {i:Nat} (hi:i<T1.m) (hL1:1+(p.vars.length+1)*(s+1)<=L) (hrn:p.rows.length<=100000) (hh:Cc (CE (Dj T)) T T1) (hI:CK T1=some i) (hgo:∀o,CM p ls T us o->CM p ls T0 us0 o)
  {w16 w17:World} {Y:Nat} (hYb:w0.heap.size<=Y) (hx:XF w w16) (hY:BT w16 Y p.rows.length (Cv p us (Kq T1 i) (Jw T1 i) (T1.n+1))) (hP:Au w17 ob=some (.cells #[.int .i64 1,.bool false,.slice none 0 0,.slice none 0 0,.slice none 0 0,.slice (some ⟨Y,0,none⟩) p.rows.length p.rows.length,.slice none 0 0] 37 (0,0))/\AK (fun k=>k=ob) w16 w17) :
  M6 w0 p ls T0 us0 L (.returned (.agg #[.int .i64 1,.bool false,.slice none 0 0,.slice none 0 0,.slice none 0 0,.slice (some ⟨Y,0,none⟩) p.rows.length p.rows.length,.slice none 0 0])) w17:=by
 have hn:=h.tab.hn;refine⟨_,NB p us T1 i,rfl,hgo _ (.inf hh hI),fun S W hX hS hR=>⟨false,none,0,0,none,0,0,_,_,_,rfl,⟨AN.zero _,Sz.zero.mono (by omega)⟩,Ci.nil _ _,?_,Ci.nil _ _,(show EX (1:Int) from⟨by decide,by decide⟩)⟩,?_⟩
 ·refine ((Gq (AM h.obx hx) hP.2 hY).far hYb hX hS hR).crats (fun r _=>(Id (by omega) r (Pg h hB h2s hi)).mono ?_) (by unfold maxLen;omega);rw[hn];exact hL1
 exact (h.tab.old.trans hx).own hP.2 (fun k e=>by have e':k=ob:=e;rw[e'];exact h.obl)
theorem Ao.moreYes(h:Ao w0 w tb ob V T p us ls) (hB:DA p ls s) (h2s:2<=s) (hs:s<=200000) (hok:∀l∈ls,BF p l) (hls:ls.length<1000) (hT:∀l∈ls,(AV p l).length*(s+8)+s+20<=2000000) (f:Nat->Rat) (dir:Bool) (hf:∀i,i<p.vars.length->Sz (f i) s) (zb:Nat) (hzn:¬V.Big tb T.m zb) (hz:BT w zb p.vars.length f) {R:Dw} (hR:Av p (AP p.vars.length f) dir ls ⟨T,us,false⟩=R) (hb:R.b=true) :
  Calls prog 91 #[.pointer (some ⟨tb,0,none⟩),.slice (some ⟨zb,0,none⟩) p.vars.length p.vars.length,.bool dir] w (fun r w'=>∃V',r=.returned (.bool true)/\Ao w0 w' tb ob V' R.T p R.us ls/\us.length<R.us.length/\R.us.length<=ls.length):=by
 subst hR;refine (h.moreC hB h2s hs hok hls hT f dir hf zb hzn hz).mono ?_;rintro r w' ⟨V',rfl,h1,_⟩;exact⟨V',by rw[hb],h1,Sg hb,h1.good.len⟩
theorem Ao.moreNo(h:Ao w0 w tb ob V T p us ls) (hB:DA p ls s) (h2s:2<=s) (hs:s<=200000) (hok:∀l∈ls,BF p l) (hls:ls.length<1000) (hT:∀l∈ls,(AV p l).length*(s+8)+s+20<=2000000) (f:Nat->Rat) (dir:Bool) (hf:∀i,i<p.vars.length->Sz (f i) s) (zb:Nat) (hzn:¬V.Big tb T.m zb) (hz:BT w zb p.vars.length f) {R:Dw} (hR:Av p (AP p.vars.length f) dir ls ⟨T,us,false⟩=R) (hb:R.b=false) :
  Calls prog 91 #[.pointer (some ⟨tb,0,none⟩),.slice (some ⟨zb,0,none⟩) p.vars.length p.vars.length,.bool dir] w (fun r w'=>∃V',r=.returned (.bool false)/\Ao w0 w' tb ob V' T p us ls/\BT w' zb p.vars.length f):=by
 subst hR;refine (h.moreC hB h2s hs hok hls hT f dir hf zb hzn hz).mono ?_;rintro r w' ⟨V',rfl,h1,h2⟩;obtain⟨e1,e2,_⟩:=NM hb;rw[e1,e2] at h1;exact⟨V',by rw[hb],h1,h2⟩
theorem Ml(h:Ao w0 w tb ob V T p us ls) (hB:DA p ls s) (h2s:2<=s):∀i,i<p.vars.length->Sz (BS T.ba T.be T.m i+((p.v i).lo:Rat)) (s+3):=fun i hi =>
 ((h.dsz hB h2s i hi).add (Sz.int (h.tab.vars.ok i hi).lo)).mono (by omega)
theorem Rc(h:Ao w0 w tb ob V T2 p us ls) (hB:DA p ls s) (h2s:2<=s) (hL1:1+(p.vars.length+1)*(s+1)<=L) (hL2:s+3<=L) (hL3:1+p.vars.length*(s+6)<=L) (hrn:p.rows.length<=100000) (hgo:CM p ls T0 us0 (Ko p us T2))
  {w16 w17:World} {X Y:Nat} {n5:Bool} {a5 a5':Option Addr} {m5 c5 m5' c5':Nat} (hXb:w0.heap.size<=X) (hYb:w0.heap.size<=Y) (hx:XF w w16) (hX:BT w X p.vars.length (fun i=>BS T2.ba T2.be T2.m i+((p.v i).lo:Rat))) (h5:AN w16 (.agg #[.bool n5,.slice a5 m5 c5,.slice a5' m5' c5']) (Al p (UM p T2))) (hY:BT w16 Y p.rows.length (Cv p us T2.fr T2.d T2.n)) (hP:Au w17 ob=some (.cells #[.int .i64 0,.bool n5,.slice a5 m5 c5,.slice a5' m5' c5',.slice (some ⟨X,0,none⟩) p.vars.length p.vars.length,.slice (some ⟨Y,0,none⟩) p.rows.length p.rows.length,.slice none 0 0] 37 (0,0))/\AK (fun k=>k=ob) w16 w17) :
  M6 w0 p ls T0 us0 L (.returned (.agg #[.int .i64 0,.bool n5,.slice a5 m5 c5,.slice a5' m5' c5',.slice (some ⟨X,0,none⟩) p.vars.length p.vars.length,.slice (some ⟨Y,0,none⟩) p.rows.length p.rows.length,.slice none 0 0])) w17:=by
 have hn:=h.tab.hn;have hsm:=h.tab.small.1;have ho:=AM h.obx hx;refine⟨_,Ko p us T2,rfl,hgo,fun S W hXe hS hR=>⟨n5,a5,m5,c5,a5',m5',c5',_,_,_,rfl,⟨h5.past (fun v l k=>hR _ _ (k.past hP.2 (fun k _ e=>by have e':k=ob:=e;subst e';exact Fu ho))),?_⟩,?_,?_,Ci.nil _ _,(show EX (0:Int) from⟨by decide,by decide⟩)⟩,?_⟩
 ·exact (GN h.tab.vars (Da (Ml h hB h2s) (by omega))).mono (by rw[show s+3+3=s+6 by omega];exact hL3)
 ·exact ((Gq ho hP.2 (hX.keep hx)).far hXb hXe hS hR).crats (fun i hi=>(Ml h hB h2s i hi).mono hL2) (by unfold maxLen;omega)
 ·refine ((Gq ho hP.2 hY).far hYb hXe hS hR).crats (fun r _=>(Id (by omega) r (h.good.sz h.tab.oks hB).2.2).mono ?_) (by unfold maxLen;omega);rw[hn];rw[Nat.add_mul] at hL1;omega
 exact (h.tab.old.trans hx).own hP.2 (fun k e=>by have e':k=ob:=e;rw[e'];exact h.obl)
theorem R6(h:Ao w0 w tb ob V T2 p us ls) (hB:DA p ls s) (h2s:2<=s) {c:Nat} (hc:c<T2.n) (hL2:s+3<=L) (hgo:CM p ls T0 us0 (Kx p T2 c))
  {w17:World} {X Y:Nat} (hXb:w0.heap.size<=X) (hYb:w0.heap.size<=Y) (hX:BT w X p.vars.length (fun i=>BS T2.ba T2.be T2.m i+((p.v i).lo:Rat))) (hY:BT w Y p.vars.length (FE T2 c T2.m)) (hP:Au w17 ob=some (.cells #[.int .i64 2,.bool false,.slice none 0 0,.slice none 0 0,.slice (some ⟨X,0,none⟩) p.vars.length p.vars.length,.slice none 0 0,.slice (some ⟨Y,0,none⟩) p.vars.length p.vars.length] 37 (0,0))/\AK (fun k=>k=ob) w w17) :
  M6 w0 p ls T0 us0 L (.returned (.agg #[.int .i64 2,.bool false,.slice none 0 0,.slice none 0 0,.slice (some ⟨X,0,none⟩) p.vars.length p.vars.length,.slice none 0 0,.slice (some ⟨Y,0,none⟩) p.vars.length p.vars.length])) w17:=by
 have hn:=h.tab.hn;have hsm:=h.tab.small.1;refine⟨_,Kx p T2 c,rfl,hgo,fun S W hXe hS hR=>⟨false,none,0,0,none,0,0,_,_,_,rfl,⟨AN.zero _,Sz.zero.mono (by omega)⟩,?_,Ci.nil _ _,?_,(show EX (2:Int) from⟨by decide,by decide⟩)⟩,?_⟩
 ·exact ((Gq h.obx hP.2 hX).far hXb hXe hS hR).crats (fun i hi=>(Ml h hB h2s i hi).mono hL2) (by unfold maxLen;omega)
 ·exact ((Gq h.obx hP.2 hY).far hYb hXe hS hR).crats (fun i _=>(MV h2s (fun k hk=>(h.good.sz h.tab.oks hB).1 k c hk hc) i).mono (by omega)) (by unfold maxLen;omega)
 exact h.tab.old.own hP.2 (fun k e=>by have e':k=ob:=e;rw[e'];exact h.obl)
end
theorem RC(w0 w:World) (tb s L:Nat) (V:Bh) (T0:AX) (p:AH) (us0 ls:List AZ) (h:Di w0 w tb V T0 p us0 ls) (hg:Dx p ls T0 us0) (hB:DA p ls s) (h2s:2<=s) (hs:s<=200000)
  (hok:∀l∈ls,BF p l) (hls:ls.length<1000) (hT:∀l∈ls,(AV p l).length*(s+8)+s+20<=2000000) (hrn:p.rows.length<=100000) (hL1:1+(p.vars.length+1)*(s+1)<=L) (hL2:s+3<=L) (hL3:1+p.vars.length*(s+6)<=L) (hL4:(p.vars.length+1)*(s+6)+s+20<=3000000) :
  Calls prog 45 #[.pointer (some ⟨tb,0,none⟩)] w (M6 w0 p ls T0 us0 L):=by
 have hnn:=h.hn;have hsn:=h.small.1;have hnv:p.vars.length<=1000:=by omega
 have hxa:=(AK.refl (fun _=>False) w).alloc (.cells #[.int .i64 0,.bool false,.slice none 0 0,.slice none 0 0,.slice none 0 0,.slice none 0 0,.slice none 0 0] 37);have HS0:=bH (show Ao w0 (w.alloc (.cells #[.int .i64 0,.bool false,.slice none 0 0,.slice none 0 0,.slice none 0 0,.slice none 0 0,.slice none 0 0] 37)) tb w.heap.size V T0 p us0 ls from
  ⟨h.keep hxa,hg,AD _ _,h.old.size⟩)
 have HB:=bH (bI hB (bI hok hT));have HL:=bH (bI hL1 (bI hL2 (bI hL3 hL4)));clear h hg hB hok hT hL1 hL2 hL3 hL4 hxa hnn hsn;go_enter func45,ntmps45;go_upto_block 0 with fail;generalize w.alloc (.cells #[.int .i64 0,.bool false,.slice none 0 0,.slice none 0 0,.slice none 0 0,.slice none 0 0,.slice none 0 0] 37)=wA at *;generalize w.heap.size=ob at *;go_wp2;go_step3;go_wp2;go_step3;go_wp2;go_loopg [3,4,5,6] (ls.length-us0.length) (fun gg v3 v4 v5 v6 wr=>∃(T:AX) (us:List AZ) (V':Bh),gg=ls.length-us.length/\Ao w0 wr tb ob V' T p us ls/\∀o,CM p ls T us o->CM p ls T0 us0 o);case atStart=>exact⟨T0,us0,V,(by omega),HS0.o,fun _ k=>k⟩
 case round =>
  clear HS0;obtain⟨T,us,V',rfl,hss,hgo⟩:=hrel;have HSR:=bH hgo;have HD:=bH (hss.dual HB.o.1 h2s hs);clear hgo hss;go_upto_region 2 with (go_at_call 87;refine HD.o.mono ?_;rintro r1 w1 ⟨T1,rfl,hs1,hh1,hd1⟩);clear HD;obtain⟨oi,hoi⟩:=bN (DG (CK T1));rw[hoi];have HS1:=bH hs1;have HH1:=bH hh1;have HOI:=bH hoi;clear hs1 hh1 hoi;rcases hd1 with⟨hI,hbe⟩|⟨i,hI,him,hbi,hal⟩
  ·obtain rfl:oi = -1:=(by rw[<- HOI.o,hI];rfl);have HI:=bH (bI hI hbe);clear hI hbe HOI;have HDi:=bH (HS1.o.dist hnv);have HG1:=bH (fun (R:Dw) (hR:Av p (Ca p T1) false ls ⟨T1,us,false⟩=R) (hb:R.b=true) (o:Co) (k:CM p ls R.T R.us o)=>HSR.o o (.go1 HH1.o HI.o.1 hR.symm hb k));have HG2:=bH (fun (hb:(Av p (Ca p T1) false ls ⟨T1,us,false⟩).b=false) (T2:AX) (hh:Cc CJ T1 T2) (R:Dw) (hR:Av p (Ca p T2) false ls ⟨T2,us,false⟩=R) (hb2:R.b=true) (o:Co) (k:CM p ls R.T R.us o)=>HSR.o o (.go2 HH1.o HI.o.1 hb hh hR.symm hb2 k));have HGo:=bH (fun (hb:(Av p (Ca p T1) false ls ⟨T1,us,false⟩).b=false) (T2:AX) (hh:Cc CJ T1 T2) (hb2:(Av p (Ca p T2) false ls ⟨T2,us,false⟩).b=false) (hc:CF T2=none)=>HSR.o _ (.opt HH1.o HI.o.1 hb hh hb2 hc));have HG3:=bH (fun (hb:(Av p (Ca p T1) false ls ⟨T1,us,false⟩).b=false) (T2:AX) (hh:Cc CJ T1 T2) (hb2:(Av p (Ca p T2) false ls ⟨T2,us,false⟩).b=false) (c:Nat) (hc:CF T2=some c) (R:Dw) (hR:Av p (Iy p T2 c) true ls ⟨T2,us,false⟩=R) (hb3:R.b=true) (o:Co) (k:CM p ls R.T R.us o)=>HSR.o o (.go3 HH1.o HI.o.1 hb hh hb2 hc hR.symm hb3 k));have HGu:=bH (fun (hb:(Av p (Ca p T1) false ls ⟨T1,us,false⟩).b=false) (T2:AX) (hh:Cc CJ T1 T2) (hb2:(Av p (Ca p T2) false ls ⟨T2,us,false⟩).b=false) (c:Nat) (hc:CF T2=some c) (hb3:(Av p (Iy p T2 c) true ls ⟨T2,us,false⟩).b=false)=>HSR.o _ (.unb HH1.o HI.o.1 hb hh hb2 hc hb3));clear HSR HH1;obtain⟨R1,hR1⟩:=bN (Av p (Ca p T1) false ls ⟨T1,us,false⟩);cases hb1:R1.b with
   | true =>
    have HR1:=bH (bI hR1 hb1);clear hR1 hb1;go_wp2_with (go_loud (first|(go_at_call 92;refine HDi.o.mono ?_;rintro r2 w2 ⟨zb,rfl,hzb,hz,hx2⟩;have HS2:=bH (HS1.o.keep hx2);have HZ:=bH (bI (HS1.o.nw hzb) hz);clear hzb hz hx2)|(go_at_call 91;refine (HS2.o.moreYes HB.o.1 h2s hs HB.o.2.1 hls HB.o.2.2 (BS T1.ba T1.be T1.m) false (HS2.o.dsz HB.o.1 h2s) zb HZ.o.1 HZ.o.2 HR1.o.1 HR1.o.2).mono ?_;rintro r3 w3 ⟨V3,rfl,hs3,hl3,hl4⟩)));go_roundg (ls.length-R1.us.length);case measure=>omega
    case rel=>exact⟨R1.T,R1.us,V3,rfl,hs3,HG1.o R1 HR1.o.1 HR1.o.2⟩
   | false =>
    have HR1:=bH (bI hR1 hb1);have HB1:=bH (show (Av p (Ca p T1) false ls ⟨T1,us,false⟩).b=false from by rw[hR1];exact hb1);clear hR1 hb1;go_upto_region 6 with (go_loud (first|(go_at_call 92;refine HDi.o.mono ?_;rintro r2 w2 ⟨zb,rfl,hzb,hz,hx2⟩;have HS2:=bH (HS1.o.keep hx2);have HZ:=bH (bI (HS1.o.nw hzb) hz);clear hzb hz hx2)|(go_at_call 91;refine (HS2.o.moreNo HB.o.1 h2s hs HB.o.2.1 hls HB.o.2.2 (BS T1.ba T1.be T1.m) false (HS2.o.dsz HB.o.1 h2s) zb HZ.o.1 HZ.o.2 HR1.o.1 HR1.o.2).mono ?_;rintro r3 w3 ⟨V3,rfl,hs3,-⟩;have HS3:=bH hs3;clear hs3)));clear HDi HS1 HS2 HZ HR1 HG1;have HP:=bH (HS3.o.primal HI.o.2 HB.o.1 h2s hs);go_upto_region 7 with (go_at_call 93;refine HP.o.mono ?_;rintro r4 w4 ⟨T2,rfl,hs4,hh4,hd4⟩);clear HP HS3;obtain⟨oc,hoc⟩:=bN (DG (CF T2));rw[hoc];have HS4:=bH hs4;have HH4:=bH hh4;have HOC:=bH (bI hoc hd4);clear hs4 hh4 hoc hd4;have HDi:=bH (HS4.o.dist hnv);obtain⟨R2,hR2⟩:=bN (Av p (Ca p T2) false ls ⟨T2,us,false⟩);cases hb2:R2.b with
    | true =>
     have HR2:=bH (bI hR2 hb2);clear hR2 hb2;go_wp2_with (go_loud (first|(go_at_call 92;refine HDi.o.mono ?_;rintro r5 w5 ⟨zb2,rfl,hzb,hz,hx5⟩;have HS5:=bH (HS4.o.keep hx5);have HZ2:=bH (bI (HS4.o.nw hzb) hz);clear hzb hz hx5)|(go_at_call 91;refine (HS5.o.moreYes HB.o.1 h2s hs HB.o.2.1 hls HB.o.2.2 (BS T2.ba T2.be T2.m) false (HS5.o.dsz HB.o.1 h2s) zb2 HZ2.o.1 HZ2.o.2 HR2.o.1 HR2.o.2).mono ?_;rintro r6 w6 ⟨V6,rfl,hs6,hl6,hl7⟩)));go_roundg (ls.length-R2.us.length);case measure=>omega
     case rel=>exact⟨R2.T,R2.us,V6,rfl,hs6,HG2.o HB1.o T2 HH4.o R2 HR2.o.1 HR2.o.2⟩
    | false =>
     have HR2:=bH (bI hR2 hb2);have HB2:=bH (show (Av p (Ca p T2) false ls ⟨T2,us,false⟩).b=false from by rw[hR2];exact hb2);clear hR2 hb2;go_upto_region 8 with (go_loud (first|(go_at_call 92;refine HDi.o.mono ?_;rintro r5 w5 ⟨zb2,rfl,hzb,hz,hx5⟩;have HS5:=bH (HS4.o.keep hx5);have HZ2:=bH (bI (HS4.o.nw hzb) hz);clear hzb hz hx5)|(go_at_call 91;refine (HS5.o.moreNo HB.o.1 h2s hs HB.o.2.1 hls HB.o.2.2 (BS T2.ba T2.be T2.m) false (HS5.o.dsz HB.o.1 h2s) zb2 HZ2.o.1 HZ2.o.2 HR2.o.1 HR2.o.2).mono ?_;rintro r6 w6 ⟨V6,rfl,hs6,-⟩;have HS6:=bH hs6;clear hs6)));clear HDi HS4 HS5 HZ2 HR2 HG2;rcases HOC.o.2 with hC|⟨c,hC,hc⟩
     ·obtain rfl:oc = -1:=(by rw[<- HOC.o.1,hC];rfl);have HC:=bH hC;clear hC HOC;have HPt:=bH (Lw w6 w0.heap.size tb s V6 T2 p HS6.o.tab.at HS6.o.tab.prg (by omega) (HS6.o.good.sz HS6.o.tab.oks HB.o.1).2.1 h2s (by omega));go_upto_region 13 with (go_at_call 95;refine HPt.o.mono ?_;rintro r7 w7 ⟨X,rfl,hXb,hX,hx7⟩);have HS7:=bH (HS6.o.keep hx7);have HX:=bH hX;have HXb:=bH (Nat.le_trans HS6.o.tab.old.size hXb);clear HPt HS6 hXb hX hx7;have hsm:=HS7.o.tab.small.1;have hnn:=HS7.o.tab.hn;have HCo:=bH (fun W (hW:XF w7 W)=>SP W (.agg #[V6.pv,V6.pr]) (.slice (some ⟨X,0,none⟩) p.vars.length p.vars.length) p (UM p T2) (s+3) ⟨V6.pv,V6.pr,rfl,HS7.o.tab.vars.keep (HS7.o.tab.old.trans hW),HS7.o.tab.rows.keep (HS7.o.tab.old.trans hW)⟩ ((HX.o.keep hW).rats (Ml HS7.o HB.o.1 h2s) (Nat.le_refl _) (by unfold maxLen;omega)) (by omega) (by have:=HL.o.2.2.2;rw[Nat.add_mul] at this;rw[show s+3+3=s+6 by omega];omega));have HMu:=bH (fun W (hW:XF w7 W)=>HS7.o.mult hW ((HS7.o.tab.keep hW).rest.fr.nrow (by omega)) (HS7.o.tab.rest.d.qrow (by omega)) (fun k hk=>by obtain⟨D,hr,_⟩:=HS7.o.good.rep;exact hr.fr k hk) (HS7.o.good.sz HS7.o.tab.oks HB.o.1).2.2 h2s (by have:=HL.o.2.2.2;rw[hnn];rw[Nat.add_mul] at this;rw[Nat.mul_add] at this ⊢;omega) hrn);have HOb:=bH HS7.o.obx;have HInf:=bH (fun n5 a5 m5 c5 a5' m5' c5' w16 w17 Y (hYb:w7.heap.size<=Y) (hx:XF w7 w16) h5 hY hP=>Rc (w17:=w17) (X:=X) (Y:=Y) (n5:=n5) (a5:=a5) (m5:=m5) (c5:=c5) (a5':=a5') (m5':=m5') (c5':=c5') HS7.o HB.o.1 h2s HL.o.1 HL.o.2.1 HL.o.2.2.1 hrn (HGo.o HB1.o T2 HH4.o HB2.o HC.o) HXb.o (Nat.le_trans HS7.o.tab.old.size hYb) hx HX.o h5 hY hP);have c0:=BX (S:=fun _=>False) (show w7.cell? ⟨tb,0,none⟩=some V6.pv from AA HS7.o.tab.box 0 rfl) id;have c1:=BX (S:=fun _=>False) (show w7.cell? ⟨tb,1,none⟩=some V6.pr from AA HS7.o.tab.box 1 rfl) id;have c5:=BX (S:=fun _=>False) (show w7.cell? ⟨tb,5,none⟩=some V6.fr from AA HS7.o.tab.box 5 rfl) id;have c8:=BX (S:=fun _=>False) (show w7.cell? ⟨tb,8,none⟩=some V6.d from AA HS7.o.tab.box 8 rfl) id;clear hnn;refine Dq 18 (XF w7) (by kernel_rfl) ((AK.refl _ w7).drew) (fun hHeld=>?_);refine mu 0 (h:=(mu 1 (h:=(mu 2 (h:=(mu 3 (h:=(mu 4 (h:=(mu 6 (h:=(mu 7 (h:=(mu 8 (h:=(mu 9 (h:=(mu 10 (h:=(mu 11 (h:=(mu 12 (h:=(mu 13 (h:=(mu 14 (h:=(mu 15 (h:=?_)))))))))))))))))))))))))))));(try go_frame);refine Ez 5 (h:=fun K hK=>?_);go_simp;go_at_call 96;(with_reducible refine (HCo.o _ hHeld).mono ?_);rintro q5 w15 ⟨v5,rfl,h5,hx5⟩;obtain⟨n5,a5,m5,d5,a5',m5',d5',rfl⟩:=h5.shape;refine hK.o _ _ (hHeld.trans hx5) (fun hHeld=>?_);clear hK K;(try go_frame);refine Ez 16 (h:=fun K hK=>?_);go_simp;go_at_call 89;(with_reducible refine (HMu.o _ hHeld).mono ?_);rintro q6 w16 ⟨Y,rfl,hYb,hY,hx16⟩;replace h5:=h5.keep hx16;have hYl:=Nat.le_trans hHeld.size hYb;refine hK.o _ _ (hHeld.trans hx16) (fun hHeld=>?_);clear hK K;(try go_frame);refine mu 17 (h:=?_);(try go_frame);have hbo:=AM HOb.o hHeld;have t0:=AA hbo 0 rfl;have t1:=AA hbo 1 rfl;have t2:=AA hbo 2 rfl;have t3:=AA hbo 3 rfl;have t4:=AA hbo 4 rfl;have t5:=AA hbo 5 rfl;have t6:=AA hbo 6 rfl;have f0:=AC hbo 0;have f1:=AC hbo 1;have f2:=AC hbo 2;have f3:=AC hbo 3;have f4:=AC hbo 4;have f5:=AC hbo 5;have f6:=AC hbo 6;refine ml 18 (h:=fun K hK=>?_);go_simp;refine hK.o _ _ ?_;clear hK K;(try go_frame);refine Dr (by kernel_rfl) ?_ _;have HPo:=bH (C8 hbo (.int .i64 0) (.bool n5) (.slice a5 m5 d5) (.slice a5' m5' d5') (.slice (some ⟨X,0,none⟩) p.vars.length p.vars.length) (.slice (some ⟨Y,0,none⟩) p.rows.length p.rows.length) (.slice none 0 0));have HF:=bH (HInf.o _ _ _ _ _ _ _ _ _ _ hYl hHeld h5 hY HPo.o);clear t0 f0 t1 f1 t2 f2 t3 f3 t4 f4 t5 f5 t6 f6;generalize ((((((w16.setCell ⟨ob,0,none⟩ (.int .i64 0)).setCell ⟨ob,1,none⟩ (.bool n5)).setCell ⟨ob,2,none⟩ (.slice a5 m5 d5)).setCell ⟨ob,3,none⟩ (.slice a5' m5' d5')).setCell ⟨ob,4,none⟩ (.slice (some ⟨X,0,none⟩) p.vars.length p.vars.length)).setCell ⟨ob,5,none⟩ (.slice (some ⟨Y,0,none⟩) p.rows.length p.rows.length)).setCell ⟨ob,6,none⟩ (.slice none 0 0)=w17 at *;have g0:=AA HPo.o.1 0 rfl;have g1:=AA HPo.o.1 1 rfl;have g2:=AA HPo.o.1 2 rfl;have g3:=AA HPo.o.1 3 rfl;have g4:=AA HPo.o.1 4 rfl;have g5:=AA HPo.o.1 5 rfl;have g6:=AA HPo.o.1 6 rfl;go_wp2;exact bodyPost_ret (v:=.agg #[.int .i64 0,.bool n5,.slice a5 m5 d5,.slice a5' m5' d5',.slice (some ⟨X,0,none⟩) p.vars.length p.vars.length,.slice (some ⟨Y,0,none⟩) p.rows.length p.rows.length,.slice none 0 0]) (by simp[results,results45,go_sem,g0,g1,g2,g3,g4,g5,g6]) rfl HF.o
     obtain rfl:oc=(c:Int):=(by rw[<- HOC.o.1,hC];rfl);have HC:=bH (bI hC hc);clear hC hc HOC;have c0:(0:Int)<=(c:Int):=(by omega);have c1:¬((c:Int)<0):=(by omega);have HRa:=bH (Tz w6 w0.heap.size tb s c V6 T2 p HS6.o.tab.at HS6.o.tab.prg (by omega) HC.o.2 (fun k hk=>(HS6.o.good.sz HS6.o.tab.oks HB.o.1).1 k c hk HC.o.2) (by omega) (by omega));go_upto_region 10 with (go_at_call 94;refine HRa.o.mono ?_;rintro r7 w7 ⟨Z,rfl,hZb,hZ,hx7⟩);have HS7:=bH (HS6.o.keep hx7);have HZ:=bH (bI (HS6.o.nw hZb) hZ);have HZb:=bH (Nat.le_trans HS6.o.tab.old.size hZb);have HSz:=bH (show ∀i,i<p.vars.length->Sz (FE T2 c T2.m i) s from fun i _=>MV h2s (fun k hk=>(HS6.o.good.sz HS6.o.tab.oks HB.o.1).1 k c hk HC.o.2) i);clear HRa HS6 hZb hZ hx7;obtain⟨R3,hR3⟩:=bN (Av p (Iy p T2 c) true ls ⟨T2,us,false⟩);cases hb3:R3.b with
     | true =>
      have HR3:=bH (bI hR3 hb3);clear hR3 hb3;go_wp2_with (go_at_call 91;refine (HS7.o.moreYes HB.o.1 h2s hs HB.o.2.1 hls HB.o.2.2 (FE T2 c T2.m) true HSz.o Z HZ.o.1 HZ.o.2 HR3.o.1 HR3.o.2).mono ?_;rintro r8 w8 ⟨V8,rfl,hs8,hl8,hl9⟩);go_roundg (ls.length-R3.us.length);case measure=>omega
      case rel=>exact⟨R3.T,R3.us,V8,rfl,hs8,HG3.o HB1.o T2 HH4.o HB2.o c HC.o.1 R3 HR3.o.1 HR3.o.2⟩
     | false =>
      have HR3:=bH (bI hR3 hb3);have HB3:=bH (show (Av p (Iy p T2 c) true ls ⟨T2,us,false⟩).b=false from by rw[hR3];exact hb3);clear hR3 hb3;go_upto_region 11 with (go_at_call 91;refine (HS7.o.moreNo HB.o.1 h2s hs HB.o.2.1 hls HB.o.2.2 (FE T2 c T2.m) true HSz.o Z HZ.o.1 HZ.o.2 HR3.o.1 HR3.o.2).mono ?_;rintro r8 w8 ⟨V8,rfl,hs8,hZ8⟩);have HS8:=bH hs8;have HZ8:=bH hZ8;clear hs8 hZ8 HS7 HZ HR3;have HPt:=bH (Lw w8 w0.heap.size tb s V8 T2 p HS8.o.tab.at HS8.o.tab.prg (by omega) (HS8.o.good.sz HS8.o.tab.oks HB.o.1).2.1 h2s (by omega));go_wp2_with (go_at_call 95;refine HPt.o.mono ?_;rintro r9 w9 ⟨X,rfl,hXb,hX,hx9⟩;have HS9:=bH (HS8.o.keep hx9);have HX9:=bH hX;have HZ9:=bH (HZ8.o.keep hx9);have HXb:=bH (Nat.le_trans HS8.o.tab.old.size hXb);clear hXb hX hx9;have t0:=AA HS9.o.obx 0 rfl;have t1:=AA HS9.o.obx 1 rfl;have t2:=AA HS9.o.obx 2 rfl;have t3:=AA HS9.o.obx 3 rfl;have t4:=AA HS9.o.obx 4 rfl;have t5:=AA HS9.o.obx 5 rfl;have t6:=AA HS9.o.obx 6 rfl;have f0:=AC HS9.o.obx 0;have f1:=AC HS9.o.obx 1;have f2:=AC HS9.o.obx 2;have f3:=AC HS9.o.obx 3;have f4:=AC HS9.o.obx 4;have f5:=AC HS9.o.obx 5;have f6:=AC HS9.o.obx 6);have HPo:=bH (C8 HS9.o.obx (.int .i64 2) (.bool false) (.slice none 0 0) (.slice none 0 0) (.slice (some ⟨X,0,none⟩) p.vars.length p.vars.length) (.slice none 0 0) (.slice (some ⟨Z,0,none⟩) p.vars.length p.vars.length));have HF:=bH (R6 HS9.o HB.o.1 h2s HC.o.2 HL.o.2.1 (HGu.o HB1.o T2 HH4.o HB2.o c HC.o.1 HB3.o) HXb.o HZb.o HX9.o HZ9.o HPo.o);clear t0 t1 t2 t3 t4 t5 t6 f0 f1 f2 f3 f4 f5 f6;generalize ((((((w9.setCell ⟨ob,0,none⟩ (.int .i64 2)).setCell ⟨ob,1,none⟩ (.bool false)).setCell ⟨ob,2,none⟩ (.slice none 0 0)).setCell ⟨ob,3,none⟩ (.slice none 0 0)).setCell ⟨ob,4,none⟩ (.slice (some ⟨X,0,none⟩) p.vars.length p.vars.length)).setCell ⟨ob,5,none⟩ (.slice none 0 0)).setCell ⟨ob,6,none⟩ (.slice (some ⟨Z,0,none⟩) p.vars.length p.vars.length)=w17 at *;have g0:=AA HPo.o.1 0 rfl;have g1:=AA HPo.o.1 1 rfl;have g2:=AA HPo.o.1 2 rfl;have g3:=AA HPo.o.1 3 rfl;have g4:=AA HPo.o.1 4 rfl;have g5:=AA HPo.o.1 5 rfl;have g6:=AA HPo.o.1 6 rfl;exact bodyPost_ret (v:=.agg #[.int .i64 2,.bool false,.slice none 0 0,.slice none 0 0,.slice (some ⟨X,0,none⟩) p.vars.length p.vars.length,.slice none 0 0,.slice (some ⟨Z,0,none⟩) p.vars.length p.vars.length]) (by simp[results,results45,go_sem,g0,g1,g2,g3,g4,g5,g6]) rfl HF.o
  obtain rfl:oi=(i:Int):=(by rw[<- HOI.o,hI];rfl);have HI:=bH hI;have hT1:=HS1.o.tab.small;have HA:=bH HS1.o.tab.at
  obtain⟨gb,cb,eb,hcb,-,hbc,-⟩:=HA.o.ba.open (show 0<T1.m by omega);obtain⟨ga,ca,ea,hca,-,hac⟩:=HA.o.al.open (show 0<T1.m by omega);have b4:w1.cell? ⟨tb,4,none⟩=some V'.ba:=AA HA.o.box 4 rfl;have b5:w1.cell? ⟨tb,5,none⟩=some V'.fr:=AA HA.o.box 5 rfl;have b7:w1.cell? ⟨tb,7,none⟩=some V'.al:=AA HA.o.box 7 rfl;rw[eb] at b4;rw[ea] at b7;have a7:=hac i him;have a4:=hbc i him;have HAi:=bH (bI hbc hac);clear hbc hac eb ea hI HOI hal hbi;have i0:(0:Int)<=(i:Int):=(by omega);have i1:(i:Int)<(T1.m:Int):=(by omega);have HCl:=bH (fun W (hW:XF w1 W)=>Pb W (V'.rb i) T1.n T1.n (T1.al i) ((HA.o.rows i him).1.keep hW) (by omega));have HF:=bH (fun W=>show Calls prog 86 #[.int .i64 1] W (Aw W (((1:Int):Rat))) from Bx W 1 (by decide) (by decide));go_upto_region 4 with (go_loud (first|(go_at_call 88;refine (HCl.o _ (AK.refl _ _)).mono ?_;rintro r2 w2 ⟨v2,rfl,hq2,hx2⟩)|(go_at_call 86;refine (HF.o _).mono ?_;rintro r3 w3 ⟨v3,rfl,h3,hx3⟩;obtain⟨n3,a3,m3,c3,a3',m3',c3',rfl⟩:=h3.shape)|(at_builtin;refine Hh rfl (.tmp 19) (.tmp 21) rfl w1.heap.size v2 T1.n (T1.al i) rfl ((hq2.past hx3 (fun _ _=>id) (fun u l k=>k.keep hx3)).past ((AK.refl (fun _=>False) w3).alloc _) (fun _ _=>id) (fun u l k=>k.keep ((AK.refl (fun _=>False) w3).alloc _))) ⟨w3.heap.size,0,none⟩ 1 ⟨n3,a3,m3,c3,a3',m3',c3'⟩ _ (h3.keep ((AK.refl (fun _=>False) w3).alloc _)) rfl (Bz _ _ _) (by omega) (Nat.le_trans hx2.size (Nat.le_trans hx3.size (by simp))) ?_;intro v6 w6 hq6 hx6)));have HW:=bH (show Ao w0 w6 tb ob V' T1 p us ls/\XF w1 w6 from by
   have hx:=((hx2.trans hx3).alloc _).own hx6 (fun k e=>hq2.low k e);exact⟨HS1.o.keep hx,hx⟩)
  replace b4:=AB b4 HW.o.2;replace b5:=AB b5 HW.o.2;replace a4:=AB a4 HW.o.2;have HQ:=bH (show A8 w6 w1.heap.size v6 (T1.n+1) (Jw T1 i) from by
   have e:Jw T1 i=(fun k=>if k=T1.n then (((1:Int):Rat)) else T1.al i k):=(by funext k;rfl);rw[e];exact hq6)
  clear b7 a7 hq6 hx6 h3 hx3 hx2 hq2 HCl HF HA HAi;have HCi:=bH (fun W (hW:XF w6 W)=>Pf W V'.fr w0.heap.size T1.n T1.fr (HW.o.1.tab.keep hW).rest.fr (by omega));have HOb:=bH HW.o.1.obx;have HMu:=bH (fun W (v:Value) (hW:XF w6 W) (hI:Mz W v (T1.n+1) (Kq T1 i))=>HW.o.1.mult hW hI (HQ.o.qrow (by omega)) (T6 HW.o.1 him) (Pg HW.o.1 HB.o.1 h2s him) h2s (by have:=HL.o.2.2.2;have e:=HW.o.1.tab.hn;rw[e];rw[Nat.mul_add] at this ⊢;omega) hrn);have HInf:=bH (fun w16 w17 Y (hYb:w6.heap.size<=Y) (hx:XF w6 w16) hY hP=>SE (w17:=w17) (Y:=Y) HW.o.1 HB.o.1 h2s him HL.o.1 hrn HH1.o HI.o HSR.o (Nat.le_trans HW.o.1.tab.old.size hYb) hx hY hP);clear hcb hca hT1;have hT1n:T1.n<=1000:=HW.o.1.tab.small.1;have c4:=BX (S:=fun _=>False) b4 id;have c5:=BX (S:=fun _=>False) b5 id;have ca:=BX (S:=fun _=>False) a4 id;clear b4 b5 a4;refine Dq 18 (XF w6) (by kernel_rfl) ((AK.refl _ w6).drew) (fun hHeld=>?_);refine mu 0 (h:=(mu 1 (h:=(mu 2 (h:=(mu 3 (h:=(mu 4 (h:=(mu 6 (h:=(mu 7 (h:=(mu 8 (h:=(mu 9 (h:=(mu 10 (h:=(mu 11 (h:=(mu 12 (h:=(mu 15 (h:=?_)))))))))))))))))))))))));(try go_frame);refine SG 5 13 rfl rfl (by kernel_rfl) (fun K hK=>?_) (fun K hK=>?_)
  ·go_simp;have hlo5:w6.heap.size<=w6.drew.heap.size:=hHeld.size;go_at_call 90;(with_reducible refine (HCi.o _ hHeld).mono ?_);rintro q5 w15 ⟨v5,rfl,hc5,hx5⟩;have hbs5:w6.drew.heap.size<=w15.heap.size:=hx5.size;refine hK.o _ _ (hHeld.trans hx5) (fun hHeld=>?_);clear hK K;(try go_frame);refine Ez 13 (h:=fun K hK=>?_);go_simp;have hsrc13:∀(j:Nat) (u:Value),([.int .i64 (T1.ba i:Int)]:List Value)[j]?=some u->(w15.alloc (.cells #[.int .i64 (T1.ba i:Int)] 3)).cell? ((⟨w15.heap.size,0,none⟩:Addr).add j)=some u:=Bz _ _ _;have hxg:XF w15 (w15.alloc (.cells #[.int .i64 (T1.ba i:Int)] 3)):=(AK.refl (fun _=>False) w15).alloc (.cells #[.int .i64 (T1.ba i:Int)] 3);replace hc5:=hc5.past hxg (fun _ _=>id);replace hbs5:=Nat.le_trans hbs5 hxg.size;refine hK.o _ _ (hHeld.alloc _) (fun hHeld=>?_);clear hK K;(try go_frame);refine Ez 14 (h:=fun K hK=>?_);refine B0 rfl _ _ rfl underlying45 Tryz.infoInt1 rfl (E5 0) (by decide) (by decide) _ v5 T1.n (Ex T1.n T1.fr) rfl hc5.own.1 hc5.own.2 (Gd _ _) ⟨w15.heap.size,0,none⟩ 1 [.int .i64 (T1.ba i:Int)] rfl rfl hsrc13 (J0 _) (E5 _) (by omega) hbs5 (fun v14 w14 ha14=>?_);have HIa:=bH ((BQ.app ha14).nrow (by omega));refine hK.o _ _ (hHeld.own ha14.ext (fun k e=>Nat.le_trans hlo5 (hc5.low k e))) (fun hHeld=>?_);clear hK K;(try go_frame);refine Ez 16 (h:=fun K hK=>?_);go_simp;go_at_call 89;(with_reducible refine (HMu.o _ _ hHeld HIa.o).mono ?_);rintro q6 w16 ⟨Y,rfl,hYb,hY,hx16⟩;have hYl:=Nat.le_trans hHeld.size hYb;refine hK.o _ _ (hHeld.trans hx16) (fun hHeld=>?_);clear hK K;(try go_frame);refine mu 17 (h:=?_);(try go_frame);have hbo:=AM HOb.o hHeld;have t0:=AA hbo 0 rfl;have t1:=AA hbo 1 rfl;have t2:=AA hbo 2 rfl;have t3:=AA hbo 3 rfl;have t4:=AA hbo 4 rfl;have t5:=AA hbo 5 rfl;have t6:=AA hbo 6 rfl;have f0:=AC hbo 0;have f1:=AC hbo 1;have f2:=AC hbo 2;have f3:=AC hbo 3;have f4:=AC hbo 4;have f5:=AC hbo 5;have f6:=AC hbo 6;refine ml 18 (h:=fun K hK=>?_);go_simp;refine hK.o _ _ ?_;clear hK K;(try go_frame);refine Dr (by kernel_rfl) ?_ _;have HPo:=bH (C8 hbo (.int .i64 1) (.bool false) (.slice none 0 0) (.slice none 0 0) (.slice none 0 0) (.slice (some ⟨Y,0,none⟩) p.rows.length p.rows.length) (.slice none 0 0));have HF:=bH (HInf.o _ _ _ hYl hHeld hY HPo.o);clear t0 f0 t1 f1 t2 f2 t3 f3 t4 f4 t5 f5 t6 f6;generalize ((((((w16.setCell ⟨ob,0,none⟩ (.int .i64 1)).setCell ⟨ob,1,none⟩ (.bool false)).setCell ⟨ob,2,none⟩ (.slice none 0 0)).setCell ⟨ob,3,none⟩ (.slice none 0 0)).setCell ⟨ob,4,none⟩ (.slice none 0 0)).setCell ⟨ob,5,none⟩ (.slice (some ⟨Y,0,none⟩) p.rows.length p.rows.length)).setCell ⟨ob,6,none⟩ (.slice none 0 0)=w17 at *;have g0:=AA HPo.o.1 0 rfl;have g1:=AA HPo.o.1 1 rfl;have g2:=AA HPo.o.1 2 rfl;have g3:=AA HPo.o.1 3 rfl;have g4:=AA HPo.o.1 4 rfl;have g5:=AA HPo.o.1 5 rfl;have g6:=AA HPo.o.1 6 rfl;go_wp2;exact bodyPost_ret (v:=.agg #[.int .i64 1,.bool false,.slice none 0 0,.slice none 0 0,.slice none 0 0,.slice (some ⟨Y,0,none⟩) p.rows.length p.rows.length,.slice none 0 0]) (by simp[results,results45,go_sem,g0,g1,g2,g3,g4,g5,g6]) rfl HF.o
  go_simp;have hsrc13:∀(j:Nat) (u:Value),([.int .i64 (T1.ba i:Int)]:List Value)[j]?=some u->((w6.alloc (.cells #[.int .i64 (T1.ba i:Int)] 3)).drew).cell? ((⟨w6.heap.size,0,none⟩:Addr).add j)=some u:=Cm _ _ _;refine hK.o _ _ (hHeld.alloc _) (fun hHeld=>?_);clear hK K;(try go_frame);refine Ez 5 (h:=fun K hK=>?_);go_simp;have hlo5:w6.heap.size<=((w6.alloc (.cells #[.int .i64 (T1.ba i:Int)] 3)).drew).heap.size:=hHeld.size;go_at_call 90;(with_reducible refine (HCi.o _ hHeld).mono ?_);rintro q5 w15 ⟨v5,rfl,hc5,hx5⟩;have hbs5:((w6.alloc (.cells #[.int .i64 (T1.ba i:Int)] 3)).drew).heap.size<=w15.heap.size:=hx5.size;replace hsrc13:=Kz hsrc13 hx5;refine hK.o _ _ (hHeld.trans hx5) (fun hHeld=>?_);clear hK K;(try go_frame);refine Ez 14 (h:=fun K hK=>?_);refine B0 rfl _ _ rfl underlying45 Tryz.infoInt1 rfl (E5 0) (by decide) (by decide) _ v5 T1.n (Ex T1.n T1.fr) rfl hc5.own.1 hc5.own.2 (Gd _ _) ⟨w6.heap.size,0,none⟩ 1 [.int .i64 (T1.ba i:Int)] rfl rfl hsrc13 (J0 _) (E5 _) (by omega) hbs5 (fun v14 w14 ha14=>?_);have HIa:=bH ((BQ.app ha14).nrow (by omega));refine hK.o _ _ (hHeld.own ha14.ext (fun k e=>Nat.le_trans hlo5 (hc5.low k e))) (fun hHeld=>?_);clear hK K;(try go_frame);refine Ez 16 (h:=fun K hK=>?_);go_simp;go_at_call 89;(with_reducible refine (HMu.o _ _ hHeld HIa.o).mono ?_);rintro q6 w16 ⟨Y,rfl,hYb,hY,hx16⟩;have hYl:=Nat.le_trans hHeld.size hYb;refine hK.o _ _ (hHeld.trans hx16) (fun hHeld=>?_);clear hK K;(try go_frame);refine mu 17 (h:=?_);(try go_frame);have hbo:=AM HOb.o hHeld;have t0:=AA hbo 0 rfl;have t1:=AA hbo 1 rfl;have t2:=AA hbo 2 rfl;have t3:=AA hbo 3 rfl;have t4:=AA hbo 4 rfl;have t5:=AA hbo 5 rfl;have t6:=AA hbo 6 rfl;have f0:=AC hbo 0;have f1:=AC hbo 1;have f2:=AC hbo 2;have f3:=AC hbo 3;have f4:=AC hbo 4;have f5:=AC hbo 5;have f6:=AC hbo 6;refine ml 18 (h:=fun K hK=>?_);go_simp;refine hK.o _ _ ?_;clear hK K;(try go_frame);refine Dr (by kernel_rfl) ?_ _;have HPo:=bH (C8 hbo (.int .i64 1) (.bool false) (.slice none 0 0) (.slice none 0 0) (.slice none 0 0) (.slice (some ⟨Y,0,none⟩) p.rows.length p.rows.length) (.slice none 0 0));have HF:=bH (HInf.o _ _ _ hYl hHeld hY HPo.o);clear t0 f0 t1 f1 t2 f2 t3 f3 t4 f4 t5 f5 t6 f6;generalize ((((((w16.setCell ⟨ob,0,none⟩ (.int .i64 1)).setCell ⟨ob,1,none⟩ (.bool false)).setCell ⟨ob,2,none⟩ (.slice none 0 0)).setCell ⟨ob,3,none⟩ (.slice none 0 0)).setCell ⟨ob,4,none⟩ (.slice none 0 0)).setCell ⟨ob,5,none⟩ (.slice (some ⟨Y,0,none⟩) p.rows.length p.rows.length)).setCell ⟨ob,6,none⟩ (.slice none 0 0)=w17 at *;have g0:=AA HPo.o.1 0 rfl;have g1:=AA HPo.o.1 1 rfl;have g2:=AA HPo.o.1 2 rfl;have g3:=AA HPo.o.1 3 rfl;have g4:=AA HPo.o.1 4 rfl;have g5:=AA HPo.o.1 5 rfl;have g6:=AA HPo.o.1 6 rfl;go_wp2;exact bodyPost_ret (v:=.agg #[.int .i64 1,.bool false,.slice none 0 0,.slice none 0 0,.slice none 0 0,.slice (some ⟨Y,0,none⟩) p.rows.length p.rows.length,.slice none 0 0]) (by simp[results,results45,go_sem,g0,g1,g2,g3,g4,g5,g6]) rfl HF.o
theorem Ua{N:Nat} {D:Tb} (Q:Nat->Tb->Prop) (hQ:∀i D v u,D.M v u≠0->u<N->Q i D->Q (i+1) (Cq D v u)) (hD:Wf N D):∀(k:Nat) {D0:Tb},Wf N D0->F4 N D0 D->Fc (fun t=>D.B t && !D0.B t) N=k->∃E,Wf N E/\F4 N E D/\(∀t,E.B t=D.B t)/\∀i,Q i D0->Q (i+k) E
 | 0,D0,h0,he,hc=>by
  have hsub:∀t,t<N->D.B t=true->D0.B t=true:=fun t ht hb=>by
   have:=MF hc t ht;rw[hb] at this;simpa using this
  refine⟨D0,h0,he,fun t=>?_,fun i hi=>hi⟩;cases hDt:D.B t with
  | true=>exact hsub t (hD.dom t hDt) hDt
  | false =>
   cases h0t:D0.B t with
   | false=>rfl
   | true =>
    have htN:=h0.dom t h0t;have h1:=Db hD 0 (Bw t);have h2:=Gy h0 ((he.sol _ _).2 h1) h0t;have h3:AG N (fun u=>if D0.B u=true then 0 else D0.M t u*D7 N D 0 (Bw t) u)=0:=by
     refine Af fun u hu=>?_;cases h0u:D0.B u with
     | true=>rfl
     | false =>
      have hDu:D.B u=false:=by
       cases hb:D.B u with
       | false=>rfl
       | true=>rw[hsub u hu hb] at h0u;cases h0u
      have h4:D7 N D 0 (Bw t) u=0:=by
       rw[Bi hDu];unfold Bw;exact if_neg (fun e=>by subst e;rw[h0t] at h0u;cases h0u)
      rw[h4];simp
    rw[h3,Bi hDt] at h2;unfold Bw at h2;rw[if_pos rfl] at h2;grind
 | k+1,D0,h0,he,hc=>by
  obtain⟨u,huN,hu⟩:=NS (f:=fun t=>D.B t && !D0.B t) (n:=N) (by omega);simp only[Bool.and_eq_true,Bool.not_eq_true'] at hu;obtain⟨huD,hu0⟩:=hu;have hv:∃v,D0.B v=true/\D.B v=false/\D0.M v u≠0:=by
   refine Classical.byContradiction fun hn=>?_;have hz:∀v,D0.B v=true->D.B v=false->D0.M v u=0:=fun v h1 h2=>Classical.byContradiction fun h3=>hn ⟨v,h1,h2,h3⟩;have h1:=Db h0 0 (Bw u);have h2:=Gy hD ((he.sol _ _).1 h1) huD;have h3:AG N (fun t=>if D.B t=true then 0 else D.M u t*D7 N D0 0 (Bw u) t)=0:=by
    refine Af fun t ht=>?_;cases hDt:D.B t with
    | true=>rfl
    | false =>
     have:D7 N D0 0 (Bw u) t=0:=by
      cases h0t:D0.B t with
      | true =>
       rw[CY h0t,Cl _ huN hu0,hz t h0t hDt];grind
      | false =>
       rw[Bi h0t];unfold Bw;rw[if_neg (fun e=>by rw[e,huD] at hDt;cases hDt)]
     rw[this];simp
   rw[h3,Bi hu0] at h2;unfold Bw at h2;rw[if_pos rfl] at h2;grind
  obtain⟨v,hv0,hvD,hvu⟩:=hv;have h1:=Mk h0 hv0 hu0 huN hvu;have h2:=(Nw (N:=N) hv0 hu0 hvu).symm.trans he;have h3:Fc (fun t=>D.B t && !(Cq D0 v u).B t) N=k:=by
   have:=ME (f:=fun t=>D.B t && !D0.B t) (g:=fun t=>D.B t && !(Cq D0 v u).B t) (u:=u) huN (by simp[huD,hu0]) (by simp[Cq]) (fun t ht hne=>by
    show (D.B t && !D0.B t)=(D.B t && !(if t=u then true else if t=v then false else D0.B t));rw[if_neg hne];by_cases e:t=v
    ·rw[if_pos e,e,hvD];rfl
    rw[if_neg e])
   omega
  obtain⟨E,g1,g2,g3,g4⟩:=Ua Q hQ hD k h1 h2 h3;exact⟨E,g1,g2,g3,fun i hi=>by
   have:=g4 (i+1) (hQ i _ _ _ hvu huN hi);rwa [show i+1+k=i+(k+1) by omega] at this⟩
def Fr(d X:Nat) (q:Rat):Prop:=∃k:Int,q*(d:Rat)=(k:Rat)/\k.natAbs<=X
theorem Fr.zero(d X:Nat):Fr d X 0:=⟨0,by grind,by simp⟩
theorem Fr.int{X:Nat} {k:Int} (h:k.natAbs<=X):Fr 1 X (k:Rat):=⟨k,by rw[show ((1:Nat):Rat)=1 from rfl];grind,h⟩
theorem Nm(k:Int):∃s:Int,s.natAbs=1/\(k.natAbs:Int)=s*k:=by
 by_cases h:0<=k
 ·exact⟨1,rfl,by omega⟩
 exact⟨-1,rfl,by omega⟩
theorem Fr.sz{d X s:Nat} {q:Rat} (h:Fr d X q) (hd:0<d) (hdX:d<=X) (hX:X<4294967296 ^ s):Sz q s:=by
 obtain⟨k,h1,h2⟩:=h;have hd0:((d:Nat):Rat)≠0:=fun e=>by
  have e2:((d:Nat):Rat)=((0:Nat):Rat):=e;have:=Rat.natCast_inj.1 e2;omega
 have hq:mkRat k d=q:=by rw[Rat.mkRat_eq_div];grind
 obtain⟨num,den,nz,red⟩:=q;obtain⟨m,hm,e1,e2⟩:=Rat.mkRat_num_den (by omega) hq;have hm1:1<=m:=by omega
 refine⟨As (Nat.lt_of_le_of_lt ?_ hX),As (Nat.lt_of_le_of_lt ?_ hX)⟩
 ·show num.natAbs<=X;have:k.natAbs=num.natAbs*m:=(by rw[e1,Int.natAbs_mul,Int.natAbs_natCast]);have h3:=Nat.le_mul_of_pos_right num.natAbs (show 0<m by omega);omega
 show den<=X;have h3:=Nat.le_mul_of_pos_right den (show 0<m by omega);omega
def CD(N:Nat) (D:Tb) (X:Nat):Prop:=∃d:Nat,0<d/\d<=X/\(∀w t,t<N->Fr d X (D.M w t))/\(∀w,Fr d X (D.b w))/\∀t,t<N->Fr d X (D.d t)
theorem CD.bnd{N X s:Nat} {D:Tb} (h:CD N D X) (hX:X<4294967296 ^ s):Ut N D s:=by
 obtain⟨d,h1,h2,h3,h4,h5⟩:=h;exact⟨fun w t ht=>(h3 w t ht).sz h1 h2 hX,fun w=>(h4 w).sz h1 h2 hX,fun t ht=>(h5 t ht).sz h1 h2 hX⟩
section
variable {d X:Nat} {q a b c:Rat}
theorem T3{x y:Nat} (hx:x<=X) (hy:y<=X):x*y<=X*X:=Nat.mul_le_mul hx hy
theorem Fr.quot{kc s:Int} (hs:s.natAbs=1) (hn:(kc.natAbs:Int)=s*kc) (hc:c*(d:Rat)=(kc:Rat)) (hcX:kc.natAbs<=X) (hc0:c≠0) (hdX:d<=X) (hb:Fr d X b):Fr (d*kc.natAbs) (2*(X*X)) (b/c):=by
 obtain⟨kb,hb1,hb2⟩:=hb;have hn':((kc.natAbs:Nat):Rat)=(s:Rat)*(kc:Rat):=by
  rw[<- Rat.intCast_natCast,hn,Rat.intCast_mul]
 have hr:b/c*c=b:=by grind
 refine⟨s*kb*d,?_,?_⟩
 ·rw[Rat.natCast_mul,hn',Rat.intCast_mul,Rat.intCast_mul,Rat.intCast_natCast];generalize b/c=r at *;grind
 rw[Int.natAbs_mul,Int.natAbs_mul,hs,Int.natAbs_natCast,Nat.one_mul];have:=T3 hb2 hdX;omega
theorem Fr.step{kc s:Int} (hs:s.natAbs=1) (hn:(kc.natAbs:Int)=s*kc) (hc:c*(d:Rat)=(kc:Rat)) (hcX:kc.natAbs<=X) (hc0:c≠0) (hq:Fr d X q) (ha:Fr d X a) (hb:Fr d X b):Fr (d*kc.natAbs) (2*(X*X)) (q-a*(b/c)):=by
 obtain⟨kq,hq1,hq2⟩:=hq;obtain⟨ka,ha1,ha2⟩:=ha;obtain⟨kb,hb1,hb2⟩:=hb;have hn':((kc.natAbs:Nat):Rat)=(s:Rat)*(kc:Rat):=by
  rw[<- Rat.intCast_natCast,hn,Rat.intCast_mul]
 have hr:b/c*c=b:=by grind
 refine⟨s*(kq*kc-ka*kb),?_,?_⟩
 ·rw[Rat.natCast_mul,hn',Rat.intCast_mul,Rat.intCast_sub,Rat.intCast_mul,Rat.intCast_mul];generalize b/c=r at *;grind
 rw[Int.natAbs_mul,hs,Nat.one_mul];have h1:=Int.natAbs_sub_le (kq*kc) (ka*kb);rw[Int.natAbs_mul,Int.natAbs_mul] at h1;have h2:=T3 hq2 hcX;have h3:=T3 ha2 hb2;omega
end
theorem Tx{N X:Nat} {D:Tb} {v u:Nat} (h:CD N D X) (hu:u<N) (h0:D.M v u≠0):CD N (Cq D v u) (2*(X*X)):=by
 obtain⟨d,h1,h2,h3,h4,h5⟩:=h;obtain⟨kc,hc,hcX⟩:=h3 v u hu;obtain⟨s,hs,hn⟩:=Nm kc;have hk0:kc.natAbs≠0:=fun e=>by
  have e2:kc=0:=(by omega);subst e2;have hd0:((d:Nat):Rat)≠0:=fun e=>by
   have e2:((d:Nat):Rat)=((0:Nat):Rat):=e;have:=Rat.natCast_inj.1 e2;omega
  have:D.M v u*(d:Rat)=0:=hc;grind
 have hm:=T3 h2 hcX;refine⟨d*kc.natAbs,Nat.mul_pos h1 (by omega),by omega,fun w t ht=>?_,fun w=>?_,fun t ht=>?_⟩
 ·show Fr _ _ (if w=u then D.M v t/D.M v u else if w=v then 0 else D.M w t-D.M w u*(D.M v t/D.M v u));split
  ·exact Fr.quot hs hn hc hcX h0 h2 (h3 v t ht)
  split
  ·exact Fr.zero _ _
  exact Fr.step hs hn hc hcX h0 (h3 w t ht) (h3 w u hu) (h3 v t ht)
 ·show Fr _ _ (if w=u then D.b v/D.M v u else if w=v then 0 else D.b w-D.M w u*(D.b v/D.M v u));split
  ·exact Fr.quot hs hn hc hcX h0 h2 (h4 v)
  split
  ·exact Fr.zero _ _
  exact Fr.step hs hn hc hcX h0 (h4 w) (h3 w u hu) (h4 v)
 exact Fr.step hs hn hc hcX h0 (h5 t ht) (h5 u hu) (h3 v t ht)
def IC(e:Nat):Nat->Nat
 | 0=>e
 | k+1=>2*IC e k+1
theorem JW(e:Nat):∀{k m:Nat},k<=m->IC e k<=IC e m
 | k,0,h=>by
  have:k=0:=(by omega);subst this;exact Nat.le_refl _
 | k,m+1,h=>by
  by_cases e1:k=m+1
  ·subst e1;exact Nat.le_refl _
  have:=JW e (k:=k) (m:=m) (by omega);show IC e k<=2*IC e m+1;omega
theorem UR{N m e s:Nat} {D D0:Tb} (hD:Wf N D) (h0:Wf N D0) (he:F4 N D0 D) (hB:∀t,m<=t->t<N->D0.B t=true) (hb:CD N D0 (2 ^ e)) (hs:IC e m<32*s):Ut N D s:=by
 obtain⟨E,g1,g2,g3,g4⟩:=Ua (fun i D=>CD N D (2 ^ IC e i)) (fun i D v u hne hu hc=>by
  have:=Tx hc hu hne;have e2:2*(2 ^ IC e i*2 ^ IC e i)=2 ^ IC e (i+1):=by
   show _=2 ^ (2*IC e i+1);rw[Nat.pow_succ,show 2*IC e i=IC e i+IC e i by omega,Nat.pow_add];omega
  rwa [e2] at this) hD _ h0 he rfl
 have hle:Fc (fun t=>D.B t && !D0.B t) N<=m:=by
  refine Py (fun t ht=>?_) N;by_cases htN:t<N
  ·rw[hB t ht htN];simp
  cases hb:D.B t with
  | false=>rfl
  | true=>exact absurd (hD.dom t hb) htN
 have h1:=g4 0 hb;rw[Nat.zero_add] at h1;have h2:Ut N E s:=h1.bnd (by
  rw[show (4294967296:Nat)=2 ^ 32 from rfl,<- Nat.pow_mul];refine Nat.pow_lt_pow_right (by omega) ?_;have:=JW e hle;omega)
 obtain⟨k1,k2,k3,_⟩:=g2.same g1 hD g3;exact⟨fun w t ht=>by rw[<- k1 w t ht];exact h2.M w t ht,fun w=>by rw[<- k2 w];exact h2.b w,fun t ht=>by rw[<- k3 t ht];exact h2.d t ht⟩
theorem M7{c:Nat} {f:Nat->Rat}:∀{n:Nat},(∀i,i<n->∃k:Int,f i=(k:Rat)/\k.natAbs<=c)->∃k:Int,AG n f=(k:Rat)/\k.natAbs<=n*c
 | 0,_=>⟨0,rfl,by simp⟩
 | n+1,h=>by
  obtain⟨k,h1,h2⟩:=M7 (n:=n) (fun i hi=>h i (by omega));obtain⟨m,h3,h4⟩:=h n (by omega);refine⟨k+m,by rw[Rat.intCast_add,<- h1,<- h3];rfl,?_⟩;have:=Int.natAbs_add_le k m;rw[Nat.add_mul];omega
theorem Ic{z:Int} (h:CT z=true):z.natAbs<=1099511627776:=by
 unfold CT at h;simp only[Bool.and_eq_true,decide_eq_true_eq] at h;omega
theorem Jq{n:Int}:∀{l:List B1} {last:Int},Bq n last l=true->(l≠[]->last+1+l.length<=n)/\∀t∈l,t.coef.natAbs<=1099511627776
 | [],_,_=>⟨fun h=>absurd rfl h,fun t ht=>by cases ht⟩
 | t::l,last,h=>by
  unfold Bq at h;simp only[Bool.and_eq_true,decide_eq_true_eq] at h;obtain⟨⟨⟨⟨h1,h2⟩,_⟩,h4⟩,h5⟩:=h;obtain⟨g1,g2⟩:=Jq h5;refine⟨fun _=>?_,fun x hx=>?_⟩
  ·by_cases e:l=[]
   ·subst e;show last+1+((0+1:Nat):Int)<=n;omega
   have:=g1 e;rw[List.length_cons];omega
  rcases List.mem_cons.1 hx with e|e
  ·rw[e];exact Ic h4
  exact g2 x e
section
variable {p:AH} {l:AZ}
theorem RF(hv:AU p=true) {r:Nat} (hr:r<p.rows.length):(p.r r).terms.length<=p.vars.length/\∀t∈(p.r r).terms,t.coef.natAbs<=1099511627776:=by
 have h:=BR hv hr;unfold Cx at h;simp only[Bool.and_eq_true] at h;obtain⟨h1,h2⟩:=Jq h.2;refine⟨?_,h2⟩;by_cases e:(p.r r).terms=[]
 ·rw[e];exact Nat.zero_le _
 have:=h1 e;omega
theorem JS(hv:AU p=true) (h:BF p l):(AV p l).length<=p.vars.length/\∀k,k<(AV p l).length->((AV p l).getD k AW).coef.natAbs<=1099511627776:=by
 rcases h with⟨h1,h2,_⟩|⟨h1,h2,_⟩
 ·have e:AV p l=[⟨l.var,1⟩]:=if_pos (by omega);rw[e];refine⟨by show 1<=_;omega,fun k hk=>?_⟩;have:k=0:=(by simpa using hk);subst this;show (1:Int).natAbs<=1099511627776;decide
 have e:AV p l=(p.r l.row.toNat).terms:=if_neg (by omega);rw[e];obtain⟨g1,g2⟩:=RF hv h2;refine⟨g1,fun k hk=>g2 _ ?_⟩;rw[List.getD_eq_getElem?_getD,List.getElem?_eq_getElem hk];exact List.getElem_mem hk
theorem Rd(l:AZ):(A6 l).natAbs=1:=by
 unfold A6;split
 ·rfl
 split<;>rfl
theorem SJ(hv:AU p=true) (h:BF p l) (t:Nat):∃k:Int,Cp p l t=(k:Rat)/\k.natAbs<=p.vars.length*1099511627776:=by
 obtain⟨g1,g2⟩:=JS hv h;obtain⟨k,k1,k2⟩:=M7 (c:=1099511627776) (f:=fun k=>if ((AV p l).getD k AW).var=(t:Int) then (((AV p l).getD k AW).coef:Rat)*(A6 l:Rat) else 0) (n:=(AV p l).length) (fun i hi=>by
  show ∃k:Int,(if ((AV p l).getD i AW).var=(t:Int) then (((AV p l).getD i AW).coef:Rat)*(A6 l:Rat) else 0)=(k:Rat)/\_;split
  ·refine⟨((AV p l).getD i AW).coef*A6 l,by rw[Rat.intCast_mul],?_⟩;rw[Int.natAbs_mul,Rd,Nat.mul_one];exact g2 i hi
  exact⟨0,rfl,by simp⟩)
 exact⟨k,k1,Nat.le_trans k2 (Nat.mul_le_mul_right _ g1)⟩
theorem NJ(hv:AU p=true) {i:Nat} (hi:i<p.vars.length):(p.v i).lo.natAbs<=1099511627776/\(p.v i).up.natAbs<=1099511627776/\(p.v i).co.natAbs<=1099511627776:=by
 have h:=CZ hv hi;unfold Gk at h;simp only[Bool.and_eq_true] at h;exact⟨Ic h.1.1.1,Ic h.1.1.2,Ic h.1.2⟩
theorem SY(hv:AU p=true) (h:BF p l):∃k:Int,Fi p l=(k:Rat)/\k.natAbs<=2*1099511627776+p.vars.length*(1099511627776*1099511627776):=by
 have hb:∃k:Int,Cs p l=(k:Rat)/\k.natAbs<=2*1099511627776+p.vars.length*(1099511627776*1099511627776):=by
  unfold Cs;rcases h with⟨h1,h2,h3⟩|⟨h1,h2,h3⟩
  ·rw[if_pos (by omega)];obtain⟨a,b,_⟩:=NJ hv h2;refine⟨_,rfl,?_⟩;have:=Int.natAbs_sub_le (p.v l.var).up (p.v l.var).lo;omega
  rw[if_neg (by omega)];have hl:BF p l:=.inr ⟨h1,h2,h3⟩;obtain⟨g1,g2⟩:=JS hv hl;obtain⟨k,k1,k2⟩:=M7 (c:=1099511627776*1099511627776) (f:=fun k=>(((AV p l).getD k AW).coef:Rat)*((p.v ((AV p l).getD k AW).var.toNat).lo:Rat)) (n:=(AV p l).length) (fun i hi=>by
   refine⟨((AV p l).getD i AW).coef*(p.v ((AV p l).getD i AW).var.toNat).lo,by rw[Rat.intCast_mul],?_⟩;rw[Int.natAbs_mul];have:=hl.terms hv i hi;exact Nat.mul_le_mul (g2 i hi) (NJ hv (by omega)).1)
  have hr:=BR hv h2;unfold Cx at hr;simp only[Bool.and_eq_true] at hr;have hbd:=Ic hr.1.1.2;refine⟨(p.r l.row.toNat).bound-k,?_,?_⟩
  ·rw[Rat.intCast_sub,<- k1];rfl
  have:=Int.natAbs_sub_le (p.r l.row.toNat).bound k;have h4:=Nat.mul_le_mul_right (1099511627776*1099511627776) g1;omega
 obtain⟨k,k1,k2⟩:=hb;refine⟨k*A6 l,?_,?_⟩
 ·unfold Fi;rw[k1,Rat.intCast_mul]
 rw[Int.natAbs_mul,Rd,Nat.mul_one];exact k2
end
theorem Tf{p:AH} {us:List AZ} {X:Nat} (hv:AU p=true) (hok:EY p us) (hX:2*1099511627776+p.vars.length*(1099511627776*1099511627776)<=X):CD (p.vars.length+us.length) (Cb p us) X:=by
 have h1:∀k:Int,k.natAbs<=2->Fr 1 X (k:Rat):=fun k hk=>Fr.int (by omega);have hm:p.vars.length*1099511627776<=p.vars.length*(1099511627776*1099511627776):=Nat.mul_le_mul_left _ (by decide);refine⟨1,by omega,by omega,fun w t ht=>?_,fun w=>?_,fun t ht=>?_⟩
 ·rw[II];split
  ·split
   ·obtain⟨k,k1,k2⟩:=SJ hv (hok (w-p.vars.length) (by omega)) t;rw[k1];exact Fr.int (by omega)
   split
   ·exact h1 1 (by decide)
   exact h1 0 (by decide)
  exact h1 0 (by decide)
 ·rw[KQ];split
  ·obtain⟨k,k1,k2⟩:=SY hv (hok (w-p.vars.length) (by omega));rw[k1];exact Fr.int (by omega)
  exact h1 0 (by decide)
 rw[GR];split
 ·exact Fr.int (by have:=(NJ hv (i:=t) (by omega)).2.2;omega)
 exact h1 0 (by decide)
theorem Qu{p:AH} {ls:List AZ} {e s:Nat} (hv:AU p=true) (he:2*1099511627776+p.vars.length*(1099511627776*1099511627776)<=2 ^ e) (hs:IC e p.vars.length<32*s):DA p ls s:=fun us _ hok D hD hE =>
 UR hD (F5 p us) hE (fun t h1 h2=>by rw[JZ];exact decide_eq_true ⟨h1,h2⟩) (Tf hv hok he) hs
theorem Mi{p:AH} {ls:List AZ} (hv:AU p=true) (hn:p.vars.length<=6):DA p ls 168:=by
 refine Qu (e:=83) hv ?_ ?_
 ·have h1:=Nat.mul_le_mul_right (1099511627776*1099511627776) hn;exact Nat.le_trans (Nat.add_le_add_left h1 _) (by decide)
 exact Nat.lt_of_le_of_lt (JW 83 hn) (by decide)
section
variable {N:Nat} {T:AX} {D:Tb}
theorem EI.sum(h:EI N T D) (F:Nat->Rat):AG T.n (fun j=>F (T.fr j))=AG N (fun t=>if D.B t then 0 else F t):=by
 rw[AE (g:=fun j=>AG N (fun t=>if t=T.fr j then F (T.fr j) else 0)) (fun j hj=>by rw[BK,if_pos (h.fr j hj)]),CB];refine AE fun t ht=>?_;cases hb:D.B t with
 | true =>
  rw[if_pos rfl];exact Af fun j hj=>if_neg fun e=>by rw[e,h.free j hj] at hb;cases hb
 | false =>
  rw[if_neg Bool.false_ne_true];obtain⟨j0,h0,e0⟩:=h.frs t ht hb;rw[AE (g:=fun j=>if j=j0 then F t else 0) (fun j hj=>by
   by_cases e:j=j0
   ·rw[e,if_pos e0.symm,if_pos rfl,e0]
   rw[if_neg e,if_neg (fun e2=>e (h.fi j j0 hj h0 (by rw[e0,e2])))]),BK,if_pos h0]
theorem Lz{c i v:Nat}:∀{m:Nat},i<m->T.ba i=v->(∀j k,j<m->k<m->T.ba j=T.ba k->j=k)->FE T c m v = -T.al i c
 | 0,h,_,_=>absurd h (Nat.not_lt_zero i)
 | m+1,h,hv,hu=>by
  unfold FE;by_cases e:i=m
  ·subst e;rw[if_pos hv]
  rw[if_neg (fun e2=>e (hu i m (by omega) (by omega) (hv.trans e2.symm)))];exact Lz (by omega) hv (fun j k hj hk=>hu j k (by omega) (by omega))
theorem MN{c v:Nat}:∀{m:Nat},(∀i,i<m->T.ba i≠v)->FE T c m v=if T.fr c=v then 1 else 0
 | 0,_=>rfl
 | m+1,h=>by
  unfold FE;rw[if_neg (h m (by omega))];exact MN (fun i hi=>h i (by omega))
theorem EI.ray(h:EI N T D) {c:Nat} (hc:c<T.n) (v:Nat):FE T c T.m v=D7 N D 0 (Bw (T.fr c)) v:=by
 cases hb:D.B v with
 | true =>
  obtain⟨i,hi,rfl⟩:=h.bas v hb;rw[Lz hi rfl h.bi,CY hb,Cl _ (h.fr c hc) (h.free c hc),h.al i c hi hc];grind
 | false =>
  rw[Bi hb,MN (fun i hi e=>by rw[<- e,h.ba i hi] at hb;cases hb)];unfold Bw;by_cases e:T.fr c=v
  ·rw[if_pos e,if_pos e.symm]
  rw[if_neg e,if_neg (Ne.symm e)]
theorem EI.basic(h:EI N T D):RP N D 1 D.b:=by
 have h1:=Db h.wf 1 (fun _=>0);have e:D7 N D 1 (fun _=>0)=D.b:=funext fun t=>by
  cases hb:D.B t with
  | true=>rw[CY hb,It];grind
  | false=>rw[Bi hb,h.wf.rhs t hb]
 rwa [e] at h1
theorem EI.bge(h:EI N T D) (hb:∀k,k<T.m->0<=T.be k) (v:Nat):0<=D.b v:=by
 cases hB:D.B v with
 | true =>
  obtain⟨k,hk,rfl⟩:=h.bas v hB;rw[h.be k hk];exact hb k hk
 | false=>rw[h.wf.rhs v hB];exact Rat.le_refl
theorem EI.dge(h:EI N T D) (hd:∀j,j<T.n->0<=T.d j) {v:Nat} (hv:v<N):0<=D.d v:=by
 cases hB:D.B v with
 | true=>rw[h.wf.cost v hB];exact Rat.le_refl
 | false =>
  obtain⟨k,hk,rfl⟩:=h.frs v hv hB;rw[h.d k hk];exact hd k hk
end
section
variable {p:AH} {us ls:List AZ} {T T1 T2:AX} {D:Tb} {o:Co}
theorem JM(f:Nat->Nat) (g:Nat->Rat) (r:Nat):∀m:Nat,Cv p us f g m r=AG m fun k=>Cd p us (f k) (g k) r
 | 0=>rfl
 | m+1=>by
  show Cv p us f g m r+_=AG m _+_;rw[JM f g r m]
theorem LN(v r:Nat):Cd p us v 0 r=0:=by
 unfold Cd;split
 ·rfl
 split
 ·split
  ·rfl
  grind
 rfl
theorem Rk(W:Nat->Rat) (r:Nat):yW p us W r=AG (p.vars.length+us.length) fun t=>Cd p us t (W t) r:=by
 rw[C0,Af (f:=fun t=>Cd p us t (W t) r) (fun t ht=>by unfold Cd;rw[if_pos ht])];unfold yW;rw[AE (g:=fun j=>Cd p us (p.vars.length+j) (W (p.vars.length+j)) r) (fun j hj=>by
  have e0:Cd p us (p.vars.length+j) (W (p.vars.length+j)) r=if (us.getD j BB).row=(r:Int) then (if (us.getD j BB).tur then W (p.vars.length+j) else -W (p.vars.length+j)) else 0:=by
   unfold Cd;rw[if_neg (show ¬p.vars.length+j<p.vars.length by omega),Nat.add_sub_cancel_left]
  rw[e0];by_cases e:(us.getD j BB).row=(r:Int)
  ·rw[if_pos e,if_pos e];unfold A6;rw[if_neg (show ¬(us.getD j BB).row<0 by omega)];split
   ·show -(((-1:Int):Rat)*_)=_;grind
   show -(((1:Int):Rat)*_)=_;grind
  rw[if_neg e,if_neg e])]
 grind
theorem Rp(h:EI (p.vars.length+us.length) T D) (r:Nat):Cv p us T.fr T.d T.n r=yW p us D.d r:=by
 rw[JM,Rk];refine Eq.trans (AE (g:=fun j=>Cd p us (T.fr j) (D.d (T.fr j)) r) (fun j hj=>by rw[h.d j hj])) ((h.sum (fun t=>Cd p us t (D.d t) r)).trans ?_);refine AE fun t _=>?_;cases hb:D.B t with
 | true=>rw[if_pos rfl,h.wf.cost t hb,LN]
 | false=>rw[if_neg Bool.false_ne_true]
theorem Sr(h:EI (p.vars.length+us.length) T D) {i:Nat} (hi:i<T.m) (r:Nat):Cv p us (Kq T i) (Jw T i) (T.n+1) r=yW p us (D.M (T.ba i)) r:=by
 rw[JM,Rk];show AG T.n _+_=_;have hb:=h.ba i hi;have e0:AG T.n (fun k=>Cd p us (Kq T i k) (Jw T i k) r)=_:=Eq.trans (AE (g:=fun j=>Cd p us (T.fr j) (D.M (T.ba i) (T.fr j)) r) (fun j hj=>by
  unfold Kq Jw;rw[if_neg (show ¬j=T.n by omega),if_neg (show ¬j=T.n by omega),h.al i j hi hj])) (h.sum (fun t=>Cd p us t (D.M (T.ba i) t) r))
 rw[e0];have e1:Cd p us (Kq T i T.n) (Jw T i T.n) r=AG (p.vars.length+us.length) (fun t=>if t=T.ba i then Cd p us (T.ba i) 1 r else 0):=by
  rw[BK,if_pos (h.wf.dom _ hb)];unfold Kq Jw;rw[if_pos rfl,if_pos rfl]
 show _+Cd p us (Kq T i T.n) (Jw T i T.n) r=_;rw[e1,<- DM];refine AE fun t _=>?_;cases hbt:D.B t with
 | true =>
  rw[if_pos rfl,h.wf.unit _ _ hb hbt];by_cases e:t=T.ba i
  ·rw[if_pos e,if_pos e.symm,e];grind
  rw[if_neg e,if_neg (Ne.symm e),LN];grind
 | false =>
  rw[if_neg Bool.false_ne_true,if_neg (fun e=>by rw[e,hb] at hbt;cases hbt)];grind
theorem Ky(hg:Dx p ls T us) (hok:∀l∈ls,BF p l):EY p us:=fun j hj=>hok _ (hg.sub _ (by
 rw[List.getD_eq_getElem?_getD,List.getElem?_eq_getElem hj];exact List.getElem_mem hj))
theorem NX{N:Nat} (hr:EI N T D):∀(j:Nat) {T':AX},Rr (CE (Dj T)) j T=some T'->∃D',Ft N (Dj T) T D j T' D'
 | 0,T',h=>by
  obtain rfl:T=T':=Option.some.inj h;exact⟨D,Ft.start hr fun e=>KE.1 (by unfold Dj at e;simpa using e)⟩
 | j+1,T',h=>by
  have h':(Rr (CE (Dj T)) j T).bind (CE (Dj T))=some T':=h;obtain⟨Tj,h1,h2⟩:=Option.bind_eq_some_iff.1 h';obtain⟨D',hd⟩:=NX hr j h1;obtain⟨i,h3,h4⟩:=Option.bind_eq_some_iff.1 h2;obtain⟨c,h5,h6⟩:=Option.bind_eq_some_iff.1 h4;obtain⟨_,_,_,hn⟩:=hd.next h3 h5;obtain rfl:=Option.some.inj h6;exact⟨_,hn⟩
theorem N0{N:Nat} (hr:EI N T D) (hb:∀k,k<T.m->0<=T.be k):∀(j:Nat) {T':AX},Rr CJ j T=some T'->∃D',Fq N T D j T' D'
 | 0,T',h=>by
  obtain rfl:T=T':=Option.some.inj h;exact⟨D,Fq.start hr hb⟩
 | j+1,T',h=>by
  have h':(Rr CJ j T).bind CJ=some T':=h;obtain⟨Tj,h1,h2⟩:=Option.bind_eq_some_iff.1 h';obtain⟨D',hd⟩:=N0 hr hb j h1;obtain⟨c,h3,h4⟩:=Option.bind_eq_some_iff.1 h2;obtain⟨i,h5,h6⟩:=Option.bind_eq_some_iff.1 h4;obtain⟨_,_,_,hn⟩:=hd.next h3 h5;obtain rfl:=Option.some.inj h6;exact⟨_,hn⟩
theorem Dx.dual(hg:Dx p ls T us) (hh:Cc (CE (Dj T)) T T1):Dx p ls T1 us:=by
 obtain⟨D,hr,he⟩:=hg.rep;obtain⟨⟨k,hk⟩,_⟩:=hh;obtain⟨D',hd⟩:=NX hr k hk;exact⟨⟨D',hd.rep,he.trans hd.short.2.1⟩,hg.nd,hg.sub⟩
theorem Dx.prim(hg:Dx p ls T us) (hb:∀k,k<T.m->0<=T.be k) (hh:Cc CJ T T1):Dx p ls T1 us/\∀k,k<T1.m->0<=T1.be k:=by
 obtain⟨D,hr,he⟩:=hg.rep;obtain⟨⟨k,hk⟩,_⟩:=hh;obtain⟨D',hd⟩:=N0 hr hb k hk;refine⟨⟨⟨D',hd.rep,he.trans hd.short.2.1⟩,hg.nd,hg.sub⟩,fun k hk=>?_⟩;rw[<- hd.rep.be k hk];exact hd.short.2.2.2 _
theorem Gz{z:List Rat} {dir:Bool} (hv:AU p=true) (hok:∀l∈ls,BF p l):∀(l2:List AZ) (st:Dw),(∀l∈l2,l∈ls)->Dx p ls st.T st.us->Dx p ls (Av p z dir l2 st).T (Av p z dir l2 st).us
 | [],_,_,h=>h
 | l::l2,st,hs,h=>by
  show Dx p ls (Av p z dir l2 (Ch p z dir st l)).T (Av p z dir l2 (Ch p z dir st l)).us;refine Gz hv hok l2 _ (fun x hx=>hs x (List.mem_cons_of_mem _ hx)) ?_;unfold Ch;split
  ·rename_i hc;have hm:FT st.us l=false:=by
    simp only[Bool.and_eq_true,Bool.not_eq_true'] at hc;exact hc.1
   exact h.use hv (hok l (hs l (List.mem_cons_self ..))) (hs l (List.mem_cons_self ..)) hm
  exact h
theorem L2{c:Rat} {x:Nat->Rat} (hv:AU p=true) (hok:EY p us) (hx:RP (p.vars.length+us.length) (Cb p us) c x) {j:Nat} (hj:j<us.length):c*Fi p (us.getD j BB)-AG p.vars.length (fun t=>Cp p (us.getD j BB) t*x t)=x (p.vars.length+j):=by
 have hb:(Cb p us).B (p.vars.length+j)=true:=by rw[JZ];exact decide_eq_true (by omega)
 have h1:=hx _ hb;rw[C0,KQ,if_pos (by omega),Nat.add_sub_cancel_left,AE (n:=p.vars.length) (g:=fun t=>Cp p (us.getD j BB) t*x t) (fun t ht=>by
  rw[II,if_pos (by omega),if_pos ht,Nat.add_sub_cancel_left]),AE (n:=us.length) (g:=fun k=>if k=j then x (p.vars.length+j) else 0) (fun k hk=>by
  rw[II,if_pos (by omega),if_neg (by omega)];by_cases e:k=j
  ·rw[if_pos (by omega),if_pos e,e];grind
  rw[if_neg (by omega),if_neg e];grind),BK,if_pos hj] at h1
 grind
theorem Ni{l:AZ} (h:l∈us):∃j,j<us.length/\us.getD j BB=l:=by
 obtain⟨j,hj,e⟩:=List.getElem_of_mem h;exact⟨j,hj,by rw[List.getD_eq_getElem?_getD,List.getElem?_eq_getElem hj,e];rfl⟩
theorem SN(h:EI (p.vars.length+us.length) T D):Ca p T=AP p.vars.length D.b:=by
 unfold Ca;rw[show BS T.ba T.be T.m=D.b from funext h.dist]
theorem TK(h:EI (p.vars.length+us.length) T D):UM p T=Ji p D.b:=by
 unfold UM Ji;rw[show BS T.ba T.be T.m=D.b from funext h.dist]
theorem OR(hv:AU p=true) (hls:∀l,BF p l->l∈ls) (hok:EY p us) (h:EI (p.vars.length+us.length) T D) (he:F4 (p.vars.length+us.length) (Cb p us) D) (hb:∀k,k<T.m->0<=T.be k) (hm:(Av p (Ca p T) false ls ⟨T,us,false⟩).b=false):D4 p (Ji p D.b)=true/\∀j,j<us.length->BM p (us.getD j BB) (AP p.vars.length D.b) false=D.b (p.vars.length+j):=by
 have hs:∀j,j<us.length->BM p (us.getD j BB) (AP p.vars.length D.b) false=D.b (p.vars.length+j):=fun j hj=>by
  rw[KK hv (hok j hj),if_neg Bool.false_ne_true];have:=L2 hv hok ((he.sol 1 D.b).2 h.basic) hj;rw[<- this];grind
 refine⟨Tn hv _ (fun t _=>h.bge hb t) fun l hl=>?_,hs⟩;by_cases hin:l∈us
 ·obtain⟨j,hj,rfl⟩:=Ni hin;rw[hs j hj];exact h.bge hb _
 have:=(NM hm).2.2 l (hls l hl) hin;rwa [SN h] at this
theorem UY{f:Nat->Rat} {W:Nat->Rat} (h:∀r,f r=yW p us W r):AP p.rows.length f=yL p us W:=by
 unfold yL;rw[show f=yW p us W from funext h]
theorem UC(hv:AU p=true) (hok:∀l∈ls,BF p l) (hg:Dx p ls T us) (hh:Cc (CE (Dj T)) T T1) {i:Nat} (hI:CK T1=some i):IG p (NB p us T1 i)=true:=by
 have ha:=Ky hg hok;have hend:=hh.2;obtain⟨D,hr,he⟩:=(hg.dual hh).rep;obtain⟨hi,hbi⟩:=K4 hI;have hC:FQ (Dj T) T1 i=none:=by
  unfold CE at hend;rw[hI] at hend;cases hc:FQ (Dj T) T1 i with
  | none=>rfl
  | some c=>rw[show ((some i).bind fun i=>(FQ (Dj T) T1 i).bind fun c=>some (DS T1 i c))=(FQ (Dj T) T1 i).bind fun c=>some (DS T1 i c) from rfl,hc] at hend;cases hend
 have hal:=IM hC;obtain⟨g1,g2⟩:=Iq (p:=p) (us:=us) (W:=D.M (T1.ba i)) (be:=D.b (T1.ba i)) (fun c x hx=>(he.sol c x).1 hx _ (hr.ba i hi));have hW:∀t,t<p.vars.length+us.length->0<=D.M (T1.ba i) t:=fun t ht=>by
  cases hb:D.B t with
  | true =>
   rw[hr.wf.unit _ _ (hr.ba i hi) hb];split
   ·show (0:Rat)<=1;decide
   exact Rat.le_refl
  | false =>
   obtain⟨j,hj,rfl⟩:=hr.frs t ht hb;rw[hr.al i j hi hj];exact hal j hj
 have hinf:=Sk hv ha hW g1 (by
  show AG us.length (fun j=>D.M (T1.ba i) (p.vars.length+j)*Fi p (us.getD j BB))<0;rw[<- g2,hr.be i hi];exact hbi)
 unfold IG NB;rw[UY (Sr hr hi)];show PW p _=true;unfold PW;rw[hinf];simp[yL,A9]
theorem UJ(hv:AU p=true) (hls:∀l,BF p l->l∈ls) (hok:∀l∈ls,BF p l) (hg:Dx p ls T2 us) (hb:∀k,k<T2.m->0<=T2.be k) (hm:(Av p (Ca p T2) false ls ⟨T2,us,false⟩).b=false) (hC:CF T2=none):IG p (Ko p us T2)=true:=by
 have ha:=Ky hg hok;obtain⟨D,hr,he⟩:=hg.rep;obtain⟨hf,hs⟩:=OR hv hls ha hr he hb hm;have hd:∀t,t<p.vars.length+us.length->0<=D.d t:=fun t ht=>hr.dge (LH hC) ht;obtain⟨g1,-⟩:=Iq (p:=p) (us:=us) (W:=fun t=>D.d t-(Cb p us).d t) (be:=-D.z) (fun c x hx=>by
  have h1:=he.obj c x hx;unfold KG at h1;rw[show (Cb p us).z=0 from rfl] at h1;rw[AE (g:=fun t=>D.d t*x t-(Cb p us).d t*x t) (fun t _=>by grind),B8];grind)
 have hcost:∀t,D.d t*D.b t=0:=fun t=>by
  cases hB:D.B t with
  | true=>rw[hr.wf.cost t hB];grind
  | false=>rw[hr.wf.rhs t hB];grind
 have hopt:=Sc (W:=D.d) hv ha D.b hf hd (fun t ht=>by
  have:=g1 t ht;rw[GR,if_pos ht] at this;rw[this];unfold gW;exact AE fun j hj=>by rw[GR,if_neg (by omega)];grind) (fun t _=>hcost t) (fun j hj=>by rw[hs j hj];exact hcost _)
 unfold IG Ko;rw[UY (Rp hr),TK hr];show SZ p _=true;unfold SZ;rw[hopt];simp[yL,Ji,A9]
theorem Tp(hv:AU p=true) (hls:∀l,BF p l->l∈ls) (hok:∀l∈ls,BF p l) (hg:Dx p ls T2 us) (hb:∀k,k<T2.m->0<=T2.be k) (hend:CJ T2=none) (hm:(Av p (Ca p T2) false ls ⟨T2,us,false⟩).b=false) {c:Nat} (hC:CF T2=some c) (hm2:(Av p (Iy p T2 c) true ls ⟨T2,us,false⟩).b=false):IG p (Kx p T2 c)=true:=by
 have ha:=Ky hg hok;obtain⟨D,hr,he⟩:=hg.rep;obtain⟨hf,-⟩:=OR hv hls ha hr he hb hm;obtain⟨hc,hdc⟩:=LV hC;have hI:GB T2 c=none:=by
  unfold CJ at hend;rw[hC] at hend;cases hc:GB T2 c with
  | none=>rfl
  | some i=>rw[show ((some c).bind fun c=>(GB T2 c).bind fun i=>some (DS T2 i c))=(GB T2 c).bind fun i=>some (DS T2 i c) from rfl,hc] at hend;cases hend
 have hal:=KJ hI;have hrf:Iy p T2 c=AP p.vars.length (D7 (p.vars.length+us.length) D 0 (Bw (T2.fr c))):=by
  unfold Iy;rw[show FE T2 c T2.m=D7 (p.vars.length+us.length) D 0 (Bw (T2.fr c)) from funext (hr.ray hc)]
 have hr0:∀v,0<=D7 (p.vars.length+us.length) D 0 (Bw (T2.fr c)) v:=fun v=>by
  cases hB:D.B v with
  | true =>
   obtain⟨k,hk,rfl⟩:=hr.bas v hB;rw[CY hB,Cl _ (hr.fr c hc) (hr.free c hc),hr.al k c hk hc];have:=hal k hk;grind
  | false =>
   rw[Bi hB];unfold Bw;split
   ·show (0:Rat)<=1;decide
   exact Rat.le_refl
 have hsol:=Db hr.wf 0 (Bw (T2.fr c));have hsl:∀l,BF p l->0<=BM p l (AP p.vars.length (D7 (p.vars.length+us.length) D 0 (Bw (T2.fr c)))) true:=fun l hl=>by
  by_cases hin:l∈us
  ·obtain⟨j,hj,rfl⟩:=Ni hin;rw[KK hv (ha j hj),if_pos rfl];have:=L2 hv ha ((he.sol 0 _).2 hsol) hj;have h2:=hr0 (p.vars.length+j);rw[<- this] at h2;grind
  have:=(NM hm2).2.2 l (hls l hl) hin;rwa [hrf] at this
 obtain⟨k1,k2⟩:=Uw hv _ (fun t _=>hr0 t) hsl;have hcost:Al p (Iy p T2 c)<0:=by
  have h1:=he.obj 0 _ ((he.sol 0 _).2 hsol);rw[Fk hr.wf] at h1;unfold KG at h1;rw[C0,Af (f:=fun j=>(Cb p us).d (p.vars.length+j)*_) (fun j _=>by rw[GR,if_neg (by omega)];grind),AE (g:=fun t=>((p.v t).co:Rat)*D7 (p.vars.length+us.length) D 0 (Bw (T2.fr c)) t) (fun t ht=>by rw[GR,if_pos ht]),AE (n:=p.vars.length+us.length) (g:=fun u=>if D.B u then 0 else D.d u*Bw (T2.fr c) u) (fun u _=>by
   cases hB:D.B u with
   | true=>rfl
   | false=>rw[if_neg Bool.false_ne_true,if_neg Bool.false_ne_true,Bi hB]),Cl _ (hr.fr c hc) (hr.free c hc),hr.d c hc] at h1
  have e:Al p (Iy p T2 c)=AG p.vars.length (fun t=>((p.v t).co:Rat)*D7 (p.vars.length+us.length) D 0 (Bw (T2.fr c)) t):=by
   rw[hrf];exact AE fun t ht=>by rw[BH _ ht]
  rw[e];grind
 have hunb:Mg p (UM p T2) (Iy p T2 c)=true:=by
  unfold Mg;rw[TK hr,hf,decide_eq_true hcost,hrf,k1,k2];rfl
 unfold IG Kx;show Rv p _=true;unfold Rv;rw[hunb];simp[UM,Iy,A9]
theorem CM.chk(hv:AU p=true) (hls:∀l,BF p l->l∈ls) (hok:∀l∈ls,BF p l) (h:CM p ls T us o):Dx p ls T us->IG p o=true/\0<=o.kind/\o.kind<=2:=by
 induction h with
 | inf h1 h2=>exact fun hg=>⟨UC hv hok hg h1 h2,by show (0:Int)<=1;decide,by show (1:Int)<=2;decide⟩
 | go1 h1 h2 h3 h4 _ ih =>
  intro hg;subst h3;exact ih (Gz hv hok ls _ (fun _ k=>k) (hg.dual h1))
 | go2 h1 h2 h3 h4 h5 h6 _ ih =>
  intro hg;subst h5;exact ih (Gz hv hok ls _ (fun _ k=>k) ((hg.dual h1).prim (Er h2) h4).1)
 | opt h1 h2 h3 h4 h5 h6 =>
  intro hg;obtain⟨g1,g2⟩:=(hg.dual h1).prim (Er h2) h4;exact⟨UJ hv hls hok g1 g2 h5 h6,by show (0:Int)<=0;decide,by show (0:Int)<=2;decide⟩
 | go3 h1 h2 h3 h4 h5 h6 h7 h8 _ ih =>
  intro hg;subst h7;exact ih (Gz hv hok ls _ (fun _ k=>k) ((hg.dual h1).prim (Er h2) h4).1)
 | unb h1 h2 h3 h4 h5 h6 h7 =>
  intro hg;obtain⟨g1,g2⟩:=(hg.dual h1).prim (Er h2) h4;exact⟨Tp hv hls hok g1 g2 h4.2 h5 h6 h7,by show (0:Int)<=2;decide,by show (2:Int)<=2;decide⟩
end
open Go.RowKit Go.MapKept Go.Lib
theorem Oo(w:World) (ao:Option Addr) (c:Nat) (fv:Value):Calls prog 42 #[.slice ao 0 c,fv] w fun r w'=>r=.returned (.bool false)/\w'=w:=by
 have h:∀W,Calls prog 85 #[.slice ao 0 c,fv] W fun r w'=>r=.returned (.int .i64 (-1))/\w'=W:=fun W=>by
  go_enter func85,ntmps85;go_wp2_with fail;go_loopg [8] 0 (fun gg s8 wr=>s8=.int .i64 0/\wr=W);case atStart=>exact⟨rfl,rfl⟩
  case round =>
   obtain⟨rfl,rfl⟩:=hrel;go_wp2;go_ret;exact⟨rfl,rfl⟩
 have H:=bH h;clear h;go_enter func42,ntmps42;go_wp2_with (go_at_call 85;refine (H.o _).mono ?_;rintro e w' ⟨rfl,rfl⟩);go_ret;exact⟨rfl,rfl⟩
theorem PN(w:World) (v:Ey):Calls prog 43 #[.agg (cV v).toArray] w (Ak w (!v.op&&decide (v.up<v.lo))):=by
 obtain⟨lo,up,op,ig,co⟩:=v;show Calls prog 43 #[.agg #[.int .i64 lo,.int .i64 up,.bool op,.bool ig,.int .i64 co]] w (Ak w (!op&&decide (up<lo)));have hx:=(AK.refl (fun _=>False) w).alloc (.cells #[.int .i64 lo,.int .i64 up,.bool op,.bool ig,.int .i64 co] 77);have HX:=bH hx;clear hx;cases op with
 | true =>
  go_enter func43,ntmps43;go_wp2;go_ret;exact⟨rfl,HX.o⟩
 | false =>
  go_enter func43,ntmps43;go_wp2;go_ret;exact⟨rfl,HX.o⟩
theorem OK(w:World) (vv:Value) (p:AH) (hv:Ju w vv p.vars):Calls prog 42 #[vv,.func (.func 43) #[] #[]] w (Ak w (CS p)):=by
 obtain⟨vo,vc,rfl,-,hn,-⟩:=hv.shape;by_cases h0:p.vars.length=0
 ·rw[h0];refine (Oo w vo vc _).mono ?_;rintro r w' ⟨rfl,rfl⟩;refine⟨AL ?_,AK.refl _ _⟩;unfold CS;rw[h0];rfl
 obtain⟨b,off,e1,hlt,-⟩:=hv.atp 0 (by omega);have hc:∀j,j<p.vars.length->∀i u,(cV (p.v j))[i]?=some u->w.cell? ⟨b,off+j*5+i,none⟩=some u:=fun j hj i u hi=>by
  obtain⟨b',off',e',_,c0,c1,c2,c3,c4,_⟩:=hv.atp j hj;rw[e1] at e';cases e';match i,hi with
  | 0,hi=>cases hi;exact c0
  | 1,hi=>cases hi;exact c1
  | 2,hi=>cases hi;exact c2
  | 3,hi=>cases hi;exact c3
  | 4,hi=>cases hi;exact c4
  | i+5,hi=>cases hi
 subst e1;have hq:=AnyQ.slices_ContainsFunc Tryz.laysVar8 5 isAgg77 sizeOf77 (fun j=>cV (p.v j)) (fun _=>rfl) (fun j=>!(p.v j).op&&decide ((p.v j).up<(p.v j).lo)) 43 #[] (enters_of func43 (by kernel_rfl) rfl) b off p.vars.length vc (List.range p.vars.length) w
  (fun W j hW=>by
   have hxx:=Below.ext hW;refine (PN W _).mono ?_;rintro e w' ⟨rfl,hx'⟩;exact⟨rfl,(hxx.trans hx').below⟩)
  (by simp) hn hlt (fun j hj i u hi=>by
   rw[List.length_range] at hj;rw[getElem!_pos _ j (by simpa using hj),List.getElem_range] at hi;exact hc j hj i u hi)
 refine hq.mono ?_;rintro r w' ⟨rfl,hb⟩;refine⟨AL ?_,Below.ext hb⟩;have ht:List.take p.vars.length (List.range p.vars.length)=List.range p.vars.length:=by rw[List.take_of_length_le (by simp)]
 rw[ht];unfold CS;rw[Bool.eq_iff_iff,List.any_eq_true,Bool.not_eq_true',<- Bool.not_eq_true,A5];constructor
 ·rintro⟨j,hj,h⟩ hall;have:=hall j (List.mem_range.1 hj);simp only[Bool.and_eq_true,Bool.not_eq_true',decide_eq_true_eq] at h;rw[h.1] at this;simp at this;omega
 intro h;refine Classical.byContradiction fun hno=>h fun j hj=>?_;refine Classical.byContradiction fun hj2=>hno ⟨j,List.mem_range.2 hj,?_⟩;cases ho:(p.v j).op with
 | true=>rw[ho] at hj2;simp at hj2
 | false =>
  rw[ho] at hj2;simp at hj2 ⊢;omega
theorem Kt(p:AH):Dx p (GA p) (Ke p) []:=by
 refine⟨⟨Cb p [],⟨F5 p [],fun j hj=>hj,fun i hi=>absurd hi (Nat.not_lt_zero i),fun j hj=>?_,fun v hv=>?_,fun v hv _=>⟨v,hv,rfl⟩,fun i k hi=>absurd hi (Nat.not_lt_zero i),fun j k _ _ e=>e,fun i j hi=>absurd hi (Nat.not_lt_zero i),fun i hi=>absurd hi (Nat.not_lt_zero i),fun j hj=>?_⟩,F4.refl _ _⟩,List.nodup_nil,fun l hl=>by cases hl⟩
 ·rw[JZ];have hj':j<p.vars.length:=hj;show decide (p.vars.length<=j/\_)=false;exact decide_eq_false (by omega)
 ·rw[JZ] at hv;have:=of_decide_eq_true hv;simp at this;omega
 have hj':j<p.vars.length:=hj;rw[GR];show (if j<p.vars.length then _ else _)=Uj p j;rw[if_pos hj'];rfl
def Pv:Co:=⟨0,0,[],[],[]⟩
def GV(p:AH):Co:=⟨1,0,[],AP p.rows.length (fun _=>0),[]⟩
inductive GU (p:AH):Co->Int->Prop
 | bad:AU p=false->GU p Pv 1
 | empty:AU p=true->CS p=true->GU p (GV p) 0
 | run {o:Co}:AU p=true->CS p=false->CM p (GA p) (Ke p) [] o->GU p o 0
def Fe(w0:World) (p:AH) (L:Nat) (r:Ending) (w':World):Prop:=∃v o e,r=.returned (.tuple #[v,.int .i64 e])/\GU p o e/\MX w0 w' v o L/\XF w0 w'
theorem JR(w:World) (pv:Value) (p:AH) (s L:Nat) (hp:Ba w pv p) (hB:AU p=true->DA p (GA p) s) (h2s:2<=s) (hs:s<=200000) (hn:p.vars.length<=400) (hls:2*p.rows.length+p.vars.length<1000)
  (hT:(p.vars.length+1)*(s+8)+s+20<=2000000) (hL1:1+(p.vars.length+1)*(s+1)<=L) (hL2:s+3<=L) (hL3:1+p.vars.length*(s+6)<=L) :
  Calls prog 14 #[pv] w (Fe w p L):=by
 have HP:=bH hp;obtain⟨vv,rv,rfl,hvars,hrows⟩:=hp;obtain⟨vo,vc,rfl,-,-,-⟩:=hvars.shape;obtain⟨ro,rc,rfl,-,-,-⟩:=hrows.shape;have HN:=bH (bI hB (bI hn (bI hls (bI hT (bI hL1 (bI hL2 hL3))))));have HV:=bH (fun W (hW:XF w W)=>Q4 W _ p (HP.o.keep hW));have HE:=bH (fun W (hW:XF w W)=>OK W _ p (hvars.keep hW));have hrl:p.rows.length<=1000000:=by omega
 clear hvars hrows hB hn hls hT hL1 hL2 hL3;obtain⟨n,hn'⟩:=bN p.vars.length;rw[hn'] at HV HE HP ⊢;obtain⟨m,hm'⟩:=bN p.rows.length;rw[hm'] at HV HP hrl ⊢;have HNm:=bH (bI hn' hm');clear hn' hm';have hx0:=(AK.refl (fun _=>False) w).alloc (.cells #[.slice vo n vc,.slice ro m rc] 25);have hx1:=hx0.alloc (.cells #[.int .i64 0,.bool false,.slice none 0 0,.slice none 0 0,.slice none 0 0,.slice none 0 0,.slice none 0 0] 37);have hpb:Au ((w.alloc (.cells #[.slice vo n vc,.slice ro m rc] 25)).alloc (.cells #[.int .i64 0,.bool false,.slice none 0 0,.slice none 0 0,.slice none 0 0,.slice none 0 0,.slice none 0 0] 37)) w.heap.size=some (.cells #[.slice vo n vc,.slice ro m rc] 25 (0,0)):=AM (AD _ _) ((AK.refl (fun _=>False) _).alloc _);have hob:Au ((w.alloc (.cells #[.slice vo n vc,.slice ro m rc] 25)).alloc (.cells #[.int .i64 0,.bool false,.slice none 0 0,.slice none 0 0,.slice none 0 0,.slice none 0 0,.slice none 0 0] 37)) (w.heap.size+1)=some (.cells #[.int .i64 0,.bool false,.slice none 0 0,.slice none 0 0,.slice none 0 0,.slice none 0 0,.slice none 0 0] 37 (0,0)):=by
  have:=AD (w.alloc (.cells #[.slice vo n vc,.slice ro m rc] 25)) (.cells #[.int .i64 0,.bool false,.slice none 0 0,.slice none 0 0,.slice none 0 0,.slice none 0 0,.slice none 0 0] 37);simpa using this
 have HB:=bH (bI hx1 (bI hpb hob));clear hx0 hx1 hpb hob;go_enter func14,ntmps14;go_upto_region 1 with fail;generalize (w.alloc (.cells #[.slice vo n vc,.slice ro m rc] 25)).alloc (.cells #[.int .i64 0,.bool false,.slice none 0 0,.slice none 0 0,.slice none 0 0,.slice none 0 0,.slice none 0 0] 37)=w1 at *;obtain⟨ob,hobe⟩:=bN (w.heap.size+1);have HOl:=bH (show ∀k,k=ob->w.heap.size<=k by omega);rw[hobe] at HB ⊢;clear hobe;obtain⟨pb,hpbe⟩:=bN w.heap.size;rw[hpbe] at HB ⊢;clear hpbe;have p0:w1.cell? ⟨pb,0,none⟩=some (.slice vo n vc):=AA HB.o.2.1 0 rfl;have p1:w1.cell? ⟨pb,1,none⟩=some (.slice ro m rc):=AA HB.o.2.1 1 rfl;have hL:1<=L:=by have:=HN.o.2.2.2.2.1;omega
 have HLL:=bH hL;clear hL;obtain⟨vb,hvb⟩:=bN (AU p);rw[hvb] at HV;have HVb:=bH hvb;clear hvb;cases vb with
 | false =>
  go_wp2_with (go_at_call 41;refine (HV.o _ HB.o.1).mono ?_;rintro r2 w2 ⟨rfl,hx2⟩;have hbo:=AM HB.o.2.2 hx2;have t0:=AA hbo 0 rfl;have t1:=AA hbo 1 rfl;have t2:=AA hbo 2 rfl;have t3:=AA hbo 3 rfl;have t4:=AA hbo 4 rfl;have t5:=AA hbo 5 rfl;have t6:=AA hbo 6 rfl;have f0:=AC hbo 0;have f1:=AC hbo 1;have f2:=AC hbo 2;have f3:=AC hbo 3;have f4:=AC hbo 4;have f5:=AC hbo 5;have f6:=AC hbo 6);have HPo:=bH (C8 (w:=w2) hbo (.int .i64 0) (.bool false) (.slice none 0 0) (.slice none 0 0) (.slice none 0 0) (.slice none 0 0) (.slice none 0 0));have HF:=bH (show Fe w p L (.returned (.tuple #[.agg #[.int .i64 0,.bool false,.slice none 0 0,.slice none 0 0,.slice none 0 0,.slice none 0 0,.slice none 0 0],.int .i64 1])) _ from⟨_,Pv,1,rfl,.bad HVb.o,fun S W hX hS hR=>⟨false,none,0,0,none,0,0,_,_,_,rfl,⟨AN.zero _,Sz.zero.mono HLL.o⟩,Ci.nil _ _,Ci.nil _ _,Ci.nil _ _,(show EX (0:Int) from⟨by decide,by decide⟩)⟩,(HB.o.1.trans hx2).own HPo.o.2 HOl.o⟩);clear t0 f0 t1 f1 t2 f2 t3 f3 t4 f4 t5 f5 t6 f6 hbo;generalize ((((((w2.setCell ⟨ob,0,none⟩ (.int .i64 0)).setCell ⟨ob,1,none⟩ (.bool false)).setCell ⟨ob,2,none⟩ (.slice none 0 0)).setCell ⟨ob,3,none⟩ (.slice none 0 0)).setCell ⟨ob,4,none⟩ (.slice none 0 0)).setCell ⟨ob,5,none⟩ (.slice none 0 0)).setCell ⟨ob,6,none⟩ (.slice none 0 0)=w17 at *;have g0:=AA HPo.o.1 0 rfl;have g1:=AA HPo.o.1 1 rfl;have g2:=AA HPo.o.1 2 rfl;have g3:=AA HPo.o.1 3 rfl;have g4:=AA HPo.o.1 4 rfl;have g5:=AA HPo.o.1 5 rfl;have g6:=AA HPo.o.1 6 rfl;exact bodyPost_ret (v:=.tuple #[.agg #[.int .i64 0,.bool false,.slice none 0 0,.slice none 0 0,.slice none 0 0,.slice none 0 0,.slice none 0 0],.int .i64 1]) (by simp[results,results14,go_sem,g0,g1,g2,g3,g4,g5,g6]) rfl HF.o
 | true =>
  go_upto_region 3 with (go_at_call 41;refine (HV.o _ HB.o.1).mono ?_;rintro r2 w2 ⟨rfl,hx2⟩;replace p0:=AB p0 hx2;replace p1:=AB p1 hx2);have HX2:=bH hx2;clear hx2;obtain⟨eb,heb⟩:=bN (CS p);rw[heb] at HE;have HEb:=bH heb;clear heb;cases eb with
  | true =>
   go_wp2_with (go_at_call 42;refine (HE.o _ (HB.o.1.trans HX2.o)).mono ?_;rintro r3 w3 ⟨rfl,hx3⟩;obtain⟨w4,hmk,hA,hx4⟩:=A7 w3 m hrl;replace p1:=AB p1 hx3;have hbo:=AM (AM (AM HB.o.2.2 HX2.o) hx3) hx4;have t0:=AA hbo 0 rfl;have t1:=AA hbo 1 rfl;have t2:=AA hbo 2 rfl;have t3:=AA hbo 3 rfl;have t4:=AA hbo 4 rfl;have t5:=AA hbo 5 rfl;have t6:=AA hbo 6 rfl;have f0:=AC hbo 0;have f1:=AC hbo 1;have f2:=AC hbo 2;have f3:=AC hbo 3;have f4:=AC hbo 4;have f5:=AC hbo 5;have f6:=AC hbo 6);have HPo:=bH (C8 (w:=w4) hbo (.int .i64 1) (.bool false) (.slice none 0 0) (.slice none 0 0) (.slice none 0 0) (.slice (some ⟨w3.heap.size,0,none⟩) m m) (.slice none 0 0));have HF:=bH (show Fe w p L (.returned (.tuple #[.agg #[.int .i64 1,.bool false,.slice none 0 0,.slice none 0 0,.slice none 0 0,.slice (some ⟨w3.heap.size,0,none⟩) m m,.slice none 0 0],.int .i64 0])) _ from⟨_,GV p,0,rfl,.empty HVb.o HEb.o,fun S W hX hS hR=>⟨false,none,0,0,none,0,0,_,_,_,rfl,⟨AN.zero _,Sz.zero.mono HLL.o⟩,Ci.nil _ _,(by have h9:=((Gq hbo HPo.o.2 hA).far (((HB.o.1.trans HX2.o).trans hx3).size) hX hS hR).crats (L:=L) (fun _ _=>Sz.zero.mono HLL.o) (by unfold maxLen;omega);rw[show m=p.rows.length from HNm.o.2.symm] at h9;rw[show m=p.rows.length from HNm.o.2.symm];exact h9),Ci.nil _ _,(show EX (1:Int) from⟨by decide,by decide⟩)⟩,(((HB.o.1.trans HX2.o).trans hx3).trans hx4).own HPo.o.2 HOl.o⟩);clear t0 f0 t1 f1 t2 f2 t3 f3 t4 f4 t5 f5 t6 f6 hbo;generalize ((((((w4.setCell ⟨ob,0,none⟩ (.int .i64 1)).setCell ⟨ob,1,none⟩ (.bool false)).setCell ⟨ob,2,none⟩ (.slice none 0 0)).setCell ⟨ob,3,none⟩ (.slice none 0 0)).setCell ⟨ob,4,none⟩ (.slice none 0 0)).setCell ⟨ob,5,none⟩ (.slice (some ⟨w3.heap.size,0,none⟩) m m)).setCell ⟨ob,6,none⟩ (.slice none 0 0)=w17 at *;have g0:=AA HPo.o.1 0 rfl;have g1:=AA HPo.o.1 1 rfl;have g2:=AA HPo.o.1 2 rfl;have g3:=AA HPo.o.1 3 rfl;have g4:=AA HPo.o.1 4 rfl;have g5:=AA HPo.o.1 5 rfl;have g6:=AA HPo.o.1 6 rfl;exact bodyPost_ret (v:=.tuple #[.agg #[.int .i64 1,.bool false,.slice none 0 0,.slice none 0 0,.slice none 0 0,.slice (some ⟨w3.heap.size,0,none⟩) m m,.slice none 0 0],.int .i64 0]) (by simp[results,results14,go_sem,g0,g1,g2,g3,g4,g5,g6]) rfl HF.o
  | false =>
   go_upto_region 5 with (go_at_call 42;refine (HE.o _ (HB.o.1.trans HX2.o)).mono ?_;rintro r3 w3 ⟨rfl,hx3⟩;replace p0:=AB p0 hx3;replace p1:=AB p1 hx3);have HX3:=bH ((HB.o.1.trans HX2.o).trans hx3);have HOb:=bH (AM (AM HB.o.2.2 HX2.o) hx3);clear hx3;have HSt:=bH (Qd w3 _ p (HP.o.keep HX3.o) HVb.o (by have:=HN.o.2.1;omega) (by have:=HN.o.2.2.1;omega));have hT:∀l∈GA p,(AV p l).length*(s+8)+s+20<=2000000:=fun l hl=>by
    have h1:=(JS HVb.o (G0.1 hl)).1;have h2:=Nat.mul_le_mul_right (s+8) h1;have h3:=HN.o.2.2.2.1;rw[Nat.add_mul] at h3;omega
   have HTT:=bH hT;clear hT;go_wp2_with ((first|(go_at_call 44;refine HSt.o.mono ?_;rintro r4 w4 ⟨tb,V,rfl,Aa⟩)|(go_at_call 45;refine (RC w3 w4 tb s L V (Ke p) p [] (GA p) Aa (Kt p) (HN.o.1 HVb.o) h2s hs (fun l hl=>G0.1 hl) (Nat.lt_of_le_of_lt Qn HN.o.2.2.1) HTT.o (by have:=HN.o.2.2.1;omega) HN.o.2.2.2.2.1 HN.o.2.2.2.2.2.1 HN.o.2.2.2.2.2.2 (by have h3:=HN.o.2.2.2.1;have h4:=Nat.mul_le_mul_left (p.vars.length+1) (show s+6<=s+8 by omega);omega)).mono ?_;rintro r5 w5 ⟨v5,o,rfl,hso,hfar,hx5⟩;obtain⟨ng,a1,m1,c1,a2,m2,c2,Ty,mv5,rv5,e5,ho1,ho2,ho3,ho4,ho5⟩:=hfar.now;obtain⟨po,pc,rfl,-,-,-⟩:=ho2.shape;obtain⟨mo,mc,rfl,-,-,-⟩:=ho3.shape;obtain⟨ro2,rc2,rfl,-,-,-⟩:=ho4.shape;subst e5;have HO:=bH (bI hso hfar);clear hso hfar ho1 ho2 ho3 ho4 ho5 Aa;generalize o.kind=kd at *;generalize o.pt.length=pn at *;generalize o.mu.length=mn at *;generalize o.ray.length=rn at *;have hbo:=AM HOb.o hx5;have t0:=AA hbo 0 rfl;have t1:=AA hbo 1 rfl;have t2:=AA hbo 2 rfl;have t3:=AA hbo 3 rfl;have t4:=AA hbo 4 rfl;have t5:=AA hbo 5 rfl;have t6:=AA hbo 6 rfl;have f0:=AC hbo 0;have f1:=AC hbo 1;have f2:=AC hbo 2;have f3:=AC hbo 3;have f4:=AC hbo 4;have f5:=AC hbo 5;have f6:=AC hbo 6)));have HPo:=bH (C8 (w:=w5) hbo (.int .i64 kd) (.bool ng) (.slice a1 m1 c1) (.slice a2 m2 c2) (.slice po pn pc) (.slice mo mn mc) (.slice ro2 rn rc2));have HF:=bH (show Fe w p L (.returned (.tuple #[.agg #[.int .i64 kd,.bool ng,.slice a1 m1 c1,.slice a2 m2 c2,.slice po pn pc,.slice mo mn mc,.slice ro2 rn rc2],.int .i64 0])) _ from⟨_,o,0,rfl,.run HVb.o HEb.o HO.o.1,fun S W hX hS hR=>HO.o.2 (fun k=>S k∨k=ob) W ((HPo.o.2.mono (fun _ _ h=>Or.inr h)).trans' hX (fun k _ e=>Or.inl e)) (fun k hk=>hk.elim (fun hk=>Nat.lt_of_lt_of_le (hS k hk) HX3.o.size) (fun hk=>by rw[hk];exact AT HOb.o)) (fun u d k=>hR _ _ (k.past HPo.o.2 (fun k _ e=>by have e':k=ob:=e;subst e';exact Fu hbo))),(HX3.o.trans hx5).own HPo.o.2 HOl.o⟩);clear t0 f0 t1 f1 t2 f2 t3 f3 t4 f4 t5 f5 t6 f6 hbo;generalize ((((((w5.setCell ⟨ob,0,none⟩ (.int .i64 kd)).setCell ⟨ob,1,none⟩ (.bool ng)).setCell ⟨ob,2,none⟩ (.slice a1 m1 c1)).setCell ⟨ob,3,none⟩ (.slice a2 m2 c2)).setCell ⟨ob,4,none⟩ (.slice po pn pc)).setCell ⟨ob,5,none⟩ (.slice mo mn mc)).setCell ⟨ob,6,none⟩ (.slice ro2 rn rc2)=w17 at *;have g0:=AA HPo.o.1 0 rfl;have g1:=AA HPo.o.1 1 rfl;have g2:=AA HPo.o.1 2 rfl;have g3:=AA HPo.o.1 3 rfl;have g4:=AA HPo.o.1 4 rfl;have g5:=AA HPo.o.1 5 rfl;have g6:=AA HPo.o.1 6 rfl;exact bodyPost_ret (v:=.tuple #[.agg #[.int .i64 kd,.bool ng,.slice a1 m1 c1,.slice a2 m2 c2,.slice po pn pc,.slice mo mn mc,.slice ro2 rn rc2],.int .i64 0]) (by simp[results,results14,go_sem,g0,g1,g2,g3,g4,g5,g6]) rfl HF.o
theorem FG(w:World) (o:Obj) (k:Nat) (h:k=w.heap.size):Au (w.alloc o) k=some o:=by subst h;exact AD w o
def VL:List Ey:=[⟨0,3,false,false,-1⟩,⟨0,3,false,false,-2⟩]
def VA:List B1:=[⟨0,1⟩,⟨1,1⟩]
def Uq:AH:=⟨VL,[⟨.empty,0,0,VA,4⟩]⟩
theorem Rm{W:World} {b:Nat} (b2:Au W b=some (.cells #[.int .i64 0,.int .i64 3,.bool false,.bool false,.int .i64 (-1),.int .i64 0,.int .i64 3,.bool false,.bool false,.int .i64 (-2)] 77 (0,0))):Ju W (.slice (some ⟨b,0,none⟩) 2 2) VL:=by
 refine⟨⟨_,_,rfl,Nat.le_refl _,(by unfold maxLen;decide),(fun e=>by cases e),fun _=>⟨b,0,rfl,AT b2,?_⟩⟩,?_⟩
 ·intro i r hi j u hu;match i,hi with
  | 0,hi=>cases hi;match j,hu with
   | 0,hu=>cases hu;exact AA b2 0 rfl
   | 1,hu=>cases hu;exact AA b2 1 rfl
   | 2,hu=>cases hu;exact AA b2 2 rfl
   | 3,hu=>cases hu;exact AA b2 3 rfl
   | 4,hu=>cases hu;exact AA b2 4 rfl
  | 1,hi=>cases hi;match j,hu with
   | 0,hu=>cases hu;exact AA b2 5 rfl
   | 1,hu=>cases hu;exact AA b2 6 rfl
   | 2,hu=>cases hu;exact AA b2 7 rfl
   | 3,hu=>cases hu;exact AA b2 8 rfl
   | 4,hu=>cases hu;exact AA b2 9 rfl
 intro x hx;simp[VL] at hx;rcases hx with rfl|rfl<;>exact⟨by unfold EX;decide,by unfold EX;decide,by unfold EX;decide⟩
theorem PG{W:World} {b:Nat} (b1:Au W b=some (.cells #[.int .i64 0,.int .i64 1,.int .i64 1,.int .i64 1] 95 (0,0))):G8 W (.slice (some ⟨b,0,none⟩) 2 2) VA:=by
 refine⟨⟨_,_,rfl,Nat.le_refl _,(by unfold maxLen;decide),(fun e=>by cases e),fun _=>⟨b,0,rfl,AT b1,?_⟩⟩,?_⟩
 ·intro i r hi j u hu;match i,hi with
  | 0,hi=>cases hi;match j,hu with
   | 0,hu=>cases hu;exact AA b1 0 rfl
   | 1,hu=>cases hu;exact AA b1 1 rfl
  | 1,hi=>cases hi;match j,hu with
   | 0,hu=>cases hu;exact AA b1 2 rfl
   | 1,hu=>cases hu;exact AA b1 3 rfl
 intro x hx;simp[VA] at hx;rcases hx with rfl|rfl<;>exact⟨by unfold EX;decide,by unfold EX;decide⟩
structure QY(W:World) (b:Nat):Prop where
 b1:Au W (b+1)=some (.cells #[.int .i64 0,.int .i64 1,.int .i64 1,.int .i64 1] 95 (0,0))
 b2:Au W (b+1+1)=some (.cells #[.int .i64 0,.int .i64 3,.bool false,.bool false,.int .i64 (-1),.int .i64 0,.int .i64 3,.bool false,.bool false,.int .i64 (-2)] 77 (0,0))
 b3:Au W (b+1+1+1)=some (.cells #[.string ⟨#[]⟩,.int .i64 0,.int .i64 0,.slice (some ⟨b+1,0,none⟩) 2 2,.int .i64 4] 51 (0,0))
theorem QY.keep{W W':World} {b:Nat} (h:QY W b) (hx:XF W W'):QY W' b:=⟨AM h.b1 hx,AM h.b2 hx,AM h.b3 hx⟩
theorem QY.prg{W:World} {b:Nat} (h:QY W b):Ba W (.agg #[.slice (some ⟨b+1+1,0,none⟩) 2 2,.slice (some ⟨b+1+1+1,0,none⟩) 1 1]) Uq:=by
 have b3:=h.b3;refine⟨_,_,rfl,Rm h.b2,⟨[.slice (some ⟨b+1,0,none⟩) 2 2],rfl,⟨_,_,rfl,Nat.le_refl _,(by unfold maxLen;decide),(fun e=>by cases e),fun _=>⟨b+1+1+1,0,rfl,AT b3,?_⟩⟩,?_⟩⟩
 ·intro i r hi j u hu;match i,hi with
  | 0,hi=>cases hi;match j,hu with
   | 0,hu=>cases hu;exact AA b3 0 rfl
   | 1,hu=>cases hu;exact AA b3 1 rfl
   | 2,hu=>cases hu;exact AA b3 2 rfl
   | 3,hu=>cases hu;exact AA b3 3 rfl
   | 4,hu=>cases hu;exact AA b3 4 rfl
 intro i r tv hr ht;match i,hr,ht with
 | 0,hr,ht =>
  cases hr;cases ht;exact⟨PG h.b1,⟨Nat.zero_le _,by unfold EX;decide,by unfold EX;decide,by unfold EX;decide⟩⟩
def U5(w:World) (r:Ending) (w':World):Prop:=∃b,r=.returned (.agg #[.slice (some ⟨b+1+1,0,none⟩) 2 2,.slice (some ⟨b+1+1+1,0,none⟩) 1 1])/\w.heap.size<=b/\QY w' b/\XF w w'
theorem Mh(w:World):Calls prog 37 #[] w (U5 w):=by
 have hx:=AK.refl (fun _=>False) w;go_enter func37,ntmps37;go_wp2;(try simp only[Exit.inBlock,Exit.then]);obtain⟨bs,hbs⟩:=bN w.heap.size;have hx4:=(((hx.alloc (.cells #[.slice (some ⟨w.heap.size+1+1,0,none⟩) 2 2,.slice (some ⟨w.heap.size+1+1+1,0,none⟩) 1 1] 25)).alloc (.cells #[.int .i64 0,.int .i64 1,.int .i64 1,.int .i64 1] 95)).alloc (.cells #[.int .i64 0,.int .i64 3,.bool false,.bool false,.int .i64 (-1),.int .i64 0,.int .i64 3,.bool false,.bool false,.int .i64 (-2)] 77)).alloc (.cells #[.string ⟨#[]⟩,.int .i64 0,.int .i64 0,.slice (some ⟨w.heap.size+1,0,none⟩) 2 2,.int .i64 4] 51);obtain⟨W,hW⟩:=bN ((((w.alloc (.cells #[.slice (some ⟨w.heap.size+1+1,0,none⟩) 2 2,.slice (some ⟨w.heap.size+1+1+1,0,none⟩) 1 1] 25)).alloc (.cells #[.int .i64 0,.int .i64 1,.int .i64 1,.int .i64 1] 95)).alloc (.cells #[.int .i64 0,.int .i64 3,.bool false,.bool false,.int .i64 (-1),.int .i64 0,.int .i64 3,.bool false,.bool false,.int .i64 (-2)] 77)).alloc (.cells #[.string ⟨#[]⟩,.int .i64 0,.int .i64 0,.slice (some ⟨w.heap.size+1,0,none⟩) 2 2,.int .i64 4] 51));have b0:Au W w.heap.size=some (.cells #[.slice (some ⟨w.heap.size+1+1,0,none⟩) 2 2,.slice (some ⟨w.heap.size+1+1+1,0,none⟩) 1 1] 25 (0,0)):=by
  rw[<- hW];refine (Ap _ _ _ (by simp[World.size_alloc]<;>omega)).trans ((Ap _ _ _ (by simp[World.size_alloc]<;>omega)).trans ((Ap _ _ _ (by simp)).trans (AD _ _)))
 have b1:Au W (w.heap.size+1)=some (.cells #[.int .i64 0,.int .i64 1,.int .i64 1,.int .i64 1] 95 (0,0)):=by
  rw[<- hW];refine (Ap _ _ _ (by simp[World.size_alloc]<;>omega)).trans ((Ap _ _ _ (by simp[World.size_alloc]<;>omega)).trans (FG _ _ _ (by simp[World.size_alloc])))
 have b2:Au W (w.heap.size+1+1)=some (.cells #[.int .i64 0,.int .i64 3,.bool false,.bool false,.int .i64 (-1),.int .i64 0,.int .i64 3,.bool false,.bool false,.int .i64 (-2)] 77 (0,0)):=by
  rw[<- hW];refine (Ap _ _ _ (by simp[World.size_alloc]<;>omega)).trans (FG _ _ _ (by simp[World.size_alloc]))
 have b3:Au W (w.heap.size+1+1+1)=some (.cells #[.string ⟨#[]⟩,.int .i64 0,.int .i64 0,.slice (some ⟨w.heap.size+1,0,none⟩) 2 2,.int .i64 4] 51 (0,0)):=by
  rw[<- hW];exact FG _ _ _ (by simp[World.size_alloc])
 rw[hW] at hx4 ⊢;have hs:w.heap.size+1+1+1<W.heap.size:=AT b3;clear hW;rw[hbs] at b0 b1 b2 b3 hs ⊢;refine bodyPost_ret (results_cell_row rfl _ W bs 25 _ (0,0) _ rfl b0 underlying25 rfl (by kernel_rfl)) rfl ?_;exact⟨bs,rfl,Nat.le_of_eq hbs,⟨b1,b2,b3⟩,hx4⟩
def Ue:AH:=⟨VL,[⟨.empty,0,0,VA,4⟩,⟨.empty,0,1,VA,7⟩]⟩
theorem QD{W:World} {b:Nat} {base:Nat} {v:Value} (h1:Au W (b+1)=some (.cells #[.int .i64 0,.int .i64 1,.int .i64 1,.int .i64 1] 95 (0,0))) (h2:Au W (b+1+1)=some (.cells #[.int .i64 0,.int .i64 3,.bool false,.bool false,.int .i64 (-1),.int .i64 0,.int .i64 3,.bool false,.bool false,.int .i64 (-2)] 77 (0,0)))
  (hv:W.ownsRow base 51 5 v 2 [.string ⟨#[]⟩,.int .i64 0,.int .i64 0,.slice (some ⟨b+1,0,none⟩) 2 2,.int .i64 4,.string ⟨#[]⟩,.int .i64 0,.int .i64 1,.slice (some ⟨b+1,0,none⟩) 2 2,.int .i64 7]):Ba W (.agg #[.slice (some ⟨b+1+1,0,none⟩) 2 2,v]) Ue:=by
 rcases hv.2 with⟨rfl,h0⟩|⟨g,cap,cur,rfl,k1,k2,k3,k4,k5,k6⟩
 ·cases h0
 have hc:∀i u,(cur.toList.take (2*5))[i]?=some u->W.cell? ⟨g,i,none⟩=some u:=fun i u hi=>by
  rw[AS k2,<- Array.getElem?_toList];rw[List.getElem?_take] at hi;split at hi
  ·exact hi
  cases hi
 rw[k6] at hc;refine⟨_,_,rfl,Rm h2,⟨[.slice (some ⟨b+1,0,none⟩) 2 2,.slice (some ⟨b+1,0,none⟩) 2 2],rfl,⟨_,_,rfl,k3,k4,(fun e=>by cases e),fun _=>⟨g,0,rfl,AT k2,?_⟩⟩,?_⟩⟩
 ·intro i r hi j u hu;match i,hi with
  | 0,hi=>cases hi;match j,hu with
   | 0,hu=>cases hu;exact hc 0 _ rfl
   | 1,hu=>cases hu;exact hc 1 _ rfl
   | 2,hu=>cases hu;exact hc 2 _ rfl
   | 3,hu=>cases hu;exact hc 3 _ rfl
   | 4,hu=>cases hu;exact hc 4 _ rfl
  | 1,hi=>cases hi;match j,hu with
   | 0,hu=>cases hu;exact hc 5 _ rfl
   | 1,hu=>cases hu;exact hc 6 _ rfl
   | 2,hu=>cases hu;exact hc 7 _ rfl
   | 3,hu=>cases hu;exact hc 8 _ rfl
   | 4,hu=>cases hu;exact hc 9 _ rfl
 intro i r tv hr ht;match i,hr,ht with
 | 0,hr,ht =>
  cases hr;cases ht;exact⟨PG h1,⟨Nat.zero_le _,by unfold EX;decide,by unfold EX;decide,by unfold EX;decide⟩⟩
 | 1,hr,ht =>
  cases hr;cases ht;exact⟨PG h1,⟨Nat.zero_le _,by unfold EX;decide,by unfold EX;decide,by unfold EX;decide⟩⟩
theorem US:JO Uq [1,3] [-1]=true:=by decide +kernel
theorem Tm:Al Uq [1,3]=((-7:Int):Rat):=by decide +kernel
theorem Jd:AU Uq=true:=by decide +kernel
theorem Td:JB Ue [0,1]=true:=by decide +kernel
theorem Jb:AU Ue=true:=by decide +kernel
theorem Ja{p:AH} {o:Co} (h:IG p o=true) (hk:0<=o.kind/\o.kind<=2):(o.kind=0/\JO p o.pt o.mu=true/\o.val=Al p o.pt)∨(o.kind=1/\JB p o.mu=true/\o.val=0)∨(o.kind=2/\Mg p o.pt o.ray=true/\o.val=0):=by
 unfold IG at h;split at h
 ·rename_i h0;unfold SZ at h;simp only[Bool.and_eq_true,decide_eq_true_eq] at h;exact .inl ⟨h0,h.1.2,h.2⟩
 split at h
 ·rename_i h1;unfold PW at h;simp only[Bool.and_eq_true,decide_eq_true_eq] at h;exact .inr (.inl ⟨h1,h.2,h.1.1.1⟩)
 rename_i h0 h1;unfold Rv at h;simp only[Bool.and_eq_true,decide_eq_true_eq] at h;exact .inr (.inr ⟨by omega,h.2,h.1.1.1.1⟩)
theorem Em{p:AH} {x y:List Rat} (h:JO p x y=true):D4 p x=true/\FF p y=some (Al p x):=by
 unfold JO at h;simp only[Bool.and_eq_true,decide_eq_true_eq] at h;exact h
theorem DP{p:AH} {x:List Rat} (h:D4 p x=true):AU p=true/\DI p x=true/\∀i,i<p.rows.length->EM (p.r i).kind (Bs (p.r i).terms x) (p.r i).bound=true:=IA h
theorem PB{p:AH} {x y x' y':List Rat} (h:JO p x y=true) (h':JO p x' y'=true):Al p x=Al p x':=by
 obtain⟨h1,h2⟩:=Em h;obtain⟨h3,h4⟩:=Em h';obtain⟨_,a1,a2⟩:=DP h1;obtain⟨_,b1,b2⟩:=DP h3;have k1:=Ip h4 a1 a2;have k2:=Ip h2 b1 b2;exact Rat.le_antisymm k2 k1
theorem OQ{p:AH} {o:Co} {x y:List Rat} (h:IG p o=true) (hk:0<=o.kind/\o.kind<=2) (ho:JO p x y=true):o.kind=0/\o.val=Al p x:=by
 obtain⟨h1,h2⟩:=Em ho;obtain⟨_,a1,a2⟩:=DP h1;rcases Ja h hk with⟨k0,k1,k2⟩|⟨_,k1,_⟩|⟨_,k1,_⟩
 ·exact⟨k0,k2.trans (PB k1 ho)⟩
 ·exact (I7 k1 a1 a2).elim
 exact (NQ k1 h2).elim
theorem Nh{p:AH} {o:Co} {y:List Rat} (h:IG p o=true) (hk:0<=o.kind/\o.kind<=2) (ho:JB p y=true):o.kind=1:=by
 rcases Ja h hk with⟨_,k1,_⟩|⟨k0,_,_⟩|⟨_,k1,_⟩
 ·obtain⟨h1,h2⟩:=Em k1;obtain⟨_,a1,a2⟩:=DP h1;exact (I7 ho a1 a2).elim
 ·exact k0
 obtain⟨hf,_⟩:=JH k1;obtain⟨_,a1,a2⟩:=DP hf;exact (I7 ho a1 a2).elim
theorem GU.chk{p:AH} {o:Co} {e:Int} (h:GU p o e) (hv:AU p=true):e=0/\IG p o=true/\0<=o.kind/\o.kind<=2:=by
 cases h with
 | bad h1=>rw[hv] at h1;cases h1
 | empty h1 h2 =>
  refine⟨rfl,?_,by show (0:Int)<=1;decide,by show (1:Int)<=2;decide⟩;show PW p (GV p)=true;unfold PW;have hinf:JB p (GV p).mu=true:=by
   unfold JB;have hs:Cw p (AP p.rows.length fun _=>0)=true:=A5.2 fun i hi=>by
    rw[BH _ hi];unfold Js;simp
   show (AU p&&Cw p (AP p.rows.length fun _=>0)&&_)=true;rw[h1,h2,hs];rfl
  rw[hinf];simp[GV,A9]
 | run h1 h2 h3=>exact⟨rfl,h3.chk h1 (fun l hl=>G0.2 hl) (fun l hl=>G0.1 hl) (Kt p)⟩
section
variable {p:AH} {r:DD} {x z:List Rat} {a b:Co}
theorem O2{y:List Rat} (h:JB p y=true) (hf:D4 p x=true):False:=by
 obtain⟨_,a1,a2⟩:=DP hf;exact I7 h a1 a2
end
def UL(r:DD) (k:Nat):Rat:=AG r.terms.length fun q=>if (r.t q).var=(k:Int) then ((r.t q).coef:Rat) else 0
section
variable {p:AH} {x z:Nat->Rat}
theorem Rq{r:DD} {n:Nat} (h:∀k,k<r.terms.length->0<=(r.t k).var/\(r.t k).var<n) {y:List Rat}:Ah n (UL r) (fun i=>Am y i)=Bs r.terms y:=by
 have e:∀k,k<n->UL r k*Am y k=AG r.terms.length (fun q=>(Am y k*if (r.t q).var=(k:Int) then ((r.t q).coef:Rat) else 0)):=fun k _=>by
  unfold UL;rw[Rat.mul_comm,<- A2]
 unfold Ah;rw[AE e,CB];unfold Bs;refine AE fun q hq=>?_;obtain⟨h1,h2⟩:=h q hq;show _=((r.t q).coef:Rat)*Am y (r.t q).var;generalize r.t q=t at *;obtain⟨m,hm⟩:∃m:Nat,t.var=m:=⟨t.var.toNat,by omega⟩;rw[hm] at h2 ⊢;rw[AE (g:=fun k=>if k=m then (t.coef:Rat)*Am y m else 0) (fun k _=>by
  by_cases e:k=m
  ·subst e;rw[if_pos rfl,if_pos rfl];grind
  rw[if_neg (by omega),if_neg e];grind),BK,if_pos (by omega)]
def EQ(p:AH) (j:Nat):CR :=
 if j<p.rows.length then (UL (p.r j),((p.r j).bound:Rat))
 else (fun k=>if k=(j-p.rows.length)/2 then 1 else 0,if (j-p.rows.length)%2=0 then ((p.v ((j-p.rows.length)/2)).lo:Rat) else ((p.v ((j-p.rows.length)/2)).up:Rat))
def FA(p:AH) (j:Nat):Rat:=if j<p.rows.length then (if (p.r j).kind=1 then 1 else -1) else if (j-p.rows.length)%2=0 then 1 else -1
def P4(p:AH) (j:Nat):CR:=(fun k=>FA p j*(EQ p j).1 k,-(FA p j*(EQ p j).2))
def VM(p:AH) (j:Nat):Prop:=j<p.rows.length/\(p.r j).kind≠0/\(p.r j).kind≠1
theorem Pn(p:AH) (j:Nat):FA p j=1∨FA p j = -1:=by
 unfold FA;split
 ·split
  ·exact .inl rfl
  exact .inr rfl
 split
 ·exact .inl rfl
 exact .inr rfl
theorem Is(j:Nat) (d:Nat->Rat):Ah p.vars.length (P4 p j).1 d=FA p j*Ah p.vars.length (EQ p j).1 d:=by
 unfold Ah P4;rw[<- A2];exact AE fun k _=>by grind
theorem M1(j:Nat):Dg p.vars.length (P4 p j) x=FA p j*(Ah p.vars.length (EQ p j).1 x-(EQ p j).2):=by
 unfold Dg;rw[Is];show _ + -(FA p j*(EQ p j).2)=_;grind
theorem Rf{j:Nat}:Dg p.vars.length (P4 p j) x=0↔Ah p.vars.length (EQ p j).1 x=(EQ p j).2:=by
 rw[M1];rcases Pn p j with h|h<;>rw[h]<;>constructor<;>intro h2<;>grind
theorem Sv{j:Nat} {d:Nat->Rat}:Ah p.vars.length (P4 p j).1 d=0↔Ah p.vars.length (EQ p j).1 d=0:=by
 rw[Is];rcases Pn p j with h|h<;>rw[h]<;>constructor<;>intro h2<;>grind
theorem J6{j:Nat} (h:j<p.rows.length):EQ p j=(UL (p.r j),((p.r j).bound:Rat)):=if_pos h
theorem IY{i s:Nat} (hs:s<2):EQ p (p.rows.length+2*i+s)=(fun k=>if k=i then 1 else 0,if s=0 then ((p.v i).lo:Rat) else ((p.v i).up:Rat)):=by
 unfold EQ;rw[if_neg (by omega),show (p.rows.length+2*i+s-p.rows.length)/2=i by omega,show (p.rows.length+2*i+s-p.rows.length)%2=s by omega]
theorem G2{n i:Nat} (hi:i<n):Ah n (fun k=>if k=i then 1 else 0) x=x i:=by
 unfold Ah;rw[AE (g:=fun k=>if k=i then x i else 0) (fun k _=>by
  by_cases e:k=i
  ·subst e;dsimp only;rw[if_pos rfl,if_pos rfl];grind
  dsimp only;rw[if_neg e,if_neg e];grind),BK,if_pos hi]
def G4(p:AH):Bool:=BY p.vars.length fun i=>!(p.v i).op
theorem Ox(hv:AU p=true) (hc:G4 p=true) {y:List Rat}:T9 p.vars.length (p.rows.length+2*p.vars.length) (P4 p) (VM p) (fun i=>Am y i)↔D4 p y=true:=by
 have hdot:∀j,j<p.rows.length->Ah p.vars.length (UL (p.r j)) (fun i=>Am y i)=Bs (p.r j).terms y:=fun j hj=>Rq (D5 (BR hv hj));have hcl:∀j,j<p.rows.length->Bs (p.r j).terms (Bg p y)=Bs (p.r j).terms y:=fun j hj=>LO y (D5 (BR hv hj));unfold D4;rw[hv];simp only[Bool.true_and,Bool.and_eq_true,decide_eq_true_eq];constructor
 ·intro h;refine⟨A5.2 fun i hi=>?_,Fg.2 fun j hj=>?_⟩
  ·have h1:=(h (p.rows.length+2*i+0) (by omega)).1;have h2:=(h (p.rows.length+2*i+1) (by omega)).1;rw[M1,IY (by omega),G2 hi] at h1 h2;unfold FA at h1 h2;rw[if_neg (by omega),if_pos (by omega)] at h1;rw[if_neg (by omega),if_neg (by omega)] at h2;simp only[Bool.and_eq_true,Bool.or_eq_true,decide_eq_true_eq];rw[if_pos rfl] at h1;rw[if_neg (by decide)] at h2;exact⟨by grind,.inr (by grind)⟩
  have h1:=h j (by omega);unfold CC;rw[hcl j hj];rw[M1,J6 hj,hdot j hj] at h1;unfold FA at h1;rw[if_pos hj] at h1;unfold EM;split
  ·rename_i h0;rw[if_neg (by omega)] at h1;exact decide_eq_true (by have:=h1.1;grind)
  rename_i h0;split
  ·rename_i h2;rw[if_pos h2] at h1;exact decide_eq_true (by have:=h1.1;grind)
  rename_i h2;rw[if_neg h2] at h1;exact decide_eq_true (by have:=h1.2 ⟨hj,h0,h2⟩;grind)
 rintro⟨h1,h2⟩ j hj;rw[M1];by_cases hr:j<p.rows.length
 ·have h3:=Fg.1 h2 j hr;unfold CC at h3;rw[hcl j hr] at h3;rw[J6 hr,hdot j hr];unfold FA;rw[if_pos hr];unfold EM at h3;split at h3
  ·rename_i h0;rw[if_neg (by omega)];exact⟨by have:=of_decide_eq_true h3;grind,fun he=>absurd h0 he.2.1⟩
  rename_i h0;split at h3
  ·rename_i h4;rw[if_pos h4];exact⟨by have:=of_decide_eq_true h3;grind,fun he=>absurd h4 he.2.2⟩
  rename_i h4;rw[if_neg h4,of_decide_eq_true h3];exact⟨by grind,fun _=>by grind⟩
 obtain⟨i,s,hs,rfl⟩:∃i s,s<2/\j=p.rows.length+2*i+s:=⟨(j-p.rows.length)/2,(j-p.rows.length)%2,Nat.mod_lt _ (by decide),by omega⟩;have hi:i<p.vars.length:=(by omega);have h3:=A5.1 h1 i hi;have h4:=A5.1 hc i hi;simp only[Bool.and_eq_true,Bool.or_eq_true,decide_eq_true_eq,Bool.not_eq_true'] at h3 h4;rw[IY hs,G2 hi];unfold FA;refine⟨?_,fun he=>absurd he.1 (by omega)⟩;rw[if_neg (by omega)];by_cases e:s=0
 ·subst e;rw[if_pos (by omega),if_pos rfl];have:=h3.1;grind
 rw[if_neg (by omega),if_neg e];rcases h3.2 with h5|h5
 ·rw[h4] at h5;cases h5
 grind
theorem T5(d:Nat->Rat) (h:∃k,k<p.vars.length/\d k≠0):∃j,j<p.rows.length+2*p.vars.length/\Ah p.vars.length (P4 p j).1 d<0:=by
 obtain⟨k,hk,hd⟩:=h;by_cases hl:d k<0
 ·refine⟨p.rows.length+2*k+0,by omega,?_⟩;rw[Is,IY (by omega),G2 hk];unfold FA;rw[if_neg (by omega),if_pos (by omega)];grind
 refine⟨p.rows.length+2*k+1,by omega,?_⟩;rw[Is,IY (by omega),G2 hk];unfold FA;rw[if_neg (by omega),if_neg (by omega)];grind
def Kb(p:AH) (J:List Nat) (x:List Rat):Prop:=J.Pairwise (·<·)/\(∀j∈J,j<p.rows.length+2*p.vars.length)/\J.length=p.vars.length/\DR p.vars.length (fun i=>EQ p (J.getD i 0))=some x/\D4 p x=true
theorem O7{o y:List Rat} (hc:G4 p=true) (h:JO p o y=true):∃J x,Kb p J x/\Al p x=Al p o:=by
 obtain⟨hf,hb⟩:=Em h;have hv:=(DP hf).1;have hmin:∀u,T9 p.vars.length (p.rows.length+2*p.vars.length) (P4 p) (VM p) u->Al p o<=Ah p.vars.length (fun i=>((p.v i).co:Rat)) u:=fun u hu=>by
  have hl:∀k,k<p.vars.length->Am (AP p.vars.length u) (k:Int)=u k:=fun k hk=>BH _ hk;have hu':T9 p.vars.length (p.rows.length+2*p.vars.length) (P4 p) (VM p) (fun i=>Am (AP p.vars.length u) i):=fun j hj=>by
   have e:Dg p.vars.length (P4 p j) (fun i=>Am (AP p.vars.length u) i)=Dg p.vars.length (P4 p j) u:=by
    unfold Dg;rw[Jk (fun k hk=>by rw[hl k hk])]
   rw[e];exact hu j hj
  obtain⟨_,a1,a2⟩:=DP ((Ox hv hc).1 hu');have:=Ip hb a1 a2;unfold Al at this;unfold Al Ah;rw[AE (n:=p.vars.length) (f:=fun i=>((p.v i).co:Rat)*Am (AP p.vars.length u) i) (g:=fun i=>((p.v i).co:Rat)*u i) (fun k hk=>by rw[hl k hk])] at this;exact this
 obtain⟨z,h1,h2,h3⟩:=To (T5 (p:=p)) hmin _ (fun i=>Am o i) ((Ox hv hc).2 hf) rfl (Nat.le_refl _);obtain⟨K,hK,hKn,hKt⟩:=Uk _ _ rfl h3;have hmem:∀j∈K,j<p.rows.length+2*p.vars.length/\Ah p.vars.length (EQ p j).1 z=(EQ p j).2:=fun j hj=>by
  obtain⟨a,b⟩:=Fd.1 (hK.subset hj);exact⟨a,Rf.1 b⟩
 have hpw:K.Pairwise (·<·):=by
  refine List.Pairwise.sublist hK ?_;unfold IE;exact List.Pairwise.filter _ List.pairwise_lt_range
 have hgd:∀i (hi:i<p.vars.length),K.getD i 0=K[i]'(by omega):=fun i hi=>by rw[List.getD_eq_getElem?_getD,List.getElem?_eq_getElem (by omega)];rfl
 cases hm:DR p.vars.length (fun i=>EQ p (K.getD i 0)) with
 | none =>
  obtain⟨d,⟨i,hi,hdi⟩,hd⟩:=Qy hm;refine absurd (hKt d (fun j hj=>?_) i hi) hdi;obtain⟨q,hq,rfl⟩:=List.getElem_of_mem hj;have:=hd q (by omega);dsimp only at this;rw[hgd q (by omega)] at this;exact Sv.2 this
 | some x =>
  obtain⟨e1,e2,e3⟩:=RM hm;have hxz:∀k,k<p.vars.length->Am x (k:Int)=z k:=fun k hk=>by
   have h4:=e3 (fun k=>Am x k + -1*z k) (fun i hi=>by
    have e4:=e2 i hi;dsimp only at e4 ⊢;rw[Fl,e4];have hj:K.getD i 0∈K:=(by rw[hgd i hi];exact List.getElem_mem _);rw[(hmem _ hj).2];grind) k hk
   grind
  have hfx:T9 p.vars.length (p.rows.length+2*p.vars.length) (P4 p) (VM p) (fun i=>Am x i):=fun j hj=>by
   have e:Dg p.vars.length (P4 p j) (fun i=>Am x i)=Dg p.vars.length (P4 p j) z:=by
    unfold Dg;rw[Jk (fun k hk=>by rw[hxz k hk])]
   rw[e];exact h1 j hj
  refine⟨K,x,⟨hpw,fun j hj=>(hmem j hj).1,hKn,hm,(Ox hv hc).1 hfx⟩,?_⟩;rw[<- h2];unfold Al Ah;exact AE fun k hk=>by rw[hxz k hk]
theorem Oy{a:Co} (hv:AU p=true) (hc:G4 p=true) (ha:IG p a=true) (hka:0<=a.kind/\a.kind<=2):(a.kind=1/\∀J x,¬Kb p J x)∨(a.kind=0/\(∀J x,Kb p J x->a.val<=Al p x)/\∃J x,Kb p J x/\Al p x=a.val):=by
 rcases Ja ha hka with⟨k0,k1,k2⟩|⟨k0,k1,_⟩|⟨k0,k1,_⟩
 ·refine .inr ⟨k0,fun J x hx=>?_,?_⟩
  ·obtain⟨_,a1,a2⟩:=DP hx.2.2.2.2;rw[k2];exact Ip (Em k1).2 a1 a2
  obtain⟨J,x,h1,h2⟩:=O7 hc k1;exact⟨J,x,h1,h2.trans k2.symm⟩
 ·exact .inl ⟨k0,fun J x hx=>O2 k1 hx.2.2.2.2⟩
 exfalso;obtain⟨_,hcost,hz,_⟩:=JH k1;have:Al p a.ray=0:=Af fun i hi=>by
  obtain⟨h1,h2⟩:=hz i hi;have h3:=A5.1 hc i hi;simp only[Bool.not_eq_true'] at h3;have h4:¬0<Am a.ray i:=fun h=>by rw[h2 h] at h3;cases h3
  have h5:Am a.ray i=0:=Rat.le_antisymm (Rat.not_lt.1 h4) h1;rw[h5];grind
 rw[this] at hcost;exact absurd hcost (by decide)
end
abbrev CW:=Rat×Bool
structure MZ(s s':CW) (C:Rat->Prop):Prop where
 has:s'.2=true↔s.2=true∨∃c,C c
 from_:s'.2=true->(s.2=true/\s'.1=s.1)∨C s'.1
 old:s.2=true->s'.1<=s.1
 le:∀c,C c->s'.1<=c
 none_:s'.2=false->s'=s
section
variable {s s' s'':CW} {C C1 C2:Rat->Prop}
theorem MZ.refl(h:∀c,¬C c):MZ s s C:=⟨⟨.inl,fun g=>g.elim id fun⟨c,hc⟩=>absurd hc (h c)⟩,fun g=>.inl ⟨g,rfl⟩,fun _=>Rat.le_refl,fun c hc=>absurd hc (h c),fun _=>rfl⟩
theorem MZ.trans(h1:MZ s s' C1) (h2:MZ s' s'' C2):MZ s s'' (fun c=>C1 c∨C2 c):=by
 refine⟨⟨fun g=>?_,fun g=>?_⟩,fun g=>?_,fun g=>?_,fun c hc=>?_,fun g=>?_⟩
 ·rcases h2.has.1 g with g1|⟨c,hc⟩
  ·rcases h1.has.1 g1 with g2|⟨c,hc⟩
   ·exact .inl g2
   exact .inr ⟨c,.inl hc⟩
  exact .inr ⟨c,.inr hc⟩
 ·refine h2.has.2 ?_;rcases g with g|⟨c,hc|hc⟩
  ·exact .inl (h1.has.2 (.inl g))
  ·exact .inl (h1.has.2 (.inr ⟨c,hc⟩))
  exact .inr ⟨c,hc⟩
 ·rcases h2.from_ g with⟨g1,g2⟩|g1
  ·rcases h1.from_ g1 with⟨g3,g4⟩|g3
   ·exact .inl ⟨g3,g2.trans g4⟩
   exact .inr (.inl (by rw[g2];exact g3))
  exact .inr (.inr g1)
 ·exact Rat.le_trans (h2.old (h1.has.2 (.inl g))) (h1.old g)
 ·rcases hc with hc|hc
  ·exact Rat.le_trans (h2.old (h1.has.2 (.inr ⟨c,hc⟩))) (h1.le c hc)
  exact h2.le c hc
 have g1:=h2.none_ g;rw[g1] at g;rw[g1];exact h1.none_ g
theorem MZ.same(h:MZ s s' C) (e:∀c,C c↔C1 c):MZ s s' C1:=by
 have:C=C1:=funext fun c=>propext (e c);rw[<- this];exact h
end
def Et(g:Nat->CW->CW):Nat->Nat->CW->CW
 | 0,_,s=>s
 | k+1,i,s=>Et g k (i+1) (g i s)
theorem OE{g:Nat->CW->CW} {C:Nat->Rat->Prop}:∀{k i:Nat} {s:CW},(∀q,i<=q->q<i+k->∀s,MZ s (g q s) (C q))->MZ s (Et g k i s) (fun c=>∃q,i<=q/\q<i+k/\C q c)
 | 0,i,s,h=>MZ.refl fun c ⟨q,h1,h2,_⟩=>by omega
 | k+1,i,s,h=>by
  refine ((h i (Nat.le_refl _) (by omega) s).trans (OE (k:=k) (i:=i+1) fun q h1 h2=>h q (by omega) (by omega))).same fun c=>⟨fun g1=>?_,fun⟨q,h1,h2,h3⟩=>?_⟩
  ·rcases g1 with g1|⟨q,h1,h2,h3⟩
   ·exact⟨i,Nat.le_refl _,by omega,g1⟩
   exact⟨q,by omega,by omega,h3⟩
  by_cases e:q=i
  ·subst e;exact .inl h3
  exact .inr ⟨q,by omega,by omega,h3⟩
def Lj(p:AH) (J:List Nat) (s:CW):CW :=
 match DR p.vars.length (fun i=>EQ p (J.getD i 0)) with
 | none=>s
 | some x=>if DQ p x=true/\(s.2=false∨Al p x<s.1) then (Al p x,true) else s
def E3(p:AH):Nat->List Nat->Nat->CW->CW
 | 0,J,_,s=>Lj p J s
 | f+1,J,i,s=>Et (fun q s=>E3 p f (J++[q]) (q+1) s) (p.rows.length+2*p.vars.length-i) i s
def Lo(p:AH) (J:List Nat) (i:Nat) (c:Rat):Prop:=∃K x,(J++K).length=p.vars.length/\K.Pairwise (·<·)/\(∀k∈K,i<=k/\k<p.rows.length+2*p.vars.length)/\DR p.vars.length (fun i=>EQ p ((J++K).getD i 0))=some x/\DQ p x=true/\c=Al p x
theorem Rn{p:AH} {J:List Nat} {s:CW} (hJ:J.length=p.vars.length) (i:Nat):MZ s (Lj p J s) (Lo p J i):=by
 have hc:∀c,Lo p J i c↔∃x,DR p.vars.length (fun i=>EQ p (J.getD i 0))=some x/\DQ p x=true/\c=Al p x:=fun c=>by
  constructor
  ·rintro⟨K,x,h1,_,_,h2,h3⟩;have:K=[]:=List.eq_nil_of_length_eq_zero (by rw[List.length_append] at h1;omega);subst this;rw[List.append_nil] at h2;exact⟨x,h2,h3⟩
  rintro⟨x,h2,h3⟩;exact⟨[],x,by rw[List.append_nil];exact hJ,List.Pairwise.nil,fun k hk=>(by cases hk),by rw[List.append_nil];exact h2,h3⟩
 refine MZ.same (C:=fun c=>∃x,DR p.vars.length (fun i=>EQ p (J.getD i 0))=some x/\DQ p x=true/\c=Al p x) ?_ fun c=>(hc c).symm;unfold Lj;cases hm:DR p.vars.length (fun i=>EQ p (J.getD i 0)) with
 | none=>exact MZ.refl fun c ⟨x,h,_⟩=>by cases h
 | some x =>
  show MZ s (if DQ p x=true/\(s.2=false∨Al p x<s.1) then (Al p x,true) else s) _;split
  ·rename_i h;refine⟨⟨fun _=>.inr ⟨_,x,rfl,h.1,rfl⟩,fun _=>rfl⟩,fun _=>.inr ⟨x,rfl,h.1,rfl⟩,fun g=>?_,fun c ⟨y,h1,h2,h3⟩=>?_,fun g=>by cases g⟩
   ·rcases h.2 with h2|h2
    ·rw[h2] at g;cases g
    exact Rat.le_of_lt h2
   cases h1;rw[h3];exact Rat.le_refl
  rename_i h;by_cases hf:DQ p x=true
  ·have h2:s.2=true/\s.1<=Al p x:=by
    have h3:¬(s.2=false∨Al p x<s.1):=fun g=>h ⟨hf,g⟩;refine⟨?_,Rat.not_lt.1 fun g=>h3 (.inr g)⟩;cases e:s.2 with
    | true=>rfl
    | false=>exact absurd (.inl e) h3
   exact⟨⟨fun g=>.inl g,fun _=>h2.1⟩,fun g=>.inl ⟨g,rfl⟩,fun _=>Rat.le_refl,fun c ⟨y,h3,_,h4⟩=>by cases h3;rw[h4];exact h2.2,fun _=>rfl⟩
  exact MZ.refl fun c ⟨y,h3,h4,_⟩=>by cases h3;exact hf h4
theorem Nu{p:AH}:∀(f:Nat) (J:List Nat) (i:Nat) (s:CW),J.length+f=p.vars.length->MZ s (E3 p f J i s) (Lo p J i)
 | 0,J,i,s,h=>Rn (by omega) i
 | f+1,J,i,s,h=>by
  unfold E3;refine (OE (C:=fun q=>Lo p (J++[q]) (q+1)) fun q _ _ s=>Nu f (J++[q]) (q+1) s (by rw[List.length_append];show J.length+1+f=_;omega)).same fun c=>⟨?_,?_⟩
  ·rintro⟨q,h1,h2,K,x,k1,k2,k3,k4,k5⟩;rw[List.append_assoc] at k1 k4;refine⟨[q]++K,x,k1,List.pairwise_cons.2 ⟨fun k hk=>by have:=(k3 k hk).1;omega,k2⟩,fun k hk=>?_,k4,k5⟩;rcases List.mem_cons.1 hk with rfl|hk
   ·exact⟨h1,by omega⟩
   exact⟨by have:=(k3 k hk).1;omega,(k3 k hk).2⟩
  rintro⟨K,x,k1,k2,k3,k4,k5⟩;cases K with
  | nil=>rw[List.append_nil] at k1;omega
  | cons q K =>
   have hq:=k3 q (List.mem_cons_self ..);have hp:=List.pairwise_cons.1 k2;rw[show J++q::K=J++[q]++K by rw[List.append_assoc];rfl] at k1 k4;exact⟨q,hq.1,by omega,K,x,k1,hp.2,fun k hk=>⟨by have:=hp.1 k hk;omega,(k3 k (List.mem_cons_of_mem _ hk)).2⟩,k4,k5⟩
def IW(p:AH):CW:=E3 p p.vars.length [] 0 (0,false)
theorem Ra{p:AH} {a:Co} {e:Int} (hv:AU p=true) (hc:G4 p=true) (ha:GU p a e):e=0/\((a.kind=1/\(IW p).2=false)∨(a.kind=0/\(IW p).2=true/\(IW p).1=a.val)):=by
 obtain⟨h1,h2,h3⟩:=ha.chk hv;refine⟨h1,?_⟩;have hu:MZ (0,false) (IW p) (Lo p [] 0):=Nu _ _ _ _ (by rw[List.length_nil,Nat.zero_add]);have hcv:∀c,Lo p [] 0 c↔∃J x,Kb p J x/\c=Al p x:=fun c=>by
  constructor
  ·rintro⟨K,x,k1,k2,k3,k4,k5,k6⟩;exact⟨K,x,⟨k2,fun j hj=>(k3 j hj).2,k1,k4,by rw[I4 hv];exact k5⟩,k6⟩
  rintro⟨J,x,⟨k2,k3,k1,k4,k5⟩,k6⟩;exact⟨J,x,k1,k2,fun j hj=>⟨Nat.zero_le _,k3 j hj⟩,k4,by rw[<- I4 hv];exact k5,k6⟩
 rcases Oy hv hc h2 h3 with⟨k0,k1⟩|⟨k0,k1,J,x,k2,k3⟩
 ·refine .inl ⟨k0,?_⟩;cases g:(IW p).2 with
  | false=>rfl
  | true =>
   rcases hu.has.1 g with h|⟨c,h⟩
   ·cases h
   obtain⟨J,x,h,_⟩:=(hcv c).1 h;exact absurd h (k1 J x)
 have hC:=(hcv a.val).2 ⟨J,x,k2,k3.symm⟩;have ht:=hu.has.2 (.inr ⟨_,hC⟩);refine .inr ⟨k0,ht,Rat.le_antisymm (hu.le _ hC) ?_⟩;rcases hu.from_ ht with⟨h,_⟩|h
 ·cases h
 obtain⟨J',x',h4,h5⟩:=(hcv _).1 h;rw[h5];exact k1 J' x' h4
def VK(p:AH) (i:Nat):Bool:=!(p.v i).op
theorem Oz(w:World) (pv:Value) (p:AH) (hp:Ba w pv p) :
  Calls prog 13 #[pv] w (Ak w (G4 p)):=by
 obtain⟨vv,rv,rfl,hr,-⟩:=hp;obtain⟨vo,vc,rfl,-,hn,-⟩:=hr.shape;have HV:=bH hr;clear hr;obtain⟨n,hn'⟩:=bN p.vars.length;have HN:=bH hn';rw[hn'] at hn ⊢ HV;clear hn';have HB:=bH (bI (AD w (.cells #[.slice vo n vc,rv] 25)) ((AK.refl (fun _=>False) w).alloc (.cells #[.slice vo n vc,rv] 25)));go_enter func13,ntmps13;go_upto_region 1 with fail;generalize hw1:w.alloc (.cells #[.slice vo n vc,rv] 25)=w1 at *;clear hw1;obtain⟨pb,hpb⟩:=bN w.heap.size;rw[hpb] at HB ⊢;clear hpb;have z0:=AA HB.o.1 0 rfl;go_wp2_with fail;go_loopg [3] n (fun gg v3 wr=>∃i:Nat,i<=n/\gg=n-i/\v3=.int .i64 i/\BY i (VK p)=true/\wr=w1);case atStart=>exact⟨0,Nat.zero_le _,rfl,rfl,rfl,rfl⟩
 case round =>
  obtain⟨i,hi,rfl,rfl,hall,rfl⟩:=hrel;have HX:=bH hall;clear hall;by_cases hin:i<n
  ·have i0:(i:Int)<(n:Int):=(by omega);have i1:(0:Int)<=(i:Int):=(by omega);obtain⟨b,off,rfl,-,e0,e1,e2,e3,e4,hok⟩:=(HV.o.keep HB.o.2).atp i (by rw[HN.o];exact hin);clear e0 e1 e3 e4 hok;have HC:=bH (show VK p i=!(p.v i).op from rfl);generalize (p.v i).op=o at *;cases o with
   | true =>
    go_wp2;go_ret;exact⟨AL (by show false=BY p.vars.length (VK p);rw[B6 (i:=i) (by rw[HN.o];exact hin) HC.o]),HB.o.2⟩
   | false =>
    go_wp2;go_roundg (n-(i+1));case measure=>omega
    case rel=>exact⟨i+1,by omega,rfl,by go_num,Bm HX.o HC.o,rfl⟩
  obtain rfl:i=n:=(by omega);go_wp2;go_ret;exact⟨AL (by show true=BY p.vars.length (VK p);rw[HN.o,HX.o]),HB.o.2⟩
end Go.Proofs.YtglepbhkilbbcaaGreat
