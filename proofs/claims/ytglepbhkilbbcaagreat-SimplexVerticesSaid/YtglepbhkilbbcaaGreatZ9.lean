/-
  Texts of the proof, part 9. Conditions: each lemma names its own.
-/
import Derived.Test.YtglepbhkilbbcaaGreatZ8
import Derived.Maps.RangeWalk
open Go.Proofs.Tryz
set_option linter.unusedVariables false
set_option linter.unusedSimpArgs false
set_option maxRecDepth 100000
set_option maxHeartbeats 16000000
namespace Go.Proofs.YtglepbhkilbbcaaGreat
open Go.RowKit Go.MapKept
open Go.ChangeMaps (setBlock)
theorem Df{w:World} {ops:Array Oper} {rest:List Oper} {o:Oper} {a:Act} {Q:Exit->Act->World->Prop} {z:Value} {size bytes:Nat} {e T:TypeId}
  (hgd:o.guard=none) (s x:Operand) (ho:o.op=.call { callee:=.builtin .append,args:=#[s,x],argTypes:=#[T,T] }) (ht:prog.underlying T=some (.slice e)) (hi:(prog.info? e).map (fun i=>(i.zero,i.size,i.bytes))=some (some z,size,bytes)) (hzs:z.cells.size=size) (hzn:E1 z.cells.toList) (hsz:0<size) (hbs:bytes<=1000)
  (base:Nat) (v:Value) (n:Nat) (xs:List Value) (hs:a.eval s=v) (hown:w.ownsRow base e size v n xs) (hnd:∀g,v.ownBlock=some g->BN w g) (hxs:E1 xs) (ad:Addr) (c:Nat) (news:List Value) (hx:a.eval x=.slice (some ad) 1 c) (hl:news.length=size) (hsrc:∀j u,news[j]?=some u->w.cell? (ad.add j)=some u) (h1:∀u∈news,u.oneCell'=true) (hnn:E1 news) (hn:n<=100000) (hbase:base<=w.heap.size)
  (h:∀v' w',Le w w' base e size v v' n xs news->wpList prog ops Q rest (a.put o.dst v') w') :
  wpList prog ops Q (o::rest) a w:=by
 refine wpList_plain hgd fun K hK=>?_;have h2:=B0 (w:=w) (ops:=ops) (o:=o) (a:=a) (K:=K) (Q:=Q) (E:=True) hgd s x ho ht hi hzs hzn hsz hbs base v n xs hs hown hnd hxs ad c news hx hl hsrc h1 hnn hn hbase (fun v' w' ha=>hK _ _ (h v' w' ha));rwa [if_pos (by simp[Region.wanted,hgd])] at h2
section
variable {w0 w w':World} {base pb tb mb i j m:Nat} {v v' fr d l frB dB lB pv pr:Value} {ls:List AZ} {p:AH}
def Uj(p:AH) (k:Nat):Rat:=((p.v k).co:Rat)
structure Bl(w0 w:World) (pb tb mb:Nat) (p:AH) (pv pr frB dB lB fr d l:Value) (i j:Nat) (ls:List AZ):Prop where
 box:Au w tb=some (.cells #[pv,pr,.slice none 0 0,.map (some mb),.slice none 0 0,frB,.slice none 0 0,.slice none 0 0,dB,lB] 122 (0,0))
 nod:BN w tb
 tbl:w0.heap.size<=tb
 mp:Iz w w0.heap.size (.map (some mb)) []
 fr:BQ w w0.heap.size fr i (fun k=>k)
 d:A8 w w0.heap.size d j (Uj p)
 l:DV w w0.heap.size l ls
 old:XF w0 w
 pbx:Au w pb=some (.cells #[pv,pr] 25 (0,0))
theorem Bl.keep(h:Bl w0 w pb tb mb p pv pr frB dB lB fr d l i j ls) (hx:XF w w'):Bl w0 w' pb tb mb p pv pr frB dB lB fr d l i j ls :=
 ⟨AM h.box hx,fun i d hc=>h.nod i d (by rw[<- hx.cell (p:=⟨tb,i,none⟩) (AT h.box) id];exact hc),h.tbl,h.mp.past hx (fun _ _=>id),h.fr.past hx (fun _ _=>id),h.d.past hx (fun _ _=>id) (fun _ _ hr=>hr.keep hx),h.l.keep hx,h.old.trans hx,AM h.pbx hx⟩
theorem Bl.others(h:Bl w0 w pb tb mb p pv pr frB dB lB fr d l i j ls) {v:Value} {T:TypeId} (hv:∀g,v.ownBlock=some g->DT w g T) (hlo:∀g,v.ownBlock=some g->w0.heap.size<=g) (hx:AK (fun k=>v.ownBlock=some k) w w') (hr:∀u l,Ad w u l->Ad w' u l) (h1:T≠122) (h2:T≠25) :
  Au w' tb=some (.cells #[pv,pr,.slice none 0 0,.map (some mb),.slice none 0 0,frB,.slice none 0 0,.slice none 0 0,dB,lB] 122 (0,0))/\BN w' tb/\Iz w' w0.heap.size (.map (some mb)) []/\(T≠3->BQ w' w0.heap.size fr i (fun k=>k))/\(T≠34->A8 w' w0.heap.size d j (Uj p))/\(T≠124->DV w' w0.heap.size l ls)/\XF w0 w'/\Au w' pb=some (.cells #[pv,pr] 25 (0,0)):=by
 have hnt:¬v.ownBlock=some tb:=fun e=>DT.ne (hv tb e) ⟨_,h.box⟩ h1 rfl;refine⟨(hx.blk (AT h.box) hnt).trans h.box,fun i d hc=>h.nod i d (by rw[<- hx.cell (p:=⟨tb,i,none⟩) (AT h.box) hnt];exact hc),h.mp.past hx (fun k hk e=>?_),fun hn=>h.fr.past hx (fun g hg e=>DT.ne (hv g e) (h.fr.typ g hg) hn rfl),fun hn=>h.d.past hx (fun g hg e=>DT.ne (hv g e) (h.d.typ g hg) hn rfl) hr,fun hn=>h.l.past hx (fun g hg e=>DT.ne (hv g e) (h.l.typ g hg) hn rfl),h.old.own hx hlo,(hx.blk (AT h.pbx) (fun e=>DT.ne (hv pb e) ⟨_,h.pbx⟩ h2 rfl)).trans h.pbx⟩;obtain⟨mb',es,clock,e1,_,e3,_⟩:=h.mp;cases hk;cases e1;exact DT.neMap (hv _ e) e3 rfl
theorem Bl.appFr(h:Bl w0 w pb tb mb p pv pr frB dB lB fr d l i j ls) (ha:Le w w' w0.heap.size 3 1 fr v' i (Ex i (fun k=>k)) [.int .i64 i]):Bl w0 w' pb tb mb p pv pr frB dB lB v' d l (i+1) j ls:=by
 obtain⟨g1,g2,g3,g4,g5,g6,g7,g8⟩:=h.others (v:=fr) (T:=3) (fun g hg=>h.fr.typ g hg) (fun g hg=>h.fr.low g hg) ha.ext ha.rds (by decide) (by decide);exact⟨g1,g2,h.tbl,g3,(BQ.app ha).congr (fun k hk=>by
  by_cases e:k=i
  ·rw[if_pos e,e]
  rw[if_neg e]),g5 (by decide),g6 (by decide),g7,g8⟩
theorem Bl.appD(h:Bl w0 w pb tb mb p pv pr frB dB lB fr d l i j ls) {x:BW} {xs:List Value} (ha:Le w w' w0.heap.size 34 3 d v' j xs x.cells) (hq:GS w xs j (Uj p)) (hl:xs.length=j*3) (hx:AN w x.v (Uj p j)):Bl w0 w' pb tb mb p pv pr frB dB lB fr v' l i (j+1) ls:=by
 obtain⟨g1,g2,g3,g4,g5,g6,g7,g8⟩:=h.others (v:=d) (T:=34) (fun g hg=>h.d.typ g hg) (fun g hg=>h.d.low g hg) ha.ext ha.rds (by decide) (by decide);exact⟨g1,g2,h.tbl,g3,g4 (by decide),(A8.app ha hq hl hx).congr (fun k hk=>by
  by_cases e:k=j
  ·rw[if_pos e,e]
  rw[if_neg e]),g6 (by decide),g7,g8⟩
theorem Bl.appL(h:Bl w0 w pb tb mb p pv pr frB dB lB fr d l i j ls) {x:AZ} (ha:Le w w' w0.heap.size 124 3 l v' ls.length (ls.flatMap Dn) (Dn x)):Bl w0 w' pb tb mb p pv pr frB dB lB fr d v' i j (ls++[x]):=by
 obtain⟨g1,g2,g3,g4,g5,g6,g7,g8⟩:=h.others (v:=l) (T:=124) (fun g hg=>h.l.typ g hg) (fun g hg=>(h.l.own.lt g hg).1) ha.ext ha.rds (by decide) (by decide);exact⟨g1,g2,h.tbl,g3,g4 (by decide),g5 (by decide),DV.app ha,g7,g8⟩
theorem Bl.store(h:Bl w0 w pb tb mb p pv pr frB dB lB fr d l i j ls) (k:Nat) {u:Value} (hu:Cr u) {frB' dB' lB':Value} (hV:(#[pv,pr,.slice none 0 0,.map (some mb),.slice none 0 0,frB,.slice none 0 0,.slice none 0 0,dB,lB]:Array Value).setIfInBounds k u=#[pv,pr,.slice none 0 0,.map (some mb),.slice none 0 0,frB',.slice none 0 0,.slice none 0 0,dB',lB']) :
  Bl w0 (w.setCell ⟨tb,k,none⟩ u) pb tb mb p pv pr frB' dB' lB' fr d l i j ls:=by
 have hx:AK (fun k=>k=tb) w (w.setCell ⟨tb,k,none⟩ u):=(AK.refl (fun k=>k=tb) w).setCell (p:=⟨tb,k,none⟩) _ (fun _=>rfl);have hr:∀v l,Ad w v l->Ad (w.setCell ⟨tb,k,none⟩ u) v l:=fun v l hv=>hv.past hx (fun k _ e=>by subst e;exact h.nod);have hb:=AI h.box k u;rw[hV] at hb;have ne:∀{g:Nat} {T:TypeId},DT w g T->T≠122->¬g=tb:=fun hg hT e=>DT.ne hg ⟨_,h.box⟩ hT e;refine⟨hb,fun j d hc=>?_,h.tbl,h.mp.past hx (fun g hg e=>?_),h.fr.past hx (fun g hg=>ne (h.fr.typ g hg) (by decide)),h.d.past hx (fun g hg=>ne (h.d.typ g hg) (by decide)) hr,h.l.past hx (fun g hg=>ne (h.l.typ g hg) (by decide)),h.old.own hx (fun k e=>by have e':k=tb:=e;rw[e'];exact h.tbl),(hx.blk (AT h.pbx) (fun e=>DT.ne ⟨_,h.pbx⟩ ⟨_,h.box⟩ (by decide) e)).trans h.pbx⟩
 ·rw[AJ?_setCell_if] at hc;split at hc
  ·have hu':=hu .u32 d;cases hw:w.cell? ⟨tb,j,none⟩<;>simp_all
  exact h.nod j d hc
 obtain⟨mb',es,clock,e1,_,e3,_⟩:=h.mp;cases hg;cases e1;have e':mb=tb:=e;rw[e',h.box] at e3;cases e3
theorem Bl.other(h:Bl w0 w pb tb mb p pv pr frB dB lB fr d l i j ls) {x:AZ} (ha:Le w w' w0.heap.size 124 3 l v' ls.length (ls.flatMap Dn) (Dn x)) {k:Nat} {c:Array Value} {T:TypeId} (hb:Au w k=some (.cells c T (0,0))) (h1:T≠124) (h2:T≠122) (q:Nat) (u:Value):Au (w'.setCell ⟨tb,q,none⟩ u) k=some (.cells c T (0,0)):=by
 have e1:=(ha.ext.blk (AT hb) (fun e=>DT.ne (h.l.typ _ e) ⟨_,hb⟩ (Ne.symm h1) rfl)).trans hb;have hx:AK (fun k=>k=tb) w' (w'.setCell ⟨tb,q,none⟩ u):=(AK.refl (fun k=>k=tb) w').setCell (p:=⟨tb,q,none⟩) _ (fun _=>rfl);exact (hx.blk (AT e1) (fun e=>DT.ne ⟨_,hb⟩ ⟨_,h.box⟩ h2 e)).trans e1
def B3(p:AH):Nat->List AZ
 | 0=>[]
 | i+1=>B3 p i++((if (p.r i).kind=1 then [] else [⟨(i:Int),0,false⟩])++if (p.r i).kind=0 then [] else [⟨(i:Int),0,true⟩])
def FP(p:AH):Nat->List AZ
 | 0=>[]
 | i+1=>FP p i++if (p.v i).op then [] else [⟨-1,i,false⟩]
def GA(p:AH):List AZ:=B3 p p.rows.length++FP p p.vars.length
def Ke(p:AH):AX where
 n:=p.vars.length
 m:=0
 ba:=fun _=>0
 fr:=fun k=>k
 be:=fun _=>0
 d:=Uj p
 al:=fun _ _=>0
theorem NU{p:AH} {l:AZ}:∀{m:Nat},l∈B3 p m↔∃r:Nat,r<m/\l.row=r/\l.var=0/\(l.tur=false->(p.r r).kind≠1)/\(l.tur=true->(p.r r).kind≠0)
 | 0=>by simp[B3]
 | m+1=>by
  unfold B3;rw[List.mem_append,NU (m:=m),List.mem_append];constructor
  ·rintro (⟨r,h1,h2⟩|h|h)
   ·exact⟨r,by omega,h2⟩
   ·by_cases e:(p.r m).kind=1
    ·rw[if_pos e] at h;cases h
    rw[if_neg e] at h;simp at h;subst h;exact⟨m,by omega,rfl,rfl,fun _=>e,fun h=>by cases h⟩
   by_cases e:(p.r m).kind=0
   ·rw[if_pos e] at h;cases h
   rw[if_neg e] at h;simp at h;subst h;exact⟨m,by omega,rfl,rfl,fun h=>(by cases h),fun _=>e⟩
  rintro⟨r,h1,h2,h3,h4,h5⟩;by_cases e:r<m
  ·exact .inl ⟨r,e,h2,h3,h4,h5⟩
  obtain rfl:r=m:=(by omega);right;obtain⟨row,var,tur⟩:=l;have h2:row=(r:Int):=h2;have h3:var=0:=h3;subst h2 h3;cases tur with
  | false=>left;rw[if_neg (h4 rfl)];simp
  | true=>right;rw[if_neg (h5 rfl)];simp
theorem Nl{p:AH} {l:AZ}:∀{m:Nat},l∈FP p m↔l.var<m/\l.row = -1/\l.tur=false/\(p.v l.var).op=false
 | 0=>by simp[FP]
 | m+1=>by
  unfold FP;rw[List.mem_append,Nl (m:=m)];constructor
  ·rintro (⟨h1,h2⟩|h)
   ·exact⟨by omega,h2⟩
   cases e:(p.v m).op with
   | true=>rw[e] at h;simp at h
   | false =>
    rw[e] at h;simp at h;subst h;exact⟨by show m<m+1;omega,rfl,rfl,e⟩
  rintro⟨h1,h2,h3,h4⟩;by_cases e:l.var<m
  ·exact .inl ⟨e,h2,h3,h4⟩
  right;obtain⟨row,var,tur⟩:=l;have h1:var<m+1:=h1;have e:¬var<m:=e;obtain rfl:var=m:=(by omega);have h2:row = -1:=h2;have h3:tur=false:=h3;subst h2 h3;have h4:(p.v var).op=false:=h4;rw[h4];simp
theorem G0{p:AH} {l:AZ}:l∈GA p↔BF p l:=by
 unfold GA;rw[List.mem_append,NU,Nl];constructor
 ·rintro (⟨r,h1,h2,h3,h4,h5⟩|⟨h1,h2,h3,h4⟩)
  ·refine .inr ⟨by omega,by rw[h2];exact h1,h3,?_,?_⟩
   ·rw[h2];exact h4
   rw[h2];exact h5
  exact .inl ⟨h2,h1,h4,h3⟩
 rintro (⟨h1,h2,h3,h4⟩|⟨h1,h2,h3,h4,h5⟩)
 ·exact .inr ⟨h2,h1,h4,h3⟩
 exact .inl ⟨l.row.toNat,h2,by omega,h3,h4,h5⟩
theorem KF(p:AH):∀m,(B3 p m).length<=2*m
 | 0=>Nat.le_refl _
 | m+1=>by
  unfold B3;have:=KF p m;rw[List.length_append,List.length_append];split<;>split<;>simp<;>omega
theorem LQ(p:AH):∀m,(FP p m).length<=m
 | 0=>Nat.le_refl _
 | m+1=>by
  unfold FP;have:=LQ p m;rw[List.length_append];split<;>simp<;>omega
theorem Qn{p:AH}:(GA p).length<=2*p.rows.length+p.vars.length:=by
 unfold GA;rw[List.length_append];have:=KF p p.rows.length;have:=LQ p p.vars.length;omega
theorem Bl.tab{pb tb mb:Nat} {pv pr fr d l:Value} (h:Bl w0 w pb tb mb p pv pr fr d l fr d l p.vars.length p.vars.length (GA p)) (hv:Ju w0 pv p.vars) (hr:LX w0 pr p.rows) (hval:AU p=true) (hn:p.vars.length<=1000) :
  Di w0 w tb ⟨pv,pr,.slice none 0 0,.map (some mb),.slice none 0 0,fr,.slice none 0 0,.slice none 0 0,d,l,fun _=>0⟩ (Ke p) p [] (GA p) where
 rest:={
      ba:=.inl ⟨rfl,rfl⟩
      fr:=h.fr
      be:=.inl ⟨rfl,rfl⟩
      d:=h.d
      al:=.inl ⟨rfl,rfl⟩
      aln:=fun g hg=>by cases hg
      rows:=fun i hi=>absurd hi (Nat.not_lt_zero i)
      rr:=fun i j hi=>absurd hi (Nat.not_lt_zero i)
      rbe:=fun i hi=>absurd hi (Nat.not_lt_zero i)
      rd:=fun i hi=>absurd hi (Nat.not_lt_zero i)
      bed:=fun g hg=>by cases hg
      bf:=fun g hg=>by cases hg
      u:=⟨World.ownsRow_nil _ _ _ 3,fun g hg=>by cases hg⟩
      l:=h.l
      ul:=fun g hg=>by cases hg
      mp:=h.mp }
 box:=h.box
 tbl:=h.tbl
 vars:=hv
 rows:=hr
 valid:=hval
 old:=h.old
 small:=⟨hn,by show (0:Nat)<=1000;omega⟩
 hm:=rfl
 hn:=rfl
 oks:=fun j hj=>absurd hj (Nat.not_lt_zero j)
end
structure Dy(z:Nat) (w0 w1 w:World) (tb:Nat) (V0 V Vb:Bh) (m0 n m1 m2 m3:Nat) (F:AX) (us ls ms:List AZ):Prop where
 rest:Bp w w0.heap.size V n m1 m2 m3 F us ls ms
 box:Au w tb=some (.cells #[Vb.pv,Vb.pr,Vb.u,Vb.mp,Vb.ba,Vb.fr,Vb.be,Vb.al,Vb.d,Vb.l] 122 (0,0))
 nod:BN w tb
 ext:AK (V0.Big tb m0) w1 w
 rds:∀u l,Ad w1 u l->Ad w u l
 lies:∀k,V.All m3 k->V0.Big tb m0 k∨z<=k
 zle:z<=w1.heap.size
 size:w0.heap.size<=w.heap.size
section
variable {z:Nat} {w0 w1 w w':World} {tb m0 n m1 m2 m3:Nat} {V0 V Vb:Bh} {F:AX} {us ls ms:List AZ}
theorem Dy.keep(h:Dy z w0 w1 w tb V0 V Vb m0 n m1 m2 m3 F us ls ms) (hx:XF w w'):Dy z w0 w1 w' tb V0 V Vb m0 n m1 m2 m3 F us ls ms :=
 ⟨h.rest.keep hx,AM h.box hx,fun i d hc=>h.nod i d (by rw[<- hx.cell (p:=⟨tb,i,none⟩) (AT h.box) id];exact hc),h.ext.trans hx.none,fun u l k=>(h.rds u l k).keep hx,h.lies,h.zle,Nat.le_trans h.size hx.size⟩
theorem Dy.ntb(h:Dy z w0 w1 w tb V0 V Vb m0 n m1 m2 m3 F us ls ms) {k:Nat} (hk:V.All m3 k):k≠tb:=h.rest.ne ⟨_,h.box⟩ (by decide) (by decide) (by decide) (by decide) hk
theorem Dy.step(h:Dy w1.heap.size w0 w1 w tb V0 V Vb m0 n m1 m2 m3 F us ls ms) {S:Nat->Prop} (hx:AK S w w') (hr:∀u l,Ad w u l->Ad w' u l) (hS:∀k,S k->V.All m3 k) :
  Au w' tb=some (.cells #[Vb.pv,Vb.pr,Vb.u,Vb.mp,Vb.ba,Vb.fr,Vb.be,Vb.al,Vb.d,Vb.l] 122 (0,0))/\BN w' tb/\AK (V0.Big tb m0) w1 w'/\(∀u l,Ad w1 u l->Ad w' u l)/\w0.heap.size<=w'.heap.size/\∀k,w.heap.size<=k->w1.heap.size<=k:=by
 have hn:¬S tb:=fun e=>h.ntb (hS tb e) rfl;refine⟨(hx.blk (AT h.box) hn).trans h.box,fun i d hc=>h.nod i d (by rw[<- hx.cell (p:=⟨tb,i,none⟩) (AT h.box) hn];exact hc),h.ext.trans' hx (fun k hk e=>?_),fun u l k=>hr _ _ (h.rds u l k),Nat.le_trans h.size hx.size,fun k hk=>Nat.le_trans h.ext.size hk⟩;rcases h.lies k (hS k e) with e2|e2
 ·exact e2
 omega
theorem Dy.appBa(h:Dy w1.heap.size w0 w1 w tb V0 V Vb m0 n m1 m2 m3 F us ls ms) {v':Value} {x:Nat} (ha:Le w w' w0.heap.size 3 1 V.ba v' m1 (Ex m1 F.ba) [.int .i64 x]):Dy w1.heap.size w0 w1 w' tb V0 { V with ba:=v' } Vb m0 n (m1+1) m2 m3 { F with ba:=fun i=>if i=m1 then x else F.ba i } us ls ms:=by
 obtain⟨g1,g2,g3,g4,g5,g6⟩:=h.step ha.ext ha.rds (fun k e=>⟨.inl e⟩);refine⟨h.rest.appBa ha,g1,g2,g3,g4,fun k hk=>?_,Nat.le_refl _,g5⟩;rcases hk.ex with e|e|e|e|e|e|e|e|e
 ·rcases ha.new k e with e2|e2
  ·exact h.lies k ⟨.inl e2⟩
  exact .inr (g6 k e2)
 ·exact h.lies k ⟨.inr (.inl e)⟩
 ·exact h.lies k ⟨.inr (.inr (.inl e))⟩
 ·exact h.lies k ⟨.inr (.inr (.inr (.inl e)))⟩
 ·exact h.lies k ⟨.inr (.inr (.inr (.inr (.inl e))))⟩
 ·exact h.lies k ⟨.inr (.inr (.inr (.inr (.inr (.inl e)))))⟩
 ·exact h.lies k ⟨.inr (.inr (.inr (.inr (.inr (.inr (.inl e))))))⟩
 ·exact h.lies k ⟨.inr (.inr (.inr (.inr (.inr (.inr (.inr (.inl e)))))))⟩
 exact h.lies k ⟨.inr (.inr (.inr (.inr (.inr (.inr (.inr (.inr e)))))))⟩
theorem Dy.appU(h:Dy w1.heap.size w0 w1 w tb V0 V Vb m0 n m1 m2 m3 F us ls ms) {v':Value} {x:AZ} (ha:Le w w' w0.heap.size 124 3 V.u v' us.length (us.flatMap Dn) (Dn x)):Dy w1.heap.size w0 w1 w' tb V0 { V with u:=v' } Vb m0 n m1 m2 m3 F (us++[x]) ls ms:=by
 obtain⟨g1,g2,g3,g4,g5,g6⟩:=h.step ha.ext ha.rds (fun k e=>⟨.inr (.inr (.inr (.inr (.inr (.inl e)))))⟩);refine⟨h.rest.appU ha,g1,g2,g3,g4,fun k hk=>?_,Nat.le_refl _,g5⟩;rcases hk.ex with e|e|e|e|e|e|e|e|e
 ·exact h.lies k ⟨.inl e⟩
 ·exact h.lies k ⟨.inr (.inl e)⟩
 ·exact h.lies k ⟨.inr (.inr (.inl e))⟩
 ·exact h.lies k ⟨.inr (.inr (.inr (.inl e)))⟩
 ·exact h.lies k ⟨.inr (.inr (.inr (.inr (.inl e))))⟩
 ·rcases ha.new k e with e2|e2
  ·exact h.lies k ⟨.inr (.inr (.inr (.inr (.inr (.inl e2)))))⟩
  exact .inr (g6 k e2)
 ·exact h.lies k ⟨.inr (.inr (.inr (.inr (.inr (.inr (.inl e))))))⟩
 ·exact h.lies k ⟨.inr (.inr (.inr (.inr (.inr (.inr (.inr (.inl e)))))))⟩
 exact h.lies k ⟨.inr (.inr (.inr (.inr (.inr (.inr (.inr (.inr e)))))))⟩
theorem Dy.appBe(h:Dy w1.heap.size w0 w1 w tb V0 V Vb m0 n m1 m2 m3 F us ls ms) {v':Value} {x:BW} {q:Rat} {xs:List Value} (ha:Le w w' w0.heap.size 34 3 V.be v' m2 xs x.cells) (hq:GS w xs m2 F.be) (hl:xs.length=m2*3) (hx:AN w x.v q):Dy w1.heap.size w0 w1 w' tb V0 { V with be:=v' } Vb m0 n m1 (m2+1) m3 { F with be:=fun i=>if i=m2 then q else F.be i } us ls ms:=by
 obtain⟨g1,g2,g3,g4,g5,g6⟩:=h.step ha.ext ha.rds (fun k e=>⟨.inr (.inr (.inl e))⟩);refine⟨h.rest.appBe ha hq hl hx,g1,g2,g3,g4,fun k hk=>?_,Nat.le_refl _,g5⟩;rcases hk.ex with e|e|e|e|e|e|e|e|e
 ·exact h.lies k ⟨.inl e⟩
 ·exact h.lies k ⟨.inr (.inl e)⟩
 ·rcases ha.new k e with e2|e2
  ·exact h.lies k ⟨.inr (.inr (.inl e2))⟩
  exact .inr (g6 k e2)
 ·exact h.lies k ⟨.inr (.inr (.inr (.inl e)))⟩
 ·exact h.lies k ⟨.inr (.inr (.inr (.inr (.inl e))))⟩
 ·exact h.lies k ⟨.inr (.inr (.inr (.inr (.inr (.inl e)))))⟩
 ·exact h.lies k ⟨.inr (.inr (.inr (.inr (.inr (.inr (.inl e))))))⟩
 ·exact h.lies k ⟨.inr (.inr (.inr (.inr (.inr (.inr (.inr (.inl e)))))))⟩
 exact h.lies k ⟨.inr (.inr (.inr (.inr (.inr (.inr (.inr (.inr e)))))))⟩
theorem Dy.appAl(h:Dy w1.heap.size w0 w1 w tb V0 V Vb m0 n m1 m2 m3 F us ls ms) {v':Value} {nb:Nat} {f:Nat->Rat} (ha:Le w w' w0.heap.size 35 1 V.al v' m3 (Eu m3 (fun i=>.slice (some ⟨V.rb i,0,none⟩) n n)) [.slice (some ⟨nb,0,none⟩) n n]) (hrow:B9 w nb n f) (hz:z<=w1.heap.size) (hnb:z<=nb) (hlow:w0.heap.size<=nb) (hno:¬V.All m3 nb) :
  Dy z w0 w1 w' tb V0 { V with al:=v',rb:=fun i=>if i=m3 then nb else V.rb i } Vb m0 n m1 m2 (m3+1) { F with al:=fun i=>if i=m3 then f else F.al i } us ls ms:=by
 have wk:∀{k:Nat},V0.Big tb m0 k∨w1.heap.size<=k->V0.Big tb m0 k∨z<=k:=fun h=>h.imp id (Nat.le_trans hz);obtain⟨g1,g2,g3,g4,g5,g6⟩:=h.step ha.ext ha.rds (fun k e=>⟨.inr (.inr (.inr (.inr (.inl e))))⟩);refine⟨h.rest.appAl ha hrow hlow (fun i hi e=>hno ⟨.inr (.inr (.inr (.inr (.inr (.inr (.inr (.inr ⟨i,hi,e.symm⟩)))))))⟩) (fun e=>hno ⟨.inr (.inr (.inl e))⟩) (fun e=>hno ⟨.inr (.inr (.inr (.inl e)))⟩),g1,g2,g3,g4,fun k hk=>?_,hz,g5⟩;rcases hk.ex with e|e|e|e|e|e|e|e|⟨i,hi,e⟩
 ·exact wk (h.lies k ⟨.inl e⟩)
 ·exact wk (h.lies k ⟨.inr (.inl e)⟩)
 ·exact wk (h.lies k ⟨.inr (.inr (.inl e))⟩)
 ·exact wk (h.lies k ⟨.inr (.inr (.inr (.inl e)))⟩)
 ·rcases ha.new k e with e2|e2
  ·exact wk (h.lies k ⟨.inr (.inr (.inr (.inr (.inl e2))))⟩)
  exact .inr (Nat.le_trans hz (g6 k e2))
 ·exact wk (h.lies k ⟨.inr (.inr (.inr (.inr (.inr (.inl e)))))⟩)
 ·exact wk (h.lies k ⟨.inr (.inr (.inr (.inr (.inr (.inr (.inl e))))))⟩)
 ·exact wk (h.lies k ⟨.inr (.inr (.inr (.inr (.inr (.inr (.inr (.inl e)))))))⟩)
 have e:k=if i=m3 then nb else V.rb i:=e
 by_cases e2:i=m3
 ·rw[if_pos e2] at e;rw[e];exact .inr hnb
 rw[if_neg e2] at e;exact wk (h.lies k ⟨.inr (.inr (.inr (.inr (.inr (.inr (.inr (.inr ⟨i,by omega,e⟩)))))))⟩)
theorem Dy.setMap(h:Dy w1.heap.size w0 w1 w tb V0 V Vb m0 n m1 m2 m3 F us ls ms) {mb:Nat} {es:Array MapEntry} {clock:Nat} {ms':List AZ} (hv:V.mp=.map (some mb)) (hlow:w0.heap.size<=mb) {w'':World} {O:Obj} (e1:w''=setBlock (setBlock w mb O) mb (.map es clock)) (hl:F3 es ms') (Aa:Stamped es clock):Dy w1.heap.size w0 w1 w'' tb V0 V Vb m0 n m1 m2 m3 F us ls ms':=by
 obtain⟨mb',es0,clock0,h5,_,h6,_⟩:=h.rest.mp;rw[hv] at h5;cases h5;have hnd:BN w mb:=fun i d hc=>by
  have:w.cell? ⟨mb,i,none⟩=none:=by
   unfold World.cell?;have h6:w.heap[mb]?=some (.map es0 clock0):=h6;simp[h6]
  rw[this] at hc;cases hc
 have hx:AK (fun k=>k=mb) w w'':=by
  rw[e1];exact ((AK.refl (fun k=>k=mb) w).setBlock mb O (fun _=>rfl)).setBlock mb _ (fun _=>rfl)
 have hr:∀u l,Ad w u l->Ad w'' u l:=fun u l hu=>hu.past hx (fun k _ e=>by subst e;exact hnd);obtain⟨g1,g2,g3,g4,g5,g6⟩:=h.step hx hr (fun k e=>⟨.inr (.inr (.inr (.inr (.inr (.inr (.inr (.inl (by rw[show k=mb from e];exact hv))))))))⟩);refine⟨h.rest.setMap hv hx hnd ⟨mb,es,clock,hv,hlow,?_,hl,Aa⟩,g1,g2,g3,g4,h.lies,Nat.le_refl _,g5⟩;have hlt:=AT h6;rw[e1];unfold Au setBlock;simp[hlt]
theorem Dy.store(h:Dy z w0 w1 w tb V0 V Vb m0 n m1 m2 m3 F us ls ms) (i:Nat) {u:Value} (hu:Cr u) (Vb':Bh) (hV:(#[Vb.pv,Vb.pr,Vb.u,Vb.mp,Vb.ba,Vb.fr,Vb.be,Vb.al,Vb.d,Vb.l]:Array Value).setIfInBounds i u=#[Vb'.pv,Vb'.pr,Vb'.u,Vb'.mp,Vb'.ba,Vb'.fr,Vb'.be,Vb'.al,Vb'.d,Vb'.l]) :
  Dy z w0 w1 (w.setCell ⟨tb,i,none⟩ u) tb V0 V Vb' m0 n m1 m2 m3 F us ls ms:=by
 obtain⟨g1,g2,g3⟩:=h.rest.box h.box h.nod i u;have hb:=AI h.box i u;rw[hV] at hb;refine⟨g1,hb,fun j d hc=>?_,h.ext.trans (g3.mono (fun k _ e=>.inl e)),fun v l k=>g2 v l (h.rds v l k),h.lies,h.zle,Nat.le_trans h.size g3.size⟩;rw[AJ?_setCell_if] at hc;split at hc
 ·have hu':=hu .u32 d;cases hw:w.cell? ⟨tb,j,none⟩<;>simp_all
 exact h.nod j d hc
theorem Di.noDig{T:AX} {p:AH} (h:Di w0 w tb V T p us ls):BN w tb:=by
 obtain⟨vo,vc,e1,_⟩:=h.vars.shape;obtain⟨ro,rc,e2,_⟩:=h.rows.shape;obtain⟨uo,uc,e3⟩:=h.rest.u.shape;obtain⟨lo,lc,e4⟩:=h.rest.l.shape;exact Qr h.rest h.box (Ai e1) (Ai e2) (Ai e3) h.rest.mp.notInt h.rest.ba.notInt h.rest.fr.notInt h.rest.be.notInt h.rest.al.notInt h.rest.d.notInt (Ai e4)
theorem Di.mid{T:AX} {p:AH} (h:Di w0 w tb V T p us ls):Dy w.heap.size w0 w w tb V V V T.m T.n T.m T.m T.m T us ls us :=
 ⟨h.rest,h.box,h.noDig,AK.refl _ _,fun _ _ k=>k,fun k hk=>.inl (.inr hk),Nat.le_refl _,h.old.size⟩
end
section
variable {P:Program} {md:Region.Mode} {ops:Array Oper} {Q:Exit->Act->World->Prop} {S S2:World->Prop} {k:Nat->Bool}
def D3(P:Program) (md:Region.Mode) (ops:Array Oper) (Q:Exit->Act->World->Prop) (S S2:World->Prop) (k:Nat->Bool):Nat->Array Bool->Act->World->Prop
 | 0,ls,a,w=>Region.ready md ops ls=[]/\Q .normal a w
 | n+1,ls,a,w=>(Region.ready md ops ls=[]->Q .normal a w)/\∀i∈Region.ready md ops ls,wpOp P ops Q i (fun a' w'=>((k i=false->S w->S w')/\(S2 w->S2 w'))/\D3 P md ops Q S S2 k n (ls.setIfInBounds i true) a' w') a w
theorem D3.any:∀(n:Nat) (ls:Array Bool) (a:Act) (w:World),D3 P md ops Q S S2 k n ls a w->wpAny P md ops Q n ls a w
 | 0,_,_,_,h=>h
 | n+1,_,_,_,h=>⟨h.1,fun i hi=>wpOp_mono (fun a w h=>D3.any n _ a w h.2) (h.2 i hi)⟩
theorem D3.takeE{i:Nat} {oi:Oper} {v:Value} (hi:ops[i]?=some oi) (hsel:∀(j:Nat) (o:Oper) cs b,ops[j]?=some o->o.op≠.select cs b) (hQ:∀c a w,Q (.panic c) (a.put oi.dst v) w->Q (.panic c) a w) :
  ∀(n:Nat) (ls:Array Bool) (a:Act) (w:World),Iu md ops i oi ls->i∈Region.ready md ops ls->YieldsIf P ops S2 oi v a->S2 w->D3 P md ops Q S S2 k n (ls.setIfInBounds i true) (a.put oi.dst v) w->D3 P md ops Q S S2 k (n+1) ls a w:=by
 have first:∀(n:Nat) (ls:Array Bool) (a:Act) (w:World),YieldsIf P ops S2 oi v a->S2 w->D3 P md ops Q S S2 k n (ls.setIfInBounds i true) (a.put oi.dst v) w->wpOp P ops Q i (fun a' w'=>((k i=false->S w->S w')/\(S2 w->S2 w'))/\D3 P md ops Q S S2 k n (ls.setIfInBounds i true) a' w') a w :=
  fun n ls a w hy hS H=>hy.wpOp hi hS ⟨⟨fun _ hs=>hs,fun hs=>hs⟩,H⟩
 intro n;induction n with
 | zero =>
  intro ls a w _ hr hy hS H;refine⟨fun h=>(by rw[h] at hr;cases hr),fun j hj=>?_⟩;rcases Decidable.em (j=i) with e|e
  ·rw[e];exact first 0 ls a w hy hS H
  have:=ready_mono hj e;rw[H.1] at this;cases this
 | succ n ih =>
  intro ls a w hap hr hy hS H;refine⟨fun h=>(by rw[h] at hr;cases hr),fun j hj=>?_⟩;rcases Decidable.em (j=i) with e|e
  ·rw[e];exact first (n+1) ls a w hy hS H
  obtain⟨hju,oj,hoj,_⟩:=mem_ready.1 hj;have h2:=wpOp_putIf hoj (hap j oj hoj e hju (C6 hr hoj hj)) (fun cs b=>hsel i oi cs b hi) (fun cs b=>hsel j oj cs b hoj) hQ hy (H.2 j (ready_mono hj e));refine wpOp_mono (fun a' w' h3=>?_) h2;have hr':i∈Region.ready md ops (ls.setIfInBounds j true):=ready_mono hr (Ne.symm e);exact⟨h3.2.1,ih _ a' w' (hap.next hju) hr' h3.1 (h3.2.1.2 hS) (by rw[Array.setIfInBounds_comm _ _ e];exact h3.2.2)⟩
theorem D3.takeD{i:Nat} {oi:Oper} {v:Value} (D:Nat->Prop) (hi:ops[i]?=some oi) (hsel:∀(j:Nat) (o:Oper) cs b,ops[j]?=some o->o.op≠.select cs b) (hQ:∀c a w,Q (.panic c) (a.put oi.dst v) w->Q (.panic c) a w)
  (hD:∀p,D p->∃q,Nx md ops p q/\(q=i∨D q)) (hk:k i=false/\∀j,k j=true->D j) :
  ∀(n:Nat) (ls:Array Bool) (a:Act) (w:World),Iu md ops i oi ls->i∈Region.ready md ops ls->(∀p,D p->ls.getD p false=false)->YieldsIf P ops S oi v a->S w->D3 P md ops Q S S2 k n (ls.setIfInBounds i true) (a.put oi.dst v) w->D3 P md ops Q S S2 k (n+1) ls a w:=by
 have first:∀(n:Nat) (ls:Array Bool) (a:Act) (w:World),YieldsIf P ops S oi v a->S w->D3 P md ops Q S S2 k n (ls.setIfInBounds i true) (a.put oi.dst v) w->wpOp P ops Q i (fun a' w'=>((k i=false->S w->S w')/\(S2 w->S2 w'))/\D3 P md ops Q S S2 k n (ls.setIfInBounds i true) a' w') a w :=
  fun n ls a w hy hS H=>hy.wpOp hi hS ⟨⟨fun _ hs=>hs,fun hs=>hs⟩,H⟩
 intro n;induction n with
 | zero =>
  intro ls a w _ hr _ hy hS H;refine⟨fun h=>(by rw[h] at hr;cases hr),fun j hj=>?_⟩;rcases Decidable.em (j=i) with e|e
  ·rw[e];exact first 0 ls a w hy hS H
  have:=ready_mono hj e;rw[H.1] at this;cases this
 | succ n ih =>
  intro ls a w hap hr hnl hy hS H;refine⟨fun h=>(by rw[h] at hr;cases hr),fun j hj=>?_⟩;rcases Decidable.em (j=i) with e|e
  ·rw[e];exact first (n+1) ls a w hy hS H
  obtain⟨hju,oj,hoj,_⟩:=mem_ready.1 hj;have h2:=wpOp_putIf hoj (hap j oj hoj e hju (C6 hr hoj hj)) (fun cs b=>hsel i oi cs b hi) (fun cs b=>hsel j oj cs b hoj) hQ hy (H.2 j (ready_mono hj e));refine wpOp_mono (fun a' w' h3=>?_) h2;have hr':i∈Region.ready md ops (ls.setIfInBounds j true):=ready_mono hr (Ne.symm e);have hno:∀p,Nx md ops j p->p≠i/\ls.getD p false=true:=fun p ⟨ok,ho,e',he,hb,hon⟩=>by
   rw[hoj] at ho;cases ho;refine⟨fun ep=>C6 hr hoj hj e' he hb (hon.trans ep),?_⟩;obtain⟨_,o2,ho2,hall⟩:=mem_ready.1 hj;rw[hoj] at ho2;cases ho2;rw[<- hon];exact hall e' he hb
  have hnD:¬D j:=fun hd=>by
   obtain⟨q,h4,h5⟩:=hD j hd;rcases h5 with h5|h5
   ·exact (hno q h4).1 h5
   have h6:=(hno q h4).2;rw[hnl q h5] at h6;cases h6
  have hjk:k j=false:=by
   cases hkj:k j with
   | false=>rfl
   | true=>exact absurd (hk.2 j hkj) hnD
  have hnl':∀p,D p->(ls.setIfInBounds j true).getD p false=false:=fun p hp=>by
   have hpj:p≠j:=fun ep=>hnD (ep▸hp);rw[getD_set_ne false (Ne.symm hpj)];exact hnl p hp
  exact⟨h3.2.1,ih _ a' w' (hap.next hju) hr' hnl' h3.1 (h3.2.1.1 hjk hS) (by rw[Array.setIfInBounds_comm _ _ e];exact h3.2.2)⟩
end
section
variable {P:Program} {md:Region.Mode} {l:List Oper} {Q:Exit->Act->World->Prop} {S S2:World->Prop} {k:Nat}
abbrev FN(P:Program) (md:Region.Mode) (l:List Oper) (Q:Exit->Act->World->Prop) (S S2:World->Prop) (k:Nat) (n:Nat) (ls:Array Bool) (a:Act) (w:World):Prop:=D3 P md l.toArray Q S S2 (fun j=>decide (k<=j)&&decide (j<l.length)) n ls a w
theorem nf(i:Nat) {oi:Oper} {v:Value} {fuel:Nat} {listed:Array Bool} {a:Act} {w:World} (hi:l[i]?=some oi:=by rfl) (hs:Region.noSelect l.toArray=true:=by kernel_rfl) (hf:Region.free md l.toArray listed i=true:=by kernel_rfl)
  (hr:(Region.ready md l.toArray listed).contains i=true:=by kernel_rfl) (hQ:∀c a w,Q (.panic c) (a.put oi.dst v) w->Q (.panic c) a w:=by exact fun _ _ _ h=>h) (hw:Region.wanted oi (yielded l.toArray a.tmps)=true:=by rfl)
  (he:∀w,S2 w->(execOp a.eval oi).run P w=.ok (.value v) w:=by (intro w hSw;(try go_frame);(try dsimp only at hSw);go_simp)<;>with_reducible rfl) (hS:S2 w:=by assumption) (h:FN P md l Q S S2 k fuel (listed.setIfInBounds i true) (a.put oi.dst v) w):FN P md l Q S S2 k (fuel+1) listed a w :=
 have hi':l.toArray[i]?=some oi:=by simpa using hi
 D3.takeE hi' (Region.noSelect_spec hs) hQ fuel listed a w (Region.free_spec hi' hf) (by simpa using hr) (.inl ⟨hw,he⟩) hS h
theorem nu(i:Nat) {oi:Oper} {v:Value} {fuel:Nat} {listed:Array Bool} {a:Act} {w:World} (hi:l[i]?=some oi:=by rfl) (hs:Region.noSelect l.toArray=true:=by kernel_rfl) (hf:Region.free md l.toArray listed i=true:=by kernel_rfl)
  (hr:(Region.ready md l.toArray listed).contains i=true:=by kernel_rfl) (hk:PM md l i (F0 md i l 0 [])=true:=by kernel_rfl) (hl:Mj l k i (F0 md i l 0 [])=true:=by kernel_rfl) (hnl:UV listed (F0 md i l 0 [])=true:=by kernel_rfl) (hQ:∀c a w,Q (.panic c) (a.put oi.dst v) w->Q (.panic c) a w:=by exact fun _ _ _ h=>h) (hw:Region.wanted oi (yielded l.toArray a.tmps)=true:=by rfl)
  (he:∀w,S w->(execOp a.eval oi).run P w=.ok (.value v) w:=by (intro w hSw;(try go_frame);(try dsimp only at hSw);go_simp)<;>with_reducible rfl) (hS:S w:=by assumption) (h:FN P md l Q S S2 k fuel (listed.setIfInBounds i true) (a.put oi.dst v) w):FN P md l Q S S2 k (fuel+1) listed a w :=
 have hi':l.toArray[i]?=some oi:=by simpa using hi
 D3.takeD (fun p=>p∈F0 md i l 0 []) hi' (Region.noSelect_spec hs) hQ (Jj hk) (Jg hl) fuel listed a w (Region.free_spec hi' hf) (by simpa using hr) (fun p hp=>by have:=List.all_eq_true.1 hnl p hp;simpa using this) (.inl ⟨hw,he⟩) hS h
theorem VS(i:Nat) {oi:Oper} {fuel:Nat} {listed:Array Bool} {a:Act} {w:World} (hi:l[i]?=some oi:=by rfl) (hr:Region.ready md l.toArray listed=[i]:=by kernel_rfl)
  (h:∀K':Act->World->Prop,Shut (∀a w,S w->S2 w->(S w->S2 w->FN P md l Q S S2 k fuel (listed.setIfInBounds i true) a w)->K' a w)->if Region.wanted oi (yielded l.toArray a.tmps)=true then Oper.wp P oi a w K' Q else K' (a.put oi.dst undef) w) :
  FN P md l Q S S2 k (fuel+1) listed a w:=by
 refine⟨fun h0=>(by rw[hr] at h0;cases h0),fun j hj=>?_⟩;rw[hr] at hj;obtain rfl:=List.mem_singleton.1 hj;exact wpOp_step (by simpa using hi) (fun K' hK=>h K' (fun a w hS hS2 hW=>hK a w ⟨⟨fun _ _=>hS,fun _=>hS2⟩,hW hS hS2⟩))
theorem nl(i:Nat) {oi:Oper} {fuel:Nat} {listed:Array Bool} {a:Act} {w:World} (hi:l[i]?=some oi:=by rfl) (hr:Region.ready md l.toArray listed=[i]:=by kernel_rfl) (hk:(decide (k<=i)&&decide (i<l.length))=true:=by kernel_rfl)
  (h:∀K':Act->World->Prop,Shut (∀a w,S2 w->(S2 w->FN P md l Q S S2 k fuel (listed.setIfInBounds i true) a w)->K' a w)->if Region.wanted oi (yielded l.toArray a.tmps)=true then Oper.wp P oi a w K' Q else K' (a.put oi.dst undef) w) :
  FN P md l Q S S2 k (fuel+1) listed a w:=by
 refine⟨fun h0=>(by rw[hr] at h0;cases h0),fun j hj=>?_⟩;rw[hr] at hj;obtain rfl:=List.mem_singleton.1 hj;exact wpOp_step (by simpa using hi) (fun K' hK=>h K' (fun a w hS hW=>hK a w ⟨⟨fun e=>absurd (hk.symm.trans e) (by decide),fun _=>hS⟩,hW hS⟩))
theorem VI{listed:Array Bool} {a:Act} {w:World} (hr:Region.ready md l.toArray listed=[]) (h:Q .normal a w):∀fuel,FN P md l Q S S2 k fuel listed a w
 | 0=>⟨hr,h⟩
 | _+1=>⟨fun _=>h,by rw[hr];simp⟩
theorem Ur{id:Nat} {a:Act} {w:World} (k:Nat) (S S2:World->Prop) (hm:P.follows .mixedOrders=true) (hS:S w.drew) (hS2:S2 w.drew)
  (h:S w.drew->S2 w.drew->FN P .any l Q S S2 k l.toArray.size (Array.replicate l.toArray.size false) a w.drew):(Code.region id l.toArray true).wp P Q a w :=
 wp_region_any hm (D3.any _ _ _ _ (h hS hS2))
end
theorem Uf{T:AX} {s:Nat} (h1:2<=s) (h:∀k j,k<T.m->j<T.n->Sz (T.al k j) s) (v:Nat) {c:Nat} (hc:c<T.n):Sz (RZ T v c) s:=by
 unfold RZ;cases hf:Cj T.fr v T.n with
 | some c' =>
  dsimp only;split
  ·exact (Sz.int (k:=1) ⟨by omega,by omega⟩).mono h1
  exact Sz.zero.mono (by omega)
 | none =>
  dsimp only;cases hb:Cj T.ba v T.m with
  | some r=>exact (h r c (Ej hb).1 hc).neg
  | none=>exact Sz.zero.mono (by omega)
def Uc(p:AH) (l:AZ) (i:Nat):Int:=((AV p l).getD i AW).coef*A6 l
theorem Ly(p:AH) (T:AX) (l:AZ) (i c:Nat):DF p T l (i+1) c=DF p T l i c+(Uc p l i:Rat)*RZ T ((AV p l).getD i AW).var.toNat c:=rfl
theorem QL{p:AH} {T:AX} {l:AZ} {s:Nat} (h1:2<=s) (h:∀k j,k<T.m->j<T.n->Sz (T.al k j) s) (hk:∀i,i<(AV p l).length->EX (Uc p l i)) {c:Nat} (hc:c<T.n):∀{i:Nat},i<=(AV p l).length->Sz (DF p T l i c) (1+i*(s+3))
 | 0,_=>by rw[Nat.zero_mul];exact Sz.zero
 | i+1,hi=>by
  rw[Ly];exact ((QL h1 h hk hc (i:=i) (by omega)).add ((Sz.int (hk i (by omega))).mul (Uf h1 h _ hc))).mono (by rw[Nat.add_mul i 1];omega)
theorem H8{n:Int}:∀{l:List B1} {last:Int},Bq n last l=true->∀k,k<l.length->CT (l.getD k AW).coef=true
 | [],_,_,k,hk=>by simp at hk
 | t::l,last,h,k,hk=>by
  unfold Bq at h;simp only[Bool.and_eq_true] at h;cases k with
  | zero=>exact h.1.2
  | succ k=>exact H8 h.2 k (by simpa using hk)
theorem S0{p:AH} {l:AZ} (hv:AU p=true) (hl:BF p l) (i:Nat) (hi:i<(AV p l).length):-1099511627776<=Uc p l i/\Uc p l i<=1099511627776:=by
 have hc:-1099511627776<=((AV p l).getD i AW).coef/\((AV p l).getD i AW).coef<=1099511627776:=by
  rcases hl with⟨g1,_⟩|⟨g1,g2,_⟩
  ·have e:AV p l=[⟨l.var,1⟩]:=if_pos (by omega);rw[e] at hi ⊢;have:i=0:=(by simp at hi;omega);subst this;exact⟨by show (-1099511627776:Int)<=1;omega,by show (1:Int)<=1099511627776;omega⟩
  have e:AV p l=(p.r l.row.toNat).terms:=if_neg (by omega);rw[e] at hi ⊢;have h2:=BR hv g2;unfold Cx at h2;simp only[Bool.and_eq_true] at h2;exact IX (H8 h2.2 i hi)
 unfold Uc A6;split
 ·omega
 split<;>omega
theorem Cm(w:World) (T:TypeId) (cells:List Value):∀(j:Nat) (u:Value),cells[j]?=some u->((w.alloc (.cells cells.toArray T)).drew).cell? ((⟨w.heap.size,0,none⟩:Addr).add j)=some u:=fun j u hu=>by
 have hb:Au ((w.alloc (.cells cells.toArray T)).drew) w.heap.size=some (.cells cells.toArray T (0,0)):=AD w _;rw[Addr.add_lit,Nat.zero_add,AS hb];simpa using hu
theorem E5(x:Int):E1 [.int .i64 x]:=fun u hu d e=>by simp at hu;rw[hu] at e;cases e
theorem J0(x:Int):∀u∈[Value.int .i64 x],u.oneCell'=true:=fun u hu=>by simp at hu;rw[hu];rfl
theorem Eh(ao:Option Addr) (n c:Nat):E1 [.slice ao n c]:=fun u hu d e=>by simp at hu;rw[hu] at e;cases e
theorem Jc(ao:Option Addr) (n c:Nat):∀u∈[Value.slice ao n c],u.oneCell'=true:=fun u hu=>by simp at hu;rw[hu];rfl
theorem Bz(w:World) (T:TypeId) (cells:List Value):∀(j:Nat) (u:Value),cells[j]?=some u->(w.alloc (.cells cells.toArray T)).cell? ((⟨w.heap.size,0,none⟩:Addr).add j)=some u:=Cm w T cells
theorem Kl{w w':World} {cells:List Value} {b:Nat} {S:Nat->Prop} (h:∀(j:Nat) (u:Value),cells[j]?=some u->w.cell? ((⟨b,0,none⟩:Addr).add j)=some u) (hx:AK S w w') (hn:¬S b):∀(j:Nat) (u:Value),cells[j]?=some u->w'.cell? ((⟨b,0,none⟩:Addr).add j)=some u:=fun j u hu=>by
 have h1:=h j u hu;rw[Addr.add_lit] at h1 ⊢;rw[hx.cell (p:=⟨b,0+j,none⟩) (World.block_lt_of_cell? _ _ h1) hn];exact h1
theorem Kz{w w':World} {cells:List Value} {b:Nat} (h:∀(j:Nat) (u:Value),cells[j]?=some u->w.cell? ((⟨b,0,none⟩:Addr).add j)=some u) (hx:XF w w'):∀(j:Nat) (u:Value),cells[j]?=some u->w'.cell? ((⟨b,0,none⟩:Addr).add j)=some u:=Kl h hx id
theorem Hw(m n:Nat) (rb:Nat->Nat) (c:Nat):E1 (Eu m (fun i=>.slice (some ⟨rb i,0,none⟩) n c)):=fun u hu d e=>by
 obtain⟨i,_,rfl⟩:=List.mem_map.1 hu;cases e
theorem Mm{w:World} {b:Nat} (h:b<w.heap.size) (o:Obj):Au (setBlock w b o) b=some o:=by
 unfold Au setBlock;simp[h]
theorem OT{v:Value} {P:Option Addr->Nat->Prop} {n:Nat} (h:∃ao c,v=.slice ao n c/\P ao c):Cr v:=by
 obtain⟨ao,c,e,_⟩:=h;exact Ai e
def Mq(w0 w:World) (tb:Nat) (V:Bh) (T:AX) (p:AH) (us ls:List AZ) (l:AZ) (r:Ending) (w':World):Prop :=
 ∃V',r=.returned (.tuple #[])/\Di w0 w' tb V' (JG p T us l) p (us++[l]) ls/\AK (V.Big tb T.m) w w'/\(∀u d,Ad w u d->Ad w' u d)/\(∀k,V'.Big tb (T.m+1) k->V.Big tb T.m k∨w.heap.size<=k)/\V'.l=V.l
theorem T7{w0 w wr W:World} {tb:Nat} {V V':Bh} {T:AX} {p:AH} {us ls:List AZ} {l:AZ} (h:Di w0 w tb V T p us ls) (hr:Di w0 wr tb V T p us ls) (hx:XF w wr)
  (hM:Dy w.heap.size w0 wr W tb V V' V' T.m T.n (T.m+1) (T.m+1) (T.m+1) { n:=T.n,m:=T.m,ba:=fun i=>if i=T.m then p.vars.length+us.length else T.ba i,fr:=T.fr,be:=fun i=>if i=T.m then BM p l (AP p.vars.length (BS T.ba T.be T.m)) false else T.be i,d:=T.d,al:=fun i=>if i=T.m then DF p T l (AV p l).length else T.al i } (us++[l]) ls (us++[l])) (e1:V'.pv=V.pv) (e2:V'.pr=V.pr) (e3:V'.l=V.l) (hl:BF p l) (hm9:T.m<1000):Mq w0 w tb V T p us ls l (.returned (.tuple #[])) W:=by
 refine⟨V',rfl,⟨hM.rest.cast rfl rfl rfl rfl rfl,hM.box,h.tbl,by rw[e1];exact h.vars,by rw[e2];exact h.rows,h.valid,hr.old.own hM.ext (fun k hk=>hr.low hk),⟨h.small.1,by show T.m+1<=1000;omega⟩,?_,h.hn,fun j hj=>?_⟩,hx.none.trans hM.ext,fun u d k=>hM.rds u d (k.keep hx),fun k hk=>?_,e3⟩
 ·show T.m+1=(us++[l]).length;rw[List.length_append,h.hm];rfl
 ·rw[List.length_append] at hj;by_cases e:j<us.length
  ·rw[List.getD_eq_getElem?_getD,List.getElem?_append_left e,<- List.getD_eq_getElem?_getD];exact h.oks j e
  have:j=us.length:=(by simp at hj;omega);subst this;simpa[List.getD_eq_getElem?_getD] using hl
 rcases hk with e|e
 ·exact .inl (.inl e)
 rcases hM.lies k e with e4|e4
 ·exact .inl e4
 exact .inr e4
theorem Tc(w0 w:World) (tb s:Nat) (V:Bh) (T:AX) (p:AH) (us ls:List AZ) (l:AZ) (h:Di w0 w tb V T p us ls) (hl:BF p l) (hnew:FT us l=false) (hal:∀k j,k<T.m->j<T.n->Sz (T.al k j) s) (hbe:∀k,k<T.m->Sz (T.be k) s) (h2s:2<=s) (hs:s<=200000) (hL:(AV p l).length*(s+8)+s+20<=2000000)
  (hbas:∀v,v<p.vars.length->Cj T.fr v T.n=none->∃r,Cj T.ba v T.m=some r) (hm9:T.m<1000) :
  Calls prog 163 #[.pointer (some ⟨tb,0,none⟩),.agg #[.int .i64 l.row,.int .i64 l.var,.bool l.tur]] w (Mq w0 w tb V T p us ls l):=by
 obtain⟨hsn,hsm⟩:=h.small;have hnn:=h.hn;have HH:=bH h;have hin:=hl.terms h.valid;have HIn:=bH (bI h.valid (bI hin hl));have HP:=bH (fun W (hW:XF w W)=>MT W tb p l (h.prg.keep hW) hl);have hdz:∀v,Sz (BS T.ba T.be T.m v) s:=fun v=>In (by omega) hbe v;have HDi:=bH (fun W (hW:XF w W)=>FH W w0.heap.size tb V T p (h.at.keep hW) (h.prg.keep hW) (by omega));have HSl:=bH (fun W Z (hW:XF w W) (hZ:BT W Z p.vars.length (BS T.ba T.be T.m))=>Jr W tb p l (some ⟨Z,0,none⟩) p.vars.length p.vars.length (AP p.vars.length (BS T.ba T.be T.m)) s false (h.prg.keep hW) hl (hZ.rats (fun i _=>hdz i) (Nat.le_refl _) (by unfold maxLen;omega)) h2s hL);have HIf:=bH (fun W (hW:XF w W) (v:Nat)=>Li W V.fr T.n T.fr v ((h.at.keep hW).fr.nrow (by omega)));have HIb:=bH (fun W (hW:XF w W) (v:Nat)=>Li W V.ba T.m T.ba v ((h.at.keep hW).ba.nrow (by omega)));have HZ:=bH (bI hal (bI hbe (bI hdz hbas)));have hsg:A6 l=1∨A6 l = -1:=by
  unfold A6;split
  ·exact .inl rfl
  split
  ·exact .inr rfl
  exact .inl rfl
 have HSgn:=bH hsg;have HL:=bH hL;have HNew:=bH hnew;have HNn:=bH hnn;clear hnn;clear hin hdz hal hbe hbas hL hsg hnew;have hxa:=(AK.refl (fun _=>False) w).alloc (.cells #[.int .i64 l.row,.int .i64 l.var,.bool l.tur] 124);have hb0:Au (w.alloc (.cells #[.int .i64 l.row,.int .i64 l.var,.bool l.tur] 124)) w.heap.size=some (.cells #[.int .i64 l.row,.int .i64 l.var,.bool l.tur] 124 (0,0)):=AD _ _;have HB0:=bH (bI hxa hb0);have l0:=AA hb0 0 rfl;have l1:=AA hb0 1 rfl;have l2:=AA hb0 2 rfl;have HP1:=bH (HP.o _ hxa);clear hxa hb0 HP h;go_enter func163,ntmps163;go_upto_region 1 with fail;generalize w.alloc (.cells #[.int .i64 l.row,.int .i64 l.var,.bool l.tur] 124)=w1 at *;obtain⟨lb,hlb⟩:=bN w.heap.size;have hwl:w.heap.size<=lb:=Nat.le_of_eq hlb;rw[hlb] at HB0 l0 l1 l2 ⊢;clear hlb;go_upto_region 2 with (go_at_call 220;refine HP1.o.mono ?_;rintro r2 w2 ⟨tso,tsc,rfl,htm,hx2⟩);have hX2:=HB0.o.1.trans hx2;have hb2:=AM HB0.o.2 hx2;obtain⟨w3,hmk,hA,hxA⟩:=A7 w2 T.n (by omega);obtain⟨B,hB⟩:=bN w2.heap.size;have hBw:w2.heap.size<=B:=Nat.le_of_eq hB;have hlB:lb<w2.heap.size:=AT hb2;rw[hB] at hmk hA;obtain⟨fo,fc,hfv,-,-⟩:=(HH.o.at).fr.nrow (by omega);have hbox:=(HH.o.keep hX2).box;rw[hfv] at hbox;have c5:=AA hbox 5 rfl;have HTm:=bH htm;have HX23:=bH hxA;have HW20:=bH hX2;have HW2:=bH (bI (hX2.trans hxA) (bI (AM hb2 hxA) (bI hA (htm.keep hxA))));clear hbox hX2 hb2 hA hxA htm HB0 HP1 hx2 l0 l1 l2;go_upto_region 3 with fail;clear hmk c5;obtain⟨rr0,rr1,hA2,htm2⟩:=HW2.o;have HW:=bH (bI rr0 (bI rr1 (bI hA2 htm2)));clear rr0 rr1 hA2 htm2 HW2 hB;have hBlt:B<w3.heap.size:=HW.o.2.2.1.lt;have HDi3:=bH (fun W (hW:XF w3 W)=>HDi.o W (HW.o.1.trans hW));have HSl3:=bH (fun W Z (hW:XF w3 W) (hZ:BT W Z p.vars.length (BS T.ba T.be T.m))=>HSl.o W Z (HW.o.1.trans hW) hZ);clear HDi HSl;go_cut [8] (fun v8 wx=>∃ib n12 a12 l12 c12 a12' l12' c12',v8=.pointer (some ⟨ib,0,none⟩)/\w3.heap.size<=ib/\Aj wx ib n12 (.slice a12 l12 c12) (.slice a12' l12' c12')/\AN wx (.agg #[.bool n12,.slice a12 l12 c12,.slice a12' l12' c12']) (BM p l (AP p.vars.length (BS T.ba T.be T.m)) false)/\XF w3 wx);case first =>
  have l0:=cq (AA HW.o.2.1 0 rfl);have l1:=cq (AA HW.o.2.1 1 rfl);have l2:=cq (AA HW.o.2.1 2 rfl);refine wp_region_held_drew (S:=(XF w3)) (by kernel_rfl) ((AK.refl _ w3).drew) (fun hHeld=>?_);refine ht 0 (h:=(ht 1 (h:=(ht 2 (h:=?_)))));(try go_frame);refine Dt 3 5 rfl rfl (by kernel_rfl) (fun K hK=>?_) (fun K hK=>?_)
  ·go_simp;go_at_call 92;(with_reducible refine (HDi3.o _ hHeld).mono ?_);rintro q1 w11 ⟨Z,rfl,hZb,hZ,hx1⟩;have hX1:=hHeld.trans hx1;refine hK.o _ _ (hX1) (fun hHeld=>?_);clear hK K;(try go_frame);refine Dt 4 5 rfl rfl (by kernel_rfl) (fun K hK=>?_) (fun K hK=>?_)
   ·go_simp;go_at_call 162;(with_reducible refine (HSl3.o _ _ hX1 hZ).mono ?_);rintro q2 w12 ⟨v2,rfl,h12,hx2⟩;have hX2:=hX1.trans hx2;obtain⟨n12,a12,l12,c12,a12',l12',c12',rfl⟩:=h12.shape;refine hK.o _ _ (hX2) (fun hHeld=>?_);clear hK K;(try go_frame);refine Aa 5 (h:=fun K hK=>?_);go_simp;have hBl3:=hX2.size;have hX3:=hX2.trans ((AK.refl (fun _=>False) w12).alloc (.cells #[.bool false,.slice none 0 0,.slice none 0 0] 34));refine hK.o _ _ (hX3) (fun hHeld=>?_);clear hK K;(try go_frame);refine Aa 6 (h:=fun K hK=>?_);go_simp;have hxn:=(AK.refl (fun _=>False) w12).alloc (.cells #[.bool n12,.slice a12 l12 c12,.slice a12' l12' c12'] 34);have hXs:=hX2.trans hxn;have hps:=h12.keep hxn;have hpb:=AO (W:=w12) rfl n12 a12 l12 c12 a12' l12' c12';have hpl:=hX2.size;refine hK.o _ _ (hXs) (fun hHeld=>?_);clear hK K;(try go_frame);refine wpAnyH_done (by kernel_rfl) ?_ _;go_wp2;go_meet;exact⟨_,_,_,_,_,_,_,_,rfl,hpl,hpb,hps,hXs⟩
   go_simp;have hxn:=(AK.refl (fun _=>False) w11).alloc (.cells #[.bool false,.slice none 0 0,.slice none 0 0] 34);have hX2:=hX1.trans hxn;have hB2:=AO (W:=w11) rfl false none 0 0 none 0 0;have hBl2:=hX1.size;replace hZ:=hZ.keep hxn;refine hK.o _ _ (hX2) (fun hHeld=>?_);clear hK K;(try go_frame);refine Aa 4 (h:=fun K hK=>?_);go_simp;go_at_call 162;(with_reducible refine (HSl3.o _ _ hX2 hZ).mono ?_);rintro q3 w13 ⟨v3,rfl,h12,hx3⟩;have hX3:=hX2.trans hx3;have hB3:=hB2.keep hx3;obtain⟨n12,a12,l12,c12,a12',l12',c12',rfl⟩:=h12.shape;refine hK.o _ _ (hX3) (fun hHeld=>?_);clear hK K;(try go_frame);refine Aa 6 (h:=fun K hK=>?_);obtain⟨d0,d1,d2,d3,d4,d5⟩:=hB3.facts;have hp:=hB3.put (neg:=n12) (AF a12 l12 c12) (AF a12' l12' c12');have hXs:=hX3.own hp.ext (fun k e=>by have:=hBl2;omega);have hps:=hp.rat h12;have hpb:=hp.box;have hpl:=hBl2;go_simp;refine hK.o _ _ (hXs) (fun hHeld=>?_);clear hK K;(try go_frame);refine wpAnyH_done (by kernel_rfl) ?_ _;go_wp2;go_meet;exact⟨_,_,_,_,_,_,_,_,rfl,hpl,hpb,hps,hXs⟩
  go_simp;have hxn:=(AK.refl (fun _=>False) w3.drew).alloc (.cells #[.bool false,.slice none 0 0,.slice none 0 0] 34);have hX1:XF w3 ((w3.alloc (.cells #[.bool false,.slice none 0 0,.slice none 0 0] 34)).drew):=hHeld.trans hxn;have hB1:Aj ((w3.alloc (.cells #[.bool false,.slice none 0 0,.slice none 0 0] 34)).drew) w3.heap.size false (.slice none 0 0) (.slice none 0 0):=AO (W:=w3.drew) rfl false none 0 0 none 0 0;have hBl1:w3.heap.size<=w3.heap.size:=Nat.le_refl _;refine hK.o _ _ (hX1) (fun hHeld=>?_);clear hK K;(try go_frame);refine Aa 3 (h:=fun K hK=>?_);go_simp;go_at_call 92;(with_reducible refine (HDi3.o _ hX1).mono ?_);rintro q2 w12 ⟨Z,rfl,hZb,hZ,hx2⟩;have hX2:=hX1.trans hx2;have hB2:=hB1.keep hx2;refine hK.o _ _ (hX2) (fun hHeld=>?_);clear hK K;(try go_frame);refine Aa 4 (h:=fun K hK=>?_);go_simp;go_at_call 162;(with_reducible refine (HSl3.o _ _ hX2 hZ).mono ?_);rintro q3 w13 ⟨v3,rfl,h12,hx3⟩;have hX3:=hX2.trans hx3;have hB3:=hB2.keep hx3;obtain⟨n12,a12,l12,c12,a12',l12',c12',rfl⟩:=h12.shape;refine hK.o _ _ (hX3) (fun hHeld=>?_);clear hK K;(try go_frame);refine Aa 6 (h:=fun K hK=>?_);obtain⟨d0,d1,d2,d3,d4,d5⟩:=hB3.facts;have hp:=hB3.put (neg:=n12) (AF a12 l12 c12) (AF a12' l12' c12');have hXs:=hX3.own hp.ext (fun k e=>by have:=hBl1;omega);have hps:=hp.rat h12;have hpb:=hp.box;have hpl:=hBl1;go_simp;refine hK.o _ _ (hXs) (fun hHeld=>?_);clear hK K;(try go_frame);refine wpAnyH_done (by kernel_rfl) ?_ _;go_wp2;go_meet;exact⟨_,_,_,_,_,_,_,_,rfl,hpl,hpb,hps,hXs⟩
 case rest =>
  obtain⟨ib,n1,a1,m1,c1,a1',m1',c1',rfl,hib,hbx,hqx,hxc⟩:=hcut;have HC:=bH (show XF w wc/\Au wc lb=some (.cells #[.int .i64 l.row,.int .i64 l.var,.bool l.tur] 124 (0,0))/\BT wc B T.n (DF p T l 0)/\G8 wc (.slice tso (AV p l).length tsc) (AV p l)/\Aj wc ib n1 (.slice a1 m1 c1) (.slice a1' m1' c1')/\AN wc (.agg #[.bool n1,.slice a1 m1 c1,.slice a1' m1' c1']) (BM p l (AP p.vars.length (BS T.ba T.be T.m)) false)/\XF w2 wc from
   ⟨HW.o.1.trans hxc,AM HW.o.2.1 hxc,(HW.o.2.2.1.keep hxc).congr (fun _ _=>rfl),HW.o.2.2.2.keep hxc,hbx,hqx,HX23.o.trans hxc⟩)
  have hBib:B<ib:=(by omega);clear HW hxc hbx hqx HDi3 HSl3 hBlt;have HK:=bH (S0 HIn.o.1 hl);have hlen:(AV p l).length<=1000000:=by
   have:=HL.o;have h2:=Nat.mul_le_mul_left (AV p l).length (show 10<=s+8 by omega);omega
  have HE:=bH (fun W (hx:AK (fun k=>k=B) wc W)=>show XF w2 W from HC.o.2.2.2.2.2.2.own hx (fun k e=>by have e':k=B:=e;omega));clear hfv;go_wp2_with fail;go_loopg [35,10,11,12,13,14] (AV p l).length (fun gg v35 v10 v11 v12 v13 v14 wr=>∃i:Nat,i<=(AV p l).length/\gg=(AV p l).length-i/\v35=.int .i64 i/\BT wr B T.n (DF p T l i)/\AK (fun k=>k=B) wc wr);case atStart=>exact⟨0,Nat.zero_le _,rfl,rfl,HC.o.2.2.1,AK.refl _ _⟩
  case round =>
   obtain⟨i,hi,rfl,rfl,harr,hx⟩:=hrel;have HX:=bH (bI harr (bI hx (bI (HE.o wr hx) (HW20.o.trans (HE.o wr hx)))));clear harr hx;by_cases hin:i<(AV p l).length
   ·have i0:(i:Int)<((AV p l).length:Int):=(by omega);have i1:(0:Int)<=(i:Int):=(by omega);obtain⟨tb2,toff,rfl,htl,t0,t1,htok⟩:=(HTm.o.keep HX.o.2.2.1).at i hin;obtain⟨v0,v1⟩:=HIn.o.2.1 i hin;have hNx:=Ly p T l i;have hKr:=HK.o i hin;have hsgz:=fun (c:Nat) (hc:c<T.n)=>QL (p:=p) (T:=T) (l:=l) h2s HZ.o.1 (fun j hj=>by have:=HK.o j hj;exact⟨by omega,by omega⟩) hc (i:=i) (Nat.le_of_lt hin);have hmi:=Nat.mul_le_mul_right (s+3) (Nat.le_of_lt hin);have hszb:1+i*(s+3)+(2+s)+2<=4000000:=by
     have h3:=Nat.mul_le_mul_left (AV p l).length (show s+3<=s+8 by omega);have:=HL.o;omega
    unfold Uc at hNx hKr;generalize (AV p l).getD i AW=tm at *;obtain⟨vn,hvn⟩:∃vn:Nat,tm.var=vn:=⟨tm.var.toNat,by omega⟩;rw[hvn] at t0 v1 hNx;rw[show ((vn:Nat):Int).toNat=vn from rfl] at hNx;clear hvn v0;have v2:vn<p.vars.length:=(by omega);have v3:(0:Int)<=(vn:Int):=(by omega);obtain⟨K,hK⟩:=bN (tm.coef*A6 l);rw[hK] at hNx hKr;have HNx:=bH hNx;obtain⟨K0,K1⟩:=hKr;have HSz:=bH (bI hsgz hszb);clear hNx v1 hmi htok hsgz hszb;have hxa:=(AK.refl (fun _=>False) wr).alloc (.cells #[.int .i64 (vn:Int),.int .i64 tm.coef] 95);have hb1:=AD wr (.cells #[.int .i64 (vn:Int),.int .i64 tm.coef] 95);have HX6:=bH (bI (HX.o.1.keep hxa) (bI (HX.o.2.1.trans hxa.none) (bI (HX.o.2.2.1.trans hxa) (HX.o.2.2.2.trans hxa))));have f0:=AA hb1 0 rfl;have f1:=AA hb1 1 rfl;clear hb1 hxa HX;go_upto_region 7 with fail;generalize wr.alloc (.cells #[.int .i64 (vn:Int),.int .i64 tm.coef] 95)=w5 at *;generalize wr.heap.size=tbx at *;clear t0 t1;have HF:=bH (fun W=>Bx W K (by omega) (by omega));go_upto_region 8 with (go_at_call 86;refine (HF.o _).mono ?_;rintro r6 w6 ⟨v6,rfl,h6,hx6⟩;obtain⟨n6,a6,m6,c6,a6',m6',c6',rfl⟩:=h6.shape);have hxk:=(AK.refl (fun _=>False) w6).alloc (.cells #[.bool n6,.slice a6 m6 c6,.slice a6' m6' c6'] 34);have hbk:=AO (W:=w6) rfl n6 a6 m6 c6 a6' m6' c6';have HX7:=bH (show BT (w6.alloc (.cells #[.bool n6,.slice a6 m6 c6,.slice a6' m6' c6'] 34)) B T.n (DF p T l i)/\AK (fun k=>k=B) wc (w6.alloc (.cells #[.bool n6,.slice a6 m6 c6,.slice a6' m6' c6'] 34))/\XF w (w6.alloc (.cells #[.bool n6,.slice a6 m6 c6,.slice a6' m6' c6'] 34))/\Aj (w6.alloc (.cells #[.bool n6,.slice a6 m6 c6,.slice a6' m6' c6'] 34)) w6.heap.size n6 (.slice a6 m6 c6) (.slice a6' m6' c6')/\AN (w6.alloc (.cells #[.bool n6,.slice a6 m6 c6,.slice a6' m6' c6'] 34)) (.agg #[.bool n6,.slice a6 m6 c6,.slice a6' m6' c6']) (K:Rat) from
     ⟨(HX6.o.1.keep hx6).keep hxk,HX6.o.2.1.trans (hx6.trans hxk).none,HX6.o.2.2.2.trans (hx6.trans hxk),hbk,h6.keep hxk⟩)
    replace f0:=AB (AB f0 hx6) hxk;have hBk:B<w6.heap.size:=(HX6.o.1.keep hx6).lt;clear f1 hxk hbk h6 hx6 HX6;generalize w6.alloc (.cells #[.bool n6,.slice a6 m6 c6,.slice a6' m6' c6'] 34)=w7 at *;generalize w6.heap.size=kb at *;have HH7:=bH (HH.o.keep HX7.o.2.2.1);have c5:=cq (AA HH7.o.box 5 rfl);replace f0:=cq f0;have HIf8:=bH (fun W (hW:XF w7 W)=>HIf.o W (HX7.o.2.2.1.trans hW) vn);refine wp_region_held_drew (S:=(XF w7)) (by kernel_rfl) ((AK.refl _ w7).drew) (fun hHeld=>?_);refine ht 0 (h:=(ht 1 (h:=(ht 2 (h:=(ht 3 (h:=(ht 4 (h:=(ht 5 (h:=?_)))))))))));(try go_frame);refine Aa 6 (h:=fun K hK=>?_);(go_simp;go_at_call 210;(with_reducible refine (HIf8.o _ hHeld).mono ?_);rintro q1 w11 ⟨rfl,rfl⟩;have hX1:=hHeld);refine hK.o _ _ (hX1) (fun hHeld=>?_);clear hK K;(try go_frame);refine ht 7 (h:=?_);(try go_frame);refine wpAnyH_done (by kernel_rfl) ?_ _;have HX8:=bH (show BT w7.drew B T.n (DF p T l i)/\AK (fun k=>k=B) wc w7.drew/\XF w w7.drew/\Aj w7.drew kb n6 (.slice a6 m6 c6) (.slice a6' m6' c6')/\AN w7.drew (.agg #[.bool n6,.slice a6 m6 c6,.slice a6' m6' c6']) (K:Rat) from
     have hd:=(AK.refl (fun _=>False) w7).drew
     ⟨HX7.o.1.keep hd,HX7.o.2.1.trans hd.none,HX7.o.2.2.1.trans hd,HX7.o.2.2.2.1.keep hd,HX7.o.2.2.2.2.keep hd⟩)
    replace f0:=f0 _ (AK.refl (fun _=>False) w7).drew;go_upto_if 52 with fail;clear HX7 HH7 hX1 hHeld c5 HIf8;generalize w7.drew=w8 at *;have HH8:=bH (HH.o.keep HX8.o.2.2.1);have HGc:=bH (show ∀c,RZ T vn c=match Cj T.fr vn T.n with|some c'=>if c=c' then 1 else 0|none=>match Cj T.ba vn T.m with|some r=>-(T.al r c)|none=>0 from fun _=>rfl);have hcs:(∃c0,Cj T.fr vn T.n=some c0/\DG (Cj T.fr vn T.n)=(c0:Int))∨(Cj T.fr vn T.n=none/\DG (Cj T.fr vn T.n) = -1):=by
     cases hq:Cj T.fr vn T.n with
     | some c0=>exact .inl ⟨c0,rfl,rfl⟩
     | none=>exact .inr ⟨rfl,rfl⟩
    obtain⟨y0,y1,y2,-⟩:=HX8.o.2.2.2.1.facts;have HKq:=bH (bI HX8.o.2.2.2.2 (show Sz (K:Rat) 2 from Sz.int ⟨by omega,by omega⟩));rcases hcs with⟨c0,hf,hix⟩|⟨hf,hix⟩
    ·obtain⟨hc0,hfc⟩:=Ej hf;generalize DG (Cj T.fr vn T.n)=ix at *;subst hix;have HGs:=bH (show ∀c,RZ T vn c=if c=c0 then 1 else 0 from fun c=>by rw[HGc.o,hf]);have c00:(0:Int)<=(c0:Int):=(by omega);have c01:(c0:Int)<(T.n:Int):=(by omega);have HB:=bH HX8.o.1;obtain⟨on,oa,ol,oc,oa',ol',oc',o0,o1,o2,hoq⟩:=HB.o.cells c0 hc0;have hzz:=HSz.o.1 c0 hc0;have HAd:=bH (fun W (hW:XF w8 W)=>GW W _ _ (DF p T l i c0) (K:Rat) (1+i*(s+3)+2) ((hoq.keep hW).reads (hzz.mono (by omega))) ((HKq.o.1.keep hW).reads (HKq.o.2.mono (by omega))) (by omega) (by have:=HSz.o.2;omega));have HNx2:=bH (show ∀c,(if c=c0 then DF p T l i c0+(K:Rat) else DF p T l i c)=DF p T l (i+1) c from fun c=>by
      rw[HNx.o,HGs.o];by_cases e:c=c0
      ·rw[if_pos e,if_pos e,e];grind
      rw[if_neg e,if_neg e];grind)
     clear hoq hzz hf hfc HGc;replace y0:=cq y0;replace y1:=cq y1;replace y2:=cq y2;replace o0:=cq o0;replace o1:=cq o1;replace o2:=cq o2;go_upto_region 10 with fail;refine A4 9 (XF w8) (by kernel_rfl) ((AK.refl _ w8).drew) (fun hHeld=>?_);refine et 0 (h:=(et 1 (h:=(et 2 (h:=(et 3 (h:=(et 4 (h:=(et 5 (h:=(et 6 (h:=?_)))))))))))));(try go_frame);refine GY 7 (h:=fun K hK=>?_);(go_simp;go_at_call 160;(with_reducible refine (HAd.o _ hHeld).mono ?_);rintro q1 w11 ⟨v11,rfl,h11,hx11⟩;have hX1:=hHeld.trans hx11;obtain⟨n11,a11,l11,c11,a11',l11',c11',rfl⟩:=h11.shape);refine hK.o _ _ (hX1) (fun hHeld=>?_);clear hK K;(try go_frame);refine et 8 (h:=?_);(try go_frame);have HT2:=bH (HB.o.keep hX1);have fz0:=HT2.o.free (c0*3);have fz1:=HT2.o.free (c0*3+1);have fz2:=HT2.o.free (c0*3+2);have t0:=o0 _ hX1;have t1:=o1 _ hX1;have t2:=o2 _ hX1;refine BJ rfl (by kernel_rfl) (fun K hK=>?_);go_simp;refine hK.o _ _ ?_;clear hK K;(try go_frame);refine BL (by kernel_rfl) ?_ _;obtain⟨p1,p2,p3⟩:=HT2.o.put (show c0<T.n from hc0) h11;have HP:=bH (bI (p1.congr (fun c _=>HNx2.o c)) ((HX8.o.2.1.trans hX1.none).trans p2));clear p1 p2 p3 HT2 fz0 fz1 fz2 t0 t1 t2 o0 o1 o2 y0 y1 y2 h11 hx11 hX1 hHeld HAd HB HX8 f0;generalize ((w11.setCell ⟨B,c0*3,none⟩ (.bool n11)).setCell ⟨B,c0*3+1,none⟩ (.slice a11 l11 c11)).setCell ⟨B,c0*3+2,none⟩ (.slice a11' l11' c11')=w9 at *;go_wp2;go_roundg ((AV p l).length-(i+1));case measure=>omega
     case rel=>exact⟨i+1,by omega,rfl,by go_num,HP.o⟩
    obtain⟨r,hr⟩:=HZ.o.2.2.2 vn v2 hf;obtain⟨hrm,hrv⟩:=Ej hr;have HIb8:=bH (fun W (hW:XF w8 W)=>show Calls prog 210 #[V.ba,.int .i64 vn] W (fun r' w'=>r'=.returned (.int .i64 (r:Int))/\w'=W) from by
     have:=HIb.o W (HX8.o.2.2.1.trans hW) vn;rw[hr] at this;exact this)
    have HGs:=bH (show ∀c,RZ T vn c = -(T.al r c) from fun c=>by rw[HGc.o,hf];dsimp only;rw[hr]);generalize DG (Cj T.fr vn T.n)=ix at *;subst hix;obtain⟨ga,ca,hva,q1,q2,hrc⟩:=HH8.o.at.al.open (by omega);have hbox:=HH8.o.box;rw[hva] at hbox;have c4:=cq (AA hbox 4 rfl);have c7:=cq (AA hbox 7 rfl);have c9:=cq (hrc r hrm);have r0:(0:Int)<=(r:Int):=(by omega);have r1:(r:Int)<(T.m:Int):=(by omega);clear hbox hrc hf hr hva HGc;have f0':=cq f0;go_upto_region 11 with fail;refine wp_region_held_drew (S:=(XF w8)) (by kernel_rfl) ((AK.refl _ w8).drew) (fun hHeld=>?_);refine ht 0 (h:=(ht 1 (h:=(ht 2 (h:=(ht 3 (h:=(ht 4 (h:=(ht 5 (h:=(ht 6 (h:=(ht 7 (h:=(ht 8 (h:=(ht 9 (h:=(ht 14 (h:=?_)))))))))))))))))))));(try go_frame);refine Aa 10 (h:=fun K hK=>?_);(go_simp;go_at_call 210;(with_reducible refine (HIb8.o _ hHeld).mono ?_);rintro q1 w11 ⟨rfl,rfl⟩;have hX1:=hHeld);refine hK.o _ _ (hX1) (fun hHeld=>?_);clear hK K;(try go_frame);refine ht 11 (h:=(ht 12 (h:=(ht 13 (h:=?_)))));(try go_frame);refine wpAnyH_done (by kernel_rfl) ?_ _;have HX9:=bH (show BT w8.drew B T.n (fun c=>if c<0 then DF p T l (i+1) c else DF p T l i c)/\AK (fun k=>k=B) wc w8.drew/\Aj w8.drew kb n6 (.slice a6 m6 c6) (.slice a6' m6' c6')/\AN w8.drew (.agg #[.bool n6,.slice a6 m6 c6,.slice a6' m6' c6']) (K:Rat) from
     have hd:=(AK.refl (fun _=>False) w8).drew
     ⟨(HX8.o.1.keep hd).congr (fun c _=>(if_neg (by omega)).symm),HX8.o.2.1.trans hd.none,HX8.o.2.2.2.1.keep hd,HX8.o.2.2.2.2.keep hd⟩)
    have HRn:=bH (fun W (hW:XF w W)=>(HH.o.keep hW).rest.rows r hrm);clear hX1 hHeld c4 c7 c9 f0' f0 HIb8 HX8 HH8 y0 y1 y2;have HKz:=bH HKq.o.2;clear HKq;go_upto_region 12 with fail;generalize w8.drew=w9 at *;go_loopg [76,13,14] T.n (fun gg v76 v13 v14 wr=>∃j:Nat,j<=T.n/\gg=T.n-j/\v76=.int .i64 j/\BT wr B T.n (fun c=>if c<j then DF p T l (i+1) c else DF p T l i c)/\AK (fun k=>k=B) wc wr/\Aj wr kb n6 (.slice a6 m6 c6) (.slice a6' m6' c6')/\AN wr (.agg #[.bool n6,.slice a6 m6 c6,.slice a6' m6' c6']) (K:Rat));case atStart=>exact⟨0,Nat.zero_le _,rfl,rfl,HX9.o⟩
    case round =>
     clear HX9;obtain⟨j,hj,rfl,rfl,harr,hx,hbk,hqk⟩:=hrel;have HX:=bH (bI harr (bI hx (bI hbk hqk)));clear harr hx hbk hqk;by_cases hjn:j<T.n
     ·have j0:(j:Int)<(T.n:Int):=(by omega);have j1:(0:Int)<=(j:Int):=(by omega);obtain⟨n3,a3,l3,c3,a3',l3',c3',e0,e1,e2,hq3⟩:=(HRn.o wr (HW20.o.trans (HE.o wr HX.o.2.1))).1.cells j hjn;have hxa:=(AK.refl (fun _=>False) wr).alloc (.cells #[.bool n3,.slice a3 l3 c3,.slice a3' l3' c3'] 34);have hb3:=AO (W:=wr) rfl n3 a3 l3 c3 a3' l3' c3';have HXa:=bH (bI (HX.o.1.keep hxa) (bI (HX.o.2.1.trans hxa.none) (bI (HX.o.2.2.1.keep hxa) (bI (HX.o.2.2.2.keep hxa) (bI hb3 (hq3.keep hxa))))));clear hxa hb3 hq3 HX;go_upto_region 14 with fail;generalize wr.alloc (.cells #[.bool n3,.slice a3 l3 c3,.slice a3' l3' c3'] 34)=w9a at *;generalize wr.heap.size=ab at *;clear e0 e1 e2;obtain⟨x0,x1,x2,-⟩:=HXa.o.2.2.2.2.1.facts;have hzj:=HZ.o.1 r j hrm hjn;have HSg:=bH (Bt w9a _ (T.al r j) s (HXa.o.2.2.2.2.2.reads hzj) (by omega));have HGj:=bH (HGs.o j);have HNj:=bH (HNx.o j);have Hsz:=bH (By (T.al r j));go_upto_if 83 with (go_at_call 151;refine HSg.o.mono ?_;rintro r4 w10 ⟨rfl,hx4⟩);replace HXa:=bH (bI (HXa.o.1.keep hx4) (bI (HXa.o.2.1.trans hx4.none) (bI (HXa.o.2.2.1.keep hx4) (bI (HXa.o.2.2.2.1.keep hx4) (bI (HXa.o.2.2.2.2.1.keep hx4) (HXa.o.2.2.2.2.2.keep hx4))))));clear hx4 x0 x1 x2 HSg;generalize (T.al r j).num.sign=sg at *;by_cases hsg:sg=0
      ·have HP:=bH (HXa.o.1.congr (g:=fun c=>if c<j+1 then DF p T l (i+1) c else DF p T l i c) (fun c _=>by
        by_cases e:c=j
        ·rw[e,if_neg (by omega),if_pos (by omega),HNj.o,HGj.o,Hsz.o.1 hsg];grind
        by_cases e2:c<j
        ·rw[if_pos e2,if_pos (by omega)]
        rw[if_neg e2,if_neg (by omega)]))
       subst hsg;go_wp2;go_roundg (T.n-(j+1));case measure=>omega
       case rel=>exact⟨j+1,by omega,rfl,by go_num,HP.o,HXa.o.2.1,HXa.o.2.2.1,HXa.o.2.2.2.1⟩
      have hs1:(sg == 0)=false:=(by simpa using hsg);have hs2:(sg != 0)=true:=(by simpa using hsg);obtain⟨x0,x1,x2,-⟩:=HXa.o.2.2.2.2.1.facts;obtain⟨y0,y1,y2,-⟩:=HXa.o.2.2.1.facts;have HB:=bH HXa.o.1;obtain⟨on,oa,ol,oc,oa',ol',oc',o0,o1,o2,hoq⟩:=HB.o.cells j hjn;rw[if_neg (by omega)] at hoq;have hzz:=HSz.o.1 j hjn;have HM:=bH (fun W (hW:XF w10 W)=>DW W _ _ (K:Rat) (T.al r j) s ((HXa.o.2.2.2.1.keep hW).reads (HKz.o.mono h2s)) ((HXa.o.2.2.2.2.2.keep hW).reads hzj) (by omega) (by omega));have HSu:=bH (fun W u (hW:XF w10 W) (hu:AN W u ((K:Rat)*T.al r j))=>Fh W _ u (DF p T l i j) _ (1+i*(s+3)+(2+s)) ((hoq.keep hW).reads (hzz.mono (by omega))) (hu.reads ((HKz.o.mul hzj).mono (by omega))) (by omega) (by have:=HSz.o.2;omega));have HNx2:=bH (show ∀c,(if c=j then DF p T l i j-(K:Rat)*T.al r j else if c<j then DF p T l (i+1) c else DF p T l i c)=(if c<j+1 then DF p T l (i+1) c else DF p T l i c) from fun c=>by
       by_cases e:c=j
       ·rw[if_pos e,e,if_pos (by omega),HNj.o,HGj.o];grind
       rw[if_neg e];by_cases e2:c<j
       ·rw[if_pos e2,if_pos (by omega)]
       rw[if_neg e2,if_neg (by omega)])
      clear hoq hzz;replace y0:=cq y0;replace y1:=cq y1;replace y2:=cq y2;replace x0:=cq x0;replace x1:=cq x1;replace x2:=cq x2;replace o0:=cq o0;replace o1:=cq o1;replace o2:=cq o2;go_upto_region 15 with fail;refine A4 11 (XF w10) (by kernel_rfl) ((AK.refl _ w10).drew) (fun hHeld=>?_);refine et 0 (h:=(et 1 (h:=(et 2 (h:=(et 3 (h:=(et 4 (h:=(et 5 (h:=(et 6 (h:=(et 7 (h:=?_)))))))))))))));(try go_frame);refine GY 8 (h:=fun K hK=>?_);(go_simp;go_at_call 179;(with_reducible refine (HM.o _ hHeld).mono ?_);rintro q1 w11 ⟨v11,rfl,h11,hx11⟩;have hX1:=hHeld.trans hx11;obtain⟨n11,a11,l11,c11,a11',l11',c11',rfl⟩:=h11.shape);refine hK.o _ _ (hX1) (fun hHeld=>?_);clear hK K;(try go_frame);refine GY 9 (h:=fun K hK=>?_);(go_simp;go_at_call 161;(with_reducible refine (HSu.o _ _ hX1 h11).mono ?_);rintro q2 w12 ⟨v12,rfl,h12,hx12⟩;have hX2:=hX1.trans hx12;obtain⟨n12,a12,l12,c12,a12',l12',c12',rfl⟩:=h12.shape);refine hK.o _ _ (hX2) (fun hHeld=>?_);clear hK K;(try go_frame);refine et 10 (h:=?_);(try go_frame);have HT2:=bH (HB.o.keep hX2);have fz0:=HT2.o.free (j*3);have fz1:=HT2.o.free (j*3+1);have fz2:=HT2.o.free (j*3+2);have t0:=o0 _ hX2;have t1:=o1 _ hX2;have t2:=o2 _ hX2;refine BJ rfl (by kernel_rfl) (fun K hK=>?_);go_simp;refine hK.o _ _ ?_;clear hK K;(try go_frame);refine BL (by kernel_rfl) ?_ _;obtain⟨p1,p2,p3⟩:=HT2.o.put (show j<T.n from hjn) h12;have HP:=bH (bI (p1.congr (fun c _=>HNx2.o c)) (bI ((HXa.o.2.1.trans hX2.none).trans p2) (bI ((HXa.o.2.2.1.keep hX2).ext p2 (fun e=>by have e':kb=B:=e;omega)) ((HXa.o.2.2.2.1.keep hX2).past p3))));clear p1 p2 p3 HT2 fz0 fz1 fz2 t0 t1 t2 o0 o1 o2 x0 x1 x2 y0 y1 y2 h11 h12 hx11 hx12 hX1 hX2 hHeld HM HSu HB HXa;generalize ((w12.setCell ⟨B,j*3,none⟩ (.bool n12)).setCell ⟨B,j*3+1,none⟩ (.slice a12 l12 c12)).setCell ⟨B,j*3+2,none⟩ (.slice a12' l12' c12')=w13 at *;go_wp2;go_roundg (T.n-(j+1));case measure=>omega
      case rel=>exact⟨j+1,by omega,rfl,by go_num,HP.o⟩
     obtain rfl:j=T.n:=(by omega);have HP:=bH (bI (HX.o.1.congr (g:=DF p T l (i+1)) (fun c hc=>by rw[if_pos hc])) HX.o.2.1);clear HX;go_wp2;go_roundg ((AV p l).length-(i+1));case measure=>omega
     case rel=>exact⟨i+1,by omega,rfl,by go_num,HP.o⟩
   obtain rfl:i=(AV p l).length:=(by omega);have HHr:=bH (HH.o.keep HX.o.2.2.2);have HNo:=bH (bI (OT HHr.o.vars.shape) (OT HHr.o.rows.shape));obtain⟨vo,vc,e1,-,-,-⟩:=HHr.o.vars.shape;obtain⟨uo,uc,e2⟩:=HHr.o.rest.u.shape;have hmu:=HHr.o.hm;have HM0:=bH HHr.o.mid;have HRa:=bH (HM0.o.keep (((AK.refl (fun _=>False) wr).alloc (.cells #[.int .i64 ((p.vars.length+us.length:Nat):Int)] 3)).drew));have hbox:=HHr.o.box;have hnt:¬V.ba.ownBlock=some tb:=fun e=>HM0.o.ntb ⟨.inl e⟩ rfl;have c0:=BX (S:=fun k=>V.ba.ownBlock=some k) (show wr.cell? ⟨tb,0,none⟩=some (.slice vo p.vars.length vc) from (AA (x:=V.pv) hbox 0 rfl).trans (congrArg some e1)) hnt;have c2:=BX (S:=fun k=>V.ba.ownBlock=some k) (show wr.cell? ⟨tb,2,none⟩=some (.slice uo us.length uc) from (AA (x:=V.u) hbox 2 rfl).trans (congrArg some e2)) hnt;have c4:=BX (S:=fun k=>V.ba.ownBlock=some k) (AA hbox 4 rfl) hnt;have hnn:=HNn.o;have hw18:IntKind.i64.wrap ((p.vars.length:Int)+(us.length:Int))=((p.vars.length+us.length:Nat):Int):=by
    rw[show ((p.vars.length+us.length:Nat):Int)=(p.vars.length:Int)+(us.length:Int) by omega];exact IntWalk.i64_in _ (by omega)
   have HE1:=bH (bI e1 (bI e2 (bI hmu hnn)));clear hbox hnt e1 e2 hnn hmu;go_upto_region 18 with fail;refine Dq 21 (AK (fun k=>V.ba.ownBlock=some k) wr) (by kernel_rfl) ((AK.refl _ wr).drew) (fun hHeld=>?_);refine mu 0 (h:=(mu 1 (h:=(mu 2 (h:=(mu 3 (h:=(mu 4 (h:=(mu 5 (h:=(mu 6 (h:=(mu 7 (h:=(mu 8 (h:=(mu 9 (h:=(mu 10 (h:=(mu 11 (h:=(mu 12 (h:=(mu 13 (h:=(mu 14 (h:=(mu 15 (h:=(mu 16 (h:=?_)))))))))))))))))))))))))))))))));(try go_frame);refine Ez 17 (h:=fun K hK=>?_);go_simp;refine hK.o _ _ (hHeld.alloc _) (fun hHeld=>?_);clear hK K;(try go_frame);refine Ez 18 (h:=fun K hK=>?_);refine B0 rfl _ _ rfl underlying45 Tryz.infoInt1 rfl (E5 0) (by decide) (by decide) w0.heap.size (V.ba) (T.m) (Ex T.m T.ba) rfl (HRa.o.rest.ba.own.1) (HRa.o.rest.ba.own.2) (Gd _ _) ⟨wr.heap.size,0,none⟩ 1 ([.int .i64 ((p.vars.length+us.length:Nat):Int)]) rfl rfl (Cm _ _ _) (J0 _) (E5 _) (by omega) (HRa.o.size) (fun v18 w18 ha18=>?_);obtain⟨bo18,bc18,rfl⟩:=Ag ha18.own;have HQ18:=bH (HRa.o.appBa ha18);refine hK.o _ _ (hHeld.trans ha18.ext) (fun hHeld=>?_);clear hK K;(try go_frame);refine mu 19 (h:=(mu 20 (h:=?_)));(try go_frame);have t4:=AA HQ18.o.box 4 rfl;have f4:=AC HQ18.o.box 4;refine ml 21 (h:=fun K hK=>?_);go_simp;refine hK.o _ _ ?_;clear hK K;(try go_frame);refine Dr (by kernel_rfl) ?_ _;have HM18:=bH (HQ18.o.store 4 (Ai rfl) { V with ba:=.slice bo18 (T.m+1) bc18 } rfl);have hnb:∀k,w.heap.size<=k->¬V.Big tb T.m k:=fun k hk e=>by have:=HH.o.lt e;omega
   have hlb9:Au wr lb=some (.cells #[.int .i64 l.row,.int .i64 l.var,.bool l.tur] 124 (0,0)):=(HX.o.2.1.blk (AT HC.o.2.1) (fun e=>by have e':lb=B:=e;omega)).trans HC.o.2.1;have hib9:Aj wr ib n1 (.slice a1 m1 c1) (.slice a1' m1' c1'):=HC.o.2.2.2.2.1.ext HX.o.2.1 (fun e=>by have e':ib=B:=e;omega);have hir9:AN wr (.agg #[.bool n1,.slice a1 m1 c1,.slice a1' m1' c1']) (BM p l (AP p.vars.length (BS T.ba T.be T.m)) false):=HC.o.2.2.2.2.2.1.past (fun v l hv=>hv.past HX.o.2.1 (fun k _ e=>by have e':k=B:=e;subst e';exact HC.o.2.2.1.noDig));have hBw2:w2.heap.size<=B:=hBw;have hw2:w.heap.size<=w2.heap.size:=HW20.o.size;have hwib:w.heap.size<=ib:=(by have:=HX23.o.size;omega);have HNb:=bH (bI (hnb lb (by omega)) (bI (hnb ib hwib) (hnb B (by omega))));have HOld:=bH (bI hlb9 (bI hib9 (bI hir9 HX.o.1.cap)));clear hnb hlb9 hib9 hir9;go_upto_region 19 with fail;clear HQ18 HRa HM0 t4 f4 hw18 c0 c2 c4 ha18 hHeld;generalize w18.setCell ⟨tb,4,none⟩ (.slice bo18 (T.m+1) bc18)=w19 at *;obtain⟨mb,es0,clock0,hmp,hmb,-⟩:=HM18.o.rest.mp;have hmp:V.mp=.map (some mb):=hmp;have hlb19:=(HM18.o.ext.blk (AT HOld.o.1) HNb.o.1).trans HOld.o.1;have hnu:¬V.u.ownBlock=some lb:=fun e=>HNb.o.1 (.inr ⟨.inr (.inr (.inr (.inr (.inr (.inl e)))))⟩);have hnt:¬V.u.ownBlock=some tb:=fun e=>HM18.o.ntb ⟨.inr (.inr (.inr (.inr (.inr (.inl e)))))⟩ rfl;have c2:=BX (S:=fun k=>V.u.ownBlock=some k) (AA HM18.o.box 2 rfl) hnt;have c3:=BX (S:=fun k=>V.u.ownBlock=some k) (show w19.cell? ⟨tb,3,none⟩=some (.map (some mb)) from (AA (x:=V.mp) HM18.o.box 3 rfl).trans (congrArg some hmp)) hnt;have hnu2:¬(V.u.ownBlock=some lb∨lb=tb∨lb=mb):=fun e=>by
    rcases e with e|e|e
    ·exact hnu e
    ·exact HNb.o.1 (.inl e)
    exact HNb.o.1 (.inr ⟨.inr (.inr (.inr (.inr (.inr (.inr (.inr (.inl (by rw[e];exact hmp))))))))⟩)
   have l0:=BX (S:=fun k=>V.u.ownBlock=some k) (AA hlb19 0 rfl) hnu;have l1:=BX (S:=fun k=>V.u.ownBlock=some k) (AA hlb19 1 rfl) hnu;have l2:=BX (S:=fun k=>V.u.ownBlock=some k) (AA hlb19 2 rfl) hnu;have m0:=BX (S:=fun k=>V.u.ownBlock=some k∨k=tb∨k=mb) (AA hlb19 0 rfl) hnu2;have m1':=BX (S:=fun k=>V.u.ownBlock=some k∨k=tb∨k=mb) (AA hlb19 1 rfl) hnu2;have m2:=BX (S:=fun k=>V.u.ownBlock=some k∨k=tb∨k=mb) (AA hlb19 2 rfl) hnu2;have HRb:=bH (HM18.o.keep (((AK.refl (fun _=>False) w19).alloc (.cells #[.int .i64 l.row,.int .i64 l.var,.bool l.tur] 124)).drew));have hmu:=HE1.o.2.2.1;have hus:us.length<=1000:=(by omega);clear hlb19 hnu hnt hmu hnu2;refine Ur 15 (AK (fun k=>V.u.ownBlock=some k) w19) (AK (fun k=>V.u.ownBlock=some k∨k=tb∨k=mb) w19) (by kernel_rfl) ((AK.refl _ w19).drew) ((AK.refl _ w19).drew) (fun hHeld hHeld2=>?_);refine nu 0 (h:=(nu 1 (h:=(nu 2 (h:=(nu 3 (h:=(nu 4 (h:=(nf 5 (h:=(nu 6 (h:=(nu 7 (h:=(nu 8 (h:=(nu 9 (h:=(nu 10 (h:=?_)))))))))))))))))))));(try go_frame);refine VS 11 (h:=fun K hK=>?_);go_simp;refine hK.o _ _ (hHeld.alloc _) (hHeld2.alloc _) (fun hHeld hHeld2=>?_);clear hK K;(try go_frame);refine VS 12 (h:=fun K hK=>?_);refine B0 rfl _ _ rfl underlying120 Tryz.infoLimit rfl (CX BB) (by decide) (by decide) w0.heap.size (V.u) (us.length) (us.flatMap Dn) rfl (HRb.o.rest.u.own) (HRb.o.rest.u.noDig) (Ek _) ⟨w19.heap.size,0,none⟩ 1 (Dn l) rfl rfl (Cm _ _ _) (FZ _) (CX _) (by omega) (HRb.o.size) (fun v20 w20 ha20=>?_);obtain⟨bo20,bc20,rfl⟩:=Ag ha20.own;have HQ20:=bH (HRb.o.appU ha20);refine hK.o _ _ (hHeld.trans ha20.ext) (hHeld2.trans (ha20.ext.mono (fun k _ e=>.inl e))) (fun hHeld hHeld2=>?_);clear hK K;(try go_frame);refine nu 13 (h:=(nu 14 (h:=?_)));(try go_frame);have t2:=AA HQ20.o.box 2 rfl;have f2:=AC HQ20.o.box 2;refine nl 15 (h:=fun K hK=>?_);go_simp;refine hK.o _ _ (hHeld2.setCell _ (fun _=>.inr (.inl rfl))) (fun hHeld2=>?_);clear hK K;(try go_frame);have HQ21:=bH (HQ20.o.store 2 (Ai rfl) { V with ba:=.slice bo18 (T.m+1) bc18,u:=.slice bo20 (us.length+1) bc20 } rfl);obtain⟨mb',es,clock,e5,e6,e7,e8,e9⟩:=HQ21.o.rest.mp;have e5':V.mp=.map (some mb'):=e5;rw[hmp] at e5';cases e5';obtain⟨O,hO1,es',clock',hO2,hO3,hO4⟩:=La (b:=mb) e8 e9 l HNew.o;have hme:(Instr.mapEntry 119 (.map (some mb)) (.agg #[.int .i64 l.row,.int .i64 l.var,.bool l.tur])).run prog (w20.setCell ⟨tb,2,none⟩ (.slice bo20 (us.length+1) bc20))=.ok (.tuple #[.bool false,.int .i64 clock]) (setBlock (w20.setCell ⟨tb,2,none⟩ (.slice bo20 (us.length+1) bc20)) mb O):=hO1 _ e7;have hes:(Instr.entryStore 119 (.map (some mb)) (.int .i64 clock) (.bool true)).run prog (setBlock (w20.setCell ⟨tb,2,none⟩ (.slice bo20 (us.length+1) bc20)) mb O)=.ok () (setBlock (setBlock (w20.setCell ⟨tb,2,none⟩ (.slice bo20 (us.length+1) bc20)) mb O) mb (.map es' clock')):=hO2 _ (Mm (AT e7) O);clear hO1 hO2;refine nl 16 (h:=fun K hK=>?_);go_simp;refine hK.o _ _ (hHeld2.setBlock _ _ (fun _=>.inr (.inr rfl))) (fun hHeld2=>?_);clear hK K;(try go_frame);refine nl 17 (h:=fun K hK=>?_);go_simp;refine hK.o _ _ (hHeld2) (fun hHeld2=>?_);clear hK K;(try go_frame);refine nl 18 (h:=fun K hK=>?_);go_simp;refine hK.o _ _ (hHeld2.setBlock _ _ (fun _=>.inr (.inr rfl))) (fun hHeld2=>?_);clear hK K;(try go_frame);refine VI (by kernel_rfl) ?_ _;have HM21:=bH (HQ21.o.setMap (mb:=mb) hmp hmb (show _=setBlock (setBlock _ mb O) mb (.map es' clock') from rfl) hO3 hO4);go_upto_region 20 with fail;clear HQ20 HQ21 HRb t2 f2 hme hes e5 e6 e7 e8 e9 hO3 hO4 c2 c3 l0 l1 l2 m0 m1' m2 ha20 hHeld;generalize setBlock (setBlock (w20.setCell ⟨tb,2,none⟩ (.slice bo20 (us.length+1) bc20)) mb O) mb (.map es' clock')=w21 at *;have hib21:=HOld.o.2.1.ext (HM21.o.ext) HNb.o.2.1;obtain⟨x0,x1,x2,-⟩:=hib21.facts;have hIB0:=HOld.o.2.2.1.past HM21.o.rds;have hnS:∀k,(V.be.ownBlock=some k∨V.al.ownBlock=some k)->V.Big tb T.m k:=fun k e=>by
    rcases e with e|e
    ·exact .inr ⟨.inr (.inr (.inl e))⟩
    exact .inr ⟨.inr (.inr (.inr (.inr (.inl e))))⟩
   have c6:=BX (S:=fun k=>V.be.ownBlock=some k∨V.al.ownBlock=some k) (AA HM21.o.box 6 rfl) (fun e=>by
    rcases e with e|e
    ·exact HM21.o.ntb ⟨.inr (.inr (.inl e))⟩ rfl
    exact HM21.o.ntb ⟨.inr (.inr (.inr (.inr (.inl e))))⟩ rfl)
   have c7:=BX (S:=fun k=>V.be.ownBlock=some k∨V.al.ownBlock=some k) (AA HM21.o.box 7 rfl) (fun e=>by
    rcases e with e|e
    ·exact HM21.o.ntb ⟨.inr (.inr (.inl e))⟩ rfl
    exact HM21.o.ntb ⟨.inr (.inr (.inr (.inr (.inl e))))⟩ rfl)
   replace x0:=BX (S:=fun k=>V.be.ownBlock=some k∨V.al.ownBlock=some k) x0 (fun e=>HNb.o.2.1 (hnS _ e));replace x1:=BX (S:=fun k=>V.be.ownBlock=some k∨V.al.ownBlock=some k) x1 (fun e=>HNb.o.2.1 (hnS _ e));replace x2:=BX (S:=fun k=>V.be.ownBlock=some k∨V.al.ownBlock=some k) x2 (fun e=>HNb.o.2.1 (hnS _ e));have HneA:=bH (fun (k:Nat) (hk:w21.heap.size<=k)=>show ¬V.be.ownBlock=some k from fun e=>by
    have:=HM21.o.rest.old ⟨.inr (.inr (.inl e))⟩;omega)
   have hHd:=(AK.refl (fun _=>False) w21).drew;have HM0d:=bH (HM21.o.keep hHd);replace hIB0:=hIB0.keep hHd;have hBlt9:B<wr.heap.size:=HX.o.1.lt;have HBl:=bH (show w.heap.size<=B/\w0.heap.size<=B/\¬V.All T.m B/\w.heap.size<=wr.heap.size from⟨by omega,Nat.le_trans HH.o.old.size (by omega),fun e=>HNb.o.2.2 (.inr e),HX.o.2.2.2.size⟩);have HEnd:=bH (fun (W:World) (V':Bh) (hM:Dy w.heap.size w0 wr W tb V V' V' T.m T.n (T.m+1) (T.m+1) (T.m+1) { n:=T.n,m:=T.m,ba:=fun i=>if i=T.m then p.vars.length+us.length else T.ba i,fr:=T.fr,be:=fun i=>if i=T.m then BM p l (AP p.vars.length (BS T.ba T.be T.m)) false else T.be i,d:=T.d,al:=fun i=>if i=T.m then DF p T l (AV p l).length else T.al i } (us++[l]) ls (us++[l])) (e1:V'.pv=V.pv) (e2:V'.pr=V.pr) (e3:V'.l=V.l) =>
    show Mq w0 w tb V T p us ls l (.returned (.tuple #[])) W from T7 HH.o HHr.o HX.o.2.2.2 hM e1 e2 e3 HIn.o.2.2 hm9)
   clear hib21 hnS hHd;refine Dq 18 (AK (fun k=>V.be.ownBlock=some k∨V.al.ownBlock=some k) w21) (by kernel_rfl) ((AK.refl _ w21).drew) (fun hHeld=>?_);refine mu 0 (h:=(mf 1 (h:=(mu 2 (h:=(mu 3 (h:=(mu 4 (h:=(mu 5 (h:=(mu 6 (h:=(mu 9 (h:=(mu 10 (h:=(mu 11 (h:=(mu 12 (h:=(mu 13 (h:=?_)))))))))))))))))))))));(try go_frame);refine SG 7 14 rfl rfl (by kernel_rfl) (fun K hK=>?_) (fun K hK=>?_)
   ·go_simp;have hxg1:XF (w21.drew) (((w21).alloc (.cells #[.bool n1,.slice a1 m1 c1,.slice a1' m1' c1'] 34)).drew):=(by first|exact ((AK.refl (fun _=>False) (w21.drew)).alloc _)|exact ((AK.refl (fun _=>False) (w21)).alloc _).drew);have HM1:=bH (HM0d.o.keep hxg1);have hIB1:=hIB0.keep hxg1;have hsrc7:∀(j:Nat) (u:Value),([.bool n1,.slice a1 m1 c1,.slice a1' m1' c1']:List Value)[j]?=some u->(((w21).alloc (.cells #[.bool n1,.slice a1 m1 c1,.slice a1' m1' c1'] 34)).drew).cell? ((⟨w21.heap.size,0,none⟩:Addr).add j)=some u:=Cm _ _ _;refine hK.o _ _ (hHeld.alloc _) (fun hHeld=>?_);clear hK K;(try go_frame);refine SG 8 14 rfl rfl (by kernel_rfl) (fun K hK=>?_) (fun K hK=>?_)
    ·obtain⟨xs,hx1,hx2,hx3,hx4⟩:=HM1.o.rest.be.own;refine B0 rfl _ _ rfl underlying35 Tryz.infoRat rfl (CL ⟨false,none,0,0,none,0,0⟩) (by decide) (by decide) w0.heap.size (V.be) (T.m) (xs) rfl (hx1) (hx2) (hx3) ⟨w21.heap.size,0,none⟩ 1 (BW.cells ⟨n1,a1,m1,c1,a1',m1',c1'⟩) rfl rfl (hsrc7) (En _) (CL _) (by omega) (HM1.o.size) (fun v22 w22 ha22=>?_);obtain⟨bo22,bc22,rfl⟩:=Ag ha22.own;have HM22:=bH (HM1.o.appBe (x:=⟨n1,a1,m1,c1,a1',m1',c1'⟩) ha22 hx4 hx1.1 hIB1);refine hK.o _ _ (hHeld.trans (ha22.ext.mono (fun k _ e=>.inl e))) (fun hHeld=>?_);clear hK K;(try go_frame);refine Ez 14 (h:=fun K hK=>?_);go_simp;have hxg3:XF w22 (w22.alloc (.cells #[.slice (some ⟨B,0,none⟩) T.n T.n] 35)):=(by first|exact ((AK.refl (fun _=>False) w22).alloc _)|exact ((AK.refl (fun _=>False) (w22)).alloc _).drew);have HM3:=bH (HM22.o.keep hxg3);have hIB3:=(hIB1.past ha22.rds).keep hxg3;have hsrc14:∀(j:Nat) (u:Value),([.slice (some ⟨B,0,none⟩) T.n T.n]:List Value)[j]?=some u->(w22.alloc (.cells #[.slice (some ⟨B,0,none⟩) T.n T.n] 35)).cell? ((⟨w22.heap.size,0,none⟩:Addr).add j)=some u:=Bz _ _ _;refine hK.o _ _ (hHeld.alloc _) (fun hHeld=>?_);clear hK K;(try go_frame);refine Ez 15 (h:=fun K hK=>?_);refine B0 rfl _ _ rfl underlying54 Tryz.infoRats rfl (Eh none 0 0) (by decide) (by decide) w0.heap.size (V.al) (T.m) (Eu T.m (fun i=>.slice (some ⟨V.rb i,0,none⟩) T.n T.n)) rfl (HM3.o.rest.al.own) (HM3.o.rest.aln) (Hw _ _ _ _) ⟨w22.heap.size,0,none⟩ 1 ([.slice (some ⟨B,0,none⟩) T.n T.n]) rfl rfl (hsrc14) (Jc _ _ _) (Eh _ _ _) (by omega) (HM3.o.size) (fun v24 w24 ha24=>?_);obtain⟨bo24,bc24,rfl⟩:=Ag ha24.own;have HM24:=bH (HM3.o.appAl ha24 (HOld.o.2.2.2.past HM3.o.ext HNb.o.2.2 HM3.o.rds) HBl.o.2.2.2 HBl.o.1 HBl.o.2.1 (fun e=>(HM3.o.lies B e).elim (fun e2=>HNb.o.2.2 e2) (fun e2=>absurd e2 (Nat.not_le_of_lt hBlt9))));refine hK.o _ _ (hHeld.trans (ha24.ext.mono (fun k _ e=>.inr e))) (fun hHeld=>?_);clear hK K;(try go_frame);refine mu 16 (h:=(mu 17 (h:=?_)));(try go_frame);have t6:=AA HM24.o.box 6 rfl;have f6:=AC HM24.o.box 6;refine ml 18 (h:=fun K hK=>?_);go_simp;refine hK.o _ _ ?_;clear hK K;(try go_frame);refine ml 19 (h:=fun K hK=>?_);go_simp;refine hK.o _ _ ?_;clear hK K;(try go_frame);refine ml 20 (h:=fun K hK=>?_);go_simp;refine hK.o _ _ ?_;clear hK K;(try go_frame);have HM25:=bH (HM24.o.store 6 (Ai rfl) { V with ba:=.slice bo18 (T.m+1) bc18,u:=.slice bo20 (us.length+1) bc20,be:=.slice bo22 (T.m+1) bc22 } rfl);have t7:=AA HM25.o.box 7 rfl;have f7:=AC HM25.o.box 7;refine ml 21 (h:=fun K hK=>?_);go_simp;refine hK.o _ _ ?_;clear hK K;(try go_frame);refine Dr (by kernel_rfl) ?_ _;have HM26:=bH (HM25.o.store 7 (Ai rfl) { V with ba:=.slice bo18 (T.m+1) bc18,u:=.slice bo20 (us.length+1) bc20,be:=.slice bo22 (T.m+1) bc22,al:=.slice bo24 (T.m+1) bc24,rb:=fun i=>if i=T.m then B else V.rb i } rfl);have HQe:=bH (HEnd.o _ _ HM26.o rfl rfl rfl);clear HM24 HM25 t6 f6 t7 f7 HM26 ha24;generalize ((w24.setCell ⟨tb,6,none⟩ (.slice bo22 (T.m+1) bc22)).setCell ⟨tb,7,none⟩ (.slice bo24 (T.m+1) bc24))=w26 at *;go_wp2;exact bodyPost_end (v:=.tuple #[]) (by simp[results,results163,go_sem]) rfl HQe.o
    go_simp;have hxg2:XF (((w21).alloc (.cells #[.bool n1,.slice a1 m1 c1,.slice a1' m1' c1'] 34)).drew) (((((w21).alloc (.cells #[.bool n1,.slice a1 m1 c1,.slice a1' m1' c1'] 34))).alloc (.cells #[.slice (some ⟨B,0,none⟩) T.n T.n] 35)).drew):=(by first|exact ((AK.refl (fun _=>False) (((w21).alloc (.cells #[.bool n1,.slice a1 m1 c1,.slice a1' m1' c1'] 34)).drew)).alloc _)|exact ((AK.refl (fun _=>False) (((w21).alloc (.cells #[.bool n1,.slice a1 m1 c1,.slice a1' m1' c1'] 34)))).alloc _).drew);have HM2:=bH (HM1.o.keep hxg2);have hIB2:=hIB1.keep hxg2;replace hsrc7:=Kz hsrc7 hxg2;have hsrc14:∀(j:Nat) (u:Value),([.slice (some ⟨B,0,none⟩) T.n T.n]:List Value)[j]?=some u->(((((w21).alloc (.cells #[.bool n1,.slice a1 m1 c1,.slice a1' m1' c1'] 34))).alloc (.cells #[.slice (some ⟨B,0,none⟩) T.n T.n] 35)).drew).cell? ((⟨w21.heap.size+1,0,none⟩:Addr).add j)=some u:=(by rw[show w21.heap.size+1=(((w21).alloc (.cells #[.bool n1,.slice a1 m1 c1,.slice a1' m1' c1'] 34))).heap.size by simp];exact Cm _ _ _);refine hK.o _ _ (hHeld.alloc _) (fun hHeld=>?_);clear hK K;(try go_frame);refine Ez 8 (h:=fun K hK=>?_);obtain⟨xs,hx1,hx2,hx3,hx4⟩:=HM2.o.rest.be.own;refine B0 rfl _ _ rfl underlying35 Tryz.infoRat rfl (CL ⟨false,none,0,0,none,0,0⟩) (by decide) (by decide) w0.heap.size (V.be) (T.m) (xs) rfl (hx1) (hx2) (hx3) ⟨w21.heap.size,0,none⟩ 1 (BW.cells ⟨n1,a1,m1,c1,a1',m1',c1'⟩) rfl rfl (hsrc7) (En _) (CL _) (by omega) (HM2.o.size) (fun v22 w22 ha22=>?_);obtain⟨bo22,bc22,rfl⟩:=Ag ha22.own;have HM22:=bH (HM2.o.appBe (x:=⟨n1,a1,m1,c1,a1',m1',c1'⟩) ha22 hx4 hx1.1 hIB2);replace hsrc14:=Kl hsrc14 ha22.ext (fun e=>HneA.o _ (by first|exact Nat.le_refl _|exact Nat.le_succ _) e);refine hK.o _ _ (hHeld.trans (ha22.ext.mono (fun k _ e=>.inl e))) (fun hHeld=>?_);clear hK K;(try go_frame);refine Ez 15 (h:=fun K hK=>?_);refine B0 rfl _ _ rfl underlying54 Tryz.infoRats rfl (Eh none 0 0) (by decide) (by decide) w0.heap.size (V.al) (T.m) (Eu T.m (fun i=>.slice (some ⟨V.rb i,0,none⟩) T.n T.n)) rfl (HM22.o.rest.al.own) (HM22.o.rest.aln) (Hw _ _ _ _) ⟨w21.heap.size+1,0,none⟩ 1 ([.slice (some ⟨B,0,none⟩) T.n T.n]) rfl rfl (hsrc14) (Jc _ _ _) (Eh _ _ _) (by omega) (HM22.o.size) (fun v24 w24 ha24=>?_);obtain⟨bo24,bc24,rfl⟩:=Ag ha24.own;have HM24:=bH (HM22.o.appAl ha24 (HOld.o.2.2.2.past HM22.o.ext HNb.o.2.2 HM22.o.rds) HBl.o.2.2.2 HBl.o.1 HBl.o.2.1 (fun e=>(HM22.o.lies B e).elim (fun e2=>HNb.o.2.2 e2) (fun e2=>absurd e2 (Nat.not_le_of_lt hBlt9))));refine hK.o _ _ (hHeld.trans (ha24.ext.mono (fun k _ e=>.inr e))) (fun hHeld=>?_);clear hK K;(try go_frame);refine mu 16 (h:=(mu 17 (h:=?_)));(try go_frame);have t6:=AA HM24.o.box 6 rfl;have f6:=AC HM24.o.box 6;refine ml 18 (h:=fun K hK=>?_);go_simp;refine hK.o _ _ ?_;clear hK K;(try go_frame);refine ml 19 (h:=fun K hK=>?_);go_simp;refine hK.o _ _ ?_;clear hK K;(try go_frame);refine ml 20 (h:=fun K hK=>?_);go_simp;refine hK.o _ _ ?_;clear hK K;(try go_frame);have HM25:=bH (HM24.o.store 6 (Ai rfl) { V with ba:=.slice bo18 (T.m+1) bc18,u:=.slice bo20 (us.length+1) bc20,be:=.slice bo22 (T.m+1) bc22 } rfl);have t7:=AA HM25.o.box 7 rfl;have f7:=AC HM25.o.box 7;refine ml 21 (h:=fun K hK=>?_);go_simp;refine hK.o _ _ ?_;clear hK K;(try go_frame);refine Dr (by kernel_rfl) ?_ _;have HM26:=bH (HM25.o.store 7 (Ai rfl) { V with ba:=.slice bo18 (T.m+1) bc18,u:=.slice bo20 (us.length+1) bc20,be:=.slice bo22 (T.m+1) bc22,al:=.slice bo24 (T.m+1) bc24,rb:=fun i=>if i=T.m then B else V.rb i } rfl);have HQe:=bH (HEnd.o _ _ HM26.o rfl rfl rfl);clear HM24 HM25 t6 f6 t7 f7 HM26 ha24;generalize ((w24.setCell ⟨tb,6,none⟩ (.slice bo22 (T.m+1) bc22)).setCell ⟨tb,7,none⟩ (.slice bo24 (T.m+1) bc24))=w26 at *;go_wp2;exact bodyPost_end (v:=.tuple #[]) (by simp[results,results163,go_sem]) rfl HQe.o
   go_simp;have hxg1:XF (w21.drew) (((w21).alloc (.cells #[.slice (some ⟨B,0,none⟩) T.n T.n] 35)).drew):=(by first|exact ((AK.refl (fun _=>False) (w21.drew)).alloc _)|exact ((AK.refl (fun _=>False) (w21)).alloc _).drew);have HM1:=bH (HM0d.o.keep hxg1);have hIB1:=hIB0.keep hxg1;have hsrc14:∀(j:Nat) (u:Value),([.slice (some ⟨B,0,none⟩) T.n T.n]:List Value)[j]?=some u->(((w21).alloc (.cells #[.slice (some ⟨B,0,none⟩) T.n T.n] 35)).drew).cell? ((⟨w21.heap.size,0,none⟩:Addr).add j)=some u:=Cm _ _ _;refine hK.o _ _ (hHeld.alloc _) (fun hHeld=>?_);clear hK K;(try go_frame);refine Ez 7 (h:=fun K hK=>?_);go_simp;have hxg2:XF (((w21).alloc (.cells #[.slice (some ⟨B,0,none⟩) T.n T.n] 35)).drew) (((((w21).alloc (.cells #[.slice (some ⟨B,0,none⟩) T.n T.n] 35))).alloc (.cells #[.bool n1,.slice a1 m1 c1,.slice a1' m1' c1'] 34)).drew):=(by first|exact ((AK.refl (fun _=>False) (((w21).alloc (.cells #[.slice (some ⟨B,0,none⟩) T.n T.n] 35)).drew)).alloc _)|exact ((AK.refl (fun _=>False) (((w21).alloc (.cells #[.slice (some ⟨B,0,none⟩) T.n T.n] 35)))).alloc _).drew);have HM2:=bH (HM1.o.keep hxg2);have hIB2:=hIB1.keep hxg2;replace hsrc14:=Kz hsrc14 hxg2;have hsrc7:∀(j:Nat) (u:Value),([.bool n1,.slice a1 m1 c1,.slice a1' m1' c1']:List Value)[j]?=some u->(((((w21).alloc (.cells #[.slice (some ⟨B,0,none⟩) T.n T.n] 35))).alloc (.cells #[.bool n1,.slice a1 m1 c1,.slice a1' m1' c1'] 34)).drew).cell? ((⟨w21.heap.size+1,0,none⟩:Addr).add j)=some u:=(by rw[show w21.heap.size+1=(((w21).alloc (.cells #[.slice (some ⟨B,0,none⟩) T.n T.n] 35))).heap.size by simp];exact Cm _ _ _);refine hK.o _ _ (hHeld.alloc _) (fun hHeld=>?_);clear hK K;(try go_frame);refine Ez 8 (h:=fun K hK=>?_);obtain⟨xs,hx1,hx2,hx3,hx4⟩:=HM2.o.rest.be.own;refine B0 rfl _ _ rfl underlying35 Tryz.infoRat rfl (CL ⟨false,none,0,0,none,0,0⟩) (by decide) (by decide) w0.heap.size (V.be) (T.m) (xs) rfl (hx1) (hx2) (hx3) ⟨w21.heap.size+1,0,none⟩ 1 (BW.cells ⟨n1,a1,m1,c1,a1',m1',c1'⟩) rfl rfl (hsrc7) (En _) (CL _) (by omega) (HM2.o.size) (fun v22 w22 ha22=>?_);obtain⟨bo22,bc22,rfl⟩:=Ag ha22.own;have HM22:=bH (HM2.o.appBe (x:=⟨n1,a1,m1,c1,a1',m1',c1'⟩) ha22 hx4 hx1.1 hIB2);replace hsrc14:=Kl hsrc14 ha22.ext (fun e=>HneA.o _ (by first|exact Nat.le_refl _|exact Nat.le_succ _) e);refine hK.o _ _ (hHeld.trans (ha22.ext.mono (fun k _ e=>.inl e))) (fun hHeld=>?_);clear hK K;(try go_frame);refine Ez 15 (h:=fun K hK=>?_);refine B0 rfl _ _ rfl underlying54 Tryz.infoRats rfl (Eh none 0 0) (by decide) (by decide) w0.heap.size (V.al) (T.m) (Eu T.m (fun i=>.slice (some ⟨V.rb i,0,none⟩) T.n T.n)) rfl (HM22.o.rest.al.own) (HM22.o.rest.aln) (Hw _ _ _ _) ⟨w21.heap.size,0,none⟩ 1 ([.slice (some ⟨B,0,none⟩) T.n T.n]) rfl rfl (hsrc14) (Jc _ _ _) (Eh _ _ _) (by omega) (HM22.o.size) (fun v24 w24 ha24=>?_);obtain⟨bo24,bc24,rfl⟩:=Ag ha24.own;have HM24:=bH (HM22.o.appAl ha24 (HOld.o.2.2.2.past HM22.o.ext HNb.o.2.2 HM22.o.rds) HBl.o.2.2.2 HBl.o.1 HBl.o.2.1 (fun e=>(HM22.o.lies B e).elim (fun e2=>HNb.o.2.2 e2) (fun e2=>absurd e2 (Nat.not_le_of_lt hBlt9))));refine hK.o _ _ (hHeld.trans (ha24.ext.mono (fun k _ e=>.inr e))) (fun hHeld=>?_);clear hK K;(try go_frame);refine mu 16 (h:=(mu 17 (h:=?_)));(try go_frame);have t6:=AA HM24.o.box 6 rfl;have f6:=AC HM24.o.box 6;refine ml 18 (h:=fun K hK=>?_);go_simp;refine hK.o _ _ ?_;clear hK K;(try go_frame);refine ml 19 (h:=fun K hK=>?_);go_simp;refine hK.o _ _ ?_;clear hK K;(try go_frame);refine ml 20 (h:=fun K hK=>?_);go_simp;refine hK.o _ _ ?_;clear hK K;(try go_frame);have HM25:=bH (HM24.o.store 6 (Ai rfl) { V with ba:=.slice bo18 (T.m+1) bc18,u:=.slice bo20 (us.length+1) bc20,be:=.slice bo22 (T.m+1) bc22 } rfl);have t7:=AA HM25.o.box 7 rfl;have f7:=AC HM25.o.box 7;refine ml 21 (h:=fun K hK=>?_);go_simp;refine hK.o _ _ ?_;clear hK K;(try go_frame);refine Dr (by kernel_rfl) ?_ _;have HM26:=bH (HM25.o.store 7 (Ai rfl) { V with ba:=.slice bo18 (T.m+1) bc18,u:=.slice bo20 (us.length+1) bc20,be:=.slice bo22 (T.m+1) bc22,al:=.slice bo24 (T.m+1) bc24,rb:=fun i=>if i=T.m then B else V.rb i } rfl);have HQe:=bH (HEnd.o _ _ HM26.o rfl rfl rfl);clear HM24 HM25 t6 f6 t7 f7 HM26 ha24;generalize ((w24.setCell ⟨tb,6,none⟩ (.slice bo22 (T.m+1) bc22)).setCell ⟨tb,7,none⟩ (.slice bo24 (T.m+1) bc24))=w26 at *;go_wp2;exact bodyPost_end (v:=.tuple #[]) (by simp[results,results163,go_sem]) rfl HQe.o
def MQ(w0:World) (p:AH) (r:Ending) (w':World):Prop:=∃tb V,r=.returned (.pointer (some ⟨tb,0,none⟩))/\Di w0 w' tb V (Ke p) p [] (GA p)
theorem Qd(w0:World) (pv:Value) (p:AH) (hp:Ba w0 pv p) (hval:AU p=true) (hn:p.vars.length<=1000) (hm:p.rows.length<=10000):Calls prog 44 #[pv] w0 (MQ w0 p):=by
 obtain⟨vv,rv,rfl,hvars,hrows⟩:=hp;obtain⟨vo,vc,rfl,-,-,-⟩:=hvars.shape;obtain⟨ro,rc,rfl,-,-,-⟩:=hrows.shape;have hmm:=@run_makeMap prog;have HV:=bH (bI hvars (bI hrows hval));clear hvars hrows hval;obtain⟨n,hn'⟩:=bN p.vars.length;have HN:=bH hn';rw[hn'] at hn HV ⊢;clear hn';obtain⟨m,hm'⟩:=bN p.rows.length;have HMr:=bH hm';rw[hm'] at hm HV ⊢;clear hm';have HX:Hid (Bl w0 (((w0.alloc (.cells #[.slice vo n vc,.slice ro m rc] 25)).alloc (.map #[] 0)).alloc (.cells #[.slice vo n vc,.slice ro m rc,.slice none 0 0,.map (some (w0.heap.size+1)),.slice none 0 0,.slice none 0 0,.slice none 0 0,.slice none 0 0,.slice none 0 0,.slice none 0 0] 122)) w0.heap.size (w0.heap.size+1+1) (w0.heap.size+1) p (.slice vo n vc) (.slice ro m rc) (.slice none 0 0) (.slice none 0 0) (.slice none 0 0) (.slice none 0 0) (.slice none 0 0) (.slice none 0 0) 0 0 []):=bH (by
  obtain⟨b0,b1,b2,hx⟩:=RU w0 (.cells #[.slice vo n vc,.slice ro m rc] 25) (.map #[] 0) (.cells #[.slice vo n vc,.slice ro m rc,.slice none 0 0,.map (some (w0.heap.size+1)),.slice none 0 0,.slice none 0 0,.slice none 0 0,.slice none 0 0,.slice none 0 0,.slice none 0 0] 122);refine⟨b2,Ae b2 (fun u hu d e=>?_),by omega,⟨w0.heap.size+1,#[],0,rfl,by omega,b1,rfl,stamped_empty 0⟩,.inl ⟨rfl,rfl⟩,.inl ⟨rfl,rfl⟩,⟨World.ownsRow_nil _ _ _ 3,fun g hg=>by cases hg⟩,hx,b0⟩;simp only[List.mem_cons,List.not_mem_nil,or_false] at hu;rcases hu with rfl|rfl|rfl|rfl|rfl|rfl|rfl|rfl|rfl|rfl<;>cases e)
 go_enter func44,ntmps44;go_upto_region 2 with fail;generalize ((w0.alloc (.cells #[.slice vo n vc,.slice ro m rc] 25)).alloc (.map #[] 0)).alloc (.cells #[.slice vo n vc,.slice ro m rc,.slice none 0 0,.map (some (w0.heap.size+1)),.slice none 0 0,.slice none 0 0,.slice none 0 0,.slice none 0 0,.slice none 0 0,.slice none 0 0] 122)=w1 at *;generalize w0.heap.size+1+1=tb at *;generalize w0.heap.size+1=mb at *;obtain⟨pb,hpb⟩:=bN w0.heap.size;have HX':=bH (show Bl w0 w1 pb tb mb p (.slice vo n vc) (.slice ro m rc) (.slice none 0 0) (.slice none 0 0) (.slice none 0 0) (.slice none 0 0) (.slice none 0 0) (.slice none 0 0) 0 0 [] from hpb▸HX.o);rw[hpb];clear HX hmm hpb;have b0:=AA HX'.o.pbx 0 rfl;go_wp2_with fail;clear b0;go_loopg [17,4,5] n (fun gg v17 v4 v5 wr=>∃(i:Nat) (fr d:Value),i<=n/\gg=n-i/\v17=.int .i64 i/\Bl w0 wr pb tb mb p (.slice vo n vc) (.slice ro m rc) fr d (.slice none 0 0) fr d (.slice none 0 0) i i []);case atStart=>exact⟨0,_,_,Nat.zero_le _,rfl,rfl,HX'.o⟩
 case round =>
  clear HX';obtain⟨i,fr,d,hi,rfl,rfl,hs⟩:=hrel;have HM:=bH hs;clear hs;by_cases hin:i<n
  ·have i0:(i:Int)<(n:Int):=(by omega);have i1:(0:Int)<=(i:Int):=(by omega);have hrow:=HV.o.1.keep HM.o.old;obtain⟨b,off,rfl,hlt,e0,e1,e2,e3,e4,-⟩:=hrow.atp i (by rw[HN.o];exact hin);clear hrow;obtain⟨-,-,q1,q2⟩:=Dv (CZ HV.o.2.2 (show i<p.vars.length by rw[HN.o];exact hin));have HF:=bH (fun W=>show Calls prog 86 #[.int .i64 (p.v i).co] W (Aw W (Uj p i)) from Bx W (p.v i).co (by omega) (by omega));have hb1:=IK.new wr (p.v i);have hx1:=(AK.refl (fun _=>False) wr).alloc (.cells #[.int .i64 (p.v i).lo,.int .i64 (p.v i).up,.bool (p.v i).op,.bool (p.v i).ig,.int .i64 (p.v i).co] 77);have HM0:=bH (HM.o.keep hx1);clear hx1 HM;go_upto_region 5 with fail;generalize wr.alloc (.cells #[.int .i64 (p.v i).lo,.int .i64 (p.v i).up,.bool (p.v i).op,.bool (p.v i).ig,.int .i64 (p.v i).co] 77)=w5 at *;generalize wr.heap.size=vb at *;clear e0 e1 e2 e3 e4;have hS:∀{k:Nat} {T:TypeId},DT w5 k T->T≠3->T≠34->¬(fr.ownBlock=some k∨d.ownBlock=some k):=fun hk h1 h2 e=>by
    rcases e with e|e
    ·exact DT.ne hk (HM0.o.fr.typ _ e) h1 rfl
    exact DT.ne hk (HM0.o.d.typ _ e) h2 rfl
   have c4:=BX (S:=fun k=>fr.ownBlock=some k∨d.ownBlock=some k) hb1.facts.2.2.2.2 (hS ⟨_,hb1⟩ (by decide) (by decide));have c5:=BX (S:=fun k=>fr.ownBlock=some k∨d.ownBlock=some k) (AA HM0.o.box 5 rfl) (hS ⟨_,HM0.o.box⟩ (by decide) (by decide));have c8:=BX (S:=fun k=>fr.ownBlock=some k∨d.ownBlock=some k) (AA HM0.o.box 8 rfl) (hS ⟨_,HM0.o.box⟩ (by decide) (by decide));generalize (p.v i).co=co at *;clear hb1 hS;refine Dq 20 (AK (fun k=>fr.ownBlock=some k∨d.ownBlock=some k) w5) (by kernel_rfl) ((AK.refl _ w5).drew) (fun hHeld=>?_);refine mu 0 (h:=(mf 1 (h:=(mu 2 (h:=(mu 3 (h:=(mu 4 (h:=(mu 5 (h:=(mu 6 (h:=(mu 9 (h:=(mu 10 (h:=(mu 11 (h:=(mu 12 (h:=(mu 13 (h:=(mu 14 (h:=?_)))))))))))))))))))))))));(try go_frame);refine Ez 7 (h:=fun K hK=>?_);go_simp;have HM1:=bH (HM0.o.keep (((AK.refl (fun _=>False) w5).alloc (.cells #[.int .i64 i] 3)).drew));refine hK.o _ _ (hHeld.alloc _) (fun hHeld=>?_);clear hK K;(try go_frame);refine Ez 8 (h:=fun K hK=>?_);refine B0 rfl _ _ rfl underlying45 Tryz.infoInt1 rfl (E5 0) (by decide) (by decide) w0.heap.size (fr) (i) (Ex i (fun k=>k)) rfl (HM1.o.fr.own.1) (HM1.o.fr.own.2) (Gd _ _) ⟨w5.heap.size,0,none⟩ 1 ([.int .i64 i]) rfl rfl (Cm _ _ _) (J0 _) (E5 _) (by omega) (HM1.o.old.size) (fun v8 w8 ha8=>?_);obtain⟨bo8,bc8,rfl⟩:=Ag ha8.own;have HM2:=bH (HM1.o.appFr ha8);refine hK.o _ _ (hHeld.trans (ha8.ext.mono (fun k _ e=>.inl e))) (fun hHeld=>?_);clear hK K;(try go_frame);refine Ez 15 (h:=fun K hK=>?_);go_simp;go_at_call 86;(with_reducible refine (HF.o _).mono ?_);rintro q1 w11 ⟨v11,rfl,h11,hx11⟩;obtain⟨n11,a11,l11,c11,a11',l11',c11',rfl⟩:=h11.shape;have HM3:=bH (HM2.o.keep hx11);refine hK.o _ _ (hHeld.trans hx11.none) (fun hHeld=>?_);clear hK K;(try go_frame);refine Ez 16 (h:=fun K hK=>?_);go_simp;have hxy:=(AK.refl (fun _=>False) w11).alloc (.cells #[.bool n11,.slice a11 l11 c11,.slice a11' l11' c11'] 34);have HM4:=bH (HM3.o.keep hxy);have h12:=h11.keep hxy;refine hK.o _ _ (hHeld.alloc _) (fun hHeld=>?_);clear hK K;(try go_frame);refine Ez 17 (h:=fun K hK=>?_);obtain⟨xs,hx1,hx2,hx3,hx4⟩:=HM4.o.d.own;refine B0 rfl _ _ rfl underlying35 Tryz.infoRat rfl (CL ⟨false,none,0,0,none,0,0⟩) (by decide) (by decide) w0.heap.size (d) (i) (xs) rfl (hx1) (hx2) (hx3) ⟨w11.heap.size,0,none⟩ 1 (BW.cells ⟨n11,a11,l11,c11,a11',l11',c11'⟩) rfl rfl (Bz _ _ _) (En _) (CL _) (by omega) (HM4.o.old.size) (fun v17 w17 ha17=>?_);obtain⟨bo17,bc17,rfl⟩:=Ag ha17.own;have HM5:=bH (HM4.o.appD (x:=⟨n11,a11,l11,c11,a11',l11',c11'⟩) ha17 hx4 hx1.1 h12);refine hK.o _ _ (hHeld.trans (ha17.ext.mono (fun k _ e=>.inr e))) (fun hHeld=>?_);clear hK K;(try go_frame);refine mu 18 (h:=(mu 19 (h:=?_)));(try go_frame);have t5:=AA HM5.o.box 5 rfl;have f5:=AC HM5.o.box 5;refine ml 20 (h:=fun K hK=>?_);go_simp;refine hK.o _ _ ?_;clear hK K;(try go_frame);refine ml 21 (h:=fun K hK=>?_);go_simp;refine hK.o _ _ ?_;clear hK K;(try go_frame);refine ml 22 (h:=fun K hK=>?_);go_simp;refine hK.o _ _ ?_;clear hK K;(try go_frame);have HM6:=bH (HM5.o.store 5 (Ai rfl) (frB':=.slice bo8 (i+1) bc8) rfl);have t8:=AA HM6.o.box 8 rfl;have f8:=AC HM6.o.box 8;refine ml 23 (h:=fun K hK=>?_);go_simp;refine hK.o _ _ ?_;clear hK K;(try go_frame);refine Dr (by kernel_rfl) ?_ _;have HM7:=bH (HM6.o.store 8 (Ai rfl) (dB':=.slice bo17 (i+1) bc17) rfl);clear HM0 HM1 HM2 HM3 HM4 HM5 HM6 ha8 ha17 hx1 hx2 hx3 hx4 h11 h12 hx11 hxy t5 f5 t8 f8 c4 c5 c8 hHeld;generalize (w17.setCell ⟨tb,5,none⟩ (.slice bo8 (i+1) bc8)).setCell ⟨tb,8,none⟩ (.slice bo17 (i+1) bc17)=w9 at *;go_wp2;go_roundg (n-(i+1));case measure=>omega
   case rel=>exact⟨i+1,_,_,by omega,rfl,by go_num,HM7.o⟩
  obtain rfl:i=n:=(by omega);have b1:=AA HM.o.pbx 1 rfl;go_wp2_with fail;clear b1;go_loopg [48,6,7] m (fun gg v48 v6 v7 wr=>∃(j:Nat) (l:Value),j<=m/\gg=m-j/\v48=.int .i64 j/\Bl w0 wr pb tb mb p (.slice vo i vc) (.slice ro m rc) fr d l fr d l i i (B3 p j));case atStart=>exact⟨0,_,Nat.zero_le _,rfl,rfl,HM.o⟩
  case round =>
   clear HM;obtain⟨j,l,hj,rfl,rfl,hs⟩:=hrel;have HM:=bH hs;clear hs;have hll:=KF p j;by_cases hjn:j<m
   ·have j0:(j:Int)<(m:Int):=(by omega);have j1:(0:Int)<=(j:Int):=(by omega);have hjr:j<p.rows.length:=(by rw[HMr.o];exact hjn);obtain⟨b,off,ta,tc,rfl,hlt,e0,e1,e2,e3,e4,-,-⟩:=(HV.o.2.1.keep HM.o.old).atp j hjr;have hkd:=GF (BR HV.o.2.2 hjr);have HNx:=bH (show B3 p (j+1)=B3 p j++((if (p.r j).kind=1 then [] else [⟨(j:Int),0,false⟩])++if (p.r j).kind=0 then [] else [⟨(j:Int),0,true⟩]) from rfl);clear hjr;have hb1:=AD wr (.cells #[.string (p.r j).name,.int .i64 (p.r j).group,.int .i64 (p.r j).kind,.slice ta (p.r j).terms.length tc,.int .i64 (p.r j).bound] 51);have hx1:=(AK.refl (fun _=>False) wr).alloc (.cells #[.string (p.r j).name,.int .i64 (p.r j).group,.int .i64 (p.r j).kind,.slice ta (p.r j).terms.length tc,.int .i64 (p.r j).bound] 51);have HM9:=bH (HM.o.keep hx1);have f2:=AA hb1 2 rfl;have HRb:=bH (show Au (wr.alloc (.cells #[.string (p.r j).name,.int .i64 (p.r j).group,.int .i64 (p.r j).kind,.slice ta (p.r j).terms.length tc,.int .i64 (p.r j).bound] 51)) wr.heap.size=some (.cells #[.string (p.r j).name,.int .i64 (p.r j).group,.int .i64 (p.r j).kind,.slice ta (p.r j).terms.length tc,.int .i64 (p.r j).bound] 51 (0,0)) from hb1);clear hx1 HM hb1;go_upto_region 10 with fail;generalize wr.alloc (.cells #[.string (p.r j).name,.int .i64 (p.r j).group,.int .i64 (p.r j).kind,.slice ta (p.r j).terms.length tc,.int .i64 (p.r j).bound] 51)=w9 at *;generalize wr.heap.size=rb at *;clear e0 e1 e2 e3 e4;have c9:=AA HM9.o.box 9 rfl;generalize (p.r j).kind=kd at *;rcases hkd with rfl|rfl|rfl
    ·go_upto_region 12 with (at_builtin;refine Df rfl (.tmp 60) (.tmp 63) rfl underlying120 Tryz.infoLimit rfl (CX BB) (by decide) (by decide) w0.heap.size (l) (B3 p j).length ((B3 p j).flatMap Dn) rfl (HM9.o.keep ((AK.refl (fun _=>False) w9).alloc (.cells #[.int .i64 ((j:Int)),.int .i64 (0),.bool false] 124))).l.own (HM9.o.keep ((AK.refl (fun _=>False) w9).alloc (.cells #[.int .i64 ((j:Int)),.int .i64 (0),.bool false] 124))).l.noDig (Ek _) _ _ (Dn ⟨(j:Int),0,false⟩) rfl rfl (Bz _ _ _) (FZ _) (CX _) (by omega) (Nat.le_trans HM9.o.old.size (by simp)) ?_;intro v11 w11 ha11;obtain⟨bo11,bc11,rfl⟩:=Ag ha11.own;have HA11:=bH ((HM9.o.keep ((AK.refl (fun _=>False) w9).alloc (.cells #[.int .i64 ((j:Int)),.int .i64 (0),.bool false] 124))).appL (x:=⟨(j:Int),0,false⟩) ha11);have t9:=AA HA11.o.box 9 rfl;have f9:=AC HA11.o.box 9);have HP:=bH (HA11.o.store 9 (Ai rfl) (lB':=.slice bo11 ((B3 p j).length+1) bc11) rfl);have HNy:=bH (show B3 p (j+1)=B3 p j++[⟨(j:Int),0,false⟩] from HNx.o);have hf2:=AA ((HM9.o.keep ((AK.refl (fun _=>False) w9).alloc (.cells #[.int .i64 (j:Int),.int .i64 0,.bool false] 124))).other ha11 (AM HRb.o ((AK.refl (fun _=>False) w9).alloc (.cells #[.int .i64 (j:Int),.int .i64 0,.bool false] 124))) (by decide) (by decide) 9 (.slice bo11 ((B3 p j).length+1) bc11)) 2 rfl;clear HA11 HM9 ha11 t9 f9 c9 f2;generalize w11.setCell ⟨tb,9,none⟩ (.slice bo11 ((B3 p j).length+1) bc11)=w12 at *;go_wp2;go_roundg (m-(j+1));case measure=>omega
     case rel=>exact⟨j+1,_,by omega,rfl,by go_num,by rw[HNy.o];exact HP.o⟩
    ·go_wp2_with (at_builtin;refine Df rfl (.tmp 74) (.tmp 77) rfl underlying120 Tryz.infoLimit rfl (CX BB) (by decide) (by decide) w0.heap.size (l) (B3 p j).length ((B3 p j).flatMap Dn) rfl (HM9.o.keep ((AK.refl (fun _=>False) w9).alloc (.cells #[.int .i64 ((j:Int)),.int .i64 (0),.bool true] 124))).l.own (HM9.o.keep ((AK.refl (fun _=>False) w9).alloc (.cells #[.int .i64 ((j:Int)),.int .i64 (0),.bool true] 124))).l.noDig (Ek _) _ _ (Dn ⟨(j:Int),0,true⟩) rfl rfl (Bz _ _ _) (FZ _) (CX _) (by omega) (Nat.le_trans HM9.o.old.size (by simp)) ?_;intro v11 w11 ha11;obtain⟨bo11,bc11,rfl⟩:=Ag ha11.own;have HA11:=bH ((HM9.o.keep ((AK.refl (fun _=>False) w9).alloc (.cells #[.int .i64 ((j:Int)),.int .i64 (0),.bool true] 124))).appL (x:=⟨(j:Int),0,true⟩) ha11);have t9:=AA HA11.o.box 9 rfl;have f9:=AC HA11.o.box 9);have HP:=bH (HA11.o.store 9 (Ai rfl) (lB':=.slice bo11 ((B3 p j).length+1) bc11) rfl);have HNy:=bH (show B3 p (j+1)=B3 p j++[⟨(j:Int),0,true⟩] from HNx.o);clear HA11 HM9 ha11 t9 f9 c9 f2;generalize w11.setCell ⟨tb,9,none⟩ (.slice bo11 ((B3 p j).length+1) bc11)=w12 at *;go_roundg (m-(j+1));case measure=>omega
     case rel=>exact⟨j+1,_,by omega,rfl,by go_num,by rw[HNy.o];exact HP.o⟩
    go_upto_region 12 with (at_builtin;refine Df rfl (.tmp 60) (.tmp 63) rfl underlying120 Tryz.infoLimit rfl (CX BB) (by decide) (by decide) w0.heap.size (l) (B3 p j).length ((B3 p j).flatMap Dn) rfl (HM9.o.keep ((AK.refl (fun _=>False) w9).alloc (.cells #[.int .i64 ((j:Int)),.int .i64 (0),.bool false] 124))).l.own (HM9.o.keep ((AK.refl (fun _=>False) w9).alloc (.cells #[.int .i64 ((j:Int)),.int .i64 (0),.bool false] 124))).l.noDig (Ek _) _ _ (Dn ⟨(j:Int),0,false⟩) rfl rfl (Bz _ _ _) (FZ _) (CX _) (by omega) (Nat.le_trans HM9.o.old.size (by simp)) ?_;intro v11 w11 ha11;obtain⟨bo11,bc11,rfl⟩:=Ag ha11.own;have HA11:=bH ((HM9.o.keep ((AK.refl (fun _=>False) w9).alloc (.cells #[.int .i64 ((j:Int)),.int .i64 (0),.bool false] 124))).appL (x:=⟨(j:Int),0,false⟩) ha11);have t9:=AA HA11.o.box 9 rfl;have f9:=AC HA11.o.box 9);have HP:=bH (HA11.o.store 9 (Ai rfl) (lB':=.slice bo11 ((B3 p j).length+1) bc11) rfl);have HNy:=bH (show B3 p (j+1)=B3 p j++[⟨(j:Int),0,false⟩]++[⟨(j:Int),0,true⟩] from by rw[HNx.o,List.append_assoc];rfl);have hf2:=AA ((HM9.o.keep ((AK.refl (fun _=>False) w9).alloc (.cells #[.int .i64 (j:Int),.int .i64 0,.bool false] 124))).other ha11 (AM HRb.o ((AK.refl (fun _=>False) w9).alloc (.cells #[.int .i64 (j:Int),.int .i64 0,.bool false] 124))) (by decide) (by decide) 9 (.slice bo11 ((B3 p j).length+1) bc11)) 2 rfl;clear HA11 HM9 ha11 t9 f9 c9 f2;generalize w11.setCell ⟨tb,9,none⟩ (.slice bo11 ((B3 p j).length+1) bc11)=w12 at *;have c9:=AA HP.o.box 9 rfl;have hl2:(B3 p j++[(⟨(j:Int),0,false⟩:AZ)]).length=(B3 p j).length+1:=(by simp);go_wp2_with (at_builtin;refine Df rfl (.tmp 74) (.tmp 77) rfl underlying120 Tryz.infoLimit rfl (CX BB) (by decide) (by decide) w0.heap.size (.slice bo11 ((B3 p j).length+1) bc11) (B3 p j++[(⟨(j:Int),0,false⟩:AZ)]).length ((B3 p j++[(⟨(j:Int),0,false⟩:AZ)]).flatMap Dn) rfl (HP.o.keep ((AK.refl (fun _=>False) w12).alloc (.cells #[.int .i64 ((j:Int)),.int .i64 (0),.bool true] 124))).l.own (HP.o.keep ((AK.refl (fun _=>False) w12).alloc (.cells #[.int .i64 ((j:Int)),.int .i64 (0),.bool true] 124))).l.noDig (Ek _) _ _ (Dn ⟨(j:Int),0,true⟩) rfl rfl (Bz _ _ _) (FZ _) (CX _) (by omega) (Nat.le_trans HP.o.old.size (by simp)) ?_;intro v13 w13 ha13;obtain⟨bo13,bc13,rfl⟩:=Ag ha13.own;have HA13:=bH ((HP.o.keep ((AK.refl (fun _=>False) w12).alloc (.cells #[.int .i64 ((j:Int)),.int .i64 (0),.bool true] 124))).appL (x:=⟨(j:Int),0,true⟩) ha13);have t9:=AA HA13.o.box 9 rfl;have f9:=AC HA13.o.box 9);have HP2:=bH (HA13.o.store 9 (Ai rfl) (lB':=.slice bo13 ((B3 p j++[(⟨(j:Int),0,false⟩:AZ)]).length+1) bc13) rfl);clear HA13 HP ha13 t9 f9 c9 hf2;rw[hl2] at HP2;generalize w13.setCell ⟨tb,9,none⟩ (.slice bo13 ((B3 p j).length+1+1) bc13)=w14 at *;go_roundg (m-(j+1));case measure=>omega
    case rel=>exact⟨j+1,_,by omega,rfl,by go_num,by rw[HNy.o];exact HP2.o⟩
   obtain rfl:j=m:=(by omega);have b0:=AA HM.o.pbx 0 rfl;go_wp2_with fail;clear b0;go_loopg [85,8,9] i (fun gg v85 v8 v9 wr=>∃(k:Nat) (l:Value),k<=i/\gg=i-k/\v85=.int .i64 k/\Bl w0 wr pb tb mb p (.slice vo i vc) (.slice ro j rc) fr d l fr d l i i (B3 p j++FP p k));case atStart=>exact⟨0,_,Nat.zero_le _,rfl,rfl,by rw[show FP p 0=[] from rfl,List.append_nil];exact HM.o⟩
   case round =>
    clear HM;obtain⟨k,l,hk,rfl,rfl,hs⟩:=hrel;have HM:=bH hs;clear hs;have hll2:=LQ p k;have hlen:(B3 p j++FP p k).length<=100000:=(by rw[List.length_append];omega);by_cases hkn:k<i
    ·have k0:(k:Int)<(i:Int):=(by omega);have k1:(0:Int)<=(k:Int):=(by omega);obtain⟨b,off,rfl,hlt,e0,e1,e2,e3,e4,-⟩:=(HV.o.1.keep HM.o.old).atp k (by rw[HN.o];exact hkn);have HNx:=bH (show B3 p j++FP p (k+1)=B3 p j++FP p k++(if (p.v k).op then [] else [⟨-1,k,false⟩]) from by rw[List.append_assoc];rfl);have hb1:=IK.new wr (p.v k);have hx1:=(AK.refl (fun _=>False) wr).alloc (.cells #[.int .i64 (p.v k).lo,.int .i64 (p.v k).up,.bool (p.v k).op,.bool (p.v k).ig,.int .i64 (p.v k).co] 77);have HM9:=bH (HM.o.keep hx1);have f2:=hb1.facts.2.2.1;clear hx1 HM hb1;go_upto_region 18 with fail;generalize wr.alloc (.cells #[.int .i64 (p.v k).lo,.int .i64 (p.v k).up,.bool (p.v k).op,.bool (p.v k).ig,.int .i64 (p.v k).co] 77)=w9 at *;generalize wr.heap.size=rb at *;clear e0 e1 e2 e3 e4;have c9:=AA HM9.o.box 9 rfl;generalize (p.v k).op=op at *;cases op with
     | true =>
      have HNy:=bH (show B3 p j++FP p (k+1)=B3 p j++FP p k from by rw[HNx.o];simp);go_wp2;go_roundg (i-(k+1));case measure=>omega
      case rel=>exact⟨k+1,_,by omega,rfl,by go_num,by rw[HNy.o];exact HM9.o⟩
     | false =>
      have HNy:=bH (show B3 p j++FP p (k+1)=B3 p j++FP p k++[⟨-1,k,false⟩] from by rw[HNx.o];simp);go_wp2_with (at_builtin;refine Df rfl (.tmp 97) (.tmp 100) rfl underlying120 Tryz.infoLimit rfl (CX BB) (by decide) (by decide) w0.heap.size (l) (B3 p j++FP p k).length ((B3 p j++FP p k).flatMap Dn) rfl (HM9.o.keep ((AK.refl (fun _=>False) w9).alloc (.cells #[.int .i64 (-1),.int .i64 ((k:Int)),.bool false] 124))).l.own (HM9.o.keep ((AK.refl (fun _=>False) w9).alloc (.cells #[.int .i64 (-1),.int .i64 ((k:Int)),.bool false] 124))).l.noDig (Ek _) _ _ (Dn ⟨-1,k,false⟩) rfl rfl (Bz _ _ _) (FZ _) (CX _) (by omega) (Nat.le_trans HM9.o.old.size (by simp)) ?_;intro v11 w11 ha11;obtain⟨bo11,bc11,rfl⟩:=Ag ha11.own;have HA11:=bH ((HM9.o.keep ((AK.refl (fun _=>False) w9).alloc (.cells #[.int .i64 (-1),.int .i64 ((k:Int)),.bool false] 124))).appL (x:=⟨-1,k,false⟩) ha11);have t9:=AA HA11.o.box 9 rfl;have f9:=AC HA11.o.box 9);have HP:=bH (HA11.o.store 9 (Ai rfl) (lB':=.slice bo11 ((B3 p j++FP p k).length+1) bc11) rfl);clear HA11 HM9 ha11 t9 f9 c9 f2;rw[List.length_append] at HP;generalize w11.setCell ⟨tb,9,none⟩ (.slice bo11 ((B3 p j).length+(FP p k).length+1) bc11)=w12 at *;go_roundg (i-(k+1));case measure=>omega
      case rel=>exact⟨k+1,_,by omega,rfl,by go_num,by rw[HNy.o];exact HP.o⟩
    obtain rfl:k=i:=(by omega);have HR:=bH (show MQ w0 p (.returned (.pointer (some ⟨tb,0,none⟩))) wr from by
     have e1:=HN.o;have e2:=HMr.o;subst e1;subst e2;exact⟨tb,_,rfl,Bl.tab HM.o HV.o.1 HV.o.2.1 HV.o.2.2 hn⟩)
    go_wp2;go_ret;exact HR.o
structure EI(N:Nat) (T:AX) (D:Tb):Prop where
 wf:Wf N D
 fr:∀j,j<T.n->T.fr j<N
 ba:∀i,i<T.m->D.B (T.ba i)=true
 free:∀j,j<T.n->D.B (T.fr j)=false
 bas:∀v,D.B v=true->∃i,i<T.m/\T.ba i=v
 frs:∀v,v<N->D.B v=false->∃j,j<T.n/\T.fr j=v
 bi:∀i k,i<T.m->k<T.m->T.ba i=T.ba k->i=k
 fi:∀j k,j<T.n->k<T.n->T.fr j=T.fr k->j=k
 al:∀i j,i<T.m->j<T.n->D.M (T.ba i) (T.fr j)=T.al i j
 be:∀i,i<T.m->D.b (T.ba i)=T.be i
 d:∀j,j<T.n->D.d (T.fr j)=T.d j
section
variable {N:Nat} {T:AX} {D:Tb} {i c:Nat}
theorem Fy(T:AX) (i c k:Nat):(DS T i c).ba k=if k=i then T.fr c else T.ba k:=rfl
theorem Ec(T:AX) (i c j:Nat):(DS T i c).fr j=if j=c then T.ba i else T.fr j:=rfl
theorem TZ(T:AX) (i c k j:Nat):(DS T i c).al k j=if k=i then Cy T i c j else if j=c then -(T.al k c*BE T i c) else T.al k j-T.al k c*Cy T i c j:=by
 show (if k=i then Cy T i c else fun j=>if j=c then -(T.al k c*BE T i c) else T.al k j-T.al k c*Cy T i c j) j=_;split<;>rfl
theorem Ti(T:AX) (i c k:Nat):(DS T i c).be k=if k=i then T.be i*BE T i c else T.be k-T.al k c*(T.be i*BE T i c):=rfl
theorem Un(T:AX) (i c j:Nat):(DS T i c).d j=if j=c then -(T.d c*BE T i c) else T.d j-T.d c*Cy T i c j:=rfl
theorem EI.rowT(h:EI N T D) (hi:i<T.m) (hc:c<T.n) {j:Nat} (hj:j<T.n):D.M (T.ba i) ((DS T i c).fr j)/D.M (T.ba i) (T.fr c)=Cy T i c j:=by
 rw[h.al i c hi hc,Ec];unfold Cy BE;by_cases e:j=c
 ·rw[if_pos e,if_pos e,h.wf.unit _ _ (h.ba i hi) (h.ba i hi),if_pos rfl]
 rw[if_neg e,if_neg e,h.al i j hi hj,Rat.div_def,Rat.div_def,Rat.one_mul]
theorem EI.piv(h:EI N T D) (hi:i<T.m) (hc:c<T.n) (hnz:T.al i c≠0):EI N (DS T i c) (Cq D (T.ba i) (T.fr c)):=by
 have hv:=h.ba i hi;have hu:=h.free c hc;have hne:T.fr c≠T.ba i:=fun e=>by rw[e,hv] at hu;cases hu
 have hr:D.M (T.ba i) (T.fr c)≠0:=by rw[h.al i c hi hc];exact hnz
 have hB:∀w,(Cq D (T.ba i) (T.fr c)).B w=if w=T.fr c then true else if w=T.ba i then false else D.B w:=fun _=>rfl
 have nfr:∀j,j<T.n->j≠c->T.fr j≠T.fr c:=fun j hj hn e=>hn (h.fi j c hj hc e);have nba:∀k,k<T.m->k≠i->T.ba k≠T.ba i:=fun k hk hn e=>hn (h.bi k i hk hi e);have dis:∀k j,k<T.m->j<T.n->T.ba k≠T.fr j:=fun k j hk hj e=>by
  have h1:=h.ba k hk;rw[e,h.free j hj] at h1;cases h1
 refine⟨Mk h.wf hv hu (h.fr c hc) hr,fun j hj=>?_,fun k hk=>?_,fun j hj=>?_,fun v hb=>?_,fun v hlt hb=>?_,fun k k' hk hk' he=>?_,fun j j' hj hj' he=>?_,fun k j hk hj=>?_,fun k hk=>?_,fun j hj=>?_⟩
 ·have hj:j<T.n:=hj;rw[Ec];split
  ·exact h.wf.dom _ hv
  exact h.fr j hj
 ·have hk:k<T.m:=hk;rw[Fy,hB];by_cases e:k=i
  ·rw[if_pos e,if_pos rfl]
  rw[if_neg e,if_neg (dis k c hk hc),if_neg (nba k hk e)];exact h.ba k hk
 ·have hj:j<T.n:=hj;rw[Ec,hB];by_cases e:j=c
  ·rw[if_pos e,if_neg (Ne.symm hne),if_pos rfl]
  rw[if_neg e,if_neg (nfr j hj e),if_neg (Ne.symm (dis i j hi hj))];exact h.free j hj
 ·rw[hB] at hb;by_cases e:v=T.fr c
  ·exact⟨i,hi,by rw[Fy,if_pos rfl,e]⟩
  rw[if_neg e] at hb;by_cases e2:v=T.ba i
  ·rw[if_pos e2] at hb;cases hb
  rw[if_neg e2] at hb;obtain⟨k,hk,ek⟩:=h.bas v hb;exact⟨k,hk,by rw[Fy,if_neg (fun e3=>e2 (by rw[<- ek,e3]))];exact ek⟩
 ·rw[hB] at hb;by_cases e:v=T.fr c
  ·rw[if_pos e] at hb;cases hb
  rw[if_neg e] at hb;by_cases e2:v=T.ba i
  ·exact⟨c,hc,by rw[Ec,if_pos rfl,e2]⟩
  rw[if_neg e2] at hb;obtain⟨j,hj,ej⟩:=h.frs v hlt hb;exact⟨j,hj,by rw[Ec,if_neg (fun e3=>e (by rw[<- ej,e3]))];exact ej⟩
 ·have hk:k<T.m:=hk;have hk':k'<T.m:=hk';rw[Fy,Fy] at he;by_cases e:k=i
  ·by_cases e':k'=i
   ·rw[e,e']
   rw[if_pos e,if_neg e'] at he;exact absurd he.symm (dis k' c hk' hc)
  by_cases e':k'=i
  ·rw[if_neg e,if_pos e'] at he;exact absurd he (dis k c hk hc)
  rw[if_neg e,if_neg e'] at he;exact h.bi k k' hk hk' he
 ·have hj:j<T.n:=hj;have hj':j'<T.n:=hj';rw[Ec,Ec] at he;by_cases e:j=c
  ·by_cases e':j'=c
   ·rw[e,e']
   rw[if_pos e,if_neg e'] at he;exact absurd he (dis i j' hi hj')
  by_cases e':j'=c
  ·rw[if_neg e,if_pos e'] at he;exact absurd he.symm (dis i j hi hj)
  rw[if_neg e,if_neg e'] at he;exact h.fi j j' hj hj' he
 ·have hk:k<T.m:=hk;have hj:j<T.n:=hj;have hrow:=h.rowT hi hc hj;show (if (DS T i c).ba k=T.fr c then D.M (T.ba i) ((DS T i c).fr j)/D.M (T.ba i) (T.fr c) else if (DS T i c).ba k=T.ba i then 0 else D.M ((DS T i c).ba k) ((DS T i c).fr j)-D.M ((DS T i c).ba k) (T.fr c)*(D.M (T.ba i) ((DS T i c).fr j)/D.M (T.ba i) (T.fr c)))=_;rw[hrow,Fy,TZ];by_cases e:k=i
  ·rw[if_pos e,if_pos rfl,if_pos e]
  rw[if_neg e,if_neg (dis k c hk hc),if_neg (nba k hk e),if_neg e,Ec,h.al k c hk hc];by_cases e2:j=c
  ·rw[if_pos e2,if_pos e2,h.wf.unit _ _ (h.ba k hk) hv,if_neg (nba k hk e)];have:Cy T i c j=BE T i c:=if_pos e2;rw[this];grind
  rw[if_neg e2,if_neg e2,h.al k j hk hj]
 ·have hk:k<T.m:=hk;have e0:D.b (T.ba i)/D.M (T.ba i) (T.fr c)=T.be i*BE T i c:=(by rw[h.be i hi,h.al i c hi hc];unfold BE;rw[Rat.div_def,Rat.div_def,Rat.one_mul]);show (if (DS T i c).ba k=T.fr c then D.b (T.ba i)/D.M (T.ba i) (T.fr c) else if (DS T i c).ba k=T.ba i then 0 else D.b ((DS T i c).ba k)-D.M ((DS T i c).ba k) (T.fr c)*(D.b (T.ba i)/D.M (T.ba i) (T.fr c)))=_;rw[e0,Fy,Ti];by_cases e:k=i
  ·rw[if_pos e,if_pos rfl,if_pos e]
  rw[if_neg e,if_neg (dis k c hk hc),if_neg (nba k hk e),if_neg e,h.be k hk,h.al k c hk hc]
 have hj:j<T.n:=hj;have hrow:=h.rowT hi hc hj;show D.d ((DS T i c).fr j)-D.d (T.fr c)*(D.M (T.ba i) ((DS T i c).fr j)/D.M (T.ba i) (T.fr c))=_;rw[hrow,Ec,Un,h.d c hc];by_cases e:j=c
 ·rw[if_pos e,if_pos e,h.wf.cost _ hv];have:Cy T i c j=BE T i c:=if_pos e;rw[this];grind
 rw[if_neg e,if_neg e,h.d j hj]
end
theorem Kf{ba:Nat->Nat} {be:Nat->Rat} {v:Nat}:∀{m i:Nat},i<m->ba i=v->(∀j k,j<m->k<m->ba j=ba k->j=k)->BS ba be m v=be i
 | m+1,i,hi,hv,hu=>by
  unfold BS;by_cases e:ba m=v
  ·rw[if_pos e,hu i m hi (by omega) (hv.trans e.symm)]
  rw[if_neg e];have:i≠m:=fun e2=>e (by rw[<- e2];exact hv);exact Kf (by omega) hv (fun j k hj hk=>hu j k (by omega) (by omega))
theorem LC{ba:Nat->Nat} {be:Nat->Rat} {v:Nat}:∀{m:Nat},(∀i,i<m->ba i≠v)->BS ba be m v=0
 | 0,_=>rfl
 | m+1,h=>by
  unfold BS;rw[if_neg (h m (by omega))];exact LC (fun i hi=>h i (by omega))
section
variable {N:Nat} {T:AX} {D:Tb}
theorem EI.dist(h:EI N T D) (v:Nat):BS T.ba T.be T.m v=D.b v:=by
 cases hb:D.B v with
 | true =>
  obtain⟨i,hi,rfl⟩:=h.bas v hb;rw[Kf hi rfl h.bi,h.be i hi]
 | false =>
  rw[h.wf.rhs v hb];exact LC fun i hi e=>by rw[<- e,h.ba i hi] at hb;cases hb
theorem EI.idx(h:EI N T D) {v:Nat} (hv:v<N) (hn:Cj T.fr v T.n=none):∃r,Cj T.ba v T.m=some r:=by
 cases hb:Cj T.ba v T.m with
 | some r=>exact⟨r,rfl⟩
 | none =>
  exfalso;cases hB:D.B v with
  | true =>
   obtain⟨i,hi,e⟩:=h.bas v hB;exact Gr hb i hi e
  | false =>
   obtain⟨j,hj,e⟩:=h.frs v hv hB;exact Gr hn j hj e
theorem EI.gco(h:EI N T D) {v c:Nat} (hv:v<N) (hc:c<T.n):RZ T v c=(if T.fr c=v then 1 else 0)-D.M v (T.fr c):=by
 unfold Go.Proofs.YtglepbhkilbbcaaGreat.RZ;cases hf:Cj T.fr v T.n with
 | some c' =>
  obtain⟨h1,h2⟩:=Ej hf;have hz:D.M v (T.fr c)=0:=h.wf.row v (by rw[<- h2];exact h.free c' h1) _;rw[hz];dsimp only;by_cases e:c=c'
  ·rw[if_pos e,if_pos (by rw[e];exact h2)];grind
  rw[if_neg e,if_neg (fun e2=>e (h.fi c c' hc h1 (e2.trans h2.symm)))];grind
 | none =>
  obtain⟨r,hr⟩:=h.idx hv hf;obtain⟨h1,h2⟩:=Ej hr;rw[hr,if_neg (Gr hf c hc),<- h2,h.al r c h1 hc];dsimp only;grind
end
theorem Nd(p:AH) (T:AX) (l:AZ) (c:Nat):∀i:Nat,DF p T l i c=AG i fun k=>((((AV p l).getD k AW).coef*A6 l:Int):Rat)*RZ T ((AV p l).getD k AW).var.toNat c
 | 0=>rfl
 | i+1=>by
  show DF p T l i c+_=AG i _+_;rw[Nd p T l c i]
section
variable {T:AX} {D:Tb} {p:AH} {us:List AZ} {l:AZ}
theorem N9(hv:AU p=true) (hl:BF p l) (k:Nat) (y:Nat->Rat):AG (p.vars.length+k) (fun w=>Cp p l w*y w)=AG p.vars.length (fun w=>Cp p l w*y w):=by
 rw[C0,Af (f:=fun j=>Cp p l (p.vars.length+j)*y (p.vars.length+j)) (fun j _=>by rw[J3 hv hl (by omega)];grind)];grind
theorem EI.rowP(h:EI (p.vars.length+us.length) T D) (hv:AU p=true) (hl:BF p l) {c:Nat} (hc:c<T.n):DF p T l (AV p l).length c=Cp p l (T.fr c)-AG (p.vars.length+us.length) (fun w=>Cp p l w*D.M w (T.fr c)):=by
 rw[N9 hv hl,M4 hv hl,Nd];have h1:Cp p l (T.fr c)=AG (AV p l).length (fun k=>(((AV p l).getD k AW).coef:Rat)*(if T.fr c=((AV p l).getD k AW).var.toNat then 1 else 0))*(A6 l:Rat):=by
  unfold Cp;rw[<- Dd];refine AE fun k hk=>?_;obtain⟨h2,h3⟩:=hl.terms hv k hk;by_cases e:T.fr c=((AV p l).getD k AW).var.toNat
  ·rw[if_pos e,if_pos (by omega)];grind
  rw[if_neg e,if_neg (by omega)];grind
 rw[h1,<- Dd,<- Dd,<- B8];refine AE fun k hk=>?_;obtain⟨h2,h3⟩:=hl.terms hv k hk;rw[h.gco (by omega) hc,Rat.intCast_mul];grind
theorem EI.slack(h:EI (p.vars.length+us.length) T D) (hv:AU p=true) (hl:BF p l):BM p l (AP p.vars.length (BS T.ba T.be T.m)) false=Fi p l-AG (p.vars.length+us.length) (fun w=>Cp p l w*D.b w):=by
 rw[KK hv hl,N9 hv hl];rw[if_neg Bool.false_ne_true,AE (f:=fun t=>Cp p l t*BS T.ba T.be T.m t) (g:=fun t=>Cp p l t*D.b t) (fun t _=>by rw[h.dist])]
theorem EI.use(h:EI (p.vars.length+us.length) T D) (hv:AU p=true) (hl:BF p l):EI (p.vars.length+us.length+1) (JG p T us l) (FO (p.vars.length+us.length) D (Cp p l) (Fi p l)):=by
 have hN:=h.wf.notN;have hba:∀i,(JG p T us l).ba i=if i=T.m then p.vars.length+us.length else T.ba i:=fun _=>rfl
 have hbe:∀i,(JG p T us l).be i=if i=T.m then BM p l (AP p.vars.length (BS T.ba T.be T.m)) false else T.be i:=fun _=>rfl
 have hal:∀i,(JG p T us l).al i=if i=T.m then Go.Proofs.YtglepbhkilbbcaaGreat.DF p T l (AV p l).length else T.al i:=fun _=>rfl
 have hblt:∀i,i<T.m->T.ba i<p.vars.length+us.length:=fun i hi=>h.wf.dom _ (h.ba i hi);refine⟨Us h.wf,fun j hj=>?_,fun i hi=>?_,fun j hj=>?_,fun v hb=>?_,fun v hlt hb=>?_,fun i k hi hk he=>?_,fun j k hj hk he=>?_,fun i j hi hj=>?_,fun i hi=>?_,fun j hj=>?_⟩
 ·have:=h.fr j hj;show T.fr j<_;omega
 ·have hi:i<T.m+1:=hi;rw[hba,OA];by_cases e:i=T.m
  ·rw[if_pos e,if_pos rfl]
  have:=hblt i (by omega);rw[if_neg e,if_neg (by omega)];exact h.ba i (by omega)
 ·have:=h.fr j hj;show (FO _ D _ _).B (T.fr j)=false;rw[OA,if_neg (by omega)];exact h.free j hj
 ·rw[OA] at hb;by_cases e:v=p.vars.length+us.length
  ·exact⟨T.m,Nat.lt_succ_self _,by rw[hba,if_pos rfl,e]⟩
  rw[if_neg e] at hb;obtain⟨i,hi,hv2⟩:=h.bas v hb;exact⟨i,Nat.lt_succ_of_lt hi,by rw[hba,if_neg (by omega)];exact hv2⟩
 ·rw[OA] at hb;by_cases e:v=p.vars.length+us.length
  ·rw[if_pos e] at hb;cases hb
  rw[if_neg e] at hb;exact h.frs v (by omega) hb
 ·have hi:i<T.m+1:=hi;have hk:k<T.m+1:=hk;rw[hba,hba] at he;by_cases e:i=T.m
  ·by_cases e2:k=T.m
   ·omega
   have:=hblt k (by omega);rw[if_pos e,if_neg e2] at he;omega
  by_cases e2:k=T.m
  ·have:=hblt i (by omega);rw[if_neg e,if_pos e2] at he;omega
  rw[if_neg e,if_neg e2] at he;exact h.bi i k (by omega) (by omega) he
 ·exact h.fi j k hj hk he
 ·have hi:i<T.m+1:=hi;have hj:j<T.n:=hj;have hf:=h.fr j hj;show (FO _ D _ _).M ((JG p T us l).ba i) (T.fr j)=(JG p T us l).al i j;rw[hba,hal,Ub];by_cases e:i=T.m
  ·rw[if_pos e,if_pos rfl,if_neg (by omega),if_pos e,h.rowP hv hl hj]
  have:=hblt i (by omega);rw[if_neg e,if_neg (by omega),if_neg (by omega),if_neg e];exact h.al i j (by omega) hj
 ·have hi:i<T.m+1:=hi;rw[hba,hbe,UX];by_cases e:i=T.m
  ·rw[if_pos e,if_pos rfl,if_pos e,h.slack hv hl]
  have:=hblt i (by omega);rw[if_neg e,if_neg (by omega),if_neg e];exact h.be i (by omega)
 have hf:=h.fr j hj;show (FO _ D _ _).d (T.fr j)=T.d j;rw[UZ,if_neg (by omega)];exact h.d j hj
end
theorem RL(w:World) (v:Value) (q:Rat) (s:Nat) (h:AN w v q) (hz:Sz q s) (hs:s<=268435455) :
  Calls prog 150 #[v] w (Ak w (decide (q.num.sign<0))):=by
 obtain⟨kn,ka,km,kc,ka2,km2,kc2,rfl⟩:=h.shape;have hb:=AO (W:=w) rfl kn ka km kc ka2 km2 kc2;have hxa:=(AK.refl (fun _=>False) w).alloc (.cells #[.bool kn,.slice ka km kc,.slice ka2 km2 kc2] 34);have HS:=bH (Bt _ _ _ s ((h.keep hxa).reads hz) hs);obtain⟨x0,x1,x2,-⟩:=hb.facts;have HX:=bH hxa;clear h hb hxa;go_enter func150,ntmps150;go_upto_region 1 with fail;generalize w.alloc (.cells #[.bool kn,.slice ka km kc,.slice ka2 km2 kc2] 34)=w1 at *;generalize w.heap.size=ab at *;go_wp2_with fail;refine HS.o.mono ?_;rintro r4 w4 ⟨rfl,hx4⟩;have HR:=bH (HX.o.trans hx4);clear x0 x1 x2 hx4;generalize q.num.sign=sg at *;by_cases hsg:sg<0
 ·have hd:decide (sg<0)=true:=(by simpa using hsg);go_wp2;exact bodyPost_ret (v:=.bool true) (by first|(simp[results,results150,go_sem];done)|simp[results,results150,go_sem,hd]) rfl ⟨by first|rfl|rw[hd],HR.o⟩
 have hd:decide (sg<0)=false:=(by simpa using hsg);go_wp2;exact bodyPost_ret (v:=.bool false) (by first|(simp[results,results150,go_sem];done)|simp[results,results150,go_sem,hd]) rfl ⟨by first|rfl|rw[hd],HR.o⟩
theorem RR(w:World) (base tb tc:Nat) (V:Bh) (T:AX) (k s:Nat) (h:BG w base tb V T) (hk:k<T.m) (ht:w.cell? ⟨tc,0,none⟩=some (.pointer (some ⟨tb,0,none⟩))) (hz:Sz (T.be k) s) (hs:s<=268435455) :
  Calls prog 153 #[.int .i64 k,.pointer (some ⟨tc,0,none⟩)] w (Ak w (decide ((T.be k).num.sign<0))):=by
 obtain⟨g,cap,hv,h1,h2,hr⟩:=h.be.open (by omega);have hbox:=h.box;rw[hv] at hbox;have b6:=AA hbox 6 rfl;have k0:(0:Int)<=(k:Int):=by omega
 have k1:(k:Int)<(T.m:Int):=by omega
 obtain⟨n3,a3,l3,c3,a3',l3',c3',e0,e1,e2,hq⟩:=hr.cells k hk;have HS:=bH (Bt w _ _ s (hq.reads hz) hs);clear hq hbox hr hv h;go_enter func153,ntmps153;go_wp2_with fail;refine HS.o.mono ?_;rintro r4 w4 ⟨rfl,hx4⟩;have HR:=bH hx4;clear e0 e1 e2 hx4 b6 ht;generalize (T.be k).num.sign=sg at *;by_cases hsg:sg<0
 ·have hd:decide (sg<0)=true:=(by simpa using hsg);go_wp2;exact bodyPost_ret (v:=.bool true) (by first|(simp[results,results153,go_sem];done)|simp[results,results153,go_sem,hd]) rfl ⟨by first|rfl|rw[hd],HR.o⟩
 have hd:decide (sg<0)=false:=(by simpa using hsg);go_wp2;exact bodyPost_ret (v:=.bool false) (by first|(simp[results,results153,go_sem];done)|simp[results,results153,go_sem,hd]) rfl ⟨by first|rfl|rw[hd],HR.o⟩
theorem NT(w:World) (base tb tc:Nat) (V:Bh) (T:AX) (k s:Nat) (h:BG w base tb V T) (hk:k<T.n) (ht:w.cell? ⟨tc,0,none⟩=some (.pointer (some ⟨tb,0,none⟩))) (hz:Sz (T.d k) s) (hs:s<=268435455) :
  Calls prog 164 #[.int .i64 k,.pointer (some ⟨tc,0,none⟩)] w (Ak w (decide ((T.d k).num.sign<0))):=by
 obtain⟨g,cap,hv,h1,h2,hr⟩:=h.d.open (by omega);have hbox:=h.box;rw[hv] at hbox;have b6:=AA hbox 8 rfl;have k0:(0:Int)<=(k:Int):=by omega
 have k1:(k:Int)<(T.n:Int):=by omega
 obtain⟨n3,a3,l3,c3,a3',l3',c3',e0,e1,e2,hq⟩:=hr.cells k hk;have HS:=bH (Bt w _ _ s (hq.reads hz) hs);clear hq hbox hr hv h;go_enter func164,ntmps164;go_wp2_with fail;refine HS.o.mono ?_;rintro r4 w4 ⟨rfl,hx4⟩;have HR:=bH hx4;clear e0 e1 e2 hx4 b6 ht;generalize (T.d k).num.sign=sg at *;by_cases hsg:sg<0
 ·have hd:decide (sg<0)=true:=(by simpa using hsg);go_wp2;exact bodyPost_ret (v:=.bool true) (by first|(simp[results,results164,go_sem];done)|simp[results,results164,go_sem,hd]) rfl ⟨by first|rfl|rw[hd],HR.o⟩
 have hd:decide (sg<0)=false:=(by simpa using hsg);go_wp2;exact bodyPost_ret (v:=.bool false) (by first|(simp[results,results164,go_sem];done)|simp[results,results164,go_sem,hd]) rfl ⟨by first|rfl|rw[hd],HR.o⟩
theorem Qk(w:World) (base tb tc ic:Nat) (V:Bh) (T:AX) (i c s:Nat) (h:BG w base tb V T) (hi:i<T.m) (hc:c<T.n) (htc:w.cell? ⟨tc,0,none⟩=some (.pointer (some ⟨tb,0,none⟩))) (hic:w.cell? ⟨ic,0,none⟩=some (.int .i64 i)) (hz:Sz (T.al i c) s) (hs:s<=268435455) :
  Calls prog 158 #[.int .i64 c,.pointer (some ⟨tc,0,none⟩),.pointer (some ⟨ic,0,none⟩)] w (Ak w (decide ((T.al i c).num.sign<0))):=by
 obtain⟨g,cap,hv,h1,h2,hr⟩:=h.al.open (by omega);have hbox:=h.box;rw[hv] at hbox;have b6:=AA hbox 7 rfl;have a0:=hr i hi;have i0:(0:Int)<=(i:Int):=by omega
 have i1:(i:Int)<(T.m:Int):=by omega
 have c0:(0:Int)<=(c:Int):=by omega
 have c1:(c:Int)<(T.n:Int):=by omega
 obtain⟨n3,a3,l3,c3,a3',l3',c3',e0,e1,e2,hq⟩:=(h.rows i hi).1.cells c hc;clear hbox hr hv h;obtain⟨w2,hw2⟩:=bN w;rw[hw2] at hq b6 a0 e0 e1 e2 htc hic ⊢;have HS:=bH (fun W (hW:XF w2 W)=>Bt W _ _ s ((hq.keep hW).reads hz) hs);clear hq;generalize (T.al i c).num.sign=sg at HS ⊢;go_enter func158,ntmps158;go_upto_region 1 with fail;replace b6:=cq b6;replace a0:=cq a0;replace e0:=cq e0;replace e1:=cq e1;replace e2:=cq e2;replace htc:=cq htc;replace hic:=cq hic;refine wp_region_held_drew (S:=(XF w2)) (by kernel_rfl) ((AK.refl _ w2).drew) (fun hHeld=>?_);refine ht 0 (h:=(ht 1 (h:=(ht 2 (h:=(ht 3 (h:=(ht 4 (h:=(ht 5 (h:=(ht 6 (h:=(ht 7 (h:=(ht 8 (h:=(ht 9 (h:=?_)))))))))))))))))));(try go_frame);refine Aa 10 (h:=fun K hK=>?_);(go_simp;go_at_call 151;(with_reducible refine (HS.o _ hHeld).mono ?_);rintro q1 w11 ⟨rfl,hx11⟩;have hX1:=hHeld.trans hx11);refine hK.o _ _ (hX1) (fun hHeld=>?_);clear hK K;(try go_frame);refine ht 11 (h:=(ht 12 (h:=?_)));(try go_frame);refine wpAnyH_done (by kernel_rfl) ?_ _;have HR:=bH hX1;clear e0 e1 e2 hx11 hX1 hHeld b6 a0 htc hic;by_cases hsg:sg<0
 ·have hd:decide (sg<0)=true:=(by simpa using hsg);go_wp2;exact bodyPost_ret (v:=.bool true) (by first|(simp[results,results158,go_sem];done)|simp[results,results158,go_sem,hd]) rfl ⟨by first|rfl|rw[hd],HR.o⟩
 have hd:decide (sg<0)=false:=(by simpa using hsg);go_wp2;exact bodyPost_ret (v:=.bool false) (by first|(simp[results,results158,go_sem];done)|simp[results,results158,go_sem,hd]) rfl ⟨by first|rfl|rw[hd],HR.o⟩
theorem Nn(w:World) (base tb tc ic:Nat) (V:Bh) (T:AX) (i c s:Nat) (h:BG w base tb V T) (hi:i<T.m) (hc:c<T.n) (htc:w.cell? ⟨tc,0,none⟩=some (.pointer (some ⟨tb,0,none⟩))) (hic:w.cell? ⟨ic,0,none⟩=some (.int .i64 c)) (hz:Sz (T.al i c) s) (hs:s<=268435455) :
  Calls prog 165 #[.int .i64 i,.pointer (some ⟨tc,0,none⟩),.pointer (some ⟨ic,0,none⟩)] w (Ak w (decide (0<(T.al i c).num.sign))):=by
 obtain⟨g,cap,hv,h1,h2,hr⟩:=h.al.open (by omega);have hbox:=h.box;rw[hv] at hbox;have b6:=AA hbox 7 rfl;have a0:=hr i hi;have i0:(0:Int)<=(i:Int):=by omega
 have i1:(i:Int)<(T.m:Int):=by omega
 have c0:(0:Int)<=(c:Int):=by omega
 have c1:(c:Int)<(T.n:Int):=by omega
 obtain⟨n3,a3,l3,c3,a3',l3',c3',e0,e1,e2,hq⟩:=(h.rows i hi).1.cells c hc;clear hbox hr hv h;obtain⟨w2,hw2⟩:=bN w;rw[hw2] at hq b6 a0 e0 e1 e2 htc hic ⊢;have HS:=bH (fun W (hW:XF w2 W)=>Bt W _ _ s ((hq.keep hW).reads hz) hs);clear hq;generalize (T.al i c).num.sign=sg at HS ⊢;go_enter func165,ntmps165;go_upto_region 1 with fail;replace b6:=cq b6;replace a0:=cq a0;replace e0:=cq e0;replace e1:=cq e1;replace e2:=cq e2;replace htc:=cq htc;replace hic:=cq hic;refine wp_region_held_drew (S:=(XF w2)) (by kernel_rfl) ((AK.refl _ w2).drew) (fun hHeld=>?_);refine ht 0 (h:=(ht 1 (h:=(ht 2 (h:=(ht 3 (h:=(ht 4 (h:=(ht 5 (h:=(ht 6 (h:=(ht 7 (h:=(ht 8 (h:=(ht 9 (h:=?_)))))))))))))))))));(try go_frame);refine Aa 10 (h:=fun K hK=>?_);(go_simp;go_at_call 151;(with_reducible refine (HS.o _ hHeld).mono ?_);rintro q1 w11 ⟨rfl,hx11⟩;have hX1:=hHeld.trans hx11);refine hK.o _ _ (hX1) (fun hHeld=>?_);clear hK K;(try go_frame);refine ht 11 (h:=(ht 12 (h:=?_)));(try go_frame);refine wpAnyH_done (by kernel_rfl) ?_ _;have HR:=bH hX1;clear e0 e1 e2 hx11 hX1 hHeld b6 a0 htc hic;by_cases hsg:0<sg
 ·have hd:decide (0<sg)=true:=(by simpa using hsg);go_wp2;exact bodyPost_ret (v:=.bool true) (by first|(simp[results,results165,go_sem];done)|simp[results,results165,go_sem,hd]) rfl ⟨by first|rfl|rw[hd],HR.o⟩
 have hd:decide (0<sg)=false:=(by simpa using hsg);go_wp2;exact bodyPost_ret (v:=.bool false) (by first|(simp[results,results165,go_sem];done)|simp[results,results165,go_sem,hd]) rfl ⟨by first|rfl|rw[hd],HR.o⟩
end Go.Proofs.YtglepbhkilbbcaaGreat
