/-
  Texts of the proof, part 4. Conditions: each lemma names its own.
-/
import Derived.Test.YtglepbhkilbbcaaGreatZ2
import Derived.Test.YtglepbhkilbbcaaGreatZ3
import Derived.Deep.RegionHeld3
import Derived.Maps.RangeWalk
open Go.Proofs.Tryz
set_option linter.unusedVariables false
set_option linter.unusedSimpArgs false
set_option maxRecDepth 100000
set_option maxHeartbeats 16000000
namespace Go.Proofs.YtglepbhkilbbcaaGreat
open Go.RowKit Go.MapKept
open Go.ChangeMaps (setBlock)
theorem BR{p:AH} (h:AU p=true) {i:Nat} (hi:i<p.rows.length):Cx p.vars.length (p.r i)=true:=by
 unfold AU at h;simp only[Bool.and_eq_true,List.all_eq_true] at h;refine h.2 _ ?_;unfold AH.r;rw[List.getD_eq_getElem?_getD,List.getElem?_eq_getElem hi];exact List.getElem_mem hi
theorem CZ{p:AH} (h:AU p=true) {i:Nat} (hi:i<p.vars.length):Gk (p.v i)=true:=by
 unfold AU at h;simp only[Bool.and_eq_true,List.all_eq_true] at h;refine h.1.2 _ ?_;unfold AH.v;rw[List.getD_eq_getElem?_getD,List.getElem?_eq_getElem hi];exact List.getElem_mem hi
theorem Np{n:Int}:∀{l:List B1} {last:Int},-1<=last->Bq n last l=true->∀k,k<l.length->0<=(l.getD k AW).var/\(l.getD k AW).var<n
 | [],_,_,_,k,hk=>absurd hk (Nat.not_lt_zero k)
 | t::l,last,h0,h,k,hk=>by
  unfold Bq at h;simp only[Bool.and_eq_true,decide_eq_true_eq] at h;cases k with
  | zero=>exact⟨(by show 0<=t.var;omega),h.1.1.1.2⟩
  | succ k=>exact Np (l:=l) (last:=t.var) (by omega) h.2 k (by simpa using hk)
theorem D5{n:Int} {r:DD} (h:Cx n r=true):∀k,k<r.terms.length->0<=(r.t k).var/\(r.t k).var<n:=by
 unfold Cx at h;simp only[Bool.and_eq_true] at h;exact Np (Int.le_refl _) h.2
theorem GF{n:Int} {r:DD} (h:Cx n r=true):r.kind=0∨r.kind=1∨r.kind=2:=by
 unfold Cx at h;simp only[Bool.and_eq_true,decide_eq_true_eq] at h;omega
theorem NF{p:AH} (hv:AU p=true) (x y:List Rat) :
  AG p.vars.length (fun j=>Ax p y j*Am x j)=AG p.rows.length (fun i=>Am y i*Bs (p.r i).terms x):=by
 have h1:∀j,Ax p y j*Am x j=AG p.rows.length (fun i=>AG (p.r i).terms.length (fun k=>Am x j*(if ((p.r i).t k).var=(j:Int) then (((p.r i).t k).coef:Rat)*Am y i else 0))):=fun j=>by
  unfold Ax;rw[Rat.mul_comm,<- A2];exact AE fun i _=>(A2 _ _ _).symm
 rw[AE (fun j _=>h1 j),CB];refine AE fun i hi=>?_;rw[CB];unfold Bs;rw[<- A2];refine AE fun k hk=>?_;obtain⟨h2,h3⟩:=D5 (BR hv hi) k hk;show _=Am y i*((((p.r i).t k).coef:Rat)*Am x ((p.r i).t k).var);generalize (p.r i).t k=t at *;obtain⟨m,hm⟩:∃m:Nat,t.var=m:=⟨t.var.toNat,by omega⟩;rw[hm] at h3 ⊢;have h4:∀j:Nat,Am x (j:Int)*(if (m:Int)=(j:Int) then (t.coef:Rat)*Am y i else 0)=if j=m then (t.coef:Rat)*Am y i*Am x (m:Int) else 0:=fun j=>by
  by_cases e:j=m
  ·subst e;rw[if_pos rfl,if_pos rfl];grind
  rw[if_neg (by omega),if_neg e];grind
 rw[AE (fun j _=>h4 j),BK,if_pos (by omega)];grind
theorem LO{p:AH} (x:List Rat) {ts:List B1} (h:∀k,k<ts.length->0<=(ts.getD k AW).var/\(ts.getD k AW).var<p.vars.length):Bs ts (Bg p x)=Bs ts x :=
 AE fun k hk=>by rw[OS _ _ (h k hk).2]
theorem LF{a b c:Rat} (h:a<=b) (hc:0<=c):c*a<=c*b:=Rat.mul_le_mul_of_nonneg_left h hc
theorem K3{a b c:Rat} (h:a<=b) (hc:c<=0):c*b<=c*a:=by
 have:=Rat.mul_le_mul_of_nonneg_left h (c:=-c) (by grind);grind
theorem OG{k:Int} {d b y:Rat} (hk:k=0∨k=1∨k=2) (h:EM k d b=true) (hs:Js k y=true):y*b<=y*d:=by
 unfold EM at h;unfold Js at hs;rcases hk with rfl|rfl|rfl
 ·simp at h hs;exact K3 h (Rat.not_lt.1 hs)
 ·simp at h hs;exact LF h (Rat.not_lt.1 hs)
 simp at h;rw[h];exact Rat.le_refl
theorem Ep{p:AH} {c:List Rat} {l:Rat} (h:CH p c=some l):CS p=false/\Pa p c=true/\l=IR p c:=by
 unfold CH at h;split at h
 ·cases h
 rename_i hn;simp only[Bool.or_eq_true,Bool.not_eq_true',not_or,Bool.not_eq_true,Bool.not_eq_false] at hn;exact⟨hn.1,hn.2,(Option.some.inj h).symm⟩
theorem NW{p:AH} {c:List Rat} {l:Rat} (h:CH p c=some l) {x:List Rat} (hx:DI p x=true):l<=AG p.vars.length (fun i=>Am c i*Am x i):=by
 obtain⟨_,h1,rfl⟩:=Ep h;refine Du fun i hi=>?_;have h2:=A5.1 hx i hi;have h3:=A5.1 h1 i hi;unfold EL;generalize p.v i=v at *;generalize Am c i=a at *;generalize Am x i=z at *;simp only[Bool.and_eq_true,Bool.or_eq_true,decide_eq_true_eq,Bool.not_eq_true',Bool.and_eq_false_iff,decide_eq_false_iff_not] at h2 h3;split
 ·rename_i h4;rcases h3 with h3|h3
  ·rcases h2.2 with h5|h5
   ·rw[h3] at h5;cases h5
   have:=K3 h5 (c:=a) (by grind);grind
  exact absurd h4 h3
 rename_i h4;have:=LF h2.1 (c:=a) (by grind);grind
theorem IA{p:AH} {x:List Rat} (h:D4 p x=true):AU p=true/\DI p x=true/\∀i,i<p.rows.length->EM (p.r i).kind (Bs (p.r i).terms x) (p.r i).bound=true:=by
 unfold D4 at h;simp only[Bool.and_eq_true,decide_eq_true_eq] at h;refine⟨h.1.1,h.1.2,fun i hi=>?_⟩;have h1:=Fg.1 h.2 i hi;unfold CC at h1;rwa [LO x (D5 (BR h.1.1 hi))] at h1
theorem QM{p:AH} {x y:List Rat} (hv:AU p=true) (hr:∀i,i<p.rows.length->EM (p.r i).kind (Bs (p.r i).terms x) (p.r i).bound=true) (hs:Cw p y=true):C3 p y<=AG p.vars.length (fun j=>Ax p y j*Am x j):=by
 rw[NF hv];refine Du fun i hi=>?_;rw[Rat.mul_comm];exact OG (GF (BR hv hi)) (hr i hi) (A5.1 hs i hi)
theorem Ip{p:AH} {x y:List Rat} {b:Rat} (hb:FF p y=some b) (hx:DI p x=true) (hr:∀i,i<p.rows.length->EM (p.r i).kind (Bs (p.r i).terms x) (p.r i).bound=true):b<=Al p x:=by
 unfold FF at hb;split at hb
 ·rename_i hv;rw[Bool.and_eq_true] at hv;obtain⟨l,hl,rfl⟩:=Option.map_eq_some_iff.1 hb;have h1:=NW hl hx;have h2:=QM hv.1 hr hv.2;have h3:AG p.vars.length (fun i=>Am (AP p.vars.length fun i=>((p.v i).co:Rat)-Ax p y i) i*Am x i)=Al p x-AG p.vars.length (fun j=>Ax p y j*Am x j):=by
   unfold Al;rw[<- B8];refine AE fun i hi=>?_;rw[BH _ hi];grind
  rw[h3] at h1;grind
 cases hb
theorem L5{p:AH} {x:List Rat} (hx:DI p x=true):CS p=false:=by
 unfold CS;rw[Bool.not_eq_false'];refine A5.2 fun i hi=>?_;have h:=A5.1 hx i hi;simp only[Bool.and_eq_true,Bool.or_eq_true,decide_eq_true_eq] at h ⊢;rcases h.2 with h2|h2
 ·exact .inl h2
 exact .inr (by have:=Rat.le_trans h.1 h2;exact Rat.intCast_le_intCast.1 this)
theorem I7{p:AH} {x y:List Rat} (hi:JB p y=true) (hx:DI p x=true) (hr:∀i,i<p.rows.length->EM (p.r i).kind (Bs (p.r i).terms x) (p.r i).bound=true):False:=by
 unfold JB at hi;rw[L5 hx] at hi;simp only[Bool.and_eq_true,Bool.false_or] at hi;obtain⟨⟨hv,hs⟩,h⟩:=hi;split at h
 ·rename_i l hl;have h1:=NW hl hx;have h2:=QM hv hr hs;have h3:AG p.vars.length (fun i=>Am (AP p.vars.length fun i=>-Ax p y i) i*Am x i)=0-AG p.vars.length (fun j=>Ax p y j*Am x j):=by
   rw[<- Cg p.vars.length,<- B8];refine AE fun i hi=>?_;rw[BH _ hi];grind
  rw[h3] at h1;have:=of_decide_eq_true h;grind
 cases h
theorem JH{p:AH} {x z:List Rat} (h:Mg p x z=true):D4 p x=true/\Al p z<0/\(∀i,i<p.vars.length->0<=Am z i/\(0<Am z i->(p.v i).op=true))/\∀i,i<p.rows.length->EM (p.r i).kind (Bs (p.r i).terms z) 0=true:=by
 unfold Mg at h;simp only[Bool.and_eq_true,decide_eq_true_eq] at h;obtain⟨⟨⟨h1,h2⟩,h3⟩,h4⟩:=h;refine⟨h1,h2,fun i hi=>?_,fun i hi=>?_⟩
 ·have h5:=A5.1 h3 i hi;simp only[Bool.and_eq_true,Bool.or_eq_true,Bool.not_eq_true',decide_eq_false_iff_not] at h5;exact⟨Rat.not_lt.1 h5.1,fun h6=>h5.2.elim (fun h7=>absurd h6 h7) id⟩
 have h5:=A5.1 h4 i hi;rwa [LO z (D5 (BR (IA h1).1 hi))] at h5
theorem NQ{p:AH} {x y z:List Rat} (h:Mg p x z=true) {b:Rat} (hb:FF p y=some b):False:=by
 obtain⟨hf,hc,hz,hr⟩:=JH h;unfold FF at hb;split at hb
 ·rename_i hv;rw[Bool.and_eq_true] at hv;obtain⟨l,hl,rfl⟩:=Option.map_eq_some_iff.1 hb;obtain⟨_,hlow,_⟩:=Ep hl;have h1:0<=AG p.vars.length (fun i=>(((p.v i).co:Rat)-Ax p y i)*Am z i):=by
   rw[<- Cg p.vars.length];refine Du fun i hi=>?_;obtain⟨g1,g2⟩:=hz i hi;by_cases g3:0<Am z i
   ·have h5:=A5.1 hlow i hi;rw[BH _ hi,g2 g3] at h5;simp only[Bool.true_and,Bool.not_eq_true',decide_eq_false_iff_not] at h5;have:=Rat.mul_le_mul_of_nonneg_right (Rat.not_lt.1 h5) g1;grind
   have:Am z i=0:=Rat.le_antisymm (Rat.not_lt.1 g3) g1;rw[this];grind
  have h2:0<=AG p.vars.length (fun j=>Ax p y j*Am z j):=by
   rw[NF hv.1,<- Cg p.rows.length];refine Du fun i hi=>?_;have:=OG (GF (BR hv.1 hi)) (hr i hi) (A5.1 hv.2 i hi);grind
  have h3:AG p.vars.length (fun i=>(((p.v i).co:Rat)-Ax p y i)*Am z i)=Al p z-AG p.vars.length (fun j=>Ax p y j*Am z j):=by
   unfold Al;rw[<- B8];exact AE fun i hi=>by grind
  grind
 cases hb
theorem BZ{α:Type} {l:List α} {i:Nat} (h:i<l.length) (d:α):l.getD i d=l[i]:=by
 rw[List.getD_eq_getElem?_getD,List.getElem?_eq_getElem h];rfl
def Sl(w:World) (v:Value) (m:Nat) (cs:List (List Value)):Prop :=
 ∃ao c,v=.slice ao cs.length c/\cs.length<=c/\c<=maxLen/\(ao=none->c=0)/\(0<cs.length->∃b off,ao=some ⟨b,off,none⟩/\b<w.heap.size/\∀i r,cs[i]?=some r->∀j u,r[j]?=some u->w.cell? ⟨b,off+i*m+j,none⟩=some u)
theorem Sl.keep{w w':World} {v:Value} {m:Nat} {cs:List (List Value)} (h:Sl w v m cs) (hx:XF w w'):Sl w' v m cs:=by
 obtain⟨ao,c,rfl,h1,h2,h3,h4⟩:=h;refine⟨ao,c,rfl,h1,h2,h3,fun hp=>?_⟩;obtain⟨b,off,e,hb,hc⟩:=h4 hp;exact⟨b,off,e,Nat.lt_of_lt_of_le hb hx.size,fun i r hi j u hu=>(hx.cell (p:=⟨b,off+i*m+j,none⟩) hb id).trans (hc i r hi j u hu)⟩
theorem Sl.nil(w:World) (m:Nat):Sl w (.slice none 0 0) m []:=⟨none,0,rfl,Nat.le_refl _,Nat.zero_le _,fun _=>rfl,fun h=>absurd h (Nat.lt_irrefl 0)⟩
theorem Sl.shape{w:World} {v:Value} {m:Nat} {cs:List (List Value)} (h:Sl w v m cs):∃ao c,v=.slice ao cs.length c/\(ao=none->c=0)/\cs.length<=9223372036854775807/\cs.length<=c:=by
 obtain⟨ao,c,rfl,h1,h2,h3,_⟩:=h;exact⟨ao,c,rfl,h3,(by unfold maxLen at h2;omega),h1⟩
theorem Sl.at{w:World} {ao:Option Addr} {n c m:Nat} {cs:List (List Value)} (h:Sl w (.slice ao n c) m cs) {i:Nat} {r:List Value} (hi:cs[i]?=some r) :
  ∃b off,ao=some ⟨b,off,none⟩/\b<w.heap.size/\∀j u,r[j]?=some u->w.cell? ⟨b,off+i*m+j,none⟩=some u:=by
 obtain⟨ao',c',e,h1,h2,h3,h4⟩:=h;cases e;obtain⟨b,off,e,hb,hc⟩:=h4 (by have:=(List.getElem?_eq_some_iff.1 hi).1;omega);exact⟨b,off,e,hb,hc i r hi⟩
def EX(n:Int):Prop:=-9223372036854775808<=n/\n<=9223372036854775807
def cV(v:Ey):List Value:=[.int .i64 v.lo,.int .i64 v.up,.bool v.op,.bool v.ig,.int .i64 v.co]
def cT(t:B1):List Value:=[.int .i64 t.var,.int .i64 t.coef]
def cR(r:DD) (tv:Value):List Value:=[.string r.name,.int .i64 r.group,.int .i64 r.kind,tv,.int .i64 r.bound]
structure N2(v:Ey):Prop where
 lo:EX v.lo
 up:EX v.up
 co:EX v.co
structure Fp(t:B1):Prop where
 var:EX t.var
 coef:EX t.coef
structure E9(r:DD):Prop where
 name:r.name.size<=maxLen
 group:EX r.group
 kind:EX r.kind
 bound:EX r.bound
def G8(w:World) (v:Value) (l:List B1):Prop:=Sl w v 2 (l.map cT)/\∀t∈l,Fp t
def Ju(w:World) (v:Value) (l:List Ey):Prop:=Sl w v 5 (l.map cV)/\∀x∈l,N2 x
def LX(w:World) (v:Value) (l:List DD):Prop:=∃tvs:List Value,tvs.length=l.length/\Sl w v 5 (List.zipWith cR l tvs)/\∀(i:Nat) r tv,l[i]?=some r->tvs[i]?=some tv->G8 w tv r.terms/\E9 r
def B2(w:World) (v:Value) (l:List Rat) (L:Nat):Prop:=∃cs:List (List Value),cs.length=l.length/\Sl w v 3 cs/\∀(i:Nat) c q,cs[i]?=some c->l[i]?=some q->BA w (.agg c.toArray) q L
def Ba(w:World) (v:Value) (p:AH):Prop:=∃vv rv,v=.agg #[vv,rv]/\Ju w vv p.vars/\LX w rv p.rows
section
variable {w w':World} {v:Value}
theorem G8.keep{l:List B1} (h:G8 w v l) (hx:XF w w'):G8 w' v l:=⟨h.1.keep hx,h.2⟩
theorem Ju.keep{l:List Ey} (h:Ju w v l) (hx:XF w w'):Ju w' v l:=⟨h.1.keep hx,h.2⟩
theorem LX.keep{l:List DD} (h:LX w v l) (hx:XF w w'):LX w' v l:=by
 obtain⟨tvs,h1,h2,h3⟩:=h;exact⟨tvs,h1,h2.keep hx,fun i r tv hr ht=>⟨(h3 i r tv hr ht).1.keep hx,(h3 i r tv hr ht).2⟩⟩
theorem B2.keep{l:List Rat} {L:Nat} (h:B2 w v l L) (hx:XF w w'):B2 w' v l L:=by
 obtain⟨cs,h1,h2,h3⟩:=h;exact⟨cs,h1,h2.keep hx,fun i c q hc hq=>(h3 i c q hc hq).keep hx⟩
theorem B2.nil(w:World) (L:Nat):B2 w (.slice none 0 0) [] L:=⟨[],rfl,Sl.nil w 3,fun i c q hc=>by simp at hc⟩
theorem Ba.keep{p:AH} (h:Ba w v p) (hx:XF w w'):Ba w' v p:=by
 obtain⟨vv,rv,h1,h2,h3⟩:=h;exact⟨vv,rv,h1,h2.keep hx,h3.keep hx⟩
theorem G8.shape{l:List B1} (h:G8 w v l):∃ao c,v=.slice ao l.length c/\(ao=none->c=0)/\l.length<=9223372036854775807/\l.length<=c:=by
 obtain⟨ao,c,h1,h2⟩:=h.1.shape;rw[List.length_map] at h1 h2;exact⟨ao,c,h1,h2⟩
theorem Ju.shape{l:List Ey} (h:Ju w v l):∃ao c,v=.slice ao l.length c/\(ao=none->c=0)/\l.length<=9223372036854775807/\l.length<=c:=by
 obtain⟨ao,c,h1,h2⟩:=h.1.shape;rw[List.length_map] at h1 h2;exact⟨ao,c,h1,h2⟩
theorem LX.shape{l:List DD} (h:LX w v l):∃ao c,v=.slice ao l.length c/\(ao=none->c=0)/\l.length<=9223372036854775807/\l.length<=c:=by
 obtain⟨tvs,h0,h1,_⟩:=h;obtain⟨ao,c,h1,h2⟩:=h1.shape;rw[List.length_zipWith,h0,Nat.min_self] at h1 h2;exact⟨ao,c,h1,h2⟩
theorem B2.shape{l:List Rat} {L:Nat} (h:B2 w v l L):∃ao c,v=.slice ao l.length c/\(ao=none->c=0)/\l.length<=9223372036854775807/\l.length<=c:=by
 obtain⟨cs,h0,h1,_⟩:=h;obtain⟨ao,c,h1,h2⟩:=h1.shape;rw[h0] at h1 h2;exact⟨ao,c,h1,h2⟩
theorem G8.at{ao:Option Addr} {n c:Nat} {l:List B1} (h:G8 w (.slice ao n c) l) (i:Nat) (hi:i<l.length):∃b off,ao=some ⟨b,off,none⟩/\b<w.heap.size /\
  w.cell? ⟨b,off+i*2,none⟩=some (.int .i64 (l.getD i AW).var)/\w.cell? ⟨b,off+i*2+1,none⟩=some (.int .i64 (l.getD i AW).coef)/\Fp (l.getD i AW):=by
 rw[BZ hi AW];obtain⟨b,off,h1,h2,h3⟩:=h.1.at (i:=i) (r:=cT l[i]) (by rw[List.getElem?_map,List.getElem?_eq_getElem hi];rfl);exact⟨b,off,h1,h2,h3 0 _ rfl,h3 1 _ rfl,h.2 _ (List.getElem_mem hi)⟩
theorem Ju.at{ao:Option Addr} {n c:Nat} {l:List Ey} (h:Ju w (.slice ao n c) l) (i:Nat) (hi:i<l.length):∃b off,ao=some ⟨b,off,none⟩/\b<w.heap.size /\
  w.cell? ⟨b,off+i*5,none⟩=some (.int .i64 (l.getD i Fs).lo)/\w.cell? ⟨b,off+i*5+1,none⟩=some (.int .i64 (l.getD i Fs).up)/\w.cell? ⟨b,off+i*5+2,none⟩=some (.bool (l.getD i Fs).op)/\w.cell? ⟨b,off+i*5+3,none⟩=some (.bool (l.getD i Fs).ig)/\w.cell? ⟨b,off+i*5+4,none⟩=some (.int .i64 (l.getD i Fs).co)/\N2 (l.getD i Fs):=by
 rw[BZ hi Fs];obtain⟨b,off,h1,h2,h3⟩:=h.1.at (i:=i) (r:=cV l[i]) (by rw[List.getElem?_map,List.getElem?_eq_getElem hi];rfl);exact⟨b,off,h1,h2,h3 0 _ rfl,h3 1 _ rfl,h3 2 _ rfl,h3 3 _ rfl,h3 4 _ rfl,h.2 _ (List.getElem_mem hi)⟩
theorem LX.at{ao:Option Addr} {n c:Nat} {l:List DD} (h:LX w (.slice ao n c) l) (i:Nat) (hi:i<l.length):∃b off ta tc,ao=some ⟨b,off,none⟩/\b<w.heap.size /\
  w.cell? ⟨b,off+i*5,none⟩=some (.string (l.getD i GC).name)/\w.cell? ⟨b,off+i*5+1,none⟩=some (.int .i64 (l.getD i GC).group)/\w.cell? ⟨b,off+i*5+2,none⟩=some (.int .i64 (l.getD i GC).kind)/\w.cell? ⟨b,off+i*5+3,none⟩=some (.slice ta (l.getD i GC).terms.length tc)/\w.cell? ⟨b,off+i*5+4,none⟩=some (.int .i64 (l.getD i GC).bound)/\E9 (l.getD i GC)/\G8 w (.slice ta (l.getD i GC).terms.length tc) (l.getD i GC).terms:=by
 rw[BZ hi GC];obtain⟨tvs,h0,h1,h2⟩:=h;have hi':i<tvs.length:=by omega
 obtain⟨b,off,g1,g2,g3⟩:=h1.at (i:=i) (r:=cR l[i] tvs[i]) (by rw[List.getElem?_zipWith,List.getElem?_eq_getElem hi,List.getElem?_eq_getElem hi']);obtain⟨k1,k2⟩:=h2 i _ _ (List.getElem?_eq_getElem hi) (List.getElem?_eq_getElem hi');obtain⟨ta,tc,e,_⟩:=k1.shape;rw[e] at k1;have g4:=g3 3 _ rfl;rw[e] at g4;exact⟨b,off,ta,tc,g1,g2,g3 0 _ rfl,g3 1 _ rfl,g3 2 _ rfl,g4,g3 4 _ rfl,k2,k1⟩
theorem B2.at{ao:Option Addr} {n c:Nat} {l:List Rat} {L:Nat} (h:B2 w (.slice ao n c) l L) (i:Nat) (hi:i<l.length):∃b off neg a1 m1 c1 a2 m2 c2,ao=some ⟨b,off,none⟩/\b<w.heap.size /\
  w.cell? ⟨b,off+i*3,none⟩=some (.bool neg)/\w.cell? ⟨b,off+i*3+1,none⟩=some (.slice a1 m1 c1)/\w.cell? ⟨b,off+i*3+2,none⟩=some (.slice a2 m2 c2)/\BA w (.agg #[.bool neg,.slice a1 m1 c1,.slice a2 m2 c2]) (Am l i) L:=by
 rw[U8 l hi];obtain⟨cs,h0,h1,h2⟩:=h;have hi':i<cs.length:=by omega
 obtain⟨b,off,g1,g2,g3⟩:=h1.at (i:=i) (List.getElem?_eq_getElem hi');have k1:=h2 i _ _ (List.getElem?_eq_getElem hi') (List.getElem?_eq_getElem hi);obtain⟨neg,a1,m1,c1,a2,m2,c2,_,_,e,_⟩:=k1.open;rw[e] at k1;have ec:cs[i]=[.bool neg,.slice a1 m1 c1,.slice a2 m2 c2]:=by
  injection e with e;have:=congrArg Array.toList e;simpa using this
 rw[ec] at g3;exact⟨b,off,neg,a1,m1,c1,a2,m2,c2,g1,g2,g3 0 _ rfl,g3 1 _ rfl,g3 2 _ rfl,k1⟩
theorem BA.zero(w:World) (L:Nat):BA w (.agg #[.bool false,.slice none 0 0,.slice none 0 0]) 0 L :=
 ⟨false,_,_,[],[],rfl,Ad.nil w,Nat.zero_le _,Ad.nil w,Nat.zero_le _,rfl⟩
theorem AN.zero(w:World):AN w (.agg #[.bool false,.slice none 0 0,.slice none 0 0]) 0:=⟨_,_,rfl,Ab.nil w,Ab.nil w⟩
end
theorem Ju.atp{w:World} {p:AH} {ao:Option Addr} {n c:Nat} (h:Ju w (.slice ao n c) p.vars) (i:Nat) (hi:i<p.vars.length):∃b off,ao=some ⟨b,off,none⟩/\b<w.heap.size /\
  w.cell? ⟨b,off+i*5,none⟩=some (.int .i64 (p.v i).lo)/\w.cell? ⟨b,off+i*5+1,none⟩=some (.int .i64 (p.v i).up)/\w.cell? ⟨b,off+i*5+2,none⟩=some (.bool (p.v i).op)/\w.cell? ⟨b,off+i*5+3,none⟩=some (.bool (p.v i).ig)/\w.cell? ⟨b,off+i*5+4,none⟩=some (.int .i64 (p.v i).co)/\N2 (p.v i):=h.at i hi
theorem LX.atp{w:World} {p:AH} {ao:Option Addr} {n c:Nat} (h:LX w (.slice ao n c) p.rows) (i:Nat) (hi:i<p.rows.length):∃b off ta tc,ao=some ⟨b,off,none⟩/\b<w.heap.size /\
  w.cell? ⟨b,off+i*5,none⟩=some (.string (p.r i).name)/\w.cell? ⟨b,off+i*5+1,none⟩=some (.int .i64 (p.r i).group)/\w.cell? ⟨b,off+i*5+2,none⟩=some (.int .i64 (p.r i).kind)/\w.cell? ⟨b,off+i*5+3,none⟩=some (.slice ta (p.r i).terms.length tc)/\w.cell? ⟨b,off+i*5+4,none⟩=some (.int .i64 (p.r i).bound)/\E9 (p.r i)/\G8 w (.slice ta (p.r i).terms.length tc) (p.r i).terms:=h.at i hi
theorem G8.atr{w:World} {r:DD} {ao:Option Addr} {n c:Nat} (h:G8 w (.slice ao n c) r.terms) (i:Nat) (hi:i<r.terms.length):∃b off,ao=some ⟨b,off,none⟩/\b<w.heap.size /\
  w.cell? ⟨b,off+i*2,none⟩=some (.int .i64 (r.t i).var)/\w.cell? ⟨b,off+i*2+1,none⟩=some (.int .i64 (r.t i).coef)/\Fp (r.t i):=h.at i hi
theorem AH.r_at(p:AH) {i:Nat} (h:i<p.rows.length):p.rows[i]=p.r i:=(BZ h _).symm
theorem DD.t_at(r:DD) {i:Nat} (h:i<r.terms.length):r.terms[i]=r.t i:=(BZ h _).symm
theorem Sz.mono{q:Rat} {L M:Nat} (h:Sz q L) (hl:L<=M):Sz q M:=⟨Nat.le_trans h.1 hl,Nat.le_trans h.2 hl⟩
theorem JX{q:Rat} {L:Nat} (h:Sz q L):q.den<4294967296 ^ L:=Nat.lt_of_lt_of_le (CP _) (An h.2)
theorem Mu{q:Rat} {L:Nat} (h:Sz q L):q.num.natAbs<4294967296 ^ L:=Nat.lt_of_lt_of_le (CP _) (An h.1)
theorem Sz.add{q q':Rat} {L M:Nat} (h:Sz q L) (h':Sz q' M):Sz (q+q') (L+M+1):=by
 have e:q+q'=mkRat (q.num*(q'.den:Int)+q'.num*(q.den:Int)) (q.den*q'.den):=by
  rw[<- Rat.mkRat_add_mkRat _ _ q.den_nz q'.den_nz,Rat.mkRat_self,Rat.mkRat_self]
 rw[e];have h1:(dg (q.num*(q'.den:Int)).natAbs).length<=L+M:=by
  rw[Int.natAbs_mul,Int.natAbs_natCast];exact Bk (Mu h) (JX h')
 have h2:(dg (q'.num*(q.den:Int)).natAbs).length<=L+M:=by
  rw[Int.natAbs_mul,Int.natAbs_natCast];have:=Bk (Mu h') (JX h);omega
 refine Ij (Nat.mul_pos q.den_pos q'.den_pos) (I8 h1 h2) (Nat.le_trans (Bk (JX h) (JX h')) (Nat.le_succ _)) (Nat.le_refl _)
theorem Sz.mul{q q':Rat} {L M:Nat} (h:Sz q L) (h':Sz q' M):Sz (q*q') (L+M):=by
 have e:q*q'=mkRat (q.num*q'.num) (q.den*q'.den):=by
  rw[<- Rat.mkRat_mul_mkRat,Rat.mkRat_self,Rat.mkRat_self]
 rw[e];refine Ij (Nat.mul_pos q.den_pos q'.den_pos) ?_ (Bk (JX h) (JX h')) (Nat.le_refl _);rw[Int.natAbs_mul];exact Bk (Mu h) (Mu h')
theorem Sz.sub{q q':Rat} {L M:Nat} (h:Sz q L) (h':Sz q' M):Sz (q-q') (L+M+1):=by
 rw[Rat.sub_eq_add_neg];exact h.add h'.neg
theorem Sz.int{k:Int} (h:EX k):Sz (k:Rat) 2:=by
 constructor
 ·rw[Rat.num_intCast];refine As ?_;have:(4294967296:Nat) ^ 2=18446744073709551616:=(by decide);rw[this];unfold EX at h;omega
 rw[Rat.den_intCast];exact As (k:=2) (by decide)
theorem Sz.zero:Sz 0 1:=⟨As (k:=1) (by decide),As (k:=1) (by decide)⟩
def PJ(w:World) (q:Rat) (L:Nat) (r:Ending) (w':World):Prop:=∃u,r=.returned u/\BA w' u q L/\XF w w'
theorem TI.rrat{w w':World} {r:Nat} {neg:Bool} {mag den v:Value} {q:Rat} {L:Nat} (h:TI w w' r neg mag den) (hi:BA w v q L):BA w' v q L:=by
 obtain⟨n,m,d,l,k,h1,h2,h3,h4,h5⟩:=hi;exact⟨n,m,d,l,k,h1,h.rds _ _ h2,h3,h.rds _ _ h4,h5⟩
theorem JF{w w1:World} {r:Nat} {neg n0:Bool} {a1 a2:Option Addr} {m1 c1 m2 c2:Nat} {q:Rat} {L:Nat} {x0 y0:Value} (hb:Aj w1 r n0 x0 y0) (hr:w.heap.size<=r) (hx:XF w w1)
  (h:BA w1 (.agg #[.bool neg,.slice a1 m1 c1,.slice a2 m2 c2]) q L) :
  Aj (((w1.setCell ⟨r,0,none⟩ (.bool neg)).setCell ⟨r,1,none⟩ (.slice a1 m1 c1)).setCell ⟨r,2,none⟩ (.slice a2 m2 c2)) r neg (.slice a1 m1 c1) (.slice a2 m2 c2) /\
   PJ w q L (.returned (.agg #[.bool neg,.slice a1 m1 c1,.slice a2 m2 c2])) (((w1.setCell ⟨r,0,none⟩ (.bool neg)).setCell ⟨r,1,none⟩ (.slice a1 m1 c1)).setCell ⟨r,2,none⟩ (.slice a2 m2 c2)) :=
 have hp:=hb.put (neg:=neg) (AF a1 m1 c1) (AF a2 m2 c2)
 ⟨hp.box,_,rfl,hp.rrat h,hx.own hp.ext (fun k e=>by omega)⟩
theorem Pm(w:World) (v:Value) (l:List Rat) (L:Nat) (h:B2 w v l L) (i:Int):Calls prog 169 #[v,.int .i64 i] w (PJ w (Am l i) L):=by
 obtain⟨ao,c,rfl,_,hn,_⟩:=h.shape;have hb:=AO (W:=w) rfl false none 0 0 none 0 0;have hx:=(AK.refl (fun _=>False) w).alloc (.cells #[.bool false,.slice none 0 0,.slice none 0 0] 34);have H:=bH (h.keep hx);have HB:=bH (bI hb hx);clear h;go_enter func169,ntmps169;go_upto_region 1 with fail;clear hb hx;generalize w.alloc (.cells #[.bool false,.slice none 0 0,.slice none 0 0] 34)=w1 at *;obtain⟨d0,d1,d2,d3,d4,d5⟩:=HB.o.1.facts;have hz:∀q,q=0->BA w1 (.agg #[.bool false,.slice none 0 0,.slice none 0 0]) q L:=fun q hq=>by subst hq;exact BA.zero w1 L
 by_cases h0:i<0
 ·obtain⟨hp,ha⟩:=JF HB.o.1 (Nat.le_refl _) HB.o.2 (hz _ (G1 l h0));have HP:=bH (bI hp ha);clear hp ha hz;generalize l.length=n at *;go_wp2;generalize ((w1.setCell ⟨w.heap.size,0,none⟩ (.bool false)).setCell ⟨w.heap.size,1,none⟩ (.slice none 0 0)).setCell ⟨w.heap.size,2,none⟩ (.slice none 0 0)=w9 at *;obtain⟨g0,g1,g2,_⟩:=HP.o.1.facts;exact bodyPost_ret (v:=.agg #[.bool false,.slice none 0 0,.slice none 0 0]) (by simp[results,results169,go_sem,g0,g1,g2]) rfl HP.o.2
 by_cases h1:(l.length:Int)<=i
 ·obtain⟨hp,ha⟩:=JF HB.o.1 (Nat.le_refl _) HB.o.2 (hz _ (Gw l h1));have HP:=bH (bI hp ha);clear hp ha hz;generalize l.length=n at *;go_wp2;generalize ((w1.setCell ⟨w.heap.size,0,none⟩ (.bool false)).setCell ⟨w.heap.size,1,none⟩ (.slice none 0 0)).setCell ⟨w.heap.size,2,none⟩ (.slice none 0 0)=w9 at *;obtain⟨g0,g1,g2,_⟩:=HP.o.1.facts;exact bodyPost_ret (v:=.agg #[.bool false,.slice none 0 0,.slice none 0 0]) (by simp[results,results169,go_sem,g0,g1,g2]) rfl HP.o.2
 obtain⟨j,rfl⟩:∃j:Nat,i=j:=⟨i.toNat,by omega⟩;have hj:j<l.length:=(by omega);obtain⟨b,off,neg,a1,m1,c1,a2,m2,c2,rfl,hlt,e0,e1,e2,hq⟩:=H.o.at j hj;obtain⟨hp,ha⟩:=JF HB.o.1 (Nat.le_refl _) HB.o.2 hq;have HP:=bH (bI hp ha);clear hp ha hq hz H;have j0:(0:Int)<=(j:Int):=(by omega);have j1:(j:Int)<(l.length:Int):=(by omega);generalize l.length=n at *;go_wp2;generalize ((w1.setCell ⟨w.heap.size,0,none⟩ (.bool neg)).setCell ⟨w.heap.size,1,none⟩ (.slice a1 m1 c1)).setCell ⟨w.heap.size,2,none⟩ (.slice a2 m2 c2)=w9 at *;obtain⟨g0,g1,g2,_⟩:=HP.o.1.facts;exact bodyPost_ret (v:=.agg #[.bool neg,.slice a1 m1 c1,.slice a2 m2 c2]) (by simp[results,results169,go_sem,g0,g1,g2]) rfl HP.o.2
theorem Gj(w:World) (v:Value) (l:List Rat) (L:Nat) (h:B2 w v l L) (i:Int):Calls prog 60 #[v,.int .i64 i] w (PJ w (Am l i) L):=by
 obtain⟨ao,c,rfl,_,hn,_⟩:=h.shape;have hb:=AO (W:=w) rfl false none 0 0 none 0 0;have hx:=(AK.refl (fun _=>False) w).alloc (.cells #[.bool false,.slice none 0 0,.slice none 0 0] 34);have H:=bH (h.keep hx);have HB:=bH (bI hb hx);clear h;go_enter func60,ntmps60;go_upto_region 1 with fail;clear hb hx;generalize w.alloc (.cells #[.bool false,.slice none 0 0,.slice none 0 0] 34)=w1 at *;obtain⟨d0,d1,d2,d3,d4,d5⟩:=HB.o.1.facts;have hz:∀q,q=0->BA w1 (.agg #[.bool false,.slice none 0 0,.slice none 0 0]) q L:=fun q hq=>by subst hq;exact BA.zero w1 L
 by_cases h0:i<0
 ·obtain⟨hp,ha⟩:=JF HB.o.1 (Nat.le_refl _) HB.o.2 (hz _ (G1 l h0));have HP:=bH (bI hp ha);clear hp ha hz;generalize l.length=n at *;go_wp2;generalize ((w1.setCell ⟨w.heap.size,0,none⟩ (.bool false)).setCell ⟨w.heap.size,1,none⟩ (.slice none 0 0)).setCell ⟨w.heap.size,2,none⟩ (.slice none 0 0)=w9 at *;obtain⟨g0,g1,g2,_⟩:=HP.o.1.facts;exact bodyPost_ret (v:=.agg #[.bool false,.slice none 0 0,.slice none 0 0]) (by simp[results,results60,go_sem,g0,g1,g2]) rfl HP.o.2
 by_cases h1:(l.length:Int)<=i
 ·obtain⟨hp,ha⟩:=JF HB.o.1 (Nat.le_refl _) HB.o.2 (hz _ (Gw l h1));have HP:=bH (bI hp ha);clear hp ha hz;generalize l.length=n at *;go_wp2;generalize ((w1.setCell ⟨w.heap.size,0,none⟩ (.bool false)).setCell ⟨w.heap.size,1,none⟩ (.slice none 0 0)).setCell ⟨w.heap.size,2,none⟩ (.slice none 0 0)=w9 at *;obtain⟨g0,g1,g2,_⟩:=HP.o.1.facts;exact bodyPost_ret (v:=.agg #[.bool false,.slice none 0 0,.slice none 0 0]) (by simp[results,results60,go_sem,g0,g1,g2]) rfl HP.o.2
 obtain⟨j,rfl⟩:∃j:Nat,i=j:=⟨i.toNat,by omega⟩;have hj:j<l.length:=(by omega);obtain⟨b,off,neg,a1,m1,c1,a2,m2,c2,rfl,hlt,e0,e1,e2,hq⟩:=H.o.at j hj;obtain⟨hp,ha⟩:=JF HB.o.1 (Nat.le_refl _) HB.o.2 hq;have HP:=bH (bI hp ha);clear hp ha hq hz H;have j0:(0:Int)<=(j:Int):=(by omega);have j1:(j:Int)<(l.length:Int):=(by omega);generalize l.length=n at *;go_wp2;generalize ((w1.setCell ⟨w.heap.size,0,none⟩ (.bool neg)).setCell ⟨w.heap.size,1,none⟩ (.slice a1 m1 c1)).setCell ⟨w.heap.size,2,none⟩ (.slice a2 m2 c2)=w9 at *;obtain⟨g0,g1,g2,_⟩:=HP.o.1.facts;exact bodyPost_ret (v:=.agg #[.bool neg,.slice a1 m1 c1,.slice a2 m2 c2]) (by simp[results,results60,go_sem,g0,g1,g2]) rfl HP.o.2
theorem BA.shape{w:World} {v:Value} {q:Rat} {L:Nat} (h:BA w v q L):∃neg a1 m1 c1 a2 m2 c2,v=.agg #[.bool neg,.slice a1 m1 c1,.slice a2 m2 c2]:=by
 obtain⟨neg,a1,m1,c1,a2,m2,c2,_,_,h,_⟩:=h.open;exact⟨neg,a1,m1,c1,a2,m2,c2,h⟩
def Ie(w:World) (k:Int) (q:Rat) (L:Nat) (r:Ending) (w':World):Prop:=∃u,r=.returned (.tuple #[.int .i64 k,u])/\BA w' u q L/\XF w w'
theorem By(q:Rat):q.num.sign=0↔q=0:=by
 constructor
 ·intro h;have:=Int.sign_eq_zero_iff_zero.1 h;exact Rat.num_eq_zero.1 this
 intro h;subst h;rfl
theorem Dl{f:Nat->Int} {g:Nat->Rat} {L:Nat} {n:Nat} (hf:∀i,i<n->EX (f i)) (hg:∀i,i<n->Sz (g i) L):∀i,i<=n->Sz (AG i fun j=>(f j:Rat)*g j) (1+i*(L+3))
 | 0,_=>Sz.zero.mono (by omega)
 | i+1,hi=>by
  have h1:=Dl hf hg i (by omega);have h2:=(Sz.int (hf i (by omega))).mul (hg i (by omega));have e:1+i*(L+3)+(2+L)+1=1+(i+1)*(L+3):=(by rw[Nat.succ_mul];omega);exact (h1.add h2).mono (Nat.le_of_eq e)
def MA(w w0:World) (r s n i:Nat) (q:Rat):Prop:=∃neg a1 m1 c1 a2 m2 c2,Aj w s neg (.slice a1 m1 c1) (.slice a2 m2 c2)/\AN w (.agg #[.bool neg,.slice a1 m1 c1,.slice a2 m2 c2]) q/\Aj w r false (.slice none 0 0) (.slice none 0 0)/\XF w0 w
theorem MA.keep{w w' w0:World} {r s n i:Nat} {q:Rat} (h:MA w w0 r s n i q) (hx:XF w w'):MA w' w0 r s n i q:=by
 obtain⟨neg,a1,m1,c1,a2,m2,c2,h1,h2,h3,h4⟩:=h;exact⟨neg,a1,m1,c1,a2,m2,c2,h1.ext hx id,h2.keep hx,h3.ext hx id,h4.trans hx⟩
theorem Nj(w:World) (n:Nat) (F:Nat) (caps:Array Value) (f:Nat->Int) (g:Nat->Rat) (L:Nat) (h1:1<=L) (hL:1+n*(L+3)+(L+3)<=4000000) (hf:∀i,i<n->EX (f i)) (hg:∀i,i<n->Sz (g i) L)
  (eg:∀args W,(callFunc F args).run prog W=.ok (.enter F args) W)
  (H:∀W,XF w W->∀i:Nat,i<n->Calls prog F (#[.int .i64 i]++caps) W (Ie W (f i) (g i) L)) :
  Calls prog 167 #[.int .i64 n,.func (.func F) #[] caps] w (Aw w (AG n fun i=>(f i:Rat)*g i)):=by
 have hn:n<=4000000:=by
  have:=Nat.le_mul_of_pos_right n (show 0<L+3 by omega);omega
 have H0:=bH H;have HF:=bH hf;have HG:=bH hg;clear H hf hg;have HZ:=bH (fun W=>Bx W 0 (by omega) (by omega));go_enter func167,ntmps167;go_wp2_with fail;refine (HZ.o _).mono ?_;rintro r1 w1 ⟨v1,rfl,hv1,hx1⟩;obtain⟨neg,a1,m1,c1,a2,m2,c2,rfl⟩:=hv1.shape;have hx0:=(AK.refl (fun _=>False) w).alloc (.cells #[.bool false,.slice none 0 0,.slice none 0 0] 34);have hr0:=(AO (W:=w) rfl false none 0 0 none 0 0).ext hx1 id;go_upto_region 2 with fail;have HS:Hid (MA (w1.alloc (.cells #[.bool neg,.slice a1 m1 c1,.slice a2 m2 c2] 34)) w w.heap.size w1.heap.size n 0 (AG 0 fun j=>(f j:Rat)*g j)) :=
  bH ⟨neg,a1,m1,c1,a2,m2,c2,AO rfl _ _ _ _ _ _ _,hv1.keep ((AK.refl _ _).alloc _),hr0.ext ((AK.refl (fun _=>False) _).alloc _) id,(hx0.trans hx1).alloc _⟩
 have hrs:w.heap.size<w1.heap.size:=Nat.lt_of_lt_of_le (by simp) hx1.size;clear hv1 hx1 hx0 hr0 HZ;generalize w1.alloc (.cells #[.bool neg,.slice a1 m1 c1,.slice a2 m2 c2] 34)=w2 at *;generalize w1.heap.size=sb at *;go_wp2_with fail;go_loopg [11] n (fun gg v11 wr=>∃i:Nat,i<=n/\gg=n-i/\v11=.int .i64 i/\MA wr w w.heap.size sb n i (AG i fun j=>(f j:Rat)*g j));case atStart=>exact⟨0,Nat.zero_le _,rfl,rfl,HS.o⟩
 case round =>
  obtain⟨i,hi,rfl,rfl,Aa⟩:=hrel;by_cases hin:i<n
  ·have i0:(i:Int)<(n:Int):=(by omega);have HST:=bH Aa;have HC:=bH (H0.o wr (by obtain⟨_,_,_,_,_,_,_,_,_,_,h⟩:=Aa;exact h) i hin);have HFi:=bH (HF.o i hin);clear Aa HS;go_wp2_with fail;refine HC.o.mono ?_;rintro r3 w3 ⟨u3,rfl,hu3,hx3⟩;obtain⟨xn,xa,xm,xc,ya,ym,yc,rfl⟩:=hu3.shape;clear HC;go_upto_region 6 with fail;have hx34:=(AK.refl (fun _=>False) w3).alloc (.cells #[.bool xn,.slice xa xm xc,.slice ya ym yc] 34);have hbx:=AO (W:=w3) rfl xn xa xm xc ya ym yc;have hu4:=hu3.keep hx34;have hst4:=HST.o.keep (hx3.trans hx34);have hxb:wr.heap.size<=w3.heap.size:=hx3.size;obtain⟨sn,s1,sm1,sc1,s2,sm2,sc2,hsb,hsq,hsr,hsx⟩:=hst4;have hsxl:sb<wr.heap.size:=by
    obtain⟨_,_,_,_,_,_,_,h,_⟩:=HST.o;exact h.lt
   have HB:=bH (bI hsb (bI hbx (bI hsr hsx)));have HQ:=bH (bI hsq hu4);have hzero:f i=0∨g i=0->AG (i+1) (fun j=>(f j:Rat)*g j)=AG i (fun j=>(f j:Rat)*g j):=fun h=>by
    show AG i (fun j=>(f j:Rat)*g j)+(f i:Rat)*g i=_;rcases h with h|h
    ·rw[h];show _+(0:Rat)*g i=_;grind
    rw[h];grind
   have HZ0:=bH hzero;clear hzero hu3 hx3 hx34 hsb hsr hsx hsq hu4 HST hbx;obtain⟨xb,hxbe⟩:=bN w3.heap.size;rw[hxbe] at HB hxb ⊢;generalize w3.alloc (.cells #[.bool xn,.slice xa xm xc,.slice ya ym yc] 34)=w4 at *;clear hxbe;obtain⟨x0,x1,x2,_⟩:=HB.o.2.1.facts;by_cases hk:f i=0
   ·have HK:=bH hk;have hkb:(f i == 0)=true:=(by simpa using hk);go_wp2;go_roundg (n-(i+1));case measure=>omega
    case rel=>exact⟨i+1,by omega,rfl,by go_num,by rw[HZ0.o (.inl HK.o)];exact⟨_,_,_,_,_,_,_,HB.o.1,HQ.o.1,HB.o.2.2.1,HB.o.2.2.2⟩⟩
   have hk':(f i == 0)=false:=(by simpa using hk);have HG1:=bH (Bt w4 _ (g i) L HQ.o.2 (by omega));go_wp2_with fail;refine HG1.o.mono ?_;rintro r5 w5 ⟨rfl,hx5⟩;have HB5:=bH (bI (HB.o.1.ext hx5 id) (bI (HB.o.2.1.ext hx5 id) (bI (HB.o.2.2.1.ext hx5 id) (HB.o.2.2.2.trans hx5))));have HQ5:=bH (bI (HQ.o.1.keep hx5) (HQ.o.2.keep hx5));clear hx5 HB HQ HG1 x0 x1 x2;by_cases hg0:g i=0
   ·have hs0:(g i).num.sign=0:=(By _).2 hg0;have HG0:=bH hg0;rw[hs0];clear hs0 hg0;go_wp2;go_roundg (n-(i+1));case measure=>omega
    case rel=>exact⟨i+1,by omega,rfl,by go_num,by rw[HZ0.o (.inr HG0.o)];exact⟨_,_,_,_,_,_,_,HB5.o.1,HQ5.o.1,HB5.o.2.2.1,HB5.o.2.2.2⟩⟩
   have hs0:¬(g i).num.sign=0:=fun h=>hg0 ((By _).1 h);have hs1:((g i).num.sign == 0)=false:=(by simpa using hs0);have hs2:((g i).num.sign != 0)=true:=(by simpa using hs0);have hs3:decide ((g i).num.sign=0)=false:=(by simpa using hs0);have HG0:=bH hg0;clear hg0;generalize (g i).num.sign=sg0 at *;have hsz:=Dl HF.o HG.o i hi;have hszk:=(Sz.int HFi.o);have hszx:=hszk.mul (HG.o i hin);have hle:1+i*(L+3)<=1+n*(L+3):=Nat.add_le_add_left (Nat.mul_le_mul_right _ hi) 1;have HF1:=bH (fun W=>Bx W (f i) HFi.o.1 HFi.o.2);have HM1:=bH (fun W (hW:XF w5 W) u (hu:AN W u ((f i:Int):Rat))=>DW W u _ _ (g i) (L+2) (hu.reads (hszk.mono (by omega))) ((HQ5.o.2.keep hW).mono (by omega)) (by omega) (by omega));have HA1:=bH (fun W (hW:XF w5 W) u (hu:AN W u ((f i:Rat)*g i))=>GW W _ u (AG i fun j=>(f j:Rat)*g j) _ (1+n*(L+3)+(L+3)) ((HQ5.o.1.keep hW).reads (hsz.mono (by omega))) (hu.reads (hszx.mono (by omega))) (by omega) (by omega));rw[show AG i (fun j=>(f j:Rat)*g j)+(f i:Rat)*g i=AG (i+1) fun j=>(f j:Rat)*g j from rfl] at HA1;clear hsz hszk hszx hle HZ0;have hS:=B5.of HB5.o.1 HB5.o.2.1;have hsxb:sb<xb:=(by omega);have hne:w.heap.size≠sb:=(by omega);obtain⟨k',hk'⟩:=bN (f i);rw[hk'] at HF1 HM1 HA1 ⊢;go_upto_region 7 with fail;obtain⟨z0,z1,z2,z3,z4,z5⟩:=hS;go_region_law (first
    | (go_simp;go_at_call 86;(with_reducible refine (HF1.o _).mono ?_);rintro q1 w11 ⟨v11,rfl,h11,hx11⟩;have hX1:=(AK.refl (fun _=>False) w5).drew.trans hx11;obtain⟨y0,y1,y2,y3,y4,y5⟩:=B5.of (HB5.o.1.ext hX1 id) (HB5.o.2.1.ext hX1 id);have hM:=HM1.o w11 hX1 _ h11;obtain⟨pn,pa,pm,pc,qa,qm,qc,rfl⟩:=h11.shape)
    | (go_simp;go_at_call 179;(with_reducible refine hM.mono ?_);rintro q2 w12 ⟨v12,rfl,h12,hx12⟩;have hX2:=hX1.trans hx12;obtain⟨u0,u1,u2,u3,u4,u5⟩:=B5.of (HB5.o.1.ext hX2 id) (HB5.o.2.1.ext hX2 id);have hA:=HA1.o w12 hX2 _ h12;obtain⟨pn2,pa2,pm2,pc2,qa2,qm2,qc2,rfl⟩:=h12.shape)
    | (go_simp;go_at_call 160;(with_reducible refine hA.mono ?_);rintro q3 w13 ⟨v13,rfl,h13,hx13⟩;have hX3:=hX2.trans hx13;have hr3:=HB5.o.1.ext hX3 id;obtain⟨d0,d1,d2,d3,d4,d5⟩:=hr3.facts;obtain⟨ng,sa,sn1,sc,ta,tn,tc,rfl⟩:=h13.shape))
   all_goals
    have hp:=hr3.put (neg:=ng) (AF sa sn1 sc) (AF ta tn tc)
    have HR:Hid (MA _ w w.heap.size sb n (i+1) _):=bH ⟨_,_,_,_,_,_,_,hp.box,hp.rat h13,(HB5.o.2.2.1.ext hX3 id).ext hp.ext (fun e=>hne e),(HB5.o.2.2.2.trans hX3).own hp.ext (fun k e=>by omega)⟩
    clear hp hr3 h11 h12 h13 hx11 hx12 hx13 hX1 hX2 hX3 hM hA y0 y1 y2 y3 y4 y5 u0 u1 u2 u3 u4 u5 d0 d1 d2 d3 d4 d5 z0 z1 z2 z3 z4 z5
    go_wp2
    go_roundg (n-(i+1))
    case measure=>omega
    case rel=>exact⟨i+1,by omega,rfl,by go_num,HR.o⟩
  obtain rfl:i=n:=(by omega);obtain⟨sn,s1,sm1,sc1,s2,sm2,sc2,hsb,hsq,hsr,hsx⟩:=Aa;obtain⟨e0,e1,e2,_⟩:=hsb.facts;obtain⟨d0,d1,d2,d3,d4,d5⟩:=hsr.facts;have hp:=hsr.put (neg:=sn) (AF s1 sm1 sc1) (AF s2 sm2 sc2);have HR:=bH (bI (hp.rat hsq) (bI (hsx.own hp.ext (fun k e=>by omega)) hp.box));clear hp hsb hsq hsr hsx HS;go_wp2;generalize ((wr.setCell ⟨w.heap.size,0,none⟩ (.bool sn)).setCell ⟨w.heap.size,1,none⟩ (.slice s1 sm1 sc1)).setCell ⟨w.heap.size,2,none⟩ (.slice s2 sm2 sc2)=w9 at *;obtain⟨g0,g1,g2,_⟩:=HR.o.2.2.facts;exact bodyPost_ret (v:=.agg #[.bool sn,.slice s1 sm1 sc1,.slice s2 sm2 sc2]) (by simp[results,results167,go_sem,g0,g1,g2]) rfl ⟨_,rfl,HR.o.1,HR.o.2.1⟩
theorem AM{w w':World} {b:Nat} {o:Obj} (h:Au w b=some o) (hx:XF w w'):Au w' b=some o:=(hx.blk (AT h) id).trans h
theorem AA{w:World} {b:Nat} {c:Array Value} {t:TypeId} {f:Nat×Nat} (h:Au w b=some (.cells c t f)) (i:Nat) {x:Value} (hx:c[i]?=some x):w.cell? ⟨b,i,none⟩=some x:=(AS h i).trans hx
theorem AB{w w':World} {b i:Nat} {x:Value} (h:w.cell? ⟨b,i,none⟩=some x) (hx:XF w w'):w'.cell? ⟨b,i,none⟩=some x :=
 (hx.cell (p:=⟨b,i,none⟩) (World.block_lt_of_cell? w _ h) id).trans h
theorem Nt{w w1:World} {r:Nat} {neg n0:Bool} {a1 a2:Option Addr} {m1 c1 m2 c2:Nat} {k:Int} {q:Rat} {L:Nat} {x0 y0:Value} (hb:Aj w1 r n0 x0 y0) (hr:w.heap.size<=r) (hx:XF w w1)
  (h:BA w1 (.agg #[.bool neg,.slice a1 m1 c1,.slice a2 m2 c2]) q L) :
  Aj (((w1.setCell ⟨r,0,none⟩ (.bool neg)).setCell ⟨r,1,none⟩ (.slice a1 m1 c1)).setCell ⟨r,2,none⟩ (.slice a2 m2 c2)) r neg (.slice a1 m1 c1) (.slice a2 m2 c2) /\
   Ie w k q L (.returned (.tuple #[.int .i64 k,.agg #[.bool neg,.slice a1 m1 c1,.slice a2 m2 c2]])) (((w1.setCell ⟨r,0,none⟩ (.bool neg)).setCell ⟨r,1,none⟩ (.slice a1 m1 c1)).setCell ⟨r,2,none⟩ (.slice a2 m2 c2)) :=
 have hp:=hb.put (neg:=neg) (AF a1 m1 c1) (AF a2 m2 c2)
 ⟨hp.box,_,rfl,hp.rrat h,hx.own hp.ext (fun k e=>by omega)⟩
abbrev S3(b0 b1 b2 o0 o1 o2:Nat) (x0 x1 x2:Value) (W:World):Prop:=W.cell? ⟨b0,o0,none⟩=some x0/\W.cell? ⟨b1,o1,none⟩=some x1/\W.cell? ⟨b2,o2,none⟩=some x2
section
variable {b0 b1 b2 o0 o1 o2:Nat} {x0 x1 x2:Value} {W:World}
theorem S3.drew(h:S3 b0 b1 b2 o0 o1 o2 x0 x1 x2 W):S3 b0 b1 b2 o0 o1 o2 x0 x1 x2 W.drew:=h
theorem S3.keep{W':World} (h:S3 b0 b1 b2 o0 o1 o2 x0 x1 x2 W) (hx:XF W W'):S3 b0 b1 b2 o0 o1 o2 x0 x1 x2 W':=⟨AB h.1 hx,AB h.2.1 hx,AB h.2.2 hx⟩
theorem S3.set(h:S3 b0 b1 b2 o0 o1 o2 x0 x1 x2 W) (p:Addr) (u:Value) (k0:¬b0=p.block) (k1:¬b1=p.block) (k2:¬b2=p.block):S3 b0 b1 b2 o0 o1 o2 x0 x1 x2 (W.setCell p u):=⟨AY h.1 k0,AY h.2.1 k1,AY h.2.2 k2⟩
end
abbrev S4(b0 b1 b2 b3 o0 o1 o2 o3:Nat) (x0 x1 x2 x3:Value) (W:World):Prop:=W.cell? ⟨b0,o0,none⟩=some x0/\W.cell? ⟨b1,o1,none⟩=some x1/\W.cell? ⟨b2,o2,none⟩=some x2/\W.cell? ⟨b3,o3,none⟩=some x3
section
variable {b0 b1 b2 b3 o0 o1 o2 o3:Nat} {x0 x1 x2 x3:Value} {W:World}
theorem S4.drew(h:S4 b0 b1 b2 b3 o0 o1 o2 o3 x0 x1 x2 x3 W):S4 b0 b1 b2 b3 o0 o1 o2 o3 x0 x1 x2 x3 W.drew:=h
theorem S4.keep{W':World} (h:S4 b0 b1 b2 b3 o0 o1 o2 o3 x0 x1 x2 x3 W) (hx:XF W W'):S4 b0 b1 b2 b3 o0 o1 o2 o3 x0 x1 x2 x3 W':=⟨AB h.1 hx,AB h.2.1 hx,AB h.2.2.1 hx,AB h.2.2.2 hx⟩
theorem S4.set(h:S4 b0 b1 b2 b3 o0 o1 o2 o3 x0 x1 x2 x3 W) (p:Addr) (u:Value) (k0:¬b0=p.block) (k1:¬b1=p.block) (k2:¬b2=p.block) (k3:¬b3=p.block):S4 b0 b1 b2 b3 o0 o1 o2 o3 x0 x1 x2 x3 (W.setCell p u):=⟨AY h.1 k0,AY h.2.1 k1,AY h.2.2.1 k2,AY h.2.2.2 k3⟩
end
theorem QX(w:World) (pb xb:Nat) (vv rv xv:Value) (p:AH) (l:List Rat) (L:Nat) (hp:Au w pb=some (.cells #[vv,rv] 25 (0,0))) (hxb:Au w xb=some (.cells #[xv] 35 (0,0))) (hv:Ju w vv p.vars) (hl:B2 w xv l L) (i:Nat) (hi:i<p.vars.length) :
  Calls prog 168 #[.int .i64 i,.pointer (some ⟨pb,0,none⟩),.pointer (some ⟨xb,0,none⟩)] w (Ie w (p.v i).co (Am l i) L):=by
 obtain⟨vo,vc,rfl,-,hn,-⟩:=hv.shape;obtain⟨xo,xc,rfl,-,hxn,-⟩:=hl.shape;have HA:=bH (fun W (hW:XF w W)=>Pm W _ l L (hl.keep hW) i);obtain⟨b,off,rfl,hlt,-,-,-,-,e4,-⟩:=hv.atp i hi;have hx:=(AK.refl (fun _=>False) w).alloc (.cells #[.bool false,.slice none 0 0,.slice none 0 0] 34);have hS:S3 pb xb b 0 0 (off+i*5+4) (.slice (some ⟨b,off,none⟩) p.vars.length vc) (.slice xo l.length xc) (.int .i64 (p.v i).co) (w.alloc (.cells #[.bool false,.slice none 0 0,.slice none 0 0] 34)):=S3.keep ⟨AA hp 0 rfl,AA hxb 0 rfl,e4⟩ hx;have hb:=AO (W:=w) rfl false none 0 0 none 0 0;have HB:=bH (bI hb hx);have n0:=AT hp;have n1:=AT hxb;have j0:(0:Int)<=(i:Int):=by omega
 have j1:(i:Int)<(p.vars.length:Int):=by omega
 clear hv hl hp hxb e4 hi;go_enter func168,ntmps168;go_upto_region 1 with fail;clear hb hx;obtain⟨r,hr⟩:=bN w.heap.size;rw[hr] at HB n0 n1 hlt ⊢;generalize w.alloc (.cells #[.bool false,.slice none 0 0,.slice none 0 0] 34)=w1 at *;generalize p.vars.length=n at *;generalize l.length=xn at *;generalize (p.v i).co=k at *;go_region_held3 (S3 pb xb b 0 0 (off+i*5+4) (.slice (some ⟨b,off,none⟩) n vc) (.slice xo xn xc) (.int .i64 k))
  (repeat (first|(with_reducible assumption)|(with_reducible refine S3.drew ?_)|(with_reducible refine S3.set ?_ _ _ ?_ ?_ ?_)|(dsimp only;omega)))
  ((go_at_call 169;(with_reducible refine (HA.o _ HB.o.2.drew).mono ?_);rintro q1 w11 ⟨v11,rfl,h11,hx11⟩;have hX1:=(AK.refl (fun _=>False) w1).drew.trans hx11;have hK1:=hS.keep hX1;have hr3:=HB.o.1.ext hX1 id;obtain⟨d0,d1,d2,d3,d4,d5⟩:=hr3.facts;obtain⟨ng,sa,sn,sc,ta,tn,tc,rfl⟩:=h11.shape))
 obtain⟨hp,ha⟩:=Nt (w:=w) (k:=k) hr3 (Nat.le_of_eq hr) (HB.o.2.trans hX1) h11;have HP:=bH (bI hp ha);clear hp ha h11 hx11 hX1 hK1 hr3 d0 d1 d2 d3 d4 d5 hS HB;go_wp2;generalize ((w11.setCell ⟨r,0,none⟩ (.bool ng)).setCell ⟨r,1,none⟩ (.slice sa sn sc)).setCell ⟨r,2,none⟩ (.slice ta tn tc)=w9 at *;obtain⟨g0,g1,g2,_⟩:=HP.o.1.facts;exact bodyPost_ret (v:=.tuple #[.int .i64 k,.agg #[.bool ng,.slice sa sn sc,.slice ta tn tc]]) (by simp[results,results168,go_sem,g0,g1,g2]) rfl HP.o.2
theorem Sn(w:World) (tb xb:Nat) (tv xv:Value) (ts:List B1) (l:List Rat) (L:Nat) (hp:Au w tb=some (.cells #[tv] 49 (0,0))) (hxb:Au w xb=some (.cells #[xv] 35 (0,0))) (hv:G8 w tv ts) (hl:B2 w xv l L) (i:Nat) (hi:i<ts.length) :
  Calls prog 192 #[.int .i64 i,.pointer (some ⟨tb,0,none⟩),.pointer (some ⟨xb,0,none⟩)] w (Ie w (ts.getD i AW).coef (Am l (ts.getD i AW).var) L):=by
 obtain⟨vo,vc,rfl,-,hn,-⟩:=hv.shape;obtain⟨xo,xc,rfl,-,hxn,-⟩:=hl.shape;have HA:=bH (fun W (hW:XF w W)=>Pm W _ l L (hl.keep hW) (ts.getD i AW).var);obtain⟨b,off,rfl,hlt,e0,e1,-⟩:=hv.at i hi;have hx:=(AK.refl (fun _=>False) w).alloc (.cells #[.bool false,.slice none 0 0,.slice none 0 0] 34);have hS:S4 tb xb b b 0 0 (off+i*2) (off+i*2+1) (.slice (some ⟨b,off,none⟩) ts.length vc) (.slice xo l.length xc) (.int .i64 (ts.getD i AW).var) (.int .i64 (ts.getD i AW).coef) (w.alloc (.cells #[.bool false,.slice none 0 0,.slice none 0 0] 34)):=S4.keep ⟨AA hp 0 rfl,AA hxb 0 rfl,e0,e1⟩ hx;have hb:=AO (W:=w) rfl false none 0 0 none 0 0;have HB:=bH (bI hb hx);have n0:=AT hp;have n1:=AT hxb;have j0:(0:Int)<=(i:Int):=by omega
 have j1:(i:Int)<(ts.length:Int):=by omega
 clear hv hl hp hxb e0 e1 hi;go_enter func192,ntmps192;go_upto_region 1 with fail;clear hb hx;obtain⟨r,hr⟩:=bN w.heap.size;rw[hr] at HB n0 n1 hlt ⊢;generalize w.alloc (.cells #[.bool false,.slice none 0 0,.slice none 0 0] 34)=w1 at *;generalize ts.getD i AW=t at *;generalize ts.length=n at *;generalize l.length=xn at *;obtain⟨tvar,k⟩:=t;go_region_held3 (S4 tb xb b b 0 0 (off+i*2) (off+i*2+1) (.slice (some ⟨b,off,none⟩) n vc) (.slice xo xn xc) (.int .i64 tvar) (.int .i64 k))
  (repeat (first|(with_reducible assumption)|(with_reducible refine S4.drew ?_)|(with_reducible refine S4.set ?_ _ _ ?_ ?_ ?_ ?_)|(dsimp only;omega)))
  ((go_at_call 169;(with_reducible refine (HA.o _ HB.o.2.drew).mono ?_);rintro q1 w11 ⟨v11,rfl,h11,hx11⟩;have hX1:=(AK.refl (fun _=>False) w1).drew.trans hx11;have hK1:=hS.keep hX1;have hr3:=HB.o.1.ext hX1 id;obtain⟨d0,d1,d2,d3,d4,d5⟩:=hr3.facts;obtain⟨ng,sa,sn,sc,ta,tn,tc,rfl⟩:=h11.shape))
 obtain⟨hp,ha⟩:=Nt (w:=w) (k:=k) hr3 (Nat.le_of_eq hr) (HB.o.2.trans hX1) h11;have HP:=bH (bI hp ha);clear hp ha h11 hx11 hX1 hK1 hr3 d0 d1 d2 d3 d4 d5 hS HB;go_wp2;generalize ((w11.setCell ⟨r,0,none⟩ (.bool ng)).setCell ⟨r,1,none⟩ (.slice sa sn sc)).setCell ⟨r,2,none⟩ (.slice ta tn tc)=w9 at *;obtain⟨g0,g1,g2,_⟩:=HP.o.1.facts;exact bodyPost_ret (v:=.tuple #[.int .i64 k,.agg #[.bool ng,.slice sa sn sc,.slice ta tn tc]]) (by simp[results,results192,go_sem,g0,g1,g2]) rfl HP.o.2
theorem Ju.ok{p:AH} {w:World} {v:Value} (h:Ju w v p.vars) (i:Nat) (hi:i<p.vars.length):N2 (p.v i):=by
 obtain⟨ao,c,rfl,_⟩:=h.shape;obtain⟨_,_,_,_,_,_,_,_,_,h⟩:=h.atp i hi;exact h
theorem LX.ok{p:AH} {w:World} {v:Value} (h:LX w v p.rows) (i:Nat) (hi:i<p.rows.length):E9 (p.r i):=by
 obtain⟨ao,c,rfl,_⟩:=h.shape;obtain⟨_,_,_,_,_,_,_,_,_,_,_,h,_⟩:=h.atp i hi;exact h
theorem G8.ok{ts:List B1} {w:World} {v:Value} (h:G8 w v ts) (i:Nat) (hi:i<ts.length):Fp (ts.getD i AW):=by
 obtain⟨ao,c,rfl,_⟩:=h.shape;obtain⟨_,_,_,_,_,_,h⟩:=h.at i hi;exact h
theorem B2.sz{l:List Rat} {w:World} {v:Value} {L:Nat} (h:B2 w v l L) (h1:1<=L) (i:Int):Sz (Am l i) L:=by
 by_cases h0:i<0
 ·rw[G1 l h0];exact Sz.zero.mono h1
 by_cases h2:(l.length:Int)<=i
 ·rw[Gw l h2];exact Sz.zero.mono h1
 obtain⟨j,rfl⟩:∃j:Nat,i=j:=⟨i.toNat,by omega⟩;obtain⟨ao,c,rfl,_⟩:=h.shape;obtain⟨_,_,_,_,_,_,_,_,_,_,_,_,_,_,h⟩:=h.at j (by omega);exact h.sz h1
theorem RU(w:World) (oa ob oc:Obj):Au (((w.alloc oa).alloc ob).alloc oc) w.heap.size=some oa/\Au (((w.alloc oa).alloc ob).alloc oc) (w.heap.size+1)=some ob/\Au (((w.alloc oa).alloc ob).alloc oc) (w.heap.size+1+1)=some oc/\XF w (((w.alloc oa).alloc ob).alloc oc):=by
 refine⟨?_,?_,?_,(((AK.refl _ w).alloc _).alloc _).alloc _⟩
 ·rw[Ap _ _ _ (by simp;omega),Ap _ _ _ (by simp),AD]
 ·rw[Ap _ _ _ (by simp)];have:=AD (w.alloc oa) ob;rwa [World.size_alloc] at this
 have:=AD ((w.alloc oa).alloc ob) oc;rwa [World.size_alloc,World.size_alloc] at this
theorem EE{W:World} {k:Nat} {neg:Bool} {ao ao':Option Addr} {n c n' c':Nat} (h:Au W k=some (.cells #[.bool neg,.slice ao n c,.slice ao' n' c'] 34 (0,0))):Aj W k neg (.slice ao n c) (.slice ao' n' c'):=⟨h,AF ao n c,AF ao' n' c'⟩
theorem Mn{w w1:World} {r:Nat} {neg n0:Bool} {a1 a2:Option Addr} {m1 c1 m2 c2:Nat} {q:Rat} {x0 y0:Value} (hb:Aj w1 r n0 x0 y0) (hr:w.heap.size<=r) (hx:XF w w1)
  (h:AN w1 (.agg #[.bool neg,.slice a1 m1 c1,.slice a2 m2 c2]) q) :
  Aj (((w1.setCell ⟨r,0,none⟩ (.bool neg)).setCell ⟨r,1,none⟩ (.slice a1 m1 c1)).setCell ⟨r,2,none⟩ (.slice a2 m2 c2)) r neg (.slice a1 m1 c1) (.slice a2 m2 c2) /\
   Aw w q (.returned (.agg #[.bool neg,.slice a1 m1 c1,.slice a2 m2 c2])) (((w1.setCell ⟨r,0,none⟩ (.bool neg)).setCell ⟨r,1,none⟩ (.slice a1 m1 c1)).setCell ⟨r,2,none⟩ (.slice a2 m2 c2)) :=
 have hp:=hb.put (neg:=neg) (AF a1 m1 c1) (AF a2 m2 c2)
 ⟨hp.box,_,rfl,hp.rat h,hx.own hp.ext (fun k e=>by omega)⟩
theorem SP(w:World) (pv xv:Value) (p:AH) (l:List Rat) (L:Nat) (hp:Ba w pv p) (hl:B2 w xv l L) (h1:1<=L) (hL:1+p.vars.length*(L+3)+(L+3)<=4000000) :
  Calls prog 96 #[pv,xv] w (Aw w (Al p l)):=by
 obtain⟨vv,rv,rfl,hv,hr⟩:=hp;obtain⟨vo,vc,rfl,-,hn,-⟩:=hv.shape;obtain⟨xo,xc,rfl,-,hxn,-⟩:=hl.shape;obtain⟨b0,b1,b2,hx⟩:=RU w (.cells #[.slice vo p.vars.length vc,rv] 25) (.cells #[.slice xo l.length xc] 35) (.cells #[.bool false,.slice none 0 0,.slice none 0 0] 34);have hs:=Nj (((w.alloc (.cells #[.slice vo p.vars.length vc,rv] 25)).alloc (.cells #[.slice xo l.length xc] 35)).alloc (.cells #[.bool false,.slice none 0 0,.slice none 0 0] 34)) p.vars.length 168 #[.pointer (some ⟨w.heap.size,0,none⟩),.pointer (some ⟨w.heap.size+1,0,none⟩)] (fun i=>(p.v i).co) (fun i=>Am l i) L h1 hL
  (fun i hi=>(hv.ok i hi).co) (fun i _=>hl.sz h1 i) (enters_of func168 (by kernel_rfl) rfl)
  (fun W hW i hi=>QX W w.heap.size (w.heap.size+1) _ rv _ p l L (AM b0 hW) (AM b1 hW) (hv.keep (hx.trans hW)) (hl.keep (hx.trans hW)) i hi)
 have HS:=bH hs;have HB:=bH (bI (EE b2) hx);clear hv hr hl hs b0 b1 b2 hx;generalize l.length=xn at *;go_enter func96,ntmps96;go_wp2_with fail;refine HS.o.mono ?_;rintro r1 w2 ⟨v2,rfl,h2,hx2⟩;obtain⟨ng,sa,sn,sc,ta,tn,tc,rfl⟩:=h2.shape;have hr3:=HB.o.1.ext hx2 id;obtain⟨d0,d1,d2,d3,d4,d5⟩:=hr3.facts;have HP:=bH (Mn (w:=w) hr3 (by omega) (HB.o.2.trans hx2) h2);clear h2 hr3 hx2;go_wp2;generalize ((w2.setCell ⟨w.heap.size+1+1,0,none⟩ (.bool ng)).setCell ⟨w.heap.size+1+1,1,none⟩ (.slice sa sn sc)).setCell ⟨w.heap.size+1+1,2,none⟩ (.slice ta tn tc)=w9 at *;obtain⟨g0,g1,g2,_⟩:=HP.o.1.facts;exact bodyPost_ret (v:=.agg #[.bool ng,.slice sa sn sc,.slice ta tn tc]) (by simp[results,results96,go_sem,g0,g1,g2]) rfl HP.o.2
theorem Te(w:World) (tv xv:Value) (ts:List B1) (l:List Rat) (L:Nat) (hv:G8 w tv ts) (hl:B2 w xv l L) (h1:1<=L) (hL:1+ts.length*(L+3)+(L+3)<=4000000) :
  Calls prog 122 #[tv,xv] w (Aw w (Bs ts l)):=by
 obtain⟨vo,vc,rfl,-,hn,-⟩:=hv.shape;obtain⟨xo,xc,rfl,-,hxn,-⟩:=hl.shape;obtain⟨b0,b1,b2,hx⟩:=RU w (.cells #[.slice vo ts.length vc] 49) (.cells #[.slice xo l.length xc] 35) (.cells #[.bool false,.slice none 0 0,.slice none 0 0] 34);have hs:=Nj (((w.alloc (.cells #[.slice vo ts.length vc] 49)).alloc (.cells #[.slice xo l.length xc] 35)).alloc (.cells #[.bool false,.slice none 0 0,.slice none 0 0] 34)) ts.length 192 #[.pointer (some ⟨w.heap.size,0,none⟩),.pointer (some ⟨w.heap.size+1,0,none⟩)] (fun i=>(ts.getD i AW).coef) (fun i=>Am l (ts.getD i AW).var) L h1 hL
  (fun i hi=>(hv.ok i hi).coef) (fun i _=>hl.sz h1 _) (enters_of func192 (by kernel_rfl) rfl)
  (fun W hW i hi=>Sn W w.heap.size (w.heap.size+1) _ _ ts l L (AM b0 hW) (AM b1 hW) (hv.keep (hx.trans hW)) (hl.keep (hx.trans hW)) i hi)
 have HS:=bH hs;have HB:=bH (bI (EE b2) hx);clear hv hl hs b0 b1 b2 hx;obtain⟨q,hq⟩:=bN (Bs ts l);unfold Bs at hq;rw[hq] at HS;unfold Bs;rw[hq];clear hq;generalize l.length=xn at *;generalize ts.length=n at *;go_enter func122,ntmps122;go_wp2_with fail;refine HS.o.mono ?_;rintro r1 w2 ⟨v2,rfl,h2,hx2⟩;obtain⟨ng,sa,sn,sc,ta,tn,tc,rfl⟩:=h2.shape;have hr3:=HB.o.1.ext hx2 id;obtain⟨d0,d1,d2,d3,d4,d5⟩:=hr3.facts;have HP:=bH (Mn (w:=w) hr3 (by omega) (HB.o.2.trans hx2) h2);clear h2 hr3 hx2;go_wp2;generalize ((w2.setCell ⟨w.heap.size+1+1,0,none⟩ (.bool ng)).setCell ⟨w.heap.size+1+1,1,none⟩ (.slice sa sn sc)).setCell ⟨w.heap.size+1+1,2,none⟩ (.slice ta tn tc)=w9 at *;obtain⟨g0,g1,g2,_⟩:=HP.o.1.facts;exact bodyPost_ret (v:=.agg #[.bool ng,.slice sa sn sc,.slice ta tn tc]) (by simp[results,results122,go_sem,g0,g1,g2]) rfl HP.o.2
def Ak(w:World) (b:Bool) (r:Ending) (w':World):Prop:=r=.returned (.bool b)/\XF w w'
theorem Nq(q:Rat):q.num<0↔q<0:=by
 have:=@Rat.num_nonneg q;constructor
 ·intro h;exact Rat.not_le.1 (fun h2=>by have:=this.2 h2;omega)
 intro h;exact Int.not_le.1 (fun h2=>by have:=this.1 h2;grind)
theorem BV(q:Rat):q.num.sign<0↔q<0:=by
 rw[Int.sign_neg_iff];exact Nq q
theorem Ea(q:Rat):0<q.num.sign↔0<q:=by
 rw[Int.sign_pos_iff];have h:=Nq (-q);rw[Rat.neg_num] at h;constructor
 ·intro h1;have:=h.1 (by omega);grind
 intro h1;have:=h.2 (by grind);omega
theorem Bm{f:Nat->Bool} {i:Nat} (h:BY i f=true) (hf:f i=true):BY (i+1) f=true:=by
 show (BY i f&&f i)=true;rw[h,hf];rfl
section
variable {b0 b1 o0 o1:Nat} {x0 x1:Value} {W:World}
end
abbrev S5(b0 b1 b2 b3 b4 o0 o1 o2 o3 o4:Nat) (x0 x1 x2 x3 x4:Value) (W:World):Prop:=W.cell? ⟨b0,o0,none⟩=some x0/\W.cell? ⟨b1,o1,none⟩=some x1/\W.cell? ⟨b2,o2,none⟩=some x2/\W.cell? ⟨b3,o3,none⟩=some x3/\W.cell? ⟨b4,o4,none⟩=some x4
section
variable {b0 b1 b2 b3 b4 o0 o1 o2 o3 o4:Nat} {x0 x1 x2 x3 x4:Value} {W:World}
theorem S5.drew(h:S5 b0 b1 b2 b3 b4 o0 o1 o2 o3 o4 x0 x1 x2 x3 x4 W):S5 b0 b1 b2 b3 b4 o0 o1 o2 o3 o4 x0 x1 x2 x3 x4 W.drew:=h
theorem S5.keep{W':World} (h:S5 b0 b1 b2 b3 b4 o0 o1 o2 o3 o4 x0 x1 x2 x3 x4 W) (hx:XF W W'):S5 b0 b1 b2 b3 b4 o0 o1 o2 o3 o4 x0 x1 x2 x3 x4 W':=⟨AB h.1 hx,AB h.2.1 hx,AB h.2.2.1 hx,AB h.2.2.2.1 hx,AB h.2.2.2.2 hx⟩
end
section
variable {b0 b1 b2 b3 b4 b5 o0 o1 o2 o3 o4 o5:Nat} {x0 x1 x2 x3 x4 x5:Value} {W:World}
end
abbrev S7(b0 b1 b2 b3 b4 b5 b6 o0 o1 o2 o3 o4 o5 o6:Nat) (x0 x1 x2 x3 x4 x5 x6:Value) (W:World):Prop:=W.cell? ⟨b0,o0,none⟩=some x0/\W.cell? ⟨b1,o1,none⟩=some x1/\W.cell? ⟨b2,o2,none⟩=some x2/\W.cell? ⟨b3,o3,none⟩=some x3/\W.cell? ⟨b4,o4,none⟩=some x4/\W.cell? ⟨b5,o5,none⟩=some x5/\W.cell? ⟨b6,o6,none⟩=some x6
section
variable {b0 b1 b2 b3 b4 b5 b6 o0 o1 o2 o3 o4 o5 o6:Nat} {x0 x1 x2 x3 x4 x5 x6:Value} {W:World}
theorem S7.drew(h:S7 b0 b1 b2 b3 b4 b5 b6 o0 o1 o2 o3 o4 o5 o6 x0 x1 x2 x3 x4 x5 x6 W):S7 b0 b1 b2 b3 b4 b5 b6 o0 o1 o2 o3 o4 o5 o6 x0 x1 x2 x3 x4 x5 x6 W.drew:=h
theorem S7.keep{W':World} (h:S7 b0 b1 b2 b3 b4 b5 b6 o0 o1 o2 o3 o4 o5 o6 x0 x1 x2 x3 x4 x5 x6 W) (hx:XF W W'):S7 b0 b1 b2 b3 b4 b5 b6 o0 o1 o2 o3 o4 o5 o6 x0 x1 x2 x3 x4 x5 x6 W':=⟨AB h.1 hx,AB h.2.1 hx,AB h.2.2.1 hx,AB h.2.2.2.1 hx,AB h.2.2.2.2.1 hx,AB h.2.2.2.2.2.1 hx,AB h.2.2.2.2.2.2 hx⟩
end
section
variable {b0 b1 b2 b3 b4 b5 b6 b7 o0 o1 o2 o3 o4 o5 o6 o7:Nat} {x0 x1 x2 x3 x4 x5 x6 x7:Value} {W:World}
end
def IK(W:World) (b:Nat) (v:Ey):Prop:=Au W b=some (.cells (cV v).toArray 77 (0,0))
theorem IK.facts{W:World} {b:Nat} {v:Ey} (h:IK W b v):W.cell? ⟨b,0,none⟩=some (.int .i64 v.lo)/\W.cell? ⟨b,1,none⟩=some (.int .i64 v.up)/\W.cell? ⟨b,2,none⟩=some (.bool v.op)/\W.cell? ⟨b,3,none⟩=some (.bool v.ig)/\W.cell? ⟨b,4,none⟩=some (.int .i64 v.co):=⟨AA h 0 rfl,AA h 1 rfl,AA h 2 rfl,AA h 3 rfl,AA h 4 rfl⟩
theorem IK.keep{W W':World} {b:Nat} {v:Ey} (h:IK W b v) (hx:XF W W'):IK W' b v:=AM h hx
theorem IK.new(W:World) (v:Ey):IK (W.alloc (.cells #[.int .i64 v.lo,.int .i64 v.up,.bool v.op,.bool v.ig,.int .i64 v.co] 77)) W.heap.size v:=AD _ _
theorem Aj.keep{W W':World} {b:Nat} {neg:Bool} {m d:Value} (h:Aj W b neg m d) (hx:XF W W'):Aj W' b neg m d:=h.ext hx id
section
variable {P:Program} {md:Region.Mode} {l:List Oper} {Q:Exit->Act->World->Prop} {S:World->Prop}
theorem Qf(i:Nat) {oi:Oper} {v:Value} {fuel:Nat} {listed:Array Bool} {a:Act} {w:World} (hi:l[i]?=some oi) (hs:Region.noSelect l.toArray=true) (hf:Region.free md l.toArray listed i=true)
  (hr:(Region.ready md l.toArray listed).contains i=true) (hQ:∀c a w,Q (.panic c) (a.put oi.dst v) w->Q (.panic c) a w) (hw:Region.wanted oi (yielded l.toArray a.tmps)=true)
  (he:∀w,S w->(execOp a.eval oi).run P w=.ok (.value v) w) (hS:S w) (h:wpAnyH P md l.toArray Q S fuel (listed.setIfInBounds i true) (a.put oi.dst v) w):wpAnyH P md l.toArray Q S (fuel+1) listed a w :=
 wpAnyH_take (by simpa using hi) hs hf hr hQ (.inl ⟨hw,he⟩) hS h
theorem BD(i:Nat) {oi:Oper} {fuel:Nat} {listed:Array Bool} {a:Act} {w:World} (hi:l[i]?=some oi) (hs:Region.noSelect l.toArray=true) (hf:Region.free md l.toArray listed i=true)
  (hr:(Region.ready md l.toArray listed).contains i=true) (hQ:∀c a w,Q (.panic c) (a.put oi.dst undef) w->Q (.panic c) a w) (hw:Region.wanted oi (yielded l.toArray a.tmps)=false)
  (hS:S w) (h:wpAnyH P md l.toArray Q S fuel (listed.setIfInBounds i true) (a.put oi.dst undef) w):wpAnyH P md l.toArray Q S (fuel+1) listed a w :=
 wpAnyH_take (by simpa using hi) hs hf hr hQ (.inr ⟨hw,rfl⟩) hS h
theorem Az(i:Nat) {oi:Oper} {fuel:Nat} {listed:Array Bool} {a:Act} {w:World} (hi:l[i]?=some oi) (hr:Region.ready md l.toArray listed=[i])
  (h:∀K':Act->World->Prop,Shut (∀a w,S w->(S w->wpAnyH P md l.toArray Q S fuel (listed.setIfInBounds i true) a w)->K' a w)->if Region.wanted oi (yielded l.toArray a.tmps)=true then Oper.wp P oi a w K' Q else K' (a.put oi.dst undef) w) :
  wpAnyH P md l.toArray Q S (fuel+1) listed a w :=
 wpAnyH_ready hr (by simp) (AllReadyH.cons (by simpa using hi) h AllReadyH.nil)
end
section
variable {P:Program} {md:Region.Mode} {ops:Array Oper} {Q:Exit->Act->World->Prop} {S:World->Prop} {k:Nat}
def ER(P:Program) (md:Region.Mode) (ops:Array Oper) (Q:Exit->Act->World->Prop) (S:World->Prop) (k:Nat):Nat->Array Bool->Act->World->Prop
 | 0,ls,a,w=>Region.ready md ops ls=[]/\Q .normal a w
 | n+1,ls,a,w=>(Region.ready md ops ls=[]->Q .normal a w)/\∀i∈Region.ready md ops ls,wpOp P ops Q i (fun a' w'=>(i≠k->S w')/\ER P md ops Q S k n (ls.setIfInBounds i true) a' w') a w
theorem ER.any:∀(n:Nat) (ls:Array Bool) (a:Act) (w:World),ER P md ops Q S k n ls a w->wpAny P md ops Q n ls a w
 | 0,_,_,_,h=>h
 | n+1,_,_,_,h=>⟨h.1,fun i hi=>wpOp_mono (fun a w h=>ER.any n _ a w h.2) (h.2 i hi)⟩
theorem C6{i j:Nat} {oj:Oper} {ls:Array Bool} (hr:i∈Region.ready md ops ls) (hoj:ops[j]?=some oj) (hj:j∈Region.ready md ops ls) (e:Edge) (he:e∈oj.after) (hb:Region.binds md e=true):e.on≠i:=fun h=>by
 obtain⟨_,o,ho,hall⟩:=mem_ready.1 hj;rw[hoj] at ho;cases ho;have h1:=hall e he hb;have h0:=(mem_ready.1 hr).1;rw[h,Array.getD_eq_getD_getElem?] at h1;rw[Array.getD_eq_getD_getElem?] at h0;cases hq:ls[i]? with
 | none=>rw[hq] at h1;simp at h1
 | some x=>rw[hq] at h0 h1;simp at h0 h1;rw[h0] at h1;cases h1
def Iu(md:Region.Mode) (ops:Array Oper) (i:Nat) (oi:Oper) (ls:Array Bool):Prop:=∀j oj,ops[j]?=some oj->j≠i->ls.getD j true=false->(∀e∈oj.after,Region.binds md e=true->e.on≠i)->oi.apart ops oj=true
theorem Iu.next{i j:Nat} {oi:Oper} {ls:Array Bool} (h:Iu md ops i oi ls) (hj:ls.getD j true=false):Iu md ops i oi (ls.setIfInBounds j true):=fun k ok hk hki hun hno=>by
 refine h k ok hk hki ?_ hno;by_cases e:j=k
 ·rw[<- e];exact hj
 rw[getD_set_ne true e] at hun;exact hun
theorem ER.take{i:Nat} {oi:Oper} {v:Value} (hi:ops[i]?=some oi) (hsel:∀(j:Nat) (o:Oper) cs b,ops[j]?=some o->o.op≠.select cs b) (hQ:∀c a w,Q (.panic c) (a.put oi.dst v) w->Q (.panic c) a w) :
  ∀(n:Nat) (ls:Array Bool) (a:Act) (w:World),Iu md ops i oi ls->i∈Region.ready md ops ls->(∃ok,ops[k]?=some ok/\∃e∈ok.after,Region.binds md e=true/\e.on=i)->YieldsIf P ops S oi v a->S w->ER P md ops Q S k n (ls.setIfInBounds i true) (a.put oi.dst v) w->ER P md ops Q S k (n+1) ls a w:=by
 have first:∀(n:Nat) (ls:Array Bool) (a:Act) (w:World),i∈Region.ready md ops ls->YieldsIf P ops S oi v a->S w->ER P md ops Q S k n (ls.setIfInBounds i true) (a.put oi.dst v) w->wpOp P ops Q i (fun a' w'=>(i≠k->S w')/\ER P md ops Q S k n (ls.setIfInBounds i true) a' w') a w :=
  fun n ls a w _ hy hS H=>hy.wpOp hi hS ⟨fun _=>hS,H⟩
 intro n;induction n with
 | zero =>
  intro ls a w _ hr _ hy hS H;refine⟨fun h=>(by rw[h] at hr;cases hr),fun j hj=>?_⟩;rcases Decidable.em (j=i) with e|e
  ·rw[e];exact first 0 ls a w hr hy hS H
  have:=ready_mono hj e;rw[H.1] at this;cases this
 | succ n ih =>
  intro ls a w hap hr hk hy hS H;refine⟨fun h=>(by rw[h] at hr;cases hr),fun j hj=>?_⟩;rcases Decidable.em (j=i) with e|e
  ·rw[e];exact first (n+1) ls a w hr hy hS H
  obtain⟨hju,oj,hoj,_⟩:=mem_ready.1 hj;have h2:=wpOp_putIf hoj (hap j oj hoj e hju (C6 hr hoj hj)) (fun cs b=>hsel i oi cs b hi) (fun cs b=>hsel j oj cs b hoj) hQ hy (H.2 j (ready_mono hj e));refine wpOp_mono (fun a' w' h3=>?_) h2;have hr':i∈Region.ready md ops (ls.setIfInBounds j true):=ready_mono hr (Ne.symm e);have hjk:j≠k:=fun ejk=>by
   obtain⟨ok,ho,e',he,hb,hon⟩:=hk;rw[<- ejk,hoj] at ho;cases ho;exact C6 hr hoj hj e' he hb hon
  have hS':S w':=h3.2.1 hjk;exact⟨fun _=>hS',ih _ a' w' (hap.next hju) hr' hk h3.1 hS' (by rw[Array.setIfInBounds_comm _ _ e];exact h3.2.2)⟩
end
section
variable {P:Program} {md:Region.Mode} {l:List Oper} {Q:Exit->Act->World->Prop} {S:World->Prop} {k:Nat}
def GQ(md:Region.Mode) (l:List Oper) (k i:Nat):Bool:=match l[k]? with|some o=>o.after.any fun e=>Region.binds md e&&e.on == i|none=>false
theorem K9{i:Nat} (h:GQ md l k i=true):∃ok,l.toArray[k]?=some ok/\∃e∈ok.after,Region.binds md e=true/\e.on=i:=by
 unfold GQ at h;split at h
 ·rename_i o ho;obtain⟨e,he,hb⟩:=Array.any_eq_true'.1 h;simp only[Bool.and_eq_true,beq_iff_eq] at hb;exact⟨o,by simpa using ho,e,he,hb⟩
 cases h
theorem A3(i:Nat) {oi:Oper} {v:Value} {fuel:Nat} {listed:Array Bool} {a:Act} {w:World} (hi:l[i]?=some oi) (hs:Region.noSelect l.toArray=true) (hf:Region.free md l.toArray listed i=true)
  (hr:(Region.ready md l.toArray listed).contains i=true) (hk:GQ md l k i=true) (hQ:∀c a w,Q (.panic c) (a.put oi.dst v) w->Q (.panic c) a w) (hw:Region.wanted oi (yielded l.toArray a.tmps)=true)
  (he:∀w,S w->(execOp a.eval oi).run P w=.ok (.value v) w) (hS:S w) (h:ER P md l.toArray Q S k fuel (listed.setIfInBounds i true) (a.put oi.dst v) w):ER P md l.toArray Q S k (fuel+1) listed a w :=
 have hi':l.toArray[i]?=some oi:=by simpa using hi
 ER.take hi' (Region.noSelect_spec hs) hQ fuel listed a w (Region.free_spec hi' hf) (by simpa using hr) (K9 hk) (.inl ⟨hw,he⟩) hS h
theorem P8(i:Nat) {oi:Oper} {fuel:Nat} {listed:Array Bool} {a:Act} {w:World} (hi:l[i]?=some oi) (hr:Region.ready md l.toArray listed=[i])
  (h:∀K':Act->World->Prop,Shut (∀a w,(i≠k->S w)->((i≠k->S w)->ER P md l.toArray Q S k fuel (listed.setIfInBounds i true) a w)->K' a w)->if Region.wanted oi (yielded l.toArray a.tmps)=true then Oper.wp P oi a w K' Q else K' (a.put oi.dst undef) w) :
  ER P md l.toArray Q S k (fuel+1) listed a w:=by
 refine⟨fun h0=>(by rw[hr] at h0;cases h0),fun j hj=>?_⟩;rw[hr] at hj;obtain rfl:=List.mem_singleton.1 hj;exact wpOp_step (by simpa using hi) (fun K' hK=>h K' (fun a w hS hW=>hK a w ⟨hS,hW hS⟩))
theorem DL(i:Nat) {oi:Oper} {fuel:Nat} {listed:Array Bool} {a:Act} {w:World} (hi:l[i]?=some oi) (hr:Region.ready md l.toArray listed=[i])
  (h:∀K':Act->World->Prop,Shut (∀a w,S w->(S w->ER P md l.toArray Q S k fuel (listed.setIfInBounds i true) a w)->K' a w)->if Region.wanted oi (yielded l.toArray a.tmps)=true then Oper.wp P oi a w K' Q else K' (a.put oi.dst undef) w) :
  ER P md l.toArray Q S k (fuel+1) listed a w :=
 P8 i hi hr (fun K' hK=>h K' (fun a w hS hW=>hK.o a w (fun _=>hS) (fun _=>hW hS)))
theorem BJ{oi:Oper} {fuel:Nat} {listed:Array Bool} {a:Act} {w:World} (hi:l[k]?=some oi) (hr:Region.ready md l.toArray listed=[k])
  (h:∀K':Act->World->Prop,Shut (∀a w,ER P md l.toArray Q S k fuel (listed.setIfInBounds k true) a w->K' a w)->if Region.wanted oi (yielded l.toArray a.tmps)=true then Oper.wp P oi a w K' Q else K' (a.put oi.dst undef) w) :
  ER P md l.toArray Q S k (fuel+1) listed a w :=
 P8 k hi hr (fun K' hK=>h K' (fun a w hW=>hK.o a w (fun e=>absurd rfl e) (fun _=>hW)))
theorem BL{listed:Array Bool} {a:Act} {w:World} (hr:Region.ready md l.toArray listed=[]) (h:Q .normal a w):∀fuel,ER P md l.toArray Q S k fuel listed a w
 | 0=>⟨hr,h⟩
 | _+1=>⟨fun _=>h,by rw[hr];simp⟩
theorem A4{id:Nat} {a:Act} {w:World} (k:Nat) (S:World->Prop) (hm:P.follows .mixedOrders=true) (hS:S w.drew)
  (h:S w.drew->ER P .any l.toArray Q S k l.toArray.size (Array.replicate l.toArray.size false) a w.drew):(Code.region id l.toArray true).wp P Q a w :=
 wp_region_any hm (ER.any _ _ _ _ (h hS))
end
section
variable {P:Program} {md:Region.Mode} {l:List Oper} {Q:Exit->Act->World->Prop} {S:World->Prop} {k:Nat}
theorem Dt(i j:Nat) {oi oj:Oper} {fuel:Nat} {listed:Array Bool} {a:Act} {w:World} (hi:l[i]?=some oi) (hj:l[j]?=some oj) (hr:Region.ready md l.toArray listed=[i,j])
  (h1:∀K':Act->World->Prop,Shut (∀a w,S w->(S w->wpAnyH P md l.toArray Q S fuel (listed.setIfInBounds i true) a w)->K' a w)->if Region.wanted oi (yielded l.toArray a.tmps)=true then Oper.wp P oi a w K' Q else K' (a.put oi.dst undef) w)
  (h2:∀K':Act->World->Prop,Shut (∀a w,S w->(S w->wpAnyH P md l.toArray Q S fuel (listed.setIfInBounds j true) a w)->K' a w)->if Region.wanted oj (yielded l.toArray a.tmps)=true then Oper.wp P oj a w K' Q else K' (a.put oj.dst undef) w) :
  wpAnyH P md l.toArray Q S (fuel+1) listed a w :=
 wpAnyH_ready hr (by simp) (AllReadyH.cons (by simpa using hi) h1 (AllReadyH.cons (by simpa using hj) h2 AllReadyH.nil))
end
section
variable {P:Program} {md:Region.Mode} {l:List Oper} {Q:Exit->Act->World->Prop} {S:World->Prop} {k:Nat}
theorem ht(i:Nat) {oi:Oper} {v:Value} {fuel:Nat} {listed:Array Bool} {a:Act} {w:World} (hi:l[i]?=some oi:=by rfl) (hs:Region.noSelect l.toArray=true:=by kernel_rfl) (hf:Region.free md l.toArray listed i=true:=by kernel_rfl)
  (hr:(Region.ready md l.toArray listed).contains i=true:=by kernel_rfl) (hQ:∀c a w,Q (.panic c) (a.put oi.dst v) w->Q (.panic c) a w:=by exact fun _ _ _ h=>h) (hw:Region.wanted oi (yielded l.toArray a.tmps)=true:=by rfl)
  (he:∀w,S w->(execOp a.eval oi).run P w=.ok (.value v) w:=by (intro w hSw;(try go_frame);(try dsimp only at hSw);go_simp)<;>with_reducible rfl) (hS:S w:=by assumption) (h:wpAnyH P md l.toArray Q S fuel (listed.setIfInBounds i true) (a.put oi.dst v) w):wpAnyH P md l.toArray Q S (fuel+1) listed a w :=
 Qf i hi hs hf hr hQ hw he hS h
theorem hk(i:Nat) {oi:Oper} {fuel:Nat} {listed:Array Bool} {a:Act} {w:World} (hi:l[i]?=some oi:=by rfl) (hs:Region.noSelect l.toArray=true:=by kernel_rfl) (hf:Region.free md l.toArray listed i=true:=by kernel_rfl)
  (hr:(Region.ready md l.toArray listed).contains i=true:=by kernel_rfl) (hQ:∀c a w,Q (.panic c) (a.put oi.dst undef) w->Q (.panic c) a w:=by exact fun _ _ _ h=>h) (hw:Region.wanted oi (yielded l.toArray a.tmps)=false:=by rfl)
  (hS:S w:=by assumption) (h:wpAnyH P md l.toArray Q S fuel (listed.setIfInBounds i true) (a.put oi.dst undef) w):wpAnyH P md l.toArray Q S (fuel+1) listed a w :=
 BD i hi hs hf hr hQ hw hS h
theorem Aa(i:Nat) {oi:Oper} {fuel:Nat} {listed:Array Bool} {a:Act} {w:World} (hi:l[i]?=some oi:=by rfl) (hr:Region.ready md l.toArray listed=[i]:=by kernel_rfl)
  (h:∀K':Act->World->Prop,Shut (∀a w,S w->(S w->wpAnyH P md l.toArray Q S fuel (listed.setIfInBounds i true) a w)->K' a w)->if Region.wanted oi (yielded l.toArray a.tmps)=true then Oper.wp P oi a w K' Q else K' (a.put oi.dst undef) w) :
  wpAnyH P md l.toArray Q S (fuel+1) listed a w:=Az i hi hr h
theorem et(i:Nat) {oi:Oper} {v:Value} {fuel:Nat} {listed:Array Bool} {a:Act} {w:World} (hi:l[i]?=some oi:=by rfl) (hs:Region.noSelect l.toArray=true:=by kernel_rfl) (hf:Region.free md l.toArray listed i=true:=by kernel_rfl)
  (hr:(Region.ready md l.toArray listed).contains i=true:=by kernel_rfl) (hk:GQ md l k i=true:=by kernel_rfl) (hQ:∀c a w,Q (.panic c) (a.put oi.dst v) w->Q (.panic c) a w:=by exact fun _ _ _ h=>h) (hw:Region.wanted oi (yielded l.toArray a.tmps)=true:=by rfl)
  (he:∀w,S w->(execOp a.eval oi).run P w=.ok (.value v) w:=by (intro w hSw;(try go_frame);(try dsimp only at hSw);go_simp)<;>with_reducible rfl) (hS:S w:=by assumption) (h:ER P md l.toArray Q S k fuel (listed.setIfInBounds i true) (a.put oi.dst v) w):ER P md l.toArray Q S k (fuel+1) listed a w :=
 A3 i hi hs hf hr hk hQ hw he hS h
theorem GY(i:Nat) {oi:Oper} {fuel:Nat} {listed:Array Bool} {a:Act} {w:World} (hi:l[i]?=some oi:=by rfl) (hr:Region.ready md l.toArray listed=[i]:=by kernel_rfl)
  (h:∀K':Act->World->Prop,Shut (∀a w,S w->(S w->ER P md l.toArray Q S k fuel (listed.setIfInBounds i true) a w)->K' a w)->if Region.wanted oi (yielded l.toArray a.tmps)=true then Oper.wp P oi a w K' Q else K' (a.put oi.dst undef) w) :
  ER P md l.toArray Q S k (fuel+1) listed a w:=DL i hi hr h
end
section
variable {w0 W:World}
theorem cq{b i:Nat} {v:Value} (h:w0.cell? ⟨b,i,none⟩=some v):∀W,XF w0 W->W.cell? ⟨b,i,none⟩=some v:=fun _ hx=>AB h hx
theorem BX{S:Nat->Prop} {b i:Nat} {v:Value} (h:w0.cell? ⟨b,i,none⟩=some v) (hn:¬S b):∀W,AK S w0 W->W.cell? ⟨b,i,none⟩=some v:=fun _ hx=>(hx.cell (p:=⟨b,i,none⟩) (World.block_lt_of_cell? _ _ h) hn).trans h
theorem AK.none{S:Nat->Prop} (h:XF w0 W):AK S w0 W:=h.mono (fun _ _ h=>h.elim)
end
section
variable {P:Program} {md:Region.Mode} {ops:Array Oper} {Q:Exit->Act->World->Prop} {S:World->Prop} {k:Nat->Bool}
def F6(P:Program) (md:Region.Mode) (ops:Array Oper) (Q:Exit->Act->World->Prop) (S:World->Prop) (k:Nat->Bool):Nat->Array Bool->Act->World->Prop
 | 0,ls,a,w=>Region.ready md ops ls=[]/\Q .normal a w
 | n+1,ls,a,w=>(Region.ready md ops ls=[]->Q .normal a w)/\∀i∈Region.ready md ops ls,wpOp P ops Q i (fun a' w'=>(k i=false->S w')/\F6 P md ops Q S k n (ls.setIfInBounds i true) a' w') a w
theorem F6.any:∀(n:Nat) (ls:Array Bool) (a:Act) (w:World),F6 P md ops Q S k n ls a w->wpAny P md ops Q n ls a w
 | 0,_,_,_,h=>h
 | n+1,_,_,_,h=>⟨h.1,fun i hi=>wpOp_mono (fun a w h=>F6.any n _ a w h.2) (h.2 i hi)⟩
def Nx(md:Region.Mode) (ops:Array Oper) (j i:Nat):Prop:=∃ok,ops[j]?=some ok/\∃e∈ok.after,Region.binds md e=true/\e.on=i
theorem F6.take{i:Nat} {oi:Oper} {v:Value} (hi:ops[i]?=some oi) (hsel:∀(j:Nat) (o:Oper) cs b,ops[j]?=some o->o.op≠.select cs b) (hQ:∀c a w,Q (.panic c) (a.put oi.dst v) w->Q (.panic c) a w) :
  ∀(n:Nat) (ls:Array Bool) (a:Act) (w:World),Iu md ops i oi ls->i∈Region.ready md ops ls->(k i=false/\∀j,k j=true->Nx md ops j i∨∃p,Nx md ops j p/\Nx md ops p i)->(∀p,Nx md ops p i->ls.getD p false=false)->YieldsIf P ops S oi v a->S w->F6 P md ops Q S k n (ls.setIfInBounds i true) (a.put oi.dst v) w->F6 P md ops Q S k (n+1) ls a w:=by
 have first:∀(n:Nat) (ls:Array Bool) (a:Act) (w:World),i∈Region.ready md ops ls->YieldsIf P ops S oi v a->S w->F6 P md ops Q S k n (ls.setIfInBounds i true) (a.put oi.dst v) w->wpOp P ops Q i (fun a' w'=>(k i=false->S w')/\F6 P md ops Q S k n (ls.setIfInBounds i true) a' w') a w :=
  fun n ls a w _ hy hS H=>hy.wpOp hi hS ⟨fun _=>hS,H⟩
 intro n;induction n with
 | zero =>
  intro ls a w _ hr _ _ hy hS H;refine⟨fun h=>(by rw[h] at hr;cases hr),fun j hj=>?_⟩;rcases Decidable.em (j=i) with e|e
  ·rw[e];exact first 0 ls a w hr hy hS H
  have:=ready_mono hj e;rw[H.1] at this;cases this
 | succ n ih =>
  intro ls a w hap hr hk hnl hy hS H;refine⟨fun h=>(by rw[h] at hr;cases hr),fun j hj=>?_⟩;rcases Decidable.em (j=i) with e|e
  ·rw[e];exact first (n+1) ls a w hr hy hS H
  obtain⟨hju,oj,hoj,_⟩:=mem_ready.1 hj;have h2:=wpOp_putIf hoj (hap j oj hoj e hju (C6 hr hoj hj)) (fun cs b=>hsel i oi cs b hi) (fun cs b=>hsel j oj cs b hoj) hQ hy (H.2 j (ready_mono hj e));refine wpOp_mono (fun a' w' h3=>?_) h2;have hr':i∈Region.ready md ops (ls.setIfInBounds j true):=ready_mono hr (Ne.symm e);have hjk:k j=false:=by
   cases hkj:k j with
   | false=>rfl
   | true =>
    have hno:∀p,Nx md ops j p->p≠i/\ls.getD p false=true:=fun p ⟨ok,ho,e',he,hb,hon⟩=>by
     rw[hoj] at ho;cases ho;refine⟨fun ep=>C6 hr hoj hj e' he hb (hon.trans ep),?_⟩;obtain⟨_,o2,ho2,hall⟩:=mem_ready.1 hj;rw[hoj] at ho2;cases ho2;rw[<- hon];exact hall e' he hb
    rcases hk.2 j hkj with h4|⟨p,h4,h5⟩
    ·exact absurd rfl (hno i h4).1
    have h6:=(hno p h4).2;rw[hnl p h5] at h6;cases h6
  have hnl':∀p,Nx md ops p i->(ls.setIfInBounds j true).getD p false=false:=fun p hp=>by
   have hpj:p≠j:=fun ep=>by
    obtain⟨ok,ho,e',he,hb,hon⟩:=hp;rw[ep,hoj] at ho;cases ho;exact C6 hr hoj hj e' he hb hon
   rw[getD_set_ne false (Ne.symm hpj)];exact hnl p hp
  have hS':S w':=h3.2.1 hjk;exact⟨fun _=>hS',ih _ a' w' (hap.next hju) hr' hk hnl' h3.1 hS' (by rw[Array.setIfInBounds_comm _ _ e];exact h3.2.2)⟩
end
section
variable {P:Program} {md:Region.Mode} {l:List Oper} {Q:Exit->Act->World->Prop} {S:World->Prop} {k:Nat}
def PI(md:Region.Mode) (l:List Oper) (j i:Nat):Bool:=GQ md l j i||(List.range l.length).any fun p=>GQ md l j p&&GQ md l p i
def Of(md:Region.Mode) (l:List Oper) (k i:Nat):Bool:=decide (i<k)&&(List.range l.length).all fun j=>!decide (k<=j)||PI md l j i
def Rb(md:Region.Mode) (l:List Oper) (ls:Array Bool) (i:Nat):Bool:=(List.range l.length).all fun p=>!GQ md l p i || !ls.getD p false
theorem O1{j i:Nat} (h:GQ md l j i=true):Nx md l.toArray j i:=K9 h
theorem Uv{j i:Nat} (h:Nx md l.toArray j i):GQ md l j i=true:=by
 obtain⟨ok,ho,e,he,hb,hon⟩:=h;have ho':l[j]?=some ok:=by simpa using ho
 unfold GQ;rw[ho'];exact Array.any_eq_true'.2 ⟨e,he,by rw[hb,hon];simp⟩
theorem Og{ls:Array Bool} {i:Nat} (h:Rb md l ls i=true):∀p,Nx md l.toArray p i->ls.getD p false=false:=fun p hp=>by
 have hlt:p<l.length:=by
  obtain⟨ok,ho,_⟩:=hp;have:=(Array.getElem?_eq_some_iff.1 ho).1;simpa using this
 unfold Rb at h;have h2:=List.all_eq_true.1 h p (List.mem_range.2 hlt);rw[Uv hp] at h2;simpa using h2
theorem NV{i:Nat} (h:Of md l k i=true):(fun j=>decide (k<=j)&&decide (j<l.length)) i=false/\∀j,(fun j=>decide (k<=j)&&decide (j<l.length)) j=true->Nx md l.toArray j i∨∃p,Nx md l.toArray j p/\Nx md l.toArray p i:=by
 unfold Of at h;simp only[Bool.and_eq_true,decide_eq_true_eq,List.all_eq_true] at h;refine⟨by simp only[Bool.and_eq_false_iff,decide_eq_false_iff_not];left;omega,fun j hj=>?_⟩;simp only[Bool.and_eq_true,decide_eq_true_eq] at hj;have h2:=h.2 j (List.mem_range.2 hj.2);rw[decide_eq_true hj.1] at h2;have h3:PI md l j i=true:=by simpa using h2
 unfold PI at h3;rw[Bool.or_eq_true] at h3;rcases h3 with h3|h3
 ·exact .inl (O1 h3)
 obtain⟨p,_,hp⟩:=List.any_eq_true.1 h3;rw[Bool.and_eq_true] at hp;exact .inr ⟨p,O1 hp.1,O1 hp.2⟩
abbrev Jt(P:Program) (md:Region.Mode) (l:List Oper) (Q:Exit->Act->World->Prop) (S:World->Prop) (k:Nat) (n:Nat) (ls:Array Bool) (a:Act) (w:World):Prop:=F6 P md l.toArray Q S (fun j=>decide (k<=j)&&decide (j<l.length)) n ls a w
theorem lt(i:Nat) {oi:Oper} {v:Value} {fuel:Nat} {listed:Array Bool} {a:Act} {w:World} (hi:l[i]?=some oi:=by rfl) (hs:Region.noSelect l.toArray=true:=by kernel_rfl) (hf:Region.free md l.toArray listed i=true:=by kernel_rfl)
  (hr:(Region.ready md l.toArray listed).contains i=true:=by kernel_rfl) (hk:Of md l k i=true:=by kernel_rfl) (hnl:Rb md l listed i=true:=by kernel_rfl) (hQ:∀c a w,Q (.panic c) (a.put oi.dst v) w->Q (.panic c) a w:=by exact fun _ _ _ h=>h) (hw:Region.wanted oi (yielded l.toArray a.tmps)=true:=by rfl)
  (he:∀w,S w->(execOp a.eval oi).run P w=.ok (.value v) w:=by (intro w hSw;(try go_frame);(try dsimp only at hSw);go_simp)<;>with_reducible rfl) (hS:S w:=by assumption) (h:Jt P md l Q S k fuel (listed.setIfInBounds i true) (a.put oi.dst v) w):Jt P md l Q S k (fuel+1) listed a w :=
 have hi':l.toArray[i]?=some oi:=by simpa using hi
 F6.take hi' (Region.noSelect_spec hs) hQ fuel listed a w (Region.free_spec hi' hf) (by simpa using hr) (NV hk) (Og hnl) (.inl ⟨hw,he⟩) hS h
theorem VU(i:Nat) {oi:Oper} {fuel:Nat} {listed:Array Bool} {a:Act} {w:World} (hi:l[i]?=some oi:=by rfl) (hr:Region.ready md l.toArray listed=[i]:=by kernel_rfl)
  (h:∀K':Act->World->Prop,Shut (∀a w,S w->(S w->Jt P md l Q S k fuel (listed.setIfInBounds i true) a w)->K' a w)->if Region.wanted oi (yielded l.toArray a.tmps)=true then Oper.wp P oi a w K' Q else K' (a.put oi.dst undef) w) :
  Jt P md l Q S k (fuel+1) listed a w:=by
 refine⟨fun h0=>(by rw[hr] at h0;cases h0),fun j hj=>?_⟩;rw[hr] at hj;obtain rfl:=List.mem_singleton.1 hj;exact wpOp_step (by simpa using hi) (fun K' hK=>h K' (fun a w hS hW=>hK a w ⟨fun _=>hS,hW hS⟩))
theorem ll(i:Nat) {oi:Oper} {fuel:Nat} {listed:Array Bool} {a:Act} {w:World} (hi:l[i]?=some oi:=by rfl) (hr:Region.ready md l.toArray listed=[i]:=by kernel_rfl) (hk:(decide (k<=i)&&decide (i<l.length))=true:=by kernel_rfl)
  (h:∀K':Act->World->Prop,Shut (∀a w,Jt P md l Q S k fuel (listed.setIfInBounds i true) a w->K' a w)->if Region.wanted oi (yielded l.toArray a.tmps)=true then Oper.wp P oi a w K' Q else K' (a.put oi.dst undef) w) :
  Jt P md l Q S k (fuel+1) listed a w:=by
 refine⟨fun h0=>(by rw[hr] at h0;cases h0),fun j hj=>?_⟩;rw[hr] at hj;obtain rfl:=List.mem_singleton.1 hj;exact wpOp_step (by simpa using hi) (fun K' hK=>h K' (fun a w hW=>hK a w ⟨fun e=>absurd (hk.symm.trans e) (by decide),hW⟩))
theorem VF{listed:Array Bool} {a:Act} {w:World} (hr:Region.ready md l.toArray listed=[]) (h:Q .normal a w):∀fuel,Jt P md l Q S k fuel listed a w
 | 0=>⟨hr,h⟩
 | _+1=>⟨fun _=>h,by rw[hr];simp⟩
theorem U1{id:Nat} {a:Act} {w:World} (k:Nat) (S:World->Prop) (hm:P.follows .mixedOrders=true) (hS:S w.drew)
  (h:S w.drew->Jt P .any l Q S k l.toArray.size (Array.replicate l.toArray.size false) a w.drew):(Code.region id l.toArray true).wp P Q a w :=
 wp_region_any hm (F6.any _ _ _ _ (h hS))
end
theorem Mo(w:World) (v v':Value) (z:Int) (y L:Nat) (h:Bf w v z L) (h':Bf w v' (-(y:Int)) L) (hy:0<y) (hL:L<=33554432) :
  Calls prog 205 #[v,v'] w (Aw w (mkRat (-z) y)):=by
 have HSg:=bH (fun W (hW:XF w W)=>El W v' _ L (h'.keep hW) (by omega));rw[show (-(y:Int)).sign = -1 from Int.sign_eq_neg_one_of_neg (by omega)] at HSg;have HN1:=bH (fun W (hW:XF w W)=>I6 W v z L (h.keep hW) (by omega));have HN2:=bH (fun W (hW:XF w W)=>I6 W v' _ L (h'.keep hW) (by omega));rw[Int.neg_neg] at HN2;obtain⟨hq1,hq2⟩:=Mb (z:=-z) hy;have hzl:(dg (-z).natAbs).length<=L:=by rw[Int.natAbs_neg];exact h.len
 have hyl:(dg y).length<=L:=by have:=h'.len;rwa [Int.natAbs_neg,Int.natAbs_natCast] at this
 have hg:0<Nat.gcd (-z).natAbs y:=Nat.gcd_pos_of_pos_right _ hy;have hgl:(dg (Nat.gcd (-z).natAbs y)).length<=L:=Nat.le_trans (Bu (Nat.gcd_le_right _ hy)) hyl;have HQ1:=bH (fun W u (hu0:Ay W u (-z)) ao n c (hu:Ab W (.slice ao n c) (Nat.gcd (-z).natAbs y))=>J9 W u (.agg #[.bool false,.slice ao n c]) (-z) ((Nat.gcd (-z).natAbs y:Nat):Int) L (hu0.reads hzl) ⟨false,_,_,rfl,hu,hgl,by rw[At];rfl⟩ (by omega) hL);have HQ2:=bH (fun W u (hu0:Ay W u (y:Int)) ao n c (hu:Ab W (.slice ao n c) (Nat.gcd (-z).natAbs y))=>J9 W u (.agg #[.bool false,.slice ao n c]) y ((Nat.gcd (-z).natAbs y:Nat):Int) L (hu0.reads (by rw[Int.natAbs_natCast];exact hyl)) ⟨false,_,_,rfl,hu,hgl,by rw[At];rfl⟩ (by omega) hL);unfold Gs at HQ1 HQ2;simp only[hq1,hq2] at HQ1 HQ2;have hdl:(dg (mkRat (-z) y).den).length<=L:=by
  have:(mkRat (-z) y).den<=y:=by
   have e:=hq2;rw[Ib] at e;have:=Nat.div_le_self y (Nat.gcd (-z).natAbs y);omega
  exact Nat.le_trans (Bu this) hyl
 have HC:=bH (fun W u u' (h1:Ab W u (mkRat (-z) y).den) (h2:Ab W u' 1)=>Iv W u u' _ _ h1 h2 (by omega) (Nat.le_trans (GL (n:=1) (by decide)).1 (by decide)));simp only[At] at HC;have hF:∀W,Calls prog 207 #[.int .u64 1] W (BO W 1):=fun W=>FW W 1 (by decide);have HF:=bH hF;clear hF;obtain⟨neg,ao,m,c,l,rfl,-,-,-⟩:=h.open;obtain⟨neg',ao',m',c',l',rfl,-,-,-⟩:=h'.open;have HG:=bH (fun W u u' (h1:Ab W u (-z).natAbs) (h2:Ab W u' y)=>P5 W u u' _ _ h1 h2 (by omega) (by omega));simp only[At] at HG;clear hq1 hq2 hg hgl hdl h h' hzl hyl;generalize Nat.gcd (-z).natAbs y=g at *;generalize mkRat (-z) y=q at *;go_enter func205,ntmps205;go_upto_region 0 with fail;go_cut [2,3,4] (fun v1 v2 v3 wx=>∃b b' r,v1=.pointer (some ⟨b,0,none⟩)/\v2=.pointer (some ⟨b',0,none⟩)/\v3=.pointer (some ⟨r,0,none⟩)/\A1 wx b neg (.slice ao m c)/\A1 wx b' neg' (.slice ao' m' c')/\Aj wx r false (.slice none 0 0) (.slice none 0 0)/\w.heap.size<=b/\b<b'/\b'<r/\XF w wx);case first =>
  go_wp2;go_meet;exact⟨_,_,_,rfl,rfl,rfl,((AR rfl neg ao m c).alloc _).alloc _,(AR (by simp) neg' ao' m' c').alloc _,AO (by simp) false none 0 0 none 0 0,(by omega),(by simp),(by simp),(((AK.refl _ w).alloc _).alloc _).alloc _⟩
 case rest =>
  obtain⟨b,b',r,rfl,rfl,rfl,hb,hb',hrb,hlb,hbb,hbr,hx⟩:=hcut;have hle:w.heap.size<=r:=(by omega);have hne:b≠b'/\b≠r/\b'≠r:=(by omega);obtain⟨e0,e1,_⟩:=hb'.facts;have HB:=bH (bI hb (bI hb' (bI hrb hx)));clear hb hb' hrb hx;go_wp2_with fail;refine (HSg.o _ HB.o.2.2.2).mono ?_;rintro r1 w1 ⟨rfl,hx1⟩;obtain⟨x0,x1,_⟩:=(HB.o.1.ext hx1 id).facts;obtain⟨y0,y1,_⟩:=(HB.o.2.1.ext hx1 id).facts;replace HN1:=bH (fun W (hW:XF w1 W)=>HN1.o W ((HB.o.2.2.2.trans hx1).trans hW));replace HN2:=bH (fun W (hW:XF w1 W)=>HN2.o W ((HB.o.2.2.2.trans hx1).trans hW));clear e0 e1;go_upto_region 2 with fail;replace x0:=cq x0;replace x1:=cq x1;replace y0:=cq y0;replace y1:=cq y1;refine U1 4 (XF w1) (by kernel_rfl) ((AK.refl _ w1).drew) (fun hHeld=>?_);refine lt 0 (h:=(lt 2 (h:=?_)));(try go_frame);refine VU 1 (h:=fun K hK=>?_);(go_simp;go_at_call 217;(with_reducible refine (HN1.o _ hHeld).mono ?_);rintro q1 w11 ⟨v11,rfl,h11,hx11⟩;have hX1:=hHeld.trans hx11;obtain⟨n11,a11,l11,c11,rfl⟩:=h11.shape);refine hK.o _ _ (hX1) (fun hHeld=>?_);clear hK K;(try go_frame);refine VU 3 (h:=fun K hK=>?_);(go_simp;go_at_call 217;(with_reducible refine (HN2.o _ hX1).mono ?_);rintro q2 w12 ⟨v12,rfl,h12,hx12⟩;have hX2:=hX1.trans hx12;obtain⟨n12,a12,l12,c12,rfl⟩:=h12.shape);refine hK.o _ _ (hX2) (fun hHeld=>?_);clear hK K;(try go_frame);have hb2:=HB.o.1.ext (hx1.trans hX2) id;have hb2':=HB.o.2.1.ext (hx1.trans hX2) id;obtain⟨d0,d1,d2,d3⟩:=hb2.facts;obtain⟨f0,f1,f2,f3⟩:=hb2'.facts;refine ll 4 (h:=fun K hK=>?_);go_simp;refine hK.o _ _ ?_;clear hK K;(try go_frame);refine ll 5 (h:=fun K hK=>?_);go_simp;refine hK.o _ _ ?_;clear hK K;(try go_frame);refine VF (by kernel_rfl) ?_ _;have hp1:=hb2.put (neg:=n11) (AF a11 l11 c11);have hp2:=(hb2'.ext hp1.ext (fun e=>hne.1 e.symm)).put (neg:=n12) (AF a12 l12 c12);have hi1:=hp2.int (hp1.int (h11.keep hx12));have hi2:=hp2.int (hp1.int h12);have HZ:=bH (bI (hp1.box.ext hp2.ext hne.1) (bI hp2.box (bI (((HB.o.2.2.1.ext (hx1.trans hX2) id).ext hp1.ext (fun e=>hne.2.1 e.symm)).ext hp2.ext (fun e=>hne.2.2 e.symm)) (((HB.o.2.2.2.trans (hx1.trans hX2)).own hp1.ext (fun k e=>by omega)).own hp2.ext (fun k e=>by omega)))));have HI:=bH (bI hi1 hi2);clear hp1 hp2 hi1 hi2 hb2 hb2' d0 d1 d2 d3 f0 f1 f2 f3 h11 h12 hx11 hx12 hX1 hX2 hx1 x0 x1 y0 y1 hHeld HN1 HN2 HB;go_upto_region 3 with fail;generalize (((w12.setCell ⟨b,0,none⟩ (.bool n11)).setCell ⟨b,1,none⟩ (.slice a11 l11 c11)).setCell ⟨b',0,none⟩ (.bool n12)).setCell ⟨b',1,none⟩ (.slice a12 l12 c12)=w1z at *;have hm1:Ab w1z (.slice a11 l11 c11) (-z).natAbs:=by
   obtain⟨m0,h1,h2⟩:=HI.o.1;cases h1;exact h2
  have hm2:Ab w1z (.slice a12 l12 c12) y:=by
   obtain⟨m0,h1,h2⟩:=HI.o.2;cases h1;rw[Int.natAbs_natCast] at h2;exact h2
  have HX1:=bH (AK.refl (fun _=>False) w1z);obtain⟨c10,c11',_⟩:=HZ.o.1.facts;obtain⟨e10,e11,_⟩:=HZ.o.2.1.facts;have HG1:=bH (HG.o w1z _ _ hm1 hm2);clear hm1 hm2;go_wp2_with fail;refine HG1.o.mono ?_;rintro r2 w2 ⟨vg,rfl,hg2,hx2⟩;obtain⟨aog,cg,rfl⟩:=hg2.shape;generalize (dg g).length=ng at *;clear c10 c11' e10 e11 HG1;have hbg:=AR (W:=w2) rfl false aog ng cg;have hx23:=(AK.refl (fun _=>False) w2).alloc (.cells #[.bool false,.slice aog ng cg] 32);have hX3:=(HX1.o.trans hx2).trans hx23;go_upto_region 4 with fail;obtain⟨bg,hbge⟩:=bN w2.heap.size;rw[hbge] at hbg ⊢;generalize w2.alloc (.cells #[.bool false,.slice aog ng cg] 32)=w3 at *;obtain⟨c0,c1,_⟩:=(HZ.o.1.ext hX3 id).facts;obtain⟨g0,g1,_⟩:=hbg.facts;have HQ13:=bH (HQ1.o w3 _ (HI.o.1.keep hX3) aog ng cg (hg2.keep hx23));have HX3:=bH (bI hX3 (bI hbg (hg2.keep hx23)));clear hg2 hx2 hX3 hbg hx23 hbge HX1;go_wp2_with fail;refine HQ13.o.mono ?_;rintro r4 w4 ⟨vn,vs,rfl,hn4,hs4,hx4⟩;obtain⟨nn,aon,mn,cn,rfl⟩:=hn4.shape;obtain⟨ns,aos,ms,cs,rfl⟩:=hs4.shape;have hX4:=HX3.o.1.trans hx4;clear c0 c1 g0 g1;go_upto_region 5 with fail;obtain⟨bn,hbne⟩:=bN w4.heap.size;have hbn:=(AR (W:=w4) rfl nn aon mn cn).alloc (.cells #[.bool ns,.slice aos ms cs] 32);have hx45:=((AK.refl (fun _=>False) w4).alloc (.cells #[.bool nn,.slice aon mn cn] 32)).alloc (.cells #[.bool ns,.slice aos ms cs] 32);rw[hbne] at hbn ⊢;generalize (w4.alloc (.cells #[.bool nn,.slice aon mn cn] 32)).alloc (.cells #[.bool ns,.slice aos ms cs] 32)=w5 at *;have hX5:=hX4.trans hx45;obtain⟨e0,e1,_⟩:=(HZ.o.2.1.ext hX5 id).facts;obtain⟨g0,g1,_⟩:=(HX3.o.2.1.ext (hx4.trans hx45) id).facts;have HQ25:=bH (HQ2.o w5 _ (HI.o.2.keep hX5) aog ng cg (HX3.o.2.2.keep (hx4.trans hx45)));have HX5:=bH (bI hX5 (bI (hn4.keep hx45) hbn));clear hX4 hx4 hX5 hx45 hbn hn4 hs4 hbne;go_wp2_with fail;refine HQ25.o.mono ?_;rintro r6 w6 ⟨vd,vt,rfl,hd6,ht6,hx6⟩;obtain⟨nd,aod,md,cd,rfl⟩:=hd6.shape;obtain⟨nt,aot,mt,ct,rfl⟩:=ht6.shape;have hX6:=HX5.o.1.trans hx6;clear e0 e1 g0 g1;go_upto_region 6 with fail;obtain⟨bd,hbde⟩:=bN w6.heap.size;have hbd:=(AR (W:=w6) rfl nd aod md cd).alloc (.cells #[.bool nt,.slice aot mt ct] 32);have hx67:=((AK.refl (fun _=>False) w6).alloc (.cells #[.bool nd,.slice aod md cd] 32)).alloc (.cells #[.bool nt,.slice aot mt ct] 32);rw[hbde] at hbd ⊢;generalize (w6.alloc (.cells #[.bool nd,.slice aod md cd] 32)).alloc (.cells #[.bool nt,.slice aot mt ct] 32)=w7 at *;have hX7:=hX6.trans hx67;have hnd:Ab w7 (.slice aod md cd) q.den:=by
   obtain⟨m0,h1,h2⟩:=hd6.keep hx67;cases h1;rw[Int.natAbs_natCast] at h2;exact h2
  have hS:S1 bd (.slice aod md cd) w7:=hbd.facts.2.1;have HX7:=bH (bI hX7 (bI (HX5.o.2.1.keep (hx6.trans hx67)) (bI (HX5.o.2.2.ext (hx6.trans hx67) id) (bI hbd hnd))));clear hX6 hx6 hX7 hx67 hbd hd6 ht6 hbde hnd;go_region_held3 (S1 bd (.slice aod md cd))
   (repeat (first|(with_reducible assumption)|(with_reducible refine S1.drew ?_)))
   (first
    | (go_at_call 207;(with_reducible refine (HF.o _).mono ?_);rintro r8 w8 ⟨v8,rfl,h8,hx8⟩;have hx78:=(AK.refl (fun _=>False) w7).drew.trans hx8;have hK8:S1 bd (.slice aod md cd) w8:=(HX7.o.2.2.2.1.ext hx78 id).facts.2.1;have hC8:=HC.o w8 _ _ (HX7.o.2.2.2.2.keep hx78) h8)
    | (go_at_call 225;(with_reducible refine hC8.mono ?_);rintro r9 w' ⟨rfl,hw⟩;obtain rfl:=hw.symm))
  have hX8:=HX7.o.1.trans hx78;have hr8:=HZ.o.2.2.1.ext hX8 id;obtain⟨d0,d1,d2,d3,d4,d5⟩:=hr8.facts;obtain⟨c0,c1,_⟩:=(HX7.o.2.2.1.ext hx78 id).facts;have hn8:=HX7.o.2.1.keep hx78;have hd8:=HX7.o.2.2.2.2.keep hx78;have hXw:=HZ.o.2.2.2.trans hX8;have hc1:=Oc q.den;generalize CA q.den 1=cq at *;by_cases h1:q.den=1
  ·have hcq:=hc1.2 h1;subst hcq;have hp:=hr8.put (neg:=nn) (AF aon mn cn) (AF none 0 0);have hR0:AN w8 (.agg #[.bool nn,.slice aon mn cn,.slice none 0 0]) q:=AN.mk hn8 (by rw[h1];exact Ab.nil w8);have HR:=bH (bI (hp.rat hR0) (bI (hXw.own hp.ext (fun k e=>by omega)) hp.box));clear hp hR0 hn8 hd8 hr8 hXw hX8 hx8 hx78 h8 hC8 hK8 hS hc1 h1;go_wp2;generalize ((w8.setCell ⟨r,0,none⟩ (.bool nn)).setCell ⟨r,1,none⟩ (.slice aon mn cn)).setCell ⟨r,2,none⟩ (.slice none 0 0)=w9 at *;obtain⟨g0,g1,g2,_⟩:=HR.o.2.2.facts;exact bodyPost_ret (v:=.agg #[.bool nn,.slice aon mn cn,.slice none 0 0]) (by simp[results,results205,go_sem,g0,g1,g2]) rfl ⟨_,rfl,HR.o.1,HR.o.2.1⟩
  have hcq:¬cq=0:=fun e=>h1 (hc1.1 e);have hp:=hr8.put (neg:=nn) (AF aon mn cn) (AF aod md cd);have hR0:AN w8 (.agg #[.bool nn,.slice aon mn cn,.slice aod md cd]) q:=AN.mk hn8 (by unfold dw;rw[if_neg h1];exact hd8);have HR:=bH (bI (hp.rat hR0) (bI (hXw.own hp.ext (fun k e=>by omega)) hp.box));clear hp hR0 hn8 hd8 hr8 hXw hX8 hx8 hx78 h8 hC8 hS hc1 h1;have hcb:(cq == 0)=false:=(by simpa using hcq);go_wp2;generalize ((w8.setCell ⟨r,0,none⟩ (.bool nn)).setCell ⟨r,1,none⟩ (.slice aon mn cn)).setCell ⟨r,2,none⟩ (.slice aod md cd)=w9 at *;obtain⟨g0,g1,g2,_⟩:=HR.o.2.2.facts;exact bodyPost_ret (v:=.agg #[.bool nn,.slice aon mn cn,.slice aod md cd]) (by simp[results,results205,go_sem,g0,g1,g2]) rfl ⟨_,rfl,HR.o.1,HR.o.2.1⟩
theorem Mt(w:World) (v v':Value) (z y:Int) (L:Nat) (h:Bf w v z L) (h':Bf w v' y L) (hy:y≠0) (hL:L<=33554432) :
  Calls prog 205 #[v,v'] w (Aw w ((z:Rat)/(y:Rat))):=by
 by_cases hp:0<y
 ·obtain⟨n,rfl⟩:∃n:Nat,y=n:=⟨y.toNat,by omega⟩;have:=E6 w v v' z n L h h' (by omega) hL;rw[Rat.mkRat_eq_div] at this;exact this
 obtain⟨n,rfl⟩:∃n:Nat,y = -(n:Int):=⟨(-y).toNat,by omega⟩;have:=Mo w v v' z n L h h' (by omega) hL;rw[Rat.mkRat_eq_div] at this;have e:((-z:Int):Rat)/((n:Nat):Rat)=(z:Rat)/((-(n:Int):Int):Rat):=by
  rw[Rat.intCast_neg,Rat.intCast_neg,Rat.intCast_natCast];grind
 rw[e] at this;exact this
theorem SB(w:World) (p q r s:Value) (zp zq zr zs:Int) (L:Nat) (hp:Bf w p zp L) (hq:Bf w q zq L) (hr:Bf w r zr L) (hs:Bf w s zs L) (hL:L<=4194304) :
  Calls prog 216 #[p,q,r,s] w (Fx w (zp*zs) (zq*zr)):=by
 have H1:=bH (fun W (hW:XF w W)=>DB W p s zp zs L (hp.keep hW) (hs.keep hW) (by omega));have H2:=bH (fun W (hW:XF w W)=>DB W q r zq zr L (hq.keep hW) (hr.keep hW) (by omega));obtain⟨n1,a1,l1,c1,_,rfl,_,_,_⟩:=hp.open;obtain⟨n2,a2,l2,c2,_,rfl,_,_,_⟩:=hq.open;obtain⟨n3,a3,l3,c3,_,rfl,_,_,_⟩:=hr.open;obtain⟨n4,a4,l4,c4,_,rfl,_,_,_⟩:=hs.open;clear hp hq hr hs;unfold Fx;generalize zp*zs=Z at *;generalize zq*zr=Y at *;go_enter func216,ntmps216;go_upto_region 0 with fail;go_cut [4,5,6,7,8,9] (fun v1 v2 v3 v4 v5 v6 wx=>∃b1 b2 b3 b4 r1 r2,v1=.pointer (some ⟨b1,0,none⟩)/\v2=.pointer (some ⟨b2,0,none⟩)/\v3=.pointer (some ⟨b3,0,none⟩)/\v4=.pointer (some ⟨b4,0,none⟩)/\v5=.pointer (some ⟨r1,0,none⟩)/\v6=.pointer (some ⟨r2,0,none⟩)/\OM wx b1 b2 b3 b4 n1 n2 n3 n4 (.slice a1 l1 c1) (.slice a2 l2 c2) (.slice a3 l3 c3) (.slice a4 l4 c4)/\A1 wx r1 false (.slice none 0 0)/\A1 wx r2 false (.slice none 0 0)/\b1<r1/\b2<r1/\b3<r1/\b4<r1/\r1<r2/\w.heap.size<=r1/\XF w wx);case first =>
  go_wp2;go_meet;exact⟨_,_,_,_,_,_,rfl,rfl,rfl,rfl,rfl,rfl,⟨(((((AR rfl n1 a1 l1 c1).alloc _).alloc _).alloc _).alloc _).alloc _,((((AR (by simp) n2 a2 l2 c2).alloc _).alloc _).alloc _).alloc _,(((AR (by simp) n3 a3 l3 c3).alloc _).alloc _).alloc _,((AR (by simp) n4 a4 l4 c4).alloc _).alloc _⟩,(AR (by simp) false none 0 0).alloc _,AR (by simp) false none 0 0,(by omega),(by omega),(by omega),(by omega),(by omega),(by omega),((((((AK.refl _ w).alloc _).alloc _).alloc _).alloc _).alloc _).alloc _⟩
 case rest =>
  obtain⟨b1,b2,b3,b4,r1,r2,rfl,rfl,rfl,rfl,rfl,rfl,hb,hr1,hr2,i1,i2,i3,i4,i5,hle,hx⟩:=hcut;have hS:=hb.s;have HB:=bH (bI hb (bI hr1 (bI hr2 hx)));clear hb hr1 hr2 hx;go_upto_region 1 with fail;go_region_held3 (Od b1 b2 b3 b4 n1 n2 n3 n4 (.slice a1 l1 c1) (.slice a2 l2 c2) (.slice a3 l3 c3) (.slice a4 l4 c4))
   (repeat (first|(with_reducible assumption)|(with_reducible refine Od.drew ?_)|(with_reducible refine Od.set ?_ _ _ ?_ ?_ ?_ ?_)|(dsimp only;omega)))
   (first
    | (go_at_call 188;(with_reducible refine (H1.o _ (HB.o.2.2.2.drew)).mono ?_);rintro q1 w11 ⟨v11,rfl,h11,hx11⟩;have hX1:=(AK.refl (fun _=>False) wc).drew.trans hx11;have hK1:=(HB.o.1.keep hX1).s;obtain⟨ng1,ag1,lg1,cg1,rfl⟩:=h11.shape)
    | (go_at_call 188;(with_reducible refine (H2.o _ (HB.o.2.2.2.trans hX1)).mono ?_);rintro q2 w12 ⟨v12,rfl,h12,hx12⟩;have hX2:=hX1.trans hx12;have hK2:=(HB.o.1.keep hX2).s;have hR1:=HB.o.2.1.ext hX2 id;have hR2:=HB.o.2.2.1.ext hX2 id;obtain⟨d0,d1,d2,d3⟩:=hR1.facts;obtain⟨f0,f1,f2,f3⟩:=hR2.facts;obtain⟨ng2,ag2,lg2,cg2,rfl⟩:=h12.shape))
  have hp1:=hR1.put (neg:=ng1) (AF ag1 lg1 cg1);have hp2:=(hR2.ext hp1.ext (fun e=>by omega)).put (neg:=ng2) (AF ag2 lg2 cg2);have HR:=bH (bI (hp2.int (hp1.int (h11.keep hx12))) (bI (hp2.int (hp1.int h12)) (bI (((HB.o.2.2.2.trans hX2).own hp1.ext (fun k e=>by omega)).own hp2.ext (fun k e=>by omega)) (bI (hp1.box.ext hp2.ext (fun e=>by omega)) hp2.box))));clear hp1 hp2 hR1 hR2 hS d0 d1 d2 d3 f0 f1 f2 f3 h11 hx11 hX1 hK1 h12 hx12 hX2 hK2;generalize (((w12.setCell ⟨r1,0,none⟩ (.bool ng1)).setCell ⟨r1,1,none⟩ (.slice ag1 lg1 cg1)).setCell ⟨r2,0,none⟩ (.bool ng2)).setCell ⟨r2,1,none⟩ (.slice ag2 lg2 cg2)=w20 at *;obtain⟨g0,g1,_⟩:=HR.o.2.2.2.1.facts;obtain⟨g2,g3,_⟩:=HR.o.2.2.2.2.facts;go_wp2;exact bodyPost_ret (v:=.tuple #[.agg #[.bool ng1,.slice ag1 lg1 cg1],.agg #[.bool ng2,.slice ag2 lg2 cg2]]) (by simp[results,results216,go_sem,g0,g1,g2,g3]) rfl ⟨_,_,rfl,HR.o.1,HR.o.2.1,HR.o.2.2.1⟩
theorem Qv(w:World) (v v':Value) (q q':Rat) (L:Nat) (h:BA w v q L) (h':BA w v' q' L) (h0:1<=L) (hL:L<=4194304) (hnz:q'≠0) :
  Calls prog 215 #[v,v',.func (.func 216) #[] #[]] w (Aw w (q/q')):=by
 obtain⟨n1,a1,l1,c1,x1,y1,k1,l,d,rfl,hr,hd,hm,hdl,hq⟩:=h.open;clear hm;obtain⟨n2,a2,l2,c2,x2,y2,k2,l',d',rfl,hr',hd',hm,hdl',hq'⟩:=h'.open;clear hm;have HD1:=bH (fun W (hW:XF w W)=>Ed W _ n1 a1 l1 c1 x1 y1 k1 d L rfl (hd.keep hW) hdl (by omega) h0);have HD2:=bH (fun W (hW:XF w W)=>Ed W _ n2 a2 l2 c2 x2 y2 k2 d' L rfl (hd'.keep hW) hdl' (by omega) h0);have HF:=bH (fun W (hW:XF w W) u u' hu hu'=>SB W _ u _ u' _ (dn (vl d):Nat) _ (dn (vl d'):Nat) L (hr.keep hW) hu (hr'.keep hW) hu' hL);have hd2p:=Br (vl d');have hd1p:=Br (vl d);have hs2:sg n2 (vl l')≠0:=fun e=>hnz (by rw[hq',e];exact Rat.zero_mkRat _);have hdl1:(dg (((dn (vl d):Nat):Int)).natAbs).length<=L:=by rw[Int.natAbs_natCast];exact C5 hd hdl h0
 have hdl2:(dg (((dn (vl d'):Nat):Int)).natAbs).length<=L:=by rw[Int.natAbs_natCast];exact C5 hd' hdl' h0
 have hZl:(dg (sg n1 (vl l)*((dn (vl d'):Nat):Int)).natAbs).length<=L+L+1:=Nat.le_trans (CQ hr.len hdl2) (by omega);have hYl:(dg (((dn (vl d):Nat):Int)*sg n2 (vl l')).natAbs).length<=L+L+1:=Nat.le_trans (CQ hdl1 hr'.len) (by omega);have hY0:((dn (vl d):Nat):Int)*sg n2 (vl l')≠0:=Int.mul_ne_zero (by omega) hs2;have HRd:=bH (fun W u u' (hu:Ay W u (sg n1 (vl l)*((dn (vl d'):Nat):Int))) (hu':Ay W u' (((dn (vl d):Nat):Int)*sg n2 (vl l')))=>Mt W u u' _ _ (L+L+1) (hu.reads hZl) (hu'.reads hYl) hY0 (by omega));have hres:(((sg n1 (vl l)*((dn (vl d'):Nat):Int):Int)):Rat)/(((((dn (vl d):Nat):Int)*sg n2 (vl l'):Int)):Rat)=q/q':=by
  rw[hq,hq',Rat.mkRat_eq_div,Rat.mkRat_eq_div,Rat.intCast_mul,Rat.intCast_mul,Rat.intCast_natCast,Rat.intCast_natCast];have e1:((dn (vl d):Nat):Rat)≠0:=fun e=>by have:=Rat.natCast_inj.1 (e.trans (by rfl:(0:Rat)=((0:Nat):Rat)));omega
  have e2:((dn (vl d'):Nat):Rat)≠0:=fun e=>by have:=Rat.natCast_inj.1 (e.trans (by rfl:(0:Rat)=((0:Nat):Rat)));omega
  have e3:((sg n2 (vl l'):Int):Rat)≠0:=fun e=>hs2 (Rat.intCast_inj.1 (e.trans Rat.intCast_zero.symm));have key:∀(s1 d1 s2 d2:Rat),d1≠0->d2≠0->s2≠0->(s1*d2)/(d1*s2)=(s1/d1)/(s2/d2):=by
   intro s1 d1 s2 d2 h1 h2 h3;grind
  exact key _ _ _ _ e1 e2 e3
 rw[hres] at HRd;clear hr hr' hd hd' hdl hdl' hq hq' h h' hres hZl hYl hY0 hs2 hd1p hd2p hdl1 hdl2 hnz;generalize q/q'=Q at *;unfold Fx at HF;generalize sg n1 (vl l)*((dn (vl d'):Nat):Int)=Z at *;generalize ((dn (vl d):Nat):Int)*sg n2 (vl l')=Y at *;generalize ((dn (vl d):Nat):Int)=D1 at *;generalize ((dn (vl d'):Nat):Int)=D2 at *;go_enter func215,ntmps215;go_upto_region 0 with fail;go_cut [3,4,6] (fun v1 v2 v3 wx=>∃b1 b2 r,v1=.pointer (some ⟨b1,0,none⟩)/\v2=.pointer (some ⟨b2,0,none⟩)/\v3=.pointer (some ⟨r,0,none⟩)/\Aj wx b1 n1 (.slice a1 l1 c1) (.slice x1 y1 k1)/\Aj wx b2 n2 (.slice a2 l2 c2) (.slice x2 y2 k2)/\Aj wx r false (.slice none 0 0) (.slice none 0 0)/\b1<r/\b2<r/\w.heap.size<=r/\XF w wx);case first =>
  go_wp2;go_meet;exact⟨_,_,_,rfl,rfl,rfl,((AO rfl n1 a1 l1 c1 x1 y1 k1).alloc _).alloc _,(AO (by simp) n2 a2 l2 c2 x2 y2 k2).alloc _,AO (by simp) false none 0 0 none 0 0,(by omega),(by omega),(by omega),(((AK.refl _ w).alloc _).alloc _).alloc _⟩
 case rest =>
  obtain⟨b1,b2,r,rfl,rfl,rfl,hb1,hb2,hrb,i1,i2,hle,hx⟩:=hcut;have hS:=B5.of hb1 hb2;have HB:=bH (bI hb1 (bI hb2 (bI hrb hx)));clear hb1 hb2 hrb hx;go_upto_region 1 with fail;go_region_held3 (B5 b1 b2 n1 n2 (.slice a1 l1 c1) (.slice x1 y1 k1) (.slice a2 l2 c2) (.slice x2 y2 k2))
   (repeat (first|(with_reducible assumption)|(with_reducible refine B5.drew ?_)|(with_reducible refine B5.set ?_ _ _ ?_ ?_)|(dsimp only;omega)))
   (first
    | (go_at_call 189;(with_reducible refine (HD1.o _ HB.o.2.2.2.drew).mono ?_);rintro q1 w11 ⟨v11,rfl,h11,hx11⟩;have hX1:=(AK.refl (fun _=>False) wc).drew.trans hx11;have hK1:=B5.of (HB.o.1.ext hX1 id) (HB.o.2.1.ext hX1 id);obtain⟨ng1,ag1,lg1,cg1,rfl⟩:=h11.shape)
    | (go_at_call 189;(with_reducible refine (HD2.o _ (HB.o.2.2.2.trans hX1)).mono ?_);rintro q2 w12 ⟨v12,rfl,h12,hx12⟩;have hX2:=hX1.trans hx12;have hK2:=B5.of (HB.o.1.ext hX2 id) (HB.o.2.1.ext hX2 id);have hF:=HF.o w12 (HB.o.2.2.2.trans hX2) _ _ (h11.keep hx12) h12;obtain⟨ng2,ag2,lg2,cg2,rfl⟩:=h12.shape)
    | (go_at_call 216;(with_reducible refine hF.mono ?_);rintro q3 w13 ⟨va,vb,rfl,ha,hb,hx13⟩;have hX3:=hX2.trans hx13;have hK3:=B5.of (HB.o.1.ext hX3 id) (HB.o.2.1.ext hX3 id);have hR:=HRd.o w13 _ _ ha hb;obtain⟨ng3,ag3,lg3,cg3,rfl⟩:=ha.shape;obtain⟨ng4,ag4,lg4,cg4,rfl⟩:=hb.shape)
    | (go_at_call 205;(with_reducible refine hR.mono ?_);rintro q4 w14 ⟨v14,rfl,h14,hx14⟩;have hX4:=hX3.trans hx14;have hK4:=B5.of (HB.o.1.ext hX4 id) (HB.o.2.1.ext hX4 id);have hr4:=HB.o.2.2.1.ext hX4 id;obtain⟨d0,d1,d2,d3,d4,d5⟩:=hr4.facts;obtain⟨ng,sa,sn,sc,ta,tn,tc,rfl⟩:=h14.shape))
  have hp:=hr4.put (neg:=ng) (AF sa sn sc) (AF ta tn tc);have HR:=bH (bI (hp.rat h14) (bI ((HB.o.2.2.2.trans hX4).own hp.ext (fun k e=>by omega)) hp.box));clear hp hr4 h11 h12 ha hb h14 hx11 hx12 hx13 hx14 hX1 hX2 hX3 hX4 hK1 hK2 hK3 hK4 hS hF hR d0 d1 d2 d3 d4 d5;generalize ((w14.setCell ⟨r,0,none⟩ (.bool ng)).setCell ⟨r,1,none⟩ (.slice sa sn sc)).setCell ⟨r,2,none⟩ (.slice ta tn tc)=w20 at *;obtain⟨g0,g1,g2,_⟩:=HR.o.2.2.facts;go_wp2;exact bodyPost_ret (v:=.agg #[.bool ng,.slice sa sn sc,.slice ta tn tc]) (by simp[results,results215,go_sem,g0,g1,g2]) rfl ⟨_,rfl,HR.o.1,HR.o.2.1⟩
def O0(w:World) (q:Rat) (r:Ending) (w':World):Prop:=∃v,r=.returned (.tuple #[v,.int .i64 0])/\AN w' v q/\XF w w'
theorem KX(w:World) (v v':Value) (q q':Rat) (L:Nat) (h:BA w v q L) (h':BA w v' q' L) (h0:1<=L) (hL:L<=4194304) (hnz:q'≠0) :
  Calls prog 156 #[v,v'] w (O0 w (q/q')):=by
 have HC:=bH (fun W (hW:XF w W)=>Qv W v v' q q' L (h.keep hW) (h'.keep hW) h0 hL hnz);have HS:=bH (fun W (hW:XF w W)=>Bt W v' q' L (h'.keep hW) (by omega));have hsg:q'.num.sign≠0:=fun e=>hnz (Rat.num_eq_zero.1 (Int.sign_eq_zero_iff_zero.1 e));obtain⟨n1,a1,l1,c1,x1,y1,k1,l,d,rfl,-,-,-,-,-⟩:=h.open;obtain⟨n2,a2,l2,c2,x2,y2,k2,l',d',rfl,-,-,-,-,-⟩:=h'.open;clear h h';generalize q'.num.sign=sg at *;generalize q/q'=Q at *;obtain⟨b0,b1,b2,hx⟩:=RU w (.cells #[.bool n1,.slice a1 l1 c1,.slice x1 y1 k1] 34) (.cells #[.bool n2,.slice a2 l2 c2,.slice x2 y2 k2] 34) (.cells #[.bool false,.slice none 0 0,.slice none 0 0] 34);have HB:=bH (bI (EE b0) (bI (EE b1) (bI (EE b2) hx)));clear b0 b1 b2 hx;go_enter func156,ntmps156;go_upto_region 1 with fail;generalize ((w.alloc (.cells #[.bool n1,.slice a1 l1 c1,.slice x1 y1 k1] 34)).alloc (.cells #[.bool n2,.slice a2 l2 c2,.slice x2 y2 k2] 34)).alloc (.cells #[.bool false,.slice none 0 0,.slice none 0 0] 34)=w1 at *;obtain⟨pb,hpb⟩:=bN w.heap.size;have hpw:w.heap.size<=pb:=Nat.le_of_eq hpb;rw[hpb] at HB ⊢;clear hpb;obtain⟨e0,e1,e2,-⟩:=HB.o.2.1.facts;go_wp2_with fail;refine (HS.o _ HB.o.2.2.2).mono ?_;rintro r2 w2 ⟨rfl,hx2⟩;have HB2:=bH (bI (HB.o.1.keep hx2) (bI (HB.o.2.1.keep hx2) (bI (HB.o.2.2.1.keep hx2) (HB.o.2.2.2.trans hx2))));clear hx2 e0 e1 e2 HB HS;have hsb:(sg == 0)=false:=by simpa using hsg
 obtain⟨c0,c1',c2',-⟩:=HB2.o.1.facts;obtain⟨e0,e1,e2,-⟩:=HB2.o.2.1.facts;go_wp2_with fail;refine (HC.o _ HB2.o.2.2.2).mono ?_;rintro q4 w14 ⟨v14,rfl,h14,hx14⟩;obtain⟨ng,sa,sn,sc,ta,tn,tc,rfl⟩:=h14.shape;have hr4:=HB2.o.2.2.1.keep hx14;obtain⟨d0,d1,d2,d3,d4,d5⟩:=hr4.facts;have hp:=hr4.put (neg:=ng) (AF sa sn sc) (AF ta tn tc);have HR:=bH (bI (hp.rat h14) (bI ((HB2.o.2.2.2.trans hx14).own hp.ext (fun k e=>by omega)) hp.box));clear hp hr4 h14 hx14;go_wp2;generalize ((w14.setCell ⟨pb+1+1,0,none⟩ (.bool ng)).setCell ⟨pb+1+1,1,none⟩ (.slice sa sn sc)).setCell ⟨pb+1+1,2,none⟩ (.slice ta tn tc)=w20 at *;obtain⟨g0,g1,g2,_⟩:=HR.o.2.2.facts;exact bodyPost_ret (v:=.tuple #[.agg #[.bool ng,.slice sa sn sc,.slice ta tn tc],.int .i64 0]) (by simp[results,results156,go_sem,g0,g1,g2]) rfl ⟨_,rfl,HR.o.1,HR.o.2.1⟩
theorem TC{z y:Int} (hy:0<y):mkRat z y.natAbs=(z:Rat)/(y:Rat):=by
 obtain⟨n,rfl⟩:∃n:Nat,y=n:=⟨y.toNat,by omega⟩;rw[Int.natAbs_natCast,Rat.mkRat_eq_div];rfl
theorem TF{z y:Int} (hy:y<0):mkRat (-z) y.natAbs=(z:Rat)/(y:Rat):=by
 obtain⟨n,rfl⟩:∃n:Nat,y = -(n:Int):=⟨(-y).toNat,by omega⟩;rw[Int.natAbs_neg,Int.natAbs_natCast,Rat.mkRat_eq_div,Rat.intCast_neg,Rat.intCast_neg,Rat.intCast_natCast];grind
theorem Po{W:World} {k:Nat} {neg:Bool} {ao:Option Addr} {n c:Nat} (h:Au W k=some (.cells #[.bool neg,.slice ao n c] 32 (0,0))):A1 W k neg (.slice ao n c):=⟨h,AF _ _ _⟩
theorem A1.keep{W W':World} {b:Nat} {neg:Bool} {m:Value} (h:A1 W b neg m) (hx:XF W W'):A1 W' b neg m:=h.ext hx id
theorem RS(w:World) (v v':Value) (z y:Int) (L:Nat) (h:Bf w v z L) (h':Bf w v' y L) (hy:y≠0) (hL:L<=33554432) :
  Calls prog 103 #[v,v'] w (O0 w ((z:Rat)/(y:Rat))):=by
 have HF:=bH (fun W (hW:XF w W)=>EN W v' y L (h'.keep hW) (by omega));have hlz:=h.len;have hly:=h'.len;obtain⟨n1,a1,m1,c1,l1,rfl,hr,hl,hz⟩:=h.open;obtain⟨n2,a2,m2,c2,l2,rfl,-,-,-⟩:=h'.open;have HZ:=bH (bI hr (bI hl hz));clear hr hl hz h h';obtain⟨b0,b1,b2,hx⟩:=RU w (.cells #[.bool n1,.slice a1 m1 c1] 32) (.cells #[.bool n2,.slice a2 m2 c2] 32) (.cells #[.bool false,.slice none 0 0,.slice none 0 0] 34);have HB:=bH (bI (Po b0) (bI (Po b1) (bI (EE b2) hx)));clear b0 b1 b2 hx;go_enter func103,ntmps103;go_upto_region 1 with fail;generalize ((w.alloc (.cells #[.bool n1,.slice a1 m1 c1] 32)).alloc (.cells #[.bool n2,.slice a2 m2 c2] 32)).alloc (.cells #[.bool false,.slice none 0 0,.slice none 0 0] 34)=w1 at *;obtain⟨pb,hpb⟩:=bN w.heap.size;have hpw:w.heap.size<=pb:=Nat.le_of_eq hpb;rw[hpb] at HB ⊢;clear hpb;obtain⟨e0,e1,-⟩:=HB.o.2.1.facts;go_upto_region 2 with (go_at_call 99;refine (HF.o _ HB.o.2.2.2).mono ?_;rintro r2 w2 ⟨v2,rfl,h2,hx2⟩;obtain⟨m0,rfl,hm0⟩:=h2;obtain⟨ao,cc,rfl⟩:=hm0.shape;have hb2:=HB.o.2.1.keep hx2;obtain⟨d0,d1,d2,d3⟩:=hb2.facts;clear e0 e1);have hp:=hb2.put (neg:=decide (y<0)) (AF ao (dg y.natAbs).length cc);have HB2:=bH (bI ((HB.o.1.keep hx2).ext hp.ext (by omega)) (bI hp.box (bI ((HB.o.2.2.1.keep hx2).ext hp.ext (by omega)) (bI ((HB.o.2.2.2.trans hx2).own hp.ext (fun k e=>by omega)) (bI (hp.rds _ _ (HZ.o.1.keep (HB.o.2.2.2.trans hx2))) (hp.rds _ _ hm0))))));clear d0 d1 d2 d3 hp hb2 hm0 hx2 HB HF;generalize (w2.setCell ⟨pb+1,0,none⟩ (.bool (decide (y<0)))).setCell ⟨pb+1,1,none⟩ (.slice ao (dg y.natAbs).length cc)=w3 at *;have hny:0<y.natAbs:=by omega
 have hnl:(dg y.natAbs).length≠0:=fun e=>by
  have h1:=At y.natAbs;rw[List.eq_nil_of_length_eq_zero e] at h1;have h2:vl []=0:=rfl;omega
 have HLy:=bH hly;obtain⟨yl,hyl⟩:=bN ((dg y.natAbs).length);rw[hyl] at HB2 hnl hly ⊢;have hyl1:¬(yl:Int)=0:=by omega
 clear hyl;have HRb:=bH (fun W u zz (hu:Bf W u zz L) (hn:Ab W (.slice ao yl cc) y.natAbs)=>EO W u zz y.natAbs L _ hu hn hny (by omega) (Nat.le_trans HLy.o (by omega)));have HN:=bH (fun W (hW:XF w3 W)=>OV W (.agg #[.bool n1,.slice a1 m1 c1]) z L ⟨n1,_,l1,rfl,Ad.keep HB2.o.2.2.2.2.1 hW,HZ.o.2.1,HZ.o.2.2⟩ (by omega));obtain⟨e0,e1,-⟩:=HB2.o.2.1.facts;rcases Int.lt_or_gt_of_ne hy with hlt|hgt
 ·have hd:decide (y<0)=true:=decide_eq_true hlt;obtain⟨zn,hzn⟩:=bN (-z);have hq:mkRat zn y.natAbs=(z:Rat)/(y:Rat):=(by rw[<- hzn];exact TF hlt);have hlz2:(dg zn.natAbs).length<=L:=(by rw[<- hzn,Int.natAbs_neg];exact hlz);rw[hzn] at HN;clear hzn;rw[hd] at e0;obtain⟨f0,f1,f2,f3⟩:=HB2.o.1.facts;go_upto_region 6 with (go_at_call 174;refine (HN.o _ (AK.refl _ _)).mono ?_;rintro r4 w4 ⟨v4,rfl,h4,hx4⟩;obtain⟨m4,rfl,hm4⟩:=h4;obtain⟨bo,bc,rfl⟩:=hm4.shape;have hb4:=HB2.o.1.keep hx4;obtain⟨d0,d1,d2,d3⟩:=hb4.facts);have hp:=hb4.put (neg:=decide (zn<0)) (AF bo (dg zn.natAbs).length bc);have HB3:=bH (bI hp.box (bI (((HB2.o.2.1.keep hx4)).ext hp.ext (by omega)) (bI ((HB2.o.2.2.1.keep hx4).ext hp.ext (by omega)) ((HB2.o.2.2.2.1.trans hx4).own hp.ext (fun k e=>by omega)))));have HRc:=bH (HRb.o _ _ zn (Ay.reads ⟨_,rfl,hp.rds _ _ hm4⟩ hlz2) (hp.rds _ _ (Ad.keep HB2.o.2.2.2.2.2 hx4)));rw[hq] at HRc;clear d0 d1 d2 d3 hp hb4 hm4 hx4 e0 e1 f0 f1 f2 f3 HB2 HN HRb;generalize (w4.setCell ⟨pb,0,none⟩ (.bool (decide (zn<0)))).setCell ⟨pb,1,none⟩ (.slice bo (dg zn.natAbs).length bc)=w5 at *;obtain⟨f0,f1,-⟩:=HB3.o.1.facts;obtain⟨g0,g1,-⟩:=HB3.o.2.1.facts;go_wp2_with fail;refine HRc.o.mono ?_;rintro q4 w14 ⟨v14,rfl,h14,hx14⟩;obtain⟨ng,sa,sn,sc,ta,tn,tc,rfl⟩:=h14.shape;have hr4:=HB3.o.2.2.1.keep hx14;obtain⟨d0,d1,d2,d3,d4,d5⟩:=hr4.facts;have hp:=hr4.put (neg:=ng) (AF sa sn sc) (AF ta tn tc);have HR:=bH (bI (hp.rat h14) (bI ((HB3.o.2.2.2.trans hx14).own hp.ext (fun k e=>by omega)) hp.box));clear hp hr4 h14 hx14 f0 f1 g0 g1;go_wp2;generalize ((w14.setCell ⟨pb+1+1,0,none⟩ (.bool ng)).setCell ⟨pb+1+1,1,none⟩ (.slice sa sn sc)).setCell ⟨pb+1+1,2,none⟩ (.slice ta tn tc)=w20 at *;obtain⟨g0,g1,g2,_⟩:=HR.o.2.2.facts;exact bodyPost_ret (v:=.tuple #[.agg #[.bool ng,.slice sa sn sc,.slice ta tn tc],.int .i64 0]) (by simp[results,results103,go_sem,g0,g1,g2]) rfl ⟨_,rfl,HR.o.1,HR.o.2.1⟩
 have hd:decide (y<0)=false:=decide_eq_false (by omega);rw[hd] at e0;have HB3:=bH (bI HB2.o.1 (bI HB2.o.2.1 (bI HB2.o.2.2.1 HB2.o.2.2.2.1)));have HRc:=bH (HRb.o _ (.agg #[.bool n1,.slice a1 m1 c1]) z ⟨n1,_,l1,rfl,HB2.o.2.2.2.2.1,HZ.o.2.1,HZ.o.2.2⟩ HB2.o.2.2.2.2.2);rw[TC hgt] at HRc;go_upto_region 6 with fail;clear e0 e1 HB2 HN HRb;obtain⟨f0,f1,-⟩:=HB3.o.1.facts;obtain⟨g0,g1,-⟩:=HB3.o.2.1.facts;go_wp2_with fail;refine HRc.o.mono ?_;rintro q4 w14 ⟨v14,rfl,h14,hx14⟩;obtain⟨ng,sa,sn,sc,ta,tn,tc,rfl⟩:=h14.shape;have hr4:=HB3.o.2.2.1.keep hx14;obtain⟨d0,d1,d2,d3,d4,d5⟩:=hr4.facts;have hp:=hr4.put (neg:=ng) (AF sa sn sc) (AF ta tn tc);have HR:=bH (bI (hp.rat h14) (bI ((HB3.o.2.2.2.trans hx14).own hp.ext (fun k e=>by omega)) hp.box));clear hp hr4 h14 hx14 f0 f1 g0 g1;go_wp2;generalize ((w14.setCell ⟨pb+1+1,0,none⟩ (.bool ng)).setCell ⟨pb+1+1,1,none⟩ (.slice sa sn sc)).setCell ⟨pb+1+1,2,none⟩ (.slice ta tn tc)=w20 at *;obtain⟨g0,g1,g2,_⟩:=HR.o.2.2.facts;exact bodyPost_ret (v:=.tuple #[.agg #[.bool ng,.slice sa sn sc,.slice ta tn tc],.int .i64 0]) (by simp[results,results103,go_sem,g0,g1,g2]) rfl ⟨_,rfl,HR.o.1,HR.o.2.1⟩
theorem ML(w:World) (v v':Value) (q q':Rat) (L:Nat) (h:BA w v q L) (h':BA w v' q' L) (h0:1<=L) (hL:L<=8388608) (hnz:q'≠0) :
  Calls prog 170 #[v,v'] w (O0 w (q/q')):=by
 obtain⟨n1,a1,l1,c1,x1,y1,k1,l,d,rfl,hr,hd,hm,hdl,hq⟩:=h.open;clear hm;obtain⟨n2,a2,l2,c2,x2,y2,k2,l',d',rfl,hr',hd',hm,hdl',hq'⟩:=h'.open;clear hm;have HD1:=bH (fun W (hW:XF w W)=>EK W n1 a1 l1 c1 x1 y1 k1 d (hd.keep hW) (by omega));have HD2:=bH (fun W (hW:XF w W)=>EK W n2 a2 l2 c2 x2 y2 k2 d' (hd'.keep hW) (by omega));have hdl1:=C5 hd hdl h0;have hdl2:=C5 hd' hdl' h0;have hd1p:=Br (vl d);have hd2p:=Br (vl d');have HM1:=bH (fun W ao n c (hW:XF w W) (hu:Ab W (.slice ao n c) (dn (vl d')))=>FV W _ (.agg #[.bool false,.slice ao n c]) _ ((dn (vl d'):Nat):Int) L (hr.keep hW) ⟨false,_,_,rfl,hu,hdl2,by rw[At];rfl⟩ (by omega));have HM2:=bH (fun W ao n c (hW:XF w W) (hu:Ab W (.slice ao n c) (dn (vl d)))=>FV W _ (.agg #[.bool false,.slice ao n c]) _ ((dn (vl d):Nat):Int) L (hr'.keep hW) ⟨false,_,_,rfl,hu,hdl1,by rw[At];rfl⟩ (by omega));have hs2:sg n2 (vl l')≠0:=fun e=>hnz (by rw[hq',e];exact Rat.zero_mkRat _);have hZl:(dg (sg n1 (vl l)*((dn (vl d'):Nat):Int)).natAbs).length<=L+L:=CQ hr.len (by rw[Int.natAbs_natCast];exact hdl2);have hYl:(dg (sg n2 (vl l')*((dn (vl d):Nat):Int)).natAbs).length<=L+L:=CQ hr'.len (by rw[Int.natAbs_natCast];exact hdl1);have hY0:sg n2 (vl l')*((dn (vl d):Nat):Int)≠0:=Int.mul_ne_zero hs2 (by omega);have HRd:=bH (fun W u u' (hu:Ay W u (sg n1 (vl l)*((dn (vl d'):Nat):Int))) (hu':Ay W u' (sg n2 (vl l')*((dn (vl d):Nat):Int)))=>RS W u u' _ _ (L+L) (hu.reads hZl) (hu'.reads hYl) hY0 (by omega));have hres:(((sg n1 (vl l)*((dn (vl d'):Nat):Int):Int)):Rat)/(((sg n2 (vl l')*((dn (vl d):Nat):Int):Int)):Rat)=q/q':=by
  rw[hq,hq',Rat.mkRat_eq_div,Rat.mkRat_eq_div,Rat.intCast_mul,Rat.intCast_mul,Rat.intCast_natCast,Rat.intCast_natCast];have e1:((dn (vl d):Nat):Rat)≠0:=fun e=>by have:=Rat.natCast_inj.1 (e.trans (by rfl:(0:Rat)=((0:Nat):Rat)));omega
  have e2:((dn (vl d'):Nat):Rat)≠0:=fun e=>by have:=Rat.natCast_inj.1 (e.trans (by rfl:(0:Rat)=((0:Nat):Rat)));omega
  have e3:((sg n2 (vl l'):Int):Rat)≠0:=fun e=>hs2 (Rat.intCast_inj.1 (e.trans Rat.intCast_zero.symm));have key:∀(s1 d1 s2 d2:Rat),d1≠0->d2≠0->s2≠0->(s1*d2)/(s2*d1)=(s1/d1)/(s2/d2):=by
   intro s1 d1 s2 d2 h1 h2 h3;grind
  exact key _ _ _ _ e1 e2 e3
 rw[hres] at HRd;clear hr hr' hd hd' hdl hdl' hq hq' h h' hres hZl hYl hY0 hs2 hd1p hd2p hdl1 hdl2 hnz;generalize q/q'=Q at *;generalize sg n1 (vl l)*((dn (vl d'):Nat):Int)=Z at *;generalize sg n2 (vl l')*((dn (vl d):Nat):Int)=Y at *;generalize dn (vl d)=D1 at *;generalize dn (vl d')=D2 at *;generalize sg n1 (vl l)=z1 at *;generalize sg n2 (vl l')=z2 at *;go_enter func170,ntmps170;go_upto_region 0 with fail;go_cut [2,3,4] (fun v1 v2 v3 wx=>∃b1 b2 r,v1=.pointer (some ⟨b1,0,none⟩)/\v2=.pointer (some ⟨b2,0,none⟩)/\v3=.pointer (some ⟨r,0,none⟩)/\Aj wx b1 n1 (.slice a1 l1 c1) (.slice x1 y1 k1)/\Aj wx b2 n2 (.slice a2 l2 c2) (.slice x2 y2 k2)/\Aj wx r false (.slice none 0 0) (.slice none 0 0)/\b1<r/\b2<r/\w.heap.size<=r/\XF w wx);case first =>
  go_wp2;go_meet;exact⟨_,_,_,rfl,rfl,rfl,((AO rfl n1 a1 l1 c1 x1 y1 k1).alloc _).alloc _,(AO (by simp) n2 a2 l2 c2 x2 y2 k2).alloc _,AO (by simp) false none 0 0 none 0 0,(by omega),(by omega),(by omega),(((AK.refl _ w).alloc _).alloc _).alloc _⟩
 case rest =>
  obtain⟨b1,b2,r,rfl,rfl,rfl,hb1,hb2,hrb,i1,i2,hle,hx⟩:=hcut;have hS:=B5.of hb1 hb2;have HB:=bH (bI hb1 (bI hb2 (bI hrb hx)));clear hb1 hb2 hrb hx;go_upto_region 1 with fail;go_region_held3 (B5 b1 b2 n1 n2 (.slice a1 l1 c1) (.slice x1 y1 k1) (.slice a2 l2 c2) (.slice x2 y2 k2))
   (repeat (first|(with_reducible assumption)|(with_reducible refine B5.drew ?_)|(with_reducible refine B5.set ?_ _ _ ?_ ?_)|(dsimp only;omega)))
   (first
    | (go_at_call 51;(with_reducible refine (HD2.o _ HB.o.2.2.2.drew).mono ?_);rintro q1 w11 ⟨v11,rfl,h11,hx11⟩;have hX1:=(AK.refl (fun _=>False) wc).drew.trans hx11;have hK1:=B5.of (HB.o.1.ext hX1 id) (HB.o.2.1.ext hX1 id);obtain⟨ag1,cg1,rfl⟩:=h11.shape)
    | (go_at_call 132;(with_reducible refine (HM1.o _ _ _ _ (HB.o.2.2.2.trans hX1) h11).mono ?_);rintro q2 w12 ⟨v12,rfl,h12,hx12⟩;have hX2:=hX1.trans hx12;have hK2:=B5.of (HB.o.1.ext hX2 id) (HB.o.2.1.ext hX2 id);obtain⟨ng2,ag2,lg2,cg2,rfl⟩:=h12.shape)
    | (go_at_call 51;(with_reducible refine (HD1.o _ (HB.o.2.2.2.trans hX2)).mono ?_);rintro q3 w13 ⟨v13,rfl,h13,hx13⟩;have hX3:=hX2.trans hx13;have hK3:=B5.of (HB.o.1.ext hX3 id) (HB.o.2.1.ext hX3 id);obtain⟨ag3,cg3,rfl⟩:=h13.shape)
    | (go_at_call 132;(with_reducible refine (HM2.o _ _ _ _ (HB.o.2.2.2.trans hX3) h13).mono ?_);rintro q5 w15 ⟨v15,rfl,h15,hx15⟩;have hX5:=hX3.trans hx15;have hK5:=B5.of (HB.o.1.ext hX5 id) (HB.o.2.1.ext hX5 id);have hR:=HRd.o w15 _ _ (h12.keep (hx13.trans hx15)) h15;obtain⟨ng5,ag5,lg5,cg5,rfl⟩:=h15.shape)
    | (go_at_call 103;(with_reducible refine hR.mono ?_);rintro q4 w14 ⟨v14,rfl,h14,hx14⟩;have hX4:=hX5.trans hx14;have hK4:=B5.of (HB.o.1.ext hX4 id) (HB.o.2.1.ext hX4 id);have hr4:=HB.o.2.2.1.ext hX4 id;obtain⟨d0,d1,d2,d3,d4,d5⟩:=hr4.facts;obtain⟨ng,sa,sn,sc,ta,tn,tc,rfl⟩:=h14.shape))
  have hp:=hr4.put (neg:=ng) (AF sa sn sc) (AF ta tn tc);have HR:=bH (bI (hp.rat h14) (bI ((HB.o.2.2.2.trans hX4).own hp.ext (fun k e=>by omega)) hp.box));clear hp hr4 h14 hX4 h11 h12 h13 h15 hx11 hx12 hx13 hx14 hx15 hX1 hX2 hX3 hX5 hK1 hK2 hK3 hK4 hK5 hR hS d0 d1 d2 d3 d4 d5;generalize ((w14.setCell ⟨r,0,none⟩ (.bool ng)).setCell ⟨r,1,none⟩ (.slice sa sn sc)).setCell ⟨r,2,none⟩ (.slice ta tn tc)=w20 at *;obtain⟨g0,g1,g2,_⟩:=HR.o.2.2.facts;go_wp2;exact bodyPost_ret (v:=.tuple #[.agg #[.bool ng,.slice sa sn sc,.slice ta tn tc],.int .i64 0]) (by simp[results,results170,go_sem,g0,g1,g2]) rfl ⟨_,rfl,HR.o.1,HR.o.2.1⟩
abbrev CR:=(Nat->Rat)×Rat
def Ah(n:Nat) (a x:Nat->Rat):Rat:=AG n fun k=>a k*x k
def OH(n m:Nat) (R:Nat->CR) (d:Nat->Rat):Prop:=∀i,i<m->Ah n (R i).1 d=0
def RK(n m:Nat) (R:Nat->CR) (x:Nat->Rat):Prop:=∀i,i<m->Ah n (R i).1 x=(R i).2
theorem Jk{n:Nat} {a b x y:Nat->Rat} (h:∀k,k<n->a k*x k=b k*y k):Ah n a x=Ah n b y:=AE h
theorem Ff{n:Nat} {a b x:Nat->Rat} {f:Rat}:Ah n (fun k=>a k-f*b k) x=Ah n a x-f*Ah n b x:=by
 unfold Ah;rw[<- A2,<- B8];exact AE fun k _=>by grind
theorem Fl{n:Nat} {a x y:Nat->Rat} {t:Rat}:Ah n a (fun k=>x k+t*y k)=Ah n a x+t*Ah n a y:=by
 unfold Ah;rw[<- A2,<- DM];exact AE fun k _=>by grind
def Eo(R:Nat->CR) (c:Nat):Nat->Nat->Option Nat
 | 0,_=>none
 | f+1,i=>if (R i).1 c=0 then Eo R c f (i+1) else some i
theorem Ll{R:Nat->CR} {c:Nat}:∀{f i:Nat},Eo R c f i=none->∀k,i<=k->k<i+f->(R k).1 c=0
 | 0,_,_,k,h1,h2=>by omega
 | f+1,i,h,k,h1,h2=>by
  unfold Eo at h;split at h
  ·rename_i h0;by_cases e:k=i
   ·rw[e];exact h0
   exact Ll h k (by omega) (by omega)
  cases h
theorem Gm{R:Nat->CR} {c j:Nat}:∀{f i:Nat},Eo R c f i=some j->i<=j/\j<i+f/\(R j).1 c≠0
 | 0,_,h=>by cases h
 | f+1,i,h=>by
  unfold Eo at h;split at h
  ·obtain⟨h1,h2,h3⟩:=Gm h;exact⟨by omega,by omega,h3⟩
  rename_i h0;cases h;exact⟨Nat.le_refl _,by omega,h0⟩
def CU(R:Nat->CR) (c j:Nat):Nat->CR:=fun i=>if i=c then R j else if i=j then R c else R i
def DC(R:Nat->CR) (c:Nat):Nat->CR:=fun i=>if i=c then R c else (fun k=>(R i).1 k-(R i).1 c/(R c).1 c*(R c).1 k,(R i).2-(R i).1 c/(R c).1 c*(R c).2)
section
variable {n m:Nat} {R:Nat->CR} {c j:Nat}
theorem K5{P:CR->Prop} (hc:c<m) (hj:j<m):(∀i,i<m->P (CU R c j i))↔∀i,i<m->P (R i):=by
 unfold CU;constructor
 ·intro h i hi;by_cases e:i=c
  ·subst e;have:=h j hj;by_cases e2:j=i
   ·subst e2;simpa using this
   rw[if_neg e2,if_pos rfl] at this;exact this
  by_cases e2:i=j
  ·subst e2;have:=h c hc;rw[if_pos rfl] at this;exact this
  have:=h i hi;rw[if_neg e,if_neg e2] at this;exact this
 intro h i hi;split
 ·exact h j hj
 split
 ·exact h c hc
 exact h i hi
theorem MO{d:Nat->Rat} (hc:c<m):OH n m (DC R c) d↔OH n m R d:=by
 unfold OH DC;constructor
 ·intro h i hi;have h0:=h c hc;rw[if_pos rfl] at h0;have h1:=h i hi;split at h1
  ·rename_i e;rw[e];exact h0
  rw[Ff,h0] at h1;grind
 intro h i hi;split
 ·exact h c hc
 rw[Ff,h c hc,h i hi];grind
theorem Qs{x:Nat->Rat} (hc:c<m):RK n m (DC R c) x↔RK n m R x:=by
 unfold RK DC;constructor
 ·intro h i hi;have h0:=h c hc;rw[if_pos rfl] at h0;have h1:=h i hi;split at h1
  ·rename_i e;rw[e];exact h0
  rw[Ff,h0] at h1;grind
 intro h i hi;split
 ·exact h c hc
 rw[Ff,h c hc,h i hi]
end
def MB(n c:Nat) (R:Nat->CR):Prop:=∀j,j<c->(R j).1 j≠0/\∀i,i<n->i≠j->(R i).1 j=0
def B4(n:Nat):Nat->Nat->(Nat->CR)->Option (Nat->CR)
 | 0,_,R=>some R
 | f+1,c,R=>match Eo R c (n-c) c with
  | none=>none
  | some j=>B4 n f (c+1) (DC (CU R c j) c)
theorem Lp{n c j:Nat} {R:Nat->CR} (h:MB n c R) (hc:c<n) (hj:c<=j) (hjn:j<n) (hp:(R j).1 c≠0):MB n (c+1) (DC (CU R c j) c):=by
 have hsc:CU R c j c=R j:=by unfold CU;rw[if_pos rfl]
 intro q hq;by_cases e:q=c
 ·subst e;refine⟨by unfold DC;rw[if_pos rfl,hsc];exact hp,fun i hi hne=>?_⟩;unfold DC;rw[if_neg hne,hsc];show (CU R q j i).1 q-(CU R q j i).1 q/(R j).1 q*(R j).1 q=0;rw[Rat.div_mul_cancel hp];grind
 have hq':q<c:=(by omega);obtain⟨h1,h2⟩:=h q hq';have hjq:(R j).1 q=0:=h2 j hjn (by omega);have hcq:(R c).1 q=0:=h2 c hc (by omega);have hsq:∀i,i<n->i≠q->(CU R c j i).1 q=0:=fun i hi hne=>by
  unfold CU;split
  ·exact hjq
  split
  ·exact hcq
  exact h2 i hi hne
 have hqq:CU R c j q=R q:=(by unfold CU;rw[if_neg e,if_neg (by omega)]);refine⟨?_,fun i hi hne=>?_⟩
 ·unfold DC;rw[if_neg e,hsc,hqq];show (R q).1 q-_*(R j).1 q≠0;rw[hjq,Rat.mul_zero];intro h0;exact h1 (by grind)
 unfold DC;split
 ·rw[hsc];exact hjq
 show (CU R c j i).1 q-_*(CU R c j c).1 q=0;rw[hsq i hi hne,hsc,hjq,Rat.mul_zero];grind
theorem IT{n:Nat}:∀{f c:Nat} {R S:Nat->CR},c+f=n->MB n c R->B4 n f c R=some S->MB n n S/\(∀d,OH n n S d↔OH n n R d)/\∀x,RK n n S x↔RK n n R x
 | 0,c,R,S,hcf,hd,h=>by
  unfold B4 at h;cases h;obtain rfl:c=n:=(by omega);exact⟨hd,fun _=>Iff.rfl,fun _=>Iff.rfl⟩
 | f+1,c,R,S,hcf,hd,h=>by
  unfold B4 at h;split at h
  ·cases h
  rename_i j hj;obtain⟨h1,h2,h3⟩:=Gm hj;obtain⟨g1,g2,g3⟩:=IT (by omega) (Lp hd (by omega) h1 (by omega) h3) h;refine⟨g1,fun d=>(g2 d).trans ((MO (by omega)).trans (K5 (P:=fun e=>Ah n e.1 d=0) (by omega) (by omega))),fun x=>(g3 x).trans ((Qs (by omega)).trans (K5 (P:=fun e=>Ah n e.1 x=e.2) (by omega) (by omega)))⟩
theorem KD{n:Nat}:∀{f c:Nat} {R:Nat->CR},c+f=n->MB n c R->B4 n f c R=none->∃d:Nat->Rat,(∃i,i<n/\d i≠0)/\OH n n R d
 | 0,c,R,hcf,hd,h=>by unfold B4 at h;cases h
 | f+1,c,R,hcf,hd,h=>by
  unfold B4 at h;split at h
  ·rename_i hp;have hz:=Ll hp;refine⟨fun k=>if k=c then 1 else if k<c then -((R k).1 c/(R k).1 k) else 0,⟨c,by omega,by show (if c=c then (1:Rat) else _)≠0;rw[if_pos rfl];decide⟩,fun i hi=>?_⟩;by_cases hic:i<c
   ·have e:∀k,k<n->(R i).1 k*(if k=c then 1 else if k<c then -((R k).1 c/(R k).1 k) else 0)=(if k=c then (R i).1 c else 0)+(if k=i then -((R i).1 c) else 0):=fun k hk=>by
     by_cases e1:k=c
     ·subst e1;rw[if_pos rfl,if_pos rfl,if_neg (by omega)];grind
     rw[if_neg e1,if_neg e1];by_cases e2:k<c
     ·rw[if_pos e2];by_cases e3:k=i
      ·subst e3;rw[if_pos rfl];have:=(hd k e2).1;have h9:=Rat.div_mul_cancel (a:=(R k).1 c) this;grind
      rw[if_neg e3,(hd k e2).2 i hi (Ne.symm e3)];grind
     rw[if_neg e2,if_neg (by omega)];grind
    unfold Ah;rw[AE e,DM,BK,BK,if_pos (by omega),if_pos hi];grind
   have e:∀k,k<n->(R i).1 k*(if k=c then 1 else if k<c then -((R k).1 c/(R k).1 k) else 0)=0:=fun k hk=>by
    by_cases e1:k=c
    ·subst e1;rw[hz i (by omega) (by omega)];grind
    rw[if_neg e1];by_cases e2:k<c
    ·rw[(hd k e2).2 i hi (by omega)];grind
    rw[if_neg e2];grind
   exact Af e
  rename_i j hj;obtain⟨h1,h2,h3⟩:=Gm hj;obtain⟨d,g1,g2⟩:=KD (by omega) (Lp hd (by omega) h1 (by omega) h3) h;exact⟨d,g1,(K5 (P:=fun e=>Ah n e.1 d=0) (by omega) (by omega)).1 ((MO (by omega)).1 g2)⟩
def DR(n:Nat) (R:Nat->CR):Option (List Rat):=(B4 n n 0 R).map fun S=>AP n fun i=>(S i).2/(S i).1 i
theorem MP{n i:Nat} {S:Nat->CR} {x:Nat->Rat} (h:MB n n S) (hi:i<n):Ah n (S i).1 x=(S i).1 i*x i:=by
 have e:∀k,k<n->(S i).1 k*x k=if k=i then (S i).1 i*x i else 0:=fun k hk=>by
  by_cases e1:k=i
  ·subst e1;rw[if_pos rfl]
  rw[if_neg e1,(h k hk).2 i hi (Ne.symm e1)];grind
 unfold Ah;rw[AE e,BK,if_pos hi]
theorem RM{n:Nat} {R:Nat->CR} {x:List Rat} (h:DR n R=some x):x.length=n/\RK n n R (fun i=>Am x i)/\∀d,OH n n R d->∀i,i<n->d i=0:=by
 unfold DR at h;obtain⟨S,hS,rfl⟩:=Option.map_eq_some_iff.1 h;obtain⟨h1,h2,h3⟩:=IT (c:=0) (by omega) (fun j hj=>by omega) hS;refine⟨A9 _ _,(h3 _).1 fun i hi=>?_,fun d hd i hi=>?_⟩
 ·rw[MP h1 hi,BH _ hi,Rat.mul_comm,Rat.div_mul_cancel (h1 i hi).1]
 have:=(h2 d).2 hd i hi;rw[MP h1 hi] at this;exact (Rat.mul_eq_zero.1 this).resolve_left (h1 i hi).1
theorem Qy{n:Nat} {R:Nat->CR} (h:DR n R=none):∃d:Nat->Rat,(∃i,i<n/\d i≠0)/\OH n n R d:=by
 unfold DR at h;rw[Option.map_eq_none_iff] at h;exact KD (c:=0) (by omega) (fun j hj=>by omega) h
theorem Kg(F:Nat->Rat):∀(n q:Nat),q<=n->AG (n+1) F=F q+AG n (fun k=>F (if k<q then k else k+1))
 | 0,q,h=>by
  obtain rfl:q=0:=(by omega);show (0:Rat)+F 0=F 0+0;grind
 | n+1,q,h=>by
  show AG (n+1) F+F (n+1)=F q+(AG n _+F (if n<q then n else n+1));by_cases e:q=n+1
  ·subst e;rw[if_pos (by omega),AE (n:=n) (g:=F) (fun k hk=>by rw[if_pos (by omega)])];show AG n F+F n+F (n+1)=_;grind
  rw[Kg F n q (by omega),if_neg (by omega)];grind
theorem GX:∀(m N:Nat) (f:Nat->Nat->Rat),m<N->∃u:Nat->Rat,(∃k,k<N/\u k≠0)/\∀i,i<m->Ah N (f i) u=0
 | 0,N,f,h=>⟨fun k=>1,⟨0,h,by decide⟩,fun i hi=>absurd hi (Nat.not_lt_zero i)⟩
 | m+1,N,f,h=>by
  by_cases hz:∀k,k<N->f m k=0
  ·obtain⟨u,h1,h2⟩:=GX m N f (by omega);refine⟨u,h1,fun i hi=>?_⟩;by_cases e:i=m
   ·subst e;exact Af fun k hk=>by rw[hz k hk];grind
   exact h2 i (by omega)
  obtain⟨q,hq⟩:∃q,¬(q<N->f m q=0):=Classical.not_forall.1 hz;have hqN:q<N:=Classical.byContradiction fun hn=>hq fun h=>absurd h hn;have hfq:f m q≠0:=fun e=>hq fun _=>e;obtain⟨M,rfl⟩:∃M,N=M+1:=⟨N-1,by omega⟩;obtain⟨v,⟨k0,hk0,hv0⟩,h2⟩:=GX m M (fun i k=>f i (if k<q then k else k+1)-f i q/f m q*f m (if k<q then k else k+1)) (by omega);refine⟨fun k=>if k=q then -(AG M (fun k=>f m (if k<q then k else k+1)*v k)/f m q) else if k<q then v k else v (k-1),?_,fun i hi=>?_⟩
  ·by_cases e:k0<q
   ·exact⟨k0,by omega,by dsimp only;rw[if_neg (by omega),if_pos e];exact hv0⟩
   refine⟨k0+1,by omega,?_⟩;dsimp only;rw[if_neg (by omega),if_neg (by omega),Nat.add_sub_cancel];exact hv0
  have hform:∀g:Nat->Rat,Ah (M+1) g (fun k=>if k=q then -(AG M (fun k=>f m (if k<q then k else k+1)*v k)/f m q) else if k<q then v k else v (k-1))=g q * -(AG M (fun k=>f m (if k<q then k else k+1)*v k)/f m q)+AG M (fun k=>g (if k<q then k else k+1)*v k):=fun g=>by
   unfold Ah;rw[Kg _ M q (by omega)];dsimp only;rw[if_pos rfl];congr 1;refine AE fun k hk=>?_;by_cases e:k<q
   ·rw[if_pos e,if_neg (by omega),if_pos e]
   rw[if_neg e,if_neg (by omega),if_neg (by omega),Nat.add_sub_cancel]
  rw[hform];have hdm:=Rat.div_mul_cancel (a:=AG M (fun k=>f m (if k<q then k else k+1)*v k)) hfq;generalize hS:AG M (fun k=>f m (if k<q then k else k+1)*v k)=S at *;by_cases e:i=m
  ·subst e;rw[hS];grind
  have h3:=h2 i (by omega);have h4:Ah M (fun k=>f i (if k<q then k else k+1)-f i q/f m q*f m (if k<q then k else k+1)) v=AG M (fun k=>f i (if k<q then k else k+1)*v k)-f i q/f m q*S:=by
   rw[<- hS];exact Ff
  rw[h4] at h3;have h5:f i q/f m q*S=f i q*(S/f m q):=by
   rw[Rat.div_def,Rat.div_def];grind
  grind
def Io(n:Nat) (a:Nat->CR) (I:List Nat):Prop:=∀d:Nat->Rat,(∀i∈I,Ah n (a i).1 d=0)->∀k,k<n->d k=0
theorem RY{n N:Nat} {a:Nat->Rat} {c:Nat->Rat} {D:Nat->Nat->Rat}:Ah n a (fun k=>AG N fun i=>D i k*c i)=AG N fun i=>Ah n a (D i)*c i:=by
 unfold Ah;rw[AE (g:=fun k=>AG N fun i=>a k*D i k*c i) (fun k _=>by rw[<- A2];exact AE fun i _=>by grind),CB];refine AE fun i _=>?_;rw[Rat.mul_comm,<- A2];exact AE fun k _=>by grind
theorem Uk{n:Nat} {a:Nat->CR}:∀(N:Nat) (J:List Nat),J.length=N->Io n a J->∃K:List Nat,K.Sublist J/\K.length=n/\Io n a K:=fun N=>by
 induction N with
 | zero =>
  intro J hJ ht;refine⟨J,List.Sublist.refl _,?_,ht⟩;rw[hJ];refine Classical.byContradiction fun hn=>?_;obtain⟨u,⟨k,hk,hu⟩,_⟩:=GX 0 n (fun _ _=>0) (by omega);exact hu (ht u (fun i hi=>by rw[List.eq_nil_of_length_eq_zero hJ] at hi;cases hi) k hk)
 | succ N ih =>
  intro J hJ ht;by_cases hr:∃i,i<J.length/\Io n a (J.eraseIdx i)
  ·obtain⟨i,hi,h1⟩:=hr;obtain⟨K,h2,h3,h4⟩:=ih (J.eraseIdx i) (by rw[List.length_eraseIdx,if_pos hi,hJ];rfl) h1;exact⟨K,h2.trans (List.eraseIdx_sublist ..),h3,h4⟩
  refine⟨J,List.Sublist.refl _,?_,ht⟩;have hdual:∀i,∃d:Nat->Rat,i<J.length->(∀k (h:k<J.length),k≠i->Ah n (a J[k]).1 d=0)/\∀h:i<J.length,Ah n (a J[i]).1 d≠0:=fun i=>by
   by_cases hi:i<J.length
   ·have hn:¬Io n a (J.eraseIdx i):=fun h=>hr ⟨i,hi,h⟩;unfold Io at hn;obtain⟨d,hd⟩:=Classical.not_forall.1 hn;have hd1:∀j∈J.eraseIdx i,Ah n (a j).1 d=0:=Classical.byContradiction fun h=>hd fun h2=>absurd h2 h;have hd2:¬∀k,k<n->d k=0:=fun h=>hd fun _=>h;have hk1:∀k (h:k<J.length),k≠i->Ah n (a J[k]).1 d=0:=fun k h hne=>hd1 _ (List.mem_eraseIdx_iff_getElem.2 ⟨k,h,hne,rfl⟩);refine⟨d,fun _=>⟨hk1,fun h h0=>hd2 (ht d fun j hj=>?_)⟩⟩;obtain⟨k,hk,rfl⟩:=List.getElem_of_mem hj;by_cases e:k=i
    ·subst e;exact h0
    exact hk1 k hk e
   exact⟨fun _=>0,fun h=>absurd h hi⟩
  obtain⟨D,hD⟩:=Classical.axiomOfChoice hdual;refine Nat.le_antisymm (Nat.not_lt.1 fun hgt=>?_) (Nat.not_lt.1 fun hlt=>?_)
  ·obtain⟨c,⟨i0,hi0,hc0⟩,hc⟩:=GX n J.length (fun q i=>D i q) hgt;have h0:Ah n (a J[i0]).1 (fun k=>AG J.length fun i=>D i k*c i)=0:=Af fun k hk=>by
    have h1:AG J.length (fun i=>D i k*c i)=0:=hc k hk;dsimp only;rw[h1];grind
   rw[RY] at h0;have e:∀i,i<J.length->Ah n (a J[i0]).1 (D i)*c i=if i=i0 then Ah n (a J[i0]).1 (D i0)*c i0 else 0:=fun i hi=>by
    by_cases e:i=i0
    ·subst e;rw[if_pos rfl]
    rw[if_neg e,(hD i hi).1 i0 hi0 (Ne.symm e)];grind
   rw[AE e,BK,if_pos hi0] at h0;rcases Rat.mul_eq_zero.1 h0 with h|h
   ·exact (hD i0 hi0).2 hi0 h
   exact hc0 h
  obtain⟨u,⟨k,hk,hu⟩,h2⟩:=GX J.length n (fun i=>(a (J.getD i 0)).1) hlt;refine hu (ht u (fun j hj=>?_) k hk);obtain⟨i,hi,rfl⟩:=List.getElem_of_mem hj;have h3:=h2 i hi;rw[List.getD_eq_getElem?_getD,List.getElem?_eq_getElem hi] at h3;exact h3
theorem SM{P:Nat->Prop} {f:Nat->Rat}:∀{M:Nat},(∃j,j<M/\P j)->∃j,j<M/\P j/\∀i,i<M->P i->f j<=f i
 | 0,h=>by obtain⟨j,hj,_⟩:=h;exact absurd hj (Nat.not_lt_zero j)
 | M+1,h=>by
  by_cases hl:∃j,j<M/\P j
  ·obtain⟨j,h1,h2,h3⟩:=SM (f:=f) hl;by_cases hM:P M/\f M<f j
   ·refine⟨M,by omega,hM.1,fun i hi hp=>?_⟩;by_cases e:i=M
    ·rw[e];exact Rat.le_refl
    have:=h3 i (by omega) hp;grind
   refine⟨j,by omega,h2,fun i hi hp=>?_⟩;by_cases e:i=M
   ·subst e;exact Rat.not_lt.1 fun h=>hM ⟨hp,h⟩
   exact h3 i (by omega) hp
  obtain⟨j,hj,hp⟩:=h;have e:j=M:=Classical.byContradiction fun hn=>hl ⟨j,by omega,hp⟩;subst e;exact⟨j,hj,hp,fun i hi hq=>by
   by_cases e:i=j
   ·rw[e];exact Rat.le_refl
   exact absurd ⟨i,by omega,hq⟩ hl⟩
def N6(f:Nat->Bool):Nat->Nat
 | 0=>0
 | M+1=>N6 f M+(if f M then 1 else 0)
theorem Rh{f g:Nat->Bool}:∀{M:Nat},(∀j,j<M->f j=true->g j=true)->N6 f M<=N6 g M
 | 0,_=>Nat.le_refl _
 | M+1,h=>by
  have h1:=Rh (M:=M) fun j hj=>h j (by omega);have h2:=h M (by omega);unfold N6;cases hf:f M with
  | false=>simp;omega
  | true=>rw[h2 hf];simp;omega
theorem Oj{f g:Nat->Bool}:∀{M:Nat},(∀j,j<M->f j=true->g j=true)->(∃j,j<M/\f j=false/\g j=true)->N6 f M<N6 g M
 | 0,_,h=>by obtain⟨j,hj,_⟩:=h;exact absurd hj (Nat.not_lt_zero j)
 | M+1,h,⟨j,hj,h1,h2⟩=>by
  unfold N6;by_cases e:j=M
  ·subst e;have h3:=Rh (M:=j) fun i hi=>h i (by omega);rw[h1,h2];simp;omega
  have h3:=Oj (M:=M) (fun i hi=>h i (by omega)) ⟨j,by omega,h1,h2⟩;have h4:=h M (by omega);cases hf:f M with
  | false=>simp;omega
  | true=>rw[h4 hf];simp;omega
section
variable {n M:Nat} {c:Nat->CR} {eq:Nat->Prop} {g:Nat->Rat} {v:Rat} {x d:Nat->Rat}
def Dg(n:Nat) (e:CR) (x:Nat->Rat):Rat:=Ah n e.1 x+e.2
def T9(n M:Nat) (c:Nat->CR) (eq:Nat->Prop) (x:Nat->Rat):Prop:=∀j,j<M->0<=Dg n (c j) x/\(eq j->Dg n (c j) x=0)
theorem LU{e:CR} {t:Rat}:Dg n e (fun k=>x k+t*d k)=Dg n e x+t*Ah n e.1 d:=by
 unfold Dg;rw[Fl];grind
theorem NL(hx:T9 n M c eq x) (hbox:∃j,j<M/\Ah n (c j).1 d<0) (ht:∀j,j<M->Dg n (c j) x=0->Ah n (c j).1 d=0) :
  ∃t,0<t/\T9 n M c eq (fun k=>x k+t*d k)/\∃j,j<M/\Dg n (c j) x≠0/\Dg n (c j) (fun k=>x k+t*d k)=0:=by
 obtain⟨j,hj,hn,hmin⟩:=SM (f:=fun j=>Dg n (c j) x / -Ah n (c j).1 d) hbox;have hnt:∀i,i<M->Ah n (c i).1 d<0->0<Dg n (c i) x:=fun i hi hl=>by
  have h0:=(hx i hi).1;have h1:Dg n (c i) x≠0:=fun e=>by have:=ht i hi e;grind
  grind
 have hpos:∀i,i<M->Ah n (c i).1 d<0->Dg n (c i) x / -Ah n (c i).1 d * -Ah n (c i).1 d=Dg n (c i) x:=fun i hi hl=>Rat.div_mul_cancel (by grind);have e1:=hpos j hj hn;have e0:=hnt j hj hn;have ht0:0<Dg n (c j) x / -Ah n (c j).1 d:=by
  refine Rat.not_le.1 fun hle=>?_;have:=Rat.mul_le_mul_of_nonneg_right hle (c:=-Ah n (c j).1 d) (by grind);grind
 generalize htt:Dg n (c j) x / -Ah n (c j).1 d=t at *;refine⟨t,ht0,fun i hi=>?_,j,hj,by grind,?_⟩
 ·rw[LU];by_cases hl:Ah n (c i).1 d<0
  ·have h1:=hmin i hi hl;have h1':t<=Dg n (c i) x / -Ah n (c i).1 d:=h1;have h2:=hpos i hi hl;have h3:=Rat.mul_le_mul_of_nonneg_right h1' (c:=-Ah n (c i).1 d) (by grind);refine⟨by grind,fun he=>?_⟩;have h4:=ht i hi ((hx i hi).2 he);grind
  have h1:=Rat.mul_le_mul_of_nonneg_right (Rat.le_of_lt ht0) (c:=Ah n (c i).1 d) (Rat.not_lt.1 hl);have h2:=(hx i hi).1;refine⟨by grind,fun he=>?_⟩;have h4:=(hx i hi).2 he;rw[h4,ht i hi h4];grind
 rw[LU];grind
def IE(n M:Nat) (c:Nat->CR) (x:Nat->Rat):List Nat:=(List.range M).filter fun j=>decide (Dg n (c j) x=0)
theorem Fd{j:Nat}:j∈IE n M c x↔j<M/\Dg n (c j) x=0:=by
 unfold IE;rw[List.mem_filter,List.mem_range,decide_eq_true_eq]
theorem To(hbox:∀d:Nat->Rat,(∃k,k<n/\d k≠0)->∃j,j<M/\Ah n (c j).1 d<0) (hmin:∀y,T9 n M c eq y->v<=Ah n g y) :
  ∀(N:Nat) (x:Nat->Rat),T9 n M c eq x->Ah n g x=v->N6 (fun j=>!decide (Dg n (c j) x=0)) M<=N->∃z,T9 n M c eq z/\Ah n g z=v/\Io n c (IE n M c z):=fun N=>by
 induction N with
 | zero =>
  intro x hx hv hc;refine⟨x,hx,hv,Classical.byContradiction fun hn=>?_⟩;unfold Io at hn;obtain⟨d,hd⟩:=Classical.not_forall.1 hn;have hd1:∀j∈IE n M c x,Ah n (c j).1 d=0:=Classical.byContradiction fun h=>hd fun h2=>absurd h2 h;have hd2:∃k,k<n/\d k≠0:=Classical.byContradiction fun h=>hd fun _ k hk=>Classical.byContradiction fun hne=>h ⟨k,hk,hne⟩;obtain⟨t,_,_,j,hj,hne,_⟩:=NL hx (hbox d hd2) (fun j hj h0=>hd1 j (Fd.2 ⟨hj,h0⟩));have h1:=Oj (f:=fun _=>false) (g:=fun j=>!decide (Dg n (c j) x=0)) (M:=M) (fun j _ h=>by cases h) ⟨j,hj,rfl,by simpa using hne⟩;omega
 | succ N ih =>
  intro x hx hv hc;by_cases hn:Io n c (IE n M c x)
  ·exact⟨x,hx,hv,hn⟩
  unfold Io at hn;obtain⟨d,hd⟩:=Classical.not_forall.1 hn;have hd1:∀j∈IE n M c x,Ah n (c j).1 d=0:=Classical.byContradiction fun h=>hd fun h2=>absurd h2 h;have hd2:∃k,k<n/\d k≠0:=Classical.byContradiction fun h=>hd fun _ k hk=>Classical.byContradiction fun hne=>h ⟨k,hk,hne⟩;have hneg:∀a:Nat->Rat,Ah n a (fun k=>-d k) = -Ah n a d:=fun a=>by
   have:=Fl (n:=n) (a:=a) (x:=fun _=>0) (y:=d) (t:=-1);have h0:Ah n a (fun _=>0)=0:=Af fun k _=>by grind
   rw[h0] at this;rw[show (fun k=>-d k)=fun k=>(0:Rat) + -1*d k from funext fun k=>by grind,this];grind
  obtain⟨t,ht,hf,j,hj,hj1,hj2⟩:=NL hx (hbox d hd2) (fun j hj h0=>hd1 j (Fd.2 ⟨hj,h0⟩));obtain⟨s,hs,hf',_⟩:=NL hx (hbox (fun k=>-d k) (by obtain⟨k,hk,h⟩:=hd2;exact⟨k,hk,by grind⟩)) (fun j hj h0=>by rw[hneg,hd1 j (Fd.2 ⟨hj,h0⟩)];grind);have h1:=hmin _ hf;have h2:=hmin _ hf';rw[Fl,hv] at h1 h2;rw[hneg] at h2;have h3:0<=t*Ah n g d:=(by grind);have h4:0<=s * -Ah n g d:=(by grind);have hg:Ah n g d=0:=by
   refine Rat.le_antisymm (Rat.not_lt.1 fun h=>?_) (Rat.not_lt.1 fun h=>?_)
   ·have:=Rat.mul_pos hs h;grind
   have:=Rat.mul_pos ht (b:=-Ah n g d) (by grind);grind
  refine ih _ hf (by rw[Fl,hv,hg];grind) ?_;have h5:=Oj (f:=fun j=>!decide (Dg n (c j) (fun k=>x k+t*d k)=0)) (g:=fun j=>!decide (Dg n (c j) x=0)) (M:=M) (fun i hi h=>by
   simp only[Bool.not_eq_true',decide_eq_false_iff_not] at h ⊢;intro h0;refine h ?_;rw[LU,h0,hd1 i (Fd.2 ⟨hi,h0⟩)];grind) ⟨j,hj,by simpa using hj2,by simpa using hj1⟩
  omega
end
end Go.Proofs.YtglepbhkilbbcaaGreat
