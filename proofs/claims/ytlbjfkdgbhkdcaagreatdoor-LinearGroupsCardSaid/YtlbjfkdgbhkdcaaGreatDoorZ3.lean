/-
  Texts of the proof, part 3. Conditions: each lemma names its own.
-/
import Derived.Test.YtlbjfkdgbhkdcaaGreatDoorZ1
import Derived.Test.YtlbjfkdgbhkdcaaGreatDoorZ2
import Derived.Deep.RegionHeld3
import Derived.Shelf.SlicesQ.IndexFunc
import Derived.Shelf.SlGeneric
import Derived.Ground.SlgfProg
import Derived.Shelf.Strings.Builder1
import Derived.Shelf.Strings.Builder2
import Derived.Shelf.Strings.OnBuilder
import Derived.Shelf.Small.Bits
import Derived.Shelf.Strconv.Itoa0
import Derived.Shelf.Strconv.Itoa1
import Derived.Shelf.LaysM
import Derived.Shelf.Strconv.Itoa2
import Derived.Shelf.Strconv.Itoa3
import Derived.Shelf.Strconv.Itoa4
import Derived.Shelf.GgClosure.StringsIndexFunc
import Derived.Ground.GgwProg
import Derived.Shelf.GgClosure.StringsIndexFuncTop
import Derived.Shelf.Strings.FuncGrows
import Derived.Shelf.Slices.Turned
import Derived.Ground.SlgfProg
import Derived.Shelf.SlicesE.IndexFunc
import Derived.Test.YtlbjfkdgbhkdcaaGreatDoorProg
import Derived.Laws.RangeAny
import Derived.Maps.RangeWalk
set_option linter.unusedVariables false
set_option linter.unusedSimpArgs false
set_option maxRecDepth 100000
set_option maxHeartbeats 16000000
namespace Go.Proofs.YtlbjfkdgbhkdcaaGreatDoor
open Go.RowKit Go.MapKept
open Go.ChangeMaps (setBlock)
theorem Rrfrom_any (w:World) (k:Int) (h0:-9223372036854775808<=k) (h1:k<=9223372036854775807) :
  Calls Tryz.prog 20 #[.int .i64 k] w (RatPost w (k:Rat)):=by
 have HF:=bH (fun W=>Rifrom_any W k h0 h1)
 obtain ⟨q,hq⟩:∃ q:Rat,(k:Rat)=q:=⟨_,rfl⟩
 have hof:∀ W neg mag,IsInt W (.agg #[.bool neg,mag]) k->IsRat W (.agg #[.bool neg,mag,.slice none 0 0]) q:=fun W neg mag h=>by rw [<- hq]; exact IsRat.ofInt h
 have Hof:=bH hof
 rw [hq]
 clear hof hq h0 h1
 go_enter Tryz.func20,Tryz.ntmps20
 go_wp2_with fail
 refine (HF.out _).mono ?_
 rintro r w6 ⟨v6,rfl,h6,hx6⟩
 have hr6:=(boxR_new rfl false none 0 0 none 0 0 (W:=w)).ext hx6 id
 obtain ⟨d0,d1,d2,d3,d4,d5⟩:=hr6.facts
 have hX6:=((Ext.refl (fun _=>False) w).alloc _).trans hx6
 obtain ⟨neg6,so,sn,sc,rfl⟩:=h6.shape
 have hp:=hr6.put (neg:=neg6) (no_int so sn sc) (no_int none 0 0)
 have HR:=bH (bI (hp.rat (Hof.out _ _ _ h6)) (bI (hX6.own hp.ext (fun k e=>by omega)) hp.box))
 clear hp h6 hX6 hr6 hx6
 go_wp2
 generalize ((w6.setCell ⟨w.heap.size,0,none⟩ (.bool neg6)).setCell ⟨w.heap.size,1,none⟩ (.slice so sn sc)).setCell ⟨w.heap.size,2,none⟩ (.slice none 0 0)=w9 at *
 obtain ⟨g0,g1,g2,_⟩:=HR.out.2.2.facts
 exact bodyPost_ret (v:=.agg #[.bool neg6,.slice so sn sc,.slice none 0 0]) (by simp [results,Tryz.results20,go_sem,g0,g1,g2]) rfl ⟨_,rfl,HR.out.1,HR.out.2.1⟩
theorem Rrsame_any (w:World) (v v':Value) (q q':Rat) (L:Nat) (h:IsRat w v q) (h':IsRat w v' q') (hs:Sz q L) (hs':Sz q' L) (hL:L<=268435455) :
  Calls Tryz.prog 18 #[v,v'] w fun r w'=>r=.returned (.bool (decide (q=q')))/\XF w w':=by
 obtain ⟨mag,e,rfl,h1,h2⟩:=h
 obtain ⟨mag',e',rfl,h1',h2'⟩:=h'
 obtain ⟨ao,c,rfl⟩:=h1.shape
 obtain ⟨eo,ec,rfl⟩:=h2.shape
 obtain ⟨ao',c',rfl⟩:=h1'.shape
 obtain ⟨eo',ec',rfl⟩:=h2'.shape
 have HI:=bH (fun W (hW:XF w W)=>Risame_any W (decide (q.num<0)) (decide (q'.num<0)) ao ao' _ c _ c' _ _ (Rds.keep h1 hW) (Rds.keep h1' hW) (Nat.le_trans hs.1 hL) (Nat.le_trans hs'.1 hL))
 have HN:=bH (fun W (hW:XF w W)=>Same_any W _ _ _ _ (Rds.keep h2 hW) (Rds.keep h2' hW) (Nat.le_trans (Nat.le_trans (dg_mono (dw_le _)) hs.2) (by omega)) (Nat.le_trans (Nat.le_trans (dg_mono (dw_le _)) hs'.2) (by omega)))
 have hI:(decide (q.num<0) == decide (q'.num<0) && decide (dg q.num.natAbs=dg q'.num.natAbs))=decide (q.num=q'.num):=by
  by_cases he:q.num=q'.num
  ·rw [he]; simp
  ·rw [decide_eq_false he]
   by_cases hd:dg q.num.natAbs=dg q'.num.natAbs
   ·have hn:q.num.natAbs=q'.num.natAbs:=by have:=congrArg vl hd; rwa [vl_dg,vl_dg] at this
    rw [decide_eq_true hd,Bool.and_true]
    by_cases h1:q.num<0
    ·rw [decide_eq_true h1,decide_eq_false (by omega)]; rfl
    ·rw [decide_eq_false h1,decide_eq_true (by omega)]; rfl
   ·rw [decide_eq_false hd,Bool.and_false]
 have hN:(decide (dg (dw q.den)=dg (dw q'.den)))=decide (q.den=q'.den):=by
  by_cases he:q.den=q'.den
  ·rw [he]; simp
  ·rw [decide_eq_false he]
   refine decide_eq_false (fun hd=>he ?_)
   have hn:dw q.den=dw q'.den:=by have:=congrArg vl hd; rwa [vl_dg,vl_dg] at this
   have:=q.den_nz
   have:=q'.den_nz
   unfold dw at hn
   split at hn <;> split at hn <;> omega
 rw [hI] at HI
 rw [hN] at HN
 have hR:decide (q=q')=(decide (q.num=q'.num) && decide (q.den=q'.den)):=by
  by_cases h:q=q'
  ·subst h; simp
  ·rw [decide_eq_false h]
   by_cases h1:q.num=q'.num
   ·rw [decide_eq_true h1,Bool.true_and]
    exact (decide_eq_false (fun h2=>h (Rat.ext h1 h2))).symm
   ·rw [decide_eq_false h1]; rfl
 rw [hR]
 clear hI hN hR h1 h2 h1' h2' hs hs'
 generalize decide (q.den=q'.den)=B at *
 obtain ⟨A,hA⟩:∃ A,decide (q.num=q'.num)=A:=⟨_,rfl⟩
 rw [hA] at HI ⊢
 clear hA
 generalize (dg q.num.natAbs).length=z1 at *
 generalize (dg q'.num.natAbs).length=z2 at *
 generalize (dg (dw q.den)).length=z3 at *
 generalize (dg (dw q'.den)).length=z4 at *
 generalize decide (q.num<0)=s1 at *
 generalize decide (q'.num<0)=s2 at *
 obtain ⟨RB,hRB⟩:∃ RB,(A && B)=RB:=⟨_,rfl⟩
 rw [hRB]
 have HRB:=bH hRB
 clear hRB
 go_enter Tryz.func18,Tryz.ntmps18
 go_upto_region 0 with fail
 go_cut [2,3] (fun v1 v2 wx=>∃ b1 b2,v1=.pointer (some ⟨b1,0,none⟩)/\v2=.pointer (some ⟨b2,0,none⟩)/\BoxR wx b1 s1 (.slice ao z1 c) (.slice eo z3 ec)/\BoxR wx b2 s2 (.slice ao' z2 c') (.slice eo' z4 ec')/\XF w wx)
 case first =>
  go_wp2
  go_meet
  exact ⟨_,_,rfl,rfl,(boxR_new rfl s1 ao z1 c eo z3 ec).alloc _,boxR_new (by simp) s2 ao' z2 c' eo' z4 ec',((Ext.refl _ w).alloc _).alloc _⟩
 case rest =>
  obtain ⟨b1,b2,rfl,rfl,hb1,hb2,hx⟩:=hcut
  obtain ⟨c0,c1,c2,_⟩:=hb1.facts
  obtain ⟨e0,e1,e2,_⟩:=hb2.facts
  have HB:=bH (bI hb1 (bI hb2 hx))
  have HI1:=bH (HI.out wc hx)
  clear hb1 hb2 hx
  cases A
  ·obtain rfl:RB=false:=HRB.out.symm
   go_wp2_with fail
   refine HI1.out.mono ?_
   rintro r1 w1 ⟨rfl,hx1⟩
   have HX:=bH (HB.out.2.2.trans hx1)
   clear hx1
   go_wp2
   go_ret
   exact ⟨rfl,HX.out⟩
  ·obtain rfl:RB=B:=HRB.out.symm
   go_wp2_with fail
   refine HI1.out.mono ?_
   rintro r1 w1 ⟨rfl,hx1⟩
   obtain ⟨c0,c1,c2,_⟩:=(HB.out.1.ext hx1 id).facts
   obtain ⟨e0,e1,e2,_⟩:=(HB.out.2.1.ext hx1 id).facts
   have HX:=bH (HB.out.2.2.trans hx1)
   have HN1:=bH (HN.out w1 HX.out)
   clear hx1
   go_wp2_with fail
   refine HN1.out.mono ?_
   rintro r2 w2 ⟨rfl,hx2⟩
   have HX2:=bH (HX.out.trans hx2)
   clear hx2
   go_wp2
   go_ret
   exact ⟨rfl,HX2.out⟩
structure VarV where
 lo:Int
 up:Int
 op:Bool
 ig:Bool
 co:Int
structure TermV where
 var:Int
 coef:Int
structure RowV where
 name:ByteArray
 group:Int
 kind:Int
 terms:List TermV
 bound:Int
structure ProgV where
 vars:List VarV
 rows:List RowV
def var0:VarV:=⟨0,0,false,false,0⟩
def term0:TermV:=⟨0,0⟩
def row0:RowV:=⟨.empty,0,0,[],0⟩
def ProgV.v (p:ProgV) (i:Nat):VarV:=p.vars.getD i var0
def ProgV.r (p:ProgV) (i:Nat):RowV:=p.rows.getD i row0
def RowV.t (r:RowV) (i:Nat):TermV:=r.terms.getD i term0
def sumTo:Nat->(Nat->Rat)->Rat
 | 0,_=>0
 | n+1,f=>sumTo n f+f n
def atQ (x:List Rat) (i:Int):Rat:=if i<0 then 0 else x.getD i.toNat 0
theorem atQ_nat (x:List Rat) (i:Nat):atQ x i=x.getD i 0:=by
 unfold atQ; rw [if_neg (by omega)]; rfl
theorem atQ_neg (x:List Rat) {i:Int} (h:i<0):atQ x i=0:=if_pos h
theorem atQ_out (x:List Rat) {i:Int} (h:(x.length:Int)<=i):atQ x i=0:=by
 unfold atQ
 rw [if_neg (by omega),List.getD_eq_getElem?_getD,List.getElem?_eq_none (by omega)]; rfl
theorem atQ_in (x:List Rat) {i:Nat} (h:i<x.length):atQ x i=x[i]:=by
 rw [atQ_nat,List.getD_eq_getElem?_getD,List.getElem?_eq_getElem h]; rfl
def dotQ (ts:List TermV) (x:List Rat):Rat:=sumTo ts.length fun k=>((ts.getD k term0).coef:Rat)*atQ x (ts.getD k term0).var
def kindB (k:Int) (d b:Rat):Bool:=if k=0 then decide (d<=b) else if k=1 then decide (b<=d) else decide (d=b)
def holdsB (r:RowV) (x:List Rat):Bool:=kindB r.kind (dotQ r.terms x) r.bound
def clipQ (p:ProgV) (x:List Rat):List Rat:=x.take p.vars.length
def violN (f:Nat->Bool):Nat->List Nat
 | 0=>[]
 | n+1=>if f n then violN f n else violN f n++[n]
def violQ (p:ProgV) (x:List Rat):List Nat:=violN (fun i=>holdsB (p.r i) (clipQ p x)) p.rows.length
def allTo:Nat->(Nat->Bool)->Bool
 | 0,_=>true
 | n+1,f=>allTo n f && f n
theorem allTo_iff {f:Nat->Bool}:∀ {n:Nat},allTo n f=true↔∀ i,i<n->f i=true
 | 0=>by simp [allTo]
 | n+1=>by
  unfold allTo
  rw [Bool.and_eq_true,allTo_iff (n:=n)]
  constructor
  ·rintro ⟨h1,h2⟩ i hi
   by_cases e:i=n
   ·rw [e]; exact h2
   ·exact h1 i (by omega)
  ·exact fun h=>⟨fun i hi=>h i (by omega),h n (by omega)⟩
theorem allTo_false {f:Nat->Bool} {n i:Nat} (hi:i<n) (h:f i=false):allTo n f=false:=by
 cases hq:allTo n f with
 | false=>rfl
 | true=>have:=allTo_iff.1 hq i hi; rw [h] at this; cases this
def insideB (p:ProgV) (x:List Rat):Bool:=allTo p.vars.length fun i=>decide (((p.v i).lo:Rat)<=atQ x i) && ((p.v i).op || decide (atQ x i<=((p.v i).up:Rat)))
def combB (p:ProgV) (y:List Rat):Rat:=sumTo p.rows.length fun i=>((p.r i).bound:Rat)*atQ y i
def limB (n:Int):Bool:=decide (-1099511627776<=n) && decide (n<=1099511627776)
def termsB (n:Int):Int->List TermV->Bool
 | _,[]=>true
 | last,t :: l=>decide (last<t.var) && decide (t.var<n) && !decide (t.coef=0) && limB t.coef && termsB n t.var l
def nameB (s:ByteArray):Bool:=s.toList.all fun b=>decide (32<=b.toNat) && decide (b.toNat<=126)
def rowB (n:Int) (r:RowV):Bool:=decide (0<=r.kind) && decide (r.kind<=2) && decide (0<=r.group) && decide (r.group<=60) && decide (r.name.size<=80) && limB r.bound && nameB r.name && termsB n (-1) r.terms
def varB (v:VarV):Bool:=limB v.lo && limB v.up && limB v.co && !(v.op && !decide (v.up=0))
def validB (p:ProgV):Bool:=decide (p.vars.length<=400) && decide (p.rows.length<=4000) && p.vars.all varB && p.rows.all (rowB p.vars.length)
def listTo (n:Nat) (f:Nat->Rat):List Rat:=(List.range n).map f
theorem listTo_length (n:Nat) (f:Nat->Rat):(listTo n f).length=n:=by simp [listTo]
theorem listTo_succ (n:Nat) (f:Nat->Rat):listTo (n+1) f=listTo n f++[f n]:=by simp [listTo,List.range_succ]
theorem valid_row {p:ProgV} (h:validB p=true) {i:Nat} (hi:i<p.rows.length):rowB p.vars.length (p.r i)=true:=by
 unfold validB at h
 simp only [Bool.and_eq_true,List.all_eq_true] at h
 refine h.2 _ ?_
 unfold ProgV.r
 rw [List.getD_eq_getElem?_getD,List.getElem?_eq_getElem hi]
 exact List.getElem_mem hi
theorem getD_lt {α:Type} {l:List α} {i:Nat} (h:i<l.length) (d:α):l.getD i d=l[i]:=by
 rw [List.getD_eq_getElem?_getD,List.getElem?_eq_getElem h]; rfl
def Sl (w:World) (v:Value) (m:Nat) (cs:List (List Value)):Prop :=
 ∃ ao c,v=.slice ao cs.length c/\cs.length<=c/\c<=maxLen/\(ao=none->c=0)/\(0<cs.length->∃ b off,ao=some ⟨b,off,none⟩/\b<w.heap.size/\∀ i r,cs[i]?=some r->∀ j u,r[j]?=some u->w.cell? ⟨b,off+i*m+j,none⟩=some u)
theorem Sl.keep {w w':World} {v:Value} {m:Nat} {cs:List (List Value)} (h:Sl w v m cs) (hx:XF w w'):Sl w' v m cs:=by
 obtain ⟨ao,c,rfl,h1,h2,h3,h4⟩:=h
 refine ⟨ao,c,rfl,h1,h2,h3,fun hp=>?_⟩
 obtain ⟨b,off,e,hb,hc⟩:=h4 hp
 exact ⟨b,off,e,Nat.lt_of_lt_of_le hb hx.size,fun i r hi j u hu=>(hx.cell (p:=⟨b,off+i*m+j,none⟩) hb id).trans (hc i r hi j u hu)⟩
theorem Sl.nil (w:World) (m:Nat):Sl w (.slice none 0 0) m []:=⟨none,0,rfl,Nat.le_refl _,Nat.zero_le _,fun _=>rfl,fun h=>absurd h (Nat.lt_irrefl 0)⟩
theorem Sl.shape {w:World} {v:Value} {m:Nat} {cs:List (List Value)} (h:Sl w v m cs):∃ ao c,v=.slice ao cs.length c/\(ao=none->c=0)/\cs.length<=9223372036854775807/\cs.length<=c:=by
 obtain ⟨ao,c,rfl,h1,h2,h3,_⟩:=h
 exact ⟨ao,c,rfl,h3,(by unfold maxLen at h2; omega),h1⟩
theorem Sl.at {w:World} {ao:Option Addr} {n c m:Nat} {cs:List (List Value)} (h:Sl w (.slice ao n c) m cs) {i:Nat} {r:List Value} (hi:cs[i]?=some r) :
  ∃ b off,ao=some ⟨b,off,none⟩/\b<w.heap.size/\∀ j u,r[j]?=some u->w.cell? ⟨b,off+i*m+j,none⟩=some u:=by
 obtain ⟨ao',c',e,h1,h2,h3,h4⟩:=h
 cases e
 obtain ⟨b,off,e,hb,hc⟩:=h4 (by have:=(List.getElem?_eq_some_iff.1 hi).1; omega)
 exact ⟨b,off,e,hb,hc i r hi⟩
def InR (n:Int):Prop:=-9223372036854775808<=n/\n<=9223372036854775807
def cV (v:VarV):List Value:=[.int .i64 v.lo,.int .i64 v.up,.bool v.op,.bool v.ig,.int .i64 v.co]
def cT (t:TermV):List Value:=[.int .i64 t.var,.int .i64 t.coef]
def cR (r:RowV) (tv:Value):List Value:=[.string r.name,.int .i64 r.group,.int .i64 r.kind,tv,.int .i64 r.bound]
structure VarOk (v:VarV):Prop where
 lo:InR v.lo
 up:InR v.up
 co:InR v.co
structure TermOk (t:TermV):Prop where
 var:InR t.var
 coef:InR t.coef
structure RowOk (r:RowV):Prop where
 name:r.name.size<=maxLen
 group:InR r.group
 kind:InR r.kind
 bound:InR r.bound
def Tms (w:World) (v:Value) (l:List TermV):Prop:=Sl w v 2 (l.map cT)/\∀ t ∈ l,TermOk t
def Vrs (w:World) (v:Value) (l:List VarV):Prop:=Sl w v 5 (l.map cV)/\∀ x ∈ l,VarOk x
def Rws (w:World) (v:Value) (l:List RowV):Prop:=∃ tvs:List Value,tvs.length=l.length/\Sl w v 5 (List.zipWith cR l tvs)/\∀ (i:Nat) r tv,l[i]?=some r->tvs[i]?=some tv->Tms w tv r.terms/\RowOk r
def Rats (w:World) (v:Value) (l:List Rat) (L:Nat):Prop:=∃ cs:List (List Value),cs.length=l.length/\Sl w v 3 cs/\∀ (i:Nat) c q,cs[i]?=some c->l[i]?=some q->Rrat w (.agg c.toArray) q L
def IsPrg (w:World) (v:Value) (p:ProgV):Prop:=∃ vv rv,v=.agg #[vv,rv]/\Vrs w vv p.vars/\Rws w rv p.rows
section
variable {w w':World} {v:Value}
theorem Tms.keep {l:List TermV} (h:Tms w v l) (hx:XF w w'):Tms w' v l:=⟨h.1.keep hx,h.2⟩
theorem Vrs.keep {l:List VarV} (h:Vrs w v l) (hx:XF w w'):Vrs w' v l:=⟨h.1.keep hx,h.2⟩
theorem Rws.keep {l:List RowV} (h:Rws w v l) (hx:XF w w'):Rws w' v l:=by
 obtain ⟨tvs,h1,h2,h3⟩:=h
 exact ⟨tvs,h1,h2.keep hx,fun i r tv hr ht=>⟨(h3 i r tv hr ht).1.keep hx,(h3 i r tv hr ht).2⟩⟩
theorem Rats.keep {l:List Rat} {L:Nat} (h:Rats w v l L) (hx:XF w w'):Rats w' v l L:=by
 obtain ⟨cs,h1,h2,h3⟩:=h
 exact ⟨cs,h1,h2.keep hx,fun i c q hc hq=>(h3 i c q hc hq).keep hx⟩
theorem Rats.nil (w:World) (L:Nat):Rats w (.slice none 0 0) [] L:=⟨[],rfl,Sl.nil w 3,fun i c q hc=>by simp at hc⟩
theorem IsPrg.keep {p:ProgV} (h:IsPrg w v p) (hx:XF w w'):IsPrg w' v p:=by
 obtain ⟨vv,rv,h1,h2,h3⟩:=h
 exact ⟨vv,rv,h1,h2.keep hx,h3.keep hx⟩
theorem Tms.shape {l:List TermV} (h:Tms w v l):∃ ao c,v=.slice ao l.length c/\(ao=none->c=0)/\l.length<=9223372036854775807/\l.length<=c:=by
 obtain ⟨ao,c,h1,h2⟩:=h.1.shape
 rw [List.length_map] at h1 h2
 exact ⟨ao,c,h1,h2⟩
theorem Vrs.shape {l:List VarV} (h:Vrs w v l):∃ ao c,v=.slice ao l.length c/\(ao=none->c=0)/\l.length<=9223372036854775807/\l.length<=c:=by
 obtain ⟨ao,c,h1,h2⟩:=h.1.shape
 rw [List.length_map] at h1 h2
 exact ⟨ao,c,h1,h2⟩
theorem Rws.shape {l:List RowV} (h:Rws w v l):∃ ao c,v=.slice ao l.length c/\(ao=none->c=0)/\l.length<=9223372036854775807/\l.length<=c:=by
 obtain ⟨tvs,h0,h1,_⟩:=h
 obtain ⟨ao,c,h1,h2⟩:=h1.shape
 rw [List.length_zipWith,h0,Nat.min_self] at h1 h2
 exact ⟨ao,c,h1,h2⟩
theorem Rats.shape {l:List Rat} {L:Nat} (h:Rats w v l L):∃ ao c,v=.slice ao l.length c/\(ao=none->c=0)/\l.length<=9223372036854775807/\l.length<=c:=by
 obtain ⟨cs,h0,h1,_⟩:=h
 obtain ⟨ao,c,h1,h2⟩:=h1.shape
 rw [h0] at h1 h2
 exact ⟨ao,c,h1,h2⟩
theorem Tms.at {ao:Option Addr} {n c:Nat} {l:List TermV} (h:Tms w (.slice ao n c) l) (i:Nat) (hi:i<l.length):∃ b off,ao=some ⟨b,off,none⟩/\b<w.heap.size /\
  w.cell? ⟨b,off+i*2,none⟩=some (.int .i64 (l.getD i term0).var)/\w.cell? ⟨b,off+i*2+1,none⟩=some (.int .i64 (l.getD i term0).coef)/\TermOk (l.getD i term0):=by
 rw [getD_lt hi term0]
 obtain ⟨b,off,h1,h2,h3⟩:=h.1.at (i:=i) (r:=cT l[i]) (by rw [List.getElem?_map,List.getElem?_eq_getElem hi]; rfl)
 exact ⟨b,off,h1,h2,h3 0 _ rfl,h3 1 _ rfl,h.2 _ (List.getElem_mem hi)⟩
theorem Vrs.at {ao:Option Addr} {n c:Nat} {l:List VarV} (h:Vrs w (.slice ao n c) l) (i:Nat) (hi:i<l.length):∃ b off,ao=some ⟨b,off,none⟩/\b<w.heap.size /\
  w.cell? ⟨b,off+i*5,none⟩=some (.int .i64 (l.getD i var0).lo)/\w.cell? ⟨b,off+i*5+1,none⟩=some (.int .i64 (l.getD i var0).up)/\w.cell? ⟨b,off+i*5+2,none⟩=some (.bool (l.getD i var0).op)/\w.cell? ⟨b,off+i*5+3,none⟩=some (.bool (l.getD i var0).ig)/\w.cell? ⟨b,off+i*5+4,none⟩=some (.int .i64 (l.getD i var0).co)/\VarOk (l.getD i var0):=by
 rw [getD_lt hi var0]
 obtain ⟨b,off,h1,h2,h3⟩:=h.1.at (i:=i) (r:=cV l[i]) (by rw [List.getElem?_map,List.getElem?_eq_getElem hi]; rfl)
 exact ⟨b,off,h1,h2,h3 0 _ rfl,h3 1 _ rfl,h3 2 _ rfl,h3 3 _ rfl,h3 4 _ rfl,h.2 _ (List.getElem_mem hi)⟩
theorem Rws.at {ao:Option Addr} {n c:Nat} {l:List RowV} (h:Rws w (.slice ao n c) l) (i:Nat) (hi:i<l.length):∃ b off ta tc,ao=some ⟨b,off,none⟩/\b<w.heap.size /\
  w.cell? ⟨b,off+i*5,none⟩=some (.string (l.getD i row0).name)/\w.cell? ⟨b,off+i*5+1,none⟩=some (.int .i64 (l.getD i row0).group)/\w.cell? ⟨b,off+i*5+2,none⟩=some (.int .i64 (l.getD i row0).kind)/\w.cell? ⟨b,off+i*5+3,none⟩=some (.slice ta (l.getD i row0).terms.length tc)/\w.cell? ⟨b,off+i*5+4,none⟩=some (.int .i64 (l.getD i row0).bound)/\RowOk (l.getD i row0)/\Tms w (.slice ta (l.getD i row0).terms.length tc) (l.getD i row0).terms:=by
 rw [getD_lt hi row0]
 obtain ⟨tvs,h0,h1,h2⟩:=h
 have hi':i<tvs.length:=by omega
 obtain ⟨b,off,g1,g2,g3⟩:=h1.at (i:=i) (r:=cR l[i] tvs[i]) (by rw [List.getElem?_zipWith,List.getElem?_eq_getElem hi,List.getElem?_eq_getElem hi'])
 obtain ⟨k1,k2⟩:=h2 i _ _ (List.getElem?_eq_getElem hi) (List.getElem?_eq_getElem hi')
 obtain ⟨ta,tc,e,_⟩:=k1.shape
 rw [e] at k1
 have g4:=g3 3 _ rfl
 rw [e] at g4
 exact ⟨b,off,ta,tc,g1,g2,g3 0 _ rfl,g3 1 _ rfl,g3 2 _ rfl,g4,g3 4 _ rfl,k2,k1⟩
theorem Rats.at {ao:Option Addr} {n c:Nat} {l:List Rat} {L:Nat} (h:Rats w (.slice ao n c) l L) (i:Nat) (hi:i<l.length):∃ b off neg a1 m1 c1 a2 m2 c2,ao=some ⟨b,off,none⟩/\b<w.heap.size /\
  w.cell? ⟨b,off+i*3,none⟩=some (.bool neg)/\w.cell? ⟨b,off+i*3+1,none⟩=some (.slice a1 m1 c1)/\w.cell? ⟨b,off+i*3+2,none⟩=some (.slice a2 m2 c2)/\Rrat w (.agg #[.bool neg,.slice a1 m1 c1,.slice a2 m2 c2]) (atQ l i) L:=by
 rw [atQ_in l hi]
 obtain ⟨cs,h0,h1,h2⟩:=h
 have hi':i<cs.length:=by omega
 obtain ⟨b,off,g1,g2,g3⟩:=h1.at (i:=i) (List.getElem?_eq_getElem hi')
 have k1:=h2 i _ _ (List.getElem?_eq_getElem hi') (List.getElem?_eq_getElem hi)
 obtain ⟨neg,a1,m1,c1,a2,m2,c2,_,_,e,_⟩:=k1.open
 rw [e] at k1
 have ec:cs[i]=[.bool neg,.slice a1 m1 c1,.slice a2 m2 c2]:=by
  injection e with e
  have:=congrArg Array.toList e
  simpa using this
 rw [ec] at g3
 exact ⟨b,off,neg,a1,m1,c1,a2,m2,c2,g1,g2,g3 0 _ rfl,g3 1 _ rfl,g3 2 _ rfl,k1⟩
theorem Rrat.zero (w:World) (L:Nat):Rrat w (.agg #[.bool false,.slice none 0 0,.slice none 0 0]) 0 L :=
 ⟨false,_,_,[],[],rfl,Rds.nil w,Nat.zero_le _,Rds.nil w,Nat.zero_le _,rfl⟩
end
theorem Vrs.atp {w:World} {p:ProgV} {ao:Option Addr} {n c:Nat} (h:Vrs w (.slice ao n c) p.vars) (i:Nat) (hi:i<p.vars.length):∃ b off,ao=some ⟨b,off,none⟩/\b<w.heap.size /\
  w.cell? ⟨b,off+i*5,none⟩=some (.int .i64 (p.v i).lo)/\w.cell? ⟨b,off+i*5+1,none⟩=some (.int .i64 (p.v i).up)/\w.cell? ⟨b,off+i*5+2,none⟩=some (.bool (p.v i).op)/\w.cell? ⟨b,off+i*5+3,none⟩=some (.bool (p.v i).ig)/\w.cell? ⟨b,off+i*5+4,none⟩=some (.int .i64 (p.v i).co)/\VarOk (p.v i):=h.at i hi
theorem Rws.atp {w:World} {p:ProgV} {ao:Option Addr} {n c:Nat} (h:Rws w (.slice ao n c) p.rows) (i:Nat) (hi:i<p.rows.length):∃ b off ta tc,ao=some ⟨b,off,none⟩/\b<w.heap.size /\
  w.cell? ⟨b,off+i*5,none⟩=some (.string (p.r i).name)/\w.cell? ⟨b,off+i*5+1,none⟩=some (.int .i64 (p.r i).group)/\w.cell? ⟨b,off+i*5+2,none⟩=some (.int .i64 (p.r i).kind)/\w.cell? ⟨b,off+i*5+3,none⟩=some (.slice ta (p.r i).terms.length tc)/\w.cell? ⟨b,off+i*5+4,none⟩=some (.int .i64 (p.r i).bound)/\RowOk (p.r i)/\Tms w (.slice ta (p.r i).terms.length tc) (p.r i).terms:=h.at i hi
theorem Tms.atr {w:World} {r:RowV} {ao:Option Addr} {n c:Nat} (h:Tms w (.slice ao n c) r.terms) (i:Nat) (hi:i<r.terms.length):∃ b off,ao=some ⟨b,off,none⟩/\b<w.heap.size /\
  w.cell? ⟨b,off+i*2,none⟩=some (.int .i64 (r.t i).var)/\w.cell? ⟨b,off+i*2+1,none⟩=some (.int .i64 (r.t i).coef)/\TermOk (r.t i):=h.at i hi
theorem ProgV.r_at (p:ProgV) {i:Nat} (h:i<p.rows.length):p.rows[i]=p.r i:=(getD_lt h _).symm
theorem RowV.t_at (r:RowV) {i:Nat} (h:i<r.terms.length):r.terms[i]=r.t i:=(getD_lt h _).symm
theorem Sz.mono {q:Rat} {L M:Nat} (h:Sz q L) (hl:L<=M):Sz q M:=⟨Nat.le_trans h.1 hl,Nat.le_trans h.2 hl⟩
theorem den_lt {q:Rat} {L:Nat} (h:Sz q L):q.den<4294967296 ^ L:=Nat.lt_of_lt_of_le (dg_lt _) (pow_mono h.2)
theorem num_lt {q:Rat} {L:Nat} (h:Sz q L):q.num.natAbs<4294967296 ^ L:=Nat.lt_of_lt_of_le (dg_lt _) (pow_mono h.1)
theorem Sz.add {q q':Rat} {L M:Nat} (h:Sz q L) (h':Sz q' M):Sz (q+q') (L+M+1):=by
 have e:q+q'=mkRat (q.num*(q'.den:Int)+q'.num*(q.den:Int)) (q.den*q'.den):=by
  rw [<- Rat.mkRat_add_mkRat _ _ q.den_nz q'.den_nz,Rat.mkRat_self,Rat.mkRat_self]
 rw [e]
 have h1:(dg (q.num*(q'.den:Int)).natAbs).length<=L+M:=by
  rw [Int.natAbs_mul,Int.natAbs_natCast]
  exact dg_len_mul (num_lt h) (den_lt h')
 have h2:(dg (q'.num*(q.den:Int)).natAbs).length<=L+M:=by
  rw [Int.natAbs_mul,Int.natAbs_natCast]
  have:=dg_len_mul (num_lt h') (den_lt h)
  omega
 refine sz_mkRat (Nat.mul_pos q.den_pos q'.den_pos) (len_add h1 h2) (Nat.le_trans (dg_len_mul (den_lt h) (den_lt h')) (Nat.le_succ _)) (Nat.le_refl _)
theorem Sz.mul {q q':Rat} {L M:Nat} (h:Sz q L) (h':Sz q' M):Sz (q*q') (L+M):=by
 have e:q*q'=mkRat (q.num*q'.num) (q.den*q'.den):=by
  rw [<- Rat.mkRat_mul_mkRat,Rat.mkRat_self,Rat.mkRat_self]
 rw [e]
 refine sz_mkRat (Nat.mul_pos q.den_pos q'.den_pos) ?_ (dg_len_mul (den_lt h) (den_lt h')) (Nat.le_refl _)
 rw [Int.natAbs_mul]
 exact dg_len_mul (num_lt h) (num_lt h')
theorem Sz.int {k:Int} (h:InR k):Sz (k:Rat) 2:=by
 constructor
 ·rw [Rat.num_intCast]
  refine dg_length_le ?_
  have:(4294967296:Nat) ^ 2=18446744073709551616:=by decide
  rw [this]
  unfold InR at h
  omega
 ·rw [Rat.den_intCast]
  exact dg_length_le (k:=2) (by decide)
theorem Sz.zero:Sz 0 1:=⟨dg_length_le (k:=1) (by decide),dg_length_le (k:=1) (by decide)⟩
def AtPost (w:World) (q:Rat) (L:Nat) (r:Ending) (w':World):Prop:=∃ u,r=.returned u/\Rrat w' u q L/\XF w w'
theorem PutR.rrat {w w':World} {r:Nat} {neg:Bool} {mag den v:Value} {q:Rat} {L:Nat} (h:PutR w w' r neg mag den) (hi:Rrat w v q L):Rrat w' v q L:=by
 obtain ⟨n,m,d,l,k,h1,h2,h3,h4,h5⟩:=hi
 exact ⟨n,m,d,l,k,h1,h.rds _ _ h2,h3,h.rds _ _ h4,h5⟩
theorem at_put {w w1:World} {r:Nat} {neg n0:Bool} {a1 a2:Option Addr} {m1 c1 m2 c2:Nat} {q:Rat} {L:Nat} {x0 y0:Value} (hb:BoxR w1 r n0 x0 y0) (hr:w.heap.size<=r) (hx:XF w w1)
  (h:Rrat w1 (.agg #[.bool neg,.slice a1 m1 c1,.slice a2 m2 c2]) q L) :
  BoxR (((w1.setCell ⟨r,0,none⟩ (.bool neg)).setCell ⟨r,1,none⟩ (.slice a1 m1 c1)).setCell ⟨r,2,none⟩ (.slice a2 m2 c2)) r neg (.slice a1 m1 c1) (.slice a2 m2 c2) /\
   AtPost w q L (.returned (.agg #[.bool neg,.slice a1 m1 c1,.slice a2 m2 c2])) (((w1.setCell ⟨r,0,none⟩ (.bool neg)).setCell ⟨r,1,none⟩ (.slice a1 m1 c1)).setCell ⟨r,2,none⟩ (.slice a2 m2 c2)) :=
 have hp:=hb.put (neg:=neg) (no_int a1 m1 c1) (no_int a2 m2 c2)
 ⟨hp.box,_,rfl,hp.rrat h,hx.own hp.ext (fun k e=>by omega)⟩
theorem lat_any (w:World) (v:Value) (l:List Rat) (L:Nat) (h:Rats w v l L) (i:Int):Calls Tryz.prog 36 #[v,.int .i64 i] w (AtPost w (atQ l i) L):=by
 obtain ⟨ao,c,rfl,_,hn,_⟩:=h.shape
 have hb:=boxR_new (W:=w) rfl false none 0 0 none 0 0
 have hx:=(Ext.refl (fun _=>False) w).alloc (.cells #[.bool false,.slice none 0 0,.slice none 0 0] 49)
 have H:=bH (h.keep hx)
 have HB:=bH (bI hb hx)
 clear h
 go_enter Tryz.func36,Tryz.ntmps36
 go_upto_region 1 with fail
 clear hb hx
 generalize w.alloc (.cells #[.bool false,.slice none 0 0,.slice none 0 0] 49)=w1 at *
 obtain ⟨d0,d1,d2,d3,d4,d5⟩:=HB.out.1.facts
 have hz:∀ q,q=0->Rrat w1 (.agg #[.bool false,.slice none 0 0,.slice none 0 0]) q L:=fun q hq=>by subst hq; exact Rrat.zero w1 L
 by_cases h0:i<0
 ·obtain ⟨hp,ha⟩:=at_put HB.out.1 (Nat.le_refl _) HB.out.2 (hz _ (atQ_neg l h0))
  have HP:=bH (bI hp ha)
  clear hp ha hz
  generalize l.length=n at *
  go_wp2
  generalize ((w1.setCell ⟨w.heap.size,0,none⟩ (.bool false)).setCell ⟨w.heap.size,1,none⟩ (.slice none 0 0)).setCell ⟨w.heap.size,2,none⟩ (.slice none 0 0)=w9 at *
  obtain ⟨g0,g1,g2,_⟩:=HP.out.1.facts
  exact bodyPost_ret (v:=.agg #[.bool false,.slice none 0 0,.slice none 0 0]) (by simp [results,Tryz.results36,go_sem,g0,g1,g2]) rfl HP.out.2
 by_cases h1:(l.length:Int)<=i
 ·obtain ⟨hp,ha⟩:=at_put HB.out.1 (Nat.le_refl _) HB.out.2 (hz _ (atQ_out l h1))
  have HP:=bH (bI hp ha)
  clear hp ha hz
  generalize l.length=n at *
  go_wp2
  generalize ((w1.setCell ⟨w.heap.size,0,none⟩ (.bool false)).setCell ⟨w.heap.size,1,none⟩ (.slice none 0 0)).setCell ⟨w.heap.size,2,none⟩ (.slice none 0 0)=w9 at *
  obtain ⟨g0,g1,g2,_⟩:=HP.out.1.facts
  exact bodyPost_ret (v:=.agg #[.bool false,.slice none 0 0,.slice none 0 0]) (by simp [results,Tryz.results36,go_sem,g0,g1,g2]) rfl HP.out.2
 ·obtain ⟨j,rfl⟩:∃ j:Nat,i=j:=⟨i.toNat,by omega⟩
  have hj:j<l.length:=by omega
  obtain ⟨b,off,neg,a1,m1,c1,a2,m2,c2,rfl,hlt,e0,e1,e2,hq⟩:=H.out.at j hj
  obtain ⟨hp,ha⟩:=at_put HB.out.1 (Nat.le_refl _) HB.out.2 hq
  have HP:=bH (bI hp ha)
  clear hp ha hq hz H
  have j0:(0:Int)<=(j:Int):=by omega
  have j1:(j:Int)<(l.length:Int):=by omega
  generalize l.length=n at *
  go_wp2
  generalize ((w1.setCell ⟨w.heap.size,0,none⟩ (.bool neg)).setCell ⟨w.heap.size,1,none⟩ (.slice a1 m1 c1)).setCell ⟨w.heap.size,2,none⟩ (.slice a2 m2 c2)=w9 at *
  obtain ⟨g0,g1,g2,_⟩:=HP.out.1.facts
  exact bodyPost_ret (v:=.agg #[.bool neg,.slice a1 m1 c1,.slice a2 m2 c2]) (by simp [results,Tryz.results36,go_sem,g0,g1,g2]) rfl HP.out.2
theorem Rrat.shape {w:World} {v:Value} {q:Rat} {L:Nat} (h:Rrat w v q L):∃ neg a1 m1 c1 a2 m2 c2,v=.agg #[.bool neg,.slice a1 m1 c1,.slice a2 m2 c2]:=by
 obtain ⟨neg,a1,m1,c1,a2,m2,c2,_,_,h,_⟩:=h.open
 exact ⟨neg,a1,m1,c1,a2,m2,c2,h⟩
def TermPost (w:World) (k:Int) (q:Rat) (L:Nat) (r:Ending) (w':World):Prop:=∃ u,r=.returned (.tuple #[.int .i64 k,u])/\Rrat w' u q L/\XF w w'
theorem sign_zero (q:Rat):q.num.sign=0↔q=0:=by
 constructor
 ·intro h
  have:=Int.sign_eq_zero_iff_zero.1 h
  exact Rat.num_eq_zero.1 this
 ·intro h; subst h; rfl
theorem sum_size {f:Nat->Int} {g:Nat->Rat} {L:Nat} {n:Nat} (hf:∀ i,i<n->InR (f i)) (hg:∀ i,i<n->Sz (g i) L):∀ i,i<=n->Sz (sumTo i fun j=>(f j:Rat)*g j) (1+i*(L+3))
 | 0,_=>Sz.zero.mono (by omega)
 | i+1,hi=>by
  have h1:=sum_size hf hg i (by omega)
  have h2:=(Sz.int (hf i (by omega))).mul (hg i (by omega))
  have e:1+i*(L+3)+(2+L)+1=1+(i+1)*(L+3):=by rw [Nat.succ_mul]; omega
  exact (h1.add h2).mono (Nat.le_of_eq e)
def SumSt (w w0:World) (r s n i:Nat) (q:Rat):Prop:=∃ neg a1 m1 c1 a2 m2 c2,BoxR w s neg (.slice a1 m1 c1) (.slice a2 m2 c2)/\IsRat w (.agg #[.bool neg,.slice a1 m1 c1,.slice a2 m2 c2]) q/\BoxR w r false (.slice none 0 0) (.slice none 0 0)/\XF w0 w
theorem SumSt.keep {w w' w0:World} {r s n i:Nat} {q:Rat} (h:SumSt w w0 r s n i q) (hx:XF w w'):SumSt w' w0 r s n i q:=by
 obtain ⟨neg,a1,m1,c1,a2,m2,c2,h1,h2,h3,h4⟩:=h
 exact ⟨neg,a1,m1,c1,a2,m2,c2,h1.ext hx id,h2.keep hx,h3.ext hx id,h4.trans hx⟩
theorem lsum_any (w:World) (n:Nat) (F:Nat) (caps:Array Value) (f:Nat->Int) (g:Nat->Rat) (L:Nat) (h1:1<=L) (hL:1+n*(L+3)+(L+3)<=4000000) (hf:∀ i,i<n->InR (f i)) (hg:∀ i,i<n->Sz (g i) L)
  (eg:∀ args W,(callFunc F args).run Tryz.prog W=.ok (.enter F args) W)
  (H:∀ W,XF w W->∀ i:Nat,i<n->Calls Tryz.prog F (#[.int .i64 i]++caps) W (TermPost W (f i) (g i) L)) :
  Calls Tryz.prog 39 #[.int .i64 n,.func (.func F) #[] caps] w (RatPost w (sumTo n fun i=>(f i:Rat)*g i)):=by
 have hn:n<=4000000:=by
  have:=Nat.le_mul_of_pos_right n (show 0<L+3 by omega)
  omega
 have H0:=bH H
 have HF:=bH hf
 have HG:=bH hg
 clear H hf hg
 have HZ:=bH (fun W=>rfrom_any W 0 (by omega) (by omega))
 go_enter Tryz.func39,Tryz.ntmps39
 go_wp2_with fail
 refine (HZ.out _).mono ?_
 rintro r1 w1 ⟨v1,rfl,hv1,hx1⟩
 obtain ⟨neg,a1,m1,c1,a2,m2,c2,rfl⟩:=hv1.shape
 have hx0:=(Ext.refl (fun _=>False) w).alloc (.cells #[.bool false,.slice none 0 0,.slice none 0 0] 49)
 have hr0:=(boxR_new (W:=w) rfl false none 0 0 none 0 0).ext hx1 id
 go_upto_region 2 with fail
 have HS:Hid (SumSt (w1.alloc (.cells #[.bool neg,.slice a1 m1 c1,.slice a2 m2 c2] 49)) w w.heap.size w1.heap.size n 0 (sumTo 0 fun j=>(f j:Rat)*g j)) :=
  bH ⟨neg,a1,m1,c1,a2,m2,c2,boxR_new rfl _ _ _ _ _ _ _,hv1.keep ((Ext.refl _ _).alloc _),hr0.ext ((Ext.refl (fun _=>False) _).alloc _) id,(hx0.trans hx1).alloc _⟩
 have hrs:w.heap.size<w1.heap.size:=Nat.lt_of_lt_of_le (by simp) hx1.size
 clear hv1 hx1 hx0 hr0 HZ
 generalize w1.alloc (.cells #[.bool neg,.slice a1 m1 c1,.slice a2 m2 c2] 49)=w2 at *
 generalize w1.heap.size=sb at *
 go_wp2_with fail
 go_loopg [11] n (fun gg v11 wr=>∃ i:Nat,i<=n/\gg=n - i/\v11=.int .i64 i/\SumSt wr w w.heap.size sb n i (sumTo i fun j=>(f j:Rat)*g j))
 case atStart=>exact ⟨0,Nat.zero_le _,rfl,rfl,HS.out⟩
 case round =>
  obtain ⟨i,hi,rfl,rfl,hst⟩:=hrel
  by_cases hin:i<n
  ·have i0:(i:Int)<(n:Int):=by omega
   have HST:=bH hst
   have HC:=bH (H0.out wr (by obtain ⟨_,_,_,_,_,_,_,_,_,_,h⟩:=hst; exact h) i hin)
   have HFi:=bH (HF.out i hin)
   clear hst HS
   go_wp2_with fail
   refine HC.out.mono ?_
   rintro r3 w3 ⟨u3,rfl,hu3,hx3⟩
   obtain ⟨xn,xa,xm,xc,ya,ym,yc,rfl⟩:=hu3.shape
   clear HC
   go_upto_region 6 with fail
   have hx34:=(Ext.refl (fun _=>False) w3).alloc (.cells #[.bool xn,.slice xa xm xc,.slice ya ym yc] 49)
   have hbx:=boxR_new (W:=w3) rfl xn xa xm xc ya ym yc
   have hu4:=hu3.keep hx34
   have hst4:=HST.out.keep (hx3.trans hx34)
   have hxb:wr.heap.size<=w3.heap.size:=hx3.size
   obtain ⟨sn,s1,sm1,sc1,s2,sm2,sc2,hsb,hsq,hsr,hsx⟩:=hst4
   have hsxl:sb<wr.heap.size:=by
    obtain ⟨_,_,_,_,_,_,_,h,_⟩:=HST.out
    exact h.lt
   have HB:=bH (bI hsb (bI hbx (bI hsr hsx)))
   have HQ:=bH (bI hsq hu4)
   have hzero:f i=0∨g i=0->sumTo (i+1) (fun j=>(f j:Rat)*g j)=sumTo i (fun j=>(f j:Rat)*g j):=fun h=>by
    show sumTo i (fun j=>(f j:Rat)*g j)+(f i:Rat)*g i=_
    rcases h with h | h
    ·rw [h]; show _+(0:Rat)*g i=_; grind
    ·rw [h]; grind
   have HZ0:=bH hzero
   clear hzero hu3 hx3 hx34 hsb hsr hsx hsq hu4 HST hbx
   obtain ⟨xb,hxbe⟩:∃ xb,w3.heap.size=xb:=⟨_,rfl⟩
   rw [hxbe] at HB hxb ⊢
   generalize w3.alloc (.cells #[.bool xn,.slice xa xm xc,.slice ya ym yc] 49)=w4 at *
   clear hxbe
   obtain ⟨x0,x1,x2,_⟩:=HB.out.2.1.facts
   by_cases hk:f i=0
   ·have HK:=bH hk
    have hkb:(f i == 0)=true:=by simpa using hk
    go_wp2
    go_roundg (n - (i+1))
    case measure=>omega
    case rel=>exact ⟨i+1,by omega,rfl,by go_num,by rw [HZ0.out (.inl HK.out)]; exact ⟨_,_,_,_,_,_,_,HB.out.1,HQ.out.1,HB.out.2.2.1,HB.out.2.2.2⟩⟩
   ·have hk':(f i == 0)=false:=by simpa using hk
    have HG1:=bH (rsign_any w4 _ (g i) L HQ.out.2 (by omega))
    go_wp2_with fail
    refine HG1.out.mono ?_
    rintro r5 w5 ⟨rfl,hx5⟩
    have HB5:=bH (bI (HB.out.1.ext hx5 id) (bI (HB.out.2.1.ext hx5 id) (bI (HB.out.2.2.1.ext hx5 id) (HB.out.2.2.2.trans hx5))))
    have HQ5:=bH (bI (HQ.out.1.keep hx5) (HQ.out.2.keep hx5))
    clear hx5 HB HQ HG1 x0 x1 x2
    by_cases hg0:g i=0
    ·have hs0:(g i).num.sign=0:=(sign_zero _).2 hg0
     have HG0:=bH hg0
     rw [hs0]
     clear hs0 hg0
     go_wp2
     go_roundg (n - (i+1))
     case measure=>omega
     case rel=>exact ⟨i+1,by omega,rfl,by go_num,by rw [HZ0.out (.inr HG0.out)]; exact ⟨_,_,_,_,_,_,_,HB5.out.1,HQ5.out.1,HB5.out.2.2.1,HB5.out.2.2.2⟩⟩
    ·have hs0:¬ (g i).num.sign=0:=fun h=>hg0 ((sign_zero _).1 h)
     have hs1:((g i).num.sign == 0)=false:=by simpa using hs0
     have hs2:((g i).num.sign != 0)=true:=by simpa using hs0
     have hs3:decide ((g i).num.sign=0)=false:=by simpa using hs0
     have HG0:=bH hg0
     clear hg0
     generalize (g i).num.sign=sg0 at *
     have hsz:=sum_size HF.out HG.out i hi
     have hszk:=(Sz.int HFi.out)
     have hszx:=hszk.mul (HG.out i hin)
     have hle:1+i*(L+3)<=1+n*(L+3):=Nat.add_le_add_left (Nat.mul_le_mul_right _ hi) 1
     have HF1:=bH (fun W=>rfrom_any W (f i) HFi.out.1 HFi.out.2)
     have HM1:=bH (fun W (hW:XF w5 W) u (hu:IsRat W u ((f i:Int):Rat))=>rmul_any W u _ _ (g i) (L+2) (hu.reads (hszk.mono (by omega))) ((HQ5.out.2.keep hW).mono (by omega)) (by omega) (by omega))
     have HA1:=bH (fun W (hW:XF w5 W) u (hu:IsRat W u ((f i:Rat)*g i))=>radd_any W _ u (sumTo i fun j=>(f j:Rat)*g j) _ (1+n*(L+3)+(L+3)) ((HQ5.out.1.keep hW).reads (hsz.mono (by omega))) (hu.reads (hszx.mono (by omega))) (by omega) (by omega))
     rw [show sumTo i (fun j=>(f j:Rat)*g j)+(f i:Rat)*g i=sumTo (i+1) fun j=>(f j:Rat)*g j from rfl] at HA1
     clear hsz hszk hszx hle HZ0
     have hS:=SR2.of HB5.out.1 HB5.out.2.1
     have hsxb:sb<xb:=by omega
     have hne:w.heap.size≠sb:=by omega
     obtain ⟨k',hk'⟩:∃ k',f i=k':=⟨_,rfl⟩
     rw [hk'] at HF1 HM1 HA1 ⊢
     go_upto_region 7 with fail
     obtain ⟨z0,z1,z2,z3,z4,z5⟩:=hS
     go_region_law (first
      | (go_simp; go_at_call 35; (with_reducible refine (HF1.out _).mono ?_); rintro q1 w11 ⟨v11,rfl,h11,hx11⟩; have hX1:=(Ext.refl (fun _=>False) w5).drew.trans hx11; obtain ⟨y0,y1,y2,y3,y4,y5⟩:=SR2.of (HB5.out.1.ext hX1 id) (HB5.out.2.1.ext hX1 id); have hM:=HM1.out w11 hX1 _ h11; obtain ⟨pn,pa,pm,pc,qa,qm,qc,rfl⟩:=h11.shape)
      | (go_simp; go_at_call 60; (with_reducible refine hM.mono ?_); rintro q2 w12 ⟨v12,rfl,h12,hx12⟩; have hX2:=hX1.trans hx12; obtain ⟨u0,u1,u2,u3,u4,u5⟩:=SR2.of (HB5.out.1.ext hX2 id) (HB5.out.2.1.ext hX2 id); have hA:=HA1.out w12 hX2 _ h12; obtain ⟨pn2,pa2,pm2,pc2,qa2,qm2,qc2,rfl⟩:=h12.shape)
      | (go_simp; go_at_call 59; (with_reducible refine hA.mono ?_); rintro q3 w13 ⟨v13,rfl,h13,hx13⟩; have hX3:=hX2.trans hx13; have hr3:=HB5.out.1.ext hX3 id; obtain ⟨d0,d1,d2,d3,d4,d5⟩:=hr3.facts; obtain ⟨ng,sa,sn1,sc,ta,tn,tc,rfl⟩:=h13.shape))
     all_goals
      have hp:=hr3.put (neg:=ng) (no_int sa sn1 sc) (no_int ta tn tc)
      have HR:Hid (SumSt _ w w.heap.size sb n (i+1) _):=bH ⟨_,_,_,_,_,_,_,hp.box,hp.rat h13,(HB5.out.2.2.1.ext hX3 id).ext hp.ext (fun e=>hne e),(HB5.out.2.2.2.trans hX3).own hp.ext (fun k e=>by omega)⟩
      clear hp hr3 h11 h12 h13 hx11 hx12 hx13 hX1 hX2 hX3 hM hA y0 y1 y2 y3 y4 y5 u0 u1 u2 u3 u4 u5 d0 d1 d2 d3 d4 d5 z0 z1 z2 z3 z4 z5
      go_wp2
      go_roundg (n - (i+1))
      case measure=>omega
      case rel=>exact ⟨i+1,by omega,rfl,by go_num,HR.out⟩
  ·obtain rfl:i=n:=by omega
   obtain ⟨sn,s1,sm1,sc1,s2,sm2,sc2,hsb,hsq,hsr,hsx⟩:=hst
   obtain ⟨e0,e1,e2,_⟩:=hsb.facts
   obtain ⟨d0,d1,d2,d3,d4,d5⟩:=hsr.facts
   have hp:=hsr.put (neg:=sn) (no_int s1 sm1 sc1) (no_int s2 sm2 sc2)
   have HR:=bH (bI (hp.rat hsq) (bI (hsx.own hp.ext (fun k e=>by omega)) hp.box))
   clear hp hsb hsq hsr hsx HS
   go_wp2
   generalize ((wr.setCell ⟨w.heap.size,0,none⟩ (.bool sn)).setCell ⟨w.heap.size,1,none⟩ (.slice s1 sm1 sc1)).setCell ⟨w.heap.size,2,none⟩ (.slice s2 sm2 sc2)=w9 at *
   obtain ⟨g0,g1,g2,_⟩:=HR.out.2.2.facts
   exact bodyPost_ret (v:=.agg #[.bool sn,.slice s1 sm1 sc1,.slice s2 sm2 sc2]) (by simp [results,Tryz.results39,go_sem,g0,g1,g2]) rfl ⟨_,rfl,HR.out.1,HR.out.2.1⟩
theorem blk_keep {w w':World} {b:Nat} {o:Obj} (h:blk w b=some o) (hx:XF w w'):blk w' b=some o:=(hx.blk (blk_lt h) id).trans h
theorem cellq {w:World} {b:Nat} {c:Array Value} {t:TypeId} {f:Nat × Nat} (h:blk w b=some (.cells c t f)) (i:Nat) {x:Value} (hx:c[i]?=some x):w.cell? ⟨b,i,none⟩=some x:=(cell_of_cells h i).trans hx
theorem cell_keep {w w':World} {b i:Nat} {x:Value} (h:w.cell? ⟨b,i,none⟩=some x) (hx:XF w w'):w'.cell? ⟨b,i,none⟩=some x :=
 (hx.cell (p:=⟨b,i,none⟩) (World.block_lt_of_cell? w _ h) id).trans h
theorem term_put {w w1:World} {r:Nat} {neg n0:Bool} {a1 a2:Option Addr} {m1 c1 m2 c2:Nat} {k:Int} {q:Rat} {L:Nat} {x0 y0:Value} (hb:BoxR w1 r n0 x0 y0) (hr:w.heap.size<=r) (hx:XF w w1)
  (h:Rrat w1 (.agg #[.bool neg,.slice a1 m1 c1,.slice a2 m2 c2]) q L) :
  BoxR (((w1.setCell ⟨r,0,none⟩ (.bool neg)).setCell ⟨r,1,none⟩ (.slice a1 m1 c1)).setCell ⟨r,2,none⟩ (.slice a2 m2 c2)) r neg (.slice a1 m1 c1) (.slice a2 m2 c2) /\
   TermPost w k q L (.returned (.tuple #[.int .i64 k,.agg #[.bool neg,.slice a1 m1 c1,.slice a2 m2 c2]])) (((w1.setCell ⟨r,0,none⟩ (.bool neg)).setCell ⟨r,1,none⟩ (.slice a1 m1 c1)).setCell ⟨r,2,none⟩ (.slice a2 m2 c2)) :=
 have hp:=hb.put (neg:=neg) (no_int a1 m1 c1) (no_int a2 m2 c2)
 ⟨hp.box,_,rfl,hp.rrat h,hx.own hp.ext (fun k e=>by omega)⟩
section
variable {b0 b1 b2 o0 o1 o2:Nat} {x0 x1 x2:Value} {W:World}
end
abbrev S4 (b0 b1 b2 b3 o0 o1 o2 o3:Nat) (x0 x1 x2 x3:Value) (W:World):Prop:=W.cell? ⟨b0,o0,none⟩=some x0/\W.cell? ⟨b1,o1,none⟩=some x1/\W.cell? ⟨b2,o2,none⟩=some x2/\W.cell? ⟨b3,o3,none⟩=some x3
section
variable {b0 b1 b2 b3 o0 o1 o2 o3:Nat} {x0 x1 x2 x3:Value} {W:World}
theorem S4.drew (h:S4 b0 b1 b2 b3 o0 o1 o2 o3 x0 x1 x2 x3 W):S4 b0 b1 b2 b3 o0 o1 o2 o3 x0 x1 x2 x3 W.drew:=h
theorem S4.keep {W':World} (h:S4 b0 b1 b2 b3 o0 o1 o2 o3 x0 x1 x2 x3 W) (hx:XF W W'):S4 b0 b1 b2 b3 o0 o1 o2 o3 x0 x1 x2 x3 W':=⟨cell_keep h.1 hx,cell_keep h.2.1 hx,cell_keep h.2.2.1 hx,cell_keep h.2.2.2 hx⟩
theorem S4.set (h:S4 b0 b1 b2 b3 o0 o1 o2 o3 x0 x1 x2 x3 W) (p:Addr) (u:Value) (k0:¬ b0=p.block) (k1:¬ b1=p.block) (k2:¬ b2=p.block) (k3:¬ b3=p.block):S4 b0 b1 b2 b3 o0 o1 o2 o3 x0 x1 x2 x3 (W.setCell p u):=⟨cell_other h.1 k0,cell_other h.2.1 k1,cell_other h.2.2.1 k2,cell_other h.2.2.2 k3⟩
end
theorem dot1_any (w:World) (tb xb:Nat) (tv xv:Value) (ts:List TermV) (l:List Rat) (L:Nat) (hp:blk w tb=some (.cells #[tv] 51 (0,0))) (hxb:blk w xb=some (.cells #[xv] 37 (0,0))) (hv:Tms w tv ts) (hl:Rats w xv l L) (i:Nat) (hi:i<ts.length) :
  Calls Tryz.prog 40 #[.int .i64 i,.pointer (some ⟨tb,0,none⟩),.pointer (some ⟨xb,0,none⟩)] w (TermPost w (ts.getD i term0).coef (atQ l (ts.getD i term0).var) L):=by
 obtain ⟨vo,vc,rfl,-,hn,-⟩:=hv.shape
 obtain ⟨xo,xc,rfl,-,hxn,-⟩:=hl.shape
 have HA:=bH (fun W (hW:XF w W)=>lat_any W _ l L (hl.keep hW) (ts.getD i term0).var)
 obtain ⟨b,off,rfl,hlt,e0,e1,-⟩:=hv.at i hi
 have hx:=(Ext.refl (fun _=>False) w).alloc (.cells #[.bool false,.slice none 0 0,.slice none 0 0] 49)
 have hS:S4 tb xb b b 0 0 (off+i*2) (off+i*2+1) (.slice (some ⟨b,off,none⟩) ts.length vc) (.slice xo l.length xc) (.int .i64 (ts.getD i term0).var) (.int .i64 (ts.getD i term0).coef) (w.alloc (.cells #[.bool false,.slice none 0 0,.slice none 0 0] 49)):=S4.keep ⟨cellq hp 0 rfl,cellq hxb 0 rfl,e0,e1⟩ hx
 have hb:=boxR_new (W:=w) rfl false none 0 0 none 0 0
 have HB:=bH (bI hb hx)
 have n0:=blk_lt hp
 have n1:=blk_lt hxb
 have j0:(0:Int)<=(i:Int):=by omega
 have j1:(i:Int)<(ts.length:Int):=by omega
 clear hv hl hp hxb e0 e1 hi
 go_enter Tryz.func40,Tryz.ntmps40
 go_upto_region 1 with fail
 clear hb hx
 obtain ⟨r,hr⟩:∃ r,w.heap.size=r:=⟨_,rfl⟩
 rw [hr] at HB n0 n1 hlt ⊢
 generalize w.alloc (.cells #[.bool false,.slice none 0 0,.slice none 0 0] 49)=w1 at *
 generalize ts.getD i term0=t at *
 generalize ts.length=n at *
 generalize l.length=xn at *
 obtain ⟨tvar,k⟩:=t
 go_region_held3 (S4 tb xb b b 0 0 (off+i*2) (off+i*2+1) (.slice (some ⟨b,off,none⟩) n vc) (.slice xo xn xc) (.int .i64 tvar) (.int .i64 k))
  (repeat (first | (with_reducible assumption) | (with_reducible refine S4.drew ?_) | (with_reducible refine S4.set ?_ _ _ ?_ ?_ ?_ ?_) | (dsimp only; omega)))
  ((go_at_call 36; (with_reducible refine (HA.out _ HB.out.2.drew).mono ?_); rintro q1 w11 ⟨v11,rfl,h11,hx11⟩; have hX1:=(Ext.refl (fun _=>False) w1).drew.trans hx11; have hK1:=hS.keep hX1; have hr3:=HB.out.1.ext hX1 id; obtain ⟨d0,d1,d2,d3,d4,d5⟩:=hr3.facts; obtain ⟨ng,sa,sn,sc,ta,tn,tc,rfl⟩:=h11.shape))
 obtain ⟨hp,ha⟩:=term_put (w:=w) (k:=k) hr3 (Nat.le_of_eq hr) (HB.out.2.trans hX1) h11
 have HP:=bH (bI hp ha)
 clear hp ha h11 hx11 hX1 hK1 hr3 d0 d1 d2 d3 d4 d5 hS HB
 go_wp2
 generalize ((w11.setCell ⟨r,0,none⟩ (.bool ng)).setCell ⟨r,1,none⟩ (.slice sa sn sc)).setCell ⟨r,2,none⟩ (.slice ta tn tc)=w9 at *
 obtain ⟨g0,g1,g2,_⟩:=HP.out.1.facts
 exact bodyPost_ret (v:=.tuple #[.int .i64 k,.agg #[.bool ng,.slice sa sn sc,.slice ta tn tc]]) (by simp [results,Tryz.results40,go_sem,g0,g1,g2]) rfl HP.out.2
theorem Rws.ok {p:ProgV} {w:World} {v:Value} (h:Rws w v p.rows) (i:Nat) (hi:i<p.rows.length):RowOk (p.r i):=by
 obtain ⟨ao,c,rfl,_⟩:=h.shape
 obtain ⟨_,_,_,_,_,_,_,_,_,_,_,h,_⟩:=h.atp i hi
 exact h
theorem Tms.ok {ts:List TermV} {w:World} {v:Value} (h:Tms w v ts) (i:Nat) (hi:i<ts.length):TermOk (ts.getD i term0):=by
 obtain ⟨ao,c,rfl,_⟩:=h.shape
 obtain ⟨_,_,_,_,_,_,h⟩:=h.at i hi
 exact h
theorem Rats.sz {l:List Rat} {w:World} {v:Value} {L:Nat} (h:Rats w v l L) (h1:1<=L) (i:Int):Sz (atQ l i) L:=by
 by_cases h0:i<0
 ·rw [atQ_neg l h0]; exact Sz.zero.mono h1
 by_cases h2:(l.length:Int)<=i
 ·rw [atQ_out l h2]; exact Sz.zero.mono h1
 obtain ⟨j,rfl⟩:∃ j:Nat,i=j:=⟨i.toNat,by omega⟩
 obtain ⟨ao,c,rfl,_⟩:=h.shape
 obtain ⟨_,_,_,_,_,_,_,_,_,_,_,_,_,_,h⟩:=h.at j (by omega)
 exact h.sz h1
theorem box3 (w:World) (oa ob oc:Obj):blk (((w.alloc oa).alloc ob).alloc oc) w.heap.size=some oa/\blk (((w.alloc oa).alloc ob).alloc oc) (w.heap.size+1)=some ob/\blk (((w.alloc oa).alloc ob).alloc oc) (w.heap.size+1+1)=some oc/\XF w (((w.alloc oa).alloc ob).alloc oc):=by
 refine ⟨?_,?_,?_,(((Ext.refl _ w).alloc _).alloc _).alloc _⟩
 ·rw [blk_alloc_past _ _ _ (by simp; omega),blk_alloc_past _ _ _ (by simp),blk_alloc_at]
 ·rw [blk_alloc_past _ _ _ (by simp)]
  have:=blk_alloc_at (w.alloc oa) ob
  rwa [World.size_alloc] at this
 ·have:=blk_alloc_at ((w.alloc oa).alloc ob) oc
  rwa [World.size_alloc,World.size_alloc] at this
theorem boxR_of {W:World} {k:Nat} {neg:Bool} {ao ao':Option Addr} {n c n' c':Nat} (h:blk W k=some (.cells #[.bool neg,.slice ao n c,.slice ao' n' c'] 49 (0,0))):BoxR W k neg (.slice ao n c) (.slice ao' n' c'):=⟨h,no_int ao n c,no_int ao' n' c'⟩
theorem rat_put {w w1:World} {r:Nat} {neg n0:Bool} {a1 a2:Option Addr} {m1 c1 m2 c2:Nat} {q:Rat} {x0 y0:Value} (hb:BoxR w1 r n0 x0 y0) (hr:w.heap.size<=r) (hx:XF w w1)
  (h:IsRat w1 (.agg #[.bool neg,.slice a1 m1 c1,.slice a2 m2 c2]) q) :
  BoxR (((w1.setCell ⟨r,0,none⟩ (.bool neg)).setCell ⟨r,1,none⟩ (.slice a1 m1 c1)).setCell ⟨r,2,none⟩ (.slice a2 m2 c2)) r neg (.slice a1 m1 c1) (.slice a2 m2 c2) /\
   RatPost w q (.returned (.agg #[.bool neg,.slice a1 m1 c1,.slice a2 m2 c2])) (((w1.setCell ⟨r,0,none⟩ (.bool neg)).setCell ⟨r,1,none⟩ (.slice a1 m1 c1)).setCell ⟨r,2,none⟩ (.slice a2 m2 c2)) :=
 have hp:=hb.put (neg:=neg) (no_int a1 m1 c1) (no_int a2 m2 c2)
 ⟨hp.box,_,rfl,hp.rat h,hx.own hp.ext (fun k e=>by omega)⟩
theorem Dot_any (w:World) (tv xv:Value) (ts:List TermV) (l:List Rat) (L:Nat) (hv:Tms w tv ts) (hl:Rats w xv l L) (h1:1<=L) (hL:1+ts.length*(L+3)+(L+3)<=4000000) :
  Calls Tryz.prog 19 #[tv,xv] w (RatPost w (dotQ ts l)):=by
 obtain ⟨vo,vc,rfl,-,hn,-⟩:=hv.shape
 obtain ⟨xo,xc,rfl,-,hxn,-⟩:=hl.shape
 obtain ⟨b0,b1,b2,hx⟩:=box3 w (.cells #[.slice vo ts.length vc] 51) (.cells #[.slice xo l.length xc] 37) (.cells #[.bool false,.slice none 0 0,.slice none 0 0] 49)
 have hs:=lsum_any (((w.alloc (.cells #[.slice vo ts.length vc] 51)).alloc (.cells #[.slice xo l.length xc] 37)).alloc (.cells #[.bool false,.slice none 0 0,.slice none 0 0] 49)) ts.length 40 #[.pointer (some ⟨w.heap.size,0,none⟩),.pointer (some ⟨w.heap.size+1,0,none⟩)] (fun i=>(ts.getD i term0).coef) (fun i=>atQ l (ts.getD i term0).var) L h1 hL
  (fun i hi=>(hv.ok i hi).coef) (fun i _=>hl.sz h1 _) (enters_of Tryz.func40 (by kernel_rfl) rfl)
  (fun W hW i hi=>dot1_any W w.heap.size (w.heap.size+1) _ _ ts l L (blk_keep b0 hW) (blk_keep b1 hW) (hv.keep (hx.trans hW)) (hl.keep (hx.trans hW)) i hi)
 have HS:=bH hs
 have HB:=bH (bI (boxR_of b2) hx)
 clear hv hl hs b0 b1 b2 hx
 obtain ⟨q,hq⟩:∃ q,dotQ ts l=q:=⟨_,rfl⟩
 unfold dotQ at hq
 rw [hq] at HS
 unfold dotQ
 rw [hq]
 clear hq
 generalize l.length=xn at *
 generalize ts.length=n at *
 go_enter Tryz.func19,Tryz.ntmps19
 go_wp2_with fail
 refine HS.out.mono ?_
 rintro r1 w2 ⟨v2,rfl,h2,hx2⟩
 obtain ⟨ng,sa,sn,sc,ta,tn,tc,rfl⟩:=h2.shape
 have hr3:=HB.out.1.ext hx2 id
 obtain ⟨d0,d1,d2,d3,d4,d5⟩:=hr3.facts
 have HP:=bH (rat_put (w:=w) hr3 (by omega) (HB.out.2.trans hx2) h2)
 clear h2 hr3 hx2
 go_wp2
 generalize ((w2.setCell ⟨w.heap.size+1+1,0,none⟩ (.bool ng)).setCell ⟨w.heap.size+1+1,1,none⟩ (.slice sa sn sc)).setCell ⟨w.heap.size+1+1,2,none⟩ (.slice ta tn tc)=w9 at *
 obtain ⟨g0,g1,g2,_⟩:=HP.out.1.facts
 exact bodyPost_ret (v:=.agg #[.bool ng,.slice sa sn sc,.slice ta tn tc]) (by simp [results,Tryz.results19,go_sem,g0,g1,g2]) rfl HP.out.2
def BoolPost (w:World) (b:Bool) (r:Ending) (w':World):Prop:=r=.returned (.bool b)/\XF w w'
theorem rnum_neg (q:Rat):q.num<0↔q<0:=by
 have:=@Rat.num_nonneg q
 constructor
 ·intro h; exact Rat.not_le.1 (fun h2=>by have:=this.2 h2; omega)
 ·intro h; exact Int.not_le.1 (fun h2=>by have:=this.1 h2; grind)
theorem sign_lt (q:Rat):q.num.sign<0↔q<0:=by
 rw [Int.sign_neg_iff]
 exact rnum_neg q
theorem sign_gt (q:Rat):0<q.num.sign↔0<q:=by
 rw [Int.sign_pos_iff]
 have h:=rnum_neg (-q)
 rw [Rat.neg_num] at h
 constructor
 ·intro h1; have:=h.1 (by omega); grind
 ·intro h1; have:=h.2 (by grind); omega
theorem allTo_next {f:Nat->Bool} {i:Nat} (h:allTo i f=true) (hf:f i=true):allTo (i+1) f=true:=by
 show (allTo i f && f i)=true
 rw [h,hf]; rfl
abbrev S2 (b0 b1 o0 o1:Nat) (x0 x1:Value) (W:World):Prop:=W.cell? ⟨b0,o0,none⟩=some x0/\W.cell? ⟨b1,o1,none⟩=some x1
section
variable {b0 b1 o0 o1:Nat} {x0 x1:Value} {W:World}
theorem S2.drew (h:S2 b0 b1 o0 o1 x0 x1 W):S2 b0 b1 o0 o1 x0 x1 W.drew:=h
theorem S2.keep {W':World} (h:S2 b0 b1 o0 o1 x0 x1 W) (hx:XF W W'):S2 b0 b1 o0 o1 x0 x1 W':=⟨cell_keep h.1 hx,cell_keep h.2 hx⟩
end
section
variable {b0 b1 b2 b3 b4 o0 o1 o2 o3 o4:Nat} {x0 x1 x2 x3 x4:Value} {W:World}
end
abbrev S6 (b0 b1 b2 b3 b4 b5 o0 o1 o2 o3 o4 o5:Nat) (x0 x1 x2 x3 x4 x5:Value) (W:World):Prop:=W.cell? ⟨b0,o0,none⟩=some x0/\W.cell? ⟨b1,o1,none⟩=some x1/\W.cell? ⟨b2,o2,none⟩=some x2/\W.cell? ⟨b3,o3,none⟩=some x3/\W.cell? ⟨b4,o4,none⟩=some x4/\W.cell? ⟨b5,o5,none⟩=some x5
section
variable {b0 b1 b2 b3 b4 b5 o0 o1 o2 o3 o4 o5:Nat} {x0 x1 x2 x3 x4 x5:Value} {W:World}
theorem S6.drew (h:S6 b0 b1 b2 b3 b4 b5 o0 o1 o2 o3 o4 o5 x0 x1 x2 x3 x4 x5 W):S6 b0 b1 b2 b3 b4 b5 o0 o1 o2 o3 o4 o5 x0 x1 x2 x3 x4 x5 W.drew:=h
theorem S6.keep {W':World} (h:S6 b0 b1 b2 b3 b4 b5 o0 o1 o2 o3 o4 o5 x0 x1 x2 x3 x4 x5 W) (hx:XF W W'):S6 b0 b1 b2 b3 b4 b5 o0 o1 o2 o3 o4 o5 x0 x1 x2 x3 x4 x5 W':=⟨cell_keep h.1 hx,cell_keep h.2.1 hx,cell_keep h.2.2.1 hx,cell_keep h.2.2.2.1 hx,cell_keep h.2.2.2.2.1 hx,cell_keep h.2.2.2.2.2 hx⟩
end
section
variable {b0 b1 b2 b3 b4 b5 b6 o0 o1 o2 o3 o4 o5 o6:Nat} {x0 x1 x2 x3 x4 x5 x6:Value} {W:World}
end
section
variable {b0 b1 b2 b3 b4 b5 b6 b7 o0 o1 o2 o3 o4 o5 o6 o7:Nat} {x0 x1 x2 x3 x4 x5 x6 x7:Value} {W:World}
end
def BoxV (W:World) (b:Nat) (v:VarV):Prop:=blk W b=some (.cells (cV v).toArray 60 (0,0))
theorem BoxV.facts {W:World} {b:Nat} {v:VarV} (h:BoxV W b v):W.cell? ⟨b,0,none⟩=some (.int .i64 v.lo)/\W.cell? ⟨b,1,none⟩=some (.int .i64 v.up)/\W.cell? ⟨b,2,none⟩=some (.bool v.op)/\W.cell? ⟨b,3,none⟩=some (.bool v.ig)/\W.cell? ⟨b,4,none⟩=some (.int .i64 v.co):=⟨cellq h 0 rfl,cellq h 1 rfl,cellq h 2 rfl,cellq h 3 rfl,cellq h 4 rfl⟩
theorem BoxV.keep {W W':World} {b:Nat} {v:VarV} (h:BoxV W b v) (hx:XF W W'):BoxV W' b v:=blk_keep h hx
theorem BoxV.new (W:World) (v:VarV):BoxV (W.alloc (.cells #[.int .i64 v.lo,.int .i64 v.up,.bool v.op,.bool v.ig,.int .i64 v.co] 60)) W.heap.size v:=blk_alloc_at _ _
section
variable {P:Program} {md:Region.Mode} {l:List Oper} {Q:Exit->Act->World->Prop} {S:World->Prop}
theorem held_take (i:Nat) {oi:Oper} {v:Value} {fuel:Nat} {listed:Array Bool} {a:Act} {w:World} (hi:l[i]?=some oi) (hs:Region.noSelect l.toArray=true) (hf:Region.free md l.toArray listed i=true)
  (hr:(Region.ready md l.toArray listed).contains i=true) (hQ:∀ c a w,Q (.panic c) (a.put oi.dst v) w->Q (.panic c) a w) (hw:Region.wanted oi (yielded l.toArray a.tmps)=true)
  (he:∀ w,S w->(execOp a.eval oi).run P w=.ok (.value v) w) (hS:S w) (h:wpAnyH P md l.toArray Q S fuel (listed.setIfInBounds i true) (a.put oi.dst v) w):wpAnyH P md l.toArray Q S (fuel+1) listed a w :=
 wpAnyH_take (by simpa using hi) hs hf hr hQ (.inl ⟨hw,he⟩) hS h
theorem held_skip (i:Nat) {oi:Oper} {fuel:Nat} {listed:Array Bool} {a:Act} {w:World} (hi:l[i]?=some oi) (hs:Region.noSelect l.toArray=true) (hf:Region.free md l.toArray listed i=true)
  (hr:(Region.ready md l.toArray listed).contains i=true) (hQ:∀ c a w,Q (.panic c) (a.put oi.dst undef) w->Q (.panic c) a w) (hw:Region.wanted oi (yielded l.toArray a.tmps)=false)
  (hS:S w) (h:wpAnyH P md l.toArray Q S fuel (listed.setIfInBounds i true) (a.put oi.dst undef) w):wpAnyH P md l.toArray Q S (fuel+1) listed a w :=
 wpAnyH_take (by simpa using hi) hs hf hr hQ (.inr ⟨hw,rfl⟩) hS h
theorem held_step (i:Nat) {oi:Oper} {fuel:Nat} {listed:Array Bool} {a:Act} {w:World} (hi:l[i]?=some oi) (hr:Region.ready md l.toArray listed=[i])
  (h:∀ K':Act->World->Prop,Shut (∀ a w,S w->(S w->wpAnyH P md l.toArray Q S fuel (listed.setIfInBounds i true) a w)->K' a w)->if Region.wanted oi (yielded l.toArray a.tmps)=true then Oper.wp P oi a w K' Q else K' (a.put oi.dst undef) w) :
  wpAnyH P md l.toArray Q S (fuel+1) listed a w :=
 wpAnyH_ready hr (by simp) (AllReadyH.cons (by simpa using hi) h AllReadyH.nil)
end
section
variable {P:Program} {md:Region.Mode} {ops:Array Oper} {Q:Exit->Act->World->Prop} {S:World->Prop} {k:Nat}
theorem unlisted {i j:Nat} {oj:Oper} {ls:Array Bool} (hr:i ∈ Region.ready md ops ls) (hoj:ops[j]?=some oj) (hj:j ∈ Region.ready md ops ls) (e:Edge) (he:e ∈ oj.after) (hb:Region.binds md e=true):e.on≠i:=fun h=>by
 obtain ⟨_,o,ho,hall⟩:=mem_ready.1 hj
 rw [hoj] at ho; cases ho
 have h1:=hall e he hb
 have h0:=(mem_ready.1 hr).1
 rw [h,Array.getD_eq_getD_getElem?] at h1
 rw [Array.getD_eq_getD_getElem?] at h0
 cases hq:ls[i]? with
 | none=>rw [hq] at h1; simp at h1
 | some x=>rw [hq] at h0 h1; simp at h0 h1; rw [h0] at h1; cases h1
def Apart (md:Region.Mode) (ops:Array Oper) (i:Nat) (oi:Oper) (ls:Array Bool):Prop:=∀ j oj,ops[j]?=some oj->j≠i->ls.getD j true=false->(∀ e ∈ oj.after,Region.binds md e=true->e.on≠i)->oi.apart ops oj=true
theorem Apart.next {i j:Nat} {oi:Oper} {ls:Array Bool} (h:Apart md ops i oi ls) (hj:ls.getD j true=false):Apart md ops i oi (ls.setIfInBounds j true):=fun k ok hk hki hun hno=>by
 refine h k ok hk hki ?_ hno
 by_cases e:j=k
 ·rw [<- e]; exact hj
 ·rw [getD_set_ne true e] at hun; exact hun
end
section
variable {P:Program} {md:Region.Mode} {l:List Oper} {Q:Exit->Act->World->Prop} {S:World->Prop} {k:Nat}
end
section
variable {P:Program} {md:Region.Mode} {l:List Oper} {Q:Exit->Act->World->Prop} {S:World->Prop} {k:Nat}
theorem held_two (i j:Nat) {oi oj:Oper} {fuel:Nat} {listed:Array Bool} {a:Act} {w:World} (hi:l[i]?=some oi) (hj:l[j]?=some oj) (hr:Region.ready md l.toArray listed=[i,j])
  (h1:∀ K':Act->World->Prop,Shut (∀ a w,S w->(S w->wpAnyH P md l.toArray Q S fuel (listed.setIfInBounds i true) a w)->K' a w)->if Region.wanted oi (yielded l.toArray a.tmps)=true then Oper.wp P oi a w K' Q else K' (a.put oi.dst undef) w)
  (h2:∀ K':Act->World->Prop,Shut (∀ a w,S w->(S w->wpAnyH P md l.toArray Q S fuel (listed.setIfInBounds j true) a w)->K' a w)->if Region.wanted oj (yielded l.toArray a.tmps)=true then Oper.wp P oj a w K' Q else K' (a.put oj.dst undef) w) :
  wpAnyH P md l.toArray Q S (fuel+1) listed a w :=
 wpAnyH_ready hr (by simp) (AllReadyH.cons (by simpa using hi) h1 (AllReadyH.cons (by simpa using hj) h2 AllReadyH.nil))
end
section
variable {P:Program} {md:Region.Mode} {l:List Oper} {Q:Exit->Act->World->Prop} {S:World->Prop} {k:Nat}
theorem ht (i:Nat) {oi:Oper} {v:Value} {fuel:Nat} {listed:Array Bool} {a:Act} {w:World} (hi:l[i]?=some oi:=by rfl) (hs:Region.noSelect l.toArray=true:=by kernel_rfl) (hf:Region.free md l.toArray listed i=true:=by kernel_rfl)
  (hr:(Region.ready md l.toArray listed).contains i=true:=by kernel_rfl) (hQ:∀ c a w,Q (.panic c) (a.put oi.dst v) w->Q (.panic c) a w:=by exact fun _ _ _ h=>h) (hw:Region.wanted oi (yielded l.toArray a.tmps)=true:=by rfl)
  (he:∀ w,S w->(execOp a.eval oi).run P w=.ok (.value v) w:=by (intro w hSw; (try go_frame); (try dsimp only at hSw); go_simp) <;> with_reducible rfl) (hS:S w:=by assumption) (h:wpAnyH P md l.toArray Q S fuel (listed.setIfInBounds i true) (a.put oi.dst v) w):wpAnyH P md l.toArray Q S (fuel+1) listed a w :=
 held_take i hi hs hf hr hQ hw he hS h
theorem hst (i:Nat) {oi:Oper} {fuel:Nat} {listed:Array Bool} {a:Act} {w:World} (hi:l[i]?=some oi:=by rfl) (hr:Region.ready md l.toArray listed=[i]:=by kernel_rfl)
  (h:∀ K':Act->World->Prop,Shut (∀ a w,S w->(S w->wpAnyH P md l.toArray Q S fuel (listed.setIfInBounds i true) a w)->K' a w)->if Region.wanted oi (yielded l.toArray a.tmps)=true then Oper.wp P oi a w K' Q else K' (a.put oi.dst undef) w) :
  wpAnyH P md l.toArray Q S (fuel+1) listed a w:=held_step i hi hr h
end
section
variable {w0 W:World}
theorem cq {b i:Nat} {v:Value} (h:w0.cell? ⟨b,i,none⟩=some v):∀ W,XF w0 W->W.cell? ⟨b,i,none⟩=some v:=fun _ hx=>cell_keep h hx
theorem cqo {S:Nat->Prop} {b i:Nat} {v:Value} (h:w0.cell? ⟨b,i,none⟩=some v) (hn:¬ S b):∀ W,Ext S w0 W->W.cell? ⟨b,i,none⟩=some v:=fun _ hx=>(hx.cell (p:=⟨b,i,none⟩) (World.block_lt_of_cell? _ _ h) hn).trans h
end
section
variable {w w':World} {b n:Nat} {f g:Nat->Rat}
end
theorem Tryz.infoRat:(Tryz.prog.info? 49).map (fun i=>(i.zero,i.size,i.bytes))=some (some (.agg #[.bool false,.slice none 0 0,.slice none 0 0]),3,56):=by kernel_rfl
section
variable {b0 b1 b2 b3 b4 b5 b6 b7 b8 o0 o1 o2 o3 o4 o5 o6 o7 o8:Nat} {x0 x1 x2 x3 x4 x5 x6 x7 x8:Value} {W:World}
end
theorem sumTo_sz {g:Nat->Rat} {M:Nat}:∀ {n:Nat},(∀ i,i<n->Sz (g i) M)->Sz (sumTo n g) (1+n*(M+1))
 | 0,_=>Sz.zero.mono (by omega)
 | n+1,h=>by
  have e:1+n*(M+1)+M+1=1+(n+1)*(M+1):=by rw [Nat.succ_mul]; omega
  exact ((sumTo_sz (n:=n) (fun i hi=>h i (by omega))).add (h n (by omega))).mono (Nat.le_of_eq e)
def nv (k:Nat):Value:=.int .i64 (k:Int)
theorem nv_one (k:Nat):∀ u ∈ [Value.int .i64 (k:Int)],u.oneCell'=true:=fun u hu=>by
 rw [List.mem_singleton.1 hu]; rfl
def NOwn (w:World) (base:Nat) (v:Value) (l:List Nat):Prop:=w.ownsRow base 3 1 v l.length (l.map nv)
theorem nown_app {w:World} {base j k:Nat} {v:Value} {o:List Nat} (hlen:o.length=j) (h:w.ownsRow base 3 1 v (j+1) (o.map nv++[.int .i64 (k:Int)])):NOwn w base v (o++[k]):=by
 unfold NOwn
 rw [List.length_append,hlen,List.map_append]
 exact h
theorem NOwn.nil (w:World) (base:Nat):NOwn w base (.slice none 0 0) []:=World.ownsRow_nil w base _ 1
theorem NOwn.keep {w w':World} {base:Nat} {v:Value} {l:List Nat} (h:NOwn w base v l) (hx:XF w w'):NOwn w' base v l:=ownsRow_ext h hx (fun _ _ h=>h)
theorem NOwn.shape {w:World} {base:Nat} {v:Value} {l:List Nat} (h:NOwn w base v l):∃ ao cap,v=.slice ao l.length cap:=ownsRow_shape h
def NumsPost (w:World) (l:List Nat) (r:Ending) (w':World):Prop:=∃ v,r=.returned v/\NOwn w' w.heap.size v l/\XF w w'
theorem Tryz.infoInt:(Tryz.prog.info? 3).map (fun i=>(i.zero,i.size,i.bytes))=some (some (.int .i64 0),1,8):=by kernel_rfl
theorem Rats.take {w:World} {ao:Option Addr} {n c:Nat} {l:List Rat} {L:Nat} (h:Rats w (.slice ao n c) l L) (k:Nat) (hk:k<=n):Rats w (.slice ao k c) (l.take k) L:=by
 obtain ⟨cs,h0,⟨ao',c',e,h1,h2,h3,h4⟩,h5⟩:=h
 cases e
 refine ⟨cs.take k,by simp [h0],⟨ao,c,by rw [List.length_take,Nat.min_eq_left hk],by rw [List.length_take]; omega,h2,h3,fun hp=>?_⟩,fun i c' q hc hq=>?_⟩
 ·rw [List.length_take] at hp
  obtain ⟨b,off,e,hb,hc⟩:=h4 (by omega)
  refine ⟨b,off,e,hb,fun i r hi j u hu=>hc i r ?_ j u hu⟩
  rw [List.getElem?_take] at hi
  split at hi
  ·exact hi
  ·cases hi
 ·rw [List.getElem?_take] at hc hq
  split at hc
  ·rename_i hik
   rw [if_pos hik] at hq
   exact h5 i c' q hc hq
  ·cases hc
theorem clip_any (w w0:World) (pv xv:Value) (p:ProgV) (x:List Rat) (L:Nat) (hp:IsPrg w pv p) (hl:Rats w0 xv x L) :
  Calls Tryz.prog 33 #[pv,xv] w fun r w'=>(∃ v,r=.returned v/\Rats w0 v (clipQ p x) L)/\XF w w':=by
 obtain ⟨vv,rv,rfl,hv,-⟩:=hp
 obtain ⟨vo,vc,rfl,-,hn,-⟩:=hv.shape
 obtain ⟨xo,xc,rfl,hxo,hxn,hxc⟩:=hl.shape
 have HT:=bH (fun k hk=>hl.take k hk)
 have hxc63:xc<=9223372036854775807:=by
  obtain ⟨_,_,⟨_,_,e,_,h,_⟩,_⟩:=hl
  have e3:=(Value.slice.inj e).2.2
  unfold maxLen at h; omega
 unfold clipQ
 clear hv hl
 have HX:=bH ((Ext.refl (fun _=>False) w).alloc (.cells #[.slice vo p.vars.length vc,rv] 25))
 generalize p.vars.length=n at *
 generalize hxl:x.length=xn at *
 have HE:Hid (n<=xn∨x.take n=x.take xn):=bH (by
  by_cases h:n<=xn
  ·exact .inl h
  ·exact .inr (by rw [List.take_of_length_le (by omega),List.take_of_length_le (by omega)]))
 clear hxl
 cases xo with
 | none =>
  have hc0:xc=0:=hxo rfl
  subst hc0
  obtain rfl:xn=0:=by omega
  clear hxo
  go_enter Tryz.func33,Tryz.ntmps33
  go_wp2
  go_ret
  refine ⟨⟨_,rfl,?_⟩,HX.out⟩
  rcases HE.out with h | h
  ·obtain rfl:n=0:=by omega
   exact HT.out 0 (Nat.le_refl _)
  ·rw [h]; exact HT.out 0 (Nat.le_refl _)
 | some a =>
  clear hxo
  by_cases h:n<=xn
  ·have h':(n:Int)<=(xn:Int):=by omega
   have hm:min (xn:Int) (n:Int)=(n:Int):=by omega
   go_enter Tryz.func33,Tryz.ntmps33
   go_wp2
   all_goals
    go_ret
    exact ⟨⟨_,rfl,HT.out n h⟩,HX.out⟩
  ·have h':(xn:Int)<(n:Int):=by omega
   have hm:min (xn:Int) (n:Int)=(xn:Int):=by omega
   have HE':=bH (HE.out.resolve_left h)
   go_enter Tryz.func33,Tryz.ntmps33
   go_wp2
   all_goals
    go_ret
    exact ⟨⟨_,rfl,by rw [HE'.out]; exact HT.out xn (Nat.le_refl _)⟩,HX.out⟩
theorem dot_sz {ts:List TermV} {x:List Rat} {L T:Nat} (ht:∀ k,k<ts.length->TermOk (ts.getD k term0)) (hx:∀ i:Int,Sz (atQ x i) L) (hT:ts.length<=T):Sz (dotQ ts x) (1+T*(L+3)) :=
 (sumTo_sz (M:=L+2) (fun k hk=>((Sz.int (ht k hk).coef).mul (hx _)).mono (by omega))).mono (by
  have:=Nat.mul_le_mul_right (L+3) hT
  show 1+ts.length*(L+3)<=_
  omega)
theorem Rws.term_ok {p:ProgV} {w:World} {v:Value} (h:Rws w v p.rows) {i:Nat} (hi:i<p.rows.length):∀ k,k<(p.r i).terms.length->TermOk ((p.r i).t k):=fun k hk=>by
 obtain ⟨ao,c,rfl,_⟩:=h.shape
 obtain ⟨_,_,_,_,_,_,_,_,_,_,_,_,ht⟩:=h.atp i hi
 exact ht.ok k hk
theorem kind_sign {k:Int} {d b:Rat}:kindB k d b=if k=0 then !decide (0<(d - b).num.sign) else if k=1 then !decide ((d - b).num.sign<0) else decide ((d - b).num.sign=0):=by
 have h1:=sign_lt (d - b)
 have h2:=sign_gt (d - b)
 have h3:=sign_zero (d - b)
 unfold kindB
 split
 ·rw [<- decide_not]; exact decide_eq_decide.2 ⟨fun h h'=>by have:=h2.1 h'; grind,fun h=>Rat.not_lt.1 (fun h'=>h (h2.2 (by grind)))⟩
 ·split
  ·rw [<- decide_not]; exact decide_eq_decide.2 ⟨fun h h'=>by have:=h1.1 h'; grind,fun h=>Rat.not_lt.1 (fun h'=>h (h1.2 (by grind)))⟩
  ·exact decide_eq_decide.2 ⟨fun h=>h3.2 (by grind),fun h=>by have:=h3.1 h; grind⟩
theorem Violated_any (w:World) (pv xv:Value) (p:ProgV) (x:List Rat) (L T:Nat) (hp:IsPrg w pv p) (hy:Rats w xv x L) (h1:1<=L) (hT:∀ i,i<p.rows.length->(p.r i).terms.length<=T) (hL:1+T*(L+3)+(L+3)<=4000000) (hm:p.rows.length<=1000000) :
  Calls Tryz.prog 16 #[pv,xv] w (NumsPost w (violQ p x)):=by
 obtain ⟨ti,hi0⟩:=info_parts Tryz.infoInt
 have Hi:=bH hi0
 clear hi0
 obtain ⟨vv,rv,rfl,hvv,hr⟩:=hp
 obtain ⟨ro,rc,rfl,-,hn,-⟩:=hr.shape
 have HCl:=bH (fun W (hW:XF w W)=>clip_any W w _ xv p x L ⟨vv,_,rfl,hvv.keep hW,hr.keep hW⟩ hy)
 have Hsz:=bH (fun i hi=>dot_sz (x:=clipQ p x) (L:=L) (hr.term_ok hi) (fun j=>(by
  unfold clipQ
  obtain ⟨yo,yc,e,_⟩:=hy.shape
  rw [e] at hy
  by_cases h:p.vars.length<=x.length
  ·exact (hy.take p.vars.length h).sz h1 j
  ·rw [List.take_of_length_le (by omega)]; exact hy.sz h1 j)) (hT i hi))
 have HV:=bH hr
 have HT:=bH hT
 clear hvv hy hT
 obtain ⟨n,hn'⟩:∃ n,p.rows.length=n:=⟨_,rfl⟩
 have HN:=bH hn'
 have hb1:=blk_alloc_at w (.cells #[vv,.slice ro p.rows.length rc] 25)
 have hx1:=(Ext.refl (fun _=>False) w).alloc (.cells #[vv,.slice ro p.rows.length rc] 25)
 have HB:=bH (bI hb1 hx1)
 clear hr hb1 hx1
 rw [hn'] at hn hm HV HB HCl
 unfold violQ
 rw [hn']
 have hvl:∀ i,(violN (fun i=>holdsB (p.r i) (clipQ p x)) i).length<=i:=fun i=>by
  induction i with
  | zero=>exact Nat.le_refl _
  | succ i ih =>
   unfold violN
   split
   ·omega
   ·rw [List.length_append]; simp; exact ih
 have HVL:=bH hvl
 clear hn' hvl
 go_enter Tryz.func16,Tryz.ntmps16
 go_upto_region 1 with fail
 generalize w.alloc (.cells #[vv,.slice ro n rc] 25)=w1 at *
 obtain ⟨pb,hpb⟩:∃ pb,w.heap.size=pb:=⟨_,rfl⟩
 have hpw:w.heap.size<=pb:=Nat.le_of_eq hpb
 rw [hpb] at HB ⊢
 rw [<- hpb]
 rw [hpb]
 clear hpb
 have z0:=cellq HB.out.1 0 rfl
 have z1:=cellq HB.out.1 1 rfl
 go_wp2_with fail
 refine (HCl.out w1 HB.out.2).mono ?_
 rintro r2 w2 ⟨⟨xv2,rfl,hx2v⟩,hx2⟩
 have HX2:=bH (bI hx2v (HB.out.2.trans hx2))
 obtain ⟨zo,zc,rfl,-,-,-⟩:=hx2v.shape
 have z1:=cell_keep z1 hx2
 clear hx2v hx2 HCl z0
 generalize (clipQ p x).length=zn at *
 go_wp2_with fail
 go_loopg [15,5] n (fun gg v15 v5 wr=>∃ (i:Nat) (ov:Value),i<=n/\gg=n - i/\v15=.int .i64 i/\v5=ov/\NOwn wr w.heap.size ov (violN (fun i=>holdsB (p.r i) (clipQ p x)) i)/\XF w wr)
 case atStart=>exact ⟨0,_,Nat.zero_le _,rfl,rfl,rfl,NOwn.nil _ _,HX2.out.2⟩
 case round =>
  clear z1
  obtain ⟨i,ov,hi,rfl,rfl,rfl,ho,hx⟩:=hrel
  have HX:=bH hx
  obtain ⟨ao,cap,rfl⟩:=ho.shape
  have HO:=bH ho
  obtain ⟨ln,hln⟩:∃ ln,(violN (fun i=>holdsB (p.r i) (clipQ p x)) i).length=ln:=⟨_,rfl⟩
  have hlni:ln<=i:=by have:=HVL.out i; omega
  have Hlen:=bH hln
  rw [hln] at HO ⊢
  clear hln ho hx
  by_cases hin:i<n
  ·have i0:(i:Int)<(n:Int):=by omega
   obtain ⟨b,off,ta,tc,rfl,-,e0,e1,e2,e3,e4,hrok,htm⟩:=HV.out.atp i (by rw [HN.out]; exact hin)
   replace e0:=cell_keep e0 HX.out
   replace e1:=cell_keep e1 HX.out
   replace e2:=cell_keep e2 HX.out
   replace e3:=cell_keep e3 HX.out
   replace e4:=cell_keep e4 HX.out
   have HD0:=bH (fun W (hW:XF wr W)=>Dot_any W _ _ _ (clipQ p x) L (htm.keep (HX.out.trans hW)) (HX2.out.1.keep (HX.out.trans hW)) h1 (by
    have h:=HT.out i (by rw [HN.out]; exact hin)
    have:=Nat.mul_le_mul_right (L+3) h
    omega))
   have HszI:=bH (Hsz.out i (by rw [HN.out]; exact hin))
   have HBd:=bH hrok.bound
   have HR0:=bH (show holdsB (p.r i) (clipQ p x)=_ from kind_sign)
   clear htm hrok
   obtain ⟨tl,htl⟩:∃ tl,(p.r i).terms.length=tl:=⟨_,rfl⟩
   rw [htl] at e3 HD0
   clear htl
   obtain ⟨D,hD⟩:∃ D,dotQ (p.r i).terms (clipQ p x)=D:=⟨_,rfl⟩
   rw [hD] at HD0 HszI HR0
   clear hD
   obtain ⟨bd,hbd⟩:∃ bd,(p.r i).bound=bd:=⟨_,rfl⟩
   rw [hbd] at e4 HBd HR0
   clear hbd
   obtain ⟨k,hk⟩:∃ k,(p.r i).kind=k:=⟨_,rfl⟩
   rw [hk] at e2 HR0
   clear hk
   generalize (p.r i).name=nm at *
   generalize (p.r i).group=gr at *
   have hx3:=(Ext.refl (fun _=>False) wr).alloc (.cells #[.string nm,.int .i64 gr,.int .i64 k,.slice ta tl tc,.int .i64 bd] 53)
   have hb3:=blk_alloc_at wr (.cells #[.string nm,.int .i64 gr,.int .i64 k,.slice ta tl tc,.int .i64 bd] 53)
   have HB3:=bH (bI hb3 hx3)
   clear hb3 hx3
   go_upto_region 6 with fail
   obtain ⟨rb,hrb⟩:∃ rb,wr.heap.size=rb:=⟨_,rfl⟩
   rw [hrb] at HB3 ⊢
   generalize wr.alloc (.cells #[.string nm,.int .i64 gr,.int .i64 k,.slice ta tl tc,.int .i64 bd] 53)=w3 at *
   clear e0 e1 e2 e3 e4 hrb
   have hx3:=HB3.out.2
   have HD:=bH (fun W (hW:XF wr W)=>HD0.out W hW)
   have HF:=bH (fun W=>rfrom_any W bd HBd.out.1 HBd.out.2)
   have HC:=bH (fun W u u' (hu:IsRat W u D) (hu':IsRat W u' ((bd:Int):Rat))=>rcmp_any W u u' D _ (1+T*(L+3)+2) (hu.reads (HszI.out.mono (by omega))) (hu'.reads ((Sz.int HBd.out).mono (by omega))) (by omega) (by omega))
   have hS:S2 rb rb 3 4 (.slice ta tl tc) (.int .i64 bd) w3:=⟨cellq HB3.out.1 3 rfl,cellq HB3.out.1 4 rfl⟩
   obtain ⟨sg,hsg⟩:∃ sg,(D - (bd:Rat)).num.sign=sg:=⟨_,rfl⟩
   have HR:=bH (HR0.out.trans (by rw [hsg]))
   rw [hsg] at HC
   generalize (bd:Rat)=bq at *
   clear hsg HR0 HD0
   refine wp_region_held_drew (S:=(S2 rb rb 3 4 (.slice ta tl tc) (.int .i64 bd))) (by kernel_rfl) (hS.drew) (fun hHeld=>?_)
   refine ht 0 (h:=?_)
   (try go_frame)
   refine ht 1 (h:=?_)
   (try go_frame)
   refine ht 2 (h:=?_)
   (try go_frame)
   refine ht 4 (h:=?_)
   (try go_frame)
   refine ht 5 (h:=?_)
   (try go_frame)
   refine held_step 3 rfl (by kernel_rfl) (fun K hK=>?_)
   (go_simp; go_at_call 19; (with_reducible refine (HD.out _ (hx3.drew)).mono ?_); rintro q1 w11 ⟨v11,rfl,h11,hx11⟩; have hX1:=(Ext.refl (fun _=>False) w3).drew.trans hx11; have hK1:=hS.keep hX1; have hC1:=HC.out w11; obtain ⟨n11,a11,l11,c11,a11',l11',c11',rfl⟩:=h11.shape)
   refine hK.out _ _ (hK1) (fun hHeld=>?_)
   clear hK K
   (try go_frame)
   refine held_step 6 rfl (by kernel_rfl) (fun K hK=>?_)
   (go_simp; go_at_call 35; (with_reducible refine (HF.out _).mono ?_); rintro q2 w12 ⟨v12,rfl,h12,hx12⟩; have hX2:=hX1.trans hx12; have hK2:=hS.keep hX2; have hC2:=HC.out w12 _ _ (h11.keep hx12) h12; obtain ⟨n12,a12,l12,c12,a12',l12',c12',rfl⟩:=h12.shape)
   refine hK.out _ _ (hK2) (fun hHeld=>?_)
   clear hK K
   (try go_frame)
   refine held_step 7 rfl (by kernel_rfl) (fun K hK=>?_)
   (go_simp; go_at_call 34; (with_reducible refine hC2.mono ?_); rintro q3 w13 ⟨rfl,hx13⟩; have hX3:=hX2.trans hx13; have hK3:=hS.keep hX3)
   refine hK.out _ _ (hK3) (fun hHeld=>?_)
   clear hK K
   (try go_frame)
   refine ht 8 (h:=?_)
   (try go_frame)
   refine wpAnyH_done (by kernel_rfl) ?_ _
   have HXa:=bH (HX.out.trans (hx3.trans hX3))
   have e2:=cell_keep (cellq HB3.out.1 2 rfl) hX3
   have hok13:NOwn w13 w.heap.size (.slice ao ln cap) (violN (fun i=>holdsB (p.r i) (clipQ p x)) i):=HO.out.keep (hx3.trans hX3)
   have hxa:=(Ext.refl (fun _=>False) w13).alloc (.cells #[.int .i64 (i:Int)] 3)
   have HO1:Hid ((w13.alloc (.cells #[.int .i64 (i:Int)] 3)).ownsRow w.heap.size 3 1 (.slice ao ln cap) ln ((violN (fun i=>holdsB (p.r i) (clipQ p x)) i).map nv)):=bH (by have:=hok13.keep hxa; unfold NOwn at this; rw [Hlen.out] at this; exact this)
   have HGe:=bH (row_ge HO1.out)
   have HOk:=bH hok13
   clear hX1 hX2 hX3 hK1 hK2 hK3 hS h11 h12 hx11 hx12 hx13 hC1 hC2 hx3 HB3 HD HF HC hok13 hxa
   have hcase:(k=0/\0<sg)∨(k=0/\¬ 0<sg)∨(k=1/\sg<0)∨(k=1/\¬ sg<0)∨(¬ k=0/\¬ k=1/\¬ sg=0)∨(¬ k=0/\¬ k=1/\sg=0):=by omega
   rcases hcase with ⟨rfl,hs⟩ | ⟨rfl,hs⟩ | ⟨rfl,hs⟩ | ⟨rfl,hs⟩ | ⟨hk0,hk1,hs⟩ | ⟨hk0,hk1,hs⟩
   ·skip
    go_wp2_with (at_builtin; refine wpList_append_any rfl (.tmp 58) (.tmp 60) 26 rfl w.heap.size 3 ti _ 1 8 Tryz.underlying26 Hi.out.1 Hi.out.2.1 Hi.out.2.2.1 Hi.out.2.2.2 rfl (by decide) _ _ _ rfl HO1.out _ 1 1 (fun e=>by cases e) [.int .i64 (i:Int)] rfl rfl (.inr ⟨_,rfl,cells_new [.int .i64 (i:Int)] _ rfl⟩) (nv_one _) (by simp only [maxLen]; omega) (by omega) (Nat.le_trans HXa.out.size (by simp)) ?_; intro v5 w5 hown5 hgrow5 hat5; have HO:Hid (NOwn w5 w.heap.size v5 (violN (fun i=>holdsB (p.r i) (clipQ p x)) i++[i])):=bH (nown_app Hlen.out hown5); have HX5:Hid (XF w w5):=bH ((HXa.out.alloc (.cells #[.int .i64 (i:Int)] 3)).grown hgrow5 (fun k e h=>absurd (HGe.out k e) (by omega))); clear hown5 hgrow5 hat5)
    go_roundg (n - (i+1))
    case measure=>omega
    case rel=>exact ⟨i+1,v5,by omega,rfl,by go_num,rfl,(by show NOwn w5 w.heap.size v5 (if holdsB (p.r i) (clipQ p x) then _ else _); rw [if_neg (by rw [HR.out]; simp [hs])]; exact HO.out),HX5.out⟩
   ·skip
    go_wp2
    go_roundg (n - (i+1))
    case measure=>omega
    case rel=>exact ⟨i+1,.slice ao ln cap,by omega,rfl,by go_num,rfl,(by show NOwn w13 w.heap.size _ (if holdsB (p.r i) (clipQ p x) then _ else _); rw [if_pos (by rw [HR.out]; simp [hs])]; exact HOk.out),HXa.out⟩
   ·skip
    go_wp2_with (at_builtin; refine wpList_append_any rfl (.tmp 58) (.tmp 60) 26 rfl w.heap.size 3 ti _ 1 8 Tryz.underlying26 Hi.out.1 Hi.out.2.1 Hi.out.2.2.1 Hi.out.2.2.2 rfl (by decide) _ _ _ rfl HO1.out _ 1 1 (fun e=>by cases e) [.int .i64 (i:Int)] rfl rfl (.inr ⟨_,rfl,cells_new [.int .i64 (i:Int)] _ rfl⟩) (nv_one _) (by simp only [maxLen]; omega) (by omega) (Nat.le_trans HXa.out.size (by simp)) ?_; intro v5 w5 hown5 hgrow5 hat5; have HO:Hid (NOwn w5 w.heap.size v5 (violN (fun i=>holdsB (p.r i) (clipQ p x)) i++[i])):=bH (nown_app Hlen.out hown5); have HX5:Hid (XF w w5):=bH ((HXa.out.alloc (.cells #[.int .i64 (i:Int)] 3)).grown hgrow5 (fun k e h=>absurd (HGe.out k e) (by omega))); clear hown5 hgrow5 hat5)
    go_roundg (n - (i+1))
    case measure=>omega
    case rel=>exact ⟨i+1,v5,by omega,rfl,by go_num,rfl,(by show NOwn w5 w.heap.size v5 (if holdsB (p.r i) (clipQ p x) then _ else _); rw [if_neg (by rw [HR.out]; simp [hs])]; exact HO.out),HX5.out⟩
   ·skip
    go_wp2
    go_roundg (n - (i+1))
    case measure=>omega
    case rel=>exact ⟨i+1,.slice ao ln cap,by omega,rfl,by go_num,rfl,(by show NOwn w13 w.heap.size _ (if holdsB (p.r i) (clipQ p x) then _ else _); rw [if_pos (by rw [HR.out]; simp [hs])]; exact HOk.out),HXa.out⟩
   ·have k1:(k == 1)=false:=by simpa using hk1
    have k0:(k == 0)=false:=by simpa using hk0
    have k2:(k != 1)=true:=by simpa using hk1
    have k3:(k != 0)=true:=by simpa using hk0
    have s1:(sg != 0)=true:=by simpa using hs
    have s2:decide (sg=0)=false:=by simpa using hs
    go_wp2_with (at_builtin; refine wpList_append_any rfl (.tmp 58) (.tmp 60) 26 rfl w.heap.size 3 ti _ 1 8 Tryz.underlying26 Hi.out.1 Hi.out.2.1 Hi.out.2.2.1 Hi.out.2.2.2 rfl (by decide) _ _ _ rfl HO1.out _ 1 1 (fun e=>by cases e) [.int .i64 (i:Int)] rfl rfl (.inr ⟨_,rfl,cells_new [.int .i64 (i:Int)] _ rfl⟩) (nv_one _) (by simp only [maxLen]; omega) (by omega) (Nat.le_trans HXa.out.size (by simp)) ?_; intro v5 w5 hown5 hgrow5 hat5; have HO:Hid (NOwn w5 w.heap.size v5 (violN (fun i=>holdsB (p.r i) (clipQ p x)) i++[i])):=bH (nown_app Hlen.out hown5); have HX5:Hid (XF w w5):=bH ((HXa.out.alloc (.cells #[.int .i64 (i:Int)] 3)).grown hgrow5 (fun k e h=>absurd (HGe.out k e) (by omega))); clear hown5 hgrow5 hat5)
    go_roundg (n - (i+1))
    case measure=>omega
    case rel=>exact ⟨i+1,v5,by omega,rfl,by go_num,rfl,(by show NOwn w5 w.heap.size v5 (if holdsB (p.r i) (clipQ p x) then _ else _); rw [if_neg (by rw [HR.out]; simp [hk0,hk1,hs])]; exact HO.out),HX5.out⟩
   ·have k1:(k == 1)=false:=by simpa using hk1
    have k0:(k == 0)=false:=by simpa using hk0
    have k2:(k != 1)=true:=by simpa using hk1
    have k3:(k != 0)=true:=by simpa using hk0
    subst hs
    go_wp2
    go_roundg (n - (i+1))
    case measure=>omega
    case rel=>exact ⟨i+1,.slice ao ln cap,by omega,rfl,by go_num,rfl,(by show NOwn w13 w.heap.size _ (if holdsB (p.r i) (clipQ p x) then _ else _); rw [if_pos (by rw [HR.out]; simp [hk0,hk1])]; exact HOk.out),HXa.out⟩
  ·obtain rfl:i=n:=by omega
   go_wp2
   go_ret
   exact ⟨_,rfl,by have:=HO.out; exact this,HX.out⟩
end Go.Proofs.YtlbjfkdgbhkdcaaGreatDoor
namespace Go.Proofs
open Go.Shelf
def Tryz.laysM246_ren:Go.Shelf.Ren:=⟨fun | 246=>84 | 283=>107 | 284=>108 | 285=>109 | 286=>110 | 129=>98 | 317=>126 | 318=>127 | 319=>128 | 320=>129 | 337=>137 | 338=>138 | n=>n,fun | 2=>2 | 3=>3 | 9=>9 | 4=>4 | 171=>147 | 0=>0 | 53=>103 | 37=>119 | 5=>5 | 173=>149 | 212=>164 | 51=>96 | 20=>20 | 213=>165 | 46=>109 | 232=>184 | 233=>185 | n=>n,fun | 17=>0 | 18=>2 | 19=>3 | n=>n⟩
def Tryz.laysM243_ren:Go.Shelf.Ren:=⟨fun | 243=>65 | 246=>84 | 283=>107 | 284=>108 | 285=>109 | 286=>110 | 129=>98 | 317=>126 | 318=>127 | 319=>128 | 320=>129 | 337=>137 | 338=>138 | n=>n,fun | 3=>3 | 9=>9 | 2=>2 | 4=>4 | 171=>147 | 0=>0 | 53=>103 | 37=>119 | 5=>5 | 173=>149 | 212=>164 | 51=>96 | 20=>20 | 213=>165 | 46=>109 | 232=>184 | 233=>185 | n=>n,fun | 17=>0 | 18=>2 | 19=>3 | n=>n⟩
def Tryz.laysM171_ren:Go.Shelf.Ren:=⟨fun | 171=>43 | 243=>65 | 246=>84 | 283=>107 | 284=>108 | 285=>109 | 286=>110 | 129=>98 | 317=>126 | 318=>127 | 319=>128 | 320=>129 | 337=>137 | 338=>138 | n=>n,fun | 3=>3 | 9=>9 | 2=>2 | 4=>4 | 171=>147 | 0=>0 | 53=>103 | 37=>119 | 5=>5 | 173=>149 | 212=>164 | 51=>96 | 20=>20 | 213=>165 | 46=>109 | 232=>184 | 233=>185 | n=>n,fun | 17=>0 | 18=>2 | 19=>3 | n=>n⟩
theorem Tryz.laysM171:Go.Proofs.LaysM.n171 Tryz.prog Tryz.laysM171_ren:={
 mixed:=by kernel_rfl
 f129:=Tryz.func98.trans (congrArg some (by kernel_rfl))
 f171:=Tryz.func43.trans (congrArg some (by kernel_rfl))
 f243:=Tryz.func65.trans (congrArg some (by kernel_rfl))
 f246:=Tryz.func84.trans (congrArg some (by kernel_rfl))
 f283:=Tryz.func107.trans (congrArg some (by kernel_rfl))
 f284:=Tryz.func108.trans (congrArg some (by kernel_rfl))
 f285:=Tryz.func109.trans (congrArg some (by kernel_rfl))
 f286:=Tryz.func110.trans (congrArg some (by kernel_rfl))
 f317:=Tryz.func126.trans (congrArg some (by kernel_rfl))
 f318:=Tryz.func127.trans (congrArg some (by kernel_rfl))
 f319:=Tryz.func128.trans (congrArg some (by kernel_rfl))
 f320:=Tryz.func129.trans (congrArg some (by kernel_rfl))
 f337:=Tryz.func137.trans (congrArg some (by kernel_rfl))
 f338:=Tryz.func138.trans (congrArg some (by kernel_rfl))
 t0:=Tryz.underlying0
 a0:=Tryz.isAgg0
 z0:=Tryz.sizeOf0
 v0:=Tryz.zeroValue0
 t2:=Tryz.underlying2
 a2:=Tryz.isAgg2
 z2:=Tryz.sizeOf2
 v2:=Tryz.zeroValue2
 t3:=Tryz.underlying3
 a3:=Tryz.isAgg3
 z3:=Tryz.sizeOf3
 v3:=Tryz.zeroValue3
 t4:=Tryz.underlying4
 a4:=Tryz.isAgg4
 z4:=Tryz.sizeOf4
 v4:=Tryz.zeroValue4
 t5:=Tryz.underlying5
 a5:=Tryz.isAgg5
 z5:=Tryz.sizeOf5
 v5:=Tryz.zeroValue5
 t9:=Tryz.underlying9
 a9:=Tryz.isAgg9
 z9:=Tryz.sizeOf9
 v9:=Tryz.zeroValue9
 t20:=Tryz.underlying20
 a20:=Tryz.isAgg20
 z20:=Tryz.sizeOf20
 v20:=Tryz.zeroValue20
 t37:=Tryz.underlying119
 a37:=Tryz.isAgg119
 z37:=Tryz.sizeOf119
 v37:=Tryz.zeroValue119
 t46:=Tryz.underlying109
 a46:=Tryz.isAgg109
 z46:=Tryz.sizeOf109
 v46:=Tryz.zeroValue109
 t51:=Tryz.underlying96
 a51:=Tryz.isAgg96
 z51:=Tryz.sizeOf96
 v51:=Tryz.zeroValue96
 t53:=Tryz.underlying103
 a53:=Tryz.isAgg103
 z53:=Tryz.sizeOf103
 v53:=Tryz.zeroValue103
 t171:=Tryz.underlying147
 a171:=Tryz.isAgg147
 z171:=Tryz.sizeOf147
 v171:=Tryz.zeroValue147
 t173:=Tryz.underlying149
 a173:=Tryz.isAgg149
 z173:=Tryz.sizeOf149
 v173:=Tryz.zeroValue149
 t212:=Tryz.underlying164
 a212:=Tryz.isAgg164
 z212:=Tryz.sizeOf164
 v212:=Tryz.zeroValue164
 t213:=Tryz.underlying165
 a213:=Tryz.isAgg165
 z213:=Tryz.sizeOf165
 t232:=Tryz.underlying184
 a232:=Tryz.isAgg184
 z232:=Tryz.sizeOf184
 v232:=Tryz.zeroValue184
 t233:=Tryz.underlying185
 a233:=Tryz.isAgg185
 z233:=Tryz.sizeOf185
 v233:=Tryz.zeroValue185
 g17:=by kernel_rfl
 g18:=by kernel_rfl
 g19:=by kernel_rfl
 i0:=by kernel_rfl
 i2:=by kernel_rfl
 i3:=by kernel_rfl
 i4:=by kernel_rfl
 i5:=by kernel_rfl
 i9:=by kernel_rfl
 i20:=by kernel_rfl
 i37:=by kernel_rfl
 i46:=by kernel_rfl
 i51:=by kernel_rfl
 i53:=by kernel_rfl
 i171:=by kernel_rfl
 i173:=by kernel_rfl
 i212:=by kernel_rfl
 i232:=by kernel_rfl
 i233:=by kernel_rfl
 m17:=by kernel_rfl
 m18:=by kernel_rfl
 m19:=by kernel_rfl }
open Go.RowKit Go.Sort Go.Lib in
theorem Tryz.strconv_Itoa (n:Int) (h0:-9223372036854775808<=n) (h1:n<=9223372036854775807) (w:World) (htab:Lib.TabIs Tryz.prog w "internal/strconv.uint64pow10" .u64 Lib.pow10Tab) :
  Calls Tryz.prog 43 #[.int .i64 n] w fun e w'=>e=.returned (.string ⟨(Lib.itoa n).toArray⟩)/\∃ k os,w'=grow (w.drewN k) os:=Any.strconv_Itoa Tryz.laysM171 n h0 h1 w htab
def Tryz.laysM173_ren:Go.Shelf.Ren:=⟨fun | 173=>64 | 246=>84 | 283=>107 | 284=>108 | 285=>109 | 286=>110 | 129=>98 | 317=>126 | 318=>127 | 319=>128 | 320=>129 | 337=>137 | 338=>138 | n=>n,fun | 2=>2 | 3=>3 | 9=>9 | 4=>4 | 171=>147 | 0=>0 | 53=>103 | 37=>119 | 5=>5 | 173=>149 | 212=>164 | 51=>96 | 20=>20 | 213=>165 | 46=>109 | 232=>184 | 233=>185 | n=>n,fun | 17=>0 | 18=>2 | 19=>3 | n=>n⟩
theorem Tryz.laysM173:Go.Proofs.LaysM.n173 Tryz.prog Tryz.laysM173_ren:={
 mixed:=by kernel_rfl
 f129:=Tryz.func98.trans (congrArg some (by kernel_rfl))
 f173:=Tryz.func64.trans (congrArg some (by kernel_rfl))
 f246:=Tryz.func84.trans (congrArg some (by kernel_rfl))
 f283:=Tryz.func107.trans (congrArg some (by kernel_rfl))
 f284:=Tryz.func108.trans (congrArg some (by kernel_rfl))
 f285:=Tryz.func109.trans (congrArg some (by kernel_rfl))
 f286:=Tryz.func110.trans (congrArg some (by kernel_rfl))
 f317:=Tryz.func126.trans (congrArg some (by kernel_rfl))
 f318:=Tryz.func127.trans (congrArg some (by kernel_rfl))
 f319:=Tryz.func128.trans (congrArg some (by kernel_rfl))
 f320:=Tryz.func129.trans (congrArg some (by kernel_rfl))
 f337:=Tryz.func137.trans (congrArg some (by kernel_rfl))
 f338:=Tryz.func138.trans (congrArg some (by kernel_rfl))
 t0:=Tryz.underlying0
 a0:=Tryz.isAgg0
 z0:=Tryz.sizeOf0
 v0:=Tryz.zeroValue0
 t2:=Tryz.underlying2
 a2:=Tryz.isAgg2
 z2:=Tryz.sizeOf2
 v2:=Tryz.zeroValue2
 t3:=Tryz.underlying3
 a3:=Tryz.isAgg3
 z3:=Tryz.sizeOf3
 v3:=Tryz.zeroValue3
 t4:=Tryz.underlying4
 a4:=Tryz.isAgg4
 z4:=Tryz.sizeOf4
 v4:=Tryz.zeroValue4
 t5:=Tryz.underlying5
 a5:=Tryz.isAgg5
 z5:=Tryz.sizeOf5
 v5:=Tryz.zeroValue5
 t9:=Tryz.underlying9
 a9:=Tryz.isAgg9
 z9:=Tryz.sizeOf9
 v9:=Tryz.zeroValue9
 t20:=Tryz.underlying20
 a20:=Tryz.isAgg20
 z20:=Tryz.sizeOf20
 v20:=Tryz.zeroValue20
 t37:=Tryz.underlying119
 a37:=Tryz.isAgg119
 z37:=Tryz.sizeOf119
 v37:=Tryz.zeroValue119
 t46:=Tryz.underlying109
 a46:=Tryz.isAgg109
 z46:=Tryz.sizeOf109
 v46:=Tryz.zeroValue109
 t51:=Tryz.underlying96
 a51:=Tryz.isAgg96
 z51:=Tryz.sizeOf96
 v51:=Tryz.zeroValue96
 t53:=Tryz.underlying103
 a53:=Tryz.isAgg103
 z53:=Tryz.sizeOf103
 v53:=Tryz.zeroValue103
 t171:=Tryz.underlying147
 a171:=Tryz.isAgg147
 z171:=Tryz.sizeOf147
 v171:=Tryz.zeroValue147
 t173:=Tryz.underlying149
 a173:=Tryz.isAgg149
 z173:=Tryz.sizeOf149
 v173:=Tryz.zeroValue149
 t212:=Tryz.underlying164
 a212:=Tryz.isAgg164
 z212:=Tryz.sizeOf164
 v212:=Tryz.zeroValue164
 t213:=Tryz.underlying165
 a213:=Tryz.isAgg165
 z213:=Tryz.sizeOf165
 t232:=Tryz.underlying184
 a232:=Tryz.isAgg184
 z232:=Tryz.sizeOf184
 v232:=Tryz.zeroValue184
 t233:=Tryz.underlying185
 a233:=Tryz.isAgg185
 z233:=Tryz.sizeOf185
 v233:=Tryz.zeroValue185
 g17:=by kernel_rfl
 g18:=by kernel_rfl
 g19:=by kernel_rfl
 i0:=by kernel_rfl
 i2:=by kernel_rfl
 i3:=by kernel_rfl
 i4:=by kernel_rfl
 i5:=by kernel_rfl
 i9:=by kernel_rfl
 i20:=by kernel_rfl
 i37:=by kernel_rfl
 i46:=by kernel_rfl
 i51:=by kernel_rfl
 i53:=by kernel_rfl
 i171:=by kernel_rfl
 i173:=by kernel_rfl
 i212:=by kernel_rfl
 i232:=by kernel_rfl
 i233:=by kernel_rfl
 m17:=by kernel_rfl
 m18:=by kernel_rfl
 m19:=by kernel_rfl }
open Go.RowKit Go.Sort Go.Lib in
theorem Tryz.strconv_FormatInt_10 (n:Int) (h0:-9223372036854775808<=n) (h1:n<=9223372036854775807) (w:World) (htab:Lib.TabIs Tryz.prog w "internal/strconv.uint64pow10" .u64 Lib.pow10Tab) :
  Calls Tryz.prog 64 #[.int .i64 n,.int .i64 10] w fun e w'=>e=.returned (.string ⟨(Lib.itoa n).toArray⟩)/\∃ k os,w'=grow (w.drewN k) os:=Any.strconv_FormatInt_10 Tryz.laysM173 n h0 h1 w htab
def Tryz.laysGw17_ren:Go.Shelf.Ren:=⟨fun | 17=>52 | 15=>71 | 20=>99 | n=>n,fun | 9=>9 | 23=>92 | 4=>4 | 3=>3 | 0=>0 | 21=>21 | n=>n,fun | n=>n⟩
theorem Tryz.laysGw17:Go.Proofs.LaysGw.n17 Tryz.prog Tryz.laysGw17_ren:={
 mixed:=by kernel_rfl
 f15:=Tryz.func71.trans (congrArg some (by kernel_rfl))
 f17:=Tryz.func52.trans (congrArg some (by kernel_rfl))
 f20:=Tryz.func99.trans (congrArg some (by kernel_rfl))
 t0:=Tryz.underlying0
 a0:=Tryz.isAgg0
 z0:=Tryz.sizeOf0
 v0:=Tryz.zeroValue0
 i0:=by kernel_rfl
 t3:=Tryz.underlying3
 a3:=Tryz.isAgg3
 z3:=Tryz.sizeOf3
 v3:=Tryz.zeroValue3
 i3:=by kernel_rfl
 t4:=Tryz.underlying4
 a4:=Tryz.isAgg4
 z4:=Tryz.sizeOf4
 v4:=Tryz.zeroValue4
 i4:=by kernel_rfl
 t9:=Tryz.underlying9
 a9:=Tryz.isAgg9
 z9:=Tryz.sizeOf9
 v9:=Tryz.zeroValue9
 i9:=by kernel_rfl
 t21:=Tryz.underlying21
 a21:=Tryz.isAgg21
 z21:=Tryz.sizeOf21
 v21:=Tryz.zeroValue21
 i21:=by kernel_rfl
 t23:=Tryz.underlying92
 a23:=Tryz.isAgg92
 z23:=Tryz.sizeOf92
 v23:=Tryz.zeroValue92
 i23:=by kernel_rfl }
open Go.RowKit Go.Lib in
theorem Tryz.strings_ContainsFunc (g:Nat) (lb:Array Value) (eg:∀ args w,(callFunc g args).run Tryz.prog w=.ok (.enter g args) w) (p:Nat->Bool) (s:ByteArray) (w:World) (hp:PredAt Tryz.prog g lb encR p w) :
  Calls Tryz.prog 52 #[.string s,.func (.func g) #[] lb] w fun e w'=>e=.returned (.bool (decide (0<=Lib.idxFunc p true s)))/\Below w.heap.size w w':=Any.strings_ContainsFunc Tryz.laysGw17 g lb eg p s w hp
def Tryz.laysSlH8_f49_ren:Go.Shelf.Ren:=⟨fun | 8=>49 | 6=>70 | n=>n,fun | 22=>39 | 23=>2 | 25=>89 | 4=>4 | 3=>3 | 0=>0 | n=>n,fun | n=>n⟩
theorem Tryz.laysSlH8_f49:Go.Proofs.SlLaysH.n8 Tryz.prog Tryz.laysSlH8_f49_ren:={
 mixed:=by kernel_rfl
 f6:=⟨Tryz.f70.name,by decide,Tryz.func70.trans (congrArg some (by kernel_rfl))⟩
 f8:=⟨Tryz.f49.name,by decide,Tryz.func49.trans (congrArg some (by kernel_rfl))⟩
 t0:=Tryz.underlying0
 a0:=Tryz.isAgg0
 z0:=Tryz.sizeOf0
 v0:=Tryz.zeroValue0
 t3:=Tryz.underlying3
 a3:=Tryz.isAgg3
 z3:=Tryz.sizeOf3
 v3:=Tryz.zeroValue3
 t4:=Tryz.underlying4
 a4:=Tryz.isAgg4
 z4:=Tryz.sizeOf4
 v4:=Tryz.zeroValue4
 t22:=Tryz.underlying39
 a22:=Tryz.isAgg39
 z22:=Tryz.sizeOf39
 v22:=Tryz.zeroValue39
 a23:=Tryz.isAgg2
 z23:=Tryz.sizeOf2
 t25:=Tryz.underlying89
 a25:=Tryz.isAgg89
 z25:=Tryz.sizeOf89
 v25:=Tryz.zeroValue89 }
open Go.RowKit Go.Lib in
theorem Tryz.slices_ContainsFunc {α:Type} [Inhabited α] (enc:α->Value) (p:α->Bool) (g:Nat) (lb:Array Value) (eg:∀ args w,(callFunc g args).run Tryz.prog w=.ok (.enter g args) w) (b off n c:Nat) (zs:List α) (w:World) (hp:PredAt Tryz.prog g lb enc p w) (hz:n<=zs.length) (hbig:n<=9223372036854775807) (hc:∀ j,j<zs.length->w.cell? ⟨b,off+j,none⟩=some (enc zs[j]!)) :
  Calls Tryz.prog 49 #[.slice (some ⟨b,off,none⟩) n c,.func (.func g) #[] lb] w fun e w'=>e=.returned (.bool ((zs.take n).any p))/\∃ q,w'=w.drewN q:=AnyE.slices_ContainsFunc Tryz.laysSlH8_f49 enc p g lb eg b off n c zs w hp hz hbig hc
def Tryz.laysRow8_ren:Go.Shelf.Ren:=⟨fun | 8=>30 | 6=>51 | n=>n,fun | 22=>23 | 23=>53 | 25=>73 | 4=>4 | 3=>3 | 0=>0 | n=>n,fun | n=>n⟩
theorem Tryz.laysRow8:Go.Proofs.SlLaysH0.n8 Tryz.prog Tryz.laysRow8_ren:={
 mixed:=by kernel_rfl
 f6:=⟨Tryz.f51.name,by decide,Tryz.func51.trans (congrArg some (by kernel_rfl))⟩
 f8:=⟨Tryz.f30.name,by decide,Tryz.func30.trans (congrArg some (by kernel_rfl))⟩
 t0:=Tryz.underlying0
 a0:=Tryz.isAgg0
 z0:=Tryz.sizeOf0
 v0:=Tryz.zeroValue0
 t3:=Tryz.underlying3
 a3:=Tryz.isAgg3
 z3:=Tryz.sizeOf3
 v3:=Tryz.zeroValue3
 t4:=Tryz.underlying4
 a4:=Tryz.isAgg4
 z4:=Tryz.sizeOf4
 v4:=Tryz.zeroValue4
 t22:=Tryz.underlying23
 a22:=Tryz.isAgg23
 z22:=Tryz.sizeOf23
 v22:=Tryz.zeroValue23
 t25:=Tryz.underlying73
 a25:=Tryz.isAgg73
 z25:=Tryz.sizeOf73
 v25:=Tryz.zeroValue73 }
end Go.Proofs
namespace Go.Proofs.YtlbjfkdgbhkdcaaGreatDoor
open Go.RowKit Go.MapKept
open Go.ChangeMaps (setBlock)
open Go.RowKit Go.MapKept Go.Lib
theorem Below.ext {w w':World} (h:Below w.heap.size w w'):XF w w':=⟨h.os,h.tape,h.output,h.size,fun k hk _=>h.block k hk⟩
theorem limited1_pred (w:World):PredAt Tryz.prog 50 #[] (fun z:Int=>Value.int .i64 z) (fun z=>!limB z) w:=fun W z _=>by
 unfold FnGives limB
 by_cases h1:z < -1099511627776
 ·go_enter Tryz.func50,Tryz.ntmps50
  go_wp2
  go_ret
  exact ⟨ret_bool (by first | rfl | (simp; done) | (simp; omega) | omega),0,rfl⟩
 ·by_cases h2:1099511627776<z
  ·go_enter Tryz.func50,Tryz.ntmps50
   go_wp2
   go_ret
   exact ⟨ret_bool (by first | rfl | (simp; done) | (simp; omega) | omega),0,rfl⟩
  ·go_enter Tryz.func50,Tryz.ntmps50
   go_wp2
   go_ret
   exact ⟨ret_bool (by first | rfl | (simp; done) | (simp; omega) | omega),0,rfl⟩
theorem any_not_all {α:Type} (f:α->Bool):∀ l:List α,(!l.any fun z=>!f z)=l.all f
 | []=>rfl
 | a :: l=>by
  rw [List.any_cons,List.all_cons,<- any_not_all f l]
  cases f a <;> cases (l.any fun z=>!f z) <;> rfl
theorem limited_any (w:World) (b off c:Nat) (l:List Int) (hl:l.length<=9223372036854775807) (hc:∀ j z,l[j]?=some z->w.cell? ⟨b,off+j,none⟩=some (.int .i64 z)) :
  Calls Tryz.prog 29 #[.slice (some ⟨b,off,none⟩) l.length c] w (BoolPost w (l.all limB)):=by
 have hq:=Tryz.slices_ContainsFunc (fun z:Int=>Value.int .i64 z) (fun z=>!limB z) 50 #[] (enters_of Tryz.func50 (by kernel_rfl) rfl) b off l.length c l w (limited1_pred w) (Nat.le_refl _) hl (fun j hj=>(by
  rw [getElem!_pos l j hj]
  exact hc j _ (List.getElem?_eq_getElem hj)))
 rw [List.take_length] at hq
 have ha:=any_not_all limB l
 generalize (l.any fun z=>!limB z)=x at *
 have HQ:=bH hq
 have HA:=bH ha
 clear hq ha hc
 generalize l.all limB=y at *
 generalize l.length=n at *
 go_enter Tryz.func29,Tryz.ntmps29
 go_wp2_with (go_at_call 49; refine HQ.out.mono ?_; rintro e w' ⟨rfl,q,rfl⟩)
 go_ret
 exact ⟨ret_bool HA.out,(Ext.refl _ w).drewN q⟩
theorem name1_pred (w:World):PredAt Tryz.prog 53 #[] encR (fun r=>decide (r<32) || decide (126<r)) w:=fun W z _=>by
 unfold FnGives
 show Calls Tryz.prog 53 #[.int .i32 (z:Int)] W _
 by_cases h1:z<32
 ·have h1':(z:Int)<32:=by omega
  go_enter Tryz.func53,Tryz.ntmps53
  go_wp2
  go_ret
  exact ⟨ret_bool (by first | rfl | (simp; done) | (simp; omega) | omega),0,rfl⟩
 ·have h1':¬ (z:Int)<32:=by omega
  by_cases h2:126<z
  ·have h2':(126:Int)<z:=by omega
   go_enter Tryz.func53,Tryz.ntmps53
   go_wp2
   go_ret
   exact ⟨ret_bool (by first | rfl | (simp; done) | (simp; omega) | omega),0,rfl⟩
  ·have h2':¬ (126:Int)<z:=by omega
   go_enter Tryz.func53,Tryz.ntmps53
   go_wp2
   go_ret
   exact ⟨ret_bool (by first | rfl | (simp; done) | (simp; omega) | omega),0,rfl⟩
def badR (r:Nat):Bool:=decide (r<32) || decide (126<r)
theorem idx_bad (s:ByteArray):∀ (f pos:Nat),s.size<=pos+f->(0<=idxFuncFrom badR true s f pos↔∃ i,pos<=i/\∃ h:i<s.size,badR (s[i]'h).toNat=true)
 | 0,pos,h=>by
  unfold idxFuncFrom
  constructor
  ·intro h1; omega
  ·rintro ⟨i,h1,h2,_⟩; omega
 | f+1,pos,h=>by
  unfold idxFuncFrom
  by_cases hp:pos<s.size
  ·rw [if_pos hp]
   by_cases ha:(s[pos]'hp).toNat<128
   ·rw [decode_ascii s pos hp ha]
    by_cases hb:badR (s[pos]'hp).toNat=true
    ·rw [if_pos hb]
     exact ⟨fun _=>⟨pos,Nat.le_refl _,hp,hb⟩,fun _=>by omega⟩
    ·rw [if_neg hb,idx_bad s f (pos+1) (by omega)]
     constructor
     ·rintro ⟨i,h1,h2⟩; exact ⟨i,by omega,h2⟩
     ·rintro ⟨i,h1,h2,h3⟩
      refine ⟨i,?_,h2,h3⟩
      rcases Nat.lt_or_ge pos i with h4 | h4
      ·omega
      ·obtain rfl:i=pos:=by omega
       exact absurd h3 hb
   ·have hd:=(decode_high s pos hp (by omega)).1
    have hb:badR (Utf8.decode s pos).1=true:=by unfold badR; rw [decide_eq_true (p:=(126<_)) (by omega)]; simp
    rw [if_pos hb]
    refine ⟨fun _=>⟨pos,Nat.le_refl _,hp,?_⟩,fun _=>by omega⟩
    unfold badR
    rw [decide_eq_true (p:=(126<(s[pos]'hp).toNat)) (by omega)]; simp
  ·rw [if_neg hp]
   constructor
   ·intro h1; omega
   ·rintro ⟨i,h1,h2,_⟩; omega
theorem name_idx (s:ByteArray):(!decide (0<=idxFunc badR true s))=nameB s:=by
 have h:=idx_bad s s.size 0 (by omega)
 have hl:s.toList=s.data.toList:=ByteArray.toList_eq s
 cases hq:nameB s with
 | true =>
  rw [decide_eq_false]; rfl
  intro h0
  obtain ⟨i,_,hi,hb⟩:=h.1 h0
  unfold nameB at hq
  rw [hl,List.all_eq_true] at hq
  have:=hq (s[i]'hi) (by
   show s.data[i] ∈ s.data.toList
   simp)
  unfold badR at hb
  simp only [Bool.and_eq_true,Bool.or_eq_true,decide_eq_true_eq] at this hb
  omega
 | false =>
  rw [decide_eq_true]; rfl
  refine h.2 ?_
  unfold nameB at hq
  rw [hl,List.all_eq_false] at hq
  obtain ⟨x,hx,hb⟩:=hq
  obtain ⟨i,hi,rfl⟩:=List.getElem_of_mem hx
  have hi':i<s.size:=by rw [Array.length_toList] at hi; exact hi
  refine ⟨i,Nat.zero_le _,hi',?_⟩
  unfold badR
  simp only [Bool.and_eq_true,decide_eq_true_eq,Bool.or_eq_true] at hb ⊢
  have e:s[i]'hi'=s.data.toList[i]:=by
   show s.data[i]=_
   rw [Array.getElem_toList]
  rw [e]
  omega
open Go.RowKit Go.MapKept Go.Lib
theorem limited_one (w:World) (z:Int) (c:Nat):Calls Tryz.prog 29 #[.slice (some ⟨w.heap.size,0,none⟩) 1 c] (w.alloc (.cells #[.int .i64 z] 2)) (BoolPost (w.alloc (.cells #[.int .i64 z] 2)) (limB z)):=by
 have h:=limited_any (w.alloc (.cells #[.int .i64 z] 2)) w.heap.size 0 c [z] (by simp) (fun j u hj=>by
  have:=cells_new (w:=w) [Value.int .i64 z] 2 rfl j (.int .i64 u) (by
   match j,hj with
   | 0,hj=>cases hj; rfl
   | j+1,hj=>simp at hj)
  simpa [Addr.add_lit] using this)
 simpa using h
theorem name_any (w:World) (s:ByteArray):Calls Tryz.prog 52 #[.string s,.func (.func 53) #[] #[]] w fun r w'=>r=.returned (.bool (!nameB s))/\XF w w':=by
 refine (Tryz.strings_ContainsFunc 53 #[] (enters_of Tryz.func53 (by kernel_rfl) rfl) _ s w (name1_pred w)).mono ?_
 rintro r w' ⟨rfl,hb⟩
 refine ⟨ret_bool ?_,Below.ext hb⟩
 have:=name_idx s
 unfold badR at this
 rw [<- this,Bool.not_not]
theorem termsB_cons (n last:Int) (t:TermV) (l:List TermV):termsB n last (t :: l)=(decide (last<t.var) && decide (t.var<n) && !decide (t.coef=0) && limB t.coef && termsB n t.var l):=rfl
theorem validRow_any (w:World) (vars:Nat) (hv:vars<=9223372036854775807) (r:RowV) (ta:Option Addr) (tc:Nat) (hok:RowOk r) (ht:Tms w (.slice ta r.terms.length tc) r.terms) :
  Calls Tryz.prog 32 #[.int .i64 vars,.agg #[.string r.name,.int .i64 r.group,.int .i64 r.kind,.slice ta r.terms.length tc,.int .i64 r.bound]] w (BoolPost w (rowB vars r)):=by
 have hns:r.name.size<=9223372036854775807:=by have:=hok.name; unfold maxLen at this; omega
 have hg:=hok.group
 have hk:=hok.kind
 unfold InR at hg hk
 obtain ⟨-,-,-,-,htn,-⟩:=ht.shape
 have HT:=bH ht
 have HR:=bH (show rowB vars r=(decide (0<=r.kind) && decide (r.kind<=2) && decide (0<=r.group) && decide (r.group<=60) && decide (r.name.size<=80) && limB r.bound && nameB r.name && termsB vars (-1) r.terms) from rfl)
 have hb1:=blk_alloc_at w (.cells #[.string r.name,.int .i64 r.group,.int .i64 r.kind,.slice ta r.terms.length tc,.int .i64 r.bound] 53)
 have hx1:=(Ext.refl (fun _=>False) w).alloc (.cells #[.string r.name,.int .i64 r.group,.int .i64 r.kind,.slice ta r.terms.length tc,.int .i64 r.bound] 53)
 have HB:=bH (bI hb1 hx1)
 clear ht hok hb1 hx1
 obtain ⟨tl,htl⟩:∃ tl,r.terms.length=tl:=⟨_,rfl⟩
 have HTL:=bH htl
 rw [htl] at htn HT HB ⊢
 clear htl
 obtain ⟨gr,hgr⟩:∃ gr,r.group=gr:=⟨_,rfl⟩
 rw [hgr] at hg HR HB ⊢
 clear hgr
 obtain ⟨kd,hkd⟩:∃ kd,r.kind=kd:=⟨_,rfl⟩
 rw [hkd] at hk HR HB ⊢
 clear hkd
 obtain ⟨bd,hbd⟩:∃ bd,r.bound=bd:=⟨_,rfl⟩
 rw [hbd] at HR HB ⊢
 clear hbd
 obtain ⟨nm,hnm⟩:∃ nm,r.name=nm:=⟨_,rfl⟩
 rw [hnm] at hns HR HB ⊢
 clear hnm
 go_enter Tryz.func32,Tryz.ntmps32
 go_upto_region 1 with fail
 generalize hw1:w.alloc (.cells #[.string nm,.int .i64 gr,.int .i64 kd,.slice ta tl tc,.int .i64 bd] 53)=w1 at *
 clear hw1
 obtain ⟨rb,hrb⟩:∃ rb,w.heap.size=rb:=⟨_,rfl⟩
 rw [hrb] at HB ⊢
 clear hrb
 have e0:=cellq HB.out.1 0 rfl
 have e1:=cellq HB.out.1 1 rfl
 have e2:=cellq HB.out.1 2 rfl
 have e3:=cellq HB.out.1 3 rfl
 have e4:=cellq HB.out.1 4 rfl
 by_cases c1:80<nm.size
 ·have c1':(80:Int)<(nm.size:Int):=by omega
  go_wp2
  go_ret
  exact ⟨ret_bool (by rw [HR.out,decide_eq_false (p:=(nm.size<=80)) (by omega)]; simp),HB.out.2⟩
 have c1':¬ (80:Int)<(nm.size:Int):=by omega
 by_cases c2:gr<0
 ·go_wp2
  go_ret
  exact ⟨ret_bool (by rw [HR.out,decide_eq_false (p:=(0<=gr)) (by omega)]; simp),HB.out.2⟩
 by_cases c3:60<gr
 ·go_wp2
  go_ret
  exact ⟨ret_bool (by rw [HR.out,decide_eq_false (p:=(gr<=60)) (by omega)]; simp),HB.out.2⟩
 by_cases c4:kd<0
 ·go_wp2
  go_ret
  exact ⟨ret_bool (by rw [HR.out,decide_eq_false (p:=(0<=kd)) (by omega)]; simp),HB.out.2⟩
 by_cases c5:2<kd
 ·go_wp2
  go_ret
  exact ⟨ret_bool (by rw [HR.out,decide_eq_false (p:=(kd<=2)) (by omega)]; simp),HB.out.2⟩
 have HL:=bH (fun W (z:Int) c=>limited_one W z c)
 have HN:=bH (fun W=>name_any W nm)
 have HR2:Hid (rowB vars r=(limB bd && nameB nm && termsB vars (-1) r.terms)):=bH (by
  rw [HR.out,decide_eq_true (p:=(0<=kd)) (by omega),decide_eq_true (p:=(kd<=2)) (by omega),decide_eq_true (p:=(0<=gr)) (by omega),decide_eq_true (p:=(gr<=60)) (by omega),decide_eq_true (p:=(nm.size<=80)) (by omega)]
  simp)
 clear HR
 go_wp2_with fail
 refine (HL.out w1 bd _).mono ?_
 rintro r2 w2 ⟨rfl,hx2⟩
 have hx12:=((Ext.refl (fun _=>False) w1).alloc (.cells #[.int .i64 bd] 2)).trans hx2
 have HB2:=bH (bI (blk_keep HB.out.1 hx12) (HB.out.2.trans hx12))
 clear hx2 hx12 HB e0 e1 e2 e3 e4
 cases hlb:limB bd with
 | false =>
  rw [hlb] at HR2
  clear hlb
  go_wp2
  go_ret
  exact ⟨ret_bool (by rw [HR2.out]; rfl),HB2.out.2⟩
 | true =>
  rw [hlb] at HR2
  clear hlb
  have e3:=cellq HB2.out.1 3 rfl
  go_wp2_with fail
  go_loopg [42,5] tl (fun gg v42 v5 wr=>∃ (k:Nat) (la:Int),k<=tl/\gg=tl - k/\v42=.int .i64 k/\v5=.int .i64 la∧-9223372036854775808<=la/\la<=9223372036854775807/\termsB vars (-1) r.terms=termsB vars la (r.terms.drop k)/\XF w2 wr)
  case atStart=>exact ⟨0,-1,Nat.zero_le _,rfl,rfl,rfl,by omega,by omega,rfl,Ext.refl _ _⟩
  case round =>
   clear e3
   obtain ⟨k,la,hk,rfl,rfl,rfl,hla0,hla1,heq,hx⟩:=hrel
   have HX:=bH (bI heq hx)
   clear heq hx
   by_cases hin:k<tl
   ·have i0:(k:Int)<(tl:Int):=by omega
    have hkl:k<r.terms.length:=by rw [HTL.out]; exact hin
    have hdr:r.terms.drop k=r.t k :: r.terms.drop (k+1):=by
     rw [List.drop_eq_getElem_cons hkl,r.t_at hkl]
    have HD:=bH (HX.out.1.trans (by rw [hdr,termsB_cons]))
    obtain ⟨b,off,rfl,-,e0,e1,htok⟩:=(HT.out.keep (HB2.out.2.trans HX.out.2)).atr k hkl
    have hva:=htok.var
    have hco:=htok.coef
    unfold InR at hva hco
    clear hdr hkl htok
    obtain ⟨tv,htv⟩:∃ tv,(r.t k).var=tv:=⟨_,rfl⟩
    obtain ⟨co,hco'⟩:∃ co,(r.t k).coef=co:=⟨_,rfl⟩
    rw [htv] at e0 HD hva
    rw [hco'] at e1 HD hco
    clear htv hco'
    have hb3:=blk_alloc_at wr (.cells #[.int .i64 tv,.int .i64 co] 63)
    have hx3:=(Ext.refl (fun _=>False) wr).alloc (.cells #[.int .i64 tv,.int .i64 co] 63)
    have HB3:=bH (bI hb3 hx3)
    clear hb3 hx3
    go_upto_region 7 with fail
    generalize hw3:wr.alloc (.cells #[.int .i64 tv,.int .i64 co] 63)=w3 at *
    clear hw3
    obtain ⟨tb,htb⟩:∃ tb,wr.heap.size=tb:=⟨_,rfl⟩
    rw [htb] at HB3 ⊢
    clear htb e0 e1
    obtain ⟨x0,x1⟩:w3.cell? ⟨tb,0,none⟩=some (.int .i64 tv)/\w3.cell? ⟨tb,1,none⟩=some (.int .i64 co):=⟨cellq HB3.out.1 0 rfl,cellq HB3.out.1 1 rfl⟩
    have HE:=bH ((HB2.out.2.trans HX.out.2).trans HB3.out.2)
    by_cases t1:tv<=la
    ·go_wp2
     go_ret
     exact ⟨ret_bool (by rw [HR2.out,HD.out,decide_eq_false (p:=(la<tv)) (by omega)]; simp),HE.out⟩
    by_cases t2:(vars:Int)<=tv
    ·go_wp2
     go_ret
     exact ⟨ret_bool (by rw [HR2.out,HD.out,decide_eq_false (p:=(tv<(vars:Int))) (by omega)]; simp),HE.out⟩
    by_cases t3:co=0
    ·have t3':(co == 0)=true:=by simpa using t3
     subst t3
     go_wp2
     go_ret
     exact ⟨ret_bool (by rw [HR2.out,HD.out]; simp),HE.out⟩
    have t3':(co == 0)=false:=by simpa using t3
    have HD2:Hid (termsB vars (-1) r.terms=(limB co && termsB vars tv (r.terms.drop (k+1)))):=bH (by
     rw [HD.out,decide_eq_true (p:=(la<tv)) (by omega),decide_eq_true (p:=(tv<(vars:Int))) (by omega),decide_eq_false t3]; simp)
    clear HD
    go_wp2_with fail
    refine (HL.out w3 co _).mono ?_
    rintro r4 w4 ⟨rfl,hx4⟩
    have hx34:=((Ext.refl (fun _=>False) w3).alloc (.cells #[.int .i64 co] 2)).trans hx4
    have HX4:=bH ((HX.out.2.trans HB3.out.2).trans hx34)
    have y0:=cell_keep x0 hx34
    clear hx4 hx34 x0 x1 HE
    cases hlc:limB co with
    | false =>
     rw [hlc] at HD2
     clear hlc
     go_wp2
     go_ret
     exact ⟨ret_bool (by rw [HR2.out,HD2.out]; simp),HB2.out.2.trans HX4.out⟩
    | true =>
     rw [hlc] at HD2
     clear hlc
     go_wp2
     go_roundg (tl - (k+1))
     case measure=>omega
     case rel=>exact ⟨k+1,tv,by omega,rfl,by go_num,rfl,by omega,by omega,by rw [HD2.out]; simp,HX4.out⟩
   ·obtain rfl:k=tl:=by omega
    have HF:Hid (termsB vars (-1) r.terms=true):=bH (by
     rw [HX.out.1,List.drop_of_length_le (by rw [HTL.out]; exact Nat.le_refl _)]; rfl)
    have e0:=cell_keep (cellq HB2.out.1 0 rfl) HX.out.2
    go_wp2_with fail
    refine (HN.out wr).mono ?_
    rintro r4 w4 ⟨rfl,hx4⟩
    have HX4:=bH ((HB2.out.2.trans HX.out.2).trans hx4)
    clear hx4 e0
    go_wp2
    go_ret
    exact ⟨ret_bool (by rw [HR2.out,HF.out]; simp),HX4.out⟩
open Go.RowKit Go.MapKept Go.Lib
theorem rows_empty (w:World) (ao:Option Addr) (c:Nat) (fv:Value):Calls Tryz.prog 30 #[.slice ao 0 c,fv] w fun r w'=>r=.returned (.bool false)/\w'=w:=by
 have h:∀ W,Calls Tryz.prog 51 #[.slice ao 0 c,fv] W fun r w'=>r=.returned (.int .i64 (-1))/\w'=W:=fun W=>by
  go_enter Tryz.func51,Tryz.ntmps51
  go_wp2_with fail
  go_loopg [8] 0 (fun gg s8 wr=>s8=.int .i64 0/\wr=W)
  case atStart=>exact ⟨rfl,rfl⟩
  case round =>
   obtain ⟨rfl,rfl⟩:=hrel
   go_wp2
   go_ret
   exact ⟨rfl,rfl⟩
 have H:=bH h
 clear h
 go_enter Tryz.func30,Tryz.ntmps30
 go_wp2_with (go_at_call 51; refine (H.out _).mono ?_; rintro e w' ⟨rfl,rfl⟩)
 go_ret
 exact ⟨rfl,rfl⟩
def rowC (p:ProgV) (tvs:List Value) (j:Nat):List Value:=cR (p.r j) (tvs.getD j (.slice none 0 0))
theorem valid1_any (w:World) (pb:Nat) (vv rv:Value) (p:ProgV) (hp:blk w pb=some (.cells #[vv,rv] 25 (0,0))) (hv:Vrs w vv p.vars) (r:RowV) (tv:Value) (ht:Tms w tv r.terms) (hok:RowOk r) :
  Calls Tryz.prog 31 #[.agg (cR r tv).toArray,.pointer (some ⟨pb,0,none⟩)] w (BoolPost w (!rowB p.vars.length r)):=by
 obtain ⟨vo,vc,rfl,-,hn,-⟩:=hv.shape
 obtain ⟨ta,tc,rfl,-,-,-⟩:=ht.shape
 have HR:=bH (fun W (hW:XF w W)=>validRow_any W p.vars.length hn r ta tc hok (ht.keep hW))
 have hx:=(Ext.refl (fun _=>False) w).alloc (.cells #[.string r.name,.int .i64 r.group,.int .i64 r.kind,.slice ta r.terms.length tc,.int .i64 r.bound] 53)
 have z0:=cell_keep (cellq hp 0 rfl) hx
 have HX:=bH hx
 clear hv ht hok hp hx
 generalize p.vars.length=n at *
 generalize r.terms.length=tl at *
 generalize rowB n r=b at *
 show Calls Tryz.prog 31 #[.agg #[.string r.name,.int .i64 r.group,.int .i64 r.kind,.slice ta tl tc,.int .i64 r.bound],.pointer (some ⟨pb,0,none⟩)] w _
 go_enter Tryz.func31,Tryz.ntmps31
 go_wp2_with (go_at_call 32; refine (HR.out _ HX.out).mono ?_; rintro e w' ⟨rfl,hx'⟩)
 go_ret
 exact ⟨rfl,HX.out.trans hx'⟩
theorem all_range {α:Type} (f:α->Bool) (l:List α) (d:α):(!(List.range l.length).any fun j=>!f (l.getD j d))=l.all f:=by
 rw [any_not_all]
 have h:(List.range l.length).map (fun j=>l.getD j d)=l:=by
  refine List.ext_getElem (by simp) (fun i h1 h2=>?_)
  simp [List.getElem?_eq_getElem h2]
 conv=>rhs; rw [<- h]
 rw [List.all_map]; rfl
theorem rows_any (w:World) (pb:Nat) (vv rv:Value) (p:ProgV) (hp:blk w pb=some (.cells #[vv,rv] 25 (0,0))) (hv:Vrs w vv p.vars) (hr:Rws w rv p.rows) :
  Calls Tryz.prog 30 #[rv,.func (.func 31) #[] #[.pointer (some ⟨pb,0,none⟩)]] w fun r w'=>r=.returned (.bool (!p.rows.all (rowB p.vars.length)))/\XF w w':=by
 obtain ⟨ro,rc,rfl,-,hn,-⟩:=hr.shape
 by_cases h0:p.rows.length=0
 ·rw [h0]
  refine (rows_empty w ro rc _).mono ?_
  rintro r w' ⟨rfl,rfl⟩
  refine ⟨ret_bool ?_,Ext.refl _ _⟩
  rw [List.eq_nil_of_length_eq_zero h0]; rfl
 obtain ⟨tvs,hl,⟨ao,c,e,h1,h2,h3,h4⟩,h5⟩:=hr
 rw [List.length_zipWith,hl,Nat.min_self] at e h1 h4
 cases e
 obtain ⟨b,off,rfl,hlt,hc⟩:=h4 (by omega)
 have hall:∀ j,Tms w (tvs.getD j (.slice none 0 0)) (p.r j).terms/\RowOk (p.r j):=fun j=>by
  by_cases hj:j<p.rows.length
  ·have hj':j<tvs.length:=by omega
   have:=h5 j _ _ (List.getElem?_eq_getElem hj) (List.getElem?_eq_getElem hj')
   rw [p.r_at hj] at this
   rw [getD_lt hj']
   exact this
  ·have e1:p.r j=row0:=by
    unfold ProgV.r
    rw [List.getD_eq_getElem?_getD,List.getElem?_eq_none (by omega)]; rfl
   rw [List.getD_eq_getElem?_getD,List.getElem?_eq_none (by omega),e1]
   refine ⟨⟨Sl.nil w 2,fun t ht=>(by cases ht)⟩,⟨?_,?_,?_,?_⟩⟩
   ·show (0:Nat)<=maxLen; exact Nat.zero_le _
   all_goals (constructor <;> (show (_:Int)<=_) <;> decide)
 have hq:=AnyQ.slices_ContainsFunc Tryz.laysRow8 5 Tryz.isAgg53 Tryz.sizeOf53 (rowC p tvs) (fun _=>rfl) (fun j=>!rowB p.vars.length (p.r j)) 31 #[.pointer (some ⟨pb,0,none⟩)] (enters_of Tryz.func31 (by kernel_rfl) rfl) b off p.rows.length rc (List.range p.rows.length) w
  (fun W j hW=>by
   have hx:=Below.ext hW
   refine (valid1_any W pb vv _ p (blk_keep hp hx) (hv.keep hx) (p.r j) _ ((hall j).1.keep hx) (hall j).2).mono ?_
   rintro e w' ⟨rfl,hx'⟩
   exact ⟨rfl,(hx.trans hx').below⟩)
  (by simp) hn hlt (fun j hj i v hi=>by
   rw [List.length_range] at hj
   rw [getElem!_pos _ j (by simpa using hj),List.getElem_range] at hi
   refine hc j _ ?_ i v hi
   have hj':j<tvs.length:=by omega
   rw [List.getElem?_zipWith,List.getElem?_eq_getElem hj,List.getElem?_eq_getElem hj',p.r_at hj]
   show some (cR (p.r j) tvs[j])=some (cR (p.r j) (tvs.getD j _))
   rw [getD_lt hj'])
 refine hq.mono ?_
 rintro r w' ⟨rfl,hb⟩
 refine ⟨ret_bool ?_,Below.ext hb⟩
 have ht:List.take p.rows.length (List.range p.rows.length)=List.range p.rows.length:=by
  rw [List.take_of_length_le (by simp)]
 rw [ht,<- all_range (rowB p.vars.length) p.rows row0,Bool.not_not]
 rfl
theorem varB_eq (v:VarV):varB v=([v.lo,v.up,v.co].all limB && !(v.op && !decide (v.up=0))):=by
 unfold varB
 simp [Bool.and_assoc]
theorem all_next {α:Type} {f:α->Bool} {l:List α} {d:α} {i:Nat} (hi:i<l.length) (h:(l.take i).all f=true) (hf:f (l.getD i d)=true):(l.take (i+1)).all f=true:=by
 rw [List.take_succ_eq_append_getElem hi,List.all_append,h,Bool.true_and,List.all_cons,List.all_nil,Bool.and_true,<- getD_lt hi d]
 exact hf
theorem all_fails {α:Type} {f:α->Bool} {l:List α} {d:α} {i:Nat} (hi:i<l.length) (hf:f (l.getD i d)=false):l.all f=false:=by
 rw [List.all_eq_false]
 exact ⟨_,List.getElem_mem hi,by rw [<- getD_lt hi d,hf]; simp⟩
theorem Valid_any (w:World) (pv:Value) (p:ProgV) (hp:IsPrg w pv p):Calls Tryz.prog 15 #[pv] w (BoolPost w (validB p)):=by
 obtain ⟨vv,rv,rfl,hv,hr⟩:=hp
 obtain ⟨vo,vc,rfl,-,hn,-⟩:=hv.shape
 obtain ⟨ro,rc,rfl,-,hrn,-⟩:=hr.shape
 have HV:=bH (bI hv hr)
 have HR:=bH (show validB p=(decide (p.vars.length<=400) && decide (p.rows.length<=4000) && p.vars.all varB && p.rows.all (rowB p.vars.length)) from rfl)
 have hb:=blk_alloc_at w (.cells #[.slice vo p.vars.length vc,.slice ro p.rows.length rc] 25)
 have hx:=(Ext.refl (fun _=>False) w).alloc (.cells #[.slice vo p.vars.length vc,.slice ro p.rows.length rc] 25)
 have HB:=bH (bI hb hx)
 have HW:=bH (fun W (hW:XF w W) pb hpb=>rows_any W pb _ _ p hpb (hv.keep hW) (hr.keep hW))
 clear hv hr hb hx
 obtain ⟨n,hn'⟩:∃ n,p.vars.length=n:=⟨_,rfl⟩
 have HN:=bH hn'
 rw [hn'] at hn HV HR HB HW ⊢
 clear hn'
 obtain ⟨m,hm'⟩:∃ m,p.rows.length=m:=⟨_,rfl⟩
 rw [hm'] at hrn HV HR HB HW ⊢
 clear hm'
 generalize p.rows.all (rowB n)=rb at *
 go_enter Tryz.func15,Tryz.ntmps15
 go_upto_region 1 with fail
 generalize hw1:w.alloc (.cells #[.slice vo n vc,.slice ro m rc] 25)=w1 at *
 clear hw1
 obtain ⟨pb,hpb⟩:∃ pb,w.heap.size=pb:=⟨_,rfl⟩
 rw [hpb] at HB ⊢
 clear hpb
 have z0:=cellq HB.out.1 0 rfl
 have z1:=cellq HB.out.1 1 rfl
 by_cases c1:400<n
 ·have c1':(400:Int)<(n:Int):=by omega
  go_wp2
  go_ret
  exact ⟨ret_bool (by rw [HR.out,decide_eq_false (p:=(n<=400)) (by omega)]; simp),HB.out.2⟩
 have c1':¬ (400:Int)<(n:Int):=by omega
 by_cases c2:4000<m
 ·have c2':(4000:Int)<(m:Int):=by omega
  go_wp2
  go_ret
  exact ⟨ret_bool (by rw [HR.out,decide_eq_false (p:=(m<=4000)) (by omega)]; simp),HB.out.2⟩
 have c2':¬ (4000:Int)<(m:Int):=by omega
 have HR2:Hid (validB p=(p.vars.all varB && rb)):=bH (by rw [HR.out,decide_eq_true (p:=(n<=400)) (by omega),decide_eq_true (p:=(m<=4000)) (by omega)]; simp)
 clear HR
 go_wp2_with fail
 go_loopg [18] n (fun gg v18 wr=>∃ i:Nat,i<=n/\gg=n - i/\v18=.int .i64 i/\(p.vars.take i).all varB=true/\XF w1 wr)
 case atStart=>exact ⟨0,Nat.zero_le _,rfl,rfl,rfl,Ext.refl _ _⟩
 case round =>
  clear z0 z1
  obtain ⟨i,hi,rfl,rfl,hall,hx⟩:=hrel
  have HX:=bH (bI hall hx)
  clear hall hx
  by_cases hin:i<n
  ·have i0:(i:Int)<(n:Int):=by omega
   have HI:Hid (i<p.vars.length):=bH (by rw [HN.out]; exact hin)
   obtain ⟨b,off,rfl,-,e0,e1,e2,e3,e4,-⟩:=(HV.out.1.keep (HB.out.2.trans HX.out.2)).atp i HI.out
   have hb1:=BoxV.new wr (p.v i)
   have hx1:=(Ext.refl (fun _=>False) wr).alloc (.cells #[.int .i64 (p.v i).lo,.int .i64 (p.v i).up,.bool (p.v i).op,.bool (p.v i).ig,.int .i64 (p.v i).co] 60)
   have HB1:=bH (bI hb1 hx1)
   have HVB:=bH (varB_eq (p.v i))
   clear hb1 hx1
   go_upto_region 6 with fail
   generalize hw2:wr.alloc (.cells #[.int .i64 (p.v i).lo,.int .i64 (p.v i).up,.bool (p.v i).op,.bool (p.v i).ig,.int .i64 (p.v i).co] 60)=w2 at *
   clear hw2 e0 e1 e2 e3 e4
   obtain ⟨vb,hvb⟩:∃ vb,wr.heap.size=vb:=⟨_,rfl⟩
   rw [hvb] at HB1 ⊢
   clear hvb
   obtain ⟨f0,f1,f2,-,f4⟩:=HB1.out.1.facts
   have HL:=bH (limited_any (w2.alloc (.cells #[.int .i64 (p.v i).lo,.int .i64 (p.v i).up,.int .i64 (p.v i).co] 2)) w2.heap.size 0 3 [(p.v i).lo,(p.v i).up,(p.v i).co] (by simp) (fun j u hj=>(by
    have:=cells_new (w:=w2) [Value.int .i64 (p.v i).lo,.int .i64 (p.v i).up,.int .i64 (p.v i).co] 2 rfl j (.int .i64 u) (by
     match j,hj with
     | 0,hj=>cases hj; rfl
     | 1,hj=>cases hj; rfl
     | 2,hj=>cases hj; rfl
     | j+3,hj=>simp at hj)
    simpa [Addr.add_lit] using this)))
   simp only [List.length_cons,List.length_nil,Nat.zero_add] at HL
   obtain ⟨lb,hlb⟩:∃ lb,[(p.v i).lo,(p.v i).up,(p.v i).co].all limB=lb:=⟨_,rfl⟩
   rw [hlb] at HL HVB
   clear hlb
   generalize (p.v i).lo=lo at *
   generalize (p.v i).up=up at *
   generalize (p.v i).op=o at *
   generalize (p.v i).ig=ig at *
   generalize (p.v i).co=co at *
   go_wp2_with fail
   refine HL.out.mono ?_
   rintro r3 w3 ⟨rfl,hx3⟩
   have hx23:=((Ext.refl (fun _=>False) w2).alloc (.cells #[.int .i64 lo,.int .i64 up,.int .i64 co] 2)).trans hx3
   have HX3:=bH ((HX.out.2.trans HB1.out.2).trans hx23)
   have g1:=cell_keep f1 hx23
   have g2:=cell_keep f2 hx23
   clear f0 f1 f2 f4 hx3 hx23 HL HB1
   cases lb with
   | false =>
    go_wp2
    go_ret
    exact ⟨ret_bool (by rw [HR2.out,all_fails (d:=var0) HI.out (HVB.out.trans rfl)]; rfl),HB.out.2.trans HX3.out⟩
   | true =>
    cases o with
    | false =>
     go_wp2
     go_roundg (n - (i+1))
     case measure=>omega
     case rel=>exact ⟨i+1,by omega,rfl,by go_num,all_next (d:=var0) HI.out HX.out.1 (HVB.out.trans rfl),HX3.out⟩
    | true =>
     by_cases hu:up=0
     ·have hu':(up == 0)=true:=by simpa using hu
      have HVB':=bH (HVB.out.trans (show _=true by rw [decide_eq_true hu]; rfl))
      clear HVB
      subst hu
      go_wp2
      go_roundg (n - (i+1))
      case measure=>omega
      case rel=>exact ⟨i+1,by omega,rfl,by go_num,all_next (d:=var0) HI.out HX.out.1 HVB'.out,HX3.out⟩
     ·have hu':(up == 0)=false:=by simpa using hu
      have hu2:(up != 0)=true:=by simpa using hu
      have HVB':=bH (HVB.out.trans (show _=false by rw [decide_eq_false hu]; rfl))
      clear HVB
      go_wp2
      go_ret
      exact ⟨ret_bool (by rw [HR2.out,all_fails (d:=var0) HI.out HVB'.out]; rfl),HB.out.2.trans HX3.out⟩
  ·obtain rfl:i=n:=by omega
   have HF:Hid (p.vars.all varB=true):=bH (by
    have:=HX.out.1
    rw [List.take_of_length_le (by rw [HN.out]; exact Nat.le_refl _)] at this
    exact this)
   have z1:=cell_keep (cellq HB.out.1 1 rfl) HX.out.2
   have HW2:=bH (HW.out wr (HB.out.2.trans HX.out.2) pb (blk_keep HB.out.1 HX.out.2))
   go_wp2_with fail
   refine HW2.out.mono ?_
   rintro r3 w3 ⟨rfl,hx3⟩
   have HX3:=bH ((HB.out.2.trans HX.out.2).trans hx3)
   clear hx3 z1 HW2
   go_wp2
   go_ret
   exact ⟨ret_bool (by rw [HR2.out,HF.out]; simp),HX3.out⟩
def insB (p:ProgV) (x:List Rat) (i:Nat):Bool:=decide (((p.v i).lo:Rat)<=atQ x i) && ((p.v i).op || decide (atQ x i<=((p.v i).up:Rat)))
theorem insideB_eq (p:ProgV) (x:List Rat):insideB p x=allTo p.vars.length (insB p x):=rfl
theorem insB_sign (p:ProgV) (x:List Rat) (i:Nat):insB p x i=(!decide ((atQ x i - ((p.v i).lo:Rat)).num.sign<0) && ((p.v i).op || !decide (0<(atQ x i - ((p.v i).up:Rat)).num.sign))):=by
 have hr1:=sign_lt (atQ x i - ((p.v i).lo:Rat))
 have hr2:=sign_gt (atQ x i - ((p.v i).up:Rat))
 unfold insB
 congr 1
 ·rw [<- decide_not]; exact decide_eq_decide.2 ⟨fun h h2=>by have:=hr1.1 h2; grind,fun h=>Rat.not_lt.1 (fun h2=>h (hr1.2 (by grind)))⟩
 ·congr 1
  rw [<- decide_not]; exact decide_eq_decide.2 ⟨fun h h2=>by have:=hr2.1 h2; grind,fun h=>Rat.not_lt.1 (fun h2=>h (hr2.2 (by grind)))⟩
theorem Inside_any (w:World) (pv xv:Value) (p:ProgV) (x:List Rat) (L:Nat) (hp:IsPrg w pv p) (hy:Rats w xv x L) (h1:1<=L) (hL:L<=4194000) :
  Calls Tryz.prog 17 #[pv,xv] w (BoolPost w (insideB p x)):=by
 obtain ⟨vv,rv,rfl,hr,-⟩:=hp
 obtain ⟨vo,vc,rfl,-,hn,-⟩:=hr.shape
 obtain ⟨yo,yc,rfl,-,hyn,-⟩:=hy.shape
 have HV:=bH (bI hr hy)
 obtain ⟨n,hn'⟩:∃ n,p.vars.length=n:=⟨_,rfl⟩
 have HN:=bH hn'
 have HA:=bH (fun W (hW:XF w W) (i:Nat)=>lat_any W _ x L (hy.keep hW) i)
 have HC:=bH (fun W u u' q (k:Int) (hk:InR k) (hu:Rrat W u q L) (hu':IsRat W u' (k:Rat))=>rcmp_any W u u' q (k:Rat) (L+2) (hu.mono (by omega)) (hu'.reads ((Sz.int hk).mono (by omega))) (by omega) (by omega))
 clear hr hy
 rw [hn'] at hn ⊢ HV
 clear hn'
 generalize x.length=yn at *
 go_enter Tryz.func17,Tryz.ntmps17
 go_wp2_with fail
 go_loopg [11] n (fun gg v11 wr=>∃ i:Nat,i<=n/\gg=n - i/\v11=.int .i64 i/\allTo i (insB p x)=true/\XF w wr)
 case atStart=>exact ⟨0,Nat.zero_le _,rfl,rfl,rfl,(Ext.refl _ _).alloc _⟩
 case round =>
  obtain ⟨i,hi,rfl,rfl,hall,hx⟩:=hrel
  have HX:=bH (bI hall hx)
  clear hall hx
  by_cases hin:i<n
  ·have i0:(i:Int)<(n:Int):=by omega
   have hrow:=(HV.out.1.keep HX.out.2)
   obtain ⟨b,off,rfl,hlt,e0,e1,e2,e3,e4,hok⟩:=hrow.atp i (by rw [HN.out]; exact hin)
   clear hrow
   have HA1:=bH (fun W (hW:XF wr W)=>HA.out W (HX.out.2.trans hW) i)
   have hb1:=BoxV.new wr (p.v i)
   have hx1:=(Ext.refl (fun _=>False) wr).alloc (.cells #[.int .i64 (p.v i).lo,.int .i64 (p.v i).up,.bool (p.v i).op,.bool (p.v i).ig,.int .i64 (p.v i).co] 60)
   have HB:=bH (bI hb1 (bI hx1 hok))
   clear hb1 hx1 hok
   go_upto_region 4 with fail
   obtain ⟨rb,hrb⟩:∃ rb,wr.heap.size=rb:=⟨_,rfl⟩
   rw [hrb] at HB ⊢
   generalize wr.alloc (.cells #[.int .i64 (p.v i).lo,.int .i64 (p.v i).up,.bool (p.v i).op,.bool (p.v i).ig,.int .i64 (p.v i).co] 60)=w1 at *
   clear e0 e1 e2 e3 e4
   go_wp2_with fail
   refine (HA1.out w1 HB.out.2.1).mono ?_
   rintro r2 w2 ⟨v2,rfl,h2,hx2⟩
   obtain ⟨xn,xa,xm,xc,ya,ym,yc',rfl⟩:=h2.shape
   have hx3:=hx2.alloc (.cells #[.bool xn,.slice xa xm xc,.slice ya ym yc'] 49)
   have hb3:=boxR_new (W:=w2) rfl xn xa xm xc ya ym yc'
   have h3:=h2.keep ((Ext.refl (fun _=>False) w2).alloc (.cells #[.bool xn,.slice xa xm xc,.slice ya ym yc'] 49))
   have HB3:=bH (bI hb3 (bI (HB.out.1.keep hx3) (bI h3 ((HX.out.2.trans HB.out.2.1).trans hx3))))
   have HO:=bH HB.out.2.2
   clear hb3 h3 h2 hx2 hx3 HA1 HB
   go_upto_region 5 with fail
   obtain ⟨cb,hcb⟩:∃ cb,w2.heap.size=cb:=⟨_,rfl⟩
   rw [hcb] at HB3 ⊢
   clear hcb
   generalize w2.alloc (.cells #[.bool xn,.slice xa xm xc,.slice ya ym yc'] 49)=w3 at *
   have HF1:=bH (fun W=>rfrom_any W (p.v i).lo HO.out.lo.1 HO.out.lo.2)
   have HF2:=bH (fun W=>rfrom_any W (p.v i).up HO.out.up.1 HO.out.up.2)
   have HC1:=bH (fun W u (hW:XF w3 W) hu=>HC.out W _ u _ _ HO.out.lo (HB3.out.2.2.1.keep hW) hu)
   have HC2:=bH (fun W u (hW:XF w3 W) hu=>HC.out W _ u _ _ HO.out.up (HB3.out.2.2.1.keep hW) hu)
   have HR:=bH (insB_sign p x i)
   obtain ⟨f0,f1,f2,-,-⟩:=HB3.out.2.1.facts
   obtain ⟨g0,g1,g2,-⟩:=HB3.out.1.facts
   have hS:S6 rb rb rb cb cb cb 0 1 2 0 1 2 (.int .i64 (p.v i).lo) (.int .i64 (p.v i).up) (.bool (p.v i).op) (.bool xn) (.slice xa xm xc) (.slice ya ym yc') w3:=⟨f0,f1,f2,g0,g1,g2⟩
   clear f0 f1 f2 g0 g1 g2 HC HA HO
   generalize (atQ x i - ((p.v i).lo:Rat)).num.sign=s1 at *
   generalize (atQ x i - ((p.v i).up:Rat)).num.sign=s2 at *
   generalize ((p.v i).lo:Rat)=lq at *
   generalize ((p.v i).up:Rat)=uq at *
   generalize (p.v i).lo=lo at *
   generalize (p.v i).up=up at *
   generalize (p.v i).op=o at *
   have hcase:s1<0∨(¬ s1<0/\o=true)∨(¬ s1<0/\o=false/\0<s2)∨(¬ s1<0/\o=false/\¬ 0<s2):=by cases o <;> simp <;> omega
   rcases hcase with hs | ⟨hs,rfl⟩ | ⟨hs0,rfl,hs⟩ | ⟨hs0,rfl,hs⟩
   ·have hd:decide (s1<0)=true:=decide_eq_true hs
    refine wp_region_held_drew (S:=(S6 rb rb rb cb cb cb 0 1 2 0 1 2 (.int .i64 lo) (.int .i64 up) (.bool o) (.bool xn) (.slice xa xm xc) (.slice ya ym yc'))) (by kernel_rfl) (hS.drew) (fun hHeld=>?_)
    refine ht 0 (h:=?_)
    (try go_frame)
    refine ht 1 (h:=?_)
    (try go_frame)
    refine ht 2 (h:=?_)
    (try go_frame)
    refine held_step 3 rfl (by kernel_rfl) (fun K hK=>?_)
    (go_simp; go_at_call 35; (with_reducible refine (HF1.out _).mono ?_); rintro q1 w11 ⟨v11,rfl,h11,hx11⟩; have hX1:=(Ext.refl (fun _=>False) w3).drew.trans hx11; have hK1:=hS.keep hX1; have hC1:=HC1.out w11 _ hX1 h11; obtain ⟨n11,a11,l11,c11,a12,l12,c12,rfl⟩:=h11.shape)
    refine hK.out _ _ (hK1) (fun hHeld=>?_)
    clear hK K
    (try go_frame)
    refine held_step 4 rfl (by kernel_rfl) (fun K hK=>?_)
    (go_simp; go_at_call 34; (with_reducible refine hC1.mono ?_); rintro q2 w12 ⟨rfl,hx12⟩; have hX2:=hX1.trans hx12; have hK2:=hS.keep hX2)
    refine hK.out _ _ (hK2) (fun hHeld=>?_)
    clear hK K
    (try go_frame)
    refine ht 5 (h:=?_)
    (try go_frame)
    refine ht 6 (h:=?_)
    (try go_frame)
    refine held_skip 7 rfl (by kernel_rfl) (by kernel_rfl) (by kernel_rfl) (fun _ _ _ h=>h) (by rfl) (by assumption) ?_
    (try go_frame)
    refine held_skip 8 rfl (by kernel_rfl) (by kernel_rfl) (by kernel_rfl) (fun _ _ _ h=>h) (by rfl) (by assumption) ?_
    (try go_frame)
    refine held_skip 9 rfl (by kernel_rfl) (by kernel_rfl) (by kernel_rfl) (fun _ _ _ h=>h) (by rfl) (by assumption) ?_
    (try go_frame)
    refine held_skip 10 rfl (by kernel_rfl) (by kernel_rfl) (by kernel_rfl) (fun _ _ _ h=>h) (by rfl) (by assumption) ?_
    (try go_frame)
    refine held_skip 11 rfl (by kernel_rfl) (by kernel_rfl) (by kernel_rfl) (fun _ _ _ h=>h) (by rfl) (by assumption) ?_
    (try go_frame)
    refine held_skip 12 rfl (by kernel_rfl) (by kernel_rfl) (by kernel_rfl) (fun _ _ _ h=>h) (by rfl) (by assumption) ?_
    (try go_frame)
    refine held_skip 13 rfl (by kernel_rfl) (by kernel_rfl) (by kernel_rfl) (fun _ _ _ h=>h) (by rfl) (by assumption) ?_
    (try go_frame)
    refine held_skip 14 rfl (by kernel_rfl) (by kernel_rfl) (by kernel_rfl) (fun _ _ _ h=>h) (by rfl) (by assumption) ?_
    (try go_frame)
    refine held_skip 15 rfl (by kernel_rfl) (by kernel_rfl) (by kernel_rfl) (fun _ _ _ h=>h) (by rfl) (by assumption) ?_
    (try go_frame)
    refine held_skip 16 rfl (by kernel_rfl) (by kernel_rfl) (by kernel_rfl) (fun _ _ _ h=>h) (by rfl) (by assumption) ?_
    (try go_frame)
    refine held_skip 17 rfl (by kernel_rfl) (by kernel_rfl) (by kernel_rfl) (fun _ _ _ h=>h) (by rfl) (by assumption) ?_
    (try go_frame)
    refine ht 18 (h:=?_)
    (try go_frame)
    refine wpAnyH_done (by kernel_rfl) ?_ _
    have HXX:=bH (HB3.out.2.2.2.trans hX2)
    clear hX1 hX2 h11 hx11 hx12 hC1 hK1 hK2 hS hHeld
    go_wp2
    go_ret
    exact ⟨ret_bool (allTo_false (f:=insB p x) (i:=i) (by rw [HN.out]; exact hin) (by rw [HR.out]; simp [hs])).symm,HXX.out⟩
   ·have hd:decide (s1<0)=false:=decide_eq_false hs
    refine wp_region_held_drew (S:=(S6 rb rb rb cb cb cb 0 1 2 0 1 2 (.int .i64 lo) (.int .i64 up) (.bool true) (.bool xn) (.slice xa xm xc) (.slice ya ym yc'))) (by kernel_rfl) (hS.drew) (fun hHeld=>?_)
    refine ht 0 (h:=?_)
    (try go_frame)
    refine ht 1 (h:=?_)
    (try go_frame)
    refine ht 2 (h:=?_)
    (try go_frame)
    refine held_step 3 rfl (by kernel_rfl) (fun K hK=>?_)
    (go_simp; go_at_call 35; (with_reducible refine (HF1.out _).mono ?_); rintro q1 w11 ⟨v11,rfl,h11,hx11⟩; have hX1:=(Ext.refl (fun _=>False) w3).drew.trans hx11; have hK1:=hS.keep hX1; have hC1:=HC1.out w11 _ hX1 h11; obtain ⟨n11,a11,l11,c11,a12,l12,c12,rfl⟩:=h11.shape)
    refine hK.out _ _ (hK1) (fun hHeld=>?_)
    clear hK K
    (try go_frame)
    refine held_step 4 rfl (by kernel_rfl) (fun K hK=>?_)
    (go_simp; go_at_call 34; (with_reducible refine hC1.mono ?_); rintro q2 w12 ⟨rfl,hx12⟩; have hX2:=hX1.trans hx12; have hK2:=hS.keep hX2)
    refine hK.out _ _ (hK2) (fun hHeld=>?_)
    clear hK K
    (try go_frame)
    refine ht 5 (h:=?_)
    (try go_frame)
    refine ht 6 (h:=?_)
    (try go_frame)
    refine ht 7 (h:=?_)
    (try go_frame)
    refine ht 8 (h:=?_)
    (try go_frame)
    refine ht 9 (h:=?_)
    (try go_frame)
    refine ht 10 (h:=?_)
    (try go_frame)
    refine held_skip 11 rfl (by kernel_rfl) (by kernel_rfl) (by kernel_rfl) (fun _ _ _ h=>h) (by rfl) (by assumption) ?_
    (try go_frame)
    refine held_skip 12 rfl (by kernel_rfl) (by kernel_rfl) (by kernel_rfl) (fun _ _ _ h=>h) (by rfl) (by assumption) ?_
    (try go_frame)
    refine held_skip 13 rfl (by kernel_rfl) (by kernel_rfl) (by kernel_rfl) (fun _ _ _ h=>h) (by rfl) (by assumption) ?_
    (try go_frame)
    refine held_skip 14 rfl (by kernel_rfl) (by kernel_rfl) (by kernel_rfl) (fun _ _ _ h=>h) (by rfl) (by assumption) ?_
    (try go_frame)
    refine held_skip 15 rfl (by kernel_rfl) (by kernel_rfl) (by kernel_rfl) (fun _ _ _ h=>h) (by rfl) (by assumption) ?_
    (try go_frame)
    refine held_skip 16 rfl (by kernel_rfl) (by kernel_rfl) (by kernel_rfl) (fun _ _ _ h=>h) (by rfl) (by assumption) ?_
    (try go_frame)
    refine ht 17 (h:=?_)
    (try go_frame)
    refine ht 18 (h:=?_)
    (try go_frame)
    refine wpAnyH_done (by kernel_rfl) ?_ _
    have HXX:=bH (HB3.out.2.2.2.trans hX2)
    clear hX1 hX2 h11 hx11 hx12 hC1 hK1 hK2 hS hHeld
    go_wp2
    go_roundg (n - (i+1))
    case measure=>omega
    case rel=>exact ⟨i+1,by omega,rfl,by go_num,allTo_next HX.out.1 (by rw [HR.out]; simp [hs]),HXX.out⟩
   ·have hd:decide (s1<0)=false:=decide_eq_false hs0; have hd2:decide (0<s2)=true:=decide_eq_true hs
    refine wp_region_held_drew (S:=(S6 rb rb rb cb cb cb 0 1 2 0 1 2 (.int .i64 lo) (.int .i64 up) (.bool false) (.bool xn) (.slice xa xm xc) (.slice ya ym yc'))) (by kernel_rfl) (hS.drew) (fun hHeld=>?_)
    refine ht 0 (h:=?_)
    (try go_frame)
    refine ht 1 (h:=?_)
    (try go_frame)
    refine ht 2 (h:=?_)
    (try go_frame)
    refine held_step 3 rfl (by kernel_rfl) (fun K hK=>?_)
    (go_simp; go_at_call 35; (with_reducible refine (HF1.out _).mono ?_); rintro q1 w11 ⟨v11,rfl,h11,hx11⟩; have hX1:=(Ext.refl (fun _=>False) w3).drew.trans hx11; have hK1:=hS.keep hX1; have hC1:=HC1.out w11 _ hX1 h11; obtain ⟨n11,a11,l11,c11,a12,l12,c12,rfl⟩:=h11.shape)
    refine hK.out _ _ (hK1) (fun hHeld=>?_)
    clear hK K
    (try go_frame)
    refine held_step 4 rfl (by kernel_rfl) (fun K hK=>?_)
    (go_simp; go_at_call 34; (with_reducible refine hC1.mono ?_); rintro q2 w12 ⟨rfl,hx12⟩; have hX2:=hX1.trans hx12; have hK2:=hS.keep hX2)
    refine hK.out _ _ (hK2) (fun hHeld=>?_)
    clear hK K
    (try go_frame)
    refine ht 5 (h:=?_)
    (try go_frame)
    refine ht 6 (h:=?_)
    (try go_frame)
    refine ht 7 (h:=?_)
    (try go_frame)
    refine ht 8 (h:=?_)
    (try go_frame)
    refine ht 9 (h:=?_)
    (try go_frame)
    refine ht 10 (h:=?_)
    (try go_frame)
    refine ht 11 (h:=?_)
    (try go_frame)
    refine ht 12 (h:=?_)
    (try go_frame)
    refine ht 13 (h:=?_)
    (try go_frame)
    refine held_step 14 rfl (by kernel_rfl) (fun K hK=>?_)
    (go_simp; go_at_call 35; (with_reducible refine (HF2.out _).mono ?_); rintro q3 w13 ⟨v13,rfl,h13,hx13⟩; have hX3:=hX2.trans hx13; have hK3:=hS.keep hX3; have hC2:=HC2.out w13 _ hX3 h13; obtain ⟨n13,a13,l13,c13,a14,l14,c14,rfl⟩:=h13.shape)
    refine hK.out _ _ (hK3) (fun hHeld=>?_)
    clear hK K
    (try go_frame)
    refine held_step 15 rfl (by kernel_rfl) (fun K hK=>?_)
    (go_simp; go_at_call 34; (with_reducible refine hC2.mono ?_); rintro q4 w14 ⟨rfl,hx14⟩; have hX4:=hX3.trans hx14; have hK4:=hS.keep hX4)
    refine hK.out _ _ (hK4) (fun hHeld=>?_)
    clear hK K
    (try go_frame)
    refine ht 16 (h:=?_)
    (try go_frame)
    refine ht 17 (h:=?_)
    (try go_frame)
    refine ht 18 (h:=?_)
    (try go_frame)
    refine wpAnyH_done (by kernel_rfl) ?_ _
    have HXX:=bH (HB3.out.2.2.2.trans hX4)
    clear hX1 hX2 h11 hx11 hx12 hC1 hK1 hK2 hS hHeld hX3 hX4 h13 hx13 hx14 hC2 hK3 hK4
    go_wp2
    go_ret
    exact ⟨ret_bool (allTo_false (f:=insB p x) (i:=i) (by rw [HN.out]; exact hin) (by rw [HR.out]; simp [hs])).symm,HXX.out⟩
   ·have hd:decide (s1<0)=false:=decide_eq_false hs0; have hd2:decide (0<s2)=false:=decide_eq_false hs
    refine wp_region_held_drew (S:=(S6 rb rb rb cb cb cb 0 1 2 0 1 2 (.int .i64 lo) (.int .i64 up) (.bool false) (.bool xn) (.slice xa xm xc) (.slice ya ym yc'))) (by kernel_rfl) (hS.drew) (fun hHeld=>?_)
    refine ht 0 (h:=?_)
    (try go_frame)
    refine ht 1 (h:=?_)
    (try go_frame)
    refine ht 2 (h:=?_)
    (try go_frame)
    refine held_step 3 rfl (by kernel_rfl) (fun K hK=>?_)
    (go_simp; go_at_call 35; (with_reducible refine (HF1.out _).mono ?_); rintro q1 w11 ⟨v11,rfl,h11,hx11⟩; have hX1:=(Ext.refl (fun _=>False) w3).drew.trans hx11; have hK1:=hS.keep hX1; have hC1:=HC1.out w11 _ hX1 h11; obtain ⟨n11,a11,l11,c11,a12,l12,c12,rfl⟩:=h11.shape)
    refine hK.out _ _ (hK1) (fun hHeld=>?_)
    clear hK K
    (try go_frame)
    refine held_step 4 rfl (by kernel_rfl) (fun K hK=>?_)
    (go_simp; go_at_call 34; (with_reducible refine hC1.mono ?_); rintro q2 w12 ⟨rfl,hx12⟩; have hX2:=hX1.trans hx12; have hK2:=hS.keep hX2)
    refine hK.out _ _ (hK2) (fun hHeld=>?_)
    clear hK K
    (try go_frame)
    refine ht 5 (h:=?_)
    (try go_frame)
    refine ht 6 (h:=?_)
    (try go_frame)
    refine ht 7 (h:=?_)
    (try go_frame)
    refine ht 8 (h:=?_)
    (try go_frame)
    refine ht 9 (h:=?_)
    (try go_frame)
    refine ht 10 (h:=?_)
    (try go_frame)
    refine ht 11 (h:=?_)
    (try go_frame)
    refine ht 12 (h:=?_)
    (try go_frame)
    refine ht 13 (h:=?_)
    (try go_frame)
    refine held_step 14 rfl (by kernel_rfl) (fun K hK=>?_)
    (go_simp; go_at_call 35; (with_reducible refine (HF2.out _).mono ?_); rintro q3 w13 ⟨v13,rfl,h13,hx13⟩; have hX3:=hX2.trans hx13; have hK3:=hS.keep hX3; have hC2:=HC2.out w13 _ hX3 h13; obtain ⟨n13,a13,l13,c13,a14,l14,c14,rfl⟩:=h13.shape)
    refine hK.out _ _ (hK3) (fun hHeld=>?_)
    clear hK K
    (try go_frame)
    refine held_step 15 rfl (by kernel_rfl) (fun K hK=>?_)
    (go_simp; go_at_call 34; (with_reducible refine hC2.mono ?_); rintro q4 w14 ⟨rfl,hx14⟩; have hX4:=hX3.trans hx14; have hK4:=hS.keep hX4)
    refine hK.out _ _ (hK4) (fun hHeld=>?_)
    clear hK K
    (try go_frame)
    refine ht 16 (h:=?_)
    (try go_frame)
    refine ht 17 (h:=?_)
    (try go_frame)
    refine ht 18 (h:=?_)
    (try go_frame)
    refine wpAnyH_done (by kernel_rfl) ?_ _
    have HXX:=bH (HB3.out.2.2.2.trans hX4)
    clear hX1 hX2 h11 hx11 hx12 hC1 hK1 hK2 hS hHeld hX3 hX4 h13 hx13 hx14 hC2 hK3 hK4
    go_wp2
    go_roundg (n - (i+1))
    case measure=>omega
    case rel=>exact ⟨i+1,by omega,rfl,by go_num,allTo_next HX.out.1 (by rw [HR.out]; simp [hs,hs0]),HXX.out⟩
  ·obtain rfl:i=n:=by omega
   go_wp2
   go_ret
   exact ⟨ret_bool (by rw [insideB_eq,HN.out]; exact HX.out.1.symm),HX.out.2⟩
section
variable {α:Type}
def iget:List (Int × α)->Int->Option α
 | [],_=>none
 | (k,v) :: r,s=>if k=s then some v else iget r s
def iput:List (Int × α)->Int->α->List (Int × α)
 | [],s,v=>[(s,v)]
 | (k,x) :: r,s,v=>if k=s then (k,v) :: r else (k,x) :: iput r s v
theorem iget_none {l:List (Int × α)} {s:Int} (h:iget l s=none):∀ p ∈ l,p.1≠s:=by
 induction l with
 | nil=>intro p hp; cases hp
 | cons q r ih =>
  obtain ⟨a,b⟩:=q
  simp only [iget] at h
  split at h
  ·cases h
  ·rename_i hn
   intro p hp
   rcases List.mem_cons.1 hp with rfl | hp
   ·exact hn
   ·exact ih h p hp
theorem iget_iput (l:List (Int × α)) (k:Int) (v:α) (k':Int):iget (iput l k v) k'=if k'=k then some v else iget l k':=by
 induction l with
 | nil =>
  simp only [iput,iget]
  by_cases h:k=k'
  ·rw [if_pos h,if_pos h.symm]
  ·rw [if_neg h,if_neg (Ne.symm h)]
 | cons p r ih =>
  obtain ⟨a,b⟩:=p
  simp only [iput]
  by_cases h:a=k
  ·subst h
   rw [if_pos rfl]
   simp only [iget]
   by_cases h':a=k'
   ·subst h'; rw [if_pos rfl,if_pos rfl]
   ·rw [if_neg h',if_neg h',if_neg (Ne.symm h')]
  ·rw [if_neg h]
   simp only [iget]
   rw [ih]
   by_cases h':a=k'
   ·subst h'; rw [if_pos rfl,if_neg h,if_pos rfl]
   ·rw [if_neg h',if_neg h']
theorem iput_length (l:List (Int × α)) (s:Int) (v:α):(iput l s v).length<=l.length+1:=by
 induction l with
 | nil=>simp [iput]
 | cons p r ih =>
  obtain ⟨a,b⟩:=p
  simp only [iput]
  split
  ·simp
  ·simp; omega
theorem mem_iput {l:List (Int × α)} {s:Int} {v:α} {p:Int × α} (h:p ∈ iput l s v):p=(s,v)∨p ∈ l:=by
 induction l with
 | nil=>simp [iput] at h; exact .inl h
 | cons q r ih =>
  obtain ⟨a,b⟩:=q
  simp only [iput] at h
  split at h
  ·rename_i e; subst e
   rcases List.mem_cons.1 h with h | h
   ·exact .inl h
   ·exact .inr (List.mem_cons_of_mem _ h)
  ·rcases List.mem_cons.1 h with h | h
   ·exact .inr (by rw [h]; simp)
   ·exact (ih h).elim .inl (fun h=>.inr (List.mem_cons_of_mem _ h))
theorem iput_nodup {l:List (Int × α)} {s:Int} {v:α} (h:(l.map Prod.fst).Nodup):((iput l s v).map Prod.fst).Nodup:=by
 induction l with
 | nil=>simp [iput]
 | cons q r ih =>
  obtain ⟨a,b⟩:=q
  simp only [List.map_cons,List.nodup_cons] at h
  simp only [iput]
  split
  ·simpa using h
  ·rename_i e
   simp only [List.map_cons,List.nodup_cons]
   refine ⟨fun hm=>?_,ih h.2⟩
   obtain ⟨p,hp,hpe⟩:=List.mem_map.1 hm
   rcases mem_iput hp with h' | h'
   ·subst h'; exact e hpe.symm
   ·exact h.1 (List.mem_map.2 ⟨p,h',hpe⟩)
theorem iget_isSome {l:List (Int × α)} {k:Int}:(iget l k).isSome=true↔k ∈ l.map Prod.fst:=by
 induction l with
 | nil=>simp [iget]
 | cons q r ih =>
  obtain ⟨a,b⟩:=q
  simp only [iget,List.map_cons,List.mem_cons]
  split
  ·rename_i e; subst e; simp
  ·rename_i e; rw [ih]; exact ⟨.inr,fun h=>h.elim (fun h=>absurd h.symm e) id⟩
end
def IntMap (es:Array MapEntry) (l:List (Int × Value)):Prop :=
 es.toList.map (fun e=>(e.key,e.val))=l.map fun p=>(Value.int .i64 p.1,p.2)
theorem IntMap.size {es:Array MapEntry} {l:List (Int × Value)} (h:IntMap es l):es.size=l.length:=by
 have:=congrArg List.length h
 simpa using this
theorem findNow_int (s:Int):∀ (es:List MapEntry) (l:List (Int × Value)) (i:Nat),es.map (fun e=>(e.key,e.val))=(l.map fun p=>(Value.int .i64 p.1,p.2)) ->
  (iget l s=none/\Instr.findNow (.int .i64) (.int .i64 s) es i=some none/\∀ v,iput l s v=l++[(s,v)]) ∨
  ∃ j e v,iget l s=some v/\Instr.findNow (.int .i64) (.int .i64 s) es i=some (some (i+j,v))/\es[j]?=some e/\e.key=.int .i64 s /\
   ∀ u,(es.modify j fun e=>{ e with key:=.int .i64 s,val:=u }).map (fun e=>(e.key,e.val))=(iput l s u).map fun p=>(Value.int .i64 p.1,p.2)
 | [],[],i,_=>.inl ⟨rfl,rfl,fun _=>rfl⟩
 | [],_ :: _,_,h=>by simp at h
 | _ :: _,[],_,h=>by simp at h
 | e :: es,(k,v) :: l,i,h=>by
  simp only [List.map_cons,List.cons.injEq,Prod.mk.injEq] at h
  obtain ⟨⟨hk,hv⟩,hr⟩:=h
  by_cases hs:k=s
  ·subst hs
   refine .inr ⟨0,e,v,by simp [iget],by simp [Instr.findNow,Instr.sameNow,hk,hv],rfl,hk,fun u=>?_⟩
   simp [iput,hr]
  ·have hne:(s == k)=false:=by
    cases hq:s == k
    ·rfl
    ·exact absurd (eq_of_beq hq).symm hs
   rcases findNow_int s es l (i+1) hr with ⟨h1,h2,h3⟩ | ⟨j,e',v',h1,h2,h3,h4,h5⟩
   ·exact .inl ⟨by simp [iget,hs,h1],by simp [Instr.findNow,Instr.sameNow,hk,hne,h2],fun v=>by simp [iput,hs,h3]⟩
   ·refine .inr ⟨j+1,e',v',by simp [iget,hs,h1],by simp [Instr.findNow,Instr.sameNow,hk,hne,h2]; omega,by simpa using h3,h4,fun u=>?_⟩
    have:=h5 u
    simp [iput,hs,hk,hv,this]
section
variable {P:Program} {t k e:TypeId} {w:World} {b:Nat} {es:Array MapEntry} {clock:Nat} {l:List (Int × Value)}
theorem run_update_int (ht:P.underlying t=some (.map k e)) (hk:P.underlying k=some (.int .i64)) (hl:IntMap es l) (hst:Stamped es clock) (s:Int) (u:Value) :
  ∃ es' clock',(∀ w:World,blk w b=some (.map es clock)->(Instr.mapUpdate t (.map (some b)) (.int .i64 s) u).run P w=.ok () (setBlock w b (.map es' clock')))/\IntMap es' (iput l s u)/\Stamped es' clock':=by
 rcases findNow_int s es.toList l 0 hl with ⟨h1,h2,h3⟩ | ⟨j,e',v,h1,h2,h4,h5,h6⟩
 ·refine ⟨es.push { key:=.int .i64 s,val:=u,born:=clock },clock+1,fun w hb=>?_,?_,?_⟩
  ·simp [Instr.mapUpdate,run_underlying ht,MapKept.run_getObj_map hb,MapKept.run_checkKey hk (show IsKey (.int .i64) (.int .i64 s) from rfl),MapKept.run_findKey hk h2,Result.andThen,MapKept.run_setObj_map _ hb,ChangeMaps.setBlock]
  ·unfold IntMap at *
   simp [hl,h3]
  ·refine stamped_push hst (fun x hx e=>?_)
   have:(x.key,x.val) ∈ es.toList.map (fun e=>(e.key,e.val)):=List.mem_map.2 ⟨x,hx,rfl⟩
   rw [hl] at this
   obtain ⟨p,hp,hpe⟩:=List.mem_map.1 this
   refine iget_none h1 p hp ?_
   have hk2:Value.int .i64 p.1=x.key:=congrArg Prod.fst hpe
   rw [e] at hk2
   exact (Value.int.inj hk2).2
 ·refine ⟨es.modify j fun e=>{ e with key:=.int .i64 s,val:=u },clock,fun w hb=>?_,?_,?_⟩
  ·have h4':es[j]?=some e':=by simpa using h4
   simp only [Nat.zero_add] at h2
   simp [Instr.mapUpdate,run_underlying ht,MapKept.run_getObj_map hb,MapKept.run_checkKey hk (show IsKey (.int .i64) (.int .i64 s) from rfl),MapKept.run_findKey hk h2,Result.andThen,MapKept.run_setObj_map _ hb,ChangeMaps.setBlock,h4',h5,run_keyThatStays (show IsKey (.int .i64) (.int .i64 s) from rfl)]
  ·unfold IntMap
   have:=h6 u
   rw [Array.toList_modify]
   exact this
  ·refine stamped_modify hst j _ (fun _ _=>rfl) (fun x _ hx=>?_)
   have h4':es[j]?=some e':=by simpa using h4
   rw [h4'] at hx
   cases hx
   exact h5.symm
end
def IsIMap (w:World) (b:Nat) (l:List (Int × Value)):Prop:=∃ es clock,blk w b=some (.map es clock)/\IntMap es l/\Stamped es clock
theorem IsIMap.ext {S:Nat->Prop} {w w':World} {b:Nat} {l:List (Int × Value)} (h:IsIMap w b l) (hx:Ext S w w') (hn:¬ S b):IsIMap w' b l:=by
 obtain ⟨es,c,hb,r⟩:=h
 exact ⟨es,c,(hx.blk (blk_lt hb) hn).trans hb,r⟩
theorem IsIMap.new (w:World):IsIMap (w.alloc (.map #[] 0)) w.heap.size []:=⟨#[],0,blk_alloc_at _ _,rfl,stamped_empty 0⟩
def asNil {H:Type}:Value->Option (DataW H × List MemPlace):=fun _=>some (.nil,[])
def fewRow (k:Nat) (r:RowV):Bool:=decide (r.terms.length<=2*k) && decide (r.name.size<=100)
def fewP (p:ProgV) (k m:Nat):Bool:=p.rows.all (fewRow k) && decide (p.vars.length<=k) && decide (p.rows.length<=m)
theorem FewP_any (w:World) (pv:Value) (p:ProgV) (k m:Nat) (hk:k<=1000000) (hm:m<=1000000) (hp:IsPrg w pv p):Calls Tryz.prog 5 #[pv,.int .i64 k,.int .i64 m] w (BoolPost w (fewP p k m)):=by
 obtain ⟨vv,rv,rfl,hv,hr⟩:=hp
 obtain ⟨vo,vc,rfl,-,hvn,-⟩:=hv.shape
 obtain ⟨ro,rc,rfl,-,hrn,-⟩:=hr.shape
 have HV:=bH hr
 have HF:=bH (show fewP p k m=(p.rows.all (fewRow k) && decide (p.vars.length<=k) && decide (p.rows.length<=m)) from rfl)
 clear hv hr
 generalize p.vars.length=vn at *
 obtain ⟨n,hn'⟩:∃ n,p.rows.length=n:=⟨_,rfl⟩
 have HN:=bH hn'
 rw [hn'] at hrn HV HF ⊢
 clear hn'
 have HB:=bH (bI (blk_alloc_at w (.cells #[.slice vo vn vc,.slice ro n rc] 25)) ((Ext.refl (fun _=>False) w).alloc (.cells #[.slice vo vn vc,.slice ro n rc] 25)))
 go_enter Tryz.func5,Tryz.ntmps5
 go_upto_region 1 with fail
 generalize hw1:w.alloc (.cells #[.slice vo vn vc,.slice ro n rc] 25)=w1 at *
 clear hw1
 obtain ⟨pb,hpb⟩:∃ pb,w.heap.size=pb:=⟨_,rfl⟩
 rw [hpb] at HB ⊢
 clear hpb
 go_wp2_with fail
 go_loopg [7] n (fun gg v7 wr=>∃ i:Nat,i<=n/\gg=n - i/\v7=.int .i64 i/\(p.rows.take i).all (fewRow k)=true/\XF w1 wr)
 case atStart=>exact ⟨0,Nat.zero_le _,rfl,rfl,rfl,Ext.refl _ _⟩
 case round =>
  obtain ⟨i,hi,rfl,rfl,hall,hx⟩:=hrel
  have HX:=bH (bI hall hx)
  clear hall hx
  have z0:=cell_keep (cellq HB.out.1 0 rfl) HX.out.2
  have z1:=cell_keep (cellq HB.out.1 1 rfl) HX.out.2
  by_cases hin:i<n
  ·have i0:(i:Int)<(n:Int):=by omega
   have i1:(0:Int)<=(i:Int):=by omega
   have HI:Hid (i<p.rows.length):=bH (by rw [HN.out]; exact hin)
   obtain ⟨b,off,ta,tc,rfl,-,e0,e1,e2,e3,e4,hok,htm⟩:=(HV.out.keep (HB.out.2.trans HX.out.2)).atp i HI.out
   have hns:(p.r i).name.size<=9223372036854775807:=by have:=hok.name; unfold maxLen at this; omega
   obtain ⟨-,-,-,-,htn,-⟩:=htm.shape
   have HR:=bH (show fewRow k (p.rows.getD i row0)=(decide ((p.r i).terms.length<=2*k) && decide ((p.r i).name.size<=100)) from rfl)
   clear hok htm
   generalize (p.r i).terms.length=tl at *
   generalize (p.r i).name=nm at *
   obtain ⟨kk,hkk⟩:∃ kk,2*k=kk:=⟨_,rfl⟩
   have hk2:(2:Int)*(k:Int)=(kk:Int):=by omega
   rw [hkk] at HR
   have hkk63:kk<=9223372036854775807:=by omega
   clear hkk
   by_cases q1:kk<tl
   ·have q1':(kk:Int)<(tl:Int):=by omega
    go_wp2
    go_ret
    exact ⟨ret_bool (by rw [HF.out,all_fails (d:=row0) HI.out (by rw [HR.out,decide_eq_false (p:=tl<=kk) (by omega)]; rfl)]; rfl),HB.out.2.trans HX.out.2⟩
   ·have q1':¬ (kk:Int)<(tl:Int):=by omega
    by_cases q2:100<nm.size
    ·have q2':(100:Int)<(nm.size:Int):=by omega
     go_wp2
     go_ret
     exact ⟨ret_bool (by rw [HF.out,all_fails (d:=row0) HI.out (by rw [HR.out,decide_eq_false (p:=nm.size<=100) (by omega)]; simp)]; rfl),HB.out.2.trans HX.out.2⟩
    ·have q2':¬ (100:Int)<(nm.size:Int):=by omega
     go_wp2
     go_roundg (n - (i+1))
     case measure=>omega
     case rel=>exact ⟨i+1,by omega,rfl,by go_num,all_next (d:=row0) HI.out HX.out.1 (by rw [HR.out,decide_eq_true (p:=tl<=kk) (by omega),decide_eq_true (p:=nm.size<=100) (by omega)]; rfl),HX.out.2⟩
  ·obtain rfl:i=n:=by omega
   have HF2:Hid (fewP p k m=(decide (vn<=k) && decide (i<=m))):=bH (by
    have:=HX.out.1
    rw [List.take_of_length_le (by rw [HN.out]; exact Nat.le_refl _)] at this
    rw [HF.out,this]; rfl)
   by_cases q1:vn<=k
   ·have q1':(vn:Int)<=(k:Int):=by omega
    by_cases q2:i<=m
    ·have q2':(i:Int)<=(m:Int):=by omega
     go_wp2
     go_ret
     exact ⟨ret_bool (by rw [HF2.out,decide_eq_true q1,decide_eq_true q2]; rfl),HB.out.2.trans HX.out.2⟩
    ·have q2':¬ (i:Int)<=(m:Int):=by omega
     go_wp2
     go_ret
     exact ⟨ret_bool (by rw [HF2.out,decide_eq_true q1,decide_eq_false q2]; rfl),HB.out.2.trans HX.out.2⟩
   ·have q1':¬ (vn:Int)<=(k:Int):=by omega
    go_wp2
    go_ret
    exact ⟨ret_bool (by rw [HF2.out,decide_eq_false q1]; rfl),HB.out.2.trans HX.out.2⟩
end Go.Proofs.YtlbjfkdgbhkdcaaGreatDoor
