/-
  Texts of the proof, part 1. Conditions: each lemma names its own.
-/
import Derived.Test.YtbgienfcmdgaaaaGreatZ11
import Derived.Test.YtbgienfcmdgaaaaGreatZ4
import Derived.Test.YtbgienfcmdgaaaaGreatZ5
import Derived.Test.YtbgienfcmdgaaaaGreatZ6
import Derived.OpenShut
import Derived.ShutString
import Derived.ChangeOld
import Derived.Deep.Slices
import Derived.Lib.SmallJoins
import Derived.Maps.RangeWalk
set_option linter.unusedVariables false
set_option linter.unusedSimpArgs false
set_option maxRecDepth 100000
set_option maxHeartbeats 16000000
namespace Go.Proofs.YtbgienfcmdgaaaaGreat
open Go.RowKit Go.MapKept
open Go.ChangeMaps (setBlock)
open Go.ChangeShapes Go.WideShapes Go.ChangeAt Go.RowKit Go.Deep
set_option linter.unusedVariables false
theorem own:ownKnob Tryz.prog.godebug=none:=by kernel_rfl
theorem laidOut:laidOutB Tryz.prog=true:=by kernel_rfl
section
variable {H:Type} {enc:TypeId × Value->H} {w:World} {base:Nat} {spare:Nat->Bool} {held:Bool}
theorem struct_field {P:Program} {t:TypeId} {fs:Array Field} {fuel:Nat} {cs:List Value} {x:DataW H × List MemPlace} (ht:P.underlying t=some (.struct fs)) (h:DataW.trod enc P w base spare held fuel t cs=some x)
  (i:Nat) {f:Field} (hi:fs[i]?=some f) {ty off n:Nat} (h1:f.type=ty) (h2:f.offset=off) (h3:P.cellsOf ty=n):∃ m y,DataW.trod enc P w base spare held m ty ((cs.drop off).take n)=some y:=by
 obtain ⟨xs,m,_,_,hl,hxl,hf⟩:=DataW.trod_struct ht h
 subst h1 h2 h3
 have hlt:i<xs.length:=by rw [hxl]; exact (Array.getElem?_eq_some_iff.1 hi).1
 exact ⟨m,_,(hf i f hi).trans (List.getElem?_eq_getElem hlt)⟩
theorem struct_length {P:Program} {t:TypeId} {fs:Array Field} {fuel:Nat} {cs:List Value} {x:DataW H × List MemPlace} (ht:P.underlying t=some (.struct fs)) (h:DataW.trod enc P w base spare held fuel t cs=some x) {n:Nat} (h3:P.cellsOf t=n):cs.length=n:=by
 obtain ⟨xs,m,_,_,hl,hxl,hf⟩:=DataW.trod_struct ht h
 rw [hl,h3]
theorem list_of {α:Type} {R:List Value->α->Prop}:∀ {css:List (List Value)},(∀ c ∈ css,∃ x,R c x)->∃ l:List α,l.length=css.length/\∀ (i:Nat) c x,css[i]?=some c->l[i]?=some x->R c x
 | [],_=>⟨[],rfl,fun i c x h=>by simp at h⟩
 | c :: css,h=>by
  obtain ⟨x,hx⟩:=h c (by simp)
  obtain ⟨l,h1,h2⟩:=list_of (css:=css) (fun c hc=>h c (by simp [hc]))
  refine ⟨x :: l,by simp [h1],fun i c' x' hc hx'=>?_⟩
  cases i with
  | zero=>simp at hc hx'; subst hc hx'; exact hx
  | succ i=>simp at hc hx'; exact h2 i c' x' hc hx'
theorem map_of {α:Type} {f:α->List Value} {Q:α->Prop} {css:List (List Value)} (h:∀ c ∈ css,∃ x,c=f x/\Q x):∃ l:List α,css=l.map f/\∀ x ∈ l,Q x:=by
 obtain ⟨l,h1,h2⟩:=list_of (R:=fun c x=>c=f x/\Q x) h
 refine ⟨l,List.ext_getElem? fun i=>?_,fun x hx=>?_⟩
 ·rw [List.getElem?_map]
  by_cases hi:i<l.length
  ·rw [List.getElem?_eq_getElem hi,List.getElem?_eq_getElem (by omega:i<css.length)]
   simp only [Option.map_some]
   exact congrArg some (h2 i _ _ (List.getElem?_eq_getElem (by omega)) (List.getElem?_eq_getElem hi)).1
  ·rw [List.getElem?_eq_none (by omega),List.getElem?_eq_none (by omega)]; rfl
 ·obtain ⟨i,hi,rfl⟩:=List.getElem_of_mem hx
  exact (h2 i _ _ (List.getElem?_eq_getElem (by omega)) (List.getElem?_eq_getElem hi)).2
theorem open_sl {t e:TypeId} {m:Nat} {fuel:Nat} {cs:List Value} {x:DataW H × List MemPlace} (ht:Tryz.prog.underlying t=some (.slice e)) (hc:Tryz.prog.cellsOf e=m) (hm:0<m) {R:List Value->Prop}
  (he:∀ fuel cs x,DataW.trod enc Tryz.prog w base spare held fuel e cs=some x->R cs) (h:DataW.trod enc Tryz.prog w base spare held fuel t cs=some x) :
  ∃ v css,cs=[v]/\Sl w v m css/\∀ c ∈ css,R c:=by
 rcases open_slice ht h with ⟨hcs,_⟩ | ⟨a,l,c,k,n',D,Pl,hcs,_,hlc,hcm,hk,_,hel⟩
 ·exact ⟨_,[],hcs,Sl.nil w m,by simp⟩
 ·have hlk:l<=k:=by rw [hk]; split <;> omega
  have hel':∀ i,i<l->∃ c':List Value,c'.length=m/\R c'/\∀ j u,c'[j]?=some u->w.cell? ((a.add (i*m)).add j)=some u:=fun i hi=>by
   obtain ⟨cs',h1,h2⟩:=hel i (by omega)
   rw [hc] at h1
   obtain ⟨_,hlen,hat⟩:=World.cells?_some h1
   exact ⟨cs',hlen,he _ _ _ h2,fun j u hu=>(hat j (by have:=(List.getElem?_eq_some_iff.1 hu).1; omega)).trans hu⟩
  obtain ⟨css,h1,h2⟩:∃ css:List (List Value),css.length=l/\∀ i (h:i<css.length),css[i].length=m/\R css[i]/\∀ j u,css[i][j]?=some u->w.cell? ((a.add (i*m)).add j)=some u:=by
   refine ⟨List.ofFn fun i:Fin l=>Classical.choose (hel' i i.2),by simp,fun i hi=>?_⟩
   simp at hi
   have:=Classical.choose_spec (hel' i hi)
   simpa using this
  subst h1
  refine ⟨_,css,hcs,⟨some a,c,rfl,hlc,hcm,(fun e=>by cases e),fun hp=>?_⟩,fun c' hc'=>?_⟩
  ·obtain ⟨b,off,spot⟩:=a
   obtain ⟨e1,_,e3⟩:=h2 0 hp
   have e4:=e3 0 _ (List.getElem?_eq_getElem (by omega))
   have hspot:spot=none:=by simpa [Addr.add] using World.cell?_spot e4
   subst hspot
   refine ⟨b,off,rfl,by have:=World.block_lt_of_cell? w _ e4; simpa [Addr.add_lit] using this,fun i r hi j u hu=>?_⟩
   obtain ⟨hi',rfl⟩:=List.getElem?_eq_some_iff.1 hi
   have:=(h2 i hi').2.2 j u hu
   simpa [Addr.add_lit,Nat.add_assoc] using this
  ·obtain ⟨i,hi,rfl⟩:=List.getElem_of_mem hc'
   exact (h2 i hi).2.1
theorem cellsInt:Tryz.prog.cellsOf 3=1:=by kernel_rfl
theorem cellsI64:Tryz.prog.cellsOf 2=1:=by kernel_rfl
theorem cellsBool:Tryz.prog.cellsOf 4=1:=by kernel_rfl
theorem cellsStr:Tryz.prog.cellsOf 9=1:=by kernel_rfl
theorem cellsTerm:Tryz.prog.cellsOf 76=2:=by kernel_rfl
theorem cellsTerms:Tryz.prog.cellsOf 56=1:=by kernel_rfl
theorem cellsVar:Tryz.prog.cellsOf 63=5:=by kernel_rfl
theorem cellsVars:Tryz.prog.cellsOf 22=1:=by kernel_rfl
theorem cellsRow:Tryz.prog.cellsOf 58=5:=by kernel_rfl
theorem cellsRows:Tryz.prog.cellsOf 23=1:=by kernel_rfl
theorem cellsProgram:Tryz.prog.cellsOf 25=2:=by kernel_rfl
theorem inR_of {k:IntKind} {a:Int} (hk:k=.i64) (h:(Lit.int k a).wf=true):InR a:=by
 subst hk
 simp [Lit.wf,IntKind.min,IntKind.max,IntKind.signed,IntKind.bits] at h
 unfold InR
 omega
theorem open_var {fuel:Nat} {cs:List Value} {x:DataW H × List MemPlace} (h:DataW.trod enc Tryz.prog w base spare held fuel 63 cs=some x):∃ v:VarV,cs=cV v/\VarOk v:=by
 have hl:=struct_length Tryz.underlying63 h cellsVar
 obtain ⟨_,_,f0⟩:=struct_field Tryz.underlying63 h 0 rfl rfl rfl cellsI64
 obtain ⟨_,_,f1⟩:=struct_field Tryz.underlying63 h 1 rfl rfl rfl cellsI64
 obtain ⟨_,_,f2⟩:=struct_field Tryz.underlying63 h 2 rfl rfl rfl cellsBool
 obtain ⟨_,_,f3⟩:=struct_field Tryz.underlying63 h 3 rfl rfl rfl cellsBool
 obtain ⟨_,_,f4⟩:=struct_field Tryz.underlying63 h 4 rfl rfl rfl cellsI64
 clear h
 obtain ⟨a0,h0,_,b0⟩:=DataW.trod_int Tryz.underlying2 f0
 obtain ⟨a1,h1,_,b1⟩:=DataW.trod_int Tryz.underlying2 f1
 obtain ⟨a2,h2,_⟩:=DataW.trod_bool Tryz.underlying4 f2
 obtain ⟨a3,h3,_⟩:=DataW.trod_bool Tryz.underlying4 f3
 obtain ⟨a4,h4,_,b4⟩:=DataW.trod_int Tryz.underlying2 f4
 clear f0 f1 f2 f3 f4
 match cs,hl with
 | [c0,c1,c2,c3,c4],_ =>
  simp at h0 h1 h2 h3 h4
  exact ⟨⟨a0,a1,a2,a3,a4⟩,by rw [h0,h1,h2,h3,h4]; rfl,inR_of rfl b0,inR_of rfl b1,inR_of rfl b4⟩
theorem open_term {fuel:Nat} {cs:List Value} {x:DataW H × List MemPlace} (h:DataW.trod enc Tryz.prog w base spare held fuel 76 cs=some x):∃ t:TermV,cs=cT t/\TermOk t:=by
 have hl:=struct_length Tryz.underlying76 h cellsTerm
 obtain ⟨_,_,f0⟩:=struct_field Tryz.underlying76 h 0 rfl rfl rfl cellsInt
 obtain ⟨_,_,f1⟩:=struct_field Tryz.underlying76 h 1 rfl rfl rfl cellsI64
 clear h
 obtain ⟨a0,h0,_,b0⟩:=DataW.trod_int Tryz.underlying3 f0
 obtain ⟨a1,h1,_,b1⟩:=DataW.trod_int Tryz.underlying2 f1
 clear f0 f1
 match cs,hl with
 | [c0,c1],_ =>
  simp at h0 h1
  exact ⟨⟨a0,a1⟩,by rw [h0,h1]; rfl,inR_of rfl b0,inR_of rfl b1⟩
theorem open_terms {fuel:Nat} {cs:List Value} {x:DataW H × List MemPlace} (h:DataW.trod enc Tryz.prog w base spare held fuel 56 cs=some x):∃ v l,cs=[v]/\Tms w v l:=by
 obtain ⟨v,css,rfl,hs,hc⟩:=open_sl Tryz.underlying56 cellsTerm (by decide) (fun _ _ _ h=>open_term h) h
 obtain ⟨l,rfl,hl⟩:=map_of hc
 exact ⟨v,l,rfl,hs,hl⟩
theorem open_row {fuel:Nat} {cs:List Value} {x:DataW H × List MemPlace} (h:DataW.trod enc Tryz.prog w base spare held fuel 58 cs=some x):∃ y:RowV × Value,cs=cR y.1 y.2/\Tms w y.2 y.1.terms/\RowOk y.1:=by
 have hl:=struct_length Tryz.underlying58 h cellsRow
 obtain ⟨_,_,f0⟩:=struct_field Tryz.underlying58 h 0 rfl rfl rfl cellsStr
 obtain ⟨_,_,f1⟩:=struct_field Tryz.underlying58 h 1 rfl rfl rfl cellsInt
 obtain ⟨_,_,f2⟩:=struct_field Tryz.underlying58 h 2 rfl rfl rfl cellsInt
 obtain ⟨_,_,f3⟩:=struct_field Tryz.underlying58 h 3 rfl rfl rfl cellsTerms
 obtain ⟨_,_,f4⟩:=struct_field Tryz.underlying58 h 4 rfl rfl rfl cellsI64
 clear h
 obtain ⟨a0,h0,_,b0⟩:=DataW.trod_string Tryz.underlying9 f0
 obtain ⟨a1,h1,_,b1⟩:=DataW.trod_int Tryz.underlying3 f1
 obtain ⟨a2,h2,_,b2⟩:=DataW.trod_int Tryz.underlying3 f2
 obtain ⟨v3,l3,h3,b3⟩:=open_terms f3
 obtain ⟨a4,h4,_,b4⟩:=DataW.trod_int Tryz.underlying2 f4
 clear f0 f1 f2 f3 f4
 match cs,hl with
 | [c0,c1,c2,c3,c4],_ =>
  simp at h0 h1 h2 h3 h4
  exact ⟨⟨⟨a0,a1,a2,l3,a4⟩,v3⟩,by rw [h0,h1,h2,h3,h4]; rfl,b3,b0,inR_of rfl b1,inR_of rfl b2,inR_of rfl b4⟩
theorem open_prog {fuel:Nat} {cs:List Value} {x:DataW H × List MemPlace} (h:DataW.trod enc Tryz.prog w base spare held fuel 25 cs=some x):∃ p:ProgV,IsPrg w (.agg cs.toArray) p:=by
 have hl:=struct_length Tryz.underlying25 h cellsProgram
 obtain ⟨_,_,f0⟩:=struct_field Tryz.underlying25 h 0 rfl rfl rfl cellsVars
 obtain ⟨_,_,f1⟩:=struct_field Tryz.underlying25 h 1 rfl rfl rfl cellsRows
 clear h
 obtain ⟨v0,c0,e0,s0,k0⟩:=open_sl Tryz.underlying22 cellsVar (by decide) (fun _ _ _ h=>open_var h) f0
 obtain ⟨v1,c1,e1,s1,k1⟩:=open_sl Tryz.underlying23 cellsRow (by decide) (fun _ _ _ h=>open_row h) f1
 clear f0 f1
 obtain ⟨l0,rfl,g0⟩:=map_of k0
 obtain ⟨l1,n1,g1⟩:=list_of (R:=fun c (y:RowV × Value)=>c=cR y.1 y.2/\Tms w y.2 y.1.terms/\RowOk y.1) k1
 have hz:c1=List.zipWith cR (l1.map (·.1)) (l1.map (·.2)):=by
  apply List.ext_getElem?
  intro i
  rw [List.getElem?_zipWith,List.getElem?_map,List.getElem?_map]
  by_cases hi:i<l1.length
  ·rw [List.getElem?_eq_getElem hi,List.getElem?_eq_getElem (by omega:i<c1.length)]
   simp only [Option.map_some]
   exact congrArg some (g1 i _ _ (List.getElem?_eq_getElem (by omega)) (List.getElem?_eq_getElem hi)).1
  ·rw [List.getElem?_eq_none (by omega),List.getElem?_eq_none (by omega)]; rfl
 rw [hz] at s1
 match cs,hl with
 | [d0,d1],_ =>
  simp at e0 e1
  subst e0 e1
  refine ⟨⟨l0,l1.map (·.1)⟩,_,_,rfl,⟨s0,g0⟩,l1.map (·.2),by simp,s1,fun i r tv hr ht=>?_⟩
  rw [List.getElem?_map] at hr ht
  obtain ⟨y,hy,rfl⟩:=Option.map_eq_some_iff.1 hr
  rw [hy] at ht
  cases ht
  have hi:=(List.getElem?_eq_some_iff.1 hy).1
  exact (g1 i _ _ (List.getElem?_eq_getElem (by omega)) hy).2
end
open Go.Joins in
theorem open_prog_value {H:Type} {enc:TypeId × Value->H} {w:World} {base:Nat} {spare:Nat->Bool} {held:Bool} {r:Reach} {b0:Nat} {v:Value} {d:DataW H} {p:List MemPlace} (hv:Value.okWide Tryz.prog w r b0 25 v) (h:DataW.Trod enc Tryz.prog w base spare held 25 v d p) :
  ∃ y:ProgV,IsPrg w v y:=by
 obtain ⟨cs,rfl,hsz⟩:=okWide_struct Tryz.underlying25 hv
 obtain ⟨fuel,hf⟩:=h
 obtain ⟨y,hy⟩:=open_prog hf
 refine ⟨y,?_⟩
 simpa [Value.cells] using hy
theorem Rats_same (w:World) (v v':Value) (l:List Rat) (L:Nat) (h:CRats w v l L) (h':CRats w v' l L) (hL:L<=268435455):Calls Tryz.prog 88 #[v,v'] w (BoolPost w true):=by
 obtain ⟨ao,c,rfl,-,hn,-⟩:=h.shape
 obtain ⟨ao',c',rfl,-,-,-⟩:=h'.shape
 have HC:=bH (fun W (hW:XF w W)=>bI (h.keep hW) (h'.keep hW))
 clear h h'
 obtain ⟨n,hn'⟩:∃ n,l.length=n:=⟨_,rfl⟩
 have HN:=bH hn'
 rw [hn'] at HC hn ⊢
 clear hn'
 go_enter Tryz.func88,Tryz.ntmps88
 go_wp2_with fail
 go_loopg [5] n (fun gg v5 wr=>∃ i:Nat,i<=n/\gg=n - i/\v5=.int .i64 i/\XF w wr)
 case atStart=>exact ⟨0,Nat.zero_le _,rfl,rfl,Ext.refl _ _⟩
 case round =>
  obtain ⟨i,hi,rfl,rfl,hx⟩:=hrel
  by_cases hin:i<n
  ·have i0:(i:Int)<(n:Int):=by omega
   have i1:(0:Int)<=(i:Int):=by omega
   obtain ⟨b,off,ng,a1,m1,c1,a2,m2,c2,rfl,hlt,g0,g1,g2,hq,hz⟩:=(HC.out wr hx).1.at i (by rw [HN.out]; exact hin)
   obtain ⟨b',off',ng',a1',m1',c1',a2',m2',c2',rfl,hlt',k0,k1,k2,hq',hz'⟩:=(HC.out wr hx).2.at i (by rw [HN.out]; exact hin)
   have HX:=bH hx
   have HS:=bH (fun W (hW:XF wr W)=>show Calls Tryz.prog 44 #[.agg #[.bool ng,.slice a1 m1 c1,.slice a2 m2 c2],.agg #[.bool ng',.slice a1' m1' c1',.slice a2' m2' c2']] W (BoolPost W true) from by
    have h9:=Rrsame_any W _ _ _ _ L (hq.keep hW) (hq'.keep hW) hz hz' hL
    rw [decide_eq_true rfl] at h9
    exact h9)
   clear hq hz hq' hz' hx
   have c0:=cqo (S:=fun _=>False) g0 id
   have c1':=cqo (S:=fun _=>False) g1 id
   have c2':=cqo (S:=fun _=>False) g2 id
   have d0:=cqo (S:=fun _=>False) k0 id
   have d1:=cqo (S:=fun _=>False) k1 id
   have d2:=cqo (S:=fun _=>False) k2 id
   clear g0 g1 g2 k0 k1 k2
   go_upto_region 6 with fail
   refine wp_region_held_drew (S:=(XF wr)) (by kernel_rfl) ((Ext.refl _ wr).drew) (fun hHeld=>?_)
   refine ht 0 (h:=(ht 1 (h:=(ht 2 (h:=(ht 3 (h:=(ht 4 (h:=(ht 5 (h:=(ht 6 (h:=(ht 7 (h:=?_)))))))))))))))
   (try go_frame)
   refine hst 8 (h:=fun K hK=>?_)
   (go_simp; go_at_call 44; (with_reducible refine (HS.out _ hHeld).mono ?_); rintro q1 w11 ⟨rfl,hx11⟩; have hX1:=hHeld.trans hx11)
   refine hK.out _ _ (hX1) (fun hHeld=>?_)
   clear hK K
   (try go_frame)
   refine ht 9 (h:=?_)
   (try go_frame)
   refine wpAnyH_done (by kernel_rfl) ?_ _
   go_wp2
   go_roundg (n - (i+1))
   case measure=>omega
   case rel=>exact ⟨i+1,by omega,rfl,by go_num,HX.out.trans hX1⟩
  ·obtain rfl:i=n:=by omega
   have HX:=bH hx
   clear hx
   go_wp2
   go_ret
   exact ⟨rfl,HX.out⟩
theorem Same5_any (w:World) (v v':Value) (o:OutV) (L:Nat) (h:IsOutC w v o L) (h':IsOutC w v' o L) (hL:L<=268435455):Calls Tryz.prog 40 #[v,v'] w (BoolPost w true):=by
 obtain ⟨ng,a1,m1,c1,a2,m2,c2,pv,mv,rv,rfl,h1,h2,h3,h4,h5⟩:=h
 obtain ⟨ng',a1',m1',c1',a2',m2',c2',pv',mv',rv',rfl,k1,k2,k3,k4,k5⟩:=h'
 obtain ⟨po,pc,rfl,-,-,-⟩:=h2.shape
 obtain ⟨mo,mc,rfl,-,-,-⟩:=h3.shape
 obtain ⟨ro,rc,rfl,-,-,-⟩:=h4.shape
 obtain ⟨po',pc',rfl,-,-,-⟩:=k2.shape
 obtain ⟨mo',mc',rfl,-,-,-⟩:=k3.shape
 obtain ⟨ro',rc',rfl,-,-,-⟩:=k4.shape
 have HS:=bH (fun W (hW:XF w W)=>show Calls Tryz.prog 44 #[.agg #[.bool ng,.slice a1 m1 c1,.slice a2 m2 c2],.agg #[.bool ng',.slice a1' m1' c1',.slice a2' m2' c2']] W (BoolPost W true) from by
  have h9:=Rrsame_any W _ _ _ _ L (h1.1.keep hW) (k1.1.keep hW) h1.2 k1.2 hL
  rw [decide_eq_true rfl] at h9
  exact h9)
 have HP:=bH (fun W (hW:XF w W)=>Rats_same W _ _ _ L (h2.keep hW) (k2.keep hW) hL)
 have HM:=bH (fun W (hW:XF w W)=>Rats_same W _ _ _ L (h3.keep hW) (k3.keep hW) hL)
 have HR:=bH (fun W (hW:XF w W)=>Rats_same W _ _ _ L (h4.keep hW) (k4.keep hW) hL)
 clear h1 h2 h3 h4 h5 k1 k2 k3 k4 k5
 generalize o.kind=kd at *
 generalize o.pt.length=pn at *
 generalize o.mu.length=mn at *
 generalize o.ray.length=rn at *
 have HB0:=bH (show XF w ((w.alloc (.cells #[.int .i64 kd,.bool ng,.slice a1 m1 c1,.slice a2 m2 c2,.slice po pn pc,.slice mo mn mc,.slice ro rn rc] 34)).alloc (.cells #[.int .i64 kd,.bool ng',.slice a1' m1' c1',.slice a2' m2' c2',.slice po' pn pc',.slice mo' mn mc',.slice ro' rn rc'] 34))/\blk ((w.alloc (.cells #[.int .i64 kd,.bool ng,.slice a1 m1 c1,.slice a2 m2 c2,.slice po pn pc,.slice mo mn mc,.slice ro rn rc] 34)).alloc (.cells #[.int .i64 kd,.bool ng',.slice a1' m1' c1',.slice a2' m2' c2',.slice po' pn pc',.slice mo' mn mc',.slice ro' rn rc'] 34)) w.heap.size=some (.cells #[.int .i64 kd,.bool ng,.slice a1 m1 c1,.slice a2 m2 c2,.slice po pn pc,.slice mo mn mc,.slice ro rn rc] 34 (0,0))/\blk ((w.alloc (.cells #[.int .i64 kd,.bool ng,.slice a1 m1 c1,.slice a2 m2 c2,.slice po pn pc,.slice mo mn mc,.slice ro rn rc] 34)).alloc (.cells #[.int .i64 kd,.bool ng',.slice a1' m1' c1',.slice a2' m2' c2',.slice po' pn pc',.slice mo' mn mc',.slice ro' rn rc'] 34)) (w.heap.size+1)=some (.cells #[.int .i64 kd,.bool ng',.slice a1' m1' c1',.slice a2' m2' c2',.slice po' pn pc',.slice mo' mn mc',.slice ro' rn rc'] 34 (0,0)) from by
  refine ⟨((Ext.refl (fun _=>False) w).alloc _).alloc _,blk_keep (blk_alloc_at _ _) ((Ext.refl (fun _=>False) _).alloc _),?_⟩
  have:=blk_alloc_at (w.alloc (.cells #[.int .i64 kd,.bool ng,.slice a1 m1 c1,.slice a2 m2 c2,.slice po pn pc,.slice mo mn mc,.slice ro rn rc] 34)) (.cells #[.int .i64 kd,.bool ng',.slice a1' m1' c1',.slice a2' m2' c2',.slice po' pn pc',.slice mo' mn mc',.slice ro' rn rc'] 34)
  simpa using this)
 go_enter Tryz.func40,Tryz.ntmps40
 go_upto_region 1 with fail
 generalize ((w.alloc (.cells #[.int .i64 kd,.bool ng,.slice a1 m1 c1,.slice a2 m2 c2,.slice po pn pc,.slice mo mn mc,.slice ro rn rc] 34)).alloc (.cells #[.int .i64 kd,.bool ng',.slice a1' m1' c1',.slice a2' m2' c2',.slice po' pn pc',.slice mo' mn mc',.slice ro' rn rc'] 34))=w0 at *
 obtain ⟨q0,hq0⟩:∃ q,w.heap.size+1=q:=⟨_,rfl⟩
 rw [hq0] at HB0 ⊢
 clear hq0
 obtain ⟨p0,hp0⟩:∃ q,w.heap.size=q:=⟨_,rfl⟩
 rw [hp0] at HB0 ⊢
 clear hp0
 have HB:=bH HB0.out
 clear HB0
 have g0:=cellq HB.out.2.1 0 rfl
 have k0:=cellq HB.out.2.2 0 rfl
 have g1:=cellq HB.out.2.1 1 rfl
 have k1:=cellq HB.out.2.2 1 rfl
 have g2:=cellq HB.out.2.1 2 rfl
 have k2:=cellq HB.out.2.2 2 rfl
 have g3:=cellq HB.out.2.1 3 rfl
 have k3:=cellq HB.out.2.2 3 rfl
 go_wp2_with (first | (go_at_call 44; refine (HS.out _ HB.out.1).mono ?_; rintro r1 w1 ⟨rfl,hx1⟩; have g4:=cellq (blk_keep HB.out.2.1 hx1) 4 rfl; have k4:=cellq (blk_keep HB.out.2.2 hx1) 4 rfl) | (go_at_call 88; first | (refine (HR.out _ (((HB.out.1.trans hx1).trans hx2).trans hx3)).mono ?_; rintro r4 w4 ⟨rfl,hx4⟩) | (refine (HM.out _ ((HB.out.1.trans hx1).trans hx2)).mono ?_; rintro r3 w3 ⟨rfl,hx3⟩; have g6:=cellq (blk_keep HB.out.2.1 ((hx1.trans hx2).trans hx3)) 6 rfl; have k6:=cellq (blk_keep HB.out.2.2 ((hx1.trans hx2).trans hx3)) 6 rfl) | (refine (HP.out _ (HB.out.1.trans hx1)).mono ?_; rintro r2 w2 ⟨rfl,hx2⟩; have g5:=cellq (blk_keep HB.out.2.1 (hx1.trans hx2)) 5 rfl; have k5:=cellq (blk_keep HB.out.2.2 (hx1.trans hx2)) 5 rfl)))
 go_ret
 exact ⟨rfl,(((HB.out.1.trans hx1).trans hx2).trans hx3).trans hx4⟩
theorem room_few {n m:Nat} (hn:n<=6) (hm:m<=8):Room n m 12 1200:=by
 refine ⟨by omega,?_⟩
 have e1:m*(12*(1200+3)+2)<=8*14438:=Nat.mul_le_mul hm (by omega)
 have e2:(n+1)*(m*(12*(1200+3)+2)+7)<=7*115511:=Nat.mul_le_mul (by omega) (by omega)
 have e3:m*(1200+3)<=8*1203:=Nat.mul_le_mul hm (by omega)
 have e4:n*(1200+3)<=6*1203:=Nat.mul_le_mul hn (by omega)
 omega
theorem few_parts {p:ProgV} (h:fewP p 6 8=true):Small p 12 1200/\p.vars.length<=6/\p.rows.length<=8:=by
 unfold fewP at h
 simp only [Bool.and_eq_true,decide_eq_true_eq,List.all_eq_true] at h
 refine ⟨⟨room_few h.1.2 h.2,fun i hi=>?_⟩,h.1.2,h.2⟩
 have hm:p.r i ∈ p.rows:=by
  unfold ProgV.r
  rw [getD_lt hi]; exact List.getElem_mem hi
 have:=h.1.1 _ hm
 unfold fewRow at this
 simp only [Bool.and_eq_true,decide_eq_true_eq] at this
 omega
theorem Solve_few (w:World) (pv:Value) (p:ProgV) (hp:IsPrg w pv p) (h:fewP p 6 8=true):Calls Tryz.prog 37 #[pv] w (SolvePost w p 1200):=by
 obtain ⟨_,hn,hm⟩:=few_parts h
 have h1:(p.vars.length+1)*(168+8)<=7*(168+8):=Nat.mul_le_mul_right _ (by omega)
 have h2:(p.vars.length+1)*(168+1)<=7*(168+1):=Nat.mul_le_mul_right _ (by omega)
 have h3:p.vars.length*(168+6)<=6*(168+6):=Nat.mul_le_mul_right _ hn
 exact Solve_any w pv p 168 1200 hp (fun hv=>bndAll6 hv hn) (by omega) (by omega) (by omega) (by omega) (by omega) (by omega) (by omega) (by omega)
theorem Proved_few (w:World) (pv ov:Value) (p:ProgV) (o:OutV) (e:Int) (hp:IsPrg w pv p) (ho:IsOutC w ov o 1200) (h:fewP p 6 8=true) (hv:validB p=true) (hs:SolveV p o e):Calls Tryz.prog 41 #[pv,ov] w (BoolPost w true):=by
 have h9:=Proved5_any w pv ov p o 1200 12 hp ho (few_parts h).1
 rw [prB_chk hs hv] at h9
 exact h9
theorem none_out (w:World) (L:Nat) (h:1<=L):IsOutC w (.agg #[.int .i64 0,.bool false,.slice none 0 0,.slice none 0 0,.slice none 0 0,.slice none 0 0,.slice none 0 0]) outNone L:=⟨false,none,0,0,none,0,0,_,_,_,rfl,⟨IsRat.zero _,Sz.zero.mono h⟩,CRats.nil _ _,CRats.nil _ _,CRats.nil _ _,(show InR (0:Int) from ⟨by decide,by decide⟩)⟩
theorem IsPrg.slices5 {w:World} {pv:Value} {p:ProgV} (h:IsPrg w pv p):∃ vo vn vc ro rn rc,pv=.agg #[.slice vo vn vc,.slice ro rn rc]:=by
 obtain ⟨vv,rv,rfl,hv,hr⟩:=h
 obtain ⟨vo,vc,rfl,-⟩:=hv.shape
 obtain ⟨ro,rc,rfl,-⟩:=hr.shape
 exact ⟨_,_,_,_,_,_,rfl⟩
theorem proves_core (w:World) (pv:Value) (p:ProgV) (hp:IsPrg w pv p):Calls Tryz.prog 9 #[pv] w (BoolPost w true):=by
 obtain ⟨vo,vn,vc,ro,rn,rc,rfl⟩:=hp.slices5
 have hxa:=(Ext.refl (fun _=>False) w).alloc (.cells #[.slice vo vn vc,.slice ro rn rc] 25)
 have HB:=bH (bI (hp.keep hxa) (bI (blk_alloc_at w (.cells #[.slice vo vn vc,.slice ro rn rc] 25)) hxa))
 clear hp hxa
 go_enter Tryz.func9,Tryz.ntmps9
 go_upto_region 1 with fail
 generalize w.alloc (.cells #[.slice vo vn vc,.slice ro rn rc] 25)=w1 at *
 obtain ⟨pb,hpb⟩:∃ q,w.heap.size=q:=⟨_,rfl⟩
 rw [hpb] at HB ⊢
 clear hpb
 have p0:w1.cell? ⟨pb,0,none⟩=some (.slice vo vn vc):=cellq HB.out.2.1 0 rfl
 have p1:w1.cell? ⟨pb,1,none⟩=some (.slice ro rn rc):=cellq HB.out.2.1 1 rfl
 have HF:=bH (fun W (hW:XF w1 W)=>FewP_any W (.agg #[.slice vo vn vc,.slice ro rn rc]) p 6 8 (by decide) (by decide) (HB.out.1.keep hW))
 have HV:=bH (fun W (hW:XF w1 W)=>Valid4_any W (.agg #[.slice vo vn vc,.slice ro rn rc]) p (HB.out.1.keep hW))
 have HS:=bH (fun W (hW:XF w1 W) (hf:fewP p 6 8=true)=>Solve_few W (.agg #[.slice vo vn vc,.slice ro rn rc]) p (HB.out.1.keep hW) hf)
 obtain ⟨fb,hfb⟩:∃ fb,fewP p 6 8=fb:=⟨_,rfl⟩
 rw [hfb] at HF
 have HFb:=bH hfb
 clear hfb
 cases fb with
 | false =>
  go_upto_region 2 with (first | (go_at_call 38; refine (awake5_any _).mono ?_; rintro r2 w2 ⟨rfl,hx2⟩; replace p0:=cell_keep p0 hx2; replace p1:=cell_keep p1 hx2) | (go_at_call 39; refine (HF.out _ hx2).mono ?_; rintro r3 w3 ⟨rfl,hx3⟩))
  go_wp2_with (go_at_call 38; refine (awake5_any _).mono ?_; rintro r4 w4 ⟨rfl,hx4⟩)
  go_ret
  exact ⟨rfl,((HB.out.2.2.trans hx2).trans hx3).trans hx4⟩
 | true =>
  go_upto_region 3 with (first | (go_at_call 38; refine (awake5_any _).mono ?_; rintro r2 w2 ⟨rfl,hx2⟩; replace p0:=cell_keep p0 hx2; replace p1:=cell_keep p1 hx2) | (go_at_call 39; refine (HF.out _ hx2).mono ?_; rintro r3 w3 ⟨rfl,hx3⟩))
  have HX3:=bH (hx2.trans hx3)
  replace p0:=cell_keep p0 hx3
  replace p1:=cell_keep p1 hx3
  clear hx2 hx3 HF
  obtain ⟨vb,hvb⟩:∃ vb,validB p=vb:=⟨_,rfl⟩
  rw [hvb] at HV
  have HVb:=bH hvb
  clear hvb
  cases vb with
  | false =>
   go_upto_region 4 with (go_at_call 37; refine (HS.out _ HX3.out HFb.out).mono ?_; rintro r4 w4 ⟨v4,o,e,rfl,hsv,hfar,hx4⟩; obtain ⟨ho,rfl⟩:=hsv.uniq (.bad HVb.out); rw [ho] at hfar; obtain ⟨ng4,a14,m14,c14,a24,m24,c24,pv4,mv4,rv4,e54,ho1,ho2,ho3,ho4,ho5⟩:=hfar.now; obtain ⟨po4,pc4,rfl,-,-,-⟩:=ho2.shape; obtain ⟨mo4,mc4,rfl,-,-,-⟩:=ho3.shape; obtain ⟨ro4,rc4,rfl,-,-,-⟩:=ho4.shape; subst e54; clear ho1 ho2 ho3 ho4 ho5; have HO:=bH (bI hfar.now hx4); replace p0:=cell_keep p0 hx4; replace p1:=cell_keep p1 hx4; clear hsv ho hfar hx4; generalize outNone.kind=kd4 at *; generalize outNone.pt.length=pn4 at *; generalize outNone.mu.length=mn4 at *; generalize outNone.ray.length=rn4 at *)
   have hxa:=(Ext.refl (fun _=>False) w4).alloc (.cells #[.int .i64 kd4,.bool ng4,.slice a14 m14 c14,.slice a24 m24 c24,.slice po4 pn4 pc4,.slice mo4 mn4 mc4,.slice ro4 rn4 rc4] 34)
   have HW5:=bH (bI (HO.out.1.keep hxa) (bI (blk_alloc_at w4 (.cells #[.int .i64 kd4,.bool ng4,.slice a14 m14 c14,.slice a24 m24 c24,.slice po4 pn4 pc4,.slice mo4 mn4 mc4,.slice ro4 rn4 rc4] 34)) ((HX3.out.trans HO.out.2).trans hxa)))
   replace p0:=cell_keep p0 hxa
   replace p1:=cell_keep p1 hxa
   clear hxa HO
   generalize w4.alloc (.cells #[.int .i64 kd4,.bool ng4,.slice a14 m14 c14,.slice a24 m24 c24,.slice po4 pn4 pc4,.slice mo4 mn4 mc4,.slice ro4 rn4 rc4] 34)=w5 at *
   generalize w4.heap.size=ob at *
   go_upto_region 5 with (go_at_call 36; refine (HV.out _ HW5.out.2.2).mono ?_; rintro r6 w6 ⟨rfl,hx6⟩)
   have e0:=cellq (blk_keep HW5.out.2.1 hx6) 0 rfl
   have e1:=cellq (blk_keep HW5.out.2.1 hx6) 1 rfl
   have e2:=cellq (blk_keep HW5.out.2.1 hx6) 2 rfl
   have e3:=cellq (blk_keep HW5.out.2.1 hx6) 3 rfl
   have e4:=cellq (blk_keep HW5.out.2.1 hx6) 4 rfl
   have e5:=cellq (blk_keep HW5.out.2.1 hx6) 5 rfl
   have e6:=cellq (blk_keep HW5.out.2.1 hx6) 6 rfl
   go_wp2_with (go_at_call 40; refine (Same5_any _ _ _ outNone 1200 (HW5.out.1.keep hx6) (none_out _ 1200 (by decide)) (by decide)).mono ?_; rintro r7 w7 ⟨rfl,hx7⟩)
   go_ret
   exact ⟨rfl,((HB.out.2.2.trans HW5.out.2.2).trans hx6).trans hx7⟩
  | true =>
   go_upto_region 4 with (go_at_call 37; refine (HS.out _ HX3.out HFb.out).mono ?_; rintro r4 w4 ⟨v4,o,e,rfl,hsv,hfar,hx4⟩; obtain ⟨rfl,hck⟩:=hsv.chk HVb.out; obtain ⟨ng4,a14,m14,c14,a24,m24,c24,pv4,mv4,rv4,e54,ho1,ho2,ho3,ho4,ho5⟩:=hfar.now; obtain ⟨po4,pc4,rfl,-,-,-⟩:=ho2.shape; obtain ⟨mo4,mc4,rfl,-,-,-⟩:=ho3.shape; obtain ⟨ro4,rc4,rfl,-,-,-⟩:=ho4.shape; subst e54; clear ho1 ho2 ho3 ho4 ho5; have HO:=bH (bI hfar.now hx4); have HSv:=bH hsv; replace p0:=cell_keep p0 hx4; replace p1:=cell_keep p1 hx4; clear hsv hck hfar hx4; generalize o.kind=kd4 at HO ⊢; generalize o.pt.length=pn4 at HO ⊢; generalize o.mu.length=mn4 at HO ⊢; generalize o.ray.length=rn4 at HO ⊢)
   have hxa:=(Ext.refl (fun _=>False) w4).alloc (.cells #[.int .i64 kd4,.bool ng4,.slice a14 m14 c14,.slice a24 m24 c24,.slice po4 pn4 pc4,.slice mo4 mn4 mc4,.slice ro4 rn4 rc4] 34)
   have HW5:=bH (bI (HO.out.1.keep hxa) (bI (blk_alloc_at w4 (.cells #[.int .i64 kd4,.bool ng4,.slice a14 m14 c14,.slice a24 m24 c24,.slice po4 pn4 pc4,.slice mo4 mn4 mc4,.slice ro4 rn4 rc4] 34)) ((HX3.out.trans HO.out.2).trans hxa)))
   replace p0:=cell_keep p0 hxa
   replace p1:=cell_keep p1 hxa
   clear hxa HO
   generalize w4.alloc (.cells #[.int .i64 kd4,.bool ng4,.slice a14 m14 c14,.slice a24 m24 c24,.slice po4 pn4 pc4,.slice mo4 mn4 mc4,.slice ro4 rn4 rc4] 34)=w5 at *
   generalize w4.heap.size=ob at *
   go_upto_region 6 with (go_at_call 36; refine (HV.out _ HW5.out.2.2).mono ?_; rintro r6 w6 ⟨rfl,hx6⟩; replace p0:=cell_keep p0 hx6; replace p1:=cell_keep p1 hx6)
   have HW6:=bH (bI (HW5.out.1.keep hx6) (bI (blk_keep HW5.out.2.1 hx6) (HW5.out.2.2.trans hx6)))
   clear hx6 HW5
   go_upto_region 7 with (go_at_call 37; refine (HS.out _ HW6.out.2.2 HFb.out).mono ?_; rintro r8 w8 ⟨v8,o8,e8,rfl,hsv,hfar,hx8⟩; obtain ⟨ho,rfl⟩:=hsv.uniq HSv.out; rw [ho] at hfar; clear hsv ho; obtain ⟨ng8,a18,m18,c18,a28,m28,c28,pv8,mv8,rv8,e58,ho1,ho2,ho3,ho4,ho5⟩:=hfar.now; obtain ⟨po8,pc8,rfl,-,-,-⟩:=ho2.shape; obtain ⟨mo8,mc8,rfl,-,-,-⟩:=ho3.shape; obtain ⟨ro8,rc8,rfl,-,-,-⟩:=ho4.shape; subst e58; clear ho1 ho2 ho3 ho4 ho5; have HO:=bH (bI hfar.now hx8); replace p0:=cell_keep p0 hx8; replace p1:=cell_keep p1 hx8; clear hfar hx8; generalize o.kind=kd8 at HO ⊢; generalize o.pt.length=pn8 at HO ⊢; generalize o.mu.length=mn8 at HO ⊢; generalize o.ray.length=rn8 at HO ⊢)
   have hxa:=(Ext.refl (fun _=>False) w8).alloc (.cells #[.int .i64 kd8,.bool ng8,.slice a18 m18 c18,.slice a28 m28 c28,.slice po8 pn8 pc8,.slice mo8 mn8 mc8,.slice ro8 rn8 rc8] 34)
   have HW9:=bH (bI (HO.out.1.keep hxa) (bI (blk_alloc_at w8 (.cells #[.int .i64 kd8,.bool ng8,.slice a18 m18 c18,.slice a28 m28 c28,.slice po8 pn8 pc8,.slice mo8 mn8 mc8,.slice ro8 rn8 rc8] 34)) (bI ((HW6.out.2.2.trans HO.out.2).trans hxa) (bI (HW6.out.1.keep (HO.out.2.trans hxa)) (blk_keep HW6.out.2.1 (HO.out.2.trans hxa))))))
   replace p0:=cell_keep p0 hxa
   replace p1:=cell_keep p1 hxa
   clear hxa HO HW6
   generalize w8.alloc (.cells #[.int .i64 kd8,.bool ng8,.slice a18 m18 c18,.slice a28 m28 c28,.slice po8 pn8 pc8,.slice mo8 mn8 mc8,.slice ro8 rn8 rc8] 34)=w9 at *
   generalize w8.heap.size=ob2 at *
   have e0:=cellq HW9.out.2.2.2.2 0 rfl
   have e1:=cellq HW9.out.2.2.2.2 1 rfl
   have e2:=cellq HW9.out.2.2.2.2 2 rfl
   have e3:=cellq HW9.out.2.2.2.2 3 rfl
   have e4:=cellq HW9.out.2.2.2.2 4 rfl
   have e5:=cellq HW9.out.2.2.2.2 5 rfl
   have e6:=cellq HW9.out.2.2.2.2 6 rfl
   go_wp2_with (first | (go_at_call 41; refine (Proved_few _ _ _ p o 0 (HB.out.1.keep HW9.out.2.2.1) HW9.out.2.2.2.1 HFb.out HVb.out HSv.out).mono ?_; rintro r10 w10 ⟨rfl,hx10⟩; have f0:=cellq (blk_keep HW9.out.2.2.2.2 hx10) 0 rfl; have g0:=cellq (blk_keep HW9.out.2.1 hx10) 0 rfl; have f1:=cellq (blk_keep HW9.out.2.2.2.2 hx10) 1 rfl; have g1:=cellq (blk_keep HW9.out.2.1 hx10) 1 rfl; have f2:=cellq (blk_keep HW9.out.2.2.2.2 hx10) 2 rfl; have g2:=cellq (blk_keep HW9.out.2.1 hx10) 2 rfl; have f3:=cellq (blk_keep HW9.out.2.2.2.2 hx10) 3 rfl; have g3:=cellq (blk_keep HW9.out.2.1 hx10) 3 rfl; have f4:=cellq (blk_keep HW9.out.2.2.2.2 hx10) 4 rfl; have g4:=cellq (blk_keep HW9.out.2.1 hx10) 4 rfl; have f5:=cellq (blk_keep HW9.out.2.2.2.2 hx10) 5 rfl; have g5:=cellq (blk_keep HW9.out.2.1 hx10) 5 rfl; have f6:=cellq (blk_keep HW9.out.2.2.2.2 hx10) 6 rfl; have g6:=cellq (blk_keep HW9.out.2.1 hx10) 6 rfl) | (go_at_call 40; refine (Same5_any _ _ _ o 1200 (HW9.out.2.2.2.1.keep hx10) (HW9.out.1.keep hx10) (by decide)).mono ?_; rintro r11 w11 ⟨rfl,hx11⟩))
   go_ret
   exact ⟨rfl,((HB.out.2.2.trans HW9.out.2.2.1).trans hx10).trans hx11⟩
end Go.Proofs.YtbgienfcmdgaaaaGreat
