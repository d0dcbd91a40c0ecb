/-
  Texts of the proof, part 1. Conditions: each lemma names its own.
-/
import Derived.Test.YtbgienfcmdgaaaaGreatZ11
import Derived.Test.YtbgienfcmdgaaaaGreatZ4
import Derived.Test.YtbgienfcmdgaaaaGreatZ5
import Derived.Test.YtbgienfcmdgaaaaGreatZ6
import Derived.OpenShut
import Derived.ShutString
import Derived.ChangeOld
import Derived.Deep.Slices
import Derived.Lib.SmallJoins
import Derived.Maps.RangeWalk
set_option linter.unusedVariables false
set_option linter.unusedSimpArgs false
set_option maxRecDepth 100000
set_option maxHeartbeats 16000000
namespace Go.Proofs.YtbgienfcmdgaaaaGreat
open Go.RowKit Go.MapKept
open Go.ChangeMaps (setBlock)
open Go.ChangeShapes Go.WideShapes Go.ChangeAt Go.RowKit Go.Deep
set_option linter.unusedVariables false
theorem own:ownKnob Tryz.prog.godebug=none:=by kernel_rfl
theorem laidOut:laidOutB Tryz.prog=true:=by kernel_rfl
section
variable {H:Type} {enc:TypeId × Value->H} {w:World} {base:Nat} {spare:Nat->Bool} {held:Bool}
theorem struct_field {P:Program} {t:TypeId} {fs:Array Field} {fuel:Nat} {cs:List Value} {x:DataW H × List MemPlace} (ht:P.underlying t=some (.struct fs)) (h:DataW.trod enc P w base spare held fuel t cs=some x)
  (i:Nat) {f:Field} (hi:fs[i]?=some f) {ty off n:Nat} (h1:f.type=ty) (h2:f.offset=off) (h3:P.cellsOf ty=n):∃ m y,DataW.trod enc P w base spare held m ty ((cs.drop off).take n)=some y:=by
 obtain ⟨xs,m,_,_,hl,hxl,hf⟩:=DataW.trod_struct ht h
 subst h1 h2 h3
 have hlt:i<xs.length:=by rw [hxl]; exact (Array.getElem?_eq_some_iff.1 hi).1
 exact ⟨m,_,(hf i f hi).trans (List.getElem?_eq_getElem hlt)⟩
theorem struct_length {P:Program} {t:TypeId} {fs:Array Field} {fuel:Nat} {cs:List Value} {x:DataW H × List MemPlace} (ht:P.underlying t=some (.struct fs)) (h:DataW.trod enc P w base spare held fuel t cs=some x) {n:Nat} (h3:P.cellsOf t=n):cs.length=n:=by
 obtain ⟨xs,m,_,_,hl,hxl,hf⟩:=DataW.trod_struct ht h
 rw [hl,h3]
theorem list_of {α:Type} {R:List Value->α->Prop}:∀ {css:List (List Value)},(∀ c ∈ css,∃ x,R c x)->∃ l:List α,l.length=css.length/\∀ (i:Nat) c x,css[i]?=some c->l[i]?=some x->R c x
 | [],_=>⟨[],rfl,fun i c x h=>by simp at h⟩
 | c :: css,h=>by
  obtain ⟨x,hx⟩:=h c (by simp)
  obtain ⟨l,h1,h2⟩:=list_of (css:=css) (fun c hc=>h c (by simp [hc]))
  refine ⟨x :: l,by simp [h1],fun i c' x' hc hx'=>?_⟩
  cases i with
  | zero=>simp at hc hx'; subst hc hx'; exact hx
  | succ i=>simp at hc hx'; exact h2 i c' x' hc hx'
theorem map_of {α:Type} {f:α->List Value} {Q:α->Prop} {css:List (List Value)} (h:∀ c ∈ css,∃ x,c=f x/\Q x):∃ l:List α,css=l.map f/\∀ x ∈ l,Q x:=by
 obtain ⟨l,h1,h2⟩:=list_of (R:=fun c x=>c=f x/\Q x) h
 refine ⟨l,List.ext_getElem? fun i=>?_,fun x hx=>?_⟩
 ·rw [List.getElem?_map]
  by_cases hi:i<l.length
  ·rw [List.getElem?_eq_getElem hi,List.getElem?_eq_getElem (by omega:i<css.length)]
   simp only [Option.map_some]
   exact congrArg some (h2 i _ _ (List.getElem?_eq_getElem (by omega)) (List.getElem?_eq_getElem hi)).1
  ·rw [List.getElem?_eq_none (by omega),List.getElem?_eq_none (by omega)]; rfl
 ·obtain ⟨i,hi,rfl⟩:=List.getElem_of_mem hx
  exact (h2 i _ _ (List.getElem?_eq_getElem (by omega)) (List.getElem?_eq_getElem hi)).2
theorem open_sl {t e:TypeId} {m:Nat} {fuel:Nat} {cs:List Value} {x:DataW H × List MemPlace} (ht:Tryz.prog.underlying t=some (.slice e)) (hc:Tryz.prog.cellsOf e=m) (hm:0<m) {R:List Value->Prop}
  (he:∀ fuel cs x,DataW.trod enc Tryz.prog w base spare held fuel e cs=some x->R cs) (h:DataW.trod enc Tryz.prog w base spare held fuel t cs=some x) :
  ∃ v css,cs=[v]/\Sl w v m css/\∀ c ∈ css,R c:=by
 rcases open_slice ht h with ⟨hcs,_⟩ | ⟨a,l,c,k,n',D,Pl,hcs,_,hlc,hcm,hk,_,hel⟩
 ·exact ⟨_,[],hcs,Sl.nil w m,by simp⟩
 ·have hlk:l<=k:=by rw [hk]; split <;> omega
  have hel':∀ i,i<l->∃ c':List Value,c'.length=m/\R c'/\∀ j u,c'[j]?=some u->w.cell? ((a.add (i*m)).add j)=some u:=fun i hi=>by
   obtain ⟨cs',h1,h2⟩:=hel i (by omega)
   rw [hc] at h1
   obtain ⟨_,hlen,hat⟩:=World.cells?_some h1
   exact ⟨cs',hlen,he _ _ _ h2,fun j u hu=>(hat j (by have:=(List.getElem?_eq_some_iff.1 hu).1; omega)).trans hu⟩
  obtain ⟨css,h1,h2⟩:∃ css:List (List Value),css.length=l/\∀ i (h:i<css.length),css[i].length=m/\R css[i]/\∀ j u,css[i][j]?=some u->w.cell? ((a.add (i*m)).add j)=some u:=by
   refine ⟨List.ofFn fun i:Fin l=>Classical.choose (hel' i i.2),by simp,fun i hi=>?_⟩
   simp at hi
   have:=Classical.choose_spec (hel' i hi)
   simpa using this
  subst h1
  refine ⟨_,css,hcs,⟨some a,c,rfl,hlc,hcm,(fun e=>by cases e),fun hp=>?_⟩,fun c' hc'=>?_⟩
  ·obtain ⟨b,off,spot⟩:=a
   obtain ⟨e1,_,e3⟩:=h2 0 hp
   have e4:=e3 0 _ (List.getElem?_eq_getElem (by omega))
   have hspot:spot=none:=by simpa [Addr.add] using World.cell?_spot e4
   subst hspot
   refine ⟨b,off,rfl,by have:=World.block_lt_of_cell? w _ e4; simpa [Addr.add_lit] using this,fun i r hi j u hu=>?_⟩
   obtain ⟨hi',rfl⟩:=List.getElem?_eq_some_iff.1 hi
   have:=(h2 i hi').2.2 j u hu
   simpa [Addr.add_lit,Nat.add_assoc] using this
  ·obtain ⟨i,hi,rfl⟩:=List.getElem_of_mem hc'
   exact (h2 i hi).2.1
theorem cellsInt:Tryz.prog.cellsOf 3=1:=by kernel_rfl
theorem cellsI64:Tryz.prog.cellsOf 2=1:=by kernel_rfl
theorem cellsU32:Tryz.prog.cellsOf 127=1:=by kernel_rfl
theorem cellsBool:Tryz.prog.cellsOf 4=1:=by kernel_rfl
theorem cellsStr:Tryz.prog.cellsOf 9=1:=by kernel_rfl
theorem cellsNat:Tryz.prog.cellsOf 27=1:=by kernel_rfl
theorem cellsInt2:Tryz.prog.cellsOf 29=2:=by kernel_rfl
theorem cellsRat:Tryz.prog.cellsOf 31=3:=by kernel_rfl
theorem cellsTerm:Tryz.prog.cellsOf 76=2:=by kernel_rfl
theorem cellsTerms:Tryz.prog.cellsOf 56=1:=by kernel_rfl
theorem cellsVar:Tryz.prog.cellsOf 63=5:=by kernel_rfl
theorem cellsVars:Tryz.prog.cellsOf 22=1:=by kernel_rfl
theorem cellsRow:Tryz.prog.cellsOf 58=5:=by kernel_rfl
theorem cellsRows:Tryz.prog.cellsOf 23=1:=by kernel_rfl
theorem cellsProgram:Tryz.prog.cellsOf 25=2:=by kernel_rfl
theorem open_digit {fuel:Nat} {cs:List Value} {x:DataW H × List MemPlace} (h:DataW.trod enc Tryz.prog w base spare held fuel 127 cs=some x):∃ d:Nat,cs=[dv d]/\d<4294967296:=by
 obtain ⟨a0,h0,_,b0⟩:=DataW.trod_int Tryz.underlying127 h
 simp [Lit.wf,IntKind.min,IntKind.max,IntKind.signed,IntKind.bits] at b0
 refine ⟨a0.toNat,?_,by omega⟩
 rw [h0]
 show [Value.int .u32 a0]=[Value.int .u32 (a0.toNat:Int)]
 rw [Int.toNat_of_nonneg (by omega)]
theorem open_nat {fuel:Nat} {cs:List Value} {x:DataW H × List MemPlace} (h:DataW.trod enc Tryz.prog w base spare held fuel 27 cs=some x):∃ v l,cs=[v]/\Rds w v l:=by
 obtain ⟨v,css,rfl,hs,hc⟩:=open_sl Tryz.underlying27 cellsU32 (by decide) (fun _ _ _ h=>open_digit h) h
 obtain ⟨l,rfl,hl⟩:=map_of (f:=fun d=>[dv d]) (Q:=fun d=>d<4294967296) hc
 obtain ⟨ao,c,rfl,h1,h2,h3,h4⟩:=hs
 rw [List.length_map] at h1 h4 ⊢
 refine ⟨_,l,rfl,hl,ao,c,rfl,h1,h2,h3,fun hp=>?_⟩
 obtain ⟨b,off,e,hb,hcell⟩:=h4 hp
 refine ⟨b,off,e,hb,fun i d hi=>?_⟩
 have:=hcell i [dv d] (by rw [List.getElem?_map,hi]; rfl) 0 (dv d) rfl
 simpa using this
theorem open_rat {fuel:Nat} {cs:List Value} {x:DataW H × List MemPlace} (h:DataW.trod enc Tryz.prog w base spare held fuel 31 cs=some x):∃ r:RatV,IsRaw w (.agg cs.toArray) r:=by
 have hl:=struct_length Tryz.underlying31 h cellsRat
 obtain ⟨_,_,f0⟩:=struct_field Tryz.underlying31 h 0 rfl rfl rfl cellsInt2
 obtain ⟨_,_,f1⟩:=struct_field Tryz.underlying31 h 1 rfl rfl rfl cellsNat
 obtain ⟨_,_,g0⟩:=struct_field Tryz.underlying29 f0 0 rfl rfl rfl cellsBool
 obtain ⟨_,_,g1⟩:=struct_field Tryz.underlying29 f0 1 rfl rfl rfl cellsNat
 clear h f0
 obtain ⟨ng,hn,_⟩:=DataW.trod_bool Tryz.underlying4 g0
 obtain ⟨v1,l1,e1,k1⟩:=open_nat g1
 obtain ⟨v2,l2,e2,k2⟩:=open_nat f1
 clear g0 g1 f1
 match cs,hl with
 | [c0,c1,c2],_ =>
  simp at hn e1 e2
  subst hn e1 e2
  exact ⟨⟨ng,l1,l2⟩,_,_,rfl,k1,k2⟩
theorem open_rats {fuel:Nat} {cs:List Value} {x:DataW H × List MemPlace} (h:DataW.trod enc Tryz.prog w base spare held fuel 32 cs=some x):∃ v rs,cs=[v]/\Raws w v rs:=by
 obtain ⟨v,css,rfl,hs,hc⟩:=open_sl Tryz.underlying32 cellsRat (by decide) (fun _ _ _ h=>open_rat h) h
 obtain ⟨l,h1,h2⟩:=list_of (R:=fun c r=>IsRaw w (.agg c.toArray) r) hc
 exact ⟨v,l,rfl,css,h1.symm,hs,h2⟩
theorem inR_of {k:IntKind} {a:Int} (hk:k=.i64) (h:(Lit.int k a).wf=true):InR a:=by
 subst hk
 simp [Lit.wf,IntKind.min,IntKind.max,IntKind.signed,IntKind.bits] at h
 unfold InR
 omega
theorem open_var {fuel:Nat} {cs:List Value} {x:DataW H × List MemPlace} (h:DataW.trod enc Tryz.prog w base spare held fuel 63 cs=some x):∃ v:VarV,cs=cV v/\VarOk v:=by
 have hl:=struct_length Tryz.underlying63 h cellsVar
 obtain ⟨_,_,f0⟩:=struct_field Tryz.underlying63 h 0 rfl rfl rfl cellsI64
 obtain ⟨_,_,f1⟩:=struct_field Tryz.underlying63 h 1 rfl rfl rfl cellsI64
 obtain ⟨_,_,f2⟩:=struct_field Tryz.underlying63 h 2 rfl rfl rfl cellsBool
 obtain ⟨_,_,f3⟩:=struct_field Tryz.underlying63 h 3 rfl rfl rfl cellsBool
 obtain ⟨_,_,f4⟩:=struct_field Tryz.underlying63 h 4 rfl rfl rfl cellsI64
 clear h
 obtain ⟨a0,h0,_,b0⟩:=DataW.trod_int Tryz.underlying2 f0
 obtain ⟨a1,h1,_,b1⟩:=DataW.trod_int Tryz.underlying2 f1
 obtain ⟨a2,h2,_⟩:=DataW.trod_bool Tryz.underlying4 f2
 obtain ⟨a3,h3,_⟩:=DataW.trod_bool Tryz.underlying4 f3
 obtain ⟨a4,h4,_,b4⟩:=DataW.trod_int Tryz.underlying2 f4
 clear f0 f1 f2 f3 f4
 match cs,hl with
 | [c0,c1,c2,c3,c4],_ =>
  simp at h0 h1 h2 h3 h4
  exact ⟨⟨a0,a1,a2,a3,a4⟩,by rw [h0,h1,h2,h3,h4]; rfl,inR_of rfl b0,inR_of rfl b1,inR_of rfl b4⟩
theorem open_term {fuel:Nat} {cs:List Value} {x:DataW H × List MemPlace} (h:DataW.trod enc Tryz.prog w base spare held fuel 76 cs=some x):∃ t:TermV,cs=cT t/\TermOk t:=by
 have hl:=struct_length Tryz.underlying76 h cellsTerm
 obtain ⟨_,_,f0⟩:=struct_field Tryz.underlying76 h 0 rfl rfl rfl cellsInt
 obtain ⟨_,_,f1⟩:=struct_field Tryz.underlying76 h 1 rfl rfl rfl cellsI64
 clear h
 obtain ⟨a0,h0,_,b0⟩:=DataW.trod_int Tryz.underlying3 f0
 obtain ⟨a1,h1,_,b1⟩:=DataW.trod_int Tryz.underlying2 f1
 clear f0 f1
 match cs,hl with
 | [c0,c1],_ =>
  simp at h0 h1
  exact ⟨⟨a0,a1⟩,by rw [h0,h1]; rfl,inR_of rfl b0,inR_of rfl b1⟩
theorem open_terms {fuel:Nat} {cs:List Value} {x:DataW H × List MemPlace} (h:DataW.trod enc Tryz.prog w base spare held fuel 56 cs=some x):∃ v l,cs=[v]/\Tms w v l:=by
 obtain ⟨v,css,rfl,hs,hc⟩:=open_sl Tryz.underlying56 cellsTerm (by decide) (fun _ _ _ h=>open_term h) h
 obtain ⟨l,rfl,hl⟩:=map_of hc
 exact ⟨v,l,rfl,hs,hl⟩
theorem open_row {fuel:Nat} {cs:List Value} {x:DataW H × List MemPlace} (h:DataW.trod enc Tryz.prog w base spare held fuel 58 cs=some x):∃ y:RowV × Value,cs=cR y.1 y.2/\Tms w y.2 y.1.terms/\RowOk y.1:=by
 have hl:=struct_length Tryz.underlying58 h cellsRow
 obtain ⟨_,_,f0⟩:=struct_field Tryz.underlying58 h 0 rfl rfl rfl cellsStr
 obtain ⟨_,_,f1⟩:=struct_field Tryz.underlying58 h 1 rfl rfl rfl cellsInt
 obtain ⟨_,_,f2⟩:=struct_field Tryz.underlying58 h 2 rfl rfl rfl cellsInt
 obtain ⟨_,_,f3⟩:=struct_field Tryz.underlying58 h 3 rfl rfl rfl cellsTerms
 obtain ⟨_,_,f4⟩:=struct_field Tryz.underlying58 h 4 rfl rfl rfl cellsI64
 clear h
 obtain ⟨a0,h0,_,b0⟩:=DataW.trod_string Tryz.underlying9 f0
 obtain ⟨a1,h1,_,b1⟩:=DataW.trod_int Tryz.underlying3 f1
 obtain ⟨a2,h2,_,b2⟩:=DataW.trod_int Tryz.underlying3 f2
 obtain ⟨v3,l3,h3,b3⟩:=open_terms f3
 obtain ⟨a4,h4,_,b4⟩:=DataW.trod_int Tryz.underlying2 f4
 clear f0 f1 f2 f3 f4
 match cs,hl with
 | [c0,c1,c2,c3,c4],_ =>
  simp at h0 h1 h2 h3 h4
  exact ⟨⟨⟨a0,a1,a2,l3,a4⟩,v3⟩,by rw [h0,h1,h2,h3,h4]; rfl,b3,b0,inR_of rfl b1,inR_of rfl b2,inR_of rfl b4⟩
theorem open_prog {fuel:Nat} {cs:List Value} {x:DataW H × List MemPlace} (h:DataW.trod enc Tryz.prog w base spare held fuel 25 cs=some x):∃ p:ProgV,IsPrg w (.agg cs.toArray) p:=by
 have hl:=struct_length Tryz.underlying25 h cellsProgram
 obtain ⟨_,_,f0⟩:=struct_field Tryz.underlying25 h 0 rfl rfl rfl cellsVars
 obtain ⟨_,_,f1⟩:=struct_field Tryz.underlying25 h 1 rfl rfl rfl cellsRows
 clear h
 obtain ⟨v0,c0,e0,s0,k0⟩:=open_sl Tryz.underlying22 cellsVar (by decide) (fun _ _ _ h=>open_var h) f0
 obtain ⟨v1,c1,e1,s1,k1⟩:=open_sl Tryz.underlying23 cellsRow (by decide) (fun _ _ _ h=>open_row h) f1
 clear f0 f1
 obtain ⟨l0,rfl,g0⟩:=map_of k0
 obtain ⟨l1,n1,g1⟩:=list_of (R:=fun c (y:RowV × Value)=>c=cR y.1 y.2/\Tms w y.2 y.1.terms/\RowOk y.1) k1
 have hz:c1=List.zipWith cR (l1.map (·.1)) (l1.map (·.2)):=by
  apply List.ext_getElem?
  intro i
  rw [List.getElem?_zipWith,List.getElem?_map,List.getElem?_map]
  by_cases hi:i<l1.length
  ·rw [List.getElem?_eq_getElem hi,List.getElem?_eq_getElem (by omega:i<c1.length)]
   simp only [Option.map_some]
   exact congrArg some (g1 i _ _ (List.getElem?_eq_getElem (by omega)) (List.getElem?_eq_getElem hi)).1
  ·rw [List.getElem?_eq_none (by omega),List.getElem?_eq_none (by omega)]; rfl
 rw [hz] at s1
 match cs,hl with
 | [d0,d1],_ =>
  simp at e0 e1
  subst e0 e1
  refine ⟨⟨l0,l1.map (·.1)⟩,_,_,rfl,⟨s0,g0⟩,l1.map (·.2),by simp,s1,fun i r tv hr ht=>?_⟩
  rw [List.getElem?_map] at hr ht
  obtain ⟨y,hy,rfl⟩:=Option.map_eq_some_iff.1 hr
  rw [hy] at ht
  cases ht
  have hi:=(List.getElem?_eq_some_iff.1 hy).1
  exact (g1 i _ _ (List.getElem?_eq_getElem (by omega)) hy).2
end
open Go.Joins in
theorem open_prog_value {H:Type} {enc:TypeId × Value->H} {w:World} {base:Nat} {spare:Nat->Bool} {held:Bool} {r:Reach} {b0:Nat} {v:Value} {d:DataW H} {p:List MemPlace} (hv:Value.okWide Tryz.prog w r b0 25 v) (h:DataW.Trod enc Tryz.prog w base spare held 25 v d p) :
  ∃ y:ProgV,IsPrg w v y:=by
 obtain ⟨cs,rfl,hsz⟩:=okWide_struct Tryz.underlying25 hv
 obtain ⟨fuel,hf⟩:=h
 obtain ⟨y,hy⟩:=open_prog hf
 refine ⟨y,?_⟩
 simpa [Value.cells] using hy
theorem open_rats_value {H:Type} {enc:TypeId × Value->H} {w:World} {base:Nat} {spare:Nat->Bool} {held:Bool} {r:Reach} {b0:Nat} {v:Value} {d:DataW H} {p:List MemPlace} (hv:Value.okWide Tryz.prog w r b0 32 v) (h:DataW.Trod enc Tryz.prog w base spare held 32 v d p) :
  ∃ rs:List RatV,Raws w v rs:=by
 obtain ⟨a0,len0,cap0,rfl⟩:=okWide_slice Tryz.underlying32 hv
 obtain ⟨fuel,hf⟩:=h
 obtain ⟨v,rs,e,hr⟩:=open_rats hf
 simp [Value.cells] at e
 subst e
 exact ⟨rs,hr⟩
theorem room_few {n m:Nat} (hn:n<=6) (hm:m<=8):Room n m 12 1200:=by
 refine ⟨by omega,?_⟩
 have e1:m*(12*(1200+3)+2)<=8*14438:=Nat.mul_le_mul hm (by omega)
 have e2:(n+1)*(m*(12*(1200+3)+2)+7)<=7*115511:=Nat.mul_le_mul (by omega) (by omega)
 have e3:m*(1200+3)<=8*1203:=Nat.mul_le_mul hm (by omega)
 have e4:n*(1200+3)<=6*1203:=Nat.mul_le_mul hn (by omega)
 omega
theorem few_parts {p:ProgV} (h:fewP p 6 8=true):Small p 12 1200/\p.vars.length<=6/\p.rows.length<=8:=by
 unfold fewP at h
 simp only [Bool.and_eq_true,decide_eq_true_eq,List.all_eq_true] at h
 refine ⟨⟨room_few h.1.2 h.2,fun i hi=>?_⟩,h.1.2,h.2⟩
 have hm:p.r i ∈ p.rows:=by
  unfold ProgV.r
  rw [getD_lt hi]; exact List.getElem_mem hi
 have:=h.1.1 _ hm
 unfold fewRow at this
 simp only [Bool.and_eq_true,decide_eq_true_eq] at this
 omega
theorem Solve_few (w:World) (pv:Value) (p:ProgV) (hp:IsPrg w pv p) (h:fewP p 6 8=true):Calls Tryz.prog 37 #[pv] w (SolvePost w p 1200):=by
 obtain ⟨_,hn,hm⟩:=few_parts h
 have h1:(p.vars.length+1)*(168+8)<=7*(168+8):=Nat.mul_le_mul_right _ (by omega)
 have h2:(p.vars.length+1)*(168+1)<=7*(168+1):=Nat.mul_le_mul_right _ (by omega)
 have h3:p.vars.length*(168+6)<=6*(168+6):=Nat.mul_le_mul_right _ hn
 exact Solve_any w pv p 168 1200 hp (fun hv=>bndAll6 hv hn) (by omega) (by omega) (by omega) (by omega) (by omega) (by omega) (by omega) (by omega)
theorem IsPrg.slices5 {w:World} {pv:Value} {p:ProgV} (h:IsPrg w pv p):∃ vo vn vc ro rn rc,pv=.agg #[.slice vo vn vc,.slice ro rn rc]:=by
 obtain ⟨vv,rv,rfl,hv,hr⟩:=h
 obtain ⟨vo,vc,rfl,-⟩:=hv.shape
 obtain ⟨ro,rc,rfl,-⟩:=hr.shape
 exact ⟨_,_,_,_,_,_,rfl⟩
theorem least_law {p:ProgV} {o:OutV} {e:Int} {x:List Rat} (hs:SolveV p o e) (hv:validB p=true) (hi:insideB p x=true) (hq:violQ p x=[]):e=0/\(o.kind=2∨(o.kind=0/\o.val<=costQ p x)):=by
 obtain ⟨h1,h2,h3⟩:=hs.chk hv
 have hf:feasB p x=true:=by
  unfold feasB
  rw [hv,hi,hq]; rfl
 obtain ⟨_,a1,a2⟩:=feas_rows hf
 refine ⟨h1,?_⟩
 rcases chk_kinds h2 h3 with ⟨k0,k1,k2⟩ | ⟨_,k1,_⟩ | ⟨k0,_⟩
 ·refine .inr ⟨k0,?_⟩
  rw [k2]
  exact bound_le (opt_parts k1).2 a1 a2
 ·exact (inf_none k1 a1 a2).elim
 ·exact .inl k0
theorem sign_ge0 (q:Rat):0<=q.num.sign↔0<=q:=by
 rw [<- Rat.not_lt (a:=q),<- sign_lt]
 omega
theorem least_core (w:World) (pv xv:Value) (p:ProgV) (x:List RatV) (hp:IsPrg w pv p) (hx:Raws w xv x):Calls Tryz.prog 11 #[pv,xv] w (BoolPost w true):=by
 obtain ⟨vo,vn,vc,ro,rn,rc,rfl⟩:=hp.slices5
 obtain ⟨xo,xc,rfl,-⟩:=hx.shape
 have hxa:=(Ext.refl (fun _=>False) w).alloc (.cells #[.slice vo vn vc,.slice ro rn rc] 25)
 have HB:=bH (bI (hp.keep hxa) (bI (blk_alloc_at w (.cells #[.slice vo vn vc,.slice ro rn rc] 25)) hxa))
 have HXr:=bH (fun W (hW:XF (w.alloc (.cells #[.slice vo vn vc,.slice ro rn rc] 25)) W)=>hx.keep (hxa.trans hW))
 clear hp hxa hx
 obtain ⟨xn,hxn⟩:∃ xn,x.length=xn:=⟨_,rfl⟩
 rw [hxn] at HXr ⊢
 clear hxn
 go_enter Tryz.func11,Tryz.ntmps11
 go_upto_region 1 with fail
 generalize w.alloc (.cells #[.slice vo vn vc,.slice ro rn rc] 25)=w1 at *
 obtain ⟨pb,hpb⟩:∃ q,w.heap.size=q:=⟨_,rfl⟩
 rw [hpb] at HB ⊢
 clear hpb
 have p0:w1.cell? ⟨pb,0,none⟩=some (.slice vo vn vc):=cellq HB.out.2.1 0 rfl
 have p1:w1.cell? ⟨pb,1,none⟩=some (.slice ro rn rc):=cellq HB.out.2.1 1 rfl
 have HF:=bH (fun W (hW:XF w1 W)=>FewP_any W (.agg #[.slice vo vn vc,.slice ro rn rc]) p 6 8 (by decide) (by decide) (HB.out.1.keep hW))
 have HS:=bH (fun W (hW:XF w1 W)=>Short_any W (.slice xo xn xc) x 8 (by decide) (HXr.out W hW))
 have HV:=bH (fun W (hW:XF w1 W)=>Valid4_any W (.agg #[.slice vo vn vc,.slice ro rn rc]) p (HB.out.1.keep hW))
 obtain ⟨fb,hfb⟩:∃ fb,fewP p 6 8=fb:=⟨_,rfl⟩
 rw [hfb] at HF
 have HFb:=bH hfb
 clear hfb
 cases fb with
 | false =>
  go_upto_region 2 with (first | (go_at_call 38; refine (awake5_any _).mono ?_; rintro r2 w2 ⟨rfl,hx2⟩; replace p0:=cell_keep p0 hx2; replace p1:=cell_keep p1 hx2) | (go_at_call 39; refine (HF.out _ hx2).mono ?_; rintro r3 w3 ⟨rfl,hx3⟩; replace p0:=cell_keep p0 hx3; replace p1:=cell_keep p1 hx3))
  go_wp2_with (go_at_call 38; refine (awake5_any _).mono ?_; rintro r8 w8 ⟨rfl,hx8⟩)
  go_ret
  exact ⟨rfl,(HB.out.2.2.trans (hx2.trans hx3)).trans hx8⟩
 | true =>
  obtain ⟨sb,hsb⟩:∃ sb,shortB x 8=sb:=⟨_,rfl⟩
  rw [hsb] at HS
  have HSb:=bH hsb
  clear hsb
  cases sb with
  | false =>
   go_upto_region 2 with (first | (go_at_call 38; refine (awake5_any _).mono ?_; rintro r2 w2 ⟨rfl,hx2⟩; replace p0:=cell_keep p0 hx2; replace p1:=cell_keep p1 hx2) | (go_at_call 39; refine (HF.out _ hx2).mono ?_; rintro r3 w3 ⟨rfl,hx3⟩; replace p0:=cell_keep p0 hx3; replace p1:=cell_keep p1 hx3) | (go_at_call 46; refine (HS.out _ (hx2.trans hx3)).mono ?_; rintro r4 w4 ⟨rfl,hx4⟩; replace p0:=cell_keep p0 hx4; replace p1:=cell_keep p1 hx4))
   go_wp2_with (go_at_call 38; refine (awake5_any _).mono ?_; rintro r8 w8 ⟨rfl,hx8⟩)
   go_ret
   exact ⟨rfl,(HB.out.2.2.trans ((hx2.trans hx3).trans hx4)).trans hx8⟩
  | true =>
   obtain ⟨vb,hvb⟩:∃ vb,validB p=vb:=⟨_,rfl⟩
   rw [hvb] at HV
   have HVb:=bH hvb
   clear hvb
   cases vb with
   | false =>
    go_upto_region 2 with (first | (go_at_call 38; refine (awake5_any _).mono ?_; rintro r2 w2 ⟨rfl,hx2⟩; replace p0:=cell_keep p0 hx2; replace p1:=cell_keep p1 hx2) | (go_at_call 39; refine (HF.out _ hx2).mono ?_; rintro r3 w3 ⟨rfl,hx3⟩; replace p0:=cell_keep p0 hx3; replace p1:=cell_keep p1 hx3) | (go_at_call 46; refine (HS.out _ (hx2.trans hx3)).mono ?_; rintro r4 w4 ⟨rfl,hx4⟩; replace p0:=cell_keep p0 hx4; replace p1:=cell_keep p1 hx4) | (go_at_call 36; refine (HV.out _ ((hx2.trans hx3).trans hx4)).mono ?_; rintro r5 w5 ⟨rfl,hx5⟩; replace p0:=cell_keep p0 hx5; replace p1:=cell_keep p1 hx5))
    go_wp2_with (go_at_call 38; refine (awake5_any _).mono ?_; rintro r8 w8 ⟨rfl,hx8⟩)
    go_ret
    exact ⟨rfl,(HB.out.2.2.trans (((hx2.trans hx3).trans hx4).trans hx5)).trans hx8⟩
   | true =>
    go_upto_region 3 with (first | (go_at_call 38; refine (awake5_any _).mono ?_; rintro r2 w2 ⟨rfl,hx2⟩; replace p0:=cell_keep p0 hx2; replace p1:=cell_keep p1 hx2) | (go_at_call 39; refine (HF.out _ hx2).mono ?_; rintro r3 w3 ⟨rfl,hx3⟩; replace p0:=cell_keep p0 hx3; replace p1:=cell_keep p1 hx3) | (go_at_call 46; refine (HS.out _ (hx2.trans hx3)).mono ?_; rintro r4 w4 ⟨rfl,hx4⟩; replace p0:=cell_keep p0 hx4; replace p1:=cell_keep p1 hx4) | (go_at_call 36; refine (HV.out _ ((hx2.trans hx3).trans hx4)).mono ?_; rintro r5 w5 ⟨rfl,hx5⟩; replace p0:=cell_keep p0 hx5; replace p1:=cell_keep p1 hx5))
    have HX5:=bH (((hx2.trans hx3).trans hx4).trans hx5)
    clear hx2 hx3 hx4 hx5 HF HS HV
    have HXv:=bH (fun W (hW:XF w1 W)=>show Rats W (.slice xo xn xc) (valL x) 4 from (HXr.out W hW).rats (by
     have:=HSb.out
     unfold shortB at this
     simp only [Bool.and_eq_true] at this
     exact this.2))
    have HSm:=bH (few_parts HFb.out)
    have HLe:=bH (show 1+p.vars.length*(4+3)+(4+3)<=1000000 by have:=HSm.out.2.1; omega)
    have HI:=bH (fun W (hW:XF w1 W)=>Inside4_any W (.agg #[.slice vo vn vc,.slice ro rn rc]) (.slice xo xn xc) p (valL x) 4 (HB.out.1.keep hW) (HXv.out W hW) (by decide) (by decide))
    have HVi:=bH (fun W (hW:XF w1 W)=>Violated4_any W (.agg #[.slice vo vn vc,.slice ro rn rc]) (.slice xo xn xc) p (valL x) 4 12 (HB.out.1.keep hW) (HXv.out W hW) (by decide) HSm.out.1.2 (by decide) (by have:=HSm.out.2.1; omega) (by have:=HSm.out.2.2; omega))
    obtain ⟨ib,hib⟩:∃ ib,insideB p (valL x)=ib:=⟨_,rfl⟩
    rw [hib] at HI
    have HIb:=bH hib
    clear hib
    cases ib with
    | false =>
     go_wp2_with (go_at_call 21; refine (HI.out _ HX5.out).mono ?_; rintro r6 w6 ⟨rfl,hx6⟩)
     go_ret
     exact ⟨rfl,(HB.out.2.2.trans HX5.out).trans hx6⟩
    | true =>
     obtain ⟨qn,hqn⟩:∃ qn,(violQ p (valL x)).length=qn:=⟨_,rfl⟩
     have HQn:=bH hqn
     clear hqn
     rcases Nat.eq_zero_or_pos qn with hq | hq
     ·subst hq
      have hq0:¬ ((0:Int)<((0:Nat):Int)):=by omega
      go_upto_region 5 with (first | (go_at_call 21; refine (HI.out _ HX5.out).mono ?_; rintro r6 w6 ⟨rfl,hx6⟩; replace p0:=cell_keep p0 hx6; replace p1:=cell_keep p1 hx6) | (go_at_call 22; refine (HVi.out _ (HX5.out.trans hx6)).mono ?_; rintro r7 w7 ⟨v7,rfl,hn7,hx7⟩; obtain ⟨qo,qc,rfl⟩:=hn7.shape; rw [HQn.out]; replace p0:=cell_keep p0 hx7; replace p1:=cell_keep p1 hx7))
      have HX7:=bH ((HX5.out.trans hx6).trans hx7)
      clear hx6 hx7 hn7 hq0 HX5 HI HVi
      have HSo:=bH (Solve_few w7 _ p (HB.out.1.keep HX7.out) HFb.out)
      have HSz:=bH (show Sz (costQ p (valL x)) 1200 from by
       obtain ⟨vv,rv,e9,hvv,-⟩:=HB.out.1
       exact (costQ_sz hvv ((HXv.out _ HX7.out).sz (by decide))).mono (by have:=HSm.out.2.1; omega))
      go_upto_region 6 with (go_at_call 37; refine HSo.out.mono ?_; rintro r8 w8 ⟨v8,o,e,rfl,hsv,hfar,hx8⟩; obtain ⟨rfl,hkk⟩:=least_law hsv HVb.out HIb.out (List.eq_nil_of_length_eq_zero HQn.out); obtain ⟨ng,a1,m1,c1,a2,m2,c2,pv5,mv5,rv5,e5,ho1,ho2,ho3,ho4,ho5⟩:=hfar.now; obtain ⟨po,pc,rfl,-,-,-⟩:=ho2.shape; obtain ⟨mo,mc,rfl,-,-,-⟩:=ho3.shape; obtain ⟨zo,zc,rfl,-,-,-⟩:=ho4.shape; subst e5; have HO:=bH (bI ho1.1 hx8); have HZo:=bH ho1.2; have HKk:=bH hkk; replace p0:=cell_keep p0 hx8; replace p1:=cell_keep p1 hx8; clear hsv hfar hx8 hkk ho1 ho2 ho3 ho4 ho5; generalize hkd:o.kind=kd; have HKd:=bH hkd; clear hkd; generalize o.pt.length=pn; generalize o.mu.length=mn; generalize o.ray.length=zn)
      have hkk:=HKk.out
      rw [HKd.out] at hkk
      rcases hkk with rfl | ⟨rfl,hle⟩
      ·clear HKk HKd
       have hxa:=(Ext.refl (fun _=>False) w8).alloc (.cells #[.int .i64 2,.bool ng,.slice a1 m1 c1,.slice a2 m2 c2,.slice po pn pc,.slice mo mn mc,.slice zo zn zc] 34)
       have HW9:=bH (bI (blk_alloc_at w8 (.cells #[.int .i64 2,.bool ng,.slice a1 m1 c1,.slice a2 m2 c2,.slice po pn pc,.slice mo mn mc,.slice zo zn zc] 34)) (bI (HO.out.1.keep hxa) (HX7.out.trans (HO.out.2.trans hxa))))
       replace p0:=cqo (S:=fun _=>False) (cell_keep p0 hxa) id
       replace p1:=cqo (S:=fun _=>False) (cell_keep p1 hxa) id
       clear hxa HO
       generalize w8.alloc (.cells #[.int .i64 2,.bool ng,.slice a1 m1 c1,.slice a2 m2 c2,.slice po pn pc,.slice mo mn mc,.slice zo zn zc] 34)=w9 at *
       generalize w8.heap.size=ob at *
       have e0:=cqo (S:=fun _=>False) (cellq HW9.out.1 0 rfl) id
       have e1:=cqo (S:=fun _=>False) (cellq HW9.out.1 1 rfl) id
       have e2:=cqo (S:=fun _=>False) (cellq HW9.out.1 2 rfl) id
       have e3:=cqo (S:=fun _=>False) (cellq HW9.out.1 3 rfl) id
       have e4:=cqo (S:=fun _=>False) (cellq HW9.out.1 4 rfl) id
       have e5:=cqo (S:=fun _=>False) (cellq HW9.out.1 5 rfl) id
       have e6:=cqo (S:=fun _=>False) (cellq HW9.out.1 6 rfl) id
       simp only [List.getElem_toArray,List.getElem_cons_zero,List.getElem_cons_succ] at e0 e1 e2 e3 e4 e5 e6
       refine wp_region_held_drew (S:=(XF w9)) (by kernel_rfl) ((Ext.refl _ w9).drew) (fun hHeld=>?_)
       refine ht 0 (h:=(ht 1 (h:=(ht 2 (h:=?_)))))
       (try go_frame)
       refine ht 3 (h:=?_)
       (try go_frame)
       refine ht 4 (h:=?_)
       (try go_frame)
       refine ht 5 (h:=(ht 6 (h:=(ht 7 (h:=?_)))))
       (try go_frame)
       refine ht 8 (h:=?_)
       (try go_frame)
       refine ht 9 (h:=?_)
       (try go_frame)
       refine ht 10 (h:=?_)
       (try go_frame)
       refine ht 11 (h:=?_)
       (try go_frame)
       refine hk 12 (h:=?_)
       (try go_frame)
       refine hk 13 (h:=?_)
       (try go_frame)
       refine hk 14 (h:=?_)
       (try go_frame)
       refine hk 15 (h:=?_)
       (try go_frame)
       refine hk 16 (h:=?_)
       (try go_frame)
       refine hk 17 (h:=?_)
       (try go_frame)
       refine hk 18 (h:=?_)
       (try go_frame)
       refine ht 19 (h:=(ht 20 (h:=(ht 21 (h:=?_)))))
       (try go_frame)
       refine wpAnyH_done (by kernel_rfl) ?_ _
       go_wp2
       go_ret
       exact ⟨rfl,(HB.out.2.2.trans HW9.out.2.2).trans hHeld⟩
      ·have HLw:=bH hle
       clear HKk HKd hle
       have hxa:=(Ext.refl (fun _=>False) w8).alloc (.cells #[.int .i64 0,.bool ng,.slice a1 m1 c1,.slice a2 m2 c2,.slice po pn pc,.slice mo mn mc,.slice zo zn zc] 34)
       have HW9:=bH (bI (blk_alloc_at w8 (.cells #[.int .i64 0,.bool ng,.slice a1 m1 c1,.slice a2 m2 c2,.slice po pn pc,.slice mo mn mc,.slice zo zn zc] 34)) (bI (HO.out.1.keep hxa) (HX7.out.trans (HO.out.2.trans hxa))))
       replace p0:=cqo (S:=fun _=>False) (cell_keep p0 hxa) id
       replace p1:=cqo (S:=fun _=>False) (cell_keep p1 hxa) id
       clear hxa HO
       generalize w8.alloc (.cells #[.int .i64 0,.bool ng,.slice a1 m1 c1,.slice a2 m2 c2,.slice po pn pc,.slice mo mn mc,.slice zo zn zc] 34)=w9 at *
       generalize w8.heap.size=ob at *
       have e0:=cqo (S:=fun _=>False) (cellq HW9.out.1 0 rfl) id
       have e1:=cqo (S:=fun _=>False) (cellq HW9.out.1 1 rfl) id
       have e2:=cqo (S:=fun _=>False) (cellq HW9.out.1 2 rfl) id
       have e3:=cqo (S:=fun _=>False) (cellq HW9.out.1 3 rfl) id
       have e4:=cqo (S:=fun _=>False) (cellq HW9.out.1 4 rfl) id
       have e5:=cqo (S:=fun _=>False) (cellq HW9.out.1 5 rfl) id
       have e6:=cqo (S:=fun _=>False) (cellq HW9.out.1 6 rfl) id
       simp only [List.getElem_toArray,List.getElem_cons_zero,List.getElem_cons_succ] at e0 e1 e2 e3 e4 e5 e6
       have HCo:=bH (fun W (hW:XF w9 W)=>Cost4_any W (.agg #[.slice vo vn vc,.slice ro rn rc]) (.slice xo xn xc) p (valL x) 4 (HB.out.1.keep (HW9.out.2.2.trans hW)) (HXv.out _ (HW9.out.2.2.trans hW)) (by decide) HLe.out)
       have HCm:=bH (fun W u (hW:XF w9 W) (hu:IsRat W u (costQ p (valL x)))=>show Calls Tryz.prog 25 #[u,.agg #[.bool ng,.slice a1 m1 c1,.slice a2 m2 c2]] W (fun r w'=>∃ s:Int,r=.returned (.int .i64 s)/\0<=s/\XF W w') from by
        refine (Rrcmp_any W u _ (costQ p (valL x)) o.val 1200 (hu.reads HSz.out) ((HW9.out.2.1.keep hW).reads HZo.out) (by decide) (by decide)).mono ?_
        rintro r w' ⟨rfl,hx⟩
        refine ⟨_,rfl,?_,hx⟩
        have:=HLw.out
        exact (sign_ge0 _).2 (by grind))
       refine wp_region_held_drew (S:=(XF w9)) (by kernel_rfl) ((Ext.refl _ w9).drew) (fun hHeld=>?_)
       refine ht 0 (h:=(ht 1 (h:=(ht 2 (h:=?_)))))
       (try go_frame)
       refine ht 3 (h:=?_)
       (try go_frame)
       refine ht 4 (h:=?_)
       (try go_frame)
       refine ht 5 (h:=(ht 6 (h:=(ht 7 (h:=?_)))))
       (try go_frame)
       refine ht 8 (h:=?_)
       (try go_frame)
       refine ht 9 (h:=?_)
       (try go_frame)
       refine ht 10 (h:=?_)
       (try go_frame)
       refine ht 11 (h:=?_)
       (try go_frame)
       refine ht 12 (h:=?_)
       (try go_frame)
       refine ht 13 (h:=?_)
       (try go_frame)
       refine ht 15 (h:=?_)
       (try go_frame)
       refine ht 16 (h:=?_)
       (try go_frame)
       refine hst 14 (h:=fun K hK=>?_)
       (go_simp; go_at_call 26; (with_reducible refine (HCo.out _ hHeld).mono ?_); rintro q1 w11 ⟨v11,rfl,h11,hx11⟩; have hX1:=hHeld.trans hx11; obtain ⟨n11,a11,l11,c11,a11',l11',c11',rfl⟩:=h11.shape)
       refine hK.out _ _ (hX1) (fun hHeld=>?_)
       clear hK K
       (try go_frame)
       refine hst 17 (h:=fun K hK=>?_)
       (go_simp; go_at_call 25; (with_reducible refine (HCm.out _ _ hX1 h11).mono ?_); rintro q2 w12 ⟨sg,rfl,hsg,hx12⟩; have hX2:=hX1.trans hx12)
       refine hK.out _ _ (hX2) (fun hHeld=>?_)
       clear hK K
       (try go_frame)
       refine ht 18 (h:=?_)
       (try go_frame)
       refine ht 19 (h:=(ht 20 (h:=(ht 21 (h:=?_)))))
       (try go_frame)
       refine wpAnyH_done (by kernel_rfl) ?_ _
       go_wp2
       go_ret
       exact ⟨rfl,(HB.out.2.2.trans HW9.out.2.2).trans hX2⟩
     ·have hq0:(0:Int)<(qn:Int):=by omega
      go_wp2_with (first | (go_at_call 21; refine (HI.out _ HX5.out).mono ?_; rintro r6 w6 ⟨rfl,hx6⟩; replace p0:=cell_keep p0 hx6; replace p1:=cell_keep p1 hx6) | (go_at_call 22; refine (HVi.out _ (HX5.out.trans hx6)).mono ?_; rintro r7 w7 ⟨v7,rfl,hn7,hx7⟩; obtain ⟨qo,qc,rfl⟩:=hn7.shape; rw [HQn.out]))
      go_ret
      exact ⟨rfl,((HB.out.2.2.trans HX5.out).trans hx6).trans hx7⟩
end Go.Proofs.YtbgienfcmdgaaaaGreat
