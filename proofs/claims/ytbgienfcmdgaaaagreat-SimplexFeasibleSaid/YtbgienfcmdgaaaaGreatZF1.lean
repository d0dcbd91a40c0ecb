/-
  Texts of the proof, part 1. Conditions: each lemma names its own.
-/
import Derived.Test.YtbgienfcmdgaaaaGreatZ1
import Derived.Test.YtbgienfcmdgaaaaGreatZ11
import Derived.Test.YtbgienfcmdgaaaaGreatZ4
import Derived.Test.YtbgienfcmdgaaaaGreatZ5
import Derived.Test.YtbgienfcmdgaaaaGreatZ6
import Derived.OpenShut
import Derived.ShutString
import Derived.ChangeOld
import Derived.Deep.Slices
import Derived.Lib.SmallJoins
import Derived.Maps.RangeWalk
set_option linter.unusedVariables false
set_option linter.unusedSimpArgs false
set_option maxRecDepth 100000
set_option maxHeartbeats 16000000
namespace Go.Proofs.YtbgienfcmdgaaaaGreat
open Go.RowKit Go.MapKept
open Go.ChangeMaps (setBlock)
open Go.ChangeShapes Go.WideShapes Go.ChangeAt Go.RowKit Go.Deep
set_option linter.unusedVariables false
theorem own:ownKnob Tryz.prog.godebug=none:=by kernel_rfl
theorem laidOut:laidOutB Tryz.prog=true:=by kernel_rfl
section
variable {H:Type} {enc:TypeId × Value->H} {w:World} {base:Nat} {spare:Nat->Bool} {held:Bool}
theorem struct_field {P:Program} {t:TypeId} {fs:Array Field} {fuel:Nat} {cs:List Value} {x:DataW H × List MemPlace} (ht:P.underlying t=some (.struct fs)) (h:DataW.trod enc P w base spare held fuel t cs=some x)
  (i:Nat) {f:Field} (hi:fs[i]?=some f) {ty off n:Nat} (h1:f.type=ty) (h2:f.offset=off) (h3:P.cellsOf ty=n):∃ m y,DataW.trod enc P w base spare held m ty ((cs.drop off).take n)=some y:=by
 obtain ⟨xs,m,_,_,hl,hxl,hf⟩:=DataW.trod_struct ht h
 subst h1 h2 h3
 have hlt:i<xs.length:=by rw [hxl]; exact (Array.getElem?_eq_some_iff.1 hi).1
 exact ⟨m,_,(hf i f hi).trans (List.getElem?_eq_getElem hlt)⟩
theorem struct_length {P:Program} {t:TypeId} {fs:Array Field} {fuel:Nat} {cs:List Value} {x:DataW H × List MemPlace} (ht:P.underlying t=some (.struct fs)) (h:DataW.trod enc P w base spare held fuel t cs=some x) {n:Nat} (h3:P.cellsOf t=n):cs.length=n:=by
 obtain ⟨xs,m,_,_,hl,hxl,hf⟩:=DataW.trod_struct ht h
 rw [hl,h3]
theorem list_of {α:Type} {R:List Value->α->Prop}:∀ {css:List (List Value)},(∀ c ∈ css,∃ x,R c x)->∃ l:List α,l.length=css.length/\∀ (i:Nat) c x,css[i]?=some c->l[i]?=some x->R c x
 | [],_=>⟨[],rfl,fun i c x h=>by simp at h⟩
 | c :: css,h=>by
  obtain ⟨x,hx⟩:=h c (by simp)
  obtain ⟨l,h1,h2⟩:=list_of (css:=css) (fun c hc=>h c (by simp [hc]))
  refine ⟨x :: l,by simp [h1],fun i c' x' hc hx'=>?_⟩
  cases i with
  | zero=>simp at hc hx'; subst hc hx'; exact hx
  | succ i=>simp at hc hx'; exact h2 i c' x' hc hx'
theorem map_of {α:Type} {f:α->List Value} {Q:α->Prop} {css:List (List Value)} (h:∀ c ∈ css,∃ x,c=f x/\Q x):∃ l:List α,css=l.map f/\∀ x ∈ l,Q x:=by
 obtain ⟨l,h1,h2⟩:=list_of (R:=fun c x=>c=f x/\Q x) h
 refine ⟨l,List.ext_getElem? fun i=>?_,fun x hx=>?_⟩
 ·rw [List.getElem?_map]
  by_cases hi:i<l.length
  ·rw [List.getElem?_eq_getElem hi,List.getElem?_eq_getElem (by omega:i<css.length)]
   simp only [Option.map_some]
   exact congrArg some (h2 i _ _ (List.getElem?_eq_getElem (by omega)) (List.getElem?_eq_getElem hi)).1
  ·rw [List.getElem?_eq_none (by omega),List.getElem?_eq_none (by omega)]; rfl
 ·obtain ⟨i,hi,rfl⟩:=List.getElem_of_mem hx
  exact (h2 i _ _ (List.getElem?_eq_getElem (by omega)) (List.getElem?_eq_getElem hi)).2
theorem open_sl {t e:TypeId} {m:Nat} {fuel:Nat} {cs:List Value} {x:DataW H × List MemPlace} (ht:Tryz.prog.underlying t=some (.slice e)) (hc:Tryz.prog.cellsOf e=m) (hm:0<m) {R:List Value->Prop}
  (he:∀ fuel cs x,DataW.trod enc Tryz.prog w base spare held fuel e cs=some x->R cs) (h:DataW.trod enc Tryz.prog w base spare held fuel t cs=some x) :
  ∃ v css,cs=[v]/\Sl w v m css/\∀ c ∈ css,R c:=by
 rcases open_slice ht h with ⟨hcs,_⟩ | ⟨a,l,c,k,n',D,Pl,hcs,_,hlc,hcm,hk,_,hel⟩
 ·exact ⟨_,[],hcs,Sl.nil w m,by simp⟩
 ·have hlk:l<=k:=by rw [hk]; split <;> omega
  have hel':∀ i,i<l->∃ c':List Value,c'.length=m/\R c'/\∀ j u,c'[j]?=some u->w.cell? ((a.add (i*m)).add j)=some u:=fun i hi=>by
   obtain ⟨cs',h1,h2⟩:=hel i (by omega)
   rw [hc] at h1
   obtain ⟨_,hlen,hat⟩:=World.cells?_some h1
   exact ⟨cs',hlen,he _ _ _ h2,fun j u hu=>(hat j (by have:=(List.getElem?_eq_some_iff.1 hu).1; omega)).trans hu⟩
  obtain ⟨css,h1,h2⟩:∃ css:List (List Value),css.length=l/\∀ i (h:i<css.length),css[i].length=m/\R css[i]/\∀ j u,css[i][j]?=some u->w.cell? ((a.add (i*m)).add j)=some u:=by
   refine ⟨List.ofFn fun i:Fin l=>Classical.choose (hel' i i.2),by simp,fun i hi=>?_⟩
   simp at hi
   have:=Classical.choose_spec (hel' i hi)
   simpa using this
  subst h1
  refine ⟨_,css,hcs,⟨some a,c,rfl,hlc,hcm,(fun e=>by cases e),fun hp=>?_⟩,fun c' hc'=>?_⟩
  ·obtain ⟨b,off,spot⟩:=a
   obtain ⟨e1,_,e3⟩:=h2 0 hp
   have e4:=e3 0 _ (List.getElem?_eq_getElem (by omega))
   have hspot:spot=none:=by simpa [Addr.add] using World.cell?_spot e4
   subst hspot
   refine ⟨b,off,rfl,by have:=World.block_lt_of_cell? w _ e4; simpa [Addr.add_lit] using this,fun i r hi j u hu=>?_⟩
   obtain ⟨hi',rfl⟩:=List.getElem?_eq_some_iff.1 hi
   have:=(h2 i hi').2.2 j u hu
   simpa [Addr.add_lit,Nat.add_assoc] using this
  ·obtain ⟨i,hi,rfl⟩:=List.getElem_of_mem hc'
   exact (h2 i hi).2.1
theorem cellsInt:Tryz.prog.cellsOf 3=1:=by kernel_rfl
theorem cellsI64:Tryz.prog.cellsOf 2=1:=by kernel_rfl
theorem cellsBool:Tryz.prog.cellsOf 4=1:=by kernel_rfl
theorem cellsStr:Tryz.prog.cellsOf 9=1:=by kernel_rfl
theorem cellsTerm:Tryz.prog.cellsOf 76=2:=by kernel_rfl
theorem cellsTerms:Tryz.prog.cellsOf 56=1:=by kernel_rfl
theorem cellsVar:Tryz.prog.cellsOf 63=5:=by kernel_rfl
theorem cellsVars:Tryz.prog.cellsOf 22=1:=by kernel_rfl
theorem cellsRow:Tryz.prog.cellsOf 58=5:=by kernel_rfl
theorem cellsRows:Tryz.prog.cellsOf 23=1:=by kernel_rfl
theorem cellsProgram:Tryz.prog.cellsOf 25=2:=by kernel_rfl
theorem inR_of {k:IntKind} {a:Int} (hk:k=.i64) (h:(Lit.int k a).wf=true):InR a:=by
 subst hk
 simp [Lit.wf,IntKind.min,IntKind.max,IntKind.signed,IntKind.bits] at h
 unfold InR
 omega
theorem open_var {fuel:Nat} {cs:List Value} {x:DataW H × List MemPlace} (h:DataW.trod enc Tryz.prog w base spare held fuel 63 cs=some x):∃ v:VarV,cs=cV v/\VarOk v:=by
 have hl:=struct_length Tryz.underlying63 h cellsVar
 obtain ⟨_,_,f0⟩:=struct_field Tryz.underlying63 h 0 rfl rfl rfl cellsI64
 obtain ⟨_,_,f1⟩:=struct_field Tryz.underlying63 h 1 rfl rfl rfl cellsI64
 obtain ⟨_,_,f2⟩:=struct_field Tryz.underlying63 h 2 rfl rfl rfl cellsBool
 obtain ⟨_,_,f3⟩:=struct_field Tryz.underlying63 h 3 rfl rfl rfl cellsBool
 obtain ⟨_,_,f4⟩:=struct_field Tryz.underlying63 h 4 rfl rfl rfl cellsI64
 clear h
 obtain ⟨a0,h0,_,b0⟩:=DataW.trod_int Tryz.underlying2 f0
 obtain ⟨a1,h1,_,b1⟩:=DataW.trod_int Tryz.underlying2 f1
 obtain ⟨a2,h2,_⟩:=DataW.trod_bool Tryz.underlying4 f2
 obtain ⟨a3,h3,_⟩:=DataW.trod_bool Tryz.underlying4 f3
 obtain ⟨a4,h4,_,b4⟩:=DataW.trod_int Tryz.underlying2 f4
 clear f0 f1 f2 f3 f4
 match cs,hl with
 | [c0,c1,c2,c3,c4],_ =>
  simp at h0 h1 h2 h3 h4
  exact ⟨⟨a0,a1,a2,a3,a4⟩,by rw [h0,h1,h2,h3,h4]; rfl,inR_of rfl b0,inR_of rfl b1,inR_of rfl b4⟩
theorem open_term {fuel:Nat} {cs:List Value} {x:DataW H × List MemPlace} (h:DataW.trod enc Tryz.prog w base spare held fuel 76 cs=some x):∃ t:TermV,cs=cT t/\TermOk t:=by
 have hl:=struct_length Tryz.underlying76 h cellsTerm
 obtain ⟨_,_,f0⟩:=struct_field Tryz.underlying76 h 0 rfl rfl rfl cellsInt
 obtain ⟨_,_,f1⟩:=struct_field Tryz.underlying76 h 1 rfl rfl rfl cellsI64
 clear h
 obtain ⟨a0,h0,_,b0⟩:=DataW.trod_int Tryz.underlying3 f0
 obtain ⟨a1,h1,_,b1⟩:=DataW.trod_int Tryz.underlying2 f1
 clear f0 f1
 match cs,hl with
 | [c0,c1],_ =>
  simp at h0 h1
  exact ⟨⟨a0,a1⟩,by rw [h0,h1]; rfl,inR_of rfl b0,inR_of rfl b1⟩
theorem open_terms {fuel:Nat} {cs:List Value} {x:DataW H × List MemPlace} (h:DataW.trod enc Tryz.prog w base spare held fuel 56 cs=some x):∃ v l,cs=[v]/\Tms w v l:=by
 obtain ⟨v,css,rfl,hs,hc⟩:=open_sl Tryz.underlying56 cellsTerm (by decide) (fun _ _ _ h=>open_term h) h
 obtain ⟨l,rfl,hl⟩:=map_of hc
 exact ⟨v,l,rfl,hs,hl⟩
theorem open_row {fuel:Nat} {cs:List Value} {x:DataW H × List MemPlace} (h:DataW.trod enc Tryz.prog w base spare held fuel 58 cs=some x):∃ y:RowV × Value,cs=cR y.1 y.2/\Tms w y.2 y.1.terms/\RowOk y.1:=by
 have hl:=struct_length Tryz.underlying58 h cellsRow
 obtain ⟨_,_,f0⟩:=struct_field Tryz.underlying58 h 0 rfl rfl rfl cellsStr
 obtain ⟨_,_,f1⟩:=struct_field Tryz.underlying58 h 1 rfl rfl rfl cellsInt
 obtain ⟨_,_,f2⟩:=struct_field Tryz.underlying58 h 2 rfl rfl rfl cellsInt
 obtain ⟨_,_,f3⟩:=struct_field Tryz.underlying58 h 3 rfl rfl rfl cellsTerms
 obtain ⟨_,_,f4⟩:=struct_field Tryz.underlying58 h 4 rfl rfl rfl cellsI64
 clear h
 obtain ⟨a0,h0,_,b0⟩:=DataW.trod_string Tryz.underlying9 f0
 obtain ⟨a1,h1,_,b1⟩:=DataW.trod_int Tryz.underlying3 f1
 obtain ⟨a2,h2,_,b2⟩:=DataW.trod_int Tryz.underlying3 f2
 obtain ⟨v3,l3,h3,b3⟩:=open_terms f3
 obtain ⟨a4,h4,_,b4⟩:=DataW.trod_int Tryz.underlying2 f4
 clear f0 f1 f2 f3 f4
 match cs,hl with
 | [c0,c1,c2,c3,c4],_ =>
  simp at h0 h1 h2 h3 h4
  exact ⟨⟨⟨a0,a1,a2,l3,a4⟩,v3⟩,by rw [h0,h1,h2,h3,h4]; rfl,b3,b0,inR_of rfl b1,inR_of rfl b2,inR_of rfl b4⟩
theorem open_prog {fuel:Nat} {cs:List Value} {x:DataW H × List MemPlace} (h:DataW.trod enc Tryz.prog w base spare held fuel 25 cs=some x):∃ p:ProgV,IsPrg w (.agg cs.toArray) p:=by
 have hl:=struct_length Tryz.underlying25 h cellsProgram
 obtain ⟨_,_,f0⟩:=struct_field Tryz.underlying25 h 0 rfl rfl rfl cellsVars
 obtain ⟨_,_,f1⟩:=struct_field Tryz.underlying25 h 1 rfl rfl rfl cellsRows
 clear h
 obtain ⟨v0,c0,e0,s0,k0⟩:=open_sl Tryz.underlying22 cellsVar (by decide) (fun _ _ _ h=>open_var h) f0
 obtain ⟨v1,c1,e1,s1,k1⟩:=open_sl Tryz.underlying23 cellsRow (by decide) (fun _ _ _ h=>open_row h) f1
 clear f0 f1
 obtain ⟨l0,rfl,g0⟩:=map_of k0
 obtain ⟨l1,n1,g1⟩:=list_of (R:=fun c (y:RowV × Value)=>c=cR y.1 y.2/\Tms w y.2 y.1.terms/\RowOk y.1) k1
 have hz:c1=List.zipWith cR (l1.map (·.1)) (l1.map (·.2)):=by
  apply List.ext_getElem?
  intro i
  rw [List.getElem?_zipWith,List.getElem?_map,List.getElem?_map]
  by_cases hi:i<l1.length
  ·rw [List.getElem?_eq_getElem hi,List.getElem?_eq_getElem (by omega:i<c1.length)]
   simp only [Option.map_some]
   exact congrArg some (g1 i _ _ (List.getElem?_eq_getElem (by omega)) (List.getElem?_eq_getElem hi)).1
  ·rw [List.getElem?_eq_none (by omega),List.getElem?_eq_none (by omega)]; rfl
 rw [hz] at s1
 match cs,hl with
 | [d0,d1],_ =>
  simp at e0 e1
  subst e0 e1
  refine ⟨⟨l0,l1.map (·.1)⟩,_,_,rfl,⟨s0,g0⟩,l1.map (·.2),by simp,s1,fun i r tv hr ht=>?_⟩
  rw [List.getElem?_map] at hr ht
  obtain ⟨y,hy,rfl⟩:=Option.map_eq_some_iff.1 hr
  rw [hy] at ht
  cases ht
  have hi:=(List.getElem?_eq_some_iff.1 hy).1
  exact (g1 i _ _ (List.getElem?_eq_getElem (by omega)) hy).2
end
open Go.Joins in
theorem open_prog_value {H:Type} {enc:TypeId × Value->H} {w:World} {base:Nat} {spare:Nat->Bool} {held:Bool} {r:Reach} {b0:Nat} {v:Value} {d:DataW H} {p:List MemPlace} (hv:Value.okWide Tryz.prog w r b0 25 v) (h:DataW.Trod enc Tryz.prog w base spare held 25 v d p) :
  ∃ y:ProgV,IsPrg w v y:=by
 obtain ⟨cs,rfl,hsz⟩:=okWide_struct Tryz.underlying25 hv
 obtain ⟨fuel,hf⟩:=h
 obtain ⟨y,hy⟩:=open_prog hf
 refine ⟨y,?_⟩
 simpa [Value.cells] using hy
theorem room_few {n m:Nat} (hn:n<=6) (hm:m<=8):Room n m 12 1200:=by
 refine ⟨by omega,?_⟩
 have e1:m*(12*(1200+3)+2)<=8*14438:=Nat.mul_le_mul hm (by omega)
 have e2:(n+1)*(m*(12*(1200+3)+2)+7)<=7*115511:=Nat.mul_le_mul (by omega) (by omega)
 have e3:m*(1200+3)<=8*1203:=Nat.mul_le_mul hm (by omega)
 have e4:n*(1200+3)<=6*1203:=Nat.mul_le_mul hn (by omega)
 omega
theorem few_parts {p:ProgV} (h:fewP p 6 8=true):Small p 12 1200/\p.vars.length<=6/\p.rows.length<=8:=by
 unfold fewP at h
 simp only [Bool.and_eq_true,decide_eq_true_eq,List.all_eq_true] at h
 refine ⟨⟨room_few h.1.2 h.2,fun i hi=>?_⟩,h.1.2,h.2⟩
 have hm:p.r i ∈ p.rows:=by
  unfold ProgV.r
  rw [getD_lt hi]; exact List.getElem_mem hi
 have:=h.1.1 _ hm
 unfold fewRow at this
 simp only [Bool.and_eq_true,decide_eq_true_eq] at this
 omega
theorem Solve_few (w:World) (pv:Value) (p:ProgV) (hp:IsPrg w pv p) (h:fewP p 6 8=true):Calls Tryz.prog 37 #[pv] w (SolvePost w p 1200):=by
 obtain ⟨_,hn,hm⟩:=few_parts h
 have h1:(p.vars.length+1)*(168+8)<=7*(168+8):=Nat.mul_le_mul_right _ (by omega)
 have h2:(p.vars.length+1)*(168+1)<=7*(168+1):=Nat.mul_le_mul_right _ (by omega)
 have h3:p.vars.length*(168+6)<=6*(168+6):=Nat.mul_le_mul_right _ hn
 exact Solve_any w pv p 168 1200 hp (fun hv=>bndAll6 hv hn) (by omega) (by omega) (by omega) (by omega) (by omega) (by omega) (by omega) (by omega)
theorem IsPrg.slices5 {w:World} {pv:Value} {p:ProgV} (h:IsPrg w pv p):∃ vo vn vc ro rn rc,pv=.agg #[.slice vo vn vc,.slice ro rn rc]:=by
 obtain ⟨vv,rv,rfl,hv,hr⟩:=h
 obtain ⟨vo,vc,rfl,-⟩:=hv.shape
 obtain ⟨ro,rc,rfl,-⟩:=hr.shape
 exact ⟨_,_,_,_,_,_,rfl⟩
section
variable {p:ProgV} {r:RowV} {x z:List Rat} {a b:OutV}
theorem chk_point (h:chkB p a=true) (hk:0<=a.kind/\a.kind<=2) (h1:a.kind≠1):feasB p a.pt=true:=by
 rcases chk_kinds h hk with ⟨_,k1,_⟩ | ⟨k0,_⟩ | ⟨_,k1,_⟩
 ·exact (opt_parts k1).1
 ·exact absurd k0 h1
 ·exact (unb_parts k1).1
theorem inf_nofeas {y:List Rat} (h:infB p y=true) (hf:feasB p x=true):False:=by
 obtain ⟨_,a1,a2⟩:=feas_rows hf
 exact inf_none h a1 a2
end
def VarV.scale (v:VarV) (k:Int):VarV:=⟨v.lo,v.up,v.op,v.ig,v.co*k⟩
def ProgV.scale (p:ProgV) (k:Int):ProgV:=⟨p.vars.map fun v=>v.scale k,p.rows⟩
section
variable {p:ProgV} {k:Int} {x z:List Rat} {a b:OutV}
theorem scale_len:(p.scale k).vars.length=p.vars.length:=by simp [ProgV.scale]
theorem scale_v {i:Nat} (hi:i<p.vars.length):(p.scale k).v i=(p.v i).scale k:=by
 unfold ProgV.v ProgV.scale
 simp [List.getD_eq_getElem?_getD,hi]
theorem scale_clip:clipQ (p.scale k) x=clipQ p x:=by
 unfold clipQ
 rw [scale_len]
theorem scale_inside:insideB (p.scale k) x=insideB p x:=by
 rw [Bool.eq_iff_iff]
 unfold insideB
 rw [allTo_iff,allTo_iff,scale_len]
 constructor
 ·intro h i hi
  have:=h i hi
  rwa [scale_v hi] at this
 ·intro h i hi
  rw [scale_v hi]
  exact h i hi
theorem scale_viol:violQ (p.scale k) x=violQ p x:=by
 unfold violQ
 rw [scale_clip]; rfl
theorem scale_cost:costQ (p.scale k) x=(k:Rat)*costQ p x:=by
 unfold costQ
 rw [scale_len,<- sumTo_mul]
 refine sumTo_congr fun i hi=>?_
 rw [scale_v hi]
 show ((((p.v i).co*k:Int):Rat))*_=_
 rw [Rat.intCast_mul]; grind
theorem scale_feas (hv:validB p=true) (hq:validB (p.scale k)=true):feasB (p.scale k) x=feasB p x:=by
 unfold feasB
 rw [hv,hq,scale_inside,scale_viol]
theorem scale_ray:rayB (p.scale k) z=rayB p z:=by
 rw [Bool.eq_iff_iff]
 unfold rayB
 rw [allTo_iff,allTo_iff,scale_len]
 constructor
 ·intro h i hi
  have:=h i hi
  rwa [scale_v hi] at this
 ·intro h i hi
  rw [scale_v hi]
  exact h i hi
theorem scale_zero:zeroB (p.scale k) z=zeroB p z:=by
 unfold zeroB
 rw [scale_clip]; rfl
theorem scale_unb (hv:validB p=true) (hq:validB (p.scale k)=true) (hk:0<k):unbB (p.scale k) x z=unbB p x z:=by
 have hk':(0:Rat)<(k:Rat):=by exact_mod_cast hk
 unfold unbB
 rw [scale_feas hv hq,scale_cost,scale_ray,scale_zero]
 congr 3
 refine decide_eq_decide.2 ⟨fun h=>?_,fun h=>?_⟩
 ·refine Rat.not_le.1 fun hle=>?_
  have:=Rat.mul_nonneg (Rat.le_of_lt hk') hle
  exact absurd h (Rat.not_lt.2 this)
 ·have:=Rat.mul_lt_mul_of_pos_left h hk'
  grind
theorem scale_law (hv:validB p=true) (hq:validB (p.scale k)=true) (hk:0<=k) (ha:chkB p a=true) (hka:0<=a.kind/\a.kind<=2) (hb:chkB (p.scale k) b=true) (hkb:0<=b.kind/\b.kind<=2) :
  (a.kind=1↔b.kind=1)/\(a.kind≠1->k=0->b.kind=0/\b.val=0)/\(a.kind≠1->0<k->a.kind=b.kind/\b.val=(k:Rat)*a.val):=by
 have h1:a.kind=1↔b.kind=1:=by
  constructor
  ·intro h
   refine Classical.byContradiction fun hn=>?_
   have hf:=chk_point hb hkb hn
   rw [scale_feas hv hq] at hf
   rcases chk_kinds ha hka with ⟨k0,_⟩ | ⟨_,k1,_⟩ | ⟨k0,_⟩
   ·omega
   ·exact inf_nofeas k1 hf
   ·omega
  ·intro h
   refine Classical.byContradiction fun hn=>?_
   have hf:=chk_point ha hka hn
   rw [<- scale_feas hv hq] at hf
   rcases chk_kinds hb hkb with ⟨k0,_⟩ | ⟨_,k1,_⟩ | ⟨k0,_⟩
   ·omega
   ·exact inf_nofeas k1 hf
   ·omega
 refine ⟨h1,fun hn h0=>?_,fun hn hp=>?_⟩
 ·subst h0
  have hn':b.kind≠1:=fun e=>hn (h1.2 e)
  rcases chk_kinds hb hkb with ⟨k0,k1,k2⟩ | ⟨k0,_⟩ | ⟨k0,k1,k2⟩
  ·refine ⟨k0,?_⟩
   rw [k2,scale_cost]
   show ((0:Int):Rat)*_=0
   rw [show ((0:Int):Rat)=0 from rfl]; grind
  ·exact absurd k0 hn'
  ·exfalso
   unfold unbB at k1
   simp only [Bool.and_eq_true,decide_eq_true_eq] at k1
   have:=k1.1.1.2
   rw [scale_cost,show ((0:Int):Rat)=0 from rfl] at this
   grind
 ·have hn':b.kind≠1:=fun e=>hn (h1.2 e)
  have hp':(0:Rat)<(k:Rat):=by exact_mod_cast hp
  rcases chk_kinds ha hka with ⟨k0,k1,k2⟩ | ⟨k0,_⟩ | ⟨k0,k1,k2⟩
  ·rcases chk_kinds hb hkb with ⟨m0,m1,m2⟩ | ⟨m0,_⟩ | ⟨m0,m1,m2⟩
   ·refine ⟨by omega,?_⟩
    obtain ⟨f1,g1⟩:=opt_parts k1
    obtain ⟨f2,g2⟩:=opt_parts m1
    have f1':=f1
    have f2':=f2
    rw [<- scale_feas hv hq] at f1'
    rw [scale_feas hv hq] at f2'
    obtain ⟨_,a1,a2⟩:=feas_rows f1'
    obtain ⟨_,b1,b2⟩:=feas_rows f2'
    have e1:=bound_le g2 a1 a2
    have e2:=bound_le g1 b1 b2
    rw [m2,k2]
    rw [scale_cost] at e1 ⊢
    rw [scale_cost] at e1
    have e3:=Rat.mul_le_mul_of_nonneg_left e2 (Rat.le_of_lt hp')
    exact Rat.le_antisymm e1 e3
   ·exact absurd m0 hn'
   ·rw [scale_unb hv hq hp] at m1
    exact (unb_nobound m1 (opt_parts k1).2).elim
  ·exact absurd k0 hn
  ·rcases chk_kinds hb hkb with ⟨m0,m1,m2⟩ | ⟨m0,_⟩ | ⟨m0,m1,m2⟩
   ·rw [<- scale_unb hv hq hp] at k1
    exact (unb_nobound k1 (opt_parts m1).2).elim
   ·exact absurd m0 hn'
   ·refine ⟨by omega,?_⟩
    rw [k2,m2]; grind
end
theorem free_law {p:ProgV} {a b:OutV} (hv:validB p=true) (hq:validB (p.scale 0)=true) (ha:chkB p a=true) (hka:0<=a.kind/\a.kind<=2) (hb:chkB (p.scale 0) b=true) (hkb:0<=b.kind/\b.kind<=2) :
  (a.kind=1/\b.kind=1/\b.pt=[])∨(a.kind≠1/\b.kind=0/\feasB p b.pt=true/\b.pt.length=p.vars.length):=by
 obtain ⟨h1,h2,_⟩:=scale_law hv hq (Int.le_refl 0) ha hka hb hkb
 by_cases hn:a.kind=1
 ·have hb1:=h1.1 hn
  refine .inl ⟨hn,hb1,?_⟩
  unfold chkB at hb
  rw [if_neg (by omega),if_pos hb1] at hb
  unfold chk2 at hb
  simp only [Bool.and_eq_true,decide_eq_true_eq] at hb
  exact List.eq_nil_of_length_eq_zero (by omega)
 ·have hb0:=(h2 hn rfl).1
  have hf:=chk_point hb hkb (by omega)
  rw [scale_feas hv hq] at hf
  refine .inr ⟨hn,hb0,hf,?_⟩
  unfold chkB at hb
  rw [if_pos hb0] at hb
  unfold chk1 at hb
  simp only [Bool.and_eq_true,decide_eq_true_eq] at hb
  rw [hb.1.1.1.1,scale_len]
section
variable {β:Type} {f:β->List Value} {T:TypeId}
def SOwn (f:β->List Value) (T:TypeId) (w:World) (base:Nat) (v:Value) (l:List β):Prop:=w.ownsRow base T 5 v l.length (l.flatMap f)
theorem SOwn.keep {w w':World} {base:Nat} {v:Value} {l:List β} (h:SOwn f T w base v l) (hx:XF w w'):SOwn f T w' base v l:=ownsRow_ext h hx (fun _ _ h=>h)
theorem SOwn.lt {w:World} {base:Nat} {v:Value} {l:List β} (h:SOwn f T w base v l):∀ g,v.ownBlock=some g->base<=g/\g<w.heap.size:=World.ownsRow.lt h
theorem SOwn.shape {w:World} {base:Nat} {v:Value} {l:List β} (h:SOwn f T w base v l):∃ ao cap,v=.slice ao l.length cap:=ownsRow_shape h
def SArr (f:β->List Value) (T:TypeId) (w:World) (g:Nat) (l:List β):Prop:=∃ cur,blk w g=some (.cells cur T (0,0))/\∀ k x,l[k]?=some x->∀ j,j<5->cur[k*5+j]?=(f x)[j]?
theorem SArr.keep {w w':World} {g:Nat} {l:List β} (h:SArr f T w g l) (hx:XF w w'):SArr f T w' g l:=by
 obtain ⟨cur,h1,h2⟩:=h
 exact ⟨cur,blk_keep h1 hx,h2⟩
theorem SArr.cell {w:World} {g:Nat} {l:List β} (hf:∀ x,(f x).length=5) (h:SArr f T w g l) {k:Nat} {x:β} (hk:l[k]?=some x) {j:Nat} {u:Value} (hu:(f x)[j]?=some u):w.cell? ⟨g,k*5+j,none⟩=some u/\w.frozen? ⟨g,k*5+j,none⟩=false:=by
 obtain ⟨cur,h1,h2⟩:=h
 have hj:j<5:=by rw [<- hf x]; exact (List.getElem?_eq_some_iff.1 hu).1
 exact ⟨by rw [cell_of_cells h1,h2 k x hk j hj]; exact hu,free_of_cells h1 _⟩
theorem SArr.sl {w:World} {g:Nat} {l:List β} {c:Nat} (hf:∀ x,(f x).length=5) (h:SArr f T w g l) (hc:l.length<=c) (hm:c<=maxLen):Sl w (.slice (some ⟨g,0,none⟩) l.length c) 5 (l.map f):=by
 refine ⟨some ⟨g,0,none⟩,c,by rw [List.length_map],by rw [List.length_map]; exact hc,hm,(fun e=>by cases e),fun _=>⟨g,0,rfl,?_,fun i r hi j u hu=>?_⟩⟩
 ·obtain ⟨cur,h1,_⟩:=h; exact blk_lt h1
 ·rw [List.getElem?_map] at hi
  obtain ⟨x,hx,rfl⟩:=Option.map_eq_some_iff.1 hi
  rw [Nat.zero_add]
  exact (h.cell hf hx hu).1
theorem SOwn.arr {w:World} {base:Nat} {ao:Option Addr} {n c:Nat} {l:List β} (hf:∀ x,(f x).length=5) (h:SOwn f T w base (.slice ao n c) l):(n=0/\l=[]/\(ao=none->c=0)/\c<=maxLen)∨∃ g,ao=some ⟨g,0,none⟩/\base<=g/\n=l.length/\n<=c/\c<=maxLen/\SArr f T w g l:=by
 rcases h.2 with ⟨e,h0⟩ | ⟨g,cap,cur,e,hb,hg,hnc,hcm,hcs,htake⟩
 ·cases e
  exact .inl ⟨rfl,List.eq_nil_of_length_eq_zero h0,fun _=>rfl,Nat.zero_le _⟩
 ·cases e
  refine .inr ⟨g,rfl,hb,rfl,hnc,hcm,cur,hg,fun k x hk j hj=>?_⟩
  have hkl:k<l.length:=(List.getElem?_eq_some_iff.1 hk).1
  have hget:=fm_get (f:=f) (m:=5) hf l k hk j hj
  rw [<- htake,List.getElem?_take,if_pos (by omega),Array.getElem?_toList] at hget
  exact hget
theorem SArr.set1 {w:World} {g:Nat} {l:List β} {k j:Nat} {x y:β} {u:Value} (h:SArr f T w g l) (hk:l[k]?=some x) (hj:j<5) (hin:k*5+j<(match blk w g with | some (.cells cur _ _)=>cur.size | _=>0)) (hy:∀ i,(f y)[i]?=if i=j then some u else (f x)[i]?):SArr f T (w.setCell ⟨g,k*5+j,none⟩ u) g (l.set k y):=by
 obtain ⟨cur,h1,h2⟩:=h
 rw [h1] at hin
 refine ⟨_,blk_setCell_same h1 (k*5+j) u,fun k' x' hk' j' hj'=>?_⟩
 rw [Array.getElem?_setIfInBounds]
 by_cases e:k'=k
 ·subst e
  rw [List.getElem?_set_self (List.getElem?_eq_some_iff.1 hk).1] at hk'
  cases hk'
  rw [hy j']
  by_cases e2:j'=j
  ·subst e2; rw [if_pos rfl,if_pos rfl,if_pos hin]
  ·rw [if_neg (by omega),if_neg e2]; exact h2 k' x hk j' hj'
 ·rw [List.getElem?_set_ne (Ne.symm e)] at hk'
  rw [if_neg (by omega)]
  exact h2 k' x' hk' j' hj'
end
abbrev RT:=RowV × Value
theorem cV_len (x:VarV):(cV x).length=5:=rfl
def blOf:Value->Option Nat
 | .slice (some a) _ _=>some a.block
 | .pointer (some a)=>some a.block
 | _=>none
theorem blOf_own {v:Value} {ao:Option Addr} {n c:Nat} (h:v=.slice ao n c):blOf v=v.ownBlock:=by
 subst h
 cases ao <;> rfl
def Asunder (u v:Value):Prop:=∀ g,blOf u=some g->blOf v=some g->False
section
variable {B:Nat} {y:RT} {oa:Option (List VarV)} {ob:Option (List RT)} {c d:Bool} {w5 w w':World} {vA vB vC vD:Value}
end
theorem Tryz.infoVar:(Tryz.prog.info? 63).map (fun i=>(i.zero,i.size,i.bytes))=some (some (.agg #[.int .i64 0,.int .i64 0,.bool false,.bool false,.int .i64 0]),5,32):=by kernel_rfl
section
variable {β:Type} {f:β->List Value} {T ts:TypeId}
theorem Sl.lies {w:World} {ao:Option Addr} {n c:Nat} {l:List β} (hf:∀ x,(f x).length=5) (h:Sl w (.slice ao n c) 5 (l.map f)):n=l.length/\(ao=none->c=0)/\Lies w ao l.length (l.flatMap f):=by
 obtain ⟨ao',c',e,h1,h2,h3,h4⟩:=h
 cases e
 rw [List.length_map] at h4 ⊢
 refine ⟨rfl,h3,?_⟩
 by_cases h0:l.length=0
 ·exact .inl h0
 ·obtain ⟨b,off,rfl,hb,hc⟩:=h4 (by omega)
  refine .inr ⟨_,rfl,fun j u hu=>?_⟩
  have hj:j<l.length*5:=by
   have:=(List.getElem?_eq_some_iff.1 hu).1
   rwa [fm_length hf] at this
  have hi:j / 5<l.length:=by omega
  have hr:j % 5<5:=Nat.mod_lt _ (by decide)
  have hg:=fm_get (f:=f) (m:=5) hf l (j / 5) (List.getElem?_eq_getElem hi) (j % 5) hr
  rw [show j / 5*5+j % 5=j from by omega] at hg
  have:=hc (j / 5) _ (by rw [List.getElem?_map,List.getElem?_eq_getElem hi]; rfl) (j % 5) u (hg.symm.trans hu)
  rw [show off+j / 5*5+j % 5=off+j from by omega] at this
  simpa [Addr.add_lit] using this
end
theorem cV_one (x:VarV):∀ u ∈ cV x,u.oneCell'=true:=fun u hu=>by
 simp [cV] at hu
 rcases hu with rfl | rfl | rfl | rfl | rfl <;> rfl
section
variable {β:Type} {f:β->List Value} {T:TypeId}
theorem SArr.size {w:World} {g:Nat} {l:List β} (hf:∀ x,(f x).length=5) (h:SArr f T w g l) {k:Nat} (hk:k<l.length):∃ cur,blk w g=some (.cells cur T (0,0))/\k*5+4<cur.size:=by
 obtain ⟨cur,h1,h2⟩:=h
 refine ⟨cur,h1,?_⟩
 have h3:=h2 k _ (List.getElem?_eq_getElem hk) 4 (by decide)
 rw [List.getElem?_eq_getElem (by rw [hf]; decide)] at h3
 exact (Array.getElem?_eq_some_iff.1 h3).1
end
section
variable {w5 w w':World} {gb gB:Nat} {ao:Option Addr} {vn ac rn bc:Nat} {vars:List VarV} {rows:List RT}
end
theorem SOwn.down {β:Type} {f:β->List Value} {T:TypeId} {w:World} {b b':Nat} {v:Value} {l:List β} (h:SOwn f T w b v l) (hb:b'<=b):SOwn f T w b' v l:=by
 refine ⟨h.1,?_⟩
 rcases h.2 with h | ⟨g,cap,cur,e,h1,h2⟩
 ·exact .inl h
 ·exact .inr ⟨g,cap,cur,e,Nat.le_trans hb h1,h2⟩
theorem cV_noD (l:List VarV):NoD (l.flatMap cV):=fun u hu d e=>by
 obtain ⟨x,_,hx⟩:=List.mem_flatMap.1 hu
 subst e
 simp [cV] at hx
theorem cloneV_any (w:World) (ao:Option Addr) (n c:Nat) (l:List VarV) (h:Sl w (.slice ao n c) 5 (l.map cV)) (hn:l.length<=100000):Calls Tryz.prog 98 #[.slice ao n c] w (fun r w'=>∃ v',r=.returned v'/\SOwn cV 63 w' w.heap.size v' l/\XF w w'):=by
 have q22:∀ (w:World) (a:Option Addr) (n c n' c':Nat),(binOp .eql 22 (.slice a n c) (.slice none n' c')).run Tryz.prog w=.ok (.bool a.isNone) w:=fun w a n c n' c'=>Lib.run_eql_slice_nil w _ _ a n c n' c' Tryz.underlying22
 cases ao with
 | none =>
  obtain ⟨rfl,hc,hl⟩:=h.lies cV_len
  have h0:l=[]:=by
   rcases hl with h | ⟨a,e,_⟩
   ·exact List.eq_nil_of_length_eq_zero h
   ·cases e
  subst h0
  clear h hl hc
  go_enter Tryz.func98,Tryz.ntmps98
  go_wp2
  go_ret
  exact ⟨_,rfl,World.ownsRow_nil _ _ _ 5,Ext.refl _ _⟩
 | some ad =>
  have hx1:XF w (w.alloc (.cells #[] 63)):=(Ext.refl _ w).alloc _
  have hb1:blk (w.alloc (.cells #[] 63)) w.heap.size=some (.cells #[] 63 (0,0)):=blk_alloc_at _ _
  obtain ⟨rfl,-,hl⟩:=(h.keep hx1).lies cV_len
  have hsrc:∀ j u,(l.flatMap cV)[j]?=some u->(w.alloc (.cells #[] 63)).cell? (ad.add j)=some u:=fun j u hu=>by
   rcases hl with h0 | ⟨a,e,h2⟩
   ·rw [List.eq_nil_of_length_eq_zero h0] at hu; cases hu
   ·cases e; exact h2 j u hu
  have HX:=bH (bI hx1 (bI hb1 hsrc))
  clear hx1 hb1 hsrc hl h
  obtain ⟨n,hln⟩:∃ n,l.length=n:=⟨_,rfl⟩
  have HL:=bH hln
  rw [hln] at hn ⊢
  clear hln
  go_enter Tryz.func98,Tryz.ntmps98
  go_wp2_with (at_builtin; refine wpList_clone rfl (.tmp 5) (.tmp 6) rfl Tryz.underlying22 Tryz.infoVar rfl (fun u hu d e=>by subst e; simp [Value.cells] at hu) (by decide) (by decide) w.heap.size w.heap.size rfl HX.out.2.1 (Nat.le_refl _) ad n c rfl (l.flatMap cV) (by rw [<- HL.out]; exact fm_length cV_len l) HX.out.2.2 (fun u hu=>by obtain ⟨x,_,hx⟩:=List.mem_flatMap.1 hu; exact cV_one x u hx) (cV_noD l) hn ?_; intro v5 w5 hc5; have HO:=bH hc5)
  have HR:=bH (show SOwn cV 63 w5 w.heap.size v5 l/\XF w w5 from
   ⟨by unfold SOwn; rw [HL.out]; exact HO.out.own,HX.out.1.own HO.out.ext (fun k e=>by have e':k=w.heap.size:=e; omega)⟩)
  go_wp2
  go_ret
  exact ⟨_,rfl,HR.out⟩
def zeroL (l:List VarV) (k:Nat):List VarV:=(l.take k).map (fun v=>v.scale 0)++l.drop k
theorem zeroL_zero (l:List VarV):zeroL l 0=l:=by simp [zeroL]
theorem zeroL_all (l:List VarV):zeroL l l.length=l.map fun v=>v.scale 0:=by simp [zeroL]
theorem zeroL_len (l:List VarV) (k:Nat):(zeroL l k).length=l.length:=by simp [zeroL]; omega
theorem zeroL_at (l:List VarV) (k i:Nat):(zeroL l k)[i]?=if i<k then (l[i]?).map (fun v=>v.scale 0) else l[i]?:=by
 unfold zeroL
 by_cases h:i<(l.take k).length
 ·have h2:i<k/\i<l.length:=by rw [List.length_take] at h; omega
  rw [List.getElem?_append_left (by rw [List.length_map]; exact h),List.getElem?_map,List.getElem?_take_of_lt h2.1,if_pos h2.1]
 ·rw [List.getElem?_append_right (by rw [List.length_map]; omega),List.length_map,List.getElem?_drop]
  rw [List.length_take] at h ⊢
  by_cases hk:i<k
  ·rw [if_pos hk,List.getElem?_eq_none (by omega),List.getElem?_eq_none (by omega)]; rfl
  ·rw [if_neg hk]
   by_cases hl:k<=l.length
   ·rw [show k+(i - min k l.length)=i by omega]
   ·rw [List.getElem?_eq_none (by omega),List.getElem?_eq_none (by omega)]
theorem scale0 (v:VarV):v.scale 0={ v with co:=0 }:=by simp [VarV.scale]
theorem zeroL_set {l:List VarV} {k:Nat} {x:VarV} (h:l[k]?=some x):(zeroL l k).set k { x with co:=0 }=zeroL l (k+1):=by
 have hk:k<l.length:=(List.getElem?_eq_some_iff.1 h).1
 refine List.ext_getElem? fun i=>?_
 by_cases e:i=k
 ·subst e
  rw [List.getElem?_set_self (by rw [zeroL_len]; exact hk),zeroL_at,if_pos (by omega),h,<- scale0]; rfl
 ·rw [List.getElem?_set_ne (Ne.symm e),zeroL_at,zeroL_at]
  by_cases e2:i<k
  ·rw [if_pos e2,if_pos (by omega)]
  ·rw [if_neg e2,if_neg (by omega)]
structure FSt (w1 w:World) (gb:Nat) (ao:Option Addr) (vn ac:Nat) (rv:Value) (vars:List VarV):Prop where
 ext:XF w1 w
 box:blk w gb=some (.cells #[.slice ao vn ac,rv] 25 (0,0))
 low:w1.heap.size<=gb
 vlen:vars.length=vn
 vcap:ac<=maxLen
 varsA:(vn=0/\(ao=none->ac=0))∨∃ gA,ao=some ⟨gA,0,none⟩/\vn<=ac/\SArr cV 63 w gA vars/\gA≠gb/\w1.heap.size<=gA
section
variable {w1 w w':World} {gb:Nat} {ao:Option Addr} {vn ac:Nat} {rv:Value} {vars:List VarV}
theorem FSt.of {vA:Value} (hx:XF w1 w) (hb:blk w gb=some (.cells #[vA,rv] 25 (0,0))) (hl:w1.heap.size<=gb) (hA:SOwn cV 63 w w1.heap.size vA vars) (had:Asunder vA (.pointer (some ⟨gb,0,none⟩))) :
  ∃ ao ac,vA=.slice ao vars.length ac/\FSt w1 w gb ao vars.length ac rv vars:=by
 obtain ⟨ao,ac,rfl⟩:=hA.shape
 refine ⟨ao,ac,rfl,hx,hb,hl,rfl,?_,?_⟩
 ·rcases hA.arr cV_len with ⟨_,_,_,h⟩ | ⟨_,_,_,_,_,h,_⟩ <;> exact h
 ·rcases hA.arr cV_len with ⟨h0,_,h2,_⟩ | ⟨gA,rfl,k1,_,k2,k3,k4⟩
  ·exact .inl ⟨h0,h2⟩
  ·exact .inr ⟨gA,rfl,k2,k4,fun e=>had gb (by rw [e]; rfl) rfl,k1⟩
theorem FSt.keep (h:FSt w1 w gb ao vn ac rv vars) (hx:XF w w'):FSt w1 w' gb ao vn ac rv vars :=
 ⟨h.ext.trans hx,blk_keep h.box hx,h.low,h.vlen,h.vcap,(by
  rcases h.varsA with e | ⟨gA,e,h1,h2,h3⟩
  ·exact .inl e
  ·exact .inr ⟨gA,e,h1,h2.keep hx,h3⟩)⟩
theorem FSt.sl (h:FSt w1 w gb ao vn ac rv vars):Sl w (.slice ao vn ac) 5 (vars.map cV):=by
 rcases h.varsA with ⟨e,e2⟩ | ⟨gA,rfl,h1,h2,_⟩
 ·have hv:=h.vlen
  rw [e] at hv
  obtain rfl:=List.eq_nil_of_length_eq_zero hv
  subst e
  exact ⟨ao,ac,rfl,Nat.zero_le _,h.vcap,e2,fun h=>absurd h (Nat.lt_irrefl 0)⟩
 ·have:=h2.sl cV_len (c:=ac) (by rw [h.vlen]; exact h1) h.vcap
  rw [h.vlen] at this
  exact this
theorem FSt.setCo {gA:Nat} (h:FSt w1 w gb (some ⟨gA,0,none⟩) vn ac rv vars) {k:Nat} (hk:k<vn) {x:VarV} (hx0:vars[k]?=some x) (n:Int) :
  FSt w1 (w.setCell ⟨gA,k*5+4,none⟩ (.int .i64 n)) gb (some ⟨gA,0,none⟩) vn ac rv (vars.set k { x with co:=n }):=by
 rcases h.varsA with e | ⟨gA',e,h1,h2,h4,h5⟩
 ·omega
 cases e
 have hx:=(Ext.refl (fun i=>i=gA) w).setCell (p:=⟨gA,k*5+4,none⟩) (.int .i64 n) (fun _=>rfl)
 obtain ⟨cur,hc1,hc2⟩:=h2.size cV_len (k:=k) (by rw [h.vlen]; exact hk)
 refine ⟨h.ext.own hx (fun k e=>by omega),(hx.blk (blk_lt h.box) (fun e=>h4 e.symm)).trans h.box,h.low,(by rw [List.length_set]; exact h.vlen),h.vcap,.inr ⟨gA,rfl,h1,?_,h4,h5⟩⟩
 exact h2.set1 (j:=4) hx0 (by decide) (by rw [hc1]; exact hc2) (fun i=>by
  match i with
  | 0=>rfl
  | 1=>rfl
  | 2=>rfl
  | 3=>rfl
  | 4=>rfl
  | i+5=>rfl)
end
def freeP (p:ProgV):ProgV:=if validB p=true then p.scale 0 else p
theorem scale_few {p:ProgV} {k:Int} {n m:Nat}:fewP (p.scale k) n m=fewP p n m:=by
 unfold fewP
 rw [scale_len]; rfl
theorem valid_zero {p:ProgV} (hv:validB p=true):validB (p.scale 0)=true:=by
 unfold validB at hv ⊢
 simp only [Bool.and_eq_true,decide_eq_true_eq] at hv ⊢
 refine ⟨⟨⟨by rw [scale_len]; exact hv.1.1.1,hv.1.1.2⟩,?_⟩,?_⟩
 ·show (p.vars.map fun v=>v.scale 0).all varB=true
  rw [List.all_map,List.all_eq_true]
  intro v hm
  have h1:=List.all_eq_true.1 hv.1.2 v hm
  unfold varB at h1
  simp only [Bool.and_eq_true] at h1
  show varB (v.scale 0)=true
  unfold varB
  simp only [Bool.and_eq_true]
  refine ⟨⟨⟨h1.1.1.1,h1.1.1.2⟩,?_⟩,h1.2⟩
  show limB (v.co*0)=true
  rw [Int.mul_zero]; decide
 ·rw [scale_len]; exact hv.2
def FeasPost (w0:World) (p:ProgV) (r:Ending) (w':World):Prop:=∃ v o e,r=.returned (.tuple #[v,.bool (decide (e=0) && decide (o.kind=0)),.int .i64 e])/\SolveV (freeP p) o e/\CRats w' v o.pt 1200/\XF w0 w'
theorem Feasible_any (w:World) (pv:Value) (p:ProgV) (hp:IsPrg w pv p) (hf:fewP p 6 8=true):Calls Tryz.prog 47 #[pv] w (FeasPost w p):=by
 obtain ⟨vo,vn,vc,ro,rn,rc,rfl⟩:=hp.slices5
 have hxa:=(Ext.refl (fun _=>False) w).alloc (.cells #[.slice vo vn vc,.slice ro rn rc] 25)
 have HB:=bH (bI (hp.keep hxa) (bI (blk_alloc_at w (.cells #[.slice vo vn vc,.slice ro rn rc] 25)) (bI hxa hf)))
 have hn6:=(few_parts hf).2.1
 clear hp hxa hf
 go_enter Tryz.func47,Tryz.ntmps47
 go_upto_region 1 with fail
 generalize w.alloc (.cells #[.slice vo vn vc,.slice ro rn rc] 25)=w1 at *
 obtain ⟨pb,hpb⟩:∃ q,w.heap.size=q:=⟨_,rfl⟩
 rw [hpb] at HB ⊢
 clear hpb
 have HV:=bH (fun W (hW:XF w1 W)=>Valid_any W (.agg #[.slice vo vn vc,.slice ro rn rc]) p (HB.out.1.keep hW))
 have hsl:Sl w1 (.slice vo vn vc) 5 (p.vars.map cV)/\∀ x ∈ p.vars,VarOk x:=by
  obtain ⟨vv,rv,e,h,-⟩:=HB.out.1
  cases e
  exact h
 have HVs:=bH hsl
 clear hsl
 have HC:=bH (fun W (hW:XF w1 W)=>cloneV_any W vo vn vc p.vars (HVs.out.1.keep hW) (by omega))
 go_cut [5] (fun v5 wx=>∃ gb v',v5=.pointer (some ⟨gb,0,none⟩)/\blk wx gb=some (.cells #[v',.slice ro rn rc] 25 (0,0))/\w1.heap.size<=gb/\SOwn cV 63 wx w1.heap.size v' p.vars/\Asunder v' (.pointer (some ⟨gb,0,none⟩))/\XF w1 wx)
 case rest =>
  obtain ⟨gb,vA,rfl,hgb,hgl,hA,had,hxc⟩:=hcut
  obtain ⟨ao,ac,rfl,hq⟩:=FSt.of hxc hgb hgl hA had
  have HQ:=bH hq
  clear hgb hgl hA had hxc hq HC
  have HRw:=bH (fun W (hW:XF w1 W)=>show Rws W (.slice ro rn rc) p.rows from by
   obtain ⟨vv,rv,e,-,h⟩:=HB.out.1.keep hW
   cases e
   exact h)
  obtain ⟨n,hvn⟩:∃ n,p.vars.length=n:=⟨_,rfl⟩
  have HN:=bH hvn
  rw [hvn] at HQ hn6
  clear hvn
  have p0:=cellq (blk_keep HB.out.2.1 HQ.out.ext) 0 rfl
  have p1:=cellq (blk_keep HB.out.2.1 HQ.out.ext) 1 rfl
  have z0:=cellq HQ.out.box 0 rfl
  have z1:=cellq HQ.out.box 1 rfl
  obtain ⟨vb,hvb⟩:∃ vb,validB p=vb:=⟨_,rfl⟩
  rw [hvb] at HV
  have HVb:=bH hvb
  clear hvb
  cases vb with
  | false =>
   go_upto_region 8 with (go_at_call 57; refine (HV.out _ HQ.out.ext).mono ?_; rintro r2 w2 ⟨rfl,hx2⟩; have HQ2:=bH (HQ.out.keep hx2); clear z0 z1 p0 p1 HQ hx2; have z0:=cellq HQ2.out.box 0 rfl; have z1:=cellq HQ2.out.box 1 rfl)
   have HSo:=bH (Solve_few w2 _ p ⟨_,_,rfl,⟨HQ2.out.sl,HVs.out.2⟩,HRw.out _ HQ2.out.ext⟩ HB.out.2.2.2)
   go_upto_region 9 with (go_at_call 37; refine HSo.out.mono ?_; rintro r8 w8 ⟨v8,o,e,rfl,hsv,hfar,hx8⟩; obtain ⟨-,rfl⟩:=hsv.uniq (.bad HVb.out); obtain ⟨ng,a1,m1,c1,a2,m2,c2,pv5,mv5,rv5,e5,ho1,ho2,ho3,ho4,ho5⟩:=hfar.now; obtain ⟨po,pc,rfl,-,-,-⟩:=ho2.shape; obtain ⟨mo,mc,rfl,-,-,-⟩:=ho3.shape; obtain ⟨zo,zc,rfl,-,-,-⟩:=ho4.shape; subst e5; have HO:=bH (bI ho2 hx8); have HSv:=bH hsv; clear hsv hfar hx8 ho1 ho2 ho3 ho4 ho5; generalize hkd:o.kind=kd; have HKd:=bH hkd; clear hkd; generalize hpn:o.pt.length=pn at HO ⊢; clear hpn; generalize o.mu.length=mn; generalize o.ray.length=zn)
   have hxa:=(Ext.refl (fun _=>False) w8).alloc (.cells #[.int .i64 kd,.bool ng,.slice a1 m1 c1,.slice a2 m2 c2,.slice po pn pc,.slice mo mn mc,.slice zo zn zc] 34)
   have HW9:=bH (bI (blk_alloc_at w8 (.cells #[.int .i64 kd,.bool ng,.slice a1 m1 c1,.slice a2 m2 c2,.slice po pn pc,.slice mo mn mc,.slice zo zn zc] 34)) (bI (HO.out.1.keep hxa) (HO.out.2.trans hxa)))
   clear hxa HO
   generalize w8.alloc (.cells #[.int .i64 kd,.bool ng,.slice a1 m1 c1,.slice a2 m2 c2,.slice po pn pc,.slice mo mn mc,.slice zo zn zc] 34)=w9 at *
   generalize w8.heap.size=ob at *
   have e0:=cellq HW9.out.1 0 rfl
   have e4:=cellq HW9.out.1 4 rfl
   have HSp:=bH (show SolveV (freeP p) o 1 from by unfold freeP; rw [if_neg (by rw [HVb.out]; decide)]; exact HSv.out)
   clear HSv
   go_wp2
   go_region
   go_wp2
   refine bodyPost_ret (v:=.tuple #[.slice po pn pc,.bool false,.int .i64 1]) (by simp [results,Tryz.results47,go_sem]) rfl ?_
   exact ⟨_,o,1,rfl,HSp.out,HW9.out.2.1,(HB.out.2.2.1.trans (HQ2.out.ext.trans HW9.out.2.2)).drew⟩
  | true =>
   go_upto_region 3 with (go_at_call 57; refine (HV.out _ HQ.out.ext).mono ?_; rintro r2 w2 ⟨rfl,hx2⟩; have HQ2:=bH (HQ.out.keep hx2); clear z0 z1 p0 p1 HQ hx2; have z0:=cellq HQ2.out.box 0 rfl; have z1:=cellq HQ2.out.box 1 rfl)
   go_wp2_with fail
   go_loopg [20,6] n (fun gg v20 v6 wr=>∃ k:Nat,k<=n/\gg=n - k/\v20=.int .i64 k/\FSt w1 wr gb ao n ac (.slice ro rn rc) (zeroL p.vars k))
   case atStart=>exact ⟨0,Nat.zero_le _,rfl,rfl,by rw [zeroL_zero]; exact HQ2.out⟩
   case round =>
    clear z0 z1
    obtain ⟨k,hk,rfl,rfl,hq⟩:=hrel
    have HQk:=bH hq
    clear hq HQ2
    by_cases hkn:k<n
    ·have k0:(k:Int)<(n:Int):=by omega
     have k1:(0:Int)<=(k:Int):=by omega
     rcases HQk.out.varsA with e | ⟨gA,e,hva⟩
     ·exact absurd e.1 (by omega)
     subst e
     have hgl:p.vars[k]?=some (p.v k):=by
      have hkl:k<p.vars.length:=by rw [HN.out]; exact hkn
      rw [List.getElem?_eq_getElem hkl,<- getD_lt hkl var0]; rfl
     have hgz:(zeroL p.vars k)[k]?=some (p.v k):=by rw [zeroL_at,if_neg (Nat.lt_irrefl k)]; exact hgl
     have c0:=(hva.2.1.cell cV_len hgz (j:=4) (u:=.int .i64 (p.v k).co) rfl).1
     have c1:=(hva.2.1.cell cV_len hgz (j:=4) (u:=.int .i64 (p.v k).co) rfl).2
     have HF:=bH (HQk.out.setCo hkn hgz 0)
     rw [zeroL_set hgl] at HF
     have z0:=cellq HQk.out.box 0 rfl
     have z1:=cellq HQk.out.box 1 rfl
     clear hva hgl hgz
     go_wp2_with fail
     go_roundg (n - (k+1))
     case measure=>omega
     case rel=>exact ⟨k+1,by omega,rfl,by go_num,HF.out⟩
    ·obtain rfl:k=n:=by omega
     have z0:=cellq HQk.out.box 0 rfl
     have z1:=cellq HQk.out.box 1 rfl
     go_upto_region 8 with fail
     have HSo:=bH (Solve_few wr _ (p.scale 0) ⟨_,_,rfl,⟨(show Sl wr (.slice ao k ac) 5 ((p.vars.map fun v=>v.scale 0).map cV) from by have h:=HQk.out.sl; have e:=zeroL_all p.vars; rw [HN.out] at e; rw [e] at h; exact h),fun x hx=>by obtain ⟨y,hy,rfl⟩:=List.mem_map.1 hx; rw [scale0]; have h:=HVs.out.2 y hy; exact ⟨h.lo,h.up,(show InR (0:Int) from ⟨by decide,by decide⟩)⟩⟩,HRw.out _ HQk.out.ext⟩ (by rw [scale_few]; exact HB.out.2.2.2))
     go_upto_region 9 with (go_at_call 37; refine HSo.out.mono ?_; rintro r8 w8 ⟨v8,o,e,rfl,hsv,hfar,hx8⟩; obtain ⟨rfl,-⟩:=hsv.chk (valid_zero HVb.out); obtain ⟨ng,a1,m1,c1,a2,m2,c2,pv5,mv5,rv5,e5,ho1,ho2,ho3,ho4,ho5⟩:=hfar.now; obtain ⟨po,pc,rfl,-,-,-⟩:=ho2.shape; obtain ⟨mo,mc,rfl,-,-,-⟩:=ho3.shape; obtain ⟨zo,zc,rfl,-,-,-⟩:=ho4.shape; subst e5; have HO:=bH (bI ho2 hx8); have HSv:=bH hsv; clear hsv hfar hx8 ho1 ho2 ho3 ho4 ho5; generalize hkd:o.kind=kd; have HKd:=bH hkd; clear hkd; generalize hpn:o.pt.length=pn at HO ⊢; clear hpn; generalize o.mu.length=mn; generalize o.ray.length=zn)
     have hxa:=(Ext.refl (fun _=>False) w8).alloc (.cells #[.int .i64 kd,.bool ng,.slice a1 m1 c1,.slice a2 m2 c2,.slice po pn pc,.slice mo mn mc,.slice zo zn zc] 34)
     have HW9:=bH (bI (blk_alloc_at w8 (.cells #[.int .i64 kd,.bool ng,.slice a1 m1 c1,.slice a2 m2 c2,.slice po pn pc,.slice mo mn mc,.slice zo zn zc] 34)) (bI (HO.out.1.keep hxa) (HO.out.2.trans hxa)))
     clear hxa HO
     generalize w8.alloc (.cells #[.int .i64 kd,.bool ng,.slice a1 m1 c1,.slice a2 m2 c2,.slice po pn pc,.slice mo mn mc,.slice zo zn zc] 34)=w9 at *
     generalize w8.heap.size=ob at *
     have e0:=cellq HW9.out.1 0 rfl
     have e4:=cellq HW9.out.1 4 rfl
     have HSp:=bH (show SolveV (freeP p) o 0 from by unfold freeP; rw [if_pos HVb.out]; exact HSv.out)
     clear HSv
     by_cases hk0:kd=0
     ·subst hk0
      go_wp2
      go_region
      go_wp2
      refine bodyPost_ret (v:=.tuple #[.slice po pn pc,.bool true,.int .i64 0]) (by simp [results,Tryz.results47,go_sem]) rfl ?_
      exact ⟨_,o,0,by rw [HKd.out]; rfl,HSp.out,HW9.out.2.1,(HB.out.2.2.1.trans (HQk.out.ext.trans HW9.out.2.2)).drew⟩
     ·have hk1:(kd == 0)=false:=by simpa using hk0
      have hk2:decide (kd=0)=false:=by simpa using hk0
      go_wp2
      go_region
      go_wp2
      refine bodyPost_ret (v:=.tuple #[.slice po pn pc,.bool false,.int .i64 0]) (by simp [results,Tryz.results47,go_sem]) rfl ?_
      exact ⟨_,o,0,by rw [HKd.out,hk2]; rfl,HSp.out,HW9.out.2.1,(HB.out.2.2.1.trans (HQk.out.ext.trans HW9.out.2.2)).drew⟩
 case first =>
  have c0:=cqo (S:=fun _=>False) (cellq HB.out.2.1 0 rfl) id
  have c1:=cqo (S:=fun _=>False) (cellq HB.out.2.1 1 rfl) id
  have hBs:w1.heap.size<=w1.drew.heap.size:=Nat.le_refl _
  refine mbegin 7 (XF w1) (by kernel_rfl) ((Ext.refl _ w1).drew) (fun hHeld=>?_)
  refine mu 0 (h:=(mu 1 (h:=(mu 3 (h:=(mu 4 (h:=?_)))))))
  (try go_frame)
  refine mtwo 2 6 rfl rfl (by kernel_rfl) (fun K hK=>?_) (fun K hK=>?_)
  ·go_simp
   go_at_call 98; (with_reducible refine (HC.out _ hHeld).mono ?_); rintro q1 w2 ⟨v',rfl,hA,hx2⟩
   obtain ⟨ao,ac,rfl⟩:=hA.shape
   refine hK.out _ _ (hHeld.trans hx2) (fun hHeld=>?_)
   clear hK K
   (try go_frame)
   refine mu 5 (h:=?_)
   (try go_frame)
   refine mst 6 (h:=fun K hK=>?_)
   go_simp
   have hgb:=blk_alloc_at w2 (.cells #[.slice none 0 0,.slice none 0 0] 25)
   have hgl:=hHeld.size
   have had:=hA.lt
   have hA0:=hA
   have hHeld0:=hHeld
   refine hK.out _ _ (hHeld.alloc _) (fun hHeld=>?_)
   clear hK K
   (try go_frame)
   have q0:=cellq hgb 0 rfl
   have q1:=cellq hgb 1 rfl
   have q2:=free_of_cells hgb 0
   have q3:=free_of_cells hgb 1
   refine ml 7 (h:=fun K hK=>?_)
   go_simp
   refine hK.out _ _ ?_
   clear hK K
   (try go_frame)
   refine mdone (by kernel_rfl) ?_ _
   clear q0 q1 q2 q3
   go_wp2
   go_meet
   refine ⟨_,_,rfl,blk_alloc_at w2 (.cells #[.slice ao p.vars.length ac,.slice ro rn rc] 25),hgl,SOwn.down (hA0.keep ((Ext.refl (fun _=>False) w2).alloc (.cells #[.slice ao p.vars.length ac,.slice ro rn rc] 25))) (by first | exact hBs | omega),?_,(hHeld0.alloc (.cells #[.slice ao p.vars.length ac,.slice ro rn rc] 25))⟩
   exact fun g e e2=>by rw [blOf_own rfl] at e; have h:=had g e; have e3:w2.heap.size=g:=Option.some.inj e2; omega
  ·go_simp
   refine hK.out _ _ (hHeld.alloc _) (fun hHeld=>?_)
   clear hK K
   (try go_frame)
   refine mst 2 (h:=fun K hK=>?_)
   go_simp
   go_at_call 98; (with_reducible refine (HC.out _ hHeld).mono ?_); rintro q1 w2 ⟨v',rfl,hA,hx2⟩
   obtain ⟨ao,ac,rfl⟩:=hA.shape
   have hgb:=blk_keep (blk_alloc_at w1 (.cells #[.slice none 0 0,.slice none 0 0] 25)) (((Ext.refl (fun _=>False) (w1.alloc (.cells #[.slice none 0 0,.slice none 0 0] 25))).drew).trans hx2)
   have had:∀ g,Value.ownBlock (.slice ao p.vars.length ac)=some g->w1.heap.size+1<=g/\g<w2.heap.size:=fun g e=>by have h:=hA.lt g e; simpa using h
   replace hA:=SOwn.down hA (show w1.heap.size<=_ by simp)
   refine hK.out _ _ (hHeld.trans hx2) (fun hHeld=>?_)
   clear hK K
   (try go_frame)
   refine mu 5 (h:=?_)
   (try go_frame)
   have q0:=cellq hgb 0 rfl
   have q1:=cellq hgb 1 rfl
   have q2:=free_of_cells hgb 0
   have q3:=free_of_cells hgb 1
   refine ml 7 (h:=fun K hK=>?_)
   go_simp
   refine hK.out _ _ ?_
   clear hK K
   (try go_frame)
   refine mdone (by kernel_rfl) ?_ _
   have hxx:=((Ext.refl (fun k=>k=w1.heap.size) (w2)).setCell (p:=⟨w1.heap.size,0,none⟩) (.slice ao p.vars.length ac) (fun _=>rfl)).setCell (p:=⟨w1.heap.size,1,none⟩) (.slice ro rn rc) (fun _=>rfl)
   have hgb2:=blk_setCell_same (blk_setCell_same hgb 0 (.slice ao p.vars.length ac)) 1 (.slice ro rn rc)
   clear q0 q1 q2 q3
   go_wp2
   go_meet
   refine ⟨_,_,rfl,hgb2,Nat.le_refl _,?_,?_,?_⟩
   ·exact SOwn.down (ownsRow_ext hA hxx (fun g e e2=>by have h:=had g e; have e':g=w1.heap.size:=e2; omega)) (by omega)
   ·exact fun g e e2=>by rw [blOf_own rfl] at e; have h:=had g e; have e3:w1.heap.size=g:=Option.some.inj e2; omega
   ·exact hHeld.own hxx (fun k e=>by have e':k=w1.heap.size:=e; omega)
theorem freeP_law {p:ProgV} {a b:OutV} {e f:Int} (hv:validB p=true) (ha:SolveV p a e) (hb:SolveV (freeP p) b f):e=0/\f=0/\((a.kind=1/\b.kind=1/\b.pt=[])∨((a.kind=0∨a.kind=2)/\b.kind=0/\feasB p b.pt=true/\b.pt.length=p.vars.length)):=by
 unfold freeP at hb
 rw [if_pos hv] at hb
 obtain ⟨h1,h2,h3⟩:=ha.chk hv
 obtain ⟨h4,h5,h6⟩:=hb.chk (valid_zero hv)
 refine ⟨h1,h4,?_⟩
 rcases free_law hv (valid_zero hv) h2 h3 h5 h6 with h | ⟨k1,k2⟩
 ·exact .inl h
 ·exact .inr ⟨by omega,k2⟩
theorem feasible_core (w:World) (pv:Value) (p:ProgV) (hp:IsPrg w pv p):Calls Tryz.prog 15 #[pv] w (BoolPost w true):=by
 obtain ⟨vo,vn,vc,ro,rn,rc,rfl⟩:=hp.slices5
 have hxa:=(Ext.refl (fun _=>False) w).alloc (.cells #[.slice vo vn vc,.slice ro rn rc] 25)
 have HB:=bH (bI (hp.keep hxa) (bI (blk_alloc_at w (.cells #[.slice vo vn vc,.slice ro rn rc] 25)) hxa))
 have HVn:=bH (show p.vars.length=vn from by
  obtain ⟨vv,rv,e,h,-⟩:=hp
  cases e
  obtain ⟨_,_,e,_⟩:=h.shape
  cases e; rfl)
 clear hp hxa
 go_enter Tryz.func15,Tryz.ntmps15
 go_upto_region 1 with fail
 generalize w.alloc (.cells #[.slice vo vn vc,.slice ro rn rc] 25)=w1 at *
 obtain ⟨pb,hpb⟩:∃ q,w.heap.size=q:=⟨_,rfl⟩
 rw [hpb] at HB ⊢
 clear hpb
 have p0:w1.cell? ⟨pb,0,none⟩=some (.slice vo vn vc):=cellq HB.out.2.1 0 rfl
 have p1:w1.cell? ⟨pb,1,none⟩=some (.slice ro rn rc):=cellq HB.out.2.1 1 rfl
 have HF:=bH (fun W (hW:XF w1 W)=>FewP_any W (.agg #[.slice vo vn vc,.slice ro rn rc]) p 6 8 (by decide) (by decide) (HB.out.1.keep hW))
 have HV:=bH (fun W (hW:XF w1 W)=>Valid4_any W (.agg #[.slice vo vn vc,.slice ro rn rc]) p (HB.out.1.keep hW))
 have HFe:=bH (fun W (hW:XF w1 W) (hf:fewP p 6 8=true)=>Feasible_any W (.agg #[.slice vo vn vc,.slice ro rn rc]) p (HB.out.1.keep hW) hf)
 have HSo:=bH (fun W (hW:XF w1 W) (hf:fewP p 6 8=true)=>Solve_few W (.agg #[.slice vo vn vc,.slice ro rn rc]) p (HB.out.1.keep hW) hf)
 obtain ⟨fb,hfb⟩:∃ fb,fewP p 6 8=fb:=⟨_,rfl⟩
 rw [hfb] at HF
 have HFb:=bH hfb
 clear hfb
 cases fb with
 | false =>
  go_upto_region 2 with (first | (go_at_call 38; refine (awake5_any _).mono ?_; rintro r2 w2 ⟨rfl,hx2⟩; replace p0:=cell_keep p0 hx2; replace p1:=cell_keep p1 hx2) | (go_at_call 39; refine (HF.out _ hx2).mono ?_; rintro r3 w3 ⟨rfl,hx3⟩; replace p0:=cell_keep p0 hx3; replace p1:=cell_keep p1 hx3))
  go_wp2_with (go_at_call 38; refine (awake5_any _).mono ?_; rintro r4 w4 ⟨rfl,hx4⟩)
  go_ret
  exact ⟨rfl,((HB.out.2.2.trans hx2).trans hx3).trans hx4⟩
 | true =>
  obtain ⟨vb,hvb⟩:∃ vb,validB p=vb:=⟨_,rfl⟩
  rw [hvb] at HV
  have HVb:=bH hvb
  clear hvb
  go_upto_region 3 with (first | (go_at_call 38; refine (awake5_any _).mono ?_; rintro r2 w2 ⟨rfl,hx2⟩; replace p0:=cell_keep p0 hx2; replace p1:=cell_keep p1 hx2) | (go_at_call 39; refine (HF.out _ hx2).mono ?_; rintro r3 w3 ⟨rfl,hx3⟩; replace p0:=cell_keep p0 hx3; replace p1:=cell_keep p1 hx3))
  have HX3:=bH (hx2.trans hx3)
  clear hx2 hx3 HF
  go_upto_region 4 with (go_at_call 47; refine (HFe.out _ HX3.out HFb.out).mono ?_; rintro r4 w4 ⟨v4,b,f,rfl,hsv,hcr,hx4⟩; obtain ⟨po4,pc4,rfl,-,-,-⟩:=hcr.shape; have HS4:=bH hsv; have HC4:=bH hcr; replace p0:=cell_keep p0 hx4; replace p1:=cell_keep p1 hx4; have HX4:=bH (HX3.out.trans hx4); clear hsv hcr hx4)
  cases vb with
  | false =>
   have hu:b.pt.length=0/\f=1:=by
    have h:=HS4.out
    unfold freeP at h
    rw [if_neg (by rw [HVb.out]; decide)] at h
    obtain ⟨ho,rfl⟩:=h.uniq (.bad HVb.out)
    exact ⟨by rw [ho]; rfl,rfl⟩
   obtain ⟨hu1,rfl⟩:=hu
   rw [hu1]
   clear hu1 HC4
   generalize decide (b.kind=0)=kb
   have hb1:(decide ((1:Int)=0) && kb)=false:=by cases kb <;> rfl
   rw [hb1]
   clear hb1
   go_upto_region 5 with (go_at_call 36; refine (HV.out _ HX4.out).mono ?_; rintro r5 w5 ⟨rfl,hx5⟩)
   go_wp2
   go_ret
   exact ⟨rfl,(HB.out.2.2.trans HX4.out).trans hx5⟩
  | true =>
   obtain ⟨bn,hbn⟩:∃ bn,b.pt.length=bn:=⟨_,rfl⟩
   have HBn:=bH hbn
   rw [hbn] at HC4 ⊢
   clear hbn
   obtain ⟨kd,hkd⟩:∃ kd,b.kind=kd:=⟨_,rfl⟩
   have HKd:=bH hkd
   rw [hkd]
   clear hkd
   have hf0:f=0:=by
    have h:=HS4.out
    unfold freeP at h
    rw [if_pos HVb.out] at h
    exact (h.chk (valid_zero HVb.out)).1
   subst hf0
   obtain ⟨ok,hok⟩:∃ ok,decide (kd=0)=ok:=⟨_,rfl⟩
   have HOk:=bH hok
   rw [show (decide ((0:Int)=0) && decide (kd=0))=ok by rw [hok]; rfl]
   clear hok
   go_upto_region 6 with (go_at_call 36; refine (HV.out _ HX4.out).mono ?_; rintro r5 w5 ⟨rfl,hx5⟩; replace p0:=cell_keep p0 hx5; replace p1:=cell_keep p1 hx5)
   have HX5:=bH (HX4.out.trans hx5)
   have HC5:=bH (HC4.out.keep hx5)
   clear hx5 HX4 HC4
   go_upto_region 7 with (go_at_call 37; refine (HSo.out _ HX5.out HFb.out).mono ?_; rintro r8 w8 ⟨v8,o,e,rfl,hsv,hfar,hx8⟩; obtain ⟨rfl,-,hlaw⟩:=freeP_law HVb.out hsv HS4.out; have HLw:=bH hlaw; obtain ⟨ng,a1,m1,c1,a2,m2,c2,pv5,mv5,rv5,e5,ho1,ho2,ho3,ho4,ho5⟩:=hfar.now; obtain ⟨po,pc,rfl,-,-,-⟩:=ho2.shape; obtain ⟨mo,mc,rfl,-,-,-⟩:=ho3.shape; obtain ⟨zo,zc,rfl,-,-,-⟩:=ho4.shape; subst e5; have HC8:=bH (HC5.out.keep hx8); have HO:=bH (HX5.out.trans hx8); replace p0:=cell_keep p0 hx8; replace p1:=cell_keep p1 hx8; clear hsv hfar hx8 hlaw ho1 ho2 ho3 ho4 ho5 HC5; generalize hko:o.kind=ko; have HKo:=bH hko; clear hko; generalize o.pt.length=pn; generalize o.mu.length=mn; generalize o.ray.length=zn)
   have hlw:=HLw.out
   rw [HKo.out,HKd.out] at hlw
   rcases hlw with ⟨rfl,rfl,h0⟩ | ⟨hk,rfl,h0,h1⟩
   ·obtain rfl:bn=0:=by rw [<- HBn.out,h0]; rfl
    obtain rfl:ok=false:=by rw [<- HOk.out]; rfl
    clear h0 HLw HC8
    have hxa:=(Ext.refl (fun _=>False) w8).alloc (.cells #[.int .i64 1,.bool ng,.slice a1 m1 c1,.slice a2 m2 c2,.slice po pn pc,.slice mo mn mc,.slice zo zn zc] 34)
    have HW9:=bH (bI (blk_alloc_at w8 (.cells #[.int .i64 1,.bool ng,.slice a1 m1 c1,.slice a2 m2 c2,.slice po pn pc,.slice mo mn mc,.slice zo zn zc] 34)) (HO.out.trans hxa))
    replace p0:=cell_keep p0 hxa
    replace p1:=cell_keep p1 hxa
    clear hxa HO
    generalize w8.alloc (.cells #[.int .i64 1,.bool ng,.slice a1 m1 c1,.slice a2 m2 c2,.slice po pn pc,.slice mo mn mc,.slice zo zn zc] 34)=w9 at *
    generalize w8.heap.size=ob at *
    have e0:=cellq HW9.out.1 0 rfl
    go_wp2
    go_ret
    exact ⟨rfl,HB.out.2.2.trans HW9.out.2⟩
   ·obtain rfl:ok=true:=by rw [<- HOk.out]; rfl
    obtain rfl:vn=bn:=by rw [<- HBn.out,<- HVn.out,h1]
    have HFs:=bH h0
    clear h0 h1 HLw
    rcases hk with rfl | rfl
    ·have HC9:=bH (fun W (hW:XF w8 W)=>HC8.out.keep hW)
     have hxa:=(Ext.refl (fun _=>False) w8).alloc (.cells #[.int .i64 0,.bool ng,.slice a1 m1 c1,.slice a2 m2 c2,.slice po pn pc,.slice mo mn mc,.slice zo zn zc] 34)
     have HW9:=bH (bI (blk_alloc_at w8 (.cells #[.int .i64 0,.bool ng,.slice a1 m1 c1,.slice a2 m2 c2,.slice po pn pc,.slice mo mn mc,.slice zo zn zc] 34)) (bI (HO.out.trans hxa) (HC9.out _ hxa)))
     replace p0:=cell_keep p0 hxa
     replace p1:=cell_keep p1 hxa
     clear hxa HO
     generalize w8.alloc (.cells #[.int .i64 0,.bool ng,.slice a1 m1 c1,.slice a2 m2 c2,.slice po pn pc,.slice mo mn mc,.slice zo zn zc] 34)=w9 at *
     generalize w8.heap.size=ob at *
     have e0:=cellq HW9.out.1 0 rfl
     clear HC9 HC8
     have HIf:=bH (IsFeasible5_any w9 (.agg #[.slice vo vn vc,.slice ro rn rc]) _ p b.pt 1200 12 (HB.out.1.keep HW9.out.2.1) HW9.out.2.2.rats (few_parts HFb.out).1)
     have hif:feas5 p b.pt=true:=by rw [<- feas5_eq HVb.out]; exact HFs.out
     rw [hif] at HIf
     clear hif
     go_wp2_with (go_at_call 48; refine HIf.out.mono ?_; rintro r10 w10 ⟨rfl,hx10⟩)
     go_ret
     exact ⟨rfl,(HB.out.2.2.trans HW9.out.2.1).trans hx10⟩
    ·have HC9:=bH (fun W (hW:XF w8 W)=>HC8.out.keep hW)
     have hxa:=(Ext.refl (fun _=>False) w8).alloc (.cells #[.int .i64 2,.bool ng,.slice a1 m1 c1,.slice a2 m2 c2,.slice po pn pc,.slice mo mn mc,.slice zo zn zc] 34)
     have HW9:=bH (bI (blk_alloc_at w8 (.cells #[.int .i64 2,.bool ng,.slice a1 m1 c1,.slice a2 m2 c2,.slice po pn pc,.slice mo mn mc,.slice zo zn zc] 34)) (bI (HO.out.trans hxa) (HC9.out _ hxa)))
     replace p0:=cell_keep p0 hxa
     replace p1:=cell_keep p1 hxa
     clear hxa HO
     generalize w8.alloc (.cells #[.int .i64 2,.bool ng,.slice a1 m1 c1,.slice a2 m2 c2,.slice po pn pc,.slice mo mn mc,.slice zo zn zc] 34)=w9 at *
     generalize w8.heap.size=ob at *
     have e0:=cellq HW9.out.1 0 rfl
     clear HC9 HC8
     have HIf:=bH (IsFeasible5_any w9 (.agg #[.slice vo vn vc,.slice ro rn rc]) _ p b.pt 1200 12 (HB.out.1.keep HW9.out.2.1) HW9.out.2.2.rats (few_parts HFb.out).1)
     have hif:feas5 p b.pt=true:=by rw [<- feas5_eq HVb.out]; exact HFs.out
     rw [hif] at HIf
     clear hif
     go_wp2_with (go_at_call 48; refine HIf.out.mono ?_; rintro r10 w10 ⟨rfl,hx10⟩)
     go_ret
     exact ⟨rfl,(HB.out.2.2.trans HW9.out.2.1).trans hx10⟩
end Go.Proofs.YtbgienfcmdgaaaaGreat
