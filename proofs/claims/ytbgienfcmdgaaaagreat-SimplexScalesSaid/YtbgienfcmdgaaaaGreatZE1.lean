/-
  Texts of the proof, part 1. Conditions: each lemma names its own.
-/
import Derived.Test.YtbgienfcmdgaaaaGreatZ1
import Derived.Test.YtbgienfcmdgaaaaGreatZ11
import Derived.Test.YtbgienfcmdgaaaaGreatZ4
import Derived.Test.YtbgienfcmdgaaaaGreatZ5
import Derived.Test.YtbgienfcmdgaaaaGreatZ6
import Derived.OpenShut
import Derived.ShutString
import Derived.ChangeOld
import Derived.Deep.Slices
import Derived.Lib.SmallJoins
import Derived.Maps.RangeWalk
set_option linter.unusedVariables false
set_option linter.unusedSimpArgs false
set_option maxRecDepth 100000
set_option maxHeartbeats 16000000
namespace Go.Proofs.YtbgienfcmdgaaaaGreat
open Go.RowKit Go.MapKept
open Go.ChangeMaps (setBlock)
open Go.ChangeShapes Go.WideShapes Go.ChangeAt Go.RowKit Go.Deep
set_option linter.unusedVariables false
theorem own:ownKnob Tryz.prog.godebug=none:=by kernel_rfl
theorem laidOut:laidOutB Tryz.prog=true:=by kernel_rfl
section
variable {H:Type} {enc:TypeId × Value->H} {w:World} {base:Nat} {spare:Nat->Bool} {held:Bool}
theorem struct_field {P:Program} {t:TypeId} {fs:Array Field} {fuel:Nat} {cs:List Value} {x:DataW H × List MemPlace} (ht:P.underlying t=some (.struct fs)) (h:DataW.trod enc P w base spare held fuel t cs=some x)
  (i:Nat) {f:Field} (hi:fs[i]?=some f) {ty off n:Nat} (h1:f.type=ty) (h2:f.offset=off) (h3:P.cellsOf ty=n):∃ m y,DataW.trod enc P w base spare held m ty ((cs.drop off).take n)=some y:=by
 obtain ⟨xs,m,_,_,hl,hxl,hf⟩:=DataW.trod_struct ht h
 subst h1 h2 h3
 have hlt:i<xs.length:=by rw [hxl]; exact (Array.getElem?_eq_some_iff.1 hi).1
 exact ⟨m,_,(hf i f hi).trans (List.getElem?_eq_getElem hlt)⟩
theorem struct_length {P:Program} {t:TypeId} {fs:Array Field} {fuel:Nat} {cs:List Value} {x:DataW H × List MemPlace} (ht:P.underlying t=some (.struct fs)) (h:DataW.trod enc P w base spare held fuel t cs=some x) {n:Nat} (h3:P.cellsOf t=n):cs.length=n:=by
 obtain ⟨xs,m,_,_,hl,hxl,hf⟩:=DataW.trod_struct ht h
 rw [hl,h3]
theorem list_of {α:Type} {R:List Value->α->Prop}:∀ {css:List (List Value)},(∀ c ∈ css,∃ x,R c x)->∃ l:List α,l.length=css.length/\∀ (i:Nat) c x,css[i]?=some c->l[i]?=some x->R c x
 | [],_=>⟨[],rfl,fun i c x h=>by simp at h⟩
 | c :: css,h=>by
  obtain ⟨x,hx⟩:=h c (by simp)
  obtain ⟨l,h1,h2⟩:=list_of (css:=css) (fun c hc=>h c (by simp [hc]))
  refine ⟨x :: l,by simp [h1],fun i c' x' hc hx'=>?_⟩
  cases i with
  | zero=>simp at hc hx'; subst hc hx'; exact hx
  | succ i=>simp at hc hx'; exact h2 i c' x' hc hx'
theorem map_of {α:Type} {f:α->List Value} {Q:α->Prop} {css:List (List Value)} (h:∀ c ∈ css,∃ x,c=f x/\Q x):∃ l:List α,css=l.map f/\∀ x ∈ l,Q x:=by
 obtain ⟨l,h1,h2⟩:=list_of (R:=fun c x=>c=f x/\Q x) h
 refine ⟨l,List.ext_getElem? fun i=>?_,fun x hx=>?_⟩
 ·rw [List.getElem?_map]
  by_cases hi:i<l.length
  ·rw [List.getElem?_eq_getElem hi,List.getElem?_eq_getElem (by omega:i<css.length)]
   simp only [Option.map_some]
   exact congrArg some (h2 i _ _ (List.getElem?_eq_getElem (by omega)) (List.getElem?_eq_getElem hi)).1
  ·rw [List.getElem?_eq_none (by omega),List.getElem?_eq_none (by omega)]; rfl
 ·obtain ⟨i,hi,rfl⟩:=List.getElem_of_mem hx
  exact (h2 i _ _ (List.getElem?_eq_getElem (by omega)) (List.getElem?_eq_getElem hi)).2
theorem open_sl {t e:TypeId} {m:Nat} {fuel:Nat} {cs:List Value} {x:DataW H × List MemPlace} (ht:Tryz.prog.underlying t=some (.slice e)) (hc:Tryz.prog.cellsOf e=m) (hm:0<m) {R:List Value->Prop}
  (he:∀ fuel cs x,DataW.trod enc Tryz.prog w base spare held fuel e cs=some x->R cs) (h:DataW.trod enc Tryz.prog w base spare held fuel t cs=some x) :
  ∃ v css,cs=[v]/\Sl w v m css/\∀ c ∈ css,R c:=by
 rcases open_slice ht h with ⟨hcs,_⟩ | ⟨a,l,c,k,n',D,Pl,hcs,_,hlc,hcm,hk,_,hel⟩
 ·exact ⟨_,[],hcs,Sl.nil w m,by simp⟩
 ·have hlk:l<=k:=by rw [hk]; split <;> omega
  have hel':∀ i,i<l->∃ c':List Value,c'.length=m/\R c'/\∀ j u,c'[j]?=some u->w.cell? ((a.add (i*m)).add j)=some u:=fun i hi=>by
   obtain ⟨cs',h1,h2⟩:=hel i (by omega)
   rw [hc] at h1
   obtain ⟨_,hlen,hat⟩:=World.cells?_some h1
   exact ⟨cs',hlen,he _ _ _ h2,fun j u hu=>(hat j (by have:=(List.getElem?_eq_some_iff.1 hu).1; omega)).trans hu⟩
  obtain ⟨css,h1,h2⟩:∃ css:List (List Value),css.length=l/\∀ i (h:i<css.length),css[i].length=m/\R css[i]/\∀ j u,css[i][j]?=some u->w.cell? ((a.add (i*m)).add j)=some u:=by
   refine ⟨List.ofFn fun i:Fin l=>Classical.choose (hel' i i.2),by simp,fun i hi=>?_⟩
   simp at hi
   have:=Classical.choose_spec (hel' i hi)
   simpa using this
  subst h1
  refine ⟨_,css,hcs,⟨some a,c,rfl,hlc,hcm,(fun e=>by cases e),fun hp=>?_⟩,fun c' hc'=>?_⟩
  ·obtain ⟨b,off,spot⟩:=a
   obtain ⟨e1,_,e3⟩:=h2 0 hp
   have e4:=e3 0 _ (List.getElem?_eq_getElem (by omega))
   have hspot:spot=none:=by simpa [Addr.add] using World.cell?_spot e4
   subst hspot
   refine ⟨b,off,rfl,by have:=World.block_lt_of_cell? w _ e4; simpa [Addr.add_lit] using this,fun i r hi j u hu=>?_⟩
   obtain ⟨hi',rfl⟩:=List.getElem?_eq_some_iff.1 hi
   have:=(h2 i hi').2.2 j u hu
   simpa [Addr.add_lit,Nat.add_assoc] using this
  ·obtain ⟨i,hi,rfl⟩:=List.getElem_of_mem hc'
   exact (h2 i hi).2.1
theorem cellsInt:Tryz.prog.cellsOf 3=1:=by kernel_rfl
theorem cellsI64:Tryz.prog.cellsOf 2=1:=by kernel_rfl
theorem cellsBool:Tryz.prog.cellsOf 4=1:=by kernel_rfl
theorem cellsStr:Tryz.prog.cellsOf 9=1:=by kernel_rfl
theorem cellsTerm:Tryz.prog.cellsOf 76=2:=by kernel_rfl
theorem cellsTerms:Tryz.prog.cellsOf 56=1:=by kernel_rfl
theorem cellsVar:Tryz.prog.cellsOf 63=5:=by kernel_rfl
theorem cellsVars:Tryz.prog.cellsOf 22=1:=by kernel_rfl
theorem cellsRow:Tryz.prog.cellsOf 58=5:=by kernel_rfl
theorem cellsRows:Tryz.prog.cellsOf 23=1:=by kernel_rfl
theorem cellsProgram:Tryz.prog.cellsOf 25=2:=by kernel_rfl
theorem inR_of {k:IntKind} {a:Int} (hk:k=.i64) (h:(Lit.int k a).wf=true):InR a:=by
 subst hk
 simp [Lit.wf,IntKind.min,IntKind.max,IntKind.signed,IntKind.bits] at h
 unfold InR
 omega
theorem open_var {fuel:Nat} {cs:List Value} {x:DataW H × List MemPlace} (h:DataW.trod enc Tryz.prog w base spare held fuel 63 cs=some x):∃ v:VarV,cs=cV v/\VarOk v:=by
 have hl:=struct_length Tryz.underlying63 h cellsVar
 obtain ⟨_,_,f0⟩:=struct_field Tryz.underlying63 h 0 rfl rfl rfl cellsI64
 obtain ⟨_,_,f1⟩:=struct_field Tryz.underlying63 h 1 rfl rfl rfl cellsI64
 obtain ⟨_,_,f2⟩:=struct_field Tryz.underlying63 h 2 rfl rfl rfl cellsBool
 obtain ⟨_,_,f3⟩:=struct_field Tryz.underlying63 h 3 rfl rfl rfl cellsBool
 obtain ⟨_,_,f4⟩:=struct_field Tryz.underlying63 h 4 rfl rfl rfl cellsI64
 clear h
 obtain ⟨a0,h0,_,b0⟩:=DataW.trod_int Tryz.underlying2 f0
 obtain ⟨a1,h1,_,b1⟩:=DataW.trod_int Tryz.underlying2 f1
 obtain ⟨a2,h2,_⟩:=DataW.trod_bool Tryz.underlying4 f2
 obtain ⟨a3,h3,_⟩:=DataW.trod_bool Tryz.underlying4 f3
 obtain ⟨a4,h4,_,b4⟩:=DataW.trod_int Tryz.underlying2 f4
 clear f0 f1 f2 f3 f4
 match cs,hl with
 | [c0,c1,c2,c3,c4],_ =>
  simp at h0 h1 h2 h3 h4
  exact ⟨⟨a0,a1,a2,a3,a4⟩,by rw [h0,h1,h2,h3,h4]; rfl,inR_of rfl b0,inR_of rfl b1,inR_of rfl b4⟩
theorem open_term {fuel:Nat} {cs:List Value} {x:DataW H × List MemPlace} (h:DataW.trod enc Tryz.prog w base spare held fuel 76 cs=some x):∃ t:TermV,cs=cT t/\TermOk t:=by
 have hl:=struct_length Tryz.underlying76 h cellsTerm
 obtain ⟨_,_,f0⟩:=struct_field Tryz.underlying76 h 0 rfl rfl rfl cellsInt
 obtain ⟨_,_,f1⟩:=struct_field Tryz.underlying76 h 1 rfl rfl rfl cellsI64
 clear h
 obtain ⟨a0,h0,_,b0⟩:=DataW.trod_int Tryz.underlying3 f0
 obtain ⟨a1,h1,_,b1⟩:=DataW.trod_int Tryz.underlying2 f1
 clear f0 f1
 match cs,hl with
 | [c0,c1],_ =>
  simp at h0 h1
  exact ⟨⟨a0,a1⟩,by rw [h0,h1]; rfl,inR_of rfl b0,inR_of rfl b1⟩
theorem open_terms {fuel:Nat} {cs:List Value} {x:DataW H × List MemPlace} (h:DataW.trod enc Tryz.prog w base spare held fuel 56 cs=some x):∃ v l,cs=[v]/\Tms w v l:=by
 obtain ⟨v,css,rfl,hs,hc⟩:=open_sl Tryz.underlying56 cellsTerm (by decide) (fun _ _ _ h=>open_term h) h
 obtain ⟨l,rfl,hl⟩:=map_of hc
 exact ⟨v,l,rfl,hs,hl⟩
theorem open_row {fuel:Nat} {cs:List Value} {x:DataW H × List MemPlace} (h:DataW.trod enc Tryz.prog w base spare held fuel 58 cs=some x):∃ y:RowV × Value,cs=cR y.1 y.2/\Tms w y.2 y.1.terms/\RowOk y.1:=by
 have hl:=struct_length Tryz.underlying58 h cellsRow
 obtain ⟨_,_,f0⟩:=struct_field Tryz.underlying58 h 0 rfl rfl rfl cellsStr
 obtain ⟨_,_,f1⟩:=struct_field Tryz.underlying58 h 1 rfl rfl rfl cellsInt
 obtain ⟨_,_,f2⟩:=struct_field Tryz.underlying58 h 2 rfl rfl rfl cellsInt
 obtain ⟨_,_,f3⟩:=struct_field Tryz.underlying58 h 3 rfl rfl rfl cellsTerms
 obtain ⟨_,_,f4⟩:=struct_field Tryz.underlying58 h 4 rfl rfl rfl cellsI64
 clear h
 obtain ⟨a0,h0,_,b0⟩:=DataW.trod_string Tryz.underlying9 f0
 obtain ⟨a1,h1,_,b1⟩:=DataW.trod_int Tryz.underlying3 f1
 obtain ⟨a2,h2,_,b2⟩:=DataW.trod_int Tryz.underlying3 f2
 obtain ⟨v3,l3,h3,b3⟩:=open_terms f3
 obtain ⟨a4,h4,_,b4⟩:=DataW.trod_int Tryz.underlying2 f4
 clear f0 f1 f2 f3 f4
 match cs,hl with
 | [c0,c1,c2,c3,c4],_ =>
  simp at h0 h1 h2 h3 h4
  exact ⟨⟨⟨a0,a1,a2,l3,a4⟩,v3⟩,by rw [h0,h1,h2,h3,h4]; rfl,b3,b0,inR_of rfl b1,inR_of rfl b2,inR_of rfl b4⟩
theorem open_prog {fuel:Nat} {cs:List Value} {x:DataW H × List MemPlace} (h:DataW.trod enc Tryz.prog w base spare held fuel 25 cs=some x):∃ p:ProgV,IsPrg w (.agg cs.toArray) p:=by
 have hl:=struct_length Tryz.underlying25 h cellsProgram
 obtain ⟨_,_,f0⟩:=struct_field Tryz.underlying25 h 0 rfl rfl rfl cellsVars
 obtain ⟨_,_,f1⟩:=struct_field Tryz.underlying25 h 1 rfl rfl rfl cellsRows
 clear h
 obtain ⟨v0,c0,e0,s0,k0⟩:=open_sl Tryz.underlying22 cellsVar (by decide) (fun _ _ _ h=>open_var h) f0
 obtain ⟨v1,c1,e1,s1,k1⟩:=open_sl Tryz.underlying23 cellsRow (by decide) (fun _ _ _ h=>open_row h) f1
 clear f0 f1
 obtain ⟨l0,rfl,g0⟩:=map_of k0
 obtain ⟨l1,n1,g1⟩:=list_of (R:=fun c (y:RowV × Value)=>c=cR y.1 y.2/\Tms w y.2 y.1.terms/\RowOk y.1) k1
 have hz:c1=List.zipWith cR (l1.map (·.1)) (l1.map (·.2)):=by
  apply List.ext_getElem?
  intro i
  rw [List.getElem?_zipWith,List.getElem?_map,List.getElem?_map]
  by_cases hi:i<l1.length
  ·rw [List.getElem?_eq_getElem hi,List.getElem?_eq_getElem (by omega:i<c1.length)]
   simp only [Option.map_some]
   exact congrArg some (g1 i _ _ (List.getElem?_eq_getElem (by omega)) (List.getElem?_eq_getElem hi)).1
  ·rw [List.getElem?_eq_none (by omega),List.getElem?_eq_none (by omega)]; rfl
 rw [hz] at s1
 match cs,hl with
 | [d0,d1],_ =>
  simp at e0 e1
  subst e0 e1
  refine ⟨⟨l0,l1.map (·.1)⟩,_,_,rfl,⟨s0,g0⟩,l1.map (·.2),by simp,s1,fun i r tv hr ht=>?_⟩
  rw [List.getElem?_map] at hr ht
  obtain ⟨y,hy,rfl⟩:=Option.map_eq_some_iff.1 hr
  rw [hy] at ht
  cases ht
  have hi:=(List.getElem?_eq_some_iff.1 hy).1
  exact (g1 i _ _ (List.getElem?_eq_getElem (by omega)) hy).2
end
open Go.Joins in
theorem open_prog_value {H:Type} {enc:TypeId × Value->H} {w:World} {base:Nat} {spare:Nat->Bool} {held:Bool} {r:Reach} {b0:Nat} {v:Value} {d:DataW H} {p:List MemPlace} (hv:Value.okWide Tryz.prog w r b0 25 v) (h:DataW.Trod enc Tryz.prog w base spare held 25 v d p) :
  ∃ y:ProgV,IsPrg w v y:=by
 obtain ⟨cs,rfl,hsz⟩:=okWide_struct Tryz.underlying25 hv
 obtain ⟨fuel,hf⟩:=h
 obtain ⟨y,hy⟩:=open_prog hf
 refine ⟨y,?_⟩
 simpa [Value.cells] using hy
theorem room_few {n m:Nat} (hn:n<=6) (hm:m<=8):Room n m 12 1200:=by
 refine ⟨by omega,?_⟩
 have e1:m*(12*(1200+3)+2)<=8*14438:=Nat.mul_le_mul hm (by omega)
 have e2:(n+1)*(m*(12*(1200+3)+2)+7)<=7*115511:=Nat.mul_le_mul (by omega) (by omega)
 have e3:m*(1200+3)<=8*1203:=Nat.mul_le_mul hm (by omega)
 have e4:n*(1200+3)<=6*1203:=Nat.mul_le_mul hn (by omega)
 omega
theorem few_parts {p:ProgV} (h:fewP p 6 8=true):Small p 12 1200/\p.vars.length<=6/\p.rows.length<=8:=by
 unfold fewP at h
 simp only [Bool.and_eq_true,decide_eq_true_eq,List.all_eq_true] at h
 refine ⟨⟨room_few h.1.2 h.2,fun i hi=>?_⟩,h.1.2,h.2⟩
 have hm:p.r i ∈ p.rows:=by
  unfold ProgV.r
  rw [getD_lt hi]; exact List.getElem_mem hi
 have:=h.1.1 _ hm
 unfold fewRow at this
 simp only [Bool.and_eq_true,decide_eq_true_eq] at this
 omega
theorem Solve_few (w:World) (pv:Value) (p:ProgV) (hp:IsPrg w pv p) (h:fewP p 6 8=true):Calls Tryz.prog 37 #[pv] w (SolvePost w p 1200):=by
 obtain ⟨_,hn,hm⟩:=few_parts h
 have h1:(p.vars.length+1)*(168+8)<=7*(168+8):=Nat.mul_le_mul_right _ (by omega)
 have h2:(p.vars.length+1)*(168+1)<=7*(168+1):=Nat.mul_le_mul_right _ (by omega)
 have h3:p.vars.length*(168+6)<=6*(168+6):=Nat.mul_le_mul_right _ hn
 exact Solve_any w pv p 168 1200 hp (fun hv=>bndAll6 hv hn) (by omega) (by omega) (by omega) (by omega) (by omega) (by omega) (by omega) (by omega)
theorem IsPrg.slices5 {w:World} {pv:Value} {p:ProgV} (h:IsPrg w pv p):∃ vo vn vc ro rn rc,pv=.agg #[.slice vo vn vc,.slice ro rn rc]:=by
 obtain ⟨vv,rv,rfl,hv,hr⟩:=h
 obtain ⟨vo,vc,rfl,-⟩:=hv.shape
 obtain ⟨ro,rc,rfl,-⟩:=hr.shape
 exact ⟨_,_,_,_,_,_,rfl⟩
section
variable {p:ProgV} {r:RowV} {x z:List Rat} {a b:OutV}
theorem chk_point (h:chkB p a=true) (hk:0<=a.kind/\a.kind<=2) (h1:a.kind≠1):feasB p a.pt=true:=by
 rcases chk_kinds h hk with ⟨_,k1,_⟩ | ⟨k0,_⟩ | ⟨_,k1,_⟩
 ·exact (opt_parts k1).1
 ·exact absurd k0 h1
 ·exact (unb_parts k1).1
theorem inf_nofeas {y:List Rat} (h:infB p y=true) (hf:feasB p x=true):False:=by
 obtain ⟨_,a1,a2⟩:=feas_rows hf
 exact inf_none h a1 a2
end
def VarV.scale (v:VarV) (k:Int):VarV:=⟨v.lo,v.up,v.op,v.ig,v.co*k⟩
def ProgV.scale (p:ProgV) (k:Int):ProgV:=⟨p.vars.map fun v=>v.scale k,p.rows⟩
section
variable {p:ProgV} {k:Int} {x z:List Rat} {a b:OutV}
theorem scale_len:(p.scale k).vars.length=p.vars.length:=by simp [ProgV.scale]
theorem scale_v {i:Nat} (hi:i<p.vars.length):(p.scale k).v i=(p.v i).scale k:=by
 unfold ProgV.v ProgV.scale
 simp [List.getD_eq_getElem?_getD,hi]
theorem scale_clip:clipQ (p.scale k) x=clipQ p x:=by
 unfold clipQ
 rw [scale_len]
theorem scale_inside:insideB (p.scale k) x=insideB p x:=by
 rw [Bool.eq_iff_iff]
 unfold insideB
 rw [allTo_iff,allTo_iff,scale_len]
 constructor
 ·intro h i hi
  have:=h i hi
  rwa [scale_v hi] at this
 ·intro h i hi
  rw [scale_v hi]
  exact h i hi
theorem scale_viol:violQ (p.scale k) x=violQ p x:=by
 unfold violQ
 rw [scale_clip]; rfl
theorem scale_cost:costQ (p.scale k) x=(k:Rat)*costQ p x:=by
 unfold costQ
 rw [scale_len,<- sumTo_mul]
 refine sumTo_congr fun i hi=>?_
 rw [scale_v hi]
 show ((((p.v i).co*k:Int):Rat))*_=_
 rw [Rat.intCast_mul]; grind
theorem scale_feas (hv:validB p=true) (hq:validB (p.scale k)=true):feasB (p.scale k) x=feasB p x:=by
 unfold feasB
 rw [hv,hq,scale_inside,scale_viol]
theorem scale_ray:rayB (p.scale k) z=rayB p z:=by
 rw [Bool.eq_iff_iff]
 unfold rayB
 rw [allTo_iff,allTo_iff,scale_len]
 constructor
 ·intro h i hi
  have:=h i hi
  rwa [scale_v hi] at this
 ·intro h i hi
  rw [scale_v hi]
  exact h i hi
theorem scale_zero:zeroB (p.scale k) z=zeroB p z:=by
 unfold zeroB
 rw [scale_clip]; rfl
theorem scale_unb (hv:validB p=true) (hq:validB (p.scale k)=true) (hk:0<k):unbB (p.scale k) x z=unbB p x z:=by
 have hk':(0:Rat)<(k:Rat):=by exact_mod_cast hk
 unfold unbB
 rw [scale_feas hv hq,scale_cost,scale_ray,scale_zero]
 congr 3
 refine decide_eq_decide.2 ⟨fun h=>?_,fun h=>?_⟩
 ·refine Rat.not_le.1 fun hle=>?_
  have:=Rat.mul_nonneg (Rat.le_of_lt hk') hle
  exact absurd h (Rat.not_lt.2 this)
 ·have:=Rat.mul_lt_mul_of_pos_left h hk'
  grind
theorem valid_scale (hv:validB p=true) (hk:0<=k/\k<=255) (hc:∀ v ∈ p.vars,-1048576<=v.co/\v.co<=1048576):validB (p.scale k)=true:=by
 unfold validB at hv ⊢
 simp only [Bool.and_eq_true,decide_eq_true_eq] at hv ⊢
 refine ⟨⟨⟨by rw [scale_len]; exact hv.1.1.1,hv.1.1.2⟩,?_⟩,?_⟩
 ·show (p.vars.map fun v=>v.scale k).all varB=true
  rw [List.all_map,List.all_eq_true]
  intro v hm
  have h1:=List.all_eq_true.1 hv.1.2 v hm
  have h2:=hc v hm
  unfold varB at h1
  simp only [Bool.and_eq_true] at h1
  show varB (v.scale k)=true
  unfold varB
  simp only [Bool.and_eq_true]
  refine ⟨⟨⟨h1.1.1.1,h1.1.1.2⟩,?_⟩,h1.2⟩
  show limB (v.co*k)=true
  have h3:v.co*k<=1048576*255:=by
   have h4:v.co*k<=1048576*k:=Int.mul_le_mul_of_nonneg_right h2.2 hk.1
   omega
  have h5:-(1048576*255)<=v.co*k:=by
   have h4:-1048576*k<=v.co*k:=Int.mul_le_mul_of_nonneg_right h2.1 hk.1
   omega
  unfold limB
  simp only [Bool.and_eq_true,decide_eq_true_eq]
  constructor <;> omega
 ·rw [scale_len]; exact hv.2
theorem scale_law (hv:validB p=true) (hq:validB (p.scale k)=true) (hk:0<=k) (ha:chkB p a=true) (hka:0<=a.kind/\a.kind<=2) (hb:chkB (p.scale k) b=true) (hkb:0<=b.kind/\b.kind<=2) :
  (a.kind=1↔b.kind=1)/\(a.kind≠1->k=0->b.kind=0/\b.val=0)/\(a.kind≠1->0<k->a.kind=b.kind/\b.val=(k:Rat)*a.val):=by
 have h1:a.kind=1↔b.kind=1:=by
  constructor
  ·intro h
   refine Classical.byContradiction fun hn=>?_
   have hf:=chk_point hb hkb hn
   rw [scale_feas hv hq] at hf
   rcases chk_kinds ha hka with ⟨k0,_⟩ | ⟨_,k1,_⟩ | ⟨k0,_⟩
   ·omega
   ·exact inf_nofeas k1 hf
   ·omega
  ·intro h
   refine Classical.byContradiction fun hn=>?_
   have hf:=chk_point ha hka hn
   rw [<- scale_feas hv hq] at hf
   rcases chk_kinds hb hkb with ⟨k0,_⟩ | ⟨_,k1,_⟩ | ⟨k0,_⟩
   ·omega
   ·exact inf_nofeas k1 hf
   ·omega
 refine ⟨h1,fun hn h0=>?_,fun hn hp=>?_⟩
 ·subst h0
  have hn':b.kind≠1:=fun e=>hn (h1.2 e)
  rcases chk_kinds hb hkb with ⟨k0,k1,k2⟩ | ⟨k0,_⟩ | ⟨k0,k1,k2⟩
  ·refine ⟨k0,?_⟩
   rw [k2,scale_cost]
   show ((0:Int):Rat)*_=0
   rw [show ((0:Int):Rat)=0 from rfl]; grind
  ·exact absurd k0 hn'
  ·exfalso
   unfold unbB at k1
   simp only [Bool.and_eq_true,decide_eq_true_eq] at k1
   have:=k1.1.1.2
   rw [scale_cost,show ((0:Int):Rat)=0 from rfl] at this
   grind
 ·have hn':b.kind≠1:=fun e=>hn (h1.2 e)
  have hp':(0:Rat)<(k:Rat):=by exact_mod_cast hp
  rcases chk_kinds ha hka with ⟨k0,k1,k2⟩ | ⟨k0,_⟩ | ⟨k0,k1,k2⟩
  ·rcases chk_kinds hb hkb with ⟨m0,m1,m2⟩ | ⟨m0,_⟩ | ⟨m0,m1,m2⟩
   ·refine ⟨by omega,?_⟩
    obtain ⟨f1,g1⟩:=opt_parts k1
    obtain ⟨f2,g2⟩:=opt_parts m1
    have f1':=f1
    have f2':=f2
    rw [<- scale_feas hv hq] at f1'
    rw [scale_feas hv hq] at f2'
    obtain ⟨_,a1,a2⟩:=feas_rows f1'
    obtain ⟨_,b1,b2⟩:=feas_rows f2'
    have e1:=bound_le g2 a1 a2
    have e2:=bound_le g1 b1 b2
    rw [m2,k2]
    rw [scale_cost] at e1 ⊢
    rw [scale_cost] at e1
    have e3:=Rat.mul_le_mul_of_nonneg_left e2 (Rat.le_of_lt hp')
    exact Rat.le_antisymm e1 e3
   ·exact absurd m0 hn'
   ·rw [scale_unb hv hq hp] at m1
    exact (unb_nobound m1 (opt_parts k1).2).elim
  ·exact absurd k0 hn
  ·rcases chk_kinds hb hkb with ⟨m0,m1,m2⟩ | ⟨m0,_⟩ | ⟨m0,m1,m2⟩
   ·rw [<- scale_unb hv hq hp] at k1
    exact (unb_nobound k1 (opt_parts m1).2).elim
   ·exact absurd m0 hn'
   ·refine ⟨by omega,?_⟩
    rw [k2,m2]; grind
end
section
variable {β:Type} {f:β->List Value} {T:TypeId}
def SOwn (f:β->List Value) (T:TypeId) (w:World) (base:Nat) (v:Value) (l:List β):Prop:=w.ownsRow base T 5 v l.length (l.flatMap f)
theorem SOwn.keep {w w':World} {base:Nat} {v:Value} {l:List β} (h:SOwn f T w base v l) (hx:XF w w'):SOwn f T w' base v l:=ownsRow_ext h hx (fun _ _ h=>h)
theorem SOwn.lt {w:World} {base:Nat} {v:Value} {l:List β} (h:SOwn f T w base v l):∀ g,v.ownBlock=some g->base<=g/\g<w.heap.size:=World.ownsRow.lt h
theorem SOwn.shape {w:World} {base:Nat} {v:Value} {l:List β} (h:SOwn f T w base v l):∃ ao cap,v=.slice ao l.length cap:=ownsRow_shape h
def SArr (f:β->List Value) (T:TypeId) (w:World) (g:Nat) (l:List β):Prop:=∃ cur,blk w g=some (.cells cur T (0,0))/\∀ k x,l[k]?=some x->∀ j,j<5->cur[k*5+j]?=(f x)[j]?
theorem SArr.cell {w:World} {g:Nat} {l:List β} (hf:∀ x,(f x).length=5) (h:SArr f T w g l) {k:Nat} {x:β} (hk:l[k]?=some x) {j:Nat} {u:Value} (hu:(f x)[j]?=some u):w.cell? ⟨g,k*5+j,none⟩=some u/\w.frozen? ⟨g,k*5+j,none⟩=false:=by
 obtain ⟨cur,h1,h2⟩:=h
 have hj:j<5:=by rw [<- hf x]; exact (List.getElem?_eq_some_iff.1 hu).1
 exact ⟨by rw [cell_of_cells h1,h2 k x hk j hj]; exact hu,free_of_cells h1 _⟩
theorem SArr.sl {w:World} {g:Nat} {l:List β} {c:Nat} (hf:∀ x,(f x).length=5) (h:SArr f T w g l) (hc:l.length<=c) (hm:c<=maxLen):Sl w (.slice (some ⟨g,0,none⟩) l.length c) 5 (l.map f):=by
 refine ⟨some ⟨g,0,none⟩,c,by rw [List.length_map],by rw [List.length_map]; exact hc,hm,(fun e=>by cases e),fun _=>⟨g,0,rfl,?_,fun i r hi j u hu=>?_⟩⟩
 ·obtain ⟨cur,h1,_⟩:=h; exact blk_lt h1
 ·rw [List.getElem?_map] at hi
  obtain ⟨x,hx,rfl⟩:=Option.map_eq_some_iff.1 hi
  rw [Nat.zero_add]
  exact (h.cell hf hx hu).1
theorem SOwn.arr {w:World} {base:Nat} {ao:Option Addr} {n c:Nat} {l:List β} (hf:∀ x,(f x).length=5) (h:SOwn f T w base (.slice ao n c) l):(n=0/\l=[]/\(ao=none->c=0)/\c<=maxLen)∨∃ g,ao=some ⟨g,0,none⟩/\base<=g/\n=l.length/\n<=c/\c<=maxLen/\SArr f T w g l:=by
 rcases h.2 with ⟨e,h0⟩ | ⟨g,cap,cur,e,hb,hg,hnc,hcm,hcs,htake⟩
 ·cases e
  exact .inl ⟨rfl,List.eq_nil_of_length_eq_zero h0,fun _=>rfl,Nat.zero_le _⟩
 ·cases e
  refine .inr ⟨g,rfl,hb,rfl,hnc,hcm,cur,hg,fun k x hk j hj=>?_⟩
  have hkl:k<l.length:=(List.getElem?_eq_some_iff.1 hk).1
  have hget:=fm_get (f:=f) (m:=5) hf l k hk j hj
  rw [<- htake,List.getElem?_take,if_pos (by omega),Array.getElem?_toList] at hget
  exact hget
theorem SOwn.sl {w:World} {base:Nat} {v:Value} {l:List β} (hf:∀ x,(f x).length=5) (h:SOwn f T w base v l):Sl w v 5 (l.map f):=by
 obtain ⟨ao,cap,rfl⟩:=h.shape
 rcases h.arr hf with ⟨h0,rfl,hc,hm⟩ | ⟨g,rfl,_,_,h1,h2,h3⟩
 ·exact ⟨ao,cap,rfl,Nat.zero_le _,hm,hc,fun h=>absurd h (Nat.lt_irrefl 0)⟩
 ·exact h3.sl hf h1 h2
end
abbrev RT:=RowV × Value
theorem cV_len (x:VarV):(cV x).length=5:=rfl
section
variable {B:Nat} {y:RT} {oa:Option (List VarV)} {ob:Option (List RT)} {c d:Bool} {w5 w w':World} {vA vB vC vD:Value}
end
theorem Tryz.infoVar:(Tryz.prog.info? 63).map (fun i=>(i.zero,i.size,i.bytes))=some (some (.agg #[.int .i64 0,.int .i64 0,.bool false,.bool false,.int .i64 0]),5,32):=by kernel_rfl
section
variable {β:Type} {f:β->List Value} {T ts:TypeId}
end
theorem cV_one (x:VarV):∀ u ∈ cV x,u.oneCell'=true:=fun u hu=>by
 simp [cV] at hu
 rcases hu with rfl | rfl | rfl | rfl | rfl <;> rfl
theorem Solve_six (w:World) (pv:Value) (p:ProgV) (hp:IsPrg w pv p) (hn:p.vars.length<=6) (hm:p.rows.length<=100):Calls Tryz.prog 37 #[pv] w (SolvePost w p 1200):=by
 have h1:(p.vars.length+1)*(168+8)<=7*(168+8):=Nat.mul_le_mul_right _ (by omega)
 have h2:(p.vars.length+1)*(168+1)<=7*(168+1):=Nat.mul_le_mul_right _ (by omega)
 have h3:p.vars.length*(168+6)<=6*(168+6):=Nat.mul_le_mul_right _ hn
 exact Solve_any w pv p 168 1200 hp (fun hv=>bndAll6 hv hn) (by omega) (by omega) (by omega) (by omega) (by omega) (by omega) (by omega) (by omega)
theorem wpList_append_el {w:World} {ops:Array Oper} {rest:List Oper} {o:Oper} {a:Act} {Q:Exit->Act->World->Prop} {β:Type} {f:β->List Value} {T ts:TypeId} {z:Value} {size bytes:Nat} (hgd:o.guard=none) (s x:Operand)
  (ho:o.op=.call { callee:=.builtin .append,args:=#[s,x],argTypes:=#[ts,ts] }) (hf:∀ x,(f x).length=size) (x0:β) (h1:∀ u ∈ f x0,u.oneCell'=true) (ht:Tryz.prog.underlying ts=some (.slice T)) (hi:(Tryz.prog.info? T).map (fun i=>(i.zero,i.size,i.bytes))=some (some z,size,bytes)) (hz:z.cells.size=size) (hsz:0<size) (hbs:bytes<=1000)
  (base:Nat) (v:Value) (l:List β) (hs:a.eval s=v) (hown:w.ownsRow base T size v l.length (l.flatMap f)) (ad:Addr) (c:Nat) (hx:a.eval x=.slice (some ad) 1 c) (hsrc:∀ j u,(f x0)[j]?=some u->w.cell? (ad.add j)=some u) (hl:l.length<=100000) (hbase:base<=w.heap.size)
  (h:∀ v' w',w'.ownsRow base T size v' (l++[x0]).length ((l++[x0]).flatMap f)->Ext (fun k=>v.ownBlock=some k) w w'->(v'.ownBlock=v.ownBlock∨v'.ownBlock=some w.heap.size)->wpList Tryz.prog ops Q rest (a.put o.dst v') w') :
  wpList Tryz.prog ops Q (o :: rest) a w:=by
 obtain ⟨i0,hi0,hz0,hz1,hz2⟩:=info_parts hi
 refine wpList_append_any hgd s x ts ho base T i0 z size bytes ht hi0 hz0 hz1 hz2 hz hsz v l.length (l.flatMap f) hs hown (some ad) 1 c (fun e=>by cases e) (f x0) hx (by rw [hf,Nat.one_mul]) (.inr ⟨ad,rfl,hsrc⟩) h1 (by unfold maxLen; omega) (Nat.le_trans (Nat.mul_le_mul (show l.length+1<=100001 by omega) hbs) (by decide)) hbase (fun v' w' g1 g2 g3=>h v' w' ?_ ?_ g3)
 ·rw [List.length_append,List.flatMap_append]
  simpa using g1
 ·exact (Ext.refl (fun k=>v.ownBlock=some k) w).grown g2 (fun k hk _=>hk)
structure ScSt (w3 w:World) (gb:Nat) (v rv:Value) (l:List VarV):Prop where
 ext:XF w3 w
 box:blk w gb=some (.cells #[v,rv] 25 (0,0))
 low:w3.heap.size<=gb
 own:SOwn cV 63 w (gb+1) v l
section
variable {w3 w w':World} {gb:Nat} {v v' rv:Value} {l l':List VarV}
theorem ScSt.keep (h:ScSt w3 w gb v rv l) (hx:XF w w'):ScSt w3 w' gb v rv l:=⟨h.ext.trans hx,blk_keep h.box hx,h.low,h.own.keep hx⟩
theorem ScSt.row (h:ScSt w3 w gb v rv l):w.ownsRow (gb+1) 63 5 v l.length (l.flatMap cV):=h.own
theorem ScSt.size (h:ScSt w3 w gb v rv l):gb+1<=w.heap.size:=blk_lt h.box
theorem ScSt.new (h:ScSt w3 w gb v rv l) (b:Nat) (u:Value) (hb:w.heap.size<=b) {w2:World} (hx:XF w w2) {j:Nat}:ScSt w3 (w2.setCell ⟨b,j,none⟩ u) gb v rv l :=
 h.keep (hx.own ((Ext.refl (fun k=>k=b) w2).setCell (p:=⟨b,j,none⟩) u (fun _=>rfl)) (fun k e=>by have e':k=b:=e; omega))
theorem ScSt.push (h:ScSt w3 w gb v rv l) (hn:w'.ownsRow (gb+1) 63 5 v' l'.length (l'.flatMap cV)) (hx:Ext (fun k=>v.ownBlock=some k) w w'):ScSt w3 (w'.setCell ⟨gb,0,none⟩ v') gb v' rv l':=by
 have hlt:=h.own.lt
 have hlt':=World.ownsRow.lt hn
 have hx2:=(Ext.refl (fun k=>k=gb) w').setCell (p:=⟨gb,0,none⟩) v' (fun _=>rfl)
 have hb:=(hx.blk (blk_lt h.box) (fun e=>by have:=(hlt gb e).1; omega)).trans h.box
 have hlow:=h.low
 exact ⟨(h.ext.own hx (fun k e=>by have:=(hlt k e).1; omega)).own hx2 (fun k e=>by have e':k=gb:=e; omega),blk_setCell_same hb 0 v',h.low,ownsRow_ext hn hx2 (fun g hg e=>by have:=(hlt' g hg).1; have e':g=gb:=e; omega)⟩
end
theorem scale_cases {p:ProgV} {k:Int} {a b:OutV} {e f:Int} (hv:validB p=true) (hk:0<=k/\k<=255) (hc:∀ v ∈ p.vars,-1048576<=v.co/\v.co<=1048576) (ha:SolveV p a e) (hb:SolveV (p.scale k) b f) :
  e=0/\f=0/\((a.kind=1/\b.kind=1)∨(k=0/\b.kind=0/\b.val=0/\(a.kind=0∨a.kind=2))∨(0<k/\b.kind=a.kind/\b.val=(k:Rat)*a.val/\(a.kind=0∨a.kind=2))):=by
 have hq:=valid_scale hv hk hc
 obtain ⟨h1,h2,h3⟩:=ha.chk hv
 obtain ⟨h4,h5,h6⟩:=hb.chk hq
 obtain ⟨k1,k2,k3⟩:=scale_law hv hq hk.1 h2 h3 h5 h6
 refine ⟨h1,h4,?_⟩
 by_cases g:a.kind=1
 ·exact .inl ⟨g,k1.1 g⟩
 ·by_cases g2:k=0
  ·exact .inr (.inl ⟨g2,(k2 g g2).1,(k2 g g2).2,by omega⟩)
  ·exact .inr (.inr ⟨by omega,(k3 g (by omega)).1.symm,(k3 g (by omega)).2,by omega⟩)
theorem alloc_el {w:World} {x:VarV} {k M:Int} (h:x.co*k=M):∀ j u,(cV (x.scale k))[j]?=some u->(w.alloc (.cells #[.int .i64 x.lo,.int .i64 x.up,.bool x.op,.bool x.ig,.int .i64 M] 63)).cell? ((⟨w.heap.size,0,none⟩:Addr).add j)=some u:=fun j u hu=>by
 subst h
 rw [Addr.add_lit,Nat.zero_add,cell_of_cells (blk_alloc_at _ _)]
 simpa [cV,VarV.scale] using hu
theorem take_snoc {l:List VarV} {i:Nat} {x:VarV} (h:l[i]?=some x) (f:VarV->VarV):(l.take (i+1)).map f=(l.take i).map f++[f x]:=by
 rw [List.take_add_one,h]; simp
theorem scales_core (w:World) (pv:Value) (p:ProgV) (k:Int) (hp:IsPrg w pv p) (hk:0<=k/\k<=255):Calls Tryz.prog 14 #[pv,.int .u8 k] w (BoolPost w true):=by
 obtain ⟨vo,vn,vc,ro,rn,rc,rfl⟩:=hp.slices5
 have HLn:=bH (show p.vars.length=vn/\p.rows.length=rn from by
  obtain ⟨vv,rv,e,h,h2⟩:=hp
  cases e
  obtain ⟨_,_,e,_⟩:=h.shape
  obtain ⟨_,_,e2,_⟩:=h2.shape
  cases e; cases e2; exact ⟨rfl,rfl⟩)
 obtain ⟨hk0,hk1⟩:=hk
 have hxa:=(Ext.refl (fun _=>False) w).alloc (.cells #[.slice vo vn vc,.slice ro rn rc] 25)
 have HB:=bH (bI (hp.keep hxa) (bI (blk_alloc_at w (.cells #[.slice vo vn vc,.slice ro rn rc] 25)) hxa))
 clear hp hxa
 go_enter Tryz.func14,Tryz.ntmps14
 go_upto_region 1 with fail
 generalize w.alloc (.cells #[.slice vo vn vc,.slice ro rn rc] 25)=w1 at *
 obtain ⟨pb,hpb⟩:∃ q,w.heap.size=q:=⟨_,rfl⟩
 rw [hpb] at HB ⊢
 clear hpb
 have p0:w1.cell? ⟨pb,0,none⟩=some (.slice vo vn vc):=cellq HB.out.2.1 0 rfl
 have p1:w1.cell? ⟨pb,1,none⟩=some (.slice ro rn rc):=cellq HB.out.2.1 1 rfl
 have HF:=bH (fun W (hW:XF w1 W)=>FewP_any W (.agg #[.slice vo vn vc,.slice ro rn rc]) p 6 8 (by decide) (by decide) (HB.out.1.keep hW))
 have HV:=bH (fun W (hW:XF w1 W)=>Valid4_any W (.agg #[.slice vo vn vc,.slice ro rn rc]) p (HB.out.1.keep hW))
 obtain ⟨fb,hfb⟩:∃ fb,fewP p 6 8=fb:=⟨_,rfl⟩
 rw [hfb] at HF
 have HFb:=bH hfb
 clear hfb
 cases fb with
 | false =>
  go_upto_region 2 with (first | (go_at_call 38; refine (awake5_any _).mono ?_; rintro q2 w2 ⟨rfl,hx2⟩; replace p0:=cell_keep p0 hx2; replace p1:=cell_keep p1 hx2) | (go_at_call 39; refine (HF.out _ hx2).mono ?_; rintro q3 w3 ⟨rfl,hx3⟩; replace p0:=cell_keep p0 hx3; replace p1:=cell_keep p1 hx3))
  go_wp2_with (go_at_call 38; refine (awake5_any _).mono ?_; rintro r8 w8 ⟨rfl,hx8⟩)
  go_ret
  exact ⟨rfl,(HB.out.2.2.trans (hx2.trans hx3)).trans hx8⟩
 | true =>
 obtain ⟨vb,hvb⟩:∃ vb,validB p=vb:=⟨_,rfl⟩
 rw [hvb] at HV
 have HVb:=bH hvb
 clear hvb
 cases vb with
 | false =>
  go_upto_region 2 with (first | (go_at_call 38; refine (awake5_any _).mono ?_; rintro q2 w2 ⟨rfl,hx2⟩; replace p0:=cell_keep p0 hx2; replace p1:=cell_keep p1 hx2) | (go_at_call 39; refine (HF.out _ hx2).mono ?_; rintro q3 w3 ⟨rfl,hx3⟩; replace p0:=cell_keep p0 hx3; replace p1:=cell_keep p1 hx3) | (go_at_call 36; refine (HV.out _ (hx2.trans hx3)).mono ?_; rintro q5 w5 ⟨rfl,hx5⟩; replace p0:=cell_keep p0 hx5; replace p1:=cell_keep p1 hx5))
  go_wp2_with (go_at_call 38; refine (awake5_any _).mono ?_; rintro r8 w8 ⟨rfl,hx8⟩)
  go_ret
  exact ⟨rfl,(HB.out.2.2.trans ((hx2.trans hx3).trans hx5)).trans hx8⟩
 | true =>
 go_upto_region 3 with (first | (go_at_call 38; refine (awake5_any _).mono ?_; rintro q2 w2 ⟨rfl,hx2⟩; replace p0:=cell_keep p0 hx2; replace p1:=cell_keep p1 hx2) | (go_at_call 39; refine (HF.out _ hx2).mono ?_; rintro q3 w3 ⟨rfl,hx3⟩; replace p0:=cell_keep p0 hx3; replace p1:=cell_keep p1 hx3) | (go_at_call 36; refine (HV.out _ (hx2.trans hx3)).mono ?_; rintro q5 w5 ⟨rfl,hx5⟩; replace p0:=cell_keep p0 hx5; replace p1:=cell_keep p1 hx5))
 have HX5:=bH ((hx2.trans hx3).trans hx5)
 clear hx2 hx3 hx5 HF HV
 obtain ⟨-,hn6,hm8⟩:=few_parts HFb.out
 rw [HLn.out.1] at hn6
 rw [HLn.out.2] at hm8
 have hVs:Vrs w1 (.slice vo vn vc) p.vars/\Rws w1 (.slice ro rn rc) p.rows:=by
  obtain ⟨vv,rv,e,h,h2⟩:=HB.out.1
  cases e
  exact ⟨h,h2⟩
 have HVs:=bH hVs
 clear hVs
 go_upto_region 4 with fail
 have HQ0:=bH (show ScSt w5 (w5.alloc (.cells #[.slice none 0 0,.slice ro rn rc] 25)) w5.heap.size (.slice none 0 0) (.slice ro rn rc) [] from ⟨(Ext.refl (fun _=>False) w5).alloc _,blk_alloc_at _ _,Nat.le_refl _,World.ownsRow_nil _ _ _ 5⟩)
 generalize w5.alloc (.cells #[.slice none 0 0,.slice ro rn rc] 25)=w4 at *
 generalize w5.heap.size=gb at *
 replace p0:=cell_keep p0 HQ0.out.ext
 go_wp2_with fail
 clear p0 p1
 go_loopg [31,7] vn (fun gg v31 v7 wr=>∃ (i:Nat) (v:Value),i<=vn/\gg=vn - i/\v31=.int .i64 i/\ScSt w5 wr gb v (.slice ro rn rc) ((p.vars.take i).map fun v=>v.scale k)/\∀ x ∈ p.vars.take i,-1048576<=x.co/\x.co<=1048576)
 case atStart=>exact ⟨0,_,Nat.zero_le _,rfl,rfl,HQ0.out,fun x hx=>by simp at hx⟩
 case round =>
  clear HQ0
  obtain ⟨i,v,hi,rfl,rfl,hs,hall⟩:=hrel
  have HM:=bH hs
  have HAl:=bH hall
  clear hs hall
  by_cases hin:i<vn
  ·have i0:(i:Int)<(vn:Int):=by omega
   have i1:(0:Int)<=(i:Int):=by omega
   have hrow:=HVs.out.1.keep (HX5.out.trans HM.out.ext)
   have hil:i<p.vars.length:=by rw [HLn.out.1]; exact hin
   obtain ⟨b,off,rfl,hlt,e0,e1,e2,e3,e4,-⟩:=hrow.atp i hil
   have hgl:p.vars[i]?=some (p.v i):=by rw [List.getElem?_eq_getElem hil,<- getD_lt hil var0]; rfl
   have HGl:=bH hgl
   have hco:=(HVs.out.1.2 _ (List.mem_of_getElem? hgl)).co
   clear hrow hil hgl
   by_cases c1:1048576<(p.v i).co
   ·have HXt:=bH ((Ext.refl (fun _=>False) wr).alloc (.cells #[.int .i64 (p.v i).lo,.int .i64 (p.v i).up,.bool (p.v i).op,.bool (p.v i).ig,.int .i64 (p.v i).co] 63))
    go_wp2
    go_ret
    exact ⟨rfl,HB.out.2.2.trans (HX5.out.trans (HM.out.ext.trans HXt.out))⟩
   by_cases c2:(p.v i).co < -1048576
   ·have HXt:=bH ((Ext.refl (fun _=>False) wr).alloc (.cells #[.int .i64 (p.v i).lo,.int .i64 (p.v i).up,.bool (p.v i).op,.bool (p.v i).ig,.int .i64 (p.v i).co] 63))
    go_wp2
    go_ret
    exact ⟨rfl,HB.out.2.2.trans (HX5.out.trans (HM.out.ext.trans HXt.out))⟩
   obtain ⟨M,hM⟩:∃ M,(p.v i).co*k=M:=⟨_,rfl⟩
   have hM1:M<=267386880:=by
    have h4:(p.v i).co*k<=1048576*k:=Int.mul_le_mul_of_nonneg_right (by omega) hk0
    omega
   have hM2:-267386880<=M:=by
    have h4:-1048576*k<=(p.v i).co*k:=Int.mul_le_mul_of_nonneg_right (by omega) hk0
    omega
   have HMm:=bH hM
   have hxv:=(Ext.refl (fun _=>False) wr).alloc (.cells #[.int .i64 (p.v i).lo,.int .i64 (p.v i).up,.bool (p.v i).op,.bool (p.v i).ig,.int .i64 (p.v i).co] 63)
   have HM9:=bH (HM.out.keep ((Ext.refl (fun _=>False) wr).alloc (.cells #[.int .i64 (p.v i).lo,.int .i64 (p.v i).up,.bool (p.v i).op,.bool (p.v i).ig,.int .i64 M] 63)))
   have HBv:=bH (blk_alloc_at wr (.cells #[.int .i64 (p.v i).lo,.int .i64 (p.v i).up,.bool (p.v i).op,.bool (p.v i).ig,.int .i64 M] 63))
   clear hxv
   go_upto_region 10 with fail
   generalize wr.alloc (.cells #[.int .i64 (p.v i).lo,.int .i64 (p.v i).up,.bool (p.v i).op,.bool (p.v i).ig,.int .i64 M] 63)=w9 at *
   generalize wr.heap.size=vb at *
   clear e0 e1 e2 e3 e4 hM
   have e0:=cellq HBv.out 0 rfl
   have e1:=cellq HBv.out 1 rfl
   have e2:=cellq HBv.out 2 rfl
   have e3:=cellq HBv.out 3 rfl
   have e4:=cellq HBv.out 4 rfl
   have HLl:=bH (show ((p.vars.take i).map (fun v=>v.scale k)++[(p.v i).scale k]).length=i+1 from by rw [List.length_append,List.length_map,List.length_take,HLn.out.1,Nat.min_eq_left (by omega)]; rfl)
   have q0:=cellq HM9.out.box 0 rfl
   have q1:=free_of_cells HM9.out.box 0
   have HMa:=bH (HM9.out.keep ((Ext.refl (fun _=>False) w9).alloc (.cells #[.int .i64 (p.v i).lo,.int .i64 (p.v i).up,.bool (p.v i).op,.bool (p.v i).ig,.int .i64 M] 63)))
   go_wp2_with (at_builtin; refine wpList_append_el (f:=cV) rfl (.tmp 50) (.tmp 52) rfl cV_len ((p.v i).scale k) (cV_one _) Tryz.underlying22 Tryz.infoVar rfl (by decide) (by decide) (gb+1) v ((p.vars.take i).map fun v=>v.scale k) rfl HMa.out.row ⟨w9.heap.size,0,none⟩ 1 rfl (alloc_el HMm.out) (by rw [List.length_map,List.length_take]; omega) HMa.out.size ?_; intro v' w' g1 g2 g3; have HMb:=bH (HMa.out.push g1 g2); have q2:=(g2.cell (p:=⟨gb,0,none⟩) (World.block_lt_of_cell? _ _ (cellq HMa.out.box 0 rfl)) (fun e=>by have:=(HMa.out.own.lt gb e).1; omega)).trans (cellq HMa.out.box 0 rfl); have q3:=free_of_cells ((g2.blk (blk_lt HMa.out.box) (fun e=>by have:=(HMa.out.own.lt gb e).1; omega)).trans HMa.out.box) 0; obtain ⟨ao',ac',e'⟩:=ownsRow_shape g1; rw [HLl.out] at e'; subst e'; clear g1 g2 g3)
   go_roundg (vn - (i+1))
   case measure=>omega
   case rel=>exact ⟨i+1,_,by omega,rfl,by go_num,by rw [take_snoc HGl.out]; exact HMb.out,fun x hx=>by
    rw [List.take_add_one,HGl.out] at hx
    rcases List.mem_append.1 hx with h | h
    ·exact HAl.out x h
    ·simp at h; subst h; exact ⟨by omega,by omega⟩⟩
  ·obtain rfl:i=vn:=by omega
   have hti:p.vars.take i=p.vars:=List.take_of_length_le (by rw [HLn.out.1]; exact Nat.le_refl _)
   rw [hti] at HM HAl
   clear hti
   have HXt:=bH (HX5.out.trans HM.out.ext)
   have p0:=cellq (blk_keep HB.out.2.1 HXt.out) 0 rfl
   have p1:=cellq (blk_keep HB.out.2.1 HXt.out) 1 rfl
   obtain ⟨qo,qc,rfl⟩:=HM.out.own.shape
   obtain ⟨ql,hql⟩:∃ ql,(p.vars.map fun v=>v.scale k).length=ql:=⟨_,rfl⟩
   have hQP:IsPrg wr (.agg #[.slice qo (p.vars.map fun v=>v.scale k).length qc,.slice ro rn rc]) (p.scale k):=⟨_,_,rfl,⟨HM.out.own.sl cV_len,fun x hx=>by
    obtain ⟨y,hy,rfl⟩:=List.mem_map.1 hx
    have h:=HVs.out.1.2 y hy
    have hc:=HAl.out y hy
    have h3:y.co*k<=1048576*k:=Int.mul_le_mul_of_nonneg_right hc.2 hk0
    have h4:-1048576*k<=y.co*k:=Int.mul_le_mul_of_nonneg_right hc.1 hk0
    exact ⟨h.lo,h.up,(show InR (y.co*k) from ⟨by omega,by omega⟩)⟩⟩,HVs.out.2.keep HXt.out⟩
   have hbx:=HM.out.box
   rw [hql] at hQP hbx
   have HQ:=bH hQP
   have HBq:=bH hbx
   clear hql hQP hbx
   have z0:=cellq HBq.out 0 rfl
   have z1:=cellq HBq.out 1 rfl
   have HSoa:=bH (Solve_few wr _ p (HB.out.1.keep HXt.out) HFb.out)
   go_upto_region 13 with (go_at_call 37; refine HSoa.out.mono ?_; rintro r8 w8 ⟨v8,oa,e,rfl,hsv,hfar,hx8⟩; obtain rfl:e=0:=(hsv.chk HVb.out).1; obtain ⟨nga,a1a,m1a,c1a,a2a,m2a,c2a,pv5a,mv5a,rv5a,e5a,ho1,ho2,ho3,ho4,ho5⟩:=hfar.now; obtain ⟨poa,pca,rfl,-,-,-⟩:=ho2.shape; obtain ⟨moa,mca,rfl,-,-,-⟩:=ho3.shape; obtain ⟨zoa,zca,rfl,-,-,-⟩:=ho4.shape; subst e5a; have HO:=bH (bI ho1 hx8); have HSva:=bH hsv; replace z0:=cell_keep z0 hx8; replace z1:=cell_keep z1 hx8; clear hsv hfar hx8 ho1 ho2 ho3 ho4 ho5; generalize hkd:oa.kind=kda; have HKda:=bH hkd; clear hkd; generalize oa.pt.length=pna; generalize oa.mu.length=mna; generalize oa.ray.length=zna)
   have hxa:=(Ext.refl (fun _=>False) w8).alloc (.cells #[.int .i64 kda,.bool nga,.slice a1a m1a c1a,.slice a2a m2a c2a,.slice poa pna pca,.slice moa mna mca,.slice zoa zna zca] 34)
   have HWa:=bH (bI (blk_alloc_at w8 (.cells #[.int .i64 kda,.bool nga,.slice a1a m1a c1a,.slice a2a m2a c2a,.slice poa pna pca,.slice moa mna mca,.slice zoa zna zca] 34)) (bI (HO.out.2.trans hxa) (bI (HO.out.1.1.keep hxa) HO.out.1.2)))
   replace z0:=cell_keep z0 hxa
   replace z1:=cell_keep z1 hxa
   clear hxa HO
   generalize w8.alloc (.cells #[.int .i64 kda,.bool nga,.slice a1a m1a c1a,.slice a2a m2a c2a,.slice poa pna pca,.slice moa mna mca,.slice zoa zna zca] 34)=wa at *
   generalize w8.heap.size=oba at *
   clear p0 p1
   have HSob:=bH (Solve_six wa _ (p.scale k) (HQ.out.keep HWa.out.2.1) (by rw [scale_len,HLn.out.1]; exact hn6) (by show p.rows.length<=100; rw [HLn.out.2]; omega))
   go_upto_region 14 with (go_at_call 37; refine HSob.out.mono ?_; rintro r8 w8 ⟨v8,ob,e,rfl,hsv,hfar,hx8⟩; obtain ⟨-,rfl,hlw⟩:=scale_cases HVb.out ⟨hk0,hk1⟩ HAl.out HSva.out hsv; have HLw:=bH hlw; clear hlw; obtain ⟨ngb,a1b,m1b,c1b,a2b,m2b,c2b,pv5b,mv5b,rv5b,e5b,ho1,ho2,ho3,ho4,ho5⟩:=hfar.now; obtain ⟨pob,pcb,rfl,-,-,-⟩:=ho2.shape; obtain ⟨mob,mcb,rfl,-,-,-⟩:=ho3.shape; obtain ⟨zob,zcb,rfl,-,-,-⟩:=ho4.shape; subst e5b; have HO:=bH (bI ho1 hx8); have HSvb:=bH hsv; clear hsv hfar hx8 ho1 ho2 ho3 ho4 ho5; generalize hkd:ob.kind=kdb; have HKdb:=bH hkd; clear hkd; generalize ob.pt.length=pnb; generalize ob.mu.length=mnb; generalize ob.ray.length=znb)
   have hxa:=(Ext.refl (fun _=>False) w8).alloc (.cells #[.int .i64 kdb,.bool ngb,.slice a1b m1b c1b,.slice a2b m2b c2b,.slice pob pnb pcb,.slice mob mnb mcb,.slice zob znb zcb] 34)
   have HWb:=bH (bI (blk_alloc_at w8 (.cells #[.int .i64 kdb,.bool ngb,.slice a1b m1b c1b,.slice a2b m2b c2b,.slice pob pnb pcb,.slice mob mnb mcb,.slice zob znb zcb] 34)) (bI (HO.out.2.trans hxa) (bI (HO.out.1.1.keep hxa) HO.out.1.2)))
   clear hxa HO
   generalize w8.alloc (.cells #[.int .i64 kdb,.bool ngb,.slice a1b m1b c1b,.slice a2b m2b c2b,.slice pob pnb pcb,.slice mob mnb mcb,.slice zob znb zcb] 34)=wb at *
   generalize w8.heap.size=obb at *
   have hlw:=HLw.out
   rw [HKda.out,HKdb.out] at hlw
   have hbl:=blk_keep HWa.out.1 HWb.out.2.1
   have HVa:=HWa.out.2.2.1.keep HWb.out.2.1
   clear HLw z0 z1
   rcases hlw with ⟨rfl,rfl⟩ | ⟨hk0,rfl,hv0,hka⟩ | ⟨hkp,hkk,hvv,hka⟩
   ·have g0:=cellq hbl 0 rfl
    have g1:=cellq hbl 1 rfl
    have g2:=cellq hbl 2 rfl
    have g3:=cellq hbl 3 rfl
    have g4:=cellq hbl 4 rfl
    have g5:=cellq hbl 5 rfl
    have g6:=cellq hbl 6 rfl
    have h0:=cellq HWb.out.1 0 rfl
    have h1:=cellq HWb.out.1 1 rfl
    have h2:=cellq HWb.out.1 2 rfl
    have h3:=cellq HWb.out.1 3 rfl
    have h4:=cellq HWb.out.1 4 rfl
    have h5:=cellq HWb.out.1 5 rfl
    have h6:=cellq HWb.out.1 6 rfl
    go_wp2
    go_ret
    exact ⟨rfl,HB.out.2.2.trans (HXt.out.trans (HWa.out.2.1.trans HWb.out.2.1))⟩
   ·subst hk0
    have HSg:=bH (show Calls Tryz.prog 35 #[.agg #[.bool ngb,.slice a1b m1b c1b,.slice a2b m2b c2b]] wb (fun r w'=>r=.returned (.int .i64 0)/\XF wb w') from by
     have h:=Rrsign_any wb _ ob.val 1200 (HWb.out.2.2.1.reads HWb.out.2.2.2) (by decide)
     rw [hv0] at h
     exact h)
    clear hv0
    rcases hka with rfl | rfl
    ·have g0:=cellq hbl 0 rfl
     have g1:=cellq hbl 1 rfl
     have g2:=cellq hbl 2 rfl
     have g3:=cellq hbl 3 rfl
     have g4:=cellq hbl 4 rfl
     have g5:=cellq hbl 5 rfl
     have g6:=cellq hbl 6 rfl
     have h0:=cellq HWb.out.1 0 rfl
     have h1:=cellq HWb.out.1 1 rfl
     have h2:=cellq HWb.out.1 2 rfl
     have h3:=cellq HWb.out.1 3 rfl
     have h4:=cellq HWb.out.1 4 rfl
     have h5:=cellq HWb.out.1 5 rfl
     have h6:=cellq HWb.out.1 6 rfl
     go_wp2_with (go_at_call 35; refine HSg.out.mono ?_; rintro q10 w10 ⟨rfl,hx10⟩)
     go_ret
     exact ⟨rfl,(HB.out.2.2.trans (HXt.out.trans (HWa.out.2.1.trans HWb.out.2.1))).trans hx10⟩
    ·have g0:=cellq hbl 0 rfl
     have g1:=cellq hbl 1 rfl
     have g2:=cellq hbl 2 rfl
     have g3:=cellq hbl 3 rfl
     have g4:=cellq hbl 4 rfl
     have g5:=cellq hbl 5 rfl
     have g6:=cellq hbl 6 rfl
     have h0:=cellq HWb.out.1 0 rfl
     have h1:=cellq HWb.out.1 1 rfl
     have h2:=cellq HWb.out.1 2 rfl
     have h3:=cellq HWb.out.1 3 rfl
     have h4:=cellq HWb.out.1 4 rfl
     have h5:=cellq HWb.out.1 5 rfl
     have h6:=cellq HWb.out.1 6 rfl
     go_wp2_with (go_at_call 35; refine HSg.out.mono ?_; rintro q10 w10 ⟨rfl,hx10⟩)
     go_ret
     exact ⟨rfl,(HB.out.2.2.trans (HXt.out.trans (HWa.out.2.1.trans HWb.out.2.1))).trans hx10⟩
   ·subst hkk
    have HFr:=bH (fun W=>show Calls Tryz.prog 32 #[.int .i64 k] W (RatPost W (k:Rat)) from Rrfrom_any W k (by omega) (by omega))
    have HMl:=bH (fun W u (hW:XF wb W) (hu:IsRat W u (k:Rat))=>show Calls Tryz.prog 31 #[u,.agg #[.bool nga,.slice a1a m1a c1a,.slice a2a m2a c2a]] W (RatPost W ((k:Rat)*oa.val)) from Rrmul_any W u _ _ _ 1200 (hu.reads ((Sz.int (show InR k from ⟨by omega,by omega⟩)).mono (by decide))) ((HVa.keep hW).reads HWa.out.2.2.2) (by decide) (by decide))
    have HCm:=bH (fun W u (hW:XF wb W) (hu:IsRat W u ((k:Rat)*oa.val))=>show Calls Tryz.prog 25 #[.agg #[.bool ngb,.slice a1b m1b c1b,.slice a2b m2b c2b],u] W (fun r w'=>r=.returned (.int .i64 0)/\XF W w') from by
     have h:=Rrcmp_any W _ u ob.val _ 1202 (((HWb.out.2.2.1.keep hW).reads HWb.out.2.2.2).mono (by decide)) (hu.reads ((Sz.mul (Sz.int (show InR k from ⟨by omega,by omega⟩)) HWa.out.2.2.2).mono (by decide))) (by decide) (by decide)
     rw [hvv,show (k:Rat)*oa.val - (k:Rat)*oa.val=0 by grind] at h
     exact h)
    have hwk:IntKind.i64.wrap k=k:=IntWalk.i64_in _ (by omega)
    have hk9:¬ k=0:=by omega
    have hk8:(k == 0)=false:=by simpa using hk9
    have hk7:decide (k=0)=false:=by simpa using hk9
    clear hvv hkp
    rcases hka with rfl | rfl
    ·have g0:=cellq hbl 0 rfl
     have g1:=cellq hbl 1 rfl
     have g2:=cellq hbl 2 rfl
     have g3:=cellq hbl 3 rfl
     have g4:=cellq hbl 4 rfl
     have g5:=cellq hbl 5 rfl
     have g6:=cellq hbl 6 rfl
     have h0:=cellq HWb.out.1 0 rfl
     have h1:=cellq HWb.out.1 1 rfl
     have h2:=cellq HWb.out.1 2 rfl
     have h3:=cellq HWb.out.1 3 rfl
     have h4:=cellq HWb.out.1 4 rfl
     have h5:=cellq HWb.out.1 5 rfl
     have h6:=cellq HWb.out.1 6 rfl
     go_upto_region 20 with fail
     replace g0:=cqo (S:=fun _=>False) g0 id
     replace g1:=cqo (S:=fun _=>False) g1 id
     replace g2:=cqo (S:=fun _=>False) g2 id
     replace g3:=cqo (S:=fun _=>False) g3 id
     replace h0:=cqo (S:=fun _=>False) h0 id
     replace h1:=cqo (S:=fun _=>False) h1 id
     replace h2:=cqo (S:=fun _=>False) h2 id
     replace h3:=cqo (S:=fun _=>False) h3 id
     refine wp_region_held_drew (S:=(XF wb)) (by kernel_rfl) ((Ext.refl _ wb).drew) (fun hHeld=>?_)
     refine ht 0 (h:=(ht 1 (h:=(ht 2 (h:=(ht 3 (h:=(ht 4 (h:=(ht 5 (h:=?_)))))))))))
     (try go_frame)
     refine ht 6 (h:=?_)
     (try go_frame)
     refine ht 7 (h:=?_)
     (try go_frame)
     refine ht 8 (h:=?_)
     (try go_frame)
     refine ht 9 (h:=?_)
     (try go_frame)
     refine ht 11 (h:=?_)
     (try go_frame)
     refine ht 12 (h:=?_)
     (try go_frame)
     refine hst 10 (h:=fun K hK=>?_)
     (go_simp; go_at_call 32; (with_reducible refine (HFr.out _).mono ?_); rintro q1 w11 ⟨v11,rfl,h11,hx11⟩; have hX1:=hHeld.trans hx11; obtain ⟨n11,a11,l11,c11,a11',l11',c11',rfl⟩:=h11.shape)
     refine hK.out _ _ (hX1) (fun hHeld=>?_)
     clear hK K
     (try go_frame)
     refine hst 13 (h:=fun K hK=>?_)
     (go_simp; go_at_call 31; (with_reducible refine (HMl.out _ _ hX1 h11).mono ?_); rintro q2 w12 ⟨v12,rfl,h12,hx12⟩; have hX2:=hX1.trans hx12; obtain ⟨n12,a12,l12,c12,a12',l12',c12',rfl⟩:=h12.shape)
     refine hK.out _ _ (hX2) (fun hHeld=>?_)
     clear hK K
     (try go_frame)
     refine hst 14 (h:=fun K hK=>?_)
     (go_simp; go_at_call 25; (with_reducible refine (HCm.out _ _ hX2 h12).mono ?_); rintro q3 w13 ⟨rfl,hx13⟩; have hX3:=hX2.trans hx13)
     refine hK.out _ _ (hX3) (fun hHeld=>?_)
     clear hK K
     (try go_frame)
     refine ht 15 (h:=(ht 16 (h:=(ht 17 (h:=?_)))))
     (try go_frame)
     refine wpAnyH_done (by kernel_rfl) ?_ _
     go_wp2
     go_ret
     exact ⟨rfl,(HB.out.2.2.trans (HXt.out.trans (HWa.out.2.1.trans HWb.out.2.1))).trans hX3⟩
    ·have g0:=cellq hbl 0 rfl
     have g1:=cellq hbl 1 rfl
     have g2:=cellq hbl 2 rfl
     have g3:=cellq hbl 3 rfl
     have g4:=cellq hbl 4 rfl
     have g5:=cellq hbl 5 rfl
     have g6:=cellq hbl 6 rfl
     have h0:=cellq HWb.out.1 0 rfl
     have h1:=cellq HWb.out.1 1 rfl
     have h2:=cellq HWb.out.1 2 rfl
     have h3:=cellq HWb.out.1 3 rfl
     have h4:=cellq HWb.out.1 4 rfl
     have h5:=cellq HWb.out.1 5 rfl
     have h6:=cellq HWb.out.1 6 rfl
     go_upto_region 20 with fail
     replace g0:=cqo (S:=fun _=>False) g0 id
     replace g1:=cqo (S:=fun _=>False) g1 id
     replace g2:=cqo (S:=fun _=>False) g2 id
     replace g3:=cqo (S:=fun _=>False) g3 id
     replace h0:=cqo (S:=fun _=>False) h0 id
     replace h1:=cqo (S:=fun _=>False) h1 id
     replace h2:=cqo (S:=fun _=>False) h2 id
     replace h3:=cqo (S:=fun _=>False) h3 id
     refine wp_region_held_drew (S:=(XF wb)) (by kernel_rfl) ((Ext.refl _ wb).drew) (fun hHeld=>?_)
     refine ht 0 (h:=(ht 1 (h:=(ht 2 (h:=(ht 3 (h:=(ht 4 (h:=(ht 5 (h:=?_)))))))))))
     (try go_frame)
     refine ht 6 (h:=?_)
     (try go_frame)
     refine ht 7 (h:=?_)
     (try go_frame)
     refine ht 8 (h:=?_)
     (try go_frame)
     refine ht 9 (h:=?_)
     (try go_frame)
     refine ht 11 (h:=?_)
     (try go_frame)
     refine ht 12 (h:=?_)
     (try go_frame)
     refine hst 10 (h:=fun K hK=>?_)
     (go_simp; go_at_call 32; (with_reducible refine (HFr.out _).mono ?_); rintro q1 w11 ⟨v11,rfl,h11,hx11⟩; have hX1:=hHeld.trans hx11; obtain ⟨n11,a11,l11,c11,a11',l11',c11',rfl⟩:=h11.shape)
     refine hK.out _ _ (hX1) (fun hHeld=>?_)
     clear hK K
     (try go_frame)
     refine hst 13 (h:=fun K hK=>?_)
     (go_simp; go_at_call 31; (with_reducible refine (HMl.out _ _ hX1 h11).mono ?_); rintro q2 w12 ⟨v12,rfl,h12,hx12⟩; have hX2:=hX1.trans hx12; obtain ⟨n12,a12,l12,c12,a12',l12',c12',rfl⟩:=h12.shape)
     refine hK.out _ _ (hX2) (fun hHeld=>?_)
     clear hK K
     (try go_frame)
     refine hst 14 (h:=fun K hK=>?_)
     (go_simp; go_at_call 25; (with_reducible refine (HCm.out _ _ hX2 h12).mono ?_); rintro q3 w13 ⟨rfl,hx13⟩; have hX3:=hX2.trans hx13)
     refine hK.out _ _ (hX3) (fun hHeld=>?_)
     clear hK K
     (try go_frame)
     refine ht 15 (h:=(ht 16 (h:=(ht 17 (h:=?_)))))
     (try go_frame)
     refine wpAnyH_done (by kernel_rfl) ?_ _
     go_wp2
     go_ret
     exact ⟨rfl,(HB.out.2.2.trans (HXt.out.trans (HWa.out.2.1.trans HWb.out.2.1))).trans hX3⟩
end Go.Proofs.YtbgienfcmdgaaaaGreat
