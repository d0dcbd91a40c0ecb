/-
  Texts of the proof, part 1. Conditions: each lemma names its own.
-/
import Derived.Test.YtbgienfcmdgaaaaGreatZ1
import Derived.Test.YtbgienfcmdgaaaaGreatZ11
import Derived.Test.YtbgienfcmdgaaaaGreatZ4
import Derived.Test.YtbgienfcmdgaaaaGreatZ5
import Derived.Test.YtbgienfcmdgaaaaGreatZ6
import Derived.OpenShut
import Derived.ShutString
import Derived.ChangeOld
import Derived.Deep.Slices
import Derived.Lib.SmallJoins
import Derived.Maps.RangeWalk
set_option linter.unusedVariables false
set_option linter.unusedSimpArgs false
set_option maxRecDepth 100000
set_option maxHeartbeats 16000000
namespace Go.Proofs.YtbgienfcmdgaaaaGreat
open Go.RowKit Go.MapKept
open Go.ChangeMaps (setBlock)
theorem blk_alloc_at' (w:World) (o:Obj) (k:Nat) (h:k=w.heap.size):blk (w.alloc o) k=some o:=by subst h; exact blk_alloc_at w o
open Go.ChangeShapes Go.WideShapes Go.ChangeAt Go.RowKit Go.Deep
set_option linter.unusedVariables false
theorem own:ownKnob Tryz.prog.godebug=none:=by kernel_rfl
theorem laidOut:laidOutB Tryz.prog=true:=by kernel_rfl
section
variable {H:Type} {enc:TypeId × Value->H} {w:World} {base:Nat} {spare:Nat->Bool} {held:Bool}
theorem struct_field {P:Program} {t:TypeId} {fs:Array Field} {fuel:Nat} {cs:List Value} {x:DataW H × List MemPlace} (ht:P.underlying t=some (.struct fs)) (h:DataW.trod enc P w base spare held fuel t cs=some x)
  (i:Nat) {f:Field} (hi:fs[i]?=some f) {ty off n:Nat} (h1:f.type=ty) (h2:f.offset=off) (h3:P.cellsOf ty=n):∃ m y,DataW.trod enc P w base spare held m ty ((cs.drop off).take n)=some y:=by
 obtain ⟨xs,m,_,_,hl,hxl,hf⟩:=DataW.trod_struct ht h
 subst h1 h2 h3
 have hlt:i<xs.length:=by rw [hxl]; exact (Array.getElem?_eq_some_iff.1 hi).1
 exact ⟨m,_,(hf i f hi).trans (List.getElem?_eq_getElem hlt)⟩
theorem struct_length {P:Program} {t:TypeId} {fs:Array Field} {fuel:Nat} {cs:List Value} {x:DataW H × List MemPlace} (ht:P.underlying t=some (.struct fs)) (h:DataW.trod enc P w base spare held fuel t cs=some x) {n:Nat} (h3:P.cellsOf t=n):cs.length=n:=by
 obtain ⟨xs,m,_,_,hl,hxl,hf⟩:=DataW.trod_struct ht h
 rw [hl,h3]
theorem list_of {α:Type} {R:List Value->α->Prop}:∀ {css:List (List Value)},(∀ c ∈ css,∃ x,R c x)->∃ l:List α,l.length=css.length/\∀ (i:Nat) c x,css[i]?=some c->l[i]?=some x->R c x
 | [],_=>⟨[],rfl,fun i c x h=>by simp at h⟩
 | c :: css,h=>by
  obtain ⟨x,hx⟩:=h c (by simp)
  obtain ⟨l,h1,h2⟩:=list_of (css:=css) (fun c hc=>h c (by simp [hc]))
  refine ⟨x :: l,by simp [h1],fun i c' x' hc hx'=>?_⟩
  cases i with
  | zero=>simp at hc hx'; subst hc hx'; exact hx
  | succ i=>simp at hc hx'; exact h2 i c' x' hc hx'
theorem map_of {α:Type} {f:α->List Value} {Q:α->Prop} {css:List (List Value)} (h:∀ c ∈ css,∃ x,c=f x/\Q x):∃ l:List α,css=l.map f/\∀ x ∈ l,Q x:=by
 obtain ⟨l,h1,h2⟩:=list_of (R:=fun c x=>c=f x/\Q x) h
 refine ⟨l,List.ext_getElem? fun i=>?_,fun x hx=>?_⟩
 ·rw [List.getElem?_map]
  by_cases hi:i<l.length
  ·rw [List.getElem?_eq_getElem hi,List.getElem?_eq_getElem (by omega:i<css.length)]
   simp only [Option.map_some]
   exact congrArg some (h2 i _ _ (List.getElem?_eq_getElem (by omega)) (List.getElem?_eq_getElem hi)).1
  ·rw [List.getElem?_eq_none (by omega),List.getElem?_eq_none (by omega)]; rfl
 ·obtain ⟨i,hi,rfl⟩:=List.getElem_of_mem hx
  exact (h2 i _ _ (List.getElem?_eq_getElem (by omega)) (List.getElem?_eq_getElem hi)).2
theorem open_sl {t e:TypeId} {m:Nat} {fuel:Nat} {cs:List Value} {x:DataW H × List MemPlace} (ht:Tryz.prog.underlying t=some (.slice e)) (hc:Tryz.prog.cellsOf e=m) (hm:0<m) {R:List Value->Prop}
  (he:∀ fuel cs x,DataW.trod enc Tryz.prog w base spare held fuel e cs=some x->R cs) (h:DataW.trod enc Tryz.prog w base spare held fuel t cs=some x) :
  ∃ v css,cs=[v]/\Sl w v m css/\∀ c ∈ css,R c:=by
 rcases open_slice ht h with ⟨hcs,_⟩ | ⟨a,l,c,k,n',D,Pl,hcs,_,hlc,hcm,hk,_,hel⟩
 ·exact ⟨_,[],hcs,Sl.nil w m,by simp⟩
 ·have hlk:l<=k:=by rw [hk]; split <;> omega
  have hel':∀ i,i<l->∃ c':List Value,c'.length=m/\R c'/\∀ j u,c'[j]?=some u->w.cell? ((a.add (i*m)).add j)=some u:=fun i hi=>by
   obtain ⟨cs',h1,h2⟩:=hel i (by omega)
   rw [hc] at h1
   obtain ⟨_,hlen,hat⟩:=World.cells?_some h1
   exact ⟨cs',hlen,he _ _ _ h2,fun j u hu=>(hat j (by have:=(List.getElem?_eq_some_iff.1 hu).1; omega)).trans hu⟩
  obtain ⟨css,h1,h2⟩:∃ css:List (List Value),css.length=l/\∀ i (h:i<css.length),css[i].length=m/\R css[i]/\∀ j u,css[i][j]?=some u->w.cell? ((a.add (i*m)).add j)=some u:=by
   refine ⟨List.ofFn fun i:Fin l=>Classical.choose (hel' i i.2),by simp,fun i hi=>?_⟩
   simp at hi
   have:=Classical.choose_spec (hel' i hi)
   simpa using this
  subst h1
  refine ⟨_,css,hcs,⟨some a,c,rfl,hlc,hcm,(fun e=>by cases e),fun hp=>?_⟩,fun c' hc'=>?_⟩
  ·obtain ⟨b,off,spot⟩:=a
   obtain ⟨e1,_,e3⟩:=h2 0 hp
   have e4:=e3 0 _ (List.getElem?_eq_getElem (by omega))
   have hspot:spot=none:=by simpa [Addr.add] using World.cell?_spot e4
   subst hspot
   refine ⟨b,off,rfl,by have:=World.block_lt_of_cell? w _ e4; simpa [Addr.add_lit] using this,fun i r hi j u hu=>?_⟩
   obtain ⟨hi',rfl⟩:=List.getElem?_eq_some_iff.1 hi
   have:=(h2 i hi').2.2 j u hu
   simpa [Addr.add_lit,Nat.add_assoc] using this
  ·obtain ⟨i,hi,rfl⟩:=List.getElem_of_mem hc'
   exact (h2 i hi).2.1
theorem cellsInt:Tryz.prog.cellsOf 3=1:=by kernel_rfl
theorem cellsI64:Tryz.prog.cellsOf 2=1:=by kernel_rfl
theorem cellsBool:Tryz.prog.cellsOf 4=1:=by kernel_rfl
theorem cellsStr:Tryz.prog.cellsOf 9=1:=by kernel_rfl
theorem cellsTerm:Tryz.prog.cellsOf 76=2:=by kernel_rfl
theorem cellsTerms:Tryz.prog.cellsOf 56=1:=by kernel_rfl
theorem cellsVar:Tryz.prog.cellsOf 63=5:=by kernel_rfl
theorem cellsVars:Tryz.prog.cellsOf 22=1:=by kernel_rfl
theorem cellsRow:Tryz.prog.cellsOf 58=5:=by kernel_rfl
theorem cellsRows:Tryz.prog.cellsOf 23=1:=by kernel_rfl
theorem cellsProgram:Tryz.prog.cellsOf 25=2:=by kernel_rfl
theorem inR_of {k:IntKind} {a:Int} (hk:k=.i64) (h:(Lit.int k a).wf=true):InR a:=by
 subst hk
 simp [Lit.wf,IntKind.min,IntKind.max,IntKind.signed,IntKind.bits] at h
 unfold InR
 omega
theorem open_var {fuel:Nat} {cs:List Value} {x:DataW H × List MemPlace} (h:DataW.trod enc Tryz.prog w base spare held fuel 63 cs=some x):∃ v:VarV,cs=cV v/\VarOk v:=by
 have hl:=struct_length Tryz.underlying63 h cellsVar
 obtain ⟨_,_,f0⟩:=struct_field Tryz.underlying63 h 0 rfl rfl rfl cellsI64
 obtain ⟨_,_,f1⟩:=struct_field Tryz.underlying63 h 1 rfl rfl rfl cellsI64
 obtain ⟨_,_,f2⟩:=struct_field Tryz.underlying63 h 2 rfl rfl rfl cellsBool
 obtain ⟨_,_,f3⟩:=struct_field Tryz.underlying63 h 3 rfl rfl rfl cellsBool
 obtain ⟨_,_,f4⟩:=struct_field Tryz.underlying63 h 4 rfl rfl rfl cellsI64
 clear h
 obtain ⟨a0,h0,_,b0⟩:=DataW.trod_int Tryz.underlying2 f0
 obtain ⟨a1,h1,_,b1⟩:=DataW.trod_int Tryz.underlying2 f1
 obtain ⟨a2,h2,_⟩:=DataW.trod_bool Tryz.underlying4 f2
 obtain ⟨a3,h3,_⟩:=DataW.trod_bool Tryz.underlying4 f3
 obtain ⟨a4,h4,_,b4⟩:=DataW.trod_int Tryz.underlying2 f4
 clear f0 f1 f2 f3 f4
 match cs,hl with
 | [c0,c1,c2,c3,c4],_ =>
  simp at h0 h1 h2 h3 h4
  exact ⟨⟨a0,a1,a2,a3,a4⟩,by rw [h0,h1,h2,h3,h4]; rfl,inR_of rfl b0,inR_of rfl b1,inR_of rfl b4⟩
theorem open_term {fuel:Nat} {cs:List Value} {x:DataW H × List MemPlace} (h:DataW.trod enc Tryz.prog w base spare held fuel 76 cs=some x):∃ t:TermV,cs=cT t/\TermOk t:=by
 have hl:=struct_length Tryz.underlying76 h cellsTerm
 obtain ⟨_,_,f0⟩:=struct_field Tryz.underlying76 h 0 rfl rfl rfl cellsInt
 obtain ⟨_,_,f1⟩:=struct_field Tryz.underlying76 h 1 rfl rfl rfl cellsI64
 clear h
 obtain ⟨a0,h0,_,b0⟩:=DataW.trod_int Tryz.underlying3 f0
 obtain ⟨a1,h1,_,b1⟩:=DataW.trod_int Tryz.underlying2 f1
 clear f0 f1
 match cs,hl with
 | [c0,c1],_ =>
  simp at h0 h1
  exact ⟨⟨a0,a1⟩,by rw [h0,h1]; rfl,inR_of rfl b0,inR_of rfl b1⟩
theorem open_terms {fuel:Nat} {cs:List Value} {x:DataW H × List MemPlace} (h:DataW.trod enc Tryz.prog w base spare held fuel 56 cs=some x):∃ v l,cs=[v]/\Tms w v l:=by
 obtain ⟨v,css,rfl,hs,hc⟩:=open_sl Tryz.underlying56 cellsTerm (by decide) (fun _ _ _ h=>open_term h) h
 obtain ⟨l,rfl,hl⟩:=map_of hc
 exact ⟨v,l,rfl,hs,hl⟩
theorem open_row {fuel:Nat} {cs:List Value} {x:DataW H × List MemPlace} (h:DataW.trod enc Tryz.prog w base spare held fuel 58 cs=some x):∃ y:RowV × Value,cs=cR y.1 y.2/\Tms w y.2 y.1.terms/\RowOk y.1:=by
 have hl:=struct_length Tryz.underlying58 h cellsRow
 obtain ⟨_,_,f0⟩:=struct_field Tryz.underlying58 h 0 rfl rfl rfl cellsStr
 obtain ⟨_,_,f1⟩:=struct_field Tryz.underlying58 h 1 rfl rfl rfl cellsInt
 obtain ⟨_,_,f2⟩:=struct_field Tryz.underlying58 h 2 rfl rfl rfl cellsInt
 obtain ⟨_,_,f3⟩:=struct_field Tryz.underlying58 h 3 rfl rfl rfl cellsTerms
 obtain ⟨_,_,f4⟩:=struct_field Tryz.underlying58 h 4 rfl rfl rfl cellsI64
 clear h
 obtain ⟨a0,h0,_,b0⟩:=DataW.trod_string Tryz.underlying9 f0
 obtain ⟨a1,h1,_,b1⟩:=DataW.trod_int Tryz.underlying3 f1
 obtain ⟨a2,h2,_,b2⟩:=DataW.trod_int Tryz.underlying3 f2
 obtain ⟨v3,l3,h3,b3⟩:=open_terms f3
 obtain ⟨a4,h4,_,b4⟩:=DataW.trod_int Tryz.underlying2 f4
 clear f0 f1 f2 f3 f4
 match cs,hl with
 | [c0,c1,c2,c3,c4],_ =>
  simp at h0 h1 h2 h3 h4
  exact ⟨⟨⟨a0,a1,a2,l3,a4⟩,v3⟩,by rw [h0,h1,h2,h3,h4]; rfl,b3,b0,inR_of rfl b1,inR_of rfl b2,inR_of rfl b4⟩
theorem open_prog {fuel:Nat} {cs:List Value} {x:DataW H × List MemPlace} (h:DataW.trod enc Tryz.prog w base spare held fuel 25 cs=some x):∃ p:ProgV,IsPrg w (.agg cs.toArray) p:=by
 have hl:=struct_length Tryz.underlying25 h cellsProgram
 obtain ⟨_,_,f0⟩:=struct_field Tryz.underlying25 h 0 rfl rfl rfl cellsVars
 obtain ⟨_,_,f1⟩:=struct_field Tryz.underlying25 h 1 rfl rfl rfl cellsRows
 clear h
 obtain ⟨v0,c0,e0,s0,k0⟩:=open_sl Tryz.underlying22 cellsVar (by decide) (fun _ _ _ h=>open_var h) f0
 obtain ⟨v1,c1,e1,s1,k1⟩:=open_sl Tryz.underlying23 cellsRow (by decide) (fun _ _ _ h=>open_row h) f1
 clear f0 f1
 obtain ⟨l0,rfl,g0⟩:=map_of k0
 obtain ⟨l1,n1,g1⟩:=list_of (R:=fun c (y:RowV × Value)=>c=cR y.1 y.2/\Tms w y.2 y.1.terms/\RowOk y.1) k1
 have hz:c1=List.zipWith cR (l1.map (·.1)) (l1.map (·.2)):=by
  apply List.ext_getElem?
  intro i
  rw [List.getElem?_zipWith,List.getElem?_map,List.getElem?_map]
  by_cases hi:i<l1.length
  ·rw [List.getElem?_eq_getElem hi,List.getElem?_eq_getElem (by omega:i<c1.length)]
   simp only [Option.map_some]
   exact congrArg some (g1 i _ _ (List.getElem?_eq_getElem (by omega)) (List.getElem?_eq_getElem hi)).1
  ·rw [List.getElem?_eq_none (by omega),List.getElem?_eq_none (by omega)]; rfl
 rw [hz] at s1
 match cs,hl with
 | [d0,d1],_ =>
  simp at e0 e1
  subst e0 e1
  refine ⟨⟨l0,l1.map (·.1)⟩,_,_,rfl,⟨s0,g0⟩,l1.map (·.2),by simp,s1,fun i r tv hr ht=>?_⟩
  rw [List.getElem?_map] at hr ht
  obtain ⟨y,hy,rfl⟩:=Option.map_eq_some_iff.1 hr
  rw [hy] at ht
  cases ht
  have hi:=(List.getElem?_eq_some_iff.1 hy).1
  exact (g1 i _ _ (List.getElem?_eq_getElem (by omega)) hy).2
end
open Go.Joins in
theorem open_prog_value {H:Type} {enc:TypeId × Value->H} {w:World} {base:Nat} {spare:Nat->Bool} {held:Bool} {r:Reach} {b0:Nat} {v:Value} {d:DataW H} {p:List MemPlace} (hv:Value.okWide Tryz.prog w r b0 25 v) (h:DataW.Trod enc Tryz.prog w base spare held 25 v d p) :
  ∃ y:ProgV,IsPrg w v y:=by
 obtain ⟨cs,rfl,hsz⟩:=okWide_struct Tryz.underlying25 hv
 obtain ⟨fuel,hf⟩:=h
 obtain ⟨y,hy⟩:=open_prog hf
 refine ⟨y,?_⟩
 simpa [Value.cells] using hy
open Go.ChangeShapes Go.WideShapes Go.ChangeAt Go.RowKit Go.Deep
open Go.Joins in
theorem open_row_value {H:Type} {enc:TypeId × Value->H} {w:World} {base:Nat} {spare:Nat->Bool} {held:Bool} {r:Reach} {b0:Nat} {v:Value} {d:DataW H} {p:List MemPlace} (hv:Value.okWide Tryz.prog w r b0 58 v) (h:DataW.Trod enc Tryz.prog w base spare held 58 v d p) :
  ∃ y:RowV × Value,v=.agg (cR y.1 y.2).toArray/\Tms w y.2 y.1.terms/\RowOk y.1:=by
 obtain ⟨cs,rfl,hsz⟩:=okWide_struct Tryz.underlying58 hv
 obtain ⟨fuel,hf⟩:=h
 obtain ⟨y,hy,h1,h2⟩:=open_row hf
 refine ⟨y,?_,h1,h2⟩
 rw [<- hy]
 simp [Value.cells]
theorem room_few {n m:Nat} (hn:n<=6) (hm:m<=8):Room n m 12 1200:=by
 refine ⟨by omega,?_⟩
 have e1:m*(12*(1200+3)+2)<=8*14438:=Nat.mul_le_mul hm (by omega)
 have e2:(n+1)*(m*(12*(1200+3)+2)+7)<=7*115511:=Nat.mul_le_mul (by omega) (by omega)
 have e3:m*(1200+3)<=8*1203:=Nat.mul_le_mul hm (by omega)
 have e4:n*(1200+3)<=6*1203:=Nat.mul_le_mul hn (by omega)
 omega
theorem few_parts {p:ProgV} (h:fewP p 6 8=true):Small p 12 1200/\p.vars.length<=6/\p.rows.length<=8:=by
 unfold fewP at h
 simp only [Bool.and_eq_true,decide_eq_true_eq,List.all_eq_true] at h
 refine ⟨⟨room_few h.1.2 h.2,fun i hi=>?_⟩,h.1.2,h.2⟩
 have hm:p.r i ∈ p.rows:=by
  unfold ProgV.r
  rw [getD_lt hi]; exact List.getElem_mem hi
 have:=h.1.1 _ hm
 unfold fewRow at this
 simp only [Bool.and_eq_true,decide_eq_true_eq] at this
 omega
theorem Solve_few (w:World) (pv:Value) (p:ProgV) (hp:IsPrg w pv p) (h:fewP p 6 8=true):Calls Tryz.prog 37 #[pv] w (SolvePost w p 1200):=by
 obtain ⟨_,hn,hm⟩:=few_parts h
 have h1:(p.vars.length+1)*(168+8)<=7*(168+8):=Nat.mul_le_mul_right _ (by omega)
 have h2:(p.vars.length+1)*(168+1)<=7*(168+1):=Nat.mul_le_mul_right _ (by omega)
 have h3:p.vars.length*(168+6)<=6*(168+6):=Nat.mul_le_mul_right _ hn
 exact Solve_any w pv p 168 1200 hp (fun hv=>bndAll6 hv hn) (by omega) (by omega) (by omega) (by omega) (by omega) (by omega) (by omega) (by omega)
theorem IsPrg.slices5 {w:World} {pv:Value} {p:ProgV} (h:IsPrg w pv p):∃ vo vn vc ro rn rc,pv=.agg #[.slice vo vn vc,.slice ro rn rc]:=by
 obtain ⟨vv,rv,rfl,hv,hr⟩:=h
 obtain ⟨vo,vc,rfl,-⟩:=hv.shape
 obtain ⟨ro,rc,rfl,-⟩:=hr.shape
 exact ⟨_,_,_,_,_,_,rfl⟩
def ProgV.more (p:ProgV) (r:RowV):ProgV:=⟨p.vars,p.rows++[r]⟩
section
variable {p:ProgV} {r:RowV} {x z:List Rat} {a b:OutV}
theorem more_r {i:Nat} (hi:i<p.rows.length):(p.more r).r i=p.r i:=by
 unfold ProgV.r ProgV.more
 rw [List.getD_eq_getElem?_getD,List.getD_eq_getElem?_getD,List.getElem?_append_left hi]
theorem more_len:(p.more r).rows.length=p.rows.length+1:=by
 unfold ProgV.more
 rw [List.length_append]; rfl
theorem valid_more (hv:validB p=true) (hr:rowB p.vars.length r=true) (hm:p.rows.length<4000):validB (p.more r)=true:=by
 unfold validB at hv ⊢
 simp only [Bool.and_eq_true,decide_eq_true_eq] at hv ⊢
 refine ⟨⟨⟨hv.1.1.1,by rw [more_len]; omega⟩,hv.1.2⟩,?_⟩
 show (p.rows++[r]).all (rowB p.vars.length)=true
 rw [List.all_append,hv.2,List.all_cons,hr]; rfl
theorem feas_less (hv:validB p=true) (h:feasB (p.more r) x=true):feasB p x=true:=by
 unfold feasB at h ⊢
 simp only [Bool.and_eq_true,decide_eq_true_eq] at h ⊢
 refine ⟨⟨hv,h.1.2⟩,?_⟩
 have h2:=violN_nil.1 h.2
 refine violN_nil.2 fun i hi=>?_
 have h3:=h2 i (by rw [more_len]; omega)
 rw [more_r hi] at h3
 exact h3
theorem unb_less (hv:validB p=true) (h:unbB (p.more r) x z=true):unbB p x z=true:=by
 unfold unbB at h ⊢
 simp only [Bool.and_eq_true,decide_eq_true_eq] at h ⊢
 refine ⟨⟨⟨feas_less hv h.1.1.1,h.1.1.2⟩,h.1.2⟩,?_⟩
 refine allTo_iff.2 fun i hi=>?_
 have h3:=allTo_iff.1 h.2 i (by rw [more_len]; omega)
 rw [more_r hi] at h3
 exact h3
theorem chk_point (h:chkB p a=true) (hk:0<=a.kind/\a.kind<=2) (h1:a.kind≠1):feasB p a.pt=true:=by
 rcases chk_kinds h hk with ⟨_,k1,_⟩ | ⟨k0,_⟩ | ⟨_,k1,_⟩
 ·exact (opt_parts k1).1
 ·exact absurd k0 h1
 ·exact (unb_parts k1).1
theorem inf_nofeas {y:List Rat} (h:infB p y=true) (hf:feasB p x=true):False:=by
 obtain ⟨_,a1,a2⟩:=feas_rows hf
 exact inf_none h a1 a2
theorem rows_law (hv:validB p=true) (ha:chkB p a=true) (hka:0<=a.kind/\a.kind<=2) (hb:chkB (p.more r) b=true) (hkb:0<=b.kind/\b.kind<=2):(a.kind=1->b.kind=1)/\(a.kind=0->b.kind=0->a.val<=b.val)/\(a.kind=2∨a.kind=1∨b.kind=1∨(a.kind=0/\b.kind=0)):=by
 refine ⟨fun h1=>?_,fun h0 h0'=>?_,?_⟩
 ·refine Classical.byContradiction fun hn=>?_
  have hf:=feas_less hv (chk_point hb hkb hn)
  rcases chk_kinds ha hka with ⟨k0,_⟩ | ⟨_,k1,_⟩ | ⟨k0,_⟩
  ·omega
  ·exact inf_nofeas k1 hf
  ·omega
 ·rcases chk_kinds ha hka with ⟨_,k1,k2⟩ | ⟨k0,_⟩ | ⟨k0,_⟩
  ·rcases chk_kinds hb hkb with ⟨_,m1,m2⟩ | ⟨m0,_⟩ | ⟨m0,_⟩
   ·obtain ⟨_,a1,a2⟩:=feas_rows (feas_less hv (opt_parts m1).1)
    have:=bound_le (opt_parts k1).2 a1 a2
    rw [k2,m2]
    exact this
   ·omega
   ·omega
  ·omega
  ·omega
 ·rcases chk_kinds ha hka with ⟨k0,k1,_⟩ | ⟨k0,_⟩ | ⟨k0,_⟩
  ·rcases chk_kinds hb hkb with ⟨m0,_⟩ | ⟨m0,_⟩ | ⟨_,m1,_⟩
   ·exact .inr (.inr (.inr ⟨k0,m0⟩))
   ·exact .inr (.inr (.inl m0))
   ·exact (unb_nobound (unb_less hv m1) (opt_parts k1).2).elim
  ·exact .inr (.inl k0)
  ·exact .inl k0
end
section
variable {β:Type} {f:β->List Value} {T:TypeId}
def SOwn (f:β->List Value) (T:TypeId) (w:World) (base:Nat) (v:Value) (l:List β):Prop:=w.ownsRow base T 5 v l.length (l.flatMap f)
theorem SOwn.keep {w w':World} {base:Nat} {v:Value} {l:List β} (h:SOwn f T w base v l) (hx:XF w w'):SOwn f T w' base v l:=ownsRow_ext h hx (fun _ _ h=>h)
theorem SOwn.lt {w:World} {base:Nat} {v:Value} {l:List β} (h:SOwn f T w base v l):∀ g,v.ownBlock=some g->base<=g/\g<w.heap.size:=World.ownsRow.lt h
theorem SOwn.shape {w:World} {base:Nat} {v:Value} {l:List β} (h:SOwn f T w base v l):∃ ao cap,v=.slice ao l.length cap:=ownsRow_shape h
theorem SOwn.empty {w:World} {g base:Nat} (h:blk w g=some (.cells #[] T (0,0))) (hb:base<=g):SOwn f T w base (.slice (some ⟨g,0,none⟩) 0 0) []:=ownsRow_empty 5 hb h
def SArr (f:β->List Value) (T:TypeId) (w:World) (g:Nat) (l:List β):Prop:=∃ cur,blk w g=some (.cells cur T (0,0))/\∀ k x,l[k]?=some x->∀ j,j<5->cur[k*5+j]?=(f x)[j]?
theorem SArr.keep {w w':World} {g:Nat} {l:List β} (h:SArr f T w g l) (hx:XF w w'):SArr f T w' g l:=by
 obtain ⟨cur,h1,h2⟩:=h
 exact ⟨cur,blk_keep h1 hx,h2⟩
theorem SArr.past {S:Nat->Prop} {w w':World} {g:Nat} {l:List β} (h:SArr f T w g l) (hx:Ext S w w') (hn:¬ S g):SArr f T w' g l:=by
 obtain ⟨cur,h1,h2⟩:=h
 exact ⟨cur,(hx.blk (blk_lt h1) hn).trans h1,h2⟩
theorem SArr.cell {w:World} {g:Nat} {l:List β} (hf:∀ x,(f x).length=5) (h:SArr f T w g l) {k:Nat} {x:β} (hk:l[k]?=some x) {j:Nat} {u:Value} (hu:(f x)[j]?=some u):w.cell? ⟨g,k*5+j,none⟩=some u/\w.frozen? ⟨g,k*5+j,none⟩=false:=by
 obtain ⟨cur,h1,h2⟩:=h
 have hj:j<5:=by rw [<- hf x]; exact (List.getElem?_eq_some_iff.1 hu).1
 exact ⟨by rw [cell_of_cells h1,h2 k x hk j hj]; exact hu,free_of_cells h1 _⟩
theorem SArr.sl {w:World} {g:Nat} {l:List β} {c:Nat} (hf:∀ x,(f x).length=5) (h:SArr f T w g l) (hc:l.length<=c) (hm:c<=maxLen):Sl w (.slice (some ⟨g,0,none⟩) l.length c) 5 (l.map f):=by
 refine ⟨some ⟨g,0,none⟩,c,by rw [List.length_map],by rw [List.length_map]; exact hc,hm,(fun e=>by cases e),fun _=>⟨g,0,rfl,?_,fun i r hi j u hu=>?_⟩⟩
 ·obtain ⟨cur,h1,_⟩:=h; exact blk_lt h1
 ·rw [List.getElem?_map] at hi
  obtain ⟨x,hx,rfl⟩:=Option.map_eq_some_iff.1 hi
  rw [Nat.zero_add]
  exact (h.cell hf hx hu).1
theorem SOwn.arr {w:World} {base:Nat} {ao:Option Addr} {n c:Nat} {l:List β} (hf:∀ x,(f x).length=5) (h:SOwn f T w base (.slice ao n c) l):(n=0/\l=[]/\(ao=none->c=0)/\c<=maxLen)∨∃ g,ao=some ⟨g,0,none⟩/\base<=g/\n=l.length/\n<=c/\c<=maxLen/\SArr f T w g l:=by
 rcases h.2 with ⟨e,h0⟩ | ⟨g,cap,cur,e,hb,hg,hnc,hcm,hcs,htake⟩
 ·cases e
  exact .inl ⟨rfl,List.eq_nil_of_length_eq_zero h0,fun _=>rfl,Nat.zero_le _⟩
 ·cases e
  refine .inr ⟨g,rfl,hb,rfl,hnc,hcm,cur,hg,fun k x hk j hj=>?_⟩
  have hkl:k<l.length:=(List.getElem?_eq_some_iff.1 hk).1
  have hget:=fm_get (f:=f) (m:=5) hf l k hk j hj
  rw [<- htake,List.getElem?_take,if_pos (by omega),Array.getElem?_toList] at hget
  exact hget
theorem SOwn.sl {w:World} {base:Nat} {v:Value} {l:List β} (hf:∀ x,(f x).length=5) (h:SOwn f T w base v l):Sl w v 5 (l.map f):=by
 obtain ⟨ao,cap,rfl⟩:=h.shape
 rcases h.arr hf with ⟨h0,rfl,hc,hm⟩ | ⟨g,rfl,_,_,h1,h2,h3⟩
 ·exact ⟨ao,cap,rfl,Nat.zero_le _,hm,hc,fun h=>absurd h (Nat.lt_irrefl 0)⟩
 ·exact h3.sl hf h1 h2
end
abbrev RT:=RowV × Value
def cRT (y:RT):List Value:=cR y.1 y.2
theorem cRT_len (x:RT):(cRT x).length=5:=rfl
def blOf:Value->Option Nat
 | .slice (some a) _ _=>some a.block
 | .pointer (some a)=>some a.block
 | _=>none
theorem blOf_own {v:Value} {ao:Option Addr} {n c:Nat} (h:v=.slice ao n c):blOf v=v.ownBlock:=by
 subst h
 cases ao <;> rfl
def Asunder (u v:Value):Prop:=∀ g,blOf u=some g->blOf v=some g->False
theorem Asunder.undef_left (v:Value):Asunder undef v:=fun g h=>by cases h
theorem Asunder.symm {u v:Value} (h:Asunder u v):Asunder v u:=fun g h1 h2=>h g h2 h1
structure Half (B:Nat) (y:RT) (oa:Option (List VarV)) (ob:Option (List RT)) (c d:Bool) (w5 w:World) (vA vB vC vD:Value):Prop where
 ext:XF w5 w
 base:B<=w5.heap.size
 old:w5.heap.size<=B
 a:∀ l,oa=some l->SOwn cV 63 w B vA l
 b:∀ l,ob=some l->SOwn cRT 58 w B vB l
 c:c=true->∃ g,vC=.slice (some ⟨g,0,none⟩) 1 1/\SArr cRT 58 w g [y]
 d:d=true->∃ g,vD=.pointer (some ⟨g,0,none⟩)/\B<=g/\blk w g=some (.cells #[.slice none 0 0,.slice none 0 0] 25 (0,0))
 lA:∀ g,blOf vA=some g->g<w.heap.size
 lB:∀ g,blOf vB=some g->g<w.heap.size
 lC:∀ g,blOf vC=some g->g<w.heap.size
 lD:∀ g,blOf vD=some g->g<w.heap.size
 ab:Asunder vA vB
 ac:Asunder vA vC
 ad:Asunder vA vD
 bc:Asunder vB vC
 bd:Asunder vB vD
 cd:Asunder vC vD
theorem Half.start (y:RT) (w5:World):Half w5.heap.size y none none false false w5 w5 undef undef undef undef :=
 ⟨Ext.refl _ _,Nat.le_refl _,Nat.le_refl _,(fun l h=>by cases h),(fun l h=>by cases h),(fun h=>by cases h),(fun h=>by cases h),(fun g h=>by cases h),(fun g h=>by cases h),(fun g h=>by cases h),(fun g h=>by cases h),Asunder.undef_left _,Asunder.undef_left _,Asunder.undef_left _,Asunder.undef_left _,Asunder.undef_left _,Asunder.undef_left _⟩
section
variable {B:Nat} {y:RT} {oa:Option (List VarV)} {ob:Option (List RT)} {c d:Bool} {w5 w w':World} {vA vB vC vD:Value}
theorem apart_new {v:Value} {u:Value} {g:Nat} (hu:blOf u=some g) (hl:∀ k,blOf v=some k->k<g):Asunder u v:=fun k h1 h2=>by
 rw [hu] at h1
 cases h1
 exact absurd (hl g h2) (Nat.lt_irrefl g)
theorem Half.keep (h:Half B y oa ob c d w5 w vA vB vC vD) (hx:XF w w'):Half B y oa ob c d w5 w' vA vB vC vD :=
 ⟨h.ext.trans hx,h.base,h.old,fun l e=>(h.a l e).keep hx,fun l e=>(h.b l e).keep hx,fun e=>(by obtain ⟨g,h1,h2⟩:=h.c e; exact ⟨g,h1,h2.keep hx⟩),fun e=>(by obtain ⟨g,h1,h2,h3⟩:=h.d e; exact ⟨g,h1,h2,blk_keep h3 hx⟩),
  fun g e=>Nat.lt_of_lt_of_le (h.lA g e) hx.size,fun g e=>Nat.lt_of_lt_of_le (h.lB g e) hx.size,fun g e=>Nat.lt_of_lt_of_le (h.lC g e) hx.size,fun g e=>Nat.lt_of_lt_of_le (h.lD g e) hx.size,h.ab,h.ac,h.ad,h.bc,h.bd,h.cd⟩
theorem Half.heap (h:Half B y oa ob c d w5 w vA vB vC vD):B<=w.heap.size:=by have:=h.ext.size; have:=h.base; omega
theorem Half.allocB (h:Half B y oa none c d w5 w vA vB vC vD):Half B y oa (some []) c d w5 (w.alloc (.cells #[] 58)) vA (.slice (some ⟨w.heap.size,0,none⟩) 0 0) vC vD:=by
 have k:=h.keep ((Ext.refl (fun _=>False) w).alloc (.cells #[] 58))
 exact ⟨k.ext,k.base,k.old,k.a,fun l e=>(by cases e; exact SOwn.empty (blk_alloc_at _ _) h.heap),k.c,k.d,k.lA,fun g e=>(by cases e; simp),k.lC,k.lD,(apart_new rfl h.lA).symm,k.ac,k.ad,apart_new rfl h.lC,apart_new rfl h.lD,k.cd⟩
theorem Half.allocC (h:Half B y oa ob false d w5 w vA vB vC vD):Half B y oa ob true d w5 (w.alloc (.cells (cRT y).toArray 58)) vA vB (.slice (some ⟨w.heap.size,0,none⟩) 1 1) vD:=by
 have k:=h.keep ((Ext.refl (fun _=>False) w).alloc (.cells (cRT y).toArray 58))
 refine ⟨k.ext,k.base,k.old,k.a,k.b,fun _=>⟨_,rfl,_,blk_alloc_at _ _,fun i x hi j hj=>?_⟩,k.d,k.lA,k.lB,fun g e=>(by cases e; simp),k.lD,k.ab,(apart_new rfl h.lA).symm,k.ad,(apart_new rfl h.lB).symm,k.bd,apart_new rfl h.lD⟩
 match i,hi with
 | 0,hi=>cases hi; simp
theorem Half.allocD (h:Half B y oa ob c false w5 w vA vB vC vD):Half B y oa ob c true w5 (w.alloc (.cells #[.slice none 0 0,.slice none 0 0] 25)) vA vB vC (.pointer (some ⟨w.heap.size,0,none⟩)):=by
 have k:=h.keep ((Ext.refl (fun _=>False) w).alloc (.cells #[.slice none 0 0,.slice none 0 0] 25))
 exact ⟨k.ext,k.base,k.old,k.a,k.b,k.c,fun _=>⟨_,rfl,h.heap,blk_alloc_at _ _⟩,k.lA,k.lB,k.lC,fun g e=>(by cases e; simp),k.ab,k.ac,(apart_new rfl h.lA).symm,k.bc,(apart_new rfl h.lB).symm,(apart_new rfl h.lC).symm⟩
theorem apart_grown {v v' u:Value} {ao:Option Addr} {n cc:Nat} {ao':Option Addr} {n' cc':Nat} (hv:v=.slice ao n cc) (hv':v'=.slice ao' n' cc') (h:Asunder v u) (hl:∀ k,blOf u=some k->k<w.heap.size) (hg:v'.ownBlock=v.ownBlock∨v'.ownBlock=some w.heap.size):Asunder v' u:=fun g h1 h2=>by
 rw [blOf_own hv'] at h1
 rcases hg with e | e
 ·rw [e,<- blOf_own hv] at h1; exact h g h1 h2
 ·rw [e] at h1; cases h1; exact absurd (hl _ h2) (Nat.lt_irrefl _)
theorem not_own {v u:Value} {ao:Option Addr} {n cc:Nat} (hv:v=.slice ao n cc) (h:Asunder v u) {g:Nat} (hu:blOf u=some g):¬ v.ownBlock=some g:=fun e=>h g (by rw [blOf_own hv]; exact e) hu
theorem Half.growB {l l':List RT} {v':Value} (h:Half B y oa (some l) c d w5 w vA vB vC vD) (hn:SOwn cRT 58 w' B v' l') (hx:Ext (fun k=>vB.ownBlock=some k) w w') (hg:v'.ownBlock=vB.ownBlock∨v'.ownBlock=some w.heap.size):Half B y oa (some l') c d w5 w' vA v' vC vD:=by
 have hB:=h.b l rfl
 obtain ⟨ao,cap,eB⟩:=hB.shape
 obtain ⟨ao',cap',eB'⟩:=hn.shape
 have hlt:=hB.lt
 refine ⟨h.ext.own hx (fun k e=>by have:=(hlt k e).1; have:=h.old; omega),h.base,h.old,fun l'' e=>?_,fun l'' e=>(by cases e; exact hn),fun e=>?_,fun e=>?_,fun g e=>Nat.lt_of_lt_of_le (h.lA g e) hx.size,fun g e=>(hn.lt g (by rw [<- blOf_own eB']; exact e)).2,fun g e=>Nat.lt_of_lt_of_le (h.lC g e) hx.size,fun g e=>Nat.lt_of_lt_of_le (h.lD g e) hx.size,
  (apart_grown eB eB' h.ab.symm h.lA hg).symm,h.ac,h.ad,apart_grown eB eB' h.bc h.lC hg,apart_grown eB eB' h.bd h.lD hg,h.cd⟩
 ·have hA:=h.a l'' e
  obtain ⟨bo,bc,eA⟩:=hA.shape
  exact ownsRow_ext hA hx (fun g hg' e'=>not_own eB h.ab.symm (g:=g) (by rw [blOf_own eA]; exact hg') e')
 ·obtain ⟨g,e1,e2⟩:=h.c e
  exact ⟨g,e1,e2.past hx (not_own eB h.bc (by rw [e1]; rfl))⟩
 ·obtain ⟨g,e1,e2,e3⟩:=h.d e
  exact ⟨g,e1,e2,(hx.blk (blk_lt e3) (not_own eB h.bd (by rw [e1]; rfl))).trans e3⟩
end
theorem Tryz.infoRow:(Tryz.prog.info? 58).map (fun i=>(i.zero,i.size,i.bytes))=some (some (.agg #[.string ⟨#[]⟩,.int .i64 0,.int .i64 0,.slice none 0 0,.int .i64 0]),5,64):=by kernel_rfl
section
variable {β:Type} {f:β->List Value} {T ts:TypeId}
theorem Sl.lies {w:World} {ao:Option Addr} {n c:Nat} {l:List β} (hf:∀ x,(f x).length=5) (h:Sl w (.slice ao n c) 5 (l.map f)):n=l.length/\(ao=none->c=0)/\Lies w ao l.length (l.flatMap f):=by
 obtain ⟨ao',c',e,h1,h2,h3,h4⟩:=h
 cases e
 rw [List.length_map] at h4 ⊢
 refine ⟨rfl,h3,?_⟩
 by_cases h0:l.length=0
 ·exact .inl h0
 ·obtain ⟨b,off,rfl,hb,hc⟩:=h4 (by omega)
  refine .inr ⟨_,rfl,fun j u hu=>?_⟩
  have hj:j<l.length*5:=by
   have:=(List.getElem?_eq_some_iff.1 hu).1
   rwa [fm_length hf] at this
  have hi:j / 5<l.length:=by omega
  have hr:j % 5<5:=Nat.mod_lt _ (by decide)
  have hg:=fm_get (f:=f) (m:=5) hf l (j / 5) (List.getElem?_eq_getElem hi) (j % 5) hr
  rw [show j / 5*5+j % 5=j from by omega] at hg
  have:=hc (j / 5) _ (by rw [List.getElem?_map,List.getElem?_eq_getElem hi]; rfl) (j % 5) u (hg.symm.trans hu)
  rw [show off+j / 5*5+j % 5=off+j from by omega] at this
  simpa [Addr.add_lit] using this
theorem step_append_sown {w:World} {ops:Array Oper} {o:Oper} {a:Act} {K:Act->World->Prop} {Q:Exit->Act->World->Prop} {E:Prop} {z:Value} {bytes:Nat} (hf:∀ x,(f x).length=5) (l2:List β) (h1:∀ x ∈ l2,∀ u ∈ f x,u.oneCell'=true) (ht:Tryz.prog.underlying ts=some (.slice T)) (hi:(Tryz.prog.info? T).map (fun i=>(i.zero,i.size,i.bytes))=some (some z,5,bytes)) (hz:z.cells.size=5) (hbs:bytes<=1000) (hgd:o.guard=none) (s x:Operand)
  (ho:o.op=.call { callee:=.builtin .append,args:=#[s,x],argTypes:=#[ts,ts] })
  (base:Nat) (v:Value) (l:List β) (hs:a.eval s=v) (hown:SOwn f T w base v l) (ao:Option Addr) (n c:Nat) (hsl:Sl w (.slice ao n c) 5 (l2.map f)) (hx:a.eval x=.slice ao n c) (hl:l.length+l2.length<=1000) (hbase:base<=w.heap.size)
  (h:∀ v' w',SOwn f T w' base v' (l++l2)->Ext (fun k=>v.ownBlock=some k) w w'->(v'.ownBlock=v.ownBlock∨v'.ownBlock=some w.heap.size)->K (a.put o.dst v') w') :
  if Region.wanted o (yielded ops a.tmps)=true then Oper.wp Tryz.prog o a w K Q else E:=by
 obtain ⟨i0,hi0,hz0,hz1,hz2⟩:=info_parts hi
 obtain ⟨rfl,hc,hnews⟩:=hsl.lies hf
 refine step_append_any hgd s x ts ho base T i0 z 5 bytes ht hi0 hz0 hz1 hz2 hz (by decide) v l.length (l.flatMap f) hs hown ao l2.length c hc (l2.flatMap f) hx (fm_length hf l2) hnews (fun u hu=>?_) (by unfold maxLen; omega) (Nat.le_trans (Nat.mul_le_mul hl hbs) (by decide)) hbase (fun v' w' g1 g2 g3=>h v' w' ?_ ?_ g3)
 ·obtain ⟨x,hm,hu⟩:=List.mem_flatMap.1 hu
  exact h1 x hm u hu
 ·unfold SOwn
  rw [List.length_append,List.flatMap_append]
  exact g1
 ·exact (Ext.refl (fun k=>v.ownBlock=some k) w).grown g2 (fun k hk _=>hk)
end
theorem cRT_one {y:RT} {ao:Option Addr} {n c:Nat} (h:y.2=.slice ao n c):∀ u ∈ cRT y,u.oneCell'=true:=fun u hu=>by
 simp [cRT,cR] at hu
 rcases hu with rfl | rfl | rfl | rfl | rfl <;> first | rfl | (rw [h]; rfl)
theorem Rws.pairs {w:World} {v:Value} {l:List RowV} (h:Rws w v l):∃ prs:List RT,prs.map (·.1)=l/\Sl w v 5 (prs.map cRT)/\∀ y ∈ prs,Tms w y.2 y.1.terms/\RowOk y.1:=by
 obtain ⟨tvs,h1,h2,h3⟩:=h
 refine ⟨l.zip tvs,?_,?_,fun y hy=>?_⟩
 ·rw [List.map_fst_zip (by omega)]
 ·have:(l.zip tvs).map cRT=List.zipWith cR l tvs:=by
   rw [List.zip_eq_zipWith,List.map_zipWith]; rfl
  rw [this]; exact h2
 ·obtain ⟨i,hi,rfl⟩:=List.getElem_of_mem hy
  rw [List.getElem_zip]
  have hl:i<l.length/\i<tvs.length:=by rw [List.length_zip] at hi; omega
  exact h3 i _ _ (List.getElem?_eq_getElem hl.1) (List.getElem?_eq_getElem hl.2)
theorem Rws.ofPairs {w:World} {v:Value} {prs:List RT} (h:Sl w v 5 (prs.map cRT)) (hT:∀ y ∈ prs,Tms w y.2 y.1.terms/\RowOk y.1):Rws w v (prs.map (·.1)):=by
 refine ⟨prs.map (·.2),by simp,?_,fun i r tv hr ht=>?_⟩
 ·have:List.zipWith cR (prs.map (·.1)) (prs.map (·.2))=prs.map cRT:=by
   rw [List.zipWith_map,List.zipWith_self]; rfl
  rw [this]; exact h
 ·rw [List.getElem?_map] at hr ht
  obtain ⟨y,hy,rfl⟩:=Option.map_eq_some_iff.1 hr
  rw [hy] at ht
  cases ht
  exact hT y (List.mem_of_getElem? hy)
theorem rdy_cons {P:Program} {md:Region.Mode} {l:List Oper} {Q:Exit->Act->World->Prop} {S:World->Prop} {fuel:Nat} {listed:Array Bool} {a:Act} {w:World} {i:Nat} {o:Oper} {rs:List Nat} (ho:l[i]?=some o)
  (h:∀ K':Act->World->Prop,Shut (∀ a w,S w->(S w->wpAnyH P md l.toArray Q S fuel (listed.setIfInBounds i true) a w)->K' a w)->if Region.wanted o (yielded l.toArray a.tmps)=true then Oper.wp P o a w K' Q else K' (a.put o.dst undef) w)
  (hs:AllReadyH P md l.toArray Q S fuel listed a w rs):AllReadyH P md l.toArray Q S fuel listed a w (i :: rs):=AllReadyH.cons (by simpa using ho) h hs
theorem held_ind {P:Program} {md:Region.Mode} {l:List Oper} {Q:Exit->Act->World->Prop} {S:World->Prop} (T:Act->Nat->Array Bool->Act->World->Prop) (a0:Act)
  (h0:∀ listed a w,¬ T a0 0 listed a w)
  (hT:∀ fuel,(∀ m,m<=fuel->∀ listed a w,T a0 m listed a w->wpAnyH P md l.toArray Q S m listed a w)->∀ listed a w,T a0 (fuel+1) listed a w->wpAnyH P md l.toArray Q S (fuel+1) listed a w)
  {fuel:Nat} {listed:Array Bool} {w:World} (h:T a0 fuel listed a0 w):wpAnyH P md l.toArray Q S fuel listed a0 w:=by
 have key:∀ n m:Nat,m<=n->∀ listed a w,T a0 m listed a w->wpAnyH P md l.toArray Q S m listed a w:=fun n=>by
  induction n with
  | zero =>
   intro m hm listed a w h
   obtain rfl:m=0:=by omega
   exact absurd h (h0 listed a w)
  | succ n ih =>
   intro m hm listed a w h
   by_cases e:m<=n
   ·exact ih m e listed a w h
   ·obtain rfl:m=n+1:=by omega
    exact hT n ih listed a w h
 exact key fuel fuel (Nat.le_refl _) _ _ _ h
theorem prg_of {w:World} {va vb:Value} {vars:List VarV} {l:List RT} (h1:Sl w va 5 (vars.map cV)) (h2:∀ x ∈ vars,VarOk x) (h3:Sl w vb 5 (l.map cRT)) (h4:∀ y ∈ l,Tms w y.2 y.1.terms/\RowOk y.1):IsPrg w (.agg #[va,vb]) ⟨vars,l.map (·.1)⟩:=⟨_,_,rfl,⟨h1,h2⟩,Rws.ofPairs h3 h4⟩
theorem sign_ge0 (q:Rat):0<=q.num.sign↔0<=q:=by
 rw [<- Rat.not_lt (a:=q),<- sign_lt]
 omega
theorem Solve_six (w:World) (pv:Value) (p:ProgV) (hp:IsPrg w pv p) (hn:p.vars.length<=6) (hm:p.rows.length<=100):Calls Tryz.prog 37 #[pv] w (SolvePost w p 1200):=by
 have h1:(p.vars.length+1)*(168+8)<=7*(168+8):=Nat.mul_le_mul_right _ (by omega)
 have h2:(p.vars.length+1)*(168+1)<=7*(168+1):=Nat.mul_le_mul_right _ (by omega)
 have h3:p.vars.length*(168+6)<=6*(168+6):=Nat.mul_le_mul_right _ hn
 exact Solve_any w pv p 168 1200 hp (fun hv=>bndAll6 hv hn) (by omega) (by omega) (by omega) (by omega) (by omega) (by omega) (by omega) (by omega)
theorem rows_cases {p:ProgV} {r:RowV} {a b:OutV} {e f:Int} (hv:validB p=true) (hr:rowB p.vars.length r=true) (hm:p.rows.length<4000) (ha:SolveV p a e) (hb:SolveV (p.more r) b f):e=0/\f=0/\((a.kind=1/\b.kind=1)∨(a.kind=0/\b.kind=0/\a.val<=b.val)∨(a.kind=0/\b.kind=1)∨a.kind=2):=by
 obtain ⟨h1,h2,h3⟩:=ha.chk hv
 obtain ⟨h4,h5,h6⟩:=hb.chk (valid_more hv hr hm)
 obtain ⟨k1,k2,k3⟩:=rows_law hv h2 h3 h5 h6
 refine ⟨h1,h4,?_⟩
 rcases k3 with h | h | h | ⟨h,h'⟩
 ·exact .inr (.inr (.inr h))
 ·exact .inl ⟨h,k1 h⟩
 ·rcases (show a.kind=0∨a.kind=1∨a.kind=2 by omega) with g | g | g
  ·exact .inr (.inr (.inl ⟨g,h⟩))
  ·exact .inl ⟨g,h⟩
  ·exact .inr (.inr (.inr g))
 ·exact .inr (.inl ⟨h,h',k2 h h'⟩)
theorem sign_le0 (q:Rat):q.num.sign<=0↔q<=0:=by
 have h:=sign_ge0 (-q)
 rw [Rat.neg_num,Int.sign_neg] at h
 constructor
 ·intro h1
  have:=h.1 (by omega)
  grind
 ·intro h1
  have:=h.2 (by grind)
  omega
theorem rows_core (w:World) (pv:Value) (p:ProgV) (r:RowV) (tv:Value) (hp:IsPrg w pv p) (ht:Tms w tv r.terms) (hok:RowOk r):Calls Tryz.prog 13 #[pv,.agg (cR r tv).toArray] w (BoolPost w true):=by
 obtain ⟨vo,vn,vc,ro,rn,rc,rfl⟩:=hp.slices5
 obtain ⟨ta,tc,rfl,-,htn,-⟩:=ht.shape
 have HLn:=bH (show p.vars.length=vn/\p.rows.length=rn from by
  obtain ⟨vv,rv,e,h,h2⟩:=hp
  cases e
  obtain ⟨_,_,e,_⟩:=h.shape
  obtain ⟨_,_,e2,_⟩:=h2.shape
  cases e; cases e2; exact ⟨rfl,rfl⟩)
 have hvn:vn<=9223372036854775807:=by
  obtain ⟨vv,rv,e,h,h2⟩:=hp
  cases e
  obtain ⟨_,_,e,_,h3,_⟩:=h.shape
  cases e; exact h3
 obtain ⟨b1,b2,hx⟩:blk ((w.alloc (.cells #[.slice vo vn vc,.slice ro rn rc] 25)).alloc (.cells (cR r (.slice ta r.terms.length tc)).toArray 58)) w.heap.size=some (.cells #[.slice vo vn vc,.slice ro rn rc] 25 (0,0))/\blk ((w.alloc (.cells #[.slice vo vn vc,.slice ro rn rc] 25)).alloc (.cells (cR r (.slice ta r.terms.length tc)).toArray 58)) (w.heap.size+1)=some (.cells (cR r (.slice ta r.terms.length tc)).toArray 58 (0,0))/\XF w ((w.alloc (.cells #[.slice vo vn vc,.slice ro rn rc] 25)).alloc (.cells (cR r (.slice ta r.terms.length tc)).toArray 58)) :=
  ⟨(blk_alloc_past _ _ _ (by simp)).trans (blk_alloc_at _ _),blk_alloc_at' _ _ _ (by simp [World.size_alloc]),((Ext.refl (fun _=>False) w).alloc _).alloc _⟩
 have HB:=bH (bI (hp.keep hx) (bI b1 (bI b2 hx)))
 have HT:=bH (bI (ht.keep hx) hok)
 clear hp ht hok b1 b2 hx
 obtain ⟨r0,hr0⟩:∃ r0,r=r0:=⟨_,rfl⟩
 have HRr:=bH hr0
 obtain ⟨nm,gr,kd,tms,bd⟩:=r
 obtain ⟨tl,htl⟩:∃ tl,tms.length=tl:=⟨_,rfl⟩
 have HTl:=bH htl
 unfold cR at HB HT ⊢
 dsimp only at HB HT ⊢ htn
 rw [htl] at HB HT ⊢ htn
 clear htl hr0
 rw [show ([.string nm,.int .i64 gr,.int .i64 kd,.slice ta tl tc,.int .i64 bd]:List Value).toArray=#[.string nm,.int .i64 gr,.int .i64 kd,.slice ta tl tc,.int .i64 bd] from rfl] at HB HT ⊢
 go_enter Tryz.func13,Tryz.ntmps13
 go_upto_region 1 with fail
 generalize (w.alloc (.cells #[.slice vo vn vc,.slice ro rn rc] 25)).alloc (.cells #[.string nm,.int .i64 gr,.int .i64 kd,.slice ta tl tc,.int .i64 bd] 58)=w1 at *
 obtain ⟨pb,hpb⟩:∃ q,w.heap.size=q:=⟨_,rfl⟩
 obtain ⟨rb,hrb⟩:∃ q,pb+1=q:=⟨_,rfl⟩
 rw [hpb,hrb] at HB ⊢
 clear hpb hrb
 have p0:=cellq HB.out.2.1 0 rfl
 have p1:=cellq HB.out.2.1 1 rfl
 have r0:=cellq HB.out.2.2.1 0 rfl
 have r1:=cellq HB.out.2.2.1 1 rfl
 have r2:=cellq HB.out.2.2.1 2 rfl
 have r3:=cellq HB.out.2.2.1 3 rfl
 have r4:=cellq HB.out.2.2.1 4 rfl
 have HF:=bH (fun W (hW:XF w1 W)=>FewP_any W (.agg #[.slice vo vn vc,.slice ro rn rc]) p 6 8 (by decide) (by decide) (HB.out.1.keep hW))
 have HV:=bH (fun W (hW:XF w1 W)=>Valid4_any W (.agg #[.slice vo vn vc,.slice ro rn rc]) p (HB.out.1.keep hW))
 have HR:=bH (fun W (hW:XF w1 W)=>by
  have h:=ValidRow_any W vn hvn ⟨nm,gr,kd,tms,bd⟩ ta tc HT.out.2 (by have h:=HT.out.1.keep hW; rw [<- HTl.out] at h; exact h)
  dsimp only at h
  rw [HTl.out] at h
  exact h)
 obtain ⟨fb,hfb⟩:∃ fb,fewP p 6 8=fb:=⟨_,rfl⟩
 rw [hfb] at HF
 have HFb:=bH hfb
 clear hfb
 cases fb with
 | false =>
  go_upto_region 2 with (first | (go_at_call 38; refine (awake5_any _).mono ?_; rintro q2 w2 ⟨rfl,hx2⟩; replace p0:=cell_keep p0 hx2; replace p1:=cell_keep p1 hx2; replace r0:=cell_keep r0 hx2; replace r1:=cell_keep r1 hx2; replace r2:=cell_keep r2 hx2; replace r3:=cell_keep r3 hx2; replace r4:=cell_keep r4 hx2) | (go_at_call 39; refine (HF.out _ hx2).mono ?_; rintro q3 w3 ⟨rfl,hx3⟩; replace p0:=cell_keep p0 hx3; replace p1:=cell_keep p1 hx3; replace r0:=cell_keep r0 hx3; replace r1:=cell_keep r1 hx3; replace r2:=cell_keep r2 hx3; replace r3:=cell_keep r3 hx3; replace r4:=cell_keep r4 hx3))
  go_wp2_with (go_at_call 38; refine (awake5_any _).mono ?_; rintro r8 w8 ⟨rfl,hx8⟩)
  go_ret
  exact ⟨rfl,(HB.out.2.2.2.trans (hx2.trans hx3)).trans hx8⟩
 | true =>
 obtain ⟨vb,hvb⟩:∃ vb,validB p=vb:=⟨_,rfl⟩
 rw [hvb] at HV
 have HVb:=bH hvb
 clear hvb
 cases vb with
 | false =>
  go_upto_region 2 with (first | (go_at_call 38; refine (awake5_any _).mono ?_; rintro q2 w2 ⟨rfl,hx2⟩; replace p0:=cell_keep p0 hx2; replace p1:=cell_keep p1 hx2; replace r0:=cell_keep r0 hx2; replace r1:=cell_keep r1 hx2; replace r2:=cell_keep r2 hx2; replace r3:=cell_keep r3 hx2; replace r4:=cell_keep r4 hx2) | (go_at_call 39; refine (HF.out _ hx2).mono ?_; rintro q3 w3 ⟨rfl,hx3⟩; replace p0:=cell_keep p0 hx3; replace p1:=cell_keep p1 hx3; replace r0:=cell_keep r0 hx3; replace r1:=cell_keep r1 hx3; replace r2:=cell_keep r2 hx3; replace r3:=cell_keep r3 hx3; replace r4:=cell_keep r4 hx3) | (go_at_call 36; refine (HV.out _ (hx2.trans hx3)).mono ?_; rintro q5 w5 ⟨rfl,hx5⟩; replace p0:=cell_keep p0 hx5; replace p1:=cell_keep p1 hx5; replace r0:=cell_keep r0 hx5; replace r1:=cell_keep r1 hx5; replace r2:=cell_keep r2 hx5; replace r3:=cell_keep r3 hx5; replace r4:=cell_keep r4 hx5))
  go_wp2_with (go_at_call 38; refine (awake5_any _).mono ?_; rintro r8 w8 ⟨rfl,hx8⟩)
  go_ret
  exact ⟨rfl,(HB.out.2.2.2.trans ((hx2.trans hx3).trans hx5)).trans hx8⟩
 | true =>
 by_cases t6:6<tl
 ·have t6':(6:Int)<(tl:Int):=by omega
  go_upto_region 2 with (first | (go_at_call 38; refine (awake5_any _).mono ?_; rintro q2 w2 ⟨rfl,hx2⟩; replace p0:=cell_keep p0 hx2; replace p1:=cell_keep p1 hx2; replace r0:=cell_keep r0 hx2; replace r1:=cell_keep r1 hx2; replace r2:=cell_keep r2 hx2; replace r3:=cell_keep r3 hx2; replace r4:=cell_keep r4 hx2) | (go_at_call 39; refine (HF.out _ hx2).mono ?_; rintro q3 w3 ⟨rfl,hx3⟩; replace p0:=cell_keep p0 hx3; replace p1:=cell_keep p1 hx3; replace r0:=cell_keep r0 hx3; replace r1:=cell_keep r1 hx3; replace r2:=cell_keep r2 hx3; replace r3:=cell_keep r3 hx3; replace r4:=cell_keep r4 hx3) | (go_at_call 36; refine (HV.out _ (hx2.trans hx3)).mono ?_; rintro q5 w5 ⟨rfl,hx5⟩; replace p0:=cell_keep p0 hx5; replace p1:=cell_keep p1 hx5; replace r0:=cell_keep r0 hx5; replace r1:=cell_keep r1 hx5; replace r2:=cell_keep r2 hx5; replace r3:=cell_keep r3 hx5; replace r4:=cell_keep r4 hx5))
  go_wp2_with (go_at_call 38; refine (awake5_any _).mono ?_; rintro r8 w8 ⟨rfl,hx8⟩)
  go_ret
  exact ⟨rfl,(HB.out.2.2.2.trans ((hx2.trans hx3).trans hx5)).trans hx8⟩
 have t6':¬ (6:Int)<(tl:Int):=by omega
 obtain ⟨wb,hwb⟩:∃ wb,rowB vn ⟨nm,gr,kd,tms,bd⟩=wb:=⟨_,rfl⟩
 rw [hwb] at HR
 have HWb:=bH hwb
 clear hwb
 cases wb with
 | false =>
  go_upto_region 2 with (first | (go_at_call 38; refine (awake5_any _).mono ?_; rintro q2 w2 ⟨rfl,hx2⟩; replace p0:=cell_keep p0 hx2; replace p1:=cell_keep p1 hx2; replace r0:=cell_keep r0 hx2; replace r1:=cell_keep r1 hx2; replace r2:=cell_keep r2 hx2; replace r3:=cell_keep r3 hx2; replace r4:=cell_keep r4 hx2) | (go_at_call 39; refine (HF.out _ hx2).mono ?_; rintro q3 w3 ⟨rfl,hx3⟩; replace p0:=cell_keep p0 hx3; replace p1:=cell_keep p1 hx3; replace r0:=cell_keep r0 hx3; replace r1:=cell_keep r1 hx3; replace r2:=cell_keep r2 hx3; replace r3:=cell_keep r3 hx3; replace r4:=cell_keep r4 hx3) | (go_at_call 36; refine (HV.out _ (hx2.trans hx3)).mono ?_; rintro q5 w5 ⟨rfl,hx5⟩; replace p0:=cell_keep p0 hx5; replace p1:=cell_keep p1 hx5; replace r0:=cell_keep r0 hx5; replace r1:=cell_keep r1 hx5; replace r2:=cell_keep r2 hx5; replace r3:=cell_keep r3 hx5; replace r4:=cell_keep r4 hx5) | (go_at_call 34; refine (HR.out _ ((hx2.trans hx3).trans hx5)).mono ?_; rintro q6 w6 ⟨rfl,hx6⟩; replace p0:=cell_keep p0 hx6; replace p1:=cell_keep p1 hx6; replace r0:=cell_keep r0 hx6; replace r1:=cell_keep r1 hx6; replace r2:=cell_keep r2 hx6; replace r3:=cell_keep r3 hx6; replace r4:=cell_keep r4 hx6))
  go_wp2_with (go_at_call 38; refine (awake5_any _).mono ?_; rintro r8 w8 ⟨rfl,hx8⟩)
  go_ret
  exact ⟨rfl,(HB.out.2.2.2.trans (((hx2.trans hx3).trans hx5).trans hx6)).trans hx8⟩
 | true =>
 go_upto_region 3 with (first | (go_at_call 38; refine (awake5_any _).mono ?_; rintro q2 w2 ⟨rfl,hx2⟩; replace p0:=cell_keep p0 hx2; replace p1:=cell_keep p1 hx2; replace r0:=cell_keep r0 hx2; replace r1:=cell_keep r1 hx2; replace r2:=cell_keep r2 hx2; replace r3:=cell_keep r3 hx2; replace r4:=cell_keep r4 hx2) | (go_at_call 39; refine (HF.out _ hx2).mono ?_; rintro q3 w3 ⟨rfl,hx3⟩; replace p0:=cell_keep p0 hx3; replace p1:=cell_keep p1 hx3; replace r0:=cell_keep r0 hx3; replace r1:=cell_keep r1 hx3; replace r2:=cell_keep r2 hx3; replace r3:=cell_keep r3 hx3; replace r4:=cell_keep r4 hx3) | (go_at_call 36; refine (HV.out _ (hx2.trans hx3)).mono ?_; rintro q5 w5 ⟨rfl,hx5⟩; replace p0:=cell_keep p0 hx5; replace p1:=cell_keep p1 hx5; replace r0:=cell_keep r0 hx5; replace r1:=cell_keep r1 hx5; replace r2:=cell_keep r2 hx5; replace r3:=cell_keep r3 hx5; replace r4:=cell_keep r4 hx5) | (go_at_call 34; refine (HR.out _ ((hx2.trans hx3).trans hx5)).mono ?_; rintro q6 w6 ⟨rfl,hx6⟩; replace p0:=cell_keep p0 hx6; replace p1:=cell_keep p1 hx6; replace r0:=cell_keep r0 hx6; replace r1:=cell_keep r1 hx6; replace r2:=cell_keep r2 hx6; replace r3:=cell_keep r3 hx6; replace r4:=cell_keep r4 hx6))
 have HX7:=bH (((hx2.trans hx3).trans hx5).trans hx6)
 clear hx2 hx3 hx5 hx6 HF HV HR
 obtain ⟨-,hn6,hm8⟩:=few_parts HFb.out
 rw [HLn.out.2] at hm8
 have hsl0:=HB.out.1.keep HX7.out
 obtain ⟨vv',rv',e,hvs,hrs⟩:=hsl0
 cases e
 obtain ⟨prs,hpr1,hslR0,hprT⟩:=hrs.pairs
 have hpl:prs.length=rn:=by rw [<- HLn.out.2,<- hpr1,List.length_map]
 have hone:∀ x ∈ prs,∀ u ∈ cRT x,u.oneCell'=true:=fun x hx=>by
  obtain ⟨ao,c,e,_⟩:=(hprT x hx).1.shape
  exact cRT_one e
 obtain ⟨y0,hy0⟩:∃ y0:RT,y0=(⟨nm,gr,kd,tms,bd⟩,.slice ta tl tc):=⟨_,rfl⟩
 have hone1:∀ x ∈ [y0],∀ u ∈ cRT x,u.oneCell'=true:=fun x hx=>by
  rw [List.mem_singleton.1 hx,hy0]
  exact cRT_one rfl
 have hy0c:(cRT y0).toArray=#[.string nm,.int .i64 gr,.int .i64 kd,.slice ta tl tc,.int .i64 bd]:=by rw [hy0]; rfl
 have HY0:=bH hy0
 have HVs:=bH hvs
 have HPr:=bH (bI hpr1 (bI hprT hpl))
 clear hy0 hvs hrs
 go_cut [5] (fun v5 wx=>∃ gb vB,v5=.pointer (some ⟨gb,0,none⟩)/\blk wx gb=some (.cells #[.slice vo vn vc,vB] 25 (0,0))/\SOwn cRT 58 wx w6.heap.size vB (prs++[y0])/\XF w6 wx)
 case rest =>
  obtain ⟨gb,vB,rfl,hgb,hB,hxc⟩:=hcut
  obtain ⟨qo,qc,rfl⟩:=hB.shape
  obtain ⟨ql,hql⟩:∃ ql,(prs++[y0]).length=ql:=⟨_,rfl⟩
  have hQP:IsPrg wc (.agg #[.slice vo vn vc,.slice qo (prs++[y0]).length qc]) (p.more ⟨nm,gr,kd,tms,bd⟩):=by
   have h:=prg_of (w:=wc) (HVs.out.keep hxc).1 (HVs.out.keep hxc).2 (hB.sl cRT_len) (fun y hy=>by
    rcases List.mem_append.1 hy with h | h
    ·exact ⟨(HPr.out.2.1 y h).1.keep hxc,(HPr.out.2.1 y h).2⟩
    ·rw [List.mem_singleton.1 h,HY0.out]
     exact ⟨HT.out.1.keep (HX7.out.trans hxc),HT.out.2⟩)
   rw [List.map_append,HPr.out.1,show [y0].map (·.1)=[⟨nm,gr,kd,tms,bd⟩] by rw [HY0.out]; rfl] at h
   exact h
  rw [hql] at hgb hQP
  have HQ:=bH (bI hQP (bI hgb hxc))
  clear hB hql hQP hone hone1 hy0c hslR0 hpr1 hprT hpl hgb
  have HX9:=bH (HX7.out.trans hxc)
  have p0:=cellq (blk_keep HB.out.2.1 HX9.out) 0 rfl
  have p1:=cellq (blk_keep HB.out.2.1 HX9.out) 1 rfl
  have z0:=cellq HQ.out.2.1 0 rfl
  have z1:=cellq HQ.out.2.1 1 rfl
  clear hxc
  have HSoa:=bH (Solve_few wc _ p (HB.out.1.keep HX9.out) HFb.out)
  go_upto_region 5 with (go_at_call 37; refine HSoa.out.mono ?_; rintro r8 w8 ⟨v8,oa,e,rfl,hsv,hfar,hx8⟩; obtain rfl:e=0:=(hsv.chk HVb.out).1; obtain ⟨nga,a1a,m1a,c1a,a2a,m2a,c2a,pv5a,mv5a,rv5a,e5a,ho1,ho2,ho3,ho4,ho5⟩:=hfar.now; obtain ⟨poa,pca,rfl,-,-,-⟩:=ho2.shape; obtain ⟨moa,mca,rfl,-,-,-⟩:=ho3.shape; obtain ⟨zoa,zca,rfl,-,-,-⟩:=ho4.shape; subst e5a; have HO:=bH (bI ho1 hx8); have HSva:=bH hsv; replace z0:=cell_keep z0 hx8; replace z1:=cell_keep z1 hx8; clear hsv hfar hx8 ho1 ho2 ho3 ho4 ho5; generalize hkd:oa.kind=kda; have HKda:=bH hkd; clear hkd; generalize oa.pt.length=pna; generalize oa.mu.length=mna; generalize oa.ray.length=zna)
  have hxa:=(Ext.refl (fun _=>False) w8).alloc (.cells #[.int .i64 kda,.bool nga,.slice a1a m1a c1a,.slice a2a m2a c2a,.slice poa pna pca,.slice moa mna mca,.slice zoa zna zca] 34)
  have HWa:=bH (bI (blk_alloc_at w8 (.cells #[.int .i64 kda,.bool nga,.slice a1a m1a c1a,.slice a2a m2a c2a,.slice poa pna pca,.slice moa mna mca,.slice zoa zna zca] 34)) (bI (HO.out.2.trans hxa) (bI (HO.out.1.1.keep hxa) HO.out.1.2)))
  replace z0:=cell_keep z0 hxa
  replace z1:=cell_keep z1 hxa
  clear hxa HO
  generalize w8.alloc (.cells #[.int .i64 kda,.bool nga,.slice a1a m1a c1a,.slice a2a m2a c2a,.slice poa pna pca,.slice moa mna mca,.slice zoa zna zca] 34)=wa at *
  generalize w8.heap.size=oba at *
  clear p0 p1
  have HSob:=bH (Solve_six wa _ (p.more ⟨nm,gr,kd,tms,bd⟩) (HQ.out.1.keep HWa.out.2.1) (by show p.vars.length<=6; exact hn6) (by rw [more_len,HLn.out.2]; omega))
  go_upto_region 6 with (go_at_call 37; refine HSob.out.mono ?_; rintro r8 w8 ⟨v8,ob,e,rfl,hsv,hfar,hx8⟩; obtain ⟨-,rfl,hlw⟩:=rows_cases HVb.out (by rw [HLn.out.1]; exact HWb.out) (by rw [HLn.out.2]; omega) HSva.out hsv; have HLw:=bH hlw; clear hlw; obtain ⟨ngb,a1b,m1b,c1b,a2b,m2b,c2b,pv5b,mv5b,rv5b,e5b,ho1,ho2,ho3,ho4,ho5⟩:=hfar.now; obtain ⟨pob,pcb,rfl,-,-,-⟩:=ho2.shape; obtain ⟨mob,mcb,rfl,-,-,-⟩:=ho3.shape; obtain ⟨zob,zcb,rfl,-,-,-⟩:=ho4.shape; subst e5b; have HO:=bH (bI ho1 hx8); have HSvb:=bH hsv; clear hsv hfar hx8 ho1 ho2 ho3 ho4 ho5; generalize hkd:ob.kind=kdb; have HKdb:=bH hkd; clear hkd; generalize ob.pt.length=pnb; generalize ob.mu.length=mnb; generalize ob.ray.length=znb)
  have hxa:=(Ext.refl (fun _=>False) w8).alloc (.cells #[.int .i64 kdb,.bool ngb,.slice a1b m1b c1b,.slice a2b m2b c2b,.slice pob pnb pcb,.slice mob mnb mcb,.slice zob znb zcb] 34)
  have HWb:=bH (bI (blk_alloc_at w8 (.cells #[.int .i64 kdb,.bool ngb,.slice a1b m1b c1b,.slice a2b m2b c2b,.slice pob pnb pcb,.slice mob mnb mcb,.slice zob znb zcb] 34)) (bI (HO.out.2.trans hxa) (bI (HO.out.1.1.keep hxa) HO.out.1.2)))
  clear hxa HO
  generalize w8.alloc (.cells #[.int .i64 kdb,.bool ngb,.slice a1b m1b c1b,.slice a2b m2b c2b,.slice pob pnb pcb,.slice mob mnb mcb,.slice zob znb zcb] 34)=wb at *
  generalize w8.heap.size=obb at *
  have hlw:=HLw.out
  rw [HKda.out,HKdb.out] at hlw
  have hbl:=blk_keep HWa.out.1 HWb.out.2.1
  have HVa:=HWa.out.2.2.1.keep HWb.out.2.1
  clear HLw
  rcases hlw with ⟨rfl,rfl⟩ | ⟨rfl,rfl,hle⟩ | ⟨rfl,rfl⟩ | rfl
  ·have g0:=cellq hbl 0 rfl
   have g1:=cellq hbl 1 rfl
   have g2:=cellq hbl 2 rfl
   have g3:=cellq hbl 3 rfl
   have g4:=cellq hbl 4 rfl
   have g5:=cellq hbl 5 rfl
   have g6:=cellq hbl 6 rfl
   have h0:=cellq HWb.out.1 0 rfl
   have h1:=cellq HWb.out.1 1 rfl
   have h2:=cellq HWb.out.1 2 rfl
   have h3:=cellq HWb.out.1 3 rfl
   have h4:=cellq HWb.out.1 4 rfl
   have h5:=cellq HWb.out.1 5 rfl
   have h6:=cellq HWb.out.1 6 rfl
   go_wp2
   go_ret
   exact ⟨rfl,HB.out.2.2.2.trans ((HX9.out.trans HWa.out.2.1).trans HWb.out.2.1)⟩
  ·have g0:=cellq hbl 0 rfl
   have g1:=cellq hbl 1 rfl
   have g2:=cellq hbl 2 rfl
   have g3:=cellq hbl 3 rfl
   have g4:=cellq hbl 4 rfl
   have g5:=cellq hbl 5 rfl
   have g6:=cellq hbl 6 rfl
   have h0:=cellq HWb.out.1 0 rfl
   have h1:=cellq HWb.out.1 1 rfl
   have h2:=cellq HWb.out.1 2 rfl
   have h3:=cellq HWb.out.1 3 rfl
   have h4:=cellq HWb.out.1 4 rfl
   have h5:=cellq HWb.out.1 5 rfl
   have h6:=cellq HWb.out.1 6 rfl
   have HLe:=bH hle
   clear hle
   have HCm:=bH (show Calls Tryz.prog 25 #[.agg #[.bool nga,.slice a1a m1a c1a,.slice a2a m2a c2a],.agg #[.bool ngb,.slice a1b m1b c1b,.slice a2b m2b c2b]] wb (fun r w'=>∃ s:Int,r=.returned (.int .i64 s)/\s<=0/\XF wb w') from by
    refine (Rrcmp_any wb _ _ oa.val ob.val 1200 (HVa.reads HWa.out.2.2.2) (HWb.out.2.2.1.reads HWb.out.2.2.2) (by decide) (by decide)).mono ?_
    rintro r w' ⟨rfl,hx⟩
    refine ⟨_,rfl,?_,hx⟩
    have:=HLe.out
    exact (sign_le0 _).2 (by grind))
   clear HVa
   go_wp2_with (go_at_call 25; refine HCm.out.mono ?_; rintro q10 w10 ⟨sg,rfl,hsg,hx10⟩)
   go_ret
   exact ⟨rfl,(HB.out.2.2.2.trans ((HX9.out.trans HWa.out.2.1).trans HWb.out.2.1)).trans hx10⟩
  ·have g0:=cellq hbl 0 rfl
   have g1:=cellq hbl 1 rfl
   have g2:=cellq hbl 2 rfl
   have g3:=cellq hbl 3 rfl
   have g4:=cellq hbl 4 rfl
   have g5:=cellq hbl 5 rfl
   have g6:=cellq hbl 6 rfl
   have h0:=cellq HWb.out.1 0 rfl
   have h1:=cellq HWb.out.1 1 rfl
   have h2:=cellq HWb.out.1 2 rfl
   have h3:=cellq HWb.out.1 3 rfl
   have h4:=cellq HWb.out.1 4 rfl
   have h5:=cellq HWb.out.1 5 rfl
   have h6:=cellq HWb.out.1 6 rfl
   go_wp2
   go_ret
   exact ⟨rfl,HB.out.2.2.2.trans ((HX9.out.trans HWa.out.2.1).trans HWb.out.2.1)⟩
  ·have g0:=cellq hbl 0 rfl
   have g1:=cellq hbl 1 rfl
   have g2:=cellq hbl 2 rfl
   have g3:=cellq hbl 3 rfl
   have g4:=cellq hbl 4 rfl
   have g5:=cellq hbl 5 rfl
   have g6:=cellq hbl 6 rfl
   have h0:=cellq HWb.out.1 0 rfl
   have h1:=cellq HWb.out.1 1 rfl
   have h2:=cellq HWb.out.1 2 rfl
   have h3:=cellq HWb.out.1 3 rfl
   have h4:=cellq HWb.out.1 4 rfl
   have h5:=cellq HWb.out.1 5 rfl
   have h6:=cellq HWb.out.1 6 rfl
   go_wp2
   go_ret
   exact ⟨rfl,HB.out.2.2.2.trans ((HX9.out.trans HWa.out.2.1).trans HWb.out.2.1)⟩
 case first =>
 have f0:=cqo (S:=fun _=>False) p0 id
 have f1:=cqo (S:=fun _=>False) p1 id
 have f2:=cqo (S:=fun _=>False) r0 id
 have f3:=cqo (S:=fun _=>False) r1 id
 have f4:=cqo (S:=fun _=>False) r2 id
 have f5:=cqo (S:=fun _=>False) r3 id
 have f6:=cqo (S:=fun _=>False) r4 id
 clear p0 p1 r0 r1 r2 r3 r4
 refine wp_region_held_drew (S:=XF w6) (by kernel_rfl) ((Ext.refl _ w6).drew) (fun hHeld=>?_)
 refine ht 0 (h:=(ht 1 (h:=(ht 3 (h:=(ht 4 (h:=(ht 6 (h:=?_)))))))))
 (try go_frame)
 have hSd:=hHeld
 clear hHeld
 obtain ⟨wd,hwd⟩:∃ wd,w6.drew=wd:=⟨_,rfl⟩
 have hslR:=hslR0.keep ((Ext.refl (fun _=>False) w6).drew)
 rw [hwd] at hSd hslR ⊢
 obtain ⟨B,hB⟩:∃ B,wd.heap.size=B:=⟨_,rfl⟩
 refine held_ind (T:=fun a0 fuel listed a wx=>(fuel=7/\listed=#[true,true,false,true,true,false,true,false,false,false,false,false]/\a=a0/\Half B y0 none none false false wd wx undef undef undef undef)∨(fuel=6/\listed=#[true,true,true,true,true,false,true,false,false,false,false,false]/\∃ s39:Value,a=(Act.put a0 (some 39) (s39))/\Half B y0 none (some []) false false wd wx undef s39 undef undef)∨(fuel=6/\listed=#[true,true,false,true,true,false,true,true,false,false,false,false]/\∃ s44:Value,a=(Act.put a0 (some 44) (s44))/\Half B y0 none none true false wd wx undef undef s44 undef)∨(fuel=6/\listed=#[true,true,false,true,true,false,true,false,false,false,true,false]/\∃ s5:Value,a=(Act.put a0 (some 5) (s5))/\Half B y0 none none false true wd wx undef undef undef s5)∨(fuel=5/\listed=#[true,true,true,true,true,true,true,false,false,false,false,false]/\∃ s39 s42:Value,a=(Act.put (Act.put a0 (some 39) (s39)) (some 42) (s42))/\Half B y0 none (some prs) false false wd wx undef s42 undef undef)∨(fuel=5/\listed=#[true,true,true,true,true,false,true,true,false,false,false,false]/\∃ s39 s44:Value,a=(Act.put (Act.put a0 (some 39) (s39)) (some 44) (s44))/\Half B y0 none (some []) true false wd wx undef s39 s44 undef)∨(fuel=5/\listed=#[true,true,true,true,true,false,true,false,false,false,true,false]/\∃ s5 s39:Value,a=(Act.put (Act.put a0 (some 5) (s5)) (some 39) (s39))/\Half B y0 none (some []) false true wd wx undef s39 undef s5)∨(fuel=5/\listed=#[true,true,false,true,true,false,true,true,false,false,true,false]/\∃ s5 s44:Value,a=(Act.put (Act.put a0 (some 5) (s5)) (some 44) (s44))/\Half B y0 none none true true wd wx undef undef s44 s5)∨(fuel=4/\listed=#[true,true,true,true,true,true,true,true,false,false,false,false]/\∃ s39 s42 s44:Value,a=(Act.put (Act.put (Act.put a0 (some 39) (s39)) (some 42) (s42)) (some 44) (s44))/\Half B y0 none (some prs) true false wd wx undef s42 s44 undef)∨(fuel=4/\listed=#[true,true,true,true,true,true,true,false,false,false,true,false]/\∃ s5 s39 s42:Value,a=(Act.put (Act.put (Act.put a0 (some 5) (s5)) (some 39) (s39)) (some 42) (s42))/\Half B y0 none (some prs) false true wd wx undef s42 undef s5)∨(fuel=4/\listed=#[true,true,true,true,true,false,true,true,false,false,true,false]/\∃ s5 s39 s44:Value,a=(Act.put (Act.put (Act.put a0 (some 5) (s5)) (some 39) (s39)) (some 44) (s44))/\Half B y0 none (some []) true true wd wx undef s39 s44 s5)∨(fuel=2/\listed=#[true,true,true,true,true,true,true,true,true,true,false,false]/\∃ s39 s42 s44 s45:Value,a=(Act.put (Act.put (Act.put (Act.put (Act.put a0 (some 39) (s39)) (some 42) (s42)) (some 44) (s44)) (some 45) (s45)) (some 46) (.agg #[.slice vo vn vc,s45]))/\Half B y0 none (some (prs++[y0])) true false wd wx undef s45 s44 undef)∨(fuel=3/\listed=#[true,true,true,true,true,true,true,true,false,false,true,false]/\∃ s5 s39 s42 s44:Value,a=(Act.put (Act.put (Act.put (Act.put a0 (some 5) (s5)) (some 39) (s39)) (some 42) (s42)) (some 44) (s44))/\Half B y0 none (some prs) true true wd wx undef s42 s44 s5)∨(fuel=1/\listed=#[true,true,true,true,true,true,true,true,true,true,true,false]/\∃ s5 s39 s42 s44 s45:Value,a=(Act.put (Act.put (Act.put (Act.put (Act.put (Act.put a0 (some 5) (s5)) (some 39) (s39)) (some 42) (s42)) (some 44) (s44)) (some 45) (s45)) (some 46) (.agg #[.slice vo vn vc,s45]))/\Half B y0 none (some (prs++[y0])) true true wd wx undef s45 s44 s5)) _ ?_ ?_ ?_
 ·intro listed a wx hh
  rcases hh with hh | hh | hh | hh | hh | hh | hh | hh | hh | hh | hh | hh | hh | hh <;> exact absurd hh.1 (by decide)
 ·intro fuel ih listed a wx hh
  rcases hh with hh | hh | hh | hh | hh | hh | hh | hh | hh | hh | hh | hh | hh | hh
  ·obtain ⟨hfu,rfl,rfl,hM⟩:=hh
   obtain rfl:fuel=6:=by omega
   have hSx:=hSd.trans hM.ext
   refine wpAnyH_ready (rs:=[2,7,10]) (by kernel_rfl) (by simp) ?_
   refine rdy_cons rfl (fun K hK=>?_) ?_
   ·have hM2:=hM.allocB
    go_simp
    refine hK.out _ _ (hSx.alloc _) (fun _=>ih _ (by omega) _ _ _ ?_)
    exact .inr <| .inl <| ⟨rfl,rfl,(.slice (some ⟨wx.heap.size,0,none⟩) 0 0),by go_frame,hM2⟩
   refine rdy_cons rfl (fun K hK=>?_) ?_
   ·have hM2:=hM.allocC; rw [hy0c] at hM2
    go_simp
    refine hK.out _ _ (hSx.alloc _) (fun _=>ih _ (by omega) _ _ _ ?_)
    exact .inr <| .inr <| .inl <| ⟨rfl,rfl,(.slice (some ⟨wx.heap.size,0,none⟩) 1 1),by go_frame,hM2⟩
   refine rdy_cons rfl (fun K hK=>?_) ?_
   ·have hM2:=hM.allocD
    go_simp
    refine hK.out _ _ (hSx.alloc _) (fun _=>ih _ (by omega) _ _ _ ?_)
    exact .inr <| .inr <| .inr <| .inl <| ⟨rfl,rfl,(.pointer (some ⟨wx.heap.size,0,none⟩)),by go_frame,hM2⟩
   exact AllReadyH.nil
  ·obtain ⟨hfu,rfl,s39,rfl,hM⟩:=hh
   obtain rfl:fuel=5:=by omega
   go_frame
   have hSx:=hSd.trans hM.ext
   refine wpAnyH_ready (rs:=[5,7,10]) (by kernel_rfl) (by simp) ?_
   refine rdy_cons rfl (fun K hK=>?_) ?_
   ·refine step_append_sown cRT_len prs hone Tryz.underlying23 Tryz.infoRow rfl (by decide) rfl (.tmp 39) (.tmp 41) rfl B s39 [] rfl (hM.b [] rfl) ro rn rc (hslR.keep hM.ext) rfl (by simp; omega) hM.heap (fun v' w' g1 g2 g3=>?_)
    have hM2:=hM.growB g1 g2 g3
    refine hK.out _ _ (hSd.trans hM2.ext) (fun _=>ih _ (by omega) _ _ _ ?_)
    exact .inr <| .inr <| .inr <| .inr <| .inl <| ⟨rfl,rfl,s39,v',by go_frame,hM2⟩
   refine rdy_cons rfl (fun K hK=>?_) ?_
   ·have hM2:=hM.allocC; rw [hy0c] at hM2
    go_simp
    refine hK.out _ _ (hSx.alloc _) (fun _=>ih _ (by omega) _ _ _ ?_)
    exact .inr <| .inr <| .inr <| .inr <| .inr <| .inl <| ⟨rfl,rfl,s39,(.slice (some ⟨wx.heap.size,0,none⟩) 1 1),by go_frame,hM2⟩
   refine rdy_cons rfl (fun K hK=>?_) ?_
   ·have hM2:=hM.allocD
    go_simp
    refine hK.out _ _ (hSx.alloc _) (fun _=>ih _ (by omega) _ _ _ ?_)
    exact .inr <| .inr <| .inr <| .inr <| .inr <| .inr <| .inl <| ⟨rfl,rfl,(.pointer (some ⟨wx.heap.size,0,none⟩)),s39,by go_frame,hM2⟩
   exact AllReadyH.nil
  ·obtain ⟨hfu,rfl,s44,rfl,hM⟩:=hh
   obtain rfl:fuel=5:=by omega
   go_frame
   have hSx:=hSd.trans hM.ext
   refine wpAnyH_ready (rs:=[2,10]) (by kernel_rfl) (by simp) ?_
   refine rdy_cons rfl (fun K hK=>?_) ?_
   ·have hM2:=hM.allocB
    go_simp
    refine hK.out _ _ (hSx.alloc _) (fun _=>ih _ (by omega) _ _ _ ?_)
    exact .inr <| .inr <| .inr <| .inr <| .inr <| .inl <| ⟨rfl,rfl,(.slice (some ⟨wx.heap.size,0,none⟩) 0 0),s44,by go_frame,hM2⟩
   refine rdy_cons rfl (fun K hK=>?_) ?_
   ·have hM2:=hM.allocD
    go_simp
    refine hK.out _ _ (hSx.alloc _) (fun _=>ih _ (by omega) _ _ _ ?_)
    exact .inr <| .inr <| .inr <| .inr <| .inr <| .inr <| .inr <| .inl <| ⟨rfl,rfl,(.pointer (some ⟨wx.heap.size,0,none⟩)),s44,by go_frame,hM2⟩
   exact AllReadyH.nil
  ·obtain ⟨hfu,rfl,s5,rfl,hM⟩:=hh
   obtain rfl:fuel=5:=by omega
   go_frame
   have hSx:=hSd.trans hM.ext
   refine wpAnyH_ready (rs:=[2,7]) (by kernel_rfl) (by simp) ?_
   refine rdy_cons rfl (fun K hK=>?_) ?_
   ·have hM2:=hM.allocB
    go_simp
    refine hK.out _ _ (hSx.alloc _) (fun _=>ih _ (by omega) _ _ _ ?_)
    exact .inr <| .inr <| .inr <| .inr <| .inr <| .inr <| .inl <| ⟨rfl,rfl,s5,(.slice (some ⟨wx.heap.size,0,none⟩) 0 0),by go_frame,hM2⟩
   refine rdy_cons rfl (fun K hK=>?_) ?_
   ·have hM2:=hM.allocC; rw [hy0c] at hM2
    go_simp
    refine hK.out _ _ (hSx.alloc _) (fun _=>ih _ (by omega) _ _ _ ?_)
    exact .inr <| .inr <| .inr <| .inr <| .inr <| .inr <| .inr <| .inl <| ⟨rfl,rfl,s5,(.slice (some ⟨wx.heap.size,0,none⟩) 1 1),by go_frame,hM2⟩
   exact AllReadyH.nil
  ·obtain ⟨hfu,rfl,s39,s42,rfl,hM⟩:=hh
   obtain rfl:fuel=4:=by omega
   go_frame
   have hSx:=hSd.trans hM.ext
   refine wpAnyH_ready (rs:=[7,10]) (by kernel_rfl) (by simp) ?_
   refine rdy_cons rfl (fun K hK=>?_) ?_
   ·have hM2:=hM.allocC; rw [hy0c] at hM2
    go_simp
    refine hK.out _ _ (hSx.alloc _) (fun _=>ih _ (by omega) _ _ _ ?_)
    exact .inr <| .inr <| .inr <| .inr <| .inr <| .inr <| .inr <| .inr <| .inl <| ⟨rfl,rfl,s39,s42,(.slice (some ⟨wx.heap.size,0,none⟩) 1 1),by go_frame,hM2⟩
   refine rdy_cons rfl (fun K hK=>?_) ?_
   ·have hM2:=hM.allocD
    go_simp
    refine hK.out _ _ (hSx.alloc _) (fun _=>ih _ (by omega) _ _ _ ?_)
    exact .inr <| .inr <| .inr <| .inr <| .inr <| .inr <| .inr <| .inr <| .inr <| .inl <| ⟨rfl,rfl,(.pointer (some ⟨wx.heap.size,0,none⟩)),s39,s42,by go_frame,hM2⟩
   exact AllReadyH.nil
  ·obtain ⟨hfu,rfl,s39,s44,rfl,hM⟩:=hh
   obtain rfl:fuel=4:=by omega
   go_frame
   have hSx:=hSd.trans hM.ext
   refine wpAnyH_ready (rs:=[5,10]) (by kernel_rfl) (by simp) ?_
   refine rdy_cons rfl (fun K hK=>?_) ?_
   ·refine step_append_sown cRT_len prs hone Tryz.underlying23 Tryz.infoRow rfl (by decide) rfl (.tmp 39) (.tmp 41) rfl B s39 [] rfl (hM.b [] rfl) ro rn rc (hslR.keep hM.ext) rfl (by simp; omega) hM.heap (fun v' w' g1 g2 g3=>?_)
    have hM2:=hM.growB g1 g2 g3
    refine hK.out _ _ (hSd.trans hM2.ext) (fun _=>ih _ (by omega) _ _ _ ?_)
    exact .inr <| .inr <| .inr <| .inr <| .inr <| .inr <| .inr <| .inr <| .inl <| ⟨rfl,rfl,s39,v',s44,by go_frame,hM2⟩
   refine rdy_cons rfl (fun K hK=>?_) ?_
   ·have hM2:=hM.allocD
    go_simp
    refine hK.out _ _ (hSx.alloc _) (fun _=>ih _ (by omega) _ _ _ ?_)
    exact .inr <| .inr <| .inr <| .inr <| .inr <| .inr <| .inr <| .inr <| .inr <| .inr <| .inl <| ⟨rfl,rfl,(.pointer (some ⟨wx.heap.size,0,none⟩)),s39,s44,by go_frame,hM2⟩
   exact AllReadyH.nil
  ·obtain ⟨hfu,rfl,s5,s39,rfl,hM⟩:=hh
   obtain rfl:fuel=4:=by omega
   go_frame
   have hSx:=hSd.trans hM.ext
   refine wpAnyH_ready (rs:=[5,7]) (by kernel_rfl) (by simp) ?_
   refine rdy_cons rfl (fun K hK=>?_) ?_
   ·refine step_append_sown cRT_len prs hone Tryz.underlying23 Tryz.infoRow rfl (by decide) rfl (.tmp 39) (.tmp 41) rfl B s39 [] rfl (hM.b [] rfl) ro rn rc (hslR.keep hM.ext) rfl (by simp; omega) hM.heap (fun v' w' g1 g2 g3=>?_)
    have hM2:=hM.growB g1 g2 g3
    refine hK.out _ _ (hSd.trans hM2.ext) (fun _=>ih _ (by omega) _ _ _ ?_)
    exact .inr <| .inr <| .inr <| .inr <| .inr <| .inr <| .inr <| .inr <| .inr <| .inl <| ⟨rfl,rfl,s5,s39,v',by go_frame,hM2⟩
   refine rdy_cons rfl (fun K hK=>?_) ?_
   ·have hM2:=hM.allocC; rw [hy0c] at hM2
    go_simp
    refine hK.out _ _ (hSx.alloc _) (fun _=>ih _ (by omega) _ _ _ ?_)
    exact .inr <| .inr <| .inr <| .inr <| .inr <| .inr <| .inr <| .inr <| .inr <| .inr <| .inl <| ⟨rfl,rfl,s5,s39,(.slice (some ⟨wx.heap.size,0,none⟩) 1 1),by go_frame,hM2⟩
   exact AllReadyH.nil
  ·obtain ⟨hfu,rfl,s5,s44,rfl,hM⟩:=hh
   obtain rfl:fuel=4:=by omega
   go_frame
   have hSx:=hSd.trans hM.ext
   refine wpAnyH_ready (rs:=[2]) (by kernel_rfl) (by simp) ?_
   refine rdy_cons rfl (fun K hK=>?_) ?_
   ·have hM2:=hM.allocB
    go_simp
    refine hK.out _ _ (hSx.alloc _) (fun _=>ih _ (by omega) _ _ _ ?_)
    exact .inr <| .inr <| .inr <| .inr <| .inr <| .inr <| .inr <| .inr <| .inr <| .inr <| .inl <| ⟨rfl,rfl,s5,(.slice (some ⟨wx.heap.size,0,none⟩) 0 0),s44,by go_frame,hM2⟩
   exact AllReadyH.nil
  ·obtain ⟨hfu,rfl,s39,s42,s44,rfl,hM⟩:=hh
   obtain rfl:fuel=3:=by omega
   go_frame
   have hSx:=hSd.trans hM.ext
   refine wpAnyH_ready (rs:=[8,10]) (by kernel_rfl) (by simp) ?_
   refine rdy_cons rfl (fun K hK=>?_) ?_
   ·obtain ⟨gc,rfl,hcA⟩:=hM.c rfl
    refine step_append_sown cRT_len [y0] hone1 Tryz.underlying23 Tryz.infoRow rfl (by decide) rfl (.tmp 42) (.tmp 44) rfl B s42 prs rfl (hM.b prs rfl) _ 1 1 (hcA.sl cRT_len (Nat.le_refl _) (by unfold maxLen; decide)) rfl (by simp; omega) hM.heap (fun v' w' g1 g2 g3=>?_)
    have hM2:=hM.growB g1 g2 g3
    obtain ⟨bo1,bc1,rfl⟩:=g1.shape
    obtain ⟨bl1,hbl⟩:∃ n,(prs++[y0]).length=n:=⟨_,rfl⟩
    clear g1 g2 g3
    rw [hbl] at hM2 ⊢
    clear hbl
    refine hK.out _ _ (hSd.trans hM2.ext) (fun hHeld=>?_)
    (try go_frame)
    refine ht 9 (h:=?_)
    (try go_frame)
    refine ih _ (by omega) _ _ _ ?_
    exact .inr <| .inr <| .inr <| .inr <| .inr <| .inr <| .inr <| .inr <| .inr <| .inr <| .inr <| .inl <| ⟨rfl,rfl,s39,s42,(.slice (some ⟨gc,0,none⟩) 1 1),(.slice bo1 bl1 bc1),by go_frame,hM2⟩
   refine rdy_cons rfl (fun K hK=>?_) ?_
   ·have hM2:=hM.allocD
    go_simp
    refine hK.out _ _ (hSx.alloc _) (fun _=>ih _ (by omega) _ _ _ ?_)
    exact .inr <| .inr <| .inr <| .inr <| .inr <| .inr <| .inr <| .inr <| .inr <| .inr <| .inr <| .inr <| .inl <| ⟨rfl,rfl,(.pointer (some ⟨wx.heap.size,0,none⟩)),s39,s42,s44,by go_frame,hM2⟩
   exact AllReadyH.nil
  ·obtain ⟨hfu,rfl,s5,s39,s42,rfl,hM⟩:=hh
   obtain rfl:fuel=3:=by omega
   go_frame
   have hSx:=hSd.trans hM.ext
   refine wpAnyH_ready (rs:=[7]) (by kernel_rfl) (by simp) ?_
   refine rdy_cons rfl (fun K hK=>?_) ?_
   ·have hM2:=hM.allocC; rw [hy0c] at hM2
    go_simp
    refine hK.out _ _ (hSx.alloc _) (fun _=>ih _ (by omega) _ _ _ ?_)
    exact .inr <| .inr <| .inr <| .inr <| .inr <| .inr <| .inr <| .inr <| .inr <| .inr <| .inr <| .inr <| .inl <| ⟨rfl,rfl,s5,s39,s42,(.slice (some ⟨wx.heap.size,0,none⟩) 1 1),by go_frame,hM2⟩
   exact AllReadyH.nil
  ·obtain ⟨hfu,rfl,s5,s39,s44,rfl,hM⟩:=hh
   obtain rfl:fuel=3:=by omega
   go_frame
   have hSx:=hSd.trans hM.ext
   refine wpAnyH_ready (rs:=[5]) (by kernel_rfl) (by simp) ?_
   refine rdy_cons rfl (fun K hK=>?_) ?_
   ·refine step_append_sown cRT_len prs hone Tryz.underlying23 Tryz.infoRow rfl (by decide) rfl (.tmp 39) (.tmp 41) rfl B s39 [] rfl (hM.b [] rfl) ro rn rc (hslR.keep hM.ext) rfl (by simp; omega) hM.heap (fun v' w' g1 g2 g3=>?_)
    have hM2:=hM.growB g1 g2 g3
    refine hK.out _ _ (hSd.trans hM2.ext) (fun _=>ih _ (by omega) _ _ _ ?_)
    exact .inr <| .inr <| .inr <| .inr <| .inr <| .inr <| .inr <| .inr <| .inr <| .inr <| .inr <| .inr <| .inl <| ⟨rfl,rfl,s5,s39,v',s44,by go_frame,hM2⟩
   exact AllReadyH.nil
  ·obtain ⟨hfu,rfl,s39,s42,s44,s45,rfl,hM⟩:=hh
   obtain rfl:fuel=1:=by omega
   go_frame
   have hSx:=hSd.trans hM.ext
   refine wpAnyH_ready (rs:=[10]) (by kernel_rfl) (by simp) ?_
   refine rdy_cons rfl (fun K hK=>?_) ?_
   ·have hM2:=hM.allocD
    go_simp
    refine hK.out _ _ (hSx.alloc _) (fun _=>ih _ (by omega) _ _ _ ?_)
    exact .inr <| .inr <| .inr <| .inr <| .inr <| .inr <| .inr <| .inr <| .inr <| .inr <| .inr <| .inr <| .inr <| ⟨rfl,rfl,(.pointer (some ⟨wx.heap.size,0,none⟩)),s39,s42,s44,s45,by go_frame,hM2⟩
   exact AllReadyH.nil
  ·obtain ⟨hfu,rfl,s5,s39,s42,s44,rfl,hM⟩:=hh
   obtain rfl:fuel=2:=by omega
   go_frame
   have hSx:=hSd.trans hM.ext
   refine wpAnyH_ready (rs:=[8]) (by kernel_rfl) (by simp) ?_
   refine rdy_cons rfl (fun K hK=>?_) ?_
   ·obtain ⟨gc,rfl,hcA⟩:=hM.c rfl
    refine step_append_sown cRT_len [y0] hone1 Tryz.underlying23 Tryz.infoRow rfl (by decide) rfl (.tmp 42) (.tmp 44) rfl B s42 prs rfl (hM.b prs rfl) _ 1 1 (hcA.sl cRT_len (Nat.le_refl _) (by unfold maxLen; decide)) rfl (by simp; omega) hM.heap (fun v' w' g1 g2 g3=>?_)
    have hM2:=hM.growB g1 g2 g3
    obtain ⟨bo1,bc1,rfl⟩:=g1.shape
    obtain ⟨bl1,hbl⟩:∃ n,(prs++[y0]).length=n:=⟨_,rfl⟩
    clear g1 g2 g3
    rw [hbl] at hM2 ⊢
    clear hbl
    refine hK.out _ _ (hSd.trans hM2.ext) (fun hHeld=>?_)
    (try go_frame)
    refine ht 9 (h:=?_)
    (try go_frame)
    refine ih _ (by omega) _ _ _ ?_
    exact .inr <| .inr <| .inr <| .inr <| .inr <| .inr <| .inr <| .inr <| .inr <| .inr <| .inr <| .inr <| .inr <| ⟨rfl,rfl,s5,s39,s42,(.slice (some ⟨gc,0,none⟩) 1 1),(.slice bo1 bl1 bc1),by go_frame,hM2⟩
   exact AllReadyH.nil
  ·obtain ⟨hfu,rfl,s5,s39,s42,s44,s45,rfl,hM⟩:=hh
   obtain rfl:fuel=0:=by omega
   go_frame
   have hSx:=hSd.trans hM.ext
   refine wpAnyH_ready (rs:=[11]) (by kernel_rfl) (by simp) ?_
   refine rdy_cons rfl (fun K hK=>?_) ?_
   ·obtain ⟨gd,rfl,hgB,hgb⟩:=hM.d rfl
    obtain ⟨bo1,bc1,rfl⟩:=(hM.b _ rfl).shape
    have hbl:(prs++[y0]).length=rn+1:=by simp [hpl]
    rw [hbl] at hM
    clear hbl
    have q0:=cellq hgb 0 rfl
    have q1:=cellq hgb 1 rfl
    have q2:=free_of_cells hgb 0
    have q3:=free_of_cells hgb 1
    have hxx:=((Ext.refl (fun k=>k=gd) wx).setCell (p:=⟨gd,0,none⟩) (.slice vo vn vc) (fun _=>rfl)).setCell (p:=⟨gd,1,none⟩) (.slice bo1 (rn+1) bc1) (fun _=>rfl)
    have hgb2:=blk_setCell_same (blk_setCell_same hgb 0 (.slice vo vn vc)) 1 (.slice bo1 (rn+1) bc1)
    have hBw:w6.heap.size=B:=by rw [<- hB,<- hwd]; rfl
    have hx9:=(hSd.trans hM.ext).own hxx (fun k e=>by have e':k=gd:=e; omega)
    have hFin:=bH (bI hgb2 (bI (ownsRow_ext (hM.b _ rfl) hxx (fun g e e2=>hM.bd g (by rw [blOf_own rfl]; exact e) (by rw [e2]; rfl))) (bI hx9 hBw)))
    clear hgb hgb2 hxx hBw
    go_simp
    refine hK.out _ _ hx9 (fun _=>?_)
    refine wpAnyH_done (by kernel_rfl) ?_ _
    clear hK K hx9
    go_wp2
    go_meet
    exact ⟨gd,_,rfl,hFin.out.1,by rw [hFin.out.2.2.2]; exact hFin.out.2.1,hFin.out.2.2.1⟩
   exact AllReadyH.nil
 ·exact .inl ⟨rfl,rfl,rfl,hB ▸ Half.start y0 wd⟩
end Go.Proofs.YtbgienfcmdgaaaaGreat
