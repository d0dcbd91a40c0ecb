/-
  Texts of the proof, part 1. Conditions: each lemma names its own.
-/
import Derived.Test.YtbgienfcmdgaaaaGreatZ1
import Derived.Test.YtbgienfcmdgaaaaGreatZ11
import Derived.Test.YtbgienfcmdgaaaaGreatZ4
import Derived.Test.YtbgienfcmdgaaaaGreatZ5
import Derived.Test.YtbgienfcmdgaaaaGreatZ6
import Derived.OpenShut
import Derived.ShutString
import Derived.ChangeOld
import Derived.Deep.Slices
import Derived.Lib.SmallJoins
import Derived.Maps.RangeWalk
set_option linter.unusedVariables false
set_option linter.unusedSimpArgs false
set_option maxRecDepth 100000
set_option maxHeartbeats 16000000
namespace Go.Proofs.YtbgienfcmdgaaaaGreat
open Go.RowKit Go.MapKept
open Go.ChangeMaps (setBlock)
open Go.ChangeShapes Go.WideShapes Go.ChangeAt Go.RowKit Go.Deep
set_option linter.unusedVariables false
theorem own:ownKnob Tryz.prog.godebug=none:=by kernel_rfl
theorem laidOut:laidOutB Tryz.prog=true:=by kernel_rfl
section
variable {H:Type} {enc:TypeId × Value->H} {w:World} {base:Nat} {spare:Nat->Bool} {held:Bool}
theorem struct_field {P:Program} {t:TypeId} {fs:Array Field} {fuel:Nat} {cs:List Value} {x:DataW H × List MemPlace} (ht:P.underlying t=some (.struct fs)) (h:DataW.trod enc P w base spare held fuel t cs=some x)
  (i:Nat) {f:Field} (hi:fs[i]?=some f) {ty off n:Nat} (h1:f.type=ty) (h2:f.offset=off) (h3:P.cellsOf ty=n):∃ m y,DataW.trod enc P w base spare held m ty ((cs.drop off).take n)=some y:=by
 obtain ⟨xs,m,_,_,hl,hxl,hf⟩:=DataW.trod_struct ht h
 subst h1 h2 h3
 have hlt:i<xs.length:=by rw [hxl]; exact (Array.getElem?_eq_some_iff.1 hi).1
 exact ⟨m,_,(hf i f hi).trans (List.getElem?_eq_getElem hlt)⟩
theorem struct_length {P:Program} {t:TypeId} {fs:Array Field} {fuel:Nat} {cs:List Value} {x:DataW H × List MemPlace} (ht:P.underlying t=some (.struct fs)) (h:DataW.trod enc P w base spare held fuel t cs=some x) {n:Nat} (h3:P.cellsOf t=n):cs.length=n:=by
 obtain ⟨xs,m,_,_,hl,hxl,hf⟩:=DataW.trod_struct ht h
 rw [hl,h3]
theorem list_of {α:Type} {R:List Value->α->Prop}:∀ {css:List (List Value)},(∀ c ∈ css,∃ x,R c x)->∃ l:List α,l.length=css.length/\∀ (i:Nat) c x,css[i]?=some c->l[i]?=some x->R c x
 | [],_=>⟨[],rfl,fun i c x h=>by simp at h⟩
 | c :: css,h=>by
  obtain ⟨x,hx⟩:=h c (by simp)
  obtain ⟨l,h1,h2⟩:=list_of (css:=css) (fun c hc=>h c (by simp [hc]))
  refine ⟨x :: l,by simp [h1],fun i c' x' hc hx'=>?_⟩
  cases i with
  | zero=>simp at hc hx'; subst hc hx'; exact hx
  | succ i=>simp at hc hx'; exact h2 i c' x' hc hx'
theorem map_of {α:Type} {f:α->List Value} {Q:α->Prop} {css:List (List Value)} (h:∀ c ∈ css,∃ x,c=f x/\Q x):∃ l:List α,css=l.map f/\∀ x ∈ l,Q x:=by
 obtain ⟨l,h1,h2⟩:=list_of (R:=fun c x=>c=f x/\Q x) h
 refine ⟨l,List.ext_getElem? fun i=>?_,fun x hx=>?_⟩
 ·rw [List.getElem?_map]
  by_cases hi:i<l.length
  ·rw [List.getElem?_eq_getElem hi,List.getElem?_eq_getElem (by omega:i<css.length)]
   simp only [Option.map_some]
   exact congrArg some (h2 i _ _ (List.getElem?_eq_getElem (by omega)) (List.getElem?_eq_getElem hi)).1
  ·rw [List.getElem?_eq_none (by omega),List.getElem?_eq_none (by omega)]; rfl
 ·obtain ⟨i,hi,rfl⟩:=List.getElem_of_mem hx
  exact (h2 i _ _ (List.getElem?_eq_getElem (by omega)) (List.getElem?_eq_getElem hi)).2
theorem open_sl {t e:TypeId} {m:Nat} {fuel:Nat} {cs:List Value} {x:DataW H × List MemPlace} (ht:Tryz.prog.underlying t=some (.slice e)) (hc:Tryz.prog.cellsOf e=m) (hm:0<m) {R:List Value->Prop}
  (he:∀ fuel cs x,DataW.trod enc Tryz.prog w base spare held fuel e cs=some x->R cs) (h:DataW.trod enc Tryz.prog w base spare held fuel t cs=some x) :
  ∃ v css,cs=[v]/\Sl w v m css/\∀ c ∈ css,R c:=by
 rcases open_slice ht h with ⟨hcs,_⟩ | ⟨a,l,c,k,n',D,Pl,hcs,_,hlc,hcm,hk,_,hel⟩
 ·exact ⟨_,[],hcs,Sl.nil w m,by simp⟩
 ·have hlk:l<=k:=by rw [hk]; split <;> omega
  have hel':∀ i,i<l->∃ c':List Value,c'.length=m/\R c'/\∀ j u,c'[j]?=some u->w.cell? ((a.add (i*m)).add j)=some u:=fun i hi=>by
   obtain ⟨cs',h1,h2⟩:=hel i (by omega)
   rw [hc] at h1
   obtain ⟨_,hlen,hat⟩:=World.cells?_some h1
   exact ⟨cs',hlen,he _ _ _ h2,fun j u hu=>(hat j (by have:=(List.getElem?_eq_some_iff.1 hu).1; omega)).trans hu⟩
  obtain ⟨css,h1,h2⟩:∃ css:List (List Value),css.length=l/\∀ i (h:i<css.length),css[i].length=m/\R css[i]/\∀ j u,css[i][j]?=some u->w.cell? ((a.add (i*m)).add j)=some u:=by
   refine ⟨List.ofFn fun i:Fin l=>Classical.choose (hel' i i.2),by simp,fun i hi=>?_⟩
   simp at hi
   have:=Classical.choose_spec (hel' i hi)
   simpa using this
  subst h1
  refine ⟨_,css,hcs,⟨some a,c,rfl,hlc,hcm,(fun e=>by cases e),fun hp=>?_⟩,fun c' hc'=>?_⟩
  ·obtain ⟨b,off,spot⟩:=a
   obtain ⟨e1,_,e3⟩:=h2 0 hp
   have e4:=e3 0 _ (List.getElem?_eq_getElem (by omega))
   have hspot:spot=none:=by simpa [Addr.add] using World.cell?_spot e4
   subst hspot
   refine ⟨b,off,rfl,by have:=World.block_lt_of_cell? w _ e4; simpa [Addr.add_lit] using this,fun i r hi j u hu=>?_⟩
   obtain ⟨hi',rfl⟩:=List.getElem?_eq_some_iff.1 hi
   have:=(h2 i hi').2.2 j u hu
   simpa [Addr.add_lit,Nat.add_assoc] using this
  ·obtain ⟨i,hi,rfl⟩:=List.getElem_of_mem hc'
   exact (h2 i hi).2.1
theorem cellsInt:Tryz.prog.cellsOf 3=1:=by kernel_rfl
theorem cellsI64:Tryz.prog.cellsOf 2=1:=by kernel_rfl
theorem cellsBool:Tryz.prog.cellsOf 4=1:=by kernel_rfl
theorem cellsStr:Tryz.prog.cellsOf 9=1:=by kernel_rfl
theorem cellsTerm:Tryz.prog.cellsOf 76=2:=by kernel_rfl
theorem cellsTerms:Tryz.prog.cellsOf 56=1:=by kernel_rfl
theorem cellsVar:Tryz.prog.cellsOf 63=5:=by kernel_rfl
theorem cellsVars:Tryz.prog.cellsOf 22=1:=by kernel_rfl
theorem cellsRow:Tryz.prog.cellsOf 58=5:=by kernel_rfl
theorem cellsRows:Tryz.prog.cellsOf 23=1:=by kernel_rfl
theorem cellsProgram:Tryz.prog.cellsOf 25=2:=by kernel_rfl
theorem inR_of {k:IntKind} {a:Int} (hk:k=.i64) (h:(Lit.int k a).wf=true):InR a:=by
 subst hk
 simp [Lit.wf,IntKind.min,IntKind.max,IntKind.signed,IntKind.bits] at h
 unfold InR
 omega
theorem open_var {fuel:Nat} {cs:List Value} {x:DataW H × List MemPlace} (h:DataW.trod enc Tryz.prog w base spare held fuel 63 cs=some x):∃ v:VarV,cs=cV v/\VarOk v:=by
 have hl:=struct_length Tryz.underlying63 h cellsVar
 obtain ⟨_,_,f0⟩:=struct_field Tryz.underlying63 h 0 rfl rfl rfl cellsI64
 obtain ⟨_,_,f1⟩:=struct_field Tryz.underlying63 h 1 rfl rfl rfl cellsI64
 obtain ⟨_,_,f2⟩:=struct_field Tryz.underlying63 h 2 rfl rfl rfl cellsBool
 obtain ⟨_,_,f3⟩:=struct_field Tryz.underlying63 h 3 rfl rfl rfl cellsBool
 obtain ⟨_,_,f4⟩:=struct_field Tryz.underlying63 h 4 rfl rfl rfl cellsI64
 clear h
 obtain ⟨a0,h0,_,b0⟩:=DataW.trod_int Tryz.underlying2 f0
 obtain ⟨a1,h1,_,b1⟩:=DataW.trod_int Tryz.underlying2 f1
 obtain ⟨a2,h2,_⟩:=DataW.trod_bool Tryz.underlying4 f2
 obtain ⟨a3,h3,_⟩:=DataW.trod_bool Tryz.underlying4 f3
 obtain ⟨a4,h4,_,b4⟩:=DataW.trod_int Tryz.underlying2 f4
 clear f0 f1 f2 f3 f4
 match cs,hl with
 | [c0,c1,c2,c3,c4],_ =>
  simp at h0 h1 h2 h3 h4
  exact ⟨⟨a0,a1,a2,a3,a4⟩,by rw [h0,h1,h2,h3,h4]; rfl,inR_of rfl b0,inR_of rfl b1,inR_of rfl b4⟩
theorem open_term {fuel:Nat} {cs:List Value} {x:DataW H × List MemPlace} (h:DataW.trod enc Tryz.prog w base spare held fuel 76 cs=some x):∃ t:TermV,cs=cT t/\TermOk t:=by
 have hl:=struct_length Tryz.underlying76 h cellsTerm
 obtain ⟨_,_,f0⟩:=struct_field Tryz.underlying76 h 0 rfl rfl rfl cellsInt
 obtain ⟨_,_,f1⟩:=struct_field Tryz.underlying76 h 1 rfl rfl rfl cellsI64
 clear h
 obtain ⟨a0,h0,_,b0⟩:=DataW.trod_int Tryz.underlying3 f0
 obtain ⟨a1,h1,_,b1⟩:=DataW.trod_int Tryz.underlying2 f1
 clear f0 f1
 match cs,hl with
 | [c0,c1],_ =>
  simp at h0 h1
  exact ⟨⟨a0,a1⟩,by rw [h0,h1]; rfl,inR_of rfl b0,inR_of rfl b1⟩
theorem open_terms {fuel:Nat} {cs:List Value} {x:DataW H × List MemPlace} (h:DataW.trod enc Tryz.prog w base spare held fuel 56 cs=some x):∃ v l,cs=[v]/\Tms w v l:=by
 obtain ⟨v,css,rfl,hs,hc⟩:=open_sl Tryz.underlying56 cellsTerm (by decide) (fun _ _ _ h=>open_term h) h
 obtain ⟨l,rfl,hl⟩:=map_of hc
 exact ⟨v,l,rfl,hs,hl⟩
theorem open_row {fuel:Nat} {cs:List Value} {x:DataW H × List MemPlace} (h:DataW.trod enc Tryz.prog w base spare held fuel 58 cs=some x):∃ y:RowV × Value,cs=cR y.1 y.2/\Tms w y.2 y.1.terms/\RowOk y.1:=by
 have hl:=struct_length Tryz.underlying58 h cellsRow
 obtain ⟨_,_,f0⟩:=struct_field Tryz.underlying58 h 0 rfl rfl rfl cellsStr
 obtain ⟨_,_,f1⟩:=struct_field Tryz.underlying58 h 1 rfl rfl rfl cellsInt
 obtain ⟨_,_,f2⟩:=struct_field Tryz.underlying58 h 2 rfl rfl rfl cellsInt
 obtain ⟨_,_,f3⟩:=struct_field Tryz.underlying58 h 3 rfl rfl rfl cellsTerms
 obtain ⟨_,_,f4⟩:=struct_field Tryz.underlying58 h 4 rfl rfl rfl cellsI64
 clear h
 obtain ⟨a0,h0,_,b0⟩:=DataW.trod_string Tryz.underlying9 f0
 obtain ⟨a1,h1,_,b1⟩:=DataW.trod_int Tryz.underlying3 f1
 obtain ⟨a2,h2,_,b2⟩:=DataW.trod_int Tryz.underlying3 f2
 obtain ⟨v3,l3,h3,b3⟩:=open_terms f3
 obtain ⟨a4,h4,_,b4⟩:=DataW.trod_int Tryz.underlying2 f4
 clear f0 f1 f2 f3 f4
 match cs,hl with
 | [c0,c1,c2,c3,c4],_ =>
  simp at h0 h1 h2 h3 h4
  exact ⟨⟨⟨a0,a1,a2,l3,a4⟩,v3⟩,by rw [h0,h1,h2,h3,h4]; rfl,b3,b0,inR_of rfl b1,inR_of rfl b2,inR_of rfl b4⟩
theorem open_prog {fuel:Nat} {cs:List Value} {x:DataW H × List MemPlace} (h:DataW.trod enc Tryz.prog w base spare held fuel 25 cs=some x):∃ p:ProgV,IsPrg w (.agg cs.toArray) p:=by
 have hl:=struct_length Tryz.underlying25 h cellsProgram
 obtain ⟨_,_,f0⟩:=struct_field Tryz.underlying25 h 0 rfl rfl rfl cellsVars
 obtain ⟨_,_,f1⟩:=struct_field Tryz.underlying25 h 1 rfl rfl rfl cellsRows
 clear h
 obtain ⟨v0,c0,e0,s0,k0⟩:=open_sl Tryz.underlying22 cellsVar (by decide) (fun _ _ _ h=>open_var h) f0
 obtain ⟨v1,c1,e1,s1,k1⟩:=open_sl Tryz.underlying23 cellsRow (by decide) (fun _ _ _ h=>open_row h) f1
 clear f0 f1
 obtain ⟨l0,rfl,g0⟩:=map_of k0
 obtain ⟨l1,n1,g1⟩:=list_of (R:=fun c (y:RowV × Value)=>c=cR y.1 y.2/\Tms w y.2 y.1.terms/\RowOk y.1) k1
 have hz:c1=List.zipWith cR (l1.map (·.1)) (l1.map (·.2)):=by
  apply List.ext_getElem?
  intro i
  rw [List.getElem?_zipWith,List.getElem?_map,List.getElem?_map]
  by_cases hi:i<l1.length
  ·rw [List.getElem?_eq_getElem hi,List.getElem?_eq_getElem (by omega:i<c1.length)]
   simp only [Option.map_some]
   exact congrArg some (g1 i _ _ (List.getElem?_eq_getElem (by omega)) (List.getElem?_eq_getElem hi)).1
  ·rw [List.getElem?_eq_none (by omega),List.getElem?_eq_none (by omega)]; rfl
 rw [hz] at s1
 match cs,hl with
 | [d0,d1],_ =>
  simp at e0 e1
  subst e0 e1
  refine ⟨⟨l0,l1.map (·.1)⟩,_,_,rfl,⟨s0,g0⟩,l1.map (·.2),by simp,s1,fun i r tv hr ht=>?_⟩
  rw [List.getElem?_map] at hr ht
  obtain ⟨y,hy,rfl⟩:=Option.map_eq_some_iff.1 hr
  rw [hy] at ht
  cases ht
  have hi:=(List.getElem?_eq_some_iff.1 hy).1
  exact (g1 i _ _ (List.getElem?_eq_getElem (by omega)) hy).2
end
open Go.Joins in
theorem open_prog_value {H:Type} {enc:TypeId × Value->H} {w:World} {base:Nat} {spare:Nat->Bool} {held:Bool} {r:Reach} {b0:Nat} {v:Value} {d:DataW H} {p:List MemPlace} (hv:Value.okWide Tryz.prog w r b0 25 v) (h:DataW.Trod enc Tryz.prog w base spare held 25 v d p) :
  ∃ y:ProgV,IsPrg w v y:=by
 obtain ⟨cs,rfl,hsz⟩:=okWide_struct Tryz.underlying25 hv
 obtain ⟨fuel,hf⟩:=h
 obtain ⟨y,hy⟩:=open_prog hf
 refine ⟨y,?_⟩
 simpa [Value.cells] using hy
theorem room_few {n m:Nat} (hn:n<=6) (hm:m<=8):Room n m 12 1200:=by
 refine ⟨by omega,?_⟩
 have e1:m*(12*(1200+3)+2)<=8*14438:=Nat.mul_le_mul hm (by omega)
 have e2:(n+1)*(m*(12*(1200+3)+2)+7)<=7*115511:=Nat.mul_le_mul (by omega) (by omega)
 have e3:m*(1200+3)<=8*1203:=Nat.mul_le_mul hm (by omega)
 have e4:n*(1200+3)<=6*1203:=Nat.mul_le_mul hn (by omega)
 omega
theorem few_parts {p:ProgV} (h:fewP p 6 8=true):Small p 12 1200/\p.vars.length<=6/\p.rows.length<=8:=by
 unfold fewP at h
 simp only [Bool.and_eq_true,decide_eq_true_eq,List.all_eq_true] at h
 refine ⟨⟨room_few h.1.2 h.2,fun i hi=>?_⟩,h.1.2,h.2⟩
 have hm:p.r i ∈ p.rows:=by
  unfold ProgV.r
  rw [getD_lt hi]; exact List.getElem_mem hi
 have:=h.1.1 _ hm
 unfold fewRow at this
 simp only [Bool.and_eq_true,decide_eq_true_eq] at this
 omega
theorem Solve_few (w:World) (pv:Value) (p:ProgV) (hp:IsPrg w pv p) (h:fewP p 6 8=true):Calls Tryz.prog 37 #[pv] w (SolvePost w p 1200):=by
 obtain ⟨_,hn,hm⟩:=few_parts h
 have h1:(p.vars.length+1)*(168+8)<=7*(168+8):=Nat.mul_le_mul_right _ (by omega)
 have h2:(p.vars.length+1)*(168+1)<=7*(168+1):=Nat.mul_le_mul_right _ (by omega)
 have h3:p.vars.length*(168+6)<=6*(168+6):=Nat.mul_le_mul_right _ hn
 exact Solve_any w pv p 168 1200 hp (fun hv=>bndAll6 hv hn) (by omega) (by omega) (by omega) (by omega) (by omega) (by omega) (by omega) (by omega)
theorem IsPrg.slices5 {w:World} {pv:Value} {p:ProgV} (h:IsPrg w pv p):∃ vo vn vc ro rn rc,pv=.agg #[.slice vo vn vc,.slice ro rn rc]:=by
 obtain ⟨vv,rv,rfl,hv,hr⟩:=h
 obtain ⟨vo,vc,rfl,-⟩:=hv.shape
 obtain ⟨ro,rc,rfl,-⟩:=hr.shape
 exact ⟨_,_,_,_,_,_,rfl⟩
section
variable {p:ProgV} {r:RowV} {x z:List Rat} {a b:OutV}
theorem inf_nofeas {y:List Rat} (h:infB p y=true) (hf:feasB p x=true):False:=by
 obtain ⟨_,a1,a2⟩:=feas_rows hf
 exact inf_none h a1 a2
end
structure MapsTo (p q:ProgV) (f:List Rat->List Rat):Prop where
 feas:∀ x,feasB p x=true->feasB q (f x)=true/\costQ q (f x)=costQ p x
 unb:∀ x z,unbB p x z=true->unbB q (f x) (f z)=true
theorem map_law {p q:ProgV} {f g:List Rat->List Rat} (hf:MapsTo p q f) (hg:MapsTo q p g) {a b:OutV} (ha:chkB p a=true) (hka:0<=a.kind/\a.kind<=2) (hb:chkB q b=true) (hkb:0<=b.kind/\b.kind<=2):a.kind=b.kind/\a.val=b.val:=by
 rcases chk_kinds ha hka with ⟨k0,k1,k2⟩ | ⟨k0,k1,k2⟩ | ⟨k0,k1,k2⟩
 ·obtain ⟨f1,g1⟩:=opt_parts k1
  obtain ⟨f1',c1⟩:=hf.feas _ f1
  rcases chk_kinds hb hkb with ⟨m0,m1,m2⟩ | ⟨m0,m1,m2⟩ | ⟨m0,m1,m2⟩
  ·obtain ⟨f2,g2⟩:=opt_parts m1
   obtain ⟨f2',c2⟩:=hg.feas _ f2
   obtain ⟨_,a1,a2⟩:=feas_rows f1'
   obtain ⟨_,b1,b2⟩:=feas_rows f2'
   have e1:=bound_le g2 a1 a2
   have e2:=bound_le g1 b1 b2
   rw [c1] at e1
   rw [c2] at e2
   exact ⟨by omega,by rw [k2,m2]; exact Rat.le_antisymm e2 e1⟩
  ·exact (inf_nofeas m1 f1').elim
  ·exact (unb_nobound (hg.unb _ _ m1) g1).elim
 ·rcases chk_kinds hb hkb with ⟨m0,m1,m2⟩ | ⟨m0,m1,m2⟩ | ⟨m0,m1,m2⟩
  ·exact (inf_nofeas k1 (hg.feas _ (opt_parts m1).1).1).elim
  ·exact ⟨by omega,by rw [k2,m2]⟩
  ·exact (inf_nofeas k1 (hg.feas _ (unb_parts m1).1).1).elim
 ·rcases chk_kinds hb hkb with ⟨m0,m1,m2⟩ | ⟨m0,m1,m2⟩ | ⟨m0,m1,m2⟩
  ·exact (unb_nobound (hf.unb _ _ k1) (opt_parts m1).2).elim
  ·exact (inf_nofeas m1 (hf.feas _ (unb_parts k1).1).1).elim
  ·exact ⟨by omega,by rw [k2,m2]⟩
def TermV.rev (n:Nat) (t:TermV):TermV:=⟨(n:Int) - 1 - t.var,t.coef⟩
def RowV.rev (n:Nat) (r:RowV):RowV:=⟨r.name,r.group,r.kind,r.terms.reverse.map (TermV.rev n),r.bound⟩
def ProgV.rev (p:ProgV):ProgV:=⟨p.vars.reverse,p.rows.reverse.map (RowV.rev p.vars.length)⟩
def revX (n:Nat) (x:List Rat):List Rat:=listTo n fun i=>atQ x ((n - 1 - i:Nat):Int)
theorem sumTo_shift (f:Nat->Rat):∀ n:Nat,sumTo (n+1) f=f 0+sumTo n (fun i=>f (i+1))
 | 0=>by show (0:Rat)+f 0=f 0+0; grind
 | n+1=>by
  show sumTo (n+1) f+f (n+1)=f 0+(sumTo n (fun i=>f (i+1))+f (n+1))
  rw [sumTo_shift f n]; grind
theorem sumTo_rev (f:Nat->Rat):∀ n:Nat,sumTo n (fun i=>f (n - 1 - i))=sumTo n f
 | 0=>rfl
 | n+1=>by
  rw [sumTo_shift]
  show f (n+1 - 1 - 0)+sumTo n (fun i=>f (n+1 - 1 - (i+1)))=sumTo n f+f n
  rw [<- sumTo_rev f n,show n+1 - 1 - 0=n by omega,sumTo_congr (g:=fun i=>f (n - 1 - i)) (fun i hi=>by rw [show n+1 - 1 - (i+1)=n - 1 - i by omega])]
  grind
section
variable {p:ProgV} {n:Nat} {x z:List Rat}
theorem rev_len:p.rev.vars.length=p.vars.length/\p.rev.rows.length=p.rows.length:=by simp [ProgV.rev]
theorem rev_v {i:Nat} (hi:i<p.vars.length):p.rev.v i=p.v (p.vars.length - 1 - i):=by
 unfold ProgV.v ProgV.rev
 rw [List.getD_eq_getElem?_getD,List.getD_eq_getElem?_getD,List.getElem?_reverse hi]
theorem rev_r {i:Nat} (hi:i<p.rows.length):p.rev.r i=(p.r (p.rows.length - 1 - i)).rev p.vars.length:=by
 unfold ProgV.r ProgV.rev
 rw [List.getD_eq_getElem?_getD,List.getD_eq_getElem?_getD,List.getElem?_map,List.getElem?_reverse hi,List.getElem?_eq_getElem (by omega)]
 rfl
theorem at_rev {i:Nat} (hi:i<n):atQ (revX n x) (i:Int)=atQ x ((n - 1 - i:Nat):Int):=atQ_listTo _ hi
theorem clip_rev:clipQ p.rev (revX p.vars.length x)=revX p.vars.length x:=by
 unfold clipQ
 rw [rev_len.1]
 exact List.take_of_length_le (by unfold revX; rw [listTo_length]; exact Nat.le_refl _)
theorem dot_rev {ts:List TermV} (h:∀ k,k<ts.length->0<=(ts.getD k term0).var/\(ts.getD k term0).var<n):dotQ (ts.reverse.map (TermV.rev n)) (revX n x)=dotQ ts x:=by
 unfold dotQ
 rw [<- sumTo_rev (fun k=>((ts.getD k term0).coef:Rat)*atQ x (ts.getD k term0).var)]
 rw [List.length_map,List.length_reverse]
 refine sumTo_congr fun k hk=>?_
 have e:(ts.reverse.map (TermV.rev n)).getD k term0=(ts.getD (ts.length - 1 - k) term0).rev n:=by
  rw [List.getD_eq_getElem?_getD,List.getD_eq_getElem?_getD,List.getElem?_map,List.getElem?_reverse hk,List.getElem?_eq_getElem (by omega)]
  rfl
 rw [e]
 obtain ⟨h1,h2⟩:=h (ts.length - 1 - k) (by omega)
 generalize ts.getD (ts.length - 1 - k) term0=t at *
 obtain ⟨m,hm⟩:∃ m:Nat,t.var=m:=⟨t.var.toNat,by omega⟩
 show (t.coef:Rat)*atQ (revX n x) ((n:Int) - 1 - t.var)=_
 rw [hm,show (n:Int) - 1 - (m:Int)=((n - 1 - m:Nat):Int) by omega,at_rev (by omega),show n - 1 - (n - 1 - m)=m by omega]
theorem cost_rev:costQ p.rev (revX p.vars.length x)=costQ p x:=by
 unfold costQ
 rw [rev_len.1,<- sumTo_rev (fun i=>((p.v i).co:Rat)*atQ x i)]
 exact sumTo_congr fun i hi=>by rw [rev_v hi,at_rev hi]
end
theorem termsB_iff {n:Int}:∀ {l:List TermV} {last:Int},termsB n last l=true↔(∀ t ∈ l,last<t.var/\t.var<n/\t.coef≠0/\limB t.coef=true)/\l.Pairwise (fun a b=>a.var<b.var)
 | [],last=>by simp [termsB]
 | t :: l,last=>by
  unfold termsB
  simp only [Bool.and_eq_true,decide_eq_true_eq,Bool.not_eq_true',decide_eq_false_iff_not]
  rw [termsB_iff (l:=l),List.pairwise_cons]
  constructor
  ·rintro ⟨⟨⟨⟨h1,h2⟩,h3⟩,h4⟩,h5,h6⟩
   refine ⟨fun x hx=>?_,fun x hx=>(h5 x hx).1,h6⟩
   rcases List.mem_cons.1 hx with rfl | hx
   ·exact ⟨h1,h2,h3,h4⟩
   ·obtain ⟨a1,a2⟩:=h5 x hx
    exact ⟨by omega,a2⟩
  ·rintro ⟨h1,h2,h3⟩
   obtain ⟨a1,a2,a3,a4⟩:=h1 t (List.mem_cons_self ..)
   exact ⟨⟨⟨⟨a1,a2⟩,a3⟩,a4⟩,fun x hx=>⟨h2 x hx,(h1 x (List.mem_cons_of_mem _ hx)).2⟩,h3⟩
section
variable {p:ProgV} {n:Nat} {r:RowV} {x z:List Rat}
theorem rowB_rev (h:rowB n r=true):rowB n (r.rev n)=true:=by
 unfold rowB at h ⊢
 simp only [Bool.and_eq_true] at h ⊢
 refine ⟨h.1,?_⟩
 obtain ⟨h1,h2⟩:=termsB_iff.1 h.2
 refine termsB_iff.2 ⟨fun t ht=>?_,?_⟩
 ·obtain ⟨s,hs,rfl⟩:=List.mem_map.1 ht
  obtain ⟨a1,a2,a3,a4⟩:=h1 s (List.mem_reverse.1 hs)
  refine ⟨?_,?_,a3,a4⟩
  ·show -1<(n:Int) - 1 - s.var
   omega
  ·show (n:Int) - 1 - s.var<n
   omega
 ·show (r.terms.reverse.map (TermV.rev n)).Pairwise _
  rw [List.pairwise_map,List.pairwise_reverse]
  exact h2.imp (fun {a b} hab=>by
   show (n:Int) - 1 - b.var<(n:Int) - 1 - a.var
   omega)
theorem valid_rev (hv:validB p=true):validB p.rev=true:=by
 unfold validB at hv ⊢
 simp only [Bool.and_eq_true,decide_eq_true_eq] at hv ⊢
 refine ⟨⟨⟨by rw [rev_len.1]; exact hv.1.1.1,by rw [rev_len.2]; exact hv.1.1.2⟩,?_⟩,?_⟩
 ·show p.vars.reverse.all varB=true
  rw [List.all_reverse]; exact hv.1.2
 ·rw [rev_len.1]
  show (p.rows.reverse.map (RowV.rev p.vars.length)).all (rowB p.vars.length)=true
  rw [List.all_map,List.all_reverse,List.all_eq_true]
  intro r hr
  exact rowB_rev (List.all_eq_true.1 hv.2 r hr)
theorem row_vars (hv:validB p=true) {i:Nat} (hi:i<p.rows.length):∀ k,k<(p.r i).terms.length->0<=((p.r i).terms.getD k term0).var/\((p.r i).terms.getD k term0).var<p.vars.length:=fun k hk=>by
 have h:=valid_row hv hi
 unfold rowB at h
 simp only [Bool.and_eq_true] at h
 obtain ⟨a1,a2,_⟩:=(termsB_iff.1 h.2).1 _ (show (p.r i).terms.getD k term0 ∈ (p.r i).terms by
  rw [List.getD_eq_getElem?_getD,List.getElem?_eq_getElem hk]
  exact List.getElem_mem hk)
 exact ⟨by omega,a2⟩
theorem inside_rev (h:insideB p x=true):insideB p.rev (revX p.vars.length x)=true:=by
 unfold insideB at h ⊢
 rw [rev_len.1]
 refine allTo_iff.2 fun i hi=>?_
 have:=allTo_iff.1 h (p.vars.length - 1 - i) (by omega)
 rw [rev_v hi,at_rev hi]
 exact this
theorem feas_rev (h:feasB p x=true):feasB p.rev (revX p.vars.length x)=true:=by
 obtain ⟨hv,h1,h2⟩:=feas_rows h
 unfold feasB
 rw [valid_rev hv,inside_rev h1]
 have h3:violQ p.rev (revX p.vars.length x)=[]:=violN_nil.2 fun i hi=>by
  rw [rev_len.2] at hi
  rw [clip_rev,rev_r hi]
  unfold holdsB
  show kindB (p.r (p.rows.length - 1 - i)).kind (dotQ ((p.r (p.rows.length - 1 - i)).terms.reverse.map (TermV.rev p.vars.length)) (revX p.vars.length x)) _=true
  rw [dot_rev (row_vars hv (by omega))]
  exact h2 _ (by omega)
 rw [h3]; rfl
theorem revX_clip:revX p.vars.length (clipQ p z)=revX p.vars.length z:=by
 unfold revX listTo
 refine List.map_congr_left fun i hi=>?_
 rw [atQ_clip p z (by have:=List.mem_range.1 hi; omega)]
theorem unb_rev (hv:validB p=true) (h:unbB p x z=true):unbB p.rev (revX p.vars.length x) (revX p.vars.length z)=true:=by
 unfold unbB at h ⊢
 simp only [Bool.and_eq_true,decide_eq_true_eq] at h ⊢
 obtain ⟨⟨⟨h1,h2⟩,h3⟩,h4⟩:=h
 refine ⟨⟨⟨feas_rev h1,by rw [cost_rev]; exact h2⟩,?_⟩,?_⟩
 ·unfold rayB at h3 ⊢
  rw [rev_len.1]
  refine allTo_iff.2 fun i hi=>?_
  have:=allTo_iff.1 h3 (p.vars.length - 1 - i) (by omega)
  rw [rev_v hi,at_rev hi]
  exact this
 ·unfold zeroB at h4 ⊢
  rw [rev_len.2]
  refine allTo_iff.2 fun i hi=>?_
  have:=allTo_iff.1 h4 (p.rows.length - 1 - i) (by omega)
  rw [clip_rev,rev_r hi]
  show kindB (p.r (p.rows.length - 1 - i)).kind (dotQ ((p.r (p.rows.length - 1 - i)).terms.reverse.map (TermV.rev p.vars.length)) (revX p.vars.length z)) 0=true
  rw [<- revX_clip,dot_rev (row_vars hv (by omega))]
  exact this
theorem map_rev_rev {α:Type} {f:α->α} (h:∀ x,f (f x)=x) (l:List α):(l.reverse.map f).reverse.map f=l:=by
 rw [<- List.map_reverse,List.reverse_reverse,List.map_map,show f ∘ f=id from funext h,List.map_id]
theorem rev_rev (p:ProgV):p.rev.rev=p:=by
 obtain ⟨vs,rs⟩:=p
 have h1:∀ (n:Nat) (t:TermV),(t.rev n).rev n=t:=fun n t=>by
  obtain ⟨v,c⟩:=t
  show (⟨(n:Int) - 1 - ((n:Int) - 1 - v),c⟩:TermV)=_
  rw [show (n:Int) - 1 - ((n:Int) - 1 - v)=v by omega]
 have h2:∀ (n:Nat) (r:RowV),(r.rev n).rev n=r:=fun n r=>by
  obtain ⟨nm,g,k,ts,b⟩:=r
  show (⟨nm,g,k,(ts.reverse.map (TermV.rev n)).reverse.map (TermV.rev n),b⟩:RowV)=_
  rw [map_rev_rev (h1 n)]
 show (⟨vs.reverse.reverse,(rs.reverse.map (RowV.rev vs.length)).reverse.map (RowV.rev vs.reverse.length)⟩:ProgV)=_
 rw [List.reverse_reverse,List.length_reverse,map_rev_rev (h2 _)]
theorem maps_rev (hv:validB p=true):MapsTo p p.rev (revX p.vars.length):=⟨fun x h=>⟨feas_rev h,cost_rev⟩,fun x z h=>unb_rev hv h⟩
theorem order_law {a b:OutV} (hv:validB p=true) (ha:chkB p a=true) (hka:0<=a.kind/\a.kind<=2) (hb:chkB p.rev b=true) (hkb:0<=b.kind/\b.kind<=2):a.kind=b.kind/\a.val=b.val:=by
 have h:=maps_rev (valid_rev hv)
 rw [rev_rev] at h
 exact map_law (maps_rev hv) h ha hka hb hkb
end
section
variable {β:Type} {f:β->List Value} {T:TypeId}
def SOwn (f:β->List Value) (T:TypeId) (w:World) (base:Nat) (v:Value) (l:List β):Prop:=w.ownsRow base T 5 v l.length (l.flatMap f)
theorem SOwn.keep {w w':World} {base:Nat} {v:Value} {l:List β} (h:SOwn f T w base v l) (hx:XF w w'):SOwn f T w' base v l:=ownsRow_ext h hx (fun _ _ h=>h)
theorem SOwn.lt {w:World} {base:Nat} {v:Value} {l:List β} (h:SOwn f T w base v l):∀ g,v.ownBlock=some g->base<=g/\g<w.heap.size:=World.ownsRow.lt h
theorem SOwn.shape {w:World} {base:Nat} {v:Value} {l:List β} (h:SOwn f T w base v l):∃ ao cap,v=.slice ao l.length cap:=ownsRow_shape h
def SArr (f:β->List Value) (T:TypeId) (w:World) (g:Nat) (l:List β):Prop:=∃ cur,blk w g=some (.cells cur T (0,0))/\∀ k x,l[k]?=some x->∀ j,j<5->cur[k*5+j]?=(f x)[j]?
theorem SArr.cell {w:World} {g:Nat} {l:List β} (hf:∀ x,(f x).length=5) (h:SArr f T w g l) {k:Nat} {x:β} (hk:l[k]?=some x) {j:Nat} {u:Value} (hu:(f x)[j]?=some u):w.cell? ⟨g,k*5+j,none⟩=some u/\w.frozen? ⟨g,k*5+j,none⟩=false:=by
 obtain ⟨cur,h1,h2⟩:=h
 have hj:j<5:=by rw [<- hf x]; exact (List.getElem?_eq_some_iff.1 hu).1
 exact ⟨by rw [cell_of_cells h1,h2 k x hk j hj]; exact hu,free_of_cells h1 _⟩
theorem SArr.sl {w:World} {g:Nat} {l:List β} {c:Nat} (hf:∀ x,(f x).length=5) (h:SArr f T w g l) (hc:l.length<=c) (hm:c<=maxLen):Sl w (.slice (some ⟨g,0,none⟩) l.length c) 5 (l.map f):=by
 refine ⟨some ⟨g,0,none⟩,c,by rw [List.length_map],by rw [List.length_map]; exact hc,hm,(fun e=>by cases e),fun _=>⟨g,0,rfl,?_,fun i r hi j u hu=>?_⟩⟩
 ·obtain ⟨cur,h1,_⟩:=h; exact blk_lt h1
 ·rw [List.getElem?_map] at hi
  obtain ⟨x,hx,rfl⟩:=Option.map_eq_some_iff.1 hi
  rw [Nat.zero_add]
  exact (h.cell hf hx hu).1
theorem SOwn.arr {w:World} {base:Nat} {ao:Option Addr} {n c:Nat} {l:List β} (hf:∀ x,(f x).length=5) (h:SOwn f T w base (.slice ao n c) l):(n=0/\l=[]/\(ao=none->c=0)/\c<=maxLen)∨∃ g,ao=some ⟨g,0,none⟩/\base<=g/\n=l.length/\n<=c/\c<=maxLen/\SArr f T w g l:=by
 rcases h.2 with ⟨e,h0⟩ | ⟨g,cap,cur,e,hb,hg,hnc,hcm,hcs,htake⟩
 ·cases e
  exact .inl ⟨rfl,List.eq_nil_of_length_eq_zero h0,fun _=>rfl,Nat.zero_le _⟩
 ·cases e
  refine .inr ⟨g,rfl,hb,rfl,hnc,hcm,cur,hg,fun k x hk j hj=>?_⟩
  have hkl:k<l.length:=(List.getElem?_eq_some_iff.1 hk).1
  have hget:=fm_get (f:=f) (m:=5) hf l k hk j hj
  rw [<- htake,List.getElem?_take,if_pos (by omega),Array.getElem?_toList] at hget
  exact hget
theorem SOwn.sl {w:World} {base:Nat} {v:Value} {l:List β} (hf:∀ x,(f x).length=5) (h:SOwn f T w base v l):Sl w v 5 (l.map f):=by
 obtain ⟨ao,cap,rfl⟩:=h.shape
 rcases h.arr hf with ⟨h0,rfl,hc,hm⟩ | ⟨g,rfl,_,_,h1,h2,h3⟩
 ·exact ⟨ao,cap,rfl,Nat.zero_le _,hm,hc,fun h=>absurd h (Nat.lt_irrefl 0)⟩
 ·exact h3.sl hf h1 h2
end
abbrev RT:=RowV × Value
def cRT (y:RT):List Value:=cR y.1 y.2
theorem cV_len (x:VarV):(cV x).length=5:=rfl
theorem cRT_len (x:RT):(cRT x).length=5:=rfl
section
variable {B:Nat} {y:RT} {oa:Option (List VarV)} {ob:Option (List RT)} {c d:Bool} {w5 w w':World} {vA vB vC vD:Value}
end
theorem Tryz.infoVar:(Tryz.prog.info? 63).map (fun i=>(i.zero,i.size,i.bytes))=some (some (.agg #[.int .i64 0,.int .i64 0,.bool false,.bool false,.int .i64 0]),5,32):=by kernel_rfl
theorem Tryz.infoRow:(Tryz.prog.info? 58).map (fun i=>(i.zero,i.size,i.bytes))=some (some (.agg #[.string ⟨#[]⟩,.int .i64 0,.int .i64 0,.slice none 0 0,.int .i64 0]),5,64):=by kernel_rfl
section
variable {β:Type} {f:β->List Value} {T ts:TypeId}
end
theorem cV_one (x:VarV):∀ u ∈ cV x,u.oneCell'=true:=fun u hu=>by
 simp [cV] at hu
 rcases hu with rfl | rfl | rfl | rfl | rfl <;> rfl
theorem cRT_one {y:RT} {ao:Option Addr} {n c:Nat} (h:y.2=.slice ao n c):∀ u ∈ cRT y,u.oneCell'=true:=fun u hu=>by
 simp [cRT,cR] at hu
 rcases hu with rfl | rfl | rfl | rfl | rfl <;> first | rfl | (rw [h]; rfl)
theorem Rws.ofPairs {w:World} {v:Value} {prs:List RT} (h:Sl w v 5 (prs.map cRT)) (hT:∀ y ∈ prs,Tms w y.2 y.1.terms/\RowOk y.1):Rws w v (prs.map (·.1)):=by
 refine ⟨prs.map (·.2),by simp,?_,fun i r tv hr ht=>?_⟩
 ·have:List.zipWith cR (prs.map (·.1)) (prs.map (·.2))=prs.map cRT:=by
   rw [List.zipWith_map,List.zipWith_self]; rfl
  rw [this]; exact h
 ·rw [List.getElem?_map] at hr ht
  obtain ⟨y,hy,rfl⟩:=Option.map_eq_some_iff.1 hr
  rw [hy] at ht
  cases ht
  exact hT y (List.mem_of_getElem? hy)
theorem prg_of {w:World} {va vb:Value} {vars:List VarV} {l:List RT} (h1:Sl w va 5 (vars.map cV)) (h2:∀ x ∈ vars,VarOk x) (h3:Sl w vb 5 (l.map cRT)) (h4:∀ y ∈ l,Tms w y.2 y.1.terms/\RowOk y.1):IsPrg w (.agg #[va,vb]) ⟨vars,l.map (·.1)⟩:=⟨_,_,rfl,⟨h1,h2⟩,Rws.ofPairs h3 h4⟩
theorem Solve_six (w:World) (pv:Value) (p:ProgV) (hp:IsPrg w pv p) (hn:p.vars.length<=6) (hm:p.rows.length<=100):Calls Tryz.prog 37 #[pv] w (SolvePost w p 1200):=by
 have h1:(p.vars.length+1)*(168+8)<=7*(168+8):=Nat.mul_le_mul_right _ (by omega)
 have h2:(p.vars.length+1)*(168+1)<=7*(168+1):=Nat.mul_le_mul_right _ (by omega)
 have h3:p.vars.length*(168+6)<=6*(168+6):=Nat.mul_le_mul_right _ hn
 exact Solve_any w pv p 168 1200 hp (fun hv=>bndAll6 hv hn) (by omega) (by omega) (by omega) (by omega) (by omega) (by omega) (by omega) (by omega)
theorem wpList_append_el {w:World} {ops:Array Oper} {rest:List Oper} {o:Oper} {a:Act} {Q:Exit->Act->World->Prop} {β:Type} {f:β->List Value} {T ts:TypeId} {z:Value} {size bytes:Nat} (hgd:o.guard=none) (s x:Operand)
  (ho:o.op=.call { callee:=.builtin .append,args:=#[s,x],argTypes:=#[ts,ts] }) (hf:∀ x,(f x).length=size) (x0:β) (h1:∀ u ∈ f x0,u.oneCell'=true) (ht:Tryz.prog.underlying ts=some (.slice T)) (hi:(Tryz.prog.info? T).map (fun i=>(i.zero,i.size,i.bytes))=some (some z,size,bytes)) (hz:z.cells.size=size) (hsz:0<size) (hbs:bytes<=1000)
  (base:Nat) (v:Value) (l:List β) (hs:a.eval s=v) (hown:w.ownsRow base T size v l.length (l.flatMap f)) (ad:Addr) (c:Nat) (hx:a.eval x=.slice (some ad) 1 c) (hsrc:∀ j u,(f x0)[j]?=some u->w.cell? (ad.add j)=some u) (hl:l.length<=100000) (hbase:base<=w.heap.size)
  (h:∀ v' w',w'.ownsRow base T size v' (l++[x0]).length ((l++[x0]).flatMap f)->Ext (fun k=>v.ownBlock=some k) w w'->(v'.ownBlock=v.ownBlock∨v'.ownBlock=some w.heap.size)->wpList Tryz.prog ops Q rest (a.put o.dst v') w') :
  wpList Tryz.prog ops Q (o :: rest) a w:=by
 obtain ⟨i0,hi0,hz0,hz1,hz2⟩:=info_parts hi
 refine wpList_append_any hgd s x ts ho base T i0 z size bytes ht hi0 hz0 hz1 hz2 hz hsz v l.length (l.flatMap f) hs hown (some ad) 1 c (fun e=>by cases e) (f x0) hx (by rw [hf,Nat.one_mul]) (.inr ⟨ad,rfl,hsrc⟩) h1 (by unfold maxLen; omega) (Nat.le_trans (Nat.mul_le_mul (show l.length+1<=100001 by omega) hbs) (by decide)) hbase (fun v' w' g1 g2 g3=>h v' w' ?_ ?_ g3)
 ·rw [List.length_append,List.flatMap_append]
  simpa using g1
 ·exact (Ext.refl (fun k=>v.ownBlock=some k) w).grown g2 (fun k hk _=>hk)
section
variable {w3 w w':World} {gb:Nat} {v v' rv:Value} {l l':List VarV}
end
theorem Tryz.infoTerm:(Tryz.prog.info? 76).map (fun i=>(i.zero,i.size,i.bytes))=some (some (.agg #[.int .i64 0,.int .i64 0]),2,16):=by kernel_rfl
theorem cT_len (t:TermV):(cT t).length=2:=rfl
theorem cT_one (t:TermV):∀ u ∈ cT t,u.oneCell'=true:=fun u hu=>by
 simp [cT] at hu
 rcases hu with rfl | rfl <;> rfl
theorem step_append_el {w:World} {ops:Array Oper} {o:Oper} {a:Act} {K:Act->World->Prop} {Q:Exit->Act->World->Prop} {E:Prop} {β:Type} {f:β->List Value} {T ts:TypeId} {z:Value} {size bytes:Nat} (hgd:o.guard=none) (s x:Operand)
  (ho:o.op=.call { callee:=.builtin .append,args:=#[s,x],argTypes:=#[ts,ts] }) (hf:∀ x,(f x).length=size) (x0:β) (h1:∀ u ∈ f x0,u.oneCell'=true) (ht:Tryz.prog.underlying ts=some (.slice T)) (hi:(Tryz.prog.info? T).map (fun i=>(i.zero,i.size,i.bytes))=some (some z,size,bytes)) (hz:z.cells.size=size) (hsz:0<size) (hbs:bytes<=1000)
  (base:Nat) (v:Value) (l:List β) (hs:a.eval s=v) (hown:w.ownsRow base T size v l.length (l.flatMap f)) (ad:Addr) (c:Nat) (hx:a.eval x=.slice (some ad) 1 c) (hsrc:∀ j u,(f x0)[j]?=some u->w.cell? (ad.add j)=some u) (hl:l.length<=100000) (hbase:base<=w.heap.size)
  (h:∀ v' w',w'.ownsRow base T size v' (l++[x0]).length ((l++[x0]).flatMap f)->Ext (fun k=>v.ownBlock=some k) w w'->(v'.ownBlock=v.ownBlock∨v'.ownBlock=some w.heap.size)->K (a.put o.dst v') w') :
  if Region.wanted o (yielded ops a.tmps)=true then Oper.wp Tryz.prog o a w K Q else E:=by
 obtain ⟨i0,hi0,hz0,hz1,hz2⟩:=info_parts hi
 refine step_append_any hgd s x ts ho base T i0 z size bytes ht hi0 hz0 hz1 hz2 hz hsz v l.length (l.flatMap f) hs hown (some ad) 1 c (fun e=>by cases e) (f x0) hx (by rw [hf,Nat.one_mul]) (.inr ⟨ad,rfl,hsrc⟩) h1 (by unfold maxLen; omega) (Nat.le_trans (Nat.mul_le_mul (show l.length+1<=100001 by omega) hbs) (by decide)) hbase (fun v' w' g1 g2 g3=>h v' w' ?_ ?_ g3)
 ·rw [List.length_append,List.flatMap_append]
  simpa using g1
 ·exact (Ext.refl (fun k=>v.ownBlock=some k) w).grown g2 (fun k hk _=>hk)
theorem own_ty {w:World} {base:Nat} {T:TypeId} {s n:Nat} {v:Value} {xs:List Value} (h:w.ownsRow base T s v n xs):∀ g,v.ownBlock=some g->TyB w g T:=fun g hg=>by
 rcases h.2 with ⟨rfl,_⟩ | ⟨g2,cap,cur,rfl,_,h2,_⟩
 ·cases hg
 ·cases hg; exact ⟨_,h2⟩
theorem own_down {w:World} {b b' s n:Nat} {T:TypeId} {v:Value} {xs:List Value} (h:w.ownsRow b T s v n xs) (hb:b'<=b):w.ownsRow b' T s v n xs:=by
 refine ⟨h.1,?_⟩
 rcases h.2 with h | ⟨g,cap,cur,e,h1,h2⟩
 ·exact .inl h
 ·exact .inr ⟨g,cap,cur,e,Nat.le_trans hb h1,h2⟩
theorem own_sl {β:Type} {f:β->List Value} {m:Nat} {w:World} {base:Nat} {T:TypeId} {v:Value} {l:List β} (hf:∀ x,(f x).length=m) (h:w.ownsRow base T m v l.length (l.flatMap f)):Sl w v m (l.map f):=by
 rcases h.2 with ⟨rfl,h0⟩ | ⟨g,cap,cur,rfl,hb,hg,hnc,hcm,hcs,htake⟩
 ·exact ⟨none,0,by rw [List.length_map,h0],by rw [List.length_map,h0]; exact Nat.le_refl _,by unfold maxLen; decide,fun _=>rfl,fun h=>by rw [List.length_map,h0] at h; exact absurd h (Nat.lt_irrefl 0)⟩
 ·refine ⟨some ⟨g,0,none⟩,cap,by rw [List.length_map],by rw [List.length_map]; exact hnc,hcm,(fun e=>by cases e),fun _=>⟨g,0,rfl,blk_lt hg,fun i r hi j u hu=>?_⟩⟩
  rw [List.getElem?_map] at hi
  obtain ⟨x,hx,rfl⟩:=Option.map_eq_some_iff.1 hi
  have hj:j<m:=by rw [<- hf x]; exact (List.getElem?_eq_some_iff.1 hu).1
  have hget:=fm_get hf l i hx j hj
  rw [hu,<- htake,List.getElem?_take] at hget
  rw [Nat.zero_add,cell_of_cells hg,<- Array.getElem?_toList]
  split at hget
  ·exact hget
  ·cases hget
structure OrSt (w3 w:World) (gb:Nat) (va v:Value) (vars:List VarV) (prs:List RT):Prop where
 ext:XF w3 w
 box:blk w gb=some (.cells #[va,v] 25 (0,0))
 low:w3.heap.size<=gb
 vown:SOwn cV 63 w (gb+1) va vars
 rown:SOwn cRT 58 w (gb+1) v prs
 done:∀ y ∈ prs,w.ownsRow (gb+1) 76 2 y.2 y.1.terms.length (y.1.terms.flatMap cT)/\(∀ t ∈ y.1.terms,TermOk t)/\RowOk y.1
section
variable {w3 w w':World} {gb:Nat} {va v v':Value} {vars vars':List VarV} {prs:List RT} {y:RT}
theorem OrSt.keep (h:OrSt w3 w gb va v vars prs) (hx:XF w w'):OrSt w3 w' gb va v vars prs :=
 ⟨h.ext.trans hx,blk_keep h.box hx,h.low,h.vown.keep hx,h.rown.keep hx,fun y hy=>⟨ownsRow_ext (h.done y hy).1 hx (fun _ _ e=>e),(h.done y hy).2⟩⟩
theorem OrSt.vrow (h:OrSt w3 w gb va v vars prs):w.ownsRow (gb+1) 63 5 va vars.length (vars.flatMap cV):=h.vown
theorem OrSt.rrow (h:OrSt w3 w gb va v vars prs):w.ownsRow (gb+1) 58 5 v prs.length (prs.flatMap cRT):=h.rown
theorem OrSt.size (h:OrSt w3 w gb va v vars prs):gb+1<=w.heap.size:=blk_lt h.box
theorem OrSt.boxV (h:OrSt w3 w gb va v vars prs) (hx:Ext (fun k=>va.ownBlock=some k) w w'):blk w' gb=some (.cells #[va,v] 25 (0,0)) :=
 (hx.blk (blk_lt h.box) (fun e=>by have:=(h.vown.lt gb e).1; omega)).trans h.box
theorem OrSt.boxR (h:OrSt w3 w gb va v vars prs) (hx:Ext (fun k=>v.ownBlock=some k) w w'):blk w' gb=some (.cells #[va,v] 25 (0,0)) :=
 (hx.blk (blk_lt h.box) (fun e=>by have:=(h.rown.lt gb e).1; omega)).trans h.box
theorem OrSt.pushV (h:OrSt w3 w gb va (.slice none 0 0) vars []) (hn:w'.ownsRow (gb+1) 63 5 v' vars'.length (vars'.flatMap cV)) (hx:Ext (fun k=>va.ownBlock=some k) w w'):OrSt w3 (w'.setCell ⟨gb,0,none⟩ v') gb v' (.slice none 0 0) vars' []:=by
 have hlt:=h.vown.lt
 have hlt':=World.ownsRow.lt hn
 have hx2:=(Ext.refl (fun k=>k=gb) w').setCell (p:=⟨gb,0,none⟩) v' (fun _=>rfl)
 have hlow:=h.low
 exact ⟨(h.ext.own hx (fun k e=>by have:=(hlt k e).1; omega)).own hx2 (fun k e=>by have e':k=gb:=e; omega),blk_setCell_same (h.boxV hx) 0 v',h.low,ownsRow_ext hn hx2 (fun g hg e=>by have:=(hlt' g hg).1; have e':g=gb:=e; omega),World.ownsRow_nil _ _ _ 5,fun y hy=>by cases hy⟩
theorem OrSt.pushR (h:OrSt w3 w gb va v vars prs) (hn:w'.ownsRow (gb+1) 58 5 v' (prs++[y]).length ((prs++[y]).flatMap cRT)) (hx:Ext (fun k=>v.ownBlock=some k) w w') (hy:w.ownsRow (gb+1) 76 2 y.2 y.1.terms.length (y.1.terms.flatMap cT)/\(∀ t ∈ y.1.terms,TermOk t)/\RowOk y.1) :
  OrSt w3 (w'.setCell ⟨gb,1,none⟩ v') gb va v' vars (prs++[y]):=by
 have hlt:=h.rown.lt
 have hlt':=World.ownsRow.lt hn
 have hx2:=(Ext.refl (fun k=>k=gb) w').setCell (p:=⟨gb,1,none⟩) v' (fun _=>rfl)
 have hlow:=h.low
 have hal:∀ z ∈ prs++[y],w.ownsRow (gb+1) 76 2 z.2 z.1.terms.length (z.1.terms.flatMap cT)/\(∀ t ∈ z.1.terms,TermOk t)/\RowOk z.1:=fun z hz=>by
  rcases List.mem_append.1 hz with e | e
  ·exact h.done z e
  ·rw [List.mem_singleton.1 e]; exact hy
 refine ⟨(h.ext.own hx (fun k e=>by have:=(hlt k e).1; omega)).own hx2 (fun k e=>by have e':k=gb:=e; omega),blk_setCell_same (h.boxR hx) 1 v',h.low,?_,ownsRow_ext hn hx2 (fun g hg e=>by have:=(hlt' g hg).1; have e':g=gb:=e; omega),fun z hz=>⟨?_,(hal z hz).2⟩⟩
 ·refine ownsRow_ext (ownsRow_ext h.vown hx (fun g hg e=>?_)) hx2 (fun g hg e=>by have:=(h.vown.lt g hg).1; have e':g=gb:=e; omega)
  exact TyB.ne (own_ty h.vown g hg) (own_ty h.rown g e) (by decide) rfl
 ·refine ownsRow_ext (ownsRow_ext (hal z hz).1 hx (fun g hg e=>?_)) hx2 (fun g hg e=>by have:=(World.ownsRow.lt (hal z hz).1 g hg).1; have e':g=gb:=e; omega)
  exact TyB.ne (own_ty (hal z hz).1 g hg) (own_ty h.rown g e) (by decide) rfl
theorem OrSt.prg (h:OrSt w3 w gb va v vars prs) (hv:∀ x ∈ vars,VarOk x):IsPrg w (.agg #[va,v]) ⟨vars,prs.map (·.1)⟩ :=
 prg_of (h.vown.sl cV_len) hv (h.rown.sl cRT_len) (fun y hy=>⟨⟨own_sl cT_len (h.done y hy).1,(h.done y hy).2.1⟩,(h.done y hy).2.2⟩)
end
structure IrSt (w0 w:World) (rb:Nat) (tv:Value) (nm:ByteArray) (gr kd bd:Int) (l:List TermV):Prop where
 ext:XF w0 w
 box:blk w rb=some (.cells #[.string nm,.int .i64 gr,.int .i64 kd,tv,.int .i64 bd] 58 (0,0))
 low:w0.heap.size<=rb
 own:w.ownsRow (rb+1) 76 2 tv l.length (l.flatMap cT)
section
variable {w0 w w':World} {rb:Nat} {tv tv':Value} {nm:ByteArray} {gr kd bd:Int} {l l':List TermV}
theorem IrSt.keep (h:IrSt w0 w rb tv nm gr kd bd l) (hx:XF w w'):IrSt w0 w' rb tv nm gr kd bd l:=⟨h.ext.trans hx,blk_keep h.box hx,h.low,ownsRow_ext h.own hx (fun _ _ e=>e)⟩
theorem IrSt.size (h:IrSt w0 w rb tv nm gr kd bd l):rb+1<=w.heap.size:=blk_lt h.box
theorem IrSt.boxT (h:IrSt w0 w rb tv nm gr kd bd l) (hx:Ext (fun k=>tv.ownBlock=some k) w w'):blk w' rb=some (.cells #[.string nm,.int .i64 gr,.int .i64 kd,tv,.int .i64 bd] 58 (0,0)) :=
 (hx.blk (blk_lt h.box) (fun e=>by have:=(World.ownsRow.lt h.own rb e).1; omega)).trans h.box
theorem IrSt.push (h:IrSt w0 w rb tv nm gr kd bd l) (hn:w'.ownsRow (rb+1) 76 2 tv' l'.length (l'.flatMap cT)) (hx:Ext (fun k=>tv.ownBlock=some k) w w'):IrSt w0 (w'.setCell ⟨rb,3,none⟩ tv') rb tv' nm gr kd bd l':=by
 have hlt:=World.ownsRow.lt h.own
 have hlt':=World.ownsRow.lt hn
 have hx2:=(Ext.refl (fun k=>k=rb) w').setCell (p:=⟨rb,3,none⟩) tv' (fun _=>rfl)
 have hlow:=h.low
 exact ⟨(h.ext.own hx (fun k e=>by have:=(hlt k e).1; omega)).own hx2 (fun k e=>by have e':k=rb:=e; omega),blk_setCell_same (h.boxT hx) 3 tv',h.low,ownsRow_ext hn hx2 (fun g hg e=>by have:=(hlt' g hg).1; have e':g=rb:=e; omega)⟩
end
theorem take_rev {α:Type} {l:List α} {i J:Nat} {x:α} (hi:i<l.length) (hJ:l.length - 1 - i=J) (hx:l[J]?=some x):l.reverse.take (i+1)=l.reverse.take i++[x]:=by
 rw [List.take_add_one,List.getElem?_reverse hi,hJ,hx]; rfl
theorem order_cases {p:ProgV} {a b:OutV} {e f:Int} (hv:validB p=true) (ha:SolveV p a e) (hb:SolveV p.rev b f):e=0/\f=0/\b.kind=a.kind/\b.val=a.val:=by
 obtain ⟨h1,h2,h3⟩:=ha.chk hv
 obtain ⟨h4,h5,h6⟩:=hb.chk (valid_rev hv)
 obtain ⟨k1,k2⟩:=order_law hv h2 h3 h5 h6
 exact ⟨h1,h4,k1.symm,k2.symm⟩
theorem order_core (w:World) (pv:Value) (p:ProgV) (hp:IsPrg w pv p):Calls Tryz.prog 12 #[pv] w (BoolPost w true):=by
 obtain ⟨vo,vn,vc,ro,rn,rc,rfl⟩:=hp.slices5
 have HLn:=bH (show p.vars.length=vn/\p.rows.length=rn from by
  obtain ⟨vv,rv,e,h,h2⟩:=hp
  cases e
  obtain ⟨_,_,e,_⟩:=h.shape
  obtain ⟨_,_,e2,_⟩:=h2.shape
  cases e; cases e2; exact ⟨rfl,rfl⟩)
 have hxa:=(Ext.refl (fun _=>False) w).alloc (.cells #[.slice vo vn vc,.slice ro rn rc] 25)
 have HB:=bH (bI (hp.keep hxa) (bI (blk_alloc_at w (.cells #[.slice vo vn vc,.slice ro rn rc] 25)) hxa))
 clear hp hxa
 go_enter Tryz.func12,Tryz.ntmps12
 go_upto_region 1 with fail
 generalize w.alloc (.cells #[.slice vo vn vc,.slice ro rn rc] 25)=w1 at *
 obtain ⟨pb,hpb⟩:∃ q,w.heap.size=q:=⟨_,rfl⟩
 rw [hpb] at HB ⊢
 clear hpb
 have p0:w1.cell? ⟨pb,0,none⟩=some (.slice vo vn vc):=cellq HB.out.2.1 0 rfl
 have p1:w1.cell? ⟨pb,1,none⟩=some (.slice ro rn rc):=cellq HB.out.2.1 1 rfl
 have HF:=bH (fun W (hW:XF w1 W)=>FewP_any W (.agg #[.slice vo vn vc,.slice ro rn rc]) p 6 8 (by decide) (by decide) (HB.out.1.keep hW))
 have HV:=bH (fun W (hW:XF w1 W)=>Valid4_any W (.agg #[.slice vo vn vc,.slice ro rn rc]) p (HB.out.1.keep hW))
 obtain ⟨fb,hfb⟩:∃ fb,fewP p 6 8=fb:=⟨_,rfl⟩
 rw [hfb] at HF
 have HFb:=bH hfb
 clear hfb
 cases fb with
 | false =>
  go_upto_region 2 with (first | (go_at_call 38; refine (awake5_any _).mono ?_; rintro q2 w2 ⟨rfl,hx2⟩; replace p0:=cell_keep p0 hx2; replace p1:=cell_keep p1 hx2) | (go_at_call 39; refine (HF.out _ hx2).mono ?_; rintro q3 w3 ⟨rfl,hx3⟩; replace p0:=cell_keep p0 hx3; replace p1:=cell_keep p1 hx3))
  go_wp2_with (go_at_call 38; refine (awake5_any _).mono ?_; rintro r8 w8 ⟨rfl,hx8⟩)
  go_ret
  exact ⟨rfl,(HB.out.2.2.trans (hx2.trans hx3)).trans hx8⟩
 | true =>
 obtain ⟨vb,hvb⟩:∃ vb,validB p=vb:=⟨_,rfl⟩
 rw [hvb] at HV
 have HVb:=bH hvb
 clear hvb
 cases vb with
 | false =>
  go_upto_region 2 with (first | (go_at_call 38; refine (awake5_any _).mono ?_; rintro q2 w2 ⟨rfl,hx2⟩; replace p0:=cell_keep p0 hx2; replace p1:=cell_keep p1 hx2) | (go_at_call 39; refine (HF.out _ hx2).mono ?_; rintro q3 w3 ⟨rfl,hx3⟩; replace p0:=cell_keep p0 hx3; replace p1:=cell_keep p1 hx3) | (go_at_call 36; refine (HV.out _ (hx2.trans hx3)).mono ?_; rintro q5 w5 ⟨rfl,hx5⟩; replace p0:=cell_keep p0 hx5; replace p1:=cell_keep p1 hx5))
  go_wp2_with (go_at_call 38; refine (awake5_any _).mono ?_; rintro r8 w8 ⟨rfl,hx8⟩)
  go_ret
  exact ⟨rfl,(HB.out.2.2.trans ((hx2.trans hx3).trans hx5)).trans hx8⟩
 | true =>
 go_upto_region 4 with (first | (go_at_call 38; refine (awake5_any _).mono ?_; rintro q2 w2 ⟨rfl,hx2⟩; replace p0:=cell_keep p0 hx2; replace p1:=cell_keep p1 hx2) | (go_at_call 39; refine (HF.out _ hx2).mono ?_; rintro q3 w3 ⟨rfl,hx3⟩; replace p0:=cell_keep p0 hx3; replace p1:=cell_keep p1 hx3) | (go_at_call 36; refine (HV.out _ (hx2.trans hx3)).mono ?_; rintro q5 w5 ⟨rfl,hx5⟩; replace p0:=cell_keep p0 hx5; replace p1:=cell_keep p1 hx5))
 have HX5:=bH ((hx2.trans hx3).trans hx5)
 clear hx2 hx3 hx5 HF HV
 obtain ⟨-,hn6,hm8⟩:=few_parts HFb.out
 rw [HLn.out.1] at hn6
 rw [HLn.out.2] at hm8
 have hVs:Vrs w5 (.slice vo vn vc) p.vars/\Rws w5 (.slice ro rn rc) p.rows:=by
  obtain ⟨vv,rv,e,h,h2⟩:=HB.out.1.keep HX5.out
  cases e
  exact ⟨h,h2⟩
 have HVs:=bH hVs
 clear hVs
 have HPb:=bH (blk_keep HB.out.2.1 HX5.out)
 have HQ0:=bH (show OrSt w5 (w5.alloc (.cells #[.slice none 0 0,.slice none 0 0] 25)) w5.heap.size (.slice none 0 0) (.slice none 0 0) [] [] from ⟨(Ext.refl (fun _=>False) w5).alloc _,blk_alloc_at _ _,Nat.le_refl _,World.ownsRow_nil _ _ _ 5,World.ownsRow_nil _ _ _ 5,fun y hy=>by cases hy⟩)
 go_upto_region 5 with fail
 generalize w5.alloc (.cells #[.slice none 0 0,.slice none 0 0] 25)=w4 at *
 generalize w5.heap.size=gb at *
 replace p0:=cell_keep p0 HQ0.out.ext
 go_wp2_with fail
 clear p0 p1
 go_loopg [34,5] vn (fun gg v34 v5 wr=>∃ (i:Nat) (va:Value),i<=vn/\gg=vn - i/\v34=.int .i64 i/\OrSt w5 wr gb va (.slice none 0 0) (p.vars.reverse.take i) [])
 case atStart=>exact ⟨0,_,Nat.zero_le _,rfl,rfl,HQ0.out⟩
 case round =>
  clear HQ0
  obtain ⟨i,va,hi,rfl,rfl,hs⟩:=hrel
  have HM:=bH hs
  clear hs
  by_cases hin:i<vn
  ·have i0:(i:Int)<(vn:Int):=by omega
   have i1:(0:Int)<=(i:Int):=by omega
   obtain ⟨V1,hV1⟩:∃ V1,vn - 1=V1:=⟨_,rfl⟩
   obtain ⟨J,hJ⟩:∃ J,V1 - i=J:=⟨_,rfl⟩
   have hJl:J<p.vars.length:=by rw [HLn.out.1]; omega
   have a1:IntKind.i64.wrap ((vn:Int) - 1)=(V1:Int):=(IntWalk.i64_in _ (by omega)).trans (by omega)
   have a2:IntKind.i64.wrap ((V1:Int) - (i:Int))=(J:Int):=(IntWalk.i64_in _ (by omega)).trans (by omega)
   have j0:(0:Int)<=(J:Int):=by omega
   have j1:(J:Int)<(vn:Int):=by omega
   obtain ⟨b,off,rfl,hlt,e0,e1,e2,e3,e4,-⟩:=HVs.out.1.atp J hJl
   have hgl:p.vars[J]?=some (p.v J):=by rw [List.getElem?_eq_getElem hJl,<- getD_lt hJl var0]; rfl
   have HTk:=bH (take_rev (i:=i) (by rw [HLn.out.1]; exact hin) (by rw [HLn.out.1]; omega) hgl)
   have HLl:=bH (show (p.vars.reverse.take i++[p.v J]).length=i+1 from by rw [List.length_append,List.length_take,List.length_reverse,HLn.out.1,Nat.min_eq_left (by omega)]; rfl)
   have hl5:=HM.out.low
   have hnb:∀ k,k<w5.heap.size->¬ va.ownBlock=some k:=fun k hk e=>by have:=(HM.out.vown.lt k e).1; omega
   have hpl:=blk_lt HPb.out
   have hgn:¬ va.ownBlock=some gb:=fun e=>by have:=(HM.out.vown.lt gb e).1; omega
   have c0:=cqo (S:=fun k=>va.ownBlock=some k) (cellq HM.out.box 0 rfl) hgn
   have c1:=cqo (S:=fun k=>va.ownBlock=some k) (cellq (blk_keep HPb.out HM.out.ext) 0 rfl) (hnb _ hpl)
   replace e0:=cqo (S:=fun k=>va.ownBlock=some k) (cell_keep e0 HM.out.ext) (hnb _ hlt)
   replace e1:=cqo (S:=fun k=>va.ownBlock=some k) (cell_keep e1 HM.out.ext) (hnb _ hlt)
   replace e2:=cqo (S:=fun k=>va.ownBlock=some k) (cell_keep e2 HM.out.ext) (hnb _ hlt)
   replace e3:=cqo (S:=fun k=>va.ownBlock=some k) (cell_keep e3 HM.out.ext) (hnb _ hlt)
   replace e4:=cqo (S:=fun k=>va.ownBlock=some k) (cell_keep e4 HM.out.ext) (hnb _ hlt)
   clear hV1 hJ hJl hgl hl5 hnb hpl hgn hlt
   go_upto_region 8 with fail
   refine mbegin 13 (Ext (fun k=>va.ownBlock=some k) wr) (by kernel_rfl) ((Ext.refl _ wr).drew) (fun hHeld=>?_)
   refine mu 0 (h:=(mu 1 (h:=(mu 2 (h:=(mu 3 (h:=(mu 4 (h:=(mu 5 (h:=(mu 6 (h:=(mu 7 (h:=(mu 8 (h:=(mu 9 (h:=?_)))))))))))))))))))
   (try go_frame)
   refine mst 10 (h:=fun K hK=>?_)
   go_simp
   have HM1:=bH (HM.out.keep (((Ext.refl (fun _=>False) wr).alloc (.cells #[.int .i64 (p.v J).lo,.int .i64 (p.v J).up,.bool (p.v J).op,.bool (p.v J).ig,.int .i64 (p.v J).co] 63)).drew))
   refine hK.out _ _ (hHeld.alloc _) (fun hHeld=>?_)
   clear hK K
   (try go_frame)
   refine mst 11 (h:=fun K hK=>?_)
   refine step_append_el (f:=cV) rfl (.tmp 38) (.tmp 47) rfl cV_len (p.v J) (cV_one _) Tryz.underlying22 Tryz.infoVar rfl (by decide) (by decide) (gb+1) va (p.vars.reverse.take i) rfl HM1.out.vrow ⟨wr.heap.size,0,none⟩ 1 rfl (alloc_src _ _ _) (by rw [List.length_take,List.length_reverse]; omega) HM1.out.size (fun v' w' g1 g2 g3=>?_)
   obtain ⟨ao',ac',e'⟩:=ownsRow_shape g1
   rw [HLl.out] at e'
   subst e'
   have HM2:=bH (HM1.out.pushV g1 g2)
   have HBx:=bH (HM1.out.boxV g2)
   refine hK.out _ _ (hHeld.trans g2) (fun hHeld=>?_)
   clear hK K
   (try go_frame)
   refine mu 12 (h:=?_)
   (try go_frame)
   have t0:=cellq HBx.out 0 rfl
   have f0:=free_of_cells HBx.out 0
   refine ml 13 (h:=fun K hK=>?_)
   go_simp
   refine hK.out _ _ ?_
   clear hK K
   (try go_frame)
   refine mdone (by kernel_rfl) ?_ _
   clear t0 f0 c0 c1 e0 e1 e2 e3 e4 a1 a2 hHeld HBx
   generalize w'.setCell ⟨gb,0,none⟩ (.slice ao' (i+1) ac')=w9 at *
   go_wp2
   go_roundg (vn - (i+1))
   case measure=>omega
   case rel=>exact ⟨i+1,_,by omega,rfl,by go_num,by rw [HTk.out]; exact HM2.out⟩
  ·obtain rfl:i=vn:=by omega
   have hti:p.vars.reverse.take i=p.vars.reverse:=List.take_of_length_le (by rw [List.length_reverse,HLn.out.1]; exact Nat.le_refl _)
   rw [hti] at HM
   clear hti
   have c1:=cellq (blk_keep HPb.out HM.out.ext) 1 rfl
   go_wp2_with fail
   clear c1
   go_loopg [54,6,7,8] rn (fun gg v54 v6 v7 v8 wr=>∃ (j:Nat) (v:Value) (prs:List RT),j<=rn/\gg=rn - j/\v54=.int .i64 j/\OrSt w5 wr gb va v p.vars.reverse prs/\prs.map (·.1)=(p.rows.reverse.take j).map (RowV.rev p.vars.length))
   case atStart=>exact ⟨0,_,[],Nat.zero_le _,rfl,rfl,HM.out,rfl⟩
   case round =>
    clear HM
    obtain ⟨j,v,prs,hj,rfl,rfl,hs,hprs⟩:=hrel
    have HM:=bH hs
    have HPs:=bH hprs
    clear hs hprs
    by_cases hjn:j<rn
    ·obtain ⟨wo,rfl⟩:∃ x,x=wr:=⟨_,rfl⟩
     have i0:(j:Int)<(rn:Int):=by omega
     have i1:(0:Int)<=(j:Int):=by omega
     obtain ⟨V1,hV1⟩:∃ V1,rn - 1=V1:=⟨_,rfl⟩
     obtain ⟨J,hJ⟩:∃ J,V1 - j=J:=⟨_,rfl⟩
     have hJl:J<p.rows.length:=by rw [HLn.out.2]; omega
     have a1:(rn:Int) - 1=(V1:Int):=by omega
     have a2:(V1:Int) - (j:Int)=(J:Int):=by omega
     have j0:(0:Int)<=(J:Int):=by omega
     have j1:(J:Int)<(rn:Int):=by omega
     obtain ⟨b,off,ta,tc,rfl,hlt,e0,e1,e2,e3,e4,hok,hT⟩:=(HVs.out.2.keep HM.out.ext).atp J hJl
     have hgl:p.rows[J]?=some (p.r J):=by rw [List.getElem?_eq_getElem hJl,<- getD_lt hJl row0]; rfl
     have HTk:=bH (take_rev (i:=j) (by rw [HLn.out.2]; exact hjn) (by rw [HLn.out.2]; omega) hgl)
     have HRv:=bH (row_vars HVb.out hJl)
     have HTl:=bH (show (p.r J).terms.length<=12 from (few_parts HFb.out).1.2 J hJl)
     have HTm:=bH hT
     have HOk:=bH hok
     have c1:=cellq (blk_keep HPb.out HM.out.ext) 1 rfl
     clear hJl hgl hok hT hlt
     obtain ⟨nm,hnm⟩:∃ x,(p.r J).name=x:=⟨_,rfl⟩
     obtain ⟨gr,hgr⟩:∃ x,(p.r J).group=x:=⟨_,rfl⟩
     obtain ⟨kd,hkd⟩:∃ x,(p.r J).kind=x:=⟨_,rfl⟩
     obtain ⟨bd,hbd⟩:∃ x,(p.r J).bound=x:=⟨_,rfl⟩
     obtain ⟨tl,htl⟩:∃ x,(p.r J).terms.length=x:=⟨_,rfl⟩
     have HRn:=bH (bI hnm (bI hgr (bI hkd (bI hbd htl))))
     rw [hnm] at e0
     rw [hgr] at e1
     rw [hkd] at e2
     rw [htl] at e3 HTm HTl
     rw [hbd] at e4
     clear hnm hgr hkd hbd htl
     have HI0:=bH (show IrSt wo (wo.alloc (.cells #[.string nm,.int .i64 gr,.int .i64 kd,.slice none 0 0,.int .i64 bd] 58)) wo.heap.size (.slice none 0 0) nm gr kd bd [] from
      ⟨(Ext.refl (fun _=>False) wo).alloc _,blk_alloc_at _ _,Nat.le_refl _,World.ownsRow_nil _ _ _ 2⟩)
     go_upto_region 16 with fail
     clear e0 e1 e2 e3 e4 c1 a1 a2 j0 j1
     generalize wo.alloc (.cells #[.string nm,.int .i64 gr,.int .i64 kd,.slice none 0 0,.int .i64 bd] 58)=w6 at *
     generalize wo.heap.size=rb at *
     go_wp2_with fail
     go_loopg [72,9,10] tl (fun gg v72 v9 v10 wr=>∃ (k:Nat) (tv:Value),k<=tl/\gg=tl - k/\v72=.int .i64 k/\IrSt wo wr rb tv nm gr kd bd (((p.r J).terms.reverse.take k).map (TermV.rev p.vars.length)))
     case atStart=>exact ⟨0,_,Nat.zero_le _,rfl,rfl,HI0.out⟩
     case round =>
      clear HI0
      obtain ⟨k,tv,hk,rfl,rfl,hs⟩:=hrel
      have HI:=bH hs
      clear hs
      by_cases hkn:k<tl
      ·have i0:(k:Int)<(tl:Int):=by omega
       have i1:(0:Int)<=(k:Int):=by omega
       obtain ⟨V2,hV2⟩:∃ V2,tl - 1=V2:=⟨_,rfl⟩
       obtain ⟨K,hK⟩:∃ K,V2 - k=K:=⟨_,rfl⟩
       have hKl:K<(p.r J).terms.length:=by rw [HRn.out.2.2.2.2]; omega
       have a1:(tl:Int) - 1=(V2:Int):=by omega
       have a2:(V2:Int) - (k:Int)=(K:Int):=by omega
       have j0:(0:Int)<=(K:Int):=by omega
       have j1:(K:Int)<(tl:Int):=by omega
       obtain ⟨bb,of2,rfl,hlt,e0,e1,hto⟩:=(HTm.out.keep HI.out.ext).atr K hKl
       have hgl:(p.r J).terms[K]?=some ((p.r J).t K):=by rw [List.getElem?_eq_getElem hKl,<- getD_lt hKl term0]; rfl
       have HTk2:=bH (take_rev (i:=k) (by rw [HRn.out.2.2.2.2]; exact hkn) (by rw [HRn.out.2.2.2.2]; omega) hgl)
       have hvr:=HRv.out K hKl
       rw [show (p.r J).terms.getD K term0=(p.r J).t K from rfl,HLn.out.1] at hvr
       obtain ⟨tvr,htv⟩:∃ x,((p.r J).t K).var=x:=⟨_,rfl⟩
       obtain ⟨tco,htc⟩:∃ x,((p.r J).t K).coef=x:=⟨_,rfl⟩
       obtain ⟨TV,hTV⟩:∃ x,(i:Int) - 1 - tvr=x:=⟨_,rfl⟩
       obtain ⟨N1,hN1⟩:∃ x,(i:Int) - 1=x:=⟨_,rfl⟩
       have hTV':N1 - tvr=TV:=by omega
       rw [htv] at e0 hvr
       rw [htc] at e1
       have HTe:=bH (show cT (((p.r J).t K).rev p.vars.length)=[.int .i64 TV,.int .i64 tco] from by
        rw [HLn.out.1]
        unfold cT TermV.rev
        dsimp only
        rw [htv,htc,hTV])
       have hk12:tl<=12:=HTl.out
       have hN2:-9223372036854775808<=N1/\N1<=9223372036854775807:=by omega
       have hT2:-9223372036854775808<=TV/\TV<=9223372036854775807:=by omega
       clear hlt hto hgl hvr htv htc hKl hTV
       have HI1:=bH (HI.out.keep ((Ext.refl (fun _=>False) wr).alloc (.cells #[.int .i64 tvr,.int .i64 tco] 76)))
       have HBt:=bH (blk_alloc_at wr (.cells #[.int .i64 tvr,.int .i64 tco] 76))
       go_upto_region 20 with fail
       clear e0 e1 a1 a2
       generalize wr.alloc (.cells #[.int .i64 tvr,.int .i64 tco] 76)=w8 at *
       generalize wr.heap.size=tb at *
       have HLl:=bH (show (((p.r J).terms.reverse.take k).map (TermV.rev p.vars.length)++[((p.r J).t K).rev p.vars.length]).length=k+1 from by rw [List.length_append,List.length_map,List.length_take,List.length_reverse,HRn.out.2.2.2.2,Nat.min_eq_left (by omega)]; rfl)
       have e0:=cellq HBt.out 0 rfl
       have e1:=cellq HBt.out 1 rfl
       have q0:=cellq HI1.out.box 3 rfl
       have q1:=free_of_cells HI1.out.box 3
       have HIa:=bH (HI1.out.keep ((Ext.refl (fun _=>False) w8).alloc (.cells #[.int .i64 TV,.int .i64 tco] 76)))
       go_wp2_with (at_builtin; refine wpList_append_el (f:=cT) rfl (.tmp 84) (.tmp 93) rfl cT_len (((p.r J).t K).rev p.vars.length) (cT_one _) Tryz.underlying56 Tryz.infoTerm rfl (by decide) (by decide) (rb+1) tv (((p.r J).terms.reverse.take k).map (TermV.rev p.vars.length)) rfl HIa.out.own ⟨w8.heap.size,0,none⟩ 1 rfl (by rw [HTe.out]; exact alloc_src0 _ _ _) (by rw [List.length_map,List.length_take,List.length_reverse]; omega) HIa.out.size ?_; intro v' w' g1 g2 g3; have HIb:=bH (HIa.out.push g1 g2); have q2:=cellq (HIa.out.boxT g2) 3 rfl; have q3:=free_of_cells (HIa.out.boxT g2) 3; obtain ⟨ao',ac',e'⟩:=ownsRow_shape g1; rw [HLl.out] at e'; subst e'; clear g1 g2 g3)
       go_roundg (tl - (k+1))
       case measure=>omega
       case rel=>exact ⟨k+1,_,by omega,rfl,by go_num,by rw [HTk2.out,List.map_append]; exact HIb.out⟩
      ·obtain rfl:k=tl:=by omega
       have hti:(p.r J).terms.reverse.take k=(p.r J).terms.reverse:=List.take_of_length_le (by rw [List.length_reverse,HRn.out.2.2.2.2]; exact Nat.le_refl _)
       rw [hti] at HI
       clear hti
       have HMs:=bH (HM.out.keep HI.out.ext)
       obtain ⟨ao,ac,htve⟩:=ownsRow_shape HI.out.own
       obtain ⟨ql,hql⟩:∃ x,(((p.r J).terms.reverse).map (TermV.rev p.vars.length)).length=x:=⟨_,rfl⟩
       rw [hql] at htve
       subst htve
       have HYd:=bH (show wr.ownsRow (gb+1) 76 2 (.slice ao ql ac) (((p.r J).rev p.vars.length).terms).length (((p.r J).rev p.vars.length).terms.flatMap cT)/\(∀ t ∈ ((p.r J).rev p.vars.length).terms,TermOk t)/\RowOk ((p.r J).rev p.vars.length) from
        ⟨own_down HI.out.own (by have:=HM.out.size; have:=HI.out.low; omega),fun t ht=>by
         obtain ⟨s,hs,rfl⟩:=List.mem_map.1 ht
         obtain ⟨n,hn,rfl⟩:=List.getElem_of_mem (List.mem_reverse.1 hs)
         have h1:=HRv.out n hn
         have h2:=(HTm.out.ok n hn).coef
         rw [RowV.t_at] at *
         rw [show (p.r J).terms.getD n term0=(p.r J).t n from rfl,HLn.out.1] at h1
         rw [HLn.out.1]
         exact ⟨(show InR ((i:Int) - 1 - ((p.r J).t n).var) from ⟨by omega,by omega⟩),h2⟩,⟨HOk.out.name,HOk.out.group,HOk.out.kind,HOk.out.bound⟩⟩)
       have HYc:=bH (show cRT ((p.r J).rev p.vars.length,.slice ao ql ac)=[.string nm,.int .i64 gr,.int .i64 kd,.slice ao ql ac,.int .i64 bd] from by
        unfold cRT cR RowV.rev
        dsimp only
        rw [HRn.out.1,HRn.out.2.1,HRn.out.2.2.1,HRn.out.2.2.2.1])
       have e0:=cellq HI.out.box 0 rfl
       have e1:=cellq HI.out.box 1 rfl
       have e2:=cellq HI.out.box 2 rfl
       have e3:=cellq HI.out.box 3 rfl
       have e4:=cellq HI.out.box 4 rfl
       have q0:=cellq HMs.out.box 1 rfl
       have q1:=free_of_cells HMs.out.box 1
       have hxr:=(Ext.refl (fun _=>False) wr).alloc (.cells #[.string nm,.int .i64 gr,.int .i64 kd,.slice ao ql ac,.int .i64 bd] 58)
       have HMa:=bH (HMs.out.keep hxr)
       have HYa:=bH (bI (ownsRow_ext HYd.out.1 hxr (fun _ _ e=>e)) HYd.out.2)
       clear hxr HM HI
       have hpl:prs.length=j:=by
        have h:=congrArg List.length HPs.out
        rw [List.length_map,List.length_map,List.length_take,List.length_reverse,HLn.out.2,Nat.min_eq_left (by omega)] at h
        exact h
       have HLl:=bH (show (prs++[((p.r J).rev p.vars.length,Value.slice ao ql ac)]).length=j+1 from by rw [List.length_append,hpl]; rfl)
       go_wp2_with (at_builtin; refine wpList_append_el (f:=cRT) rfl (.tmp 98) (.tmp 100) rfl cRT_len ((p.r J).rev p.vars.length,.slice ao ql ac) (cRT_one rfl) Tryz.underlying23 Tryz.infoRow rfl (by decide) (by decide) (gb+1) v prs rfl HMa.out.rrow ⟨wr.heap.size,0,none⟩ 1 rfl (by rw [HYc.out]; exact alloc_src0 _ _ _) (by omega) HMa.out.size ?_; intro v' w' g1 g2 g3; have HMb:=bH (HMa.out.pushR g1 g2 HYa.out); have q2:=cellq (HMa.out.boxR g2) 1 rfl; have q3:=free_of_cells (HMa.out.boxR g2) 1; obtain ⟨ao',ac',e'⟩:=ownsRow_shape g1; rw [HLl.out] at e'; subst e'; clear g1 g2 g3)
       go_roundg (rn - (j+1))
       case measure=>omega
       case rel=>exact ⟨j+1,_,_,by omega,rfl,by go_num,HMb.out,by rw [HTk.out,List.map_append,List.map_append,HPs.out]; rfl⟩
    ·obtain rfl:j=rn:=by omega
     have hti:p.rows.reverse.take j=p.rows.reverse:=List.take_of_length_le (by rw [List.length_reverse,HLn.out.2]; exact Nat.le_refl _)
     rw [hti] at HPs
     clear hti
     have HXt:=bH (HX5.out.trans HM.out.ext)
     have p0:=cellq (blk_keep HB.out.2.1 HXt.out) 0 rfl
     have p1:=cellq (blk_keep HB.out.2.1 HXt.out) 1 rfl
     have hQP:=HM.out.prg (fun x hx=>HVs.out.1.2 x (List.mem_reverse.1 hx))
     rw [HPs.out] at hQP
     have HQ:=bH (show IsPrg wr (.agg #[va,v]) p.rev from hQP)
     obtain ⟨qo,qn,qc,qo',qn',qc',e9⟩:=hQP.slices5
     injection e9 with e9
     injection e9 with e9
     injection e9 with e8 e9
     injection e9 with e9
     subst e8 e9
     have z0:=cellq HM.out.box 0 rfl
     have z1:=cellq HM.out.box 1 rfl
     clear hQP
     have HSoa:=bH (Solve_few wr _ p (HB.out.1.keep HXt.out) HFb.out)
     go_upto_region 25 with (go_at_call 37; refine HSoa.out.mono ?_; rintro r8 w8 ⟨v8,oa,e,rfl,hsv,hfar,hx8⟩; obtain rfl:e=0:=(hsv.chk HVb.out).1; obtain ⟨nga,a1a,m1a,c1a,a2a,m2a,c2a,pv5a,mv5a,rv5a,e5a,ho1,ho2,ho3,ho4,ho5⟩:=hfar.now; obtain ⟨poa,pca,rfl,-,-,-⟩:=ho2.shape; obtain ⟨moa,mca,rfl,-,-,-⟩:=ho3.shape; obtain ⟨zoa,zca,rfl,-,-,-⟩:=ho4.shape; subst e5a; have HO:=bH (bI ho1 hx8); have HSva:=bH hsv; replace z0:=cell_keep z0 hx8; replace z1:=cell_keep z1 hx8; clear hsv hfar hx8 ho1 ho2 ho3 ho4 ho5; generalize hkd:oa.kind=kda; have HKda:=bH hkd; clear hkd; generalize oa.pt.length=pna; generalize oa.mu.length=mna; generalize oa.ray.length=zna)
     have hxa:=(Ext.refl (fun _=>False) w8).alloc (.cells #[.int .i64 kda,.bool nga,.slice a1a m1a c1a,.slice a2a m2a c2a,.slice poa pna pca,.slice moa mna mca,.slice zoa zna zca] 34)
     have HWa:=bH (bI (blk_alloc_at w8 (.cells #[.int .i64 kda,.bool nga,.slice a1a m1a c1a,.slice a2a m2a c2a,.slice poa pna pca,.slice moa mna mca,.slice zoa zna zca] 34)) (bI (HO.out.2.trans hxa) (bI (HO.out.1.1.keep hxa) HO.out.1.2)))
     replace z0:=cell_keep z0 hxa
     replace z1:=cell_keep z1 hxa
     clear hxa HO
     generalize w8.alloc (.cells #[.int .i64 kda,.bool nga,.slice a1a m1a c1a,.slice a2a m2a c2a,.slice poa pna pca,.slice moa mna mca,.slice zoa zna zca] 34)=wa at *
     generalize w8.heap.size=oba at *
     clear p0 p1
     have HSob:=bH (Solve_six wa _ p.rev (HQ.out.keep HWa.out.2.1) (by rw [rev_len.1,HLn.out.1]; exact hn6) (by rw [rev_len.2,HLn.out.2]; omega))
     go_upto_region 26 with (go_at_call 37; refine HSob.out.mono ?_; rintro r8 w8 ⟨v8,ob,e,rfl,hsv,hfar,hx8⟩; obtain ⟨-,rfl,hlk,hlv⟩:=order_cases HVb.out HSva.out hsv; have HLw:=bH (bI hlk hlv); clear hlk hlv; obtain ⟨ngb,a1b,m1b,c1b,a2b,m2b,c2b,pv5b,mv5b,rv5b,e5b,ho1,ho2,ho3,ho4,ho5⟩:=hfar.now; obtain ⟨pob,pcb,rfl,-,-,-⟩:=ho2.shape; obtain ⟨mob,mcb,rfl,-,-,-⟩:=ho3.shape; obtain ⟨zob,zcb,rfl,-,-,-⟩:=ho4.shape; subst e5b; have HO:=bH (bI ho1 hx8); have HSvb:=bH hsv; clear hsv hfar hx8 ho1 ho2 ho3 ho4 ho5; generalize hkd:ob.kind=kdb; have HKdb:=bH hkd; clear hkd; generalize ob.pt.length=pnb; generalize ob.mu.length=mnb; generalize ob.ray.length=znb)
     have hxa:=(Ext.refl (fun _=>False) w8).alloc (.cells #[.int .i64 kdb,.bool ngb,.slice a1b m1b c1b,.slice a2b m2b c2b,.slice pob pnb pcb,.slice mob mnb mcb,.slice zob znb zcb] 34)
     have HWb:=bH (bI (blk_alloc_at w8 (.cells #[.int .i64 kdb,.bool ngb,.slice a1b m1b c1b,.slice a2b m2b c2b,.slice pob pnb pcb,.slice mob mnb mcb,.slice zob znb zcb] 34)) (bI (HO.out.2.trans hxa) (bI (HO.out.1.1.keep hxa) HO.out.1.2)))
     clear hxa HO
     generalize w8.alloc (.cells #[.int .i64 kdb,.bool ngb,.slice a1b m1b c1b,.slice a2b m2b c2b,.slice pob pnb pcb,.slice mob mnb mcb,.slice zob znb zcb] 34)=wb at *
     generalize w8.heap.size=obb at *
     have hlw:=HLw.out.1
     rw [HKda.out,HKdb.out] at hlw
     subst hlw
     have HVa:=bH (HWa.out.2.2.1.keep HWb.out.2.1)
     have hbl:=blk_keep HWa.out.1 HWb.out.2.1
     have HSm:=bH (show Calls Tryz.prog 44 #[.agg #[.bool nga,.slice a1a m1a c1a,.slice a2a m2a c2a],.agg #[.bool ngb,.slice a1b m1b c1b,.slice a2b m2b c2b]] wb (BoolPost wb true) from by
      have h:=Rrsame_any wb _ _ oa.val ob.val 1200 HVa.out HWb.out.2.2.1 HWa.out.2.2.2 HWb.out.2.2.2 (by decide)
      rw [HLw.out.2,decide_eq_true rfl] at h
      exact h)
     have g0:=cellq hbl 0 rfl
     have g1:=cellq hbl 1 rfl
     have g2:=cellq hbl 2 rfl
     have g3:=cellq hbl 3 rfl
     have g4:=cellq hbl 4 rfl
     have g5:=cellq hbl 5 rfl
     have g6:=cellq hbl 6 rfl
     have h0:=cellq HWb.out.1 0 rfl
     have h1:=cellq HWb.out.1 1 rfl
     have h2:=cellq HWb.out.1 2 rfl
     have h3:=cellq HWb.out.1 3 rfl
     have h4:=cellq HWb.out.1 4 rfl
     have h5:=cellq HWb.out.1 5 rfl
     have h6:=cellq HWb.out.1 6 rfl
     clear z0 z1 HLw
     go_wp2_with (go_at_call 44; refine HSm.out.mono ?_; rintro q10 w10 ⟨rfl,hx10⟩)
     go_ret
     exact ⟨rfl,(HB.out.2.2.trans (HXt.out.trans (HWa.out.2.1.trans HWb.out.2.1))).trans hx10⟩
end Go.Proofs.YtbgienfcmdgaaaaGreat
