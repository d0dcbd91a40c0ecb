/-
  Texts of the proof, part 1. Conditions: each lemma names its own.
-/
import Derived.WalkKit
import Derived.WalkSpells
import Derived.WalkLawsBesides
import Derived.ProofKit
import Derived.Deep.QuietTactic
import Derived.BigQuiet
import Derived.Lib.Hide
import Derived.StillTailTactics
import Derived.Test.YtjaldknfeojjkaaGreatProg
import Derived.Deep.LoopGhost
import Derived.Deep.CutBlock
import Derived.Deep.DeepCutAuto
import Derived.Deep.RegionHeld3
import Derived.Deep.AppendLies
import Derived.Maps.AppendAt
import Derived.Laws.AppendOwnNone
import Derived.Laws.Bits64
import Derived.Deep.RegionLaw
import Derived.Lib.SliceRun
import Derived.Laws.MakeOwn
import Derived.Laws.OwnMore
import Derived.Laws.Bits64b
import Derived.Maps.RangeWalk
set_option linter.unusedVariables false
set_option linter.unusedSimpArgs false
set_option maxRecDepth 100000
set_option maxHeartbeats 16000000
namespace Go.Proofs.YtjaldknfeojjkaaGreat
open Go.RowKit Go.MapKept
open Go.ChangeMaps (setBlock)
open Go.RowKit Go.MapKept
open Go.ChangeMaps (setBlock)
theorem ret_bool {a b:Bool} (h:a=b):Ending.returned (.bool a)=.returned (.bool b):=by rw [h]
theorem ret_int {k:IntKind} {a b:Int} (h:a=b):Ending.returned (.int k a)=.returned (.int k b):=by rw [h]
structure Ext (S:Nat→Prop) (w w':World):Prop where
 os:w'.os=w.os
 tape:w'.tape=w.tape
 output:w'.output=w.output
 size:w.heap.size≤w'.heap.size
 block:∀ k,k<w.heap.size→¬ S k→w'.heap[k]?=w.heap[k]?
theorem Ext.refl (S:Nat→Prop) (w:World):Ext S w w:=⟨rfl,rfl,rfl,Nat.le_refl _,fun _ _ _=>rfl⟩
theorem Ext.trans {S:Nat→Prop} {a b c:World} (h:Ext S a b) (k:Ext S b c):Ext S a c :=
 ⟨k.os.trans h.os,k.tape.trans h.tape,k.output.trans h.output,Nat.le_trans h.size k.size,
  fun i hi hn=>(k.block i (Nat.lt_of_lt_of_le hi h.size) hn).trans (h.block i hi hn)⟩
theorem Ext.mono {S T:Nat→Prop} {a b:World} (h:Ext S a b) (hs:∀ k,k<a.heap.size→S k→T k):Ext T a b :=
 ⟨h.os,h.tape,h.output,h.size,fun k hk hn=>h.block k hk (fun hS=>hn (hs k hk hS))⟩
theorem Ext.trans' {S T:Nat→Prop} {a b c:World} (h:Ext S a b) (k:Ext T b c) (hT:∀ k,k<a.heap.size→T k→S k):Ext S a c :=
 ⟨k.os.trans h.os,k.tape.trans h.tape,k.output.trans h.output,Nat.le_trans h.size k.size,
  fun i hi hn=>(k.block i (Nat.lt_of_lt_of_le hi h.size) (fun ht=>hn (hT i hi ht))).trans (h.block i hi hn)⟩
theorem Ext.drew {S:Nat→Prop} {a w:World} (h:Ext S a w):Ext S a w.drew:=⟨h.os,h.tape,h.output,h.size,h.block⟩
theorem Ext.drewN {S:Nat→Prop} {a w:World} (h:Ext S a w) (n:Nat):Ext S a (w.drewN n):=⟨h.os,h.tape,h.output,h.size,h.block⟩
theorem Ext.alloc {S:Nat→Prop} {a w:World} (h:Ext S a w) (o:Obj):Ext S a (w.alloc o) :=
 h.trans ⟨rfl,rfl,rfl,by simp,fun k hk _=>Below.heap_alloc _ _ _ hk⟩
theorem Ext.setCell {S:Nat→Prop} {a w:World} (h:Ext S a w) {p:Addr} (u:Value) (hp:p.block<a.heap.size→S p.block):Ext S a (w.setCell p u) :=
 h.trans' (T:=fun k=>k=p.block) ⟨rfl,rfl,rfl,by simp [World.setCell],fun k hk hn=>Below.heap_setCell _ _ _ _ hn⟩ (fun k hk e=>by subst e; exact hp hk)
theorem Ext.setBlock {S:Nat→Prop} {a w:World} (h:Ext S a w) (b:Nat) (o:Obj) (hb:b<a.heap.size→S b):Ext S a (setBlock w b o) :=
 h.trans' (T:=fun k=>k=b) ⟨rfl,rfl,rfl,by simp [ChangeMaps.setBlock],fun k hk hn=>by simp [ChangeMaps.setBlock,Ne.symm hn]⟩ (fun k hk e=>by subst e; exact hb hk)
theorem Ext.grown {S:Nat→Prop} {a w w':World} {row:Option Nat} (h:Ext S a w) (hg:w.grownBy w' row) (hr:∀ k,row=some k→k<a.heap.size→S k):Ext S a w' :=
 h.trans' (T:=fun k=>row=some k) ⟨hg.os,hg.tape,hg.output,hg.size,fun k hk hn=>hg.block k hk (fun e=>hn e.symm)⟩ (fun k hk e=>hr k e hk)
theorem Ext.below {w w':World} (h:Ext (fun _=>False) w w'):Below w.heap.size w w' :=
 ⟨h.os,h.tape,h.output,h.size,fun k hk=>h.block k hk id⟩
theorem Ext.cell {S:Nat→Prop} {w w':World} (h:Ext S w w') {p:Addr} (hp:p.block<w.heap.size) (hn:¬ S p.block):w'.cell? p=w.cell? p :=
 World.cell?_of_block (w:=w) (h.block _ hp hn)
def blk (w:World) (b:Nat):Option Obj:=w.heap[b]?
theorem blk_lt {w:World} {b:Nat} {o:Obj} (h:blk w b=some o):b<w.heap.size:=(Array.getElem?_eq_some_iff.1 h).1
theorem blk_alloc_past (w:World) (o:Obj) (k:Nat) (h:k<w.heap.size):blk (w.alloc o) k=blk w k:=Below.heap_alloc _ _ _ h
theorem blk_alloc_at (w:World) (o:Obj):blk (w.alloc o) w.heap.size=some o:=(MapKept.heap_alloc w o).1
theorem blk_setBlock_same {w:World} {b:Nat} {o:Obj} (h:blk w b=some o) (o':Obj):blk (setBlock w b o') b=some o':=by
 have:=blk_lt h;simp [blk,ChangeMaps.setBlock,this]
theorem Ext.blk {S:Nat→Prop} {w w':World} (h:Ext S w w') {k:Nat} (hk:k<w.heap.size) (hn:¬ S k):blk w' k=blk w k:=h.block k hk hn
theorem cell_of_cells {w:World} {b:Nat} {c:Array Value} {t:TypeId} {f:Nat × Nat} (h:blk w b=some (.cells c t f)) (i:Nat):w.cell? ⟨b,i,none⟩=c[i]?:=by
 unfold Proofs.YtjaldknfeojjkaaGreat.blk at h;simp [World.cell?,h]
theorem free_of_cells {w:World} {b:Nat} {c:Array Value} {t:TypeId} (h:blk w b=some (.cells c t (0,0))) (i:Nat):w.frozen? ⟨b,i,none⟩=false:=by
 unfold Proofs.YtjaldknfeojjkaaGreat.blk at h;simp [World.frozen?,h]
theorem blk_setCell_same {w:World} {b:Nat} {c:Array Value} {t:TypeId} {f:Nat × Nat} (h:blk w b=some (.cells c t f)) (i:Nat) (v:Value) :
  blk (w.setCell ⟨b,i,none⟩ v) b=some (.cells (c.setIfInBounds i v) t f):=by
 unfold Proofs.YtjaldknfeojjkaaGreat.blk at *;simp [World.setCell,Array.getElem?_modify,h]
theorem cell?_setCell_if (w:World) (b i b' j:Nat) (v:Value):(w.setCell ⟨b,i,none⟩ v).cell? ⟨b',j,none⟩=if b=b'∧i=j then (w.cell? ⟨b,i,none⟩).map (fun _=>v) else w.cell? ⟨b',j,none⟩:=by
 by_cases h:b=b'∧i=j
 ·obtain ⟨rfl,rfl⟩:=h;rw [if_pos ⟨rfl,rfl⟩];cases hc:w.cell? ⟨b,i,none⟩ with
  | some u=>rw [World.cell?_setCell_same w _ v hc]; rfl
  | none =>
   simp only [Option.map_none];simp only [World.setCell,World.cell?,Array.getElem?_modify,↓reduceIte] at *;cases hb:w.heap[b]? with
   | none=>simp
   | some o=>cases o <;> simp_all
 ·rw [if_neg h];exact World.cell?_setCell_other w _ _ v (fun e=>h (by cases e; exact ⟨rfl,rfl⟩))
theorem ownsRow_ext {S:Nat→Prop} {w w':World} {base:Nat} {e:TypeId} {size:Nat} {v:Value} {n:Nat} {xs:List Value} (h:w.ownsRow base e size v n xs) (hx:Ext S w w') (hn:∀ g,v.ownBlock=some g→¬ S g):w'.ownsRow base e size v n xs:=by
 refine ⟨h.1,?_⟩;rcases h.2 with h2 | ⟨g,cap,cur,rfl,h2,h3,r⟩
 ·exact .inl h2
 ·exact .inr ⟨g,cap,cur,rfl,h2,(hx.block g (Array.getElem?_eq_some_iff.1 h3).1 (hn g rfl)).trans h3,r⟩
theorem cells_new {w:World} {b:Nat} (cs:List Value) (t:TypeId) (hb:b=w.heap.size):∀ j u,cs[j]?=some u→(w.alloc (.cells cs.toArray t)).cell? ((⟨b,0,none⟩:Addr).add j)=some u:=by
 intro j u h;subst hb;rw [Addr.add_lit,Nat.zero_add,World.cell?_alloc_new];simpa using h
section
variable {α:Type}
end
section
variable {P:Program} {t k e:TypeId} {w:World} {b:Nat} {es:Array MapEntry} {clock:Nat} {l:List (ByteArray × Value)}
end
theorem _root_.Go.RowKit.Hid.o {p:Prop} (h:Go.RowKit.Hid p):p:=h
theorem _root_.Go.Shut.o {p:Prop} (h:Go.Shut p):p:=h
theorem bH {p:Prop} (h:p):Go.RowKit.Hid p:=h
theorem bI {a b:Prop} (x:a) (y:b):a∧b:=⟨x,y⟩
abbrev XF:World→World→Prop:=Ext (fun _=>False)
def vl:List Nat->Nat
 | []=>0
 | d :: r=>d+4294967296*vl r
def Dig (l:List Nat):Prop:=∀ d ∈ l,d<4294967296
theorem Dig.nil:Dig []:=fun _ h=>by cases h
theorem Dig.cons {d:Nat} {l:List Nat} (h:d<4294967296) (hl:Dig l):Dig (d :: l):=fun x hx=>by
 rcases List.mem_cons.1 hx with rfl | hx
 ·exact h
 ·exact hl x hx
theorem Dig.head {d:Nat} {l:List Nat} (h:Dig (d :: l)):d<4294967296:=h d List.mem_cons_self
theorem Dig.tail {d:Nat} {l:List Nat} (h:Dig (d :: l)):Dig l:=fun x hx=>h x (List.mem_cons_of_mem _ hx)
theorem Dig.append {a b:List Nat} (ha:Dig a) (hb:Dig b):Dig (a++b):=fun x hx=>by
 rcases List.mem_append.1 hx with h | h
 ·exact ha x h
 ·exact hb x h
theorem Dig.take {l:List Nat} (h:Dig l) (n:Nat):Dig (l.take n):=fun x hx=>h x (List.mem_of_mem_take hx)
theorem Dig.drop {l:List Nat} (h:Dig l) (n:Nat):Dig (l.drop n):=fun x hx=>h x (List.mem_of_mem_drop hx)
theorem Dig.get {l:List Nat} (h:Dig l) (i:Nat) (hi:i<l.length):l[i]<4294967296:=h _ (List.getElem_mem hi)
theorem Dig.set {l:List Nat} (h:Dig l) (i d:Nat) (hd:d<4294967296):Dig (l.set i d):=fun x hx=>by
 rcases List.mem_or_eq_of_mem_set hx with hx | rfl
 ·exact h x hx
 ·exact hd
theorem Dig.zeros (n:Nat):Dig (List.replicate n 0):=fun x hx=>by rw [(List.mem_replicate.1 hx).2]; omega
theorem vl_append (a b:List Nat):vl (a++b)=vl a+4294967296 ^ a.length*vl b:=by
 induction a with
 | nil=>simp [vl]
 | cons d r ih=>simp only [List.cons_append,vl,ih,List.length_cons,Nat.pow_succ,Nat.mul_add]; rw [Nat.mul_comm (4294967296 ^ r.length) 4294967296,Nat.mul_assoc]; omega
theorem vl_zeros (n:Nat):vl (List.replicate n 0)=0:=by
 induction n with
 | zero=>rfl
 | succ n ih=>simp [List.replicate_succ,vl,ih]
theorem vl_lt {l:List Nat} (h:Dig l):vl l<4294967296 ^ l.length:=by
 induction l with
 | nil=>simp [vl]
 | cons d r ih =>
  have h1:=ih h.tail;have h2:=h.head;simp only [vl,List.length_cons,Nat.pow_succ];omega
theorem vl_split (l:List Nat) (n:Nat):vl l=vl (l.take n)+4294967296 ^ (l.take n).length*vl (l.drop n):=by
 rw [<- vl_append,List.take_append_drop]
theorem vl_take_succ {l:List Nat} {i:Nat} (h:i<l.length):vl (l.take (i+1))=vl (l.take i)+4294967296 ^ i*l[i]:=by
 rw [List.take_succ_eq_append_getElem h,vl_append];simp [vl,List.length_take,Nat.min_eq_left (Nat.le_of_lt h)]
theorem vl_drop {l:List Nat} {i:Nat} (h:i<l.length):vl (l.drop i)=l[i]+4294967296*vl (l.drop (i+1)):=by
 rw [List.drop_eq_getElem_cons h]; rfl
theorem vl_set {l:List Nat} {i:Nat} (d:Nat) (h:i<l.length):vl (l.set i d)+4294967296 ^ i*l[i]=vl l+4294967296 ^ i*d:=by
 induction l generalizing i with
 | nil=>cases h
 | cons x r ih =>
  cases i with
  | zero=>simp [vl]; omega
  | succ i =>
   have:=ih (i:=i) (by simpa using h);simp only [List.set_cons_succ,vl,List.getElem_cons_succ,Nat.pow_succ];rw [Nat.mul_comm (4294967296 ^ i) 4294967296,Nat.mul_assoc,Nat.mul_assoc];omega
def Canon (l:List Nat):Prop:=Dig l/\l.getLast?≠some 0
def dg (n:Nat):List Nat:=if h:n=0 then [] else (n % 4294967296) :: dg (n / 4294967296)
termination_by n
decreasing_by omega
theorem dg_zero:dg 0=[]:=by unfold dg; simp
theorem dg_pos {n:Nat} (h:0<n):dg n=(n % 4294967296) :: dg (n / 4294967296):=by rw [dg.eq_def]; rw [dif_neg (by omega)]
theorem vl_dg (n:Nat):vl (dg n)=n:=by
 induction n using Nat.strongRecOn with
 | _ n ih =>
  by_cases h:n=0
  ·subst h; rw [dg_zero]; rfl
  ·rw [dg_pos (by omega)];simp only [vl];rw [ih (n / 4294967296) (by omega)];omega
theorem dg_dig (n:Nat):Dig (dg n):=by
 induction n using Nat.strongRecOn with
 | _ n ih =>
  by_cases h:n=0
  ·subst h; rw [dg_zero]; exact Dig.nil
  ·rw [dg_pos (by omega)]; exact Dig.cons (Nat.mod_lt _ (by omega)) (ih _ (by omega))
theorem dg_eq_nil {n:Nat}:dg n=[]↔n=0:=by
 constructor
 ·intro h;by_cases hn:n=0
  ·exact hn
  ·rw [dg_pos (by omega)] at h; cases h
 ·rintro rfl; exact dg_zero
theorem canon_tail {d:Nat} {l:List Nat} (h:Canon (d :: l)):Canon l:=by
 refine ⟨h.1.tail,?_⟩;cases l with
 | nil=>simp
 | cons x r=>have:=h.2; rwa [List.getLast?_cons_cons] at this
theorem canon_zero {l:List Nat} (h:Canon l) (hv:vl l=0):l=[]:=by
 induction l with
 | nil=>rfl
 | cons d r ih =>
  simp only [vl] at hv;have hr:=ih (canon_tail h) (by omega);subst hr;have hd:d=0:=(by omega);exact absurd (by simp [hd]) h.2
theorem canon_dg {l:List Nat} (h:Canon l):l=dg (vl l):=by
 induction l with
 | nil=>rw [show vl []=0 from rfl,dg_zero]
 | cons d r ih =>
  have hd:=h.1.head;by_cases hv:vl (d :: r)=0
  ·rw [hv,dg_zero,canon_zero h hv]
  ·rw [dg_pos (by omega)];have h1:vl (d :: r) % 4294967296=d:=(by simp only [vl]; omega);have h2:vl (d :: r) / 4294967296=vl r:=(by simp only [vl]; omega);rw [h1,h2,<- ih (canon_tail h)]
theorem dg_canon (n:Nat):Canon (dg n):=by
 refine ⟨dg_dig n,?_⟩;induction n using Nat.strongRecOn with
 | _ n ih =>
  by_cases h:n=0
  ·subst h; rw [dg_zero]; simp
  ·rw [dg_pos (by omega)];by_cases h2:n / 4294967296=0
   ·rw [h2,dg_zero]; simp; omega
   ·have h3:=ih (n / 4294967296) (by omega);cases hq:dg (n / 4294967296) with
    | nil=>exact absurd (dg_eq_nil.1 hq) h2
    | cons x r=>rw [List.getLast?_cons_cons,<- hq]; exact h3
theorem dg_length_le {n k:Nat} (h:n<4294967296 ^ k):(dg n).length<=k:=by
 induction k generalizing n with
 | zero=>simp at h; subst h; rw [dg_zero]; simp
 | succ k ih =>
  by_cases hn:n=0
  ·subst hn; rw [dg_zero]; simp
  ·rw [dg_pos (by omega),List.length_cons];have:=ih (n:=n / 4294967296) (by rw [Nat.pow_succ] at h; exact Nat.div_lt_of_lt_mul (by rw [Nat.mul_comm]; exact h));omega
theorem dg_lt (n:Nat):n<4294967296 ^ (dg n).length:=by have:=vl_lt (dg_dig n); rwa [vl_dg] at this
def trimL (l:List Nat):List Nat:=dg (vl l)
theorem trim_take {l:List Nat} (hl:Dig l) {n:Nat} (hn:n<=l.length) (hz:∀ i,n<=i->(h:i<l.length)->l[i]=0) (hlast:n=0∨∃ h:n - 1<l.length,l[n - 1]≠0):l.take n=trimL l:=by
 have h1:l.drop n=List.replicate (l.length - n) 0:=by
  apply List.ext_getElem
  ·simp
  ·intro i h1 h2;rw [List.getElem_drop,List.getElem_replicate];exact hz (n+i) (by omega) (by simp at h1; omega)
 have h2:vl l=vl (l.take n):=by rw [vl_split l n,h1,vl_zeros]; simp
 unfold trimL;rw [h2];refine canon_dg ⟨hl.take n,?_⟩;rcases hlast with rfl | ⟨h,hne⟩
 ·simp
 ·by_cases h0:n=0
  ·subst h0; simp
  ·rw [List.getLast?_eq_getElem?,List.length_take,Nat.min_eq_left hn,List.getElem?_take_of_lt (by omega),List.getElem?_eq_getElem h];simpa using hne
theorem trimL_length (l:List Nat) (hl:Dig l):(trimL l).length<=l.length:=dg_length_le (vl_lt hl)
theorem trimL_value (l:List Nat):vl (trimL l)=vl l:=vl_dg _
structure VarV where
 lo:Int
 up:Int
 op:Bool
 ig:Bool
 co:Int
structure TermV where
 var:Int
 coef:Int
structure RowV where
 name:ByteArray
 group:Int
 kind:Int
 terms:List TermV
 bound:Int
structure ProgV where
 vars:List VarV
 rows:List RowV
def var0:VarV:=⟨0,0,false,false,0⟩
def term0:TermV:=⟨0,0⟩
def row0:RowV:=⟨.empty,0,0,[],0⟩
def ProgV.v (p:ProgV) (i:Nat):VarV:=p.vars.getD i var0
def ProgV.r (p:ProgV) (i:Nat):RowV:=p.rows.getD i row0
def RowV.t (r:RowV) (i:Nat):TermV:=r.terms.getD i term0
def sumTo:Nat->(Nat->Rat)->Rat
 | 0,_=>0
 | n+1,f=>sumTo n f+f n
theorem sumTo_congr {f g:Nat->Rat}:∀ {n:Nat},(∀ i,i<n->f i=g i)->sumTo n f=sumTo n g
 | 0,_=>rfl
 | n+1,h=>by
  show sumTo n f+f n=sumTo n g+g n;rw [sumTo_congr (n:=n) (fun i hi=>h i (by omega)),h n (by omega)]
theorem sumTo_zero:∀ n:Nat,sumTo n (fun _=>0)=0
 | 0=>rfl
 | n+1=>by
  show sumTo n (fun _=>0)+0=0;rw [sumTo_zero n]; grind
theorem sumTo_zero' {f:Nat->Rat} {n:Nat} (h:∀ i,i<n->f i=0):sumTo n f=0:=by
 rw [sumTo_congr h,sumTo_zero]
theorem sumTo_le {f g:Nat->Rat}:∀ {n:Nat},(∀ i,i<n->f i<=g i)->sumTo n f<=sumTo n g
 | 0,_=>Rat.le_refl
 | n+1,h=>by
  show sumTo n f+f n<=sumTo n g+g n;have h1:=sumTo_le (n:=n) (fun i hi=>h i (by omega));have h2:=h n (by omega);grind
def atQ (x:List Rat) (i:Int):Rat:=if i<0 then 0 else x.getD i.toNat 0
theorem atQ_nat (x:List Rat) (i:Nat):atQ x i=x.getD i 0:=by
 unfold atQ; rw [if_neg (by omega)]; rfl
theorem atQ_neg (x:List Rat) {i:Int} (h:i<0):atQ x i=0:=if_pos h
theorem atQ_out (x:List Rat) {i:Int} (h:(x.length:Int)<=i):atQ x i=0:=by
 unfold atQ;rw [if_neg (by omega),List.getD_eq_getElem?_getD,List.getElem?_eq_none (by omega)]; rfl
theorem atQ_in (x:List Rat) {i:Nat} (h:i<x.length):atQ x i=x[i]:=by
 rw [atQ_nat,List.getD_eq_getElem?_getD,List.getElem?_eq_getElem h]; rfl
def dotQ (ts:List TermV) (x:List Rat):Rat:=sumTo ts.length fun k=>((ts.getD k term0).coef:Rat)*atQ x (ts.getD k term0).var
def allTo:Nat->(Nat->Bool)->Bool
 | 0,_=>true
 | n+1,f=>allTo n f && f n
theorem allTo_iff {f:Nat->Bool}:∀ {n:Nat},allTo n f=true↔∀ i,i<n->f i=true
 | 0=>by simp [allTo]
 | n+1=>by
  unfold allTo;rw [Bool.and_eq_true,allTo_iff (n:=n)];constructor
  ·rintro ⟨h1,h2⟩ i hi;by_cases e:i=n
   ·rw [e]; exact h2
   ·exact h1 i (by omega)
  ·exact fun h=>⟨fun i hi=>h i (by omega),h n (by omega)⟩
theorem allTo_false {f:Nat->Bool} {n i:Nat} (hi:i<n) (h:f i=false):allTo n f=false:=by
 cases hq:allTo n f with
 | false=>rfl
 | true=>have:=allTo_iff.1 hq i hi; rw [h] at this; cases this
def signB (k:Int) (s:Rat):Bool:=!(decide (k=1) && decide (s<0) || decide (k=0) && decide (0<s))
def signedB (p:ProgV) (y:List Rat):Bool:=allTo p.rows.length fun i=>signB (p.r i).kind (atQ y i)
def combA (p:ProgV) (y:List Rat) (j:Nat):Rat:=sumTo p.rows.length fun i=>sumTo (p.r i).terms.length fun k=>if ((p.r i).t k).var=(j:Int) then (((p.r i).t k).coef:Rat)*atQ y i else 0
def combB (p:ProgV) (y:List Rat):Rat:=sumTo p.rows.length fun i=>((p.r i).bound:Rat)*atQ y i
def emptyB (p:ProgV):Bool:=!allTo p.vars.length fun i=>(p.v i).op || decide ((p.v i).lo<=(p.v i).up)
def lowB (p:ProgV) (c:List Rat):Bool:=allTo p.vars.length fun i=>!((p.v i).op && decide (atQ c i<0))
def pickQ (v:VarV) (c:Rat):Int:=if c<0 then v.up else v.lo
def leastS (p:ProgV) (c:List Rat):Rat:=sumTo p.vars.length fun i=>(pickQ (p.v i) (atQ c i):Rat)*atQ c i
def leastQ (p:ProgV) (c:List Rat):Option Rat:=if emptyB p || !lowB p c then none else some (leastS p c)
def limB (n:Int):Bool:=decide (-1099511627776<=n) && decide (n<=1099511627776)
def termsB (n:Int):Int->List TermV->Bool
 | _,[]=>true
 | last,t :: l=>decide (last<t.var) && decide (t.var<n) && !decide (t.coef=0) && limB t.coef && termsB n t.var l
def nameB (s:ByteArray):Bool:=s.toList.all fun b=>decide (32<=b.toNat) && decide (b.toNat<=126)
def rowB (n:Int) (r:RowV):Bool:=decide (0<=r.kind) && decide (r.kind<=2) && decide (0<=r.group) && decide (r.group<=60) && decide (r.name.size<=80) && limB r.bound && nameB r.name && termsB n (-1) r.terms
def varB (v:VarV):Bool:=limB v.lo && limB v.up && limB v.co && !(v.op && !decide (v.up=0))
def validB (p:ProgV):Bool:=decide (p.vars.length<=400) && decide (p.rows.length<=4000) && p.vars.all varB && p.rows.all (rowB p.vars.length)
def listTo (n:Nat) (f:Nat->Rat):List Rat:=(List.range n).map f
theorem listTo_length (n:Nat) (f:Nat->Rat):(listTo n f).length=n:=by simp [listTo]
theorem valid_row {p:ProgV} (h:validB p=true) {i:Nat} (hi:i<p.rows.length):rowB p.vars.length (p.r i)=true:=by
 unfold validB at h;simp only [Bool.and_eq_true,List.all_eq_true] at h;refine h.2 _ ?_;unfold ProgV.r;rw [List.getD_eq_getElem?_getD,List.getElem?_eq_getElem hi];exact List.getElem_mem hi
theorem terms_in {n:Int}:∀ {l:List TermV} {last:Int},-1<=last->termsB n last l=true->∀ k,k<l.length->0<=(l.getD k term0).var/\(l.getD k term0).var<n
 | [],_,_,_,k,hk=>absurd hk (Nat.not_lt_zero k)
 | t :: l,last,h0,h,k,hk=>by
  unfold termsB at h;simp only [Bool.and_eq_true,decide_eq_true_eq] at h;cases k with
  | zero=>exact ⟨(by show 0<=t.var; omega),h.1.1.1.2⟩
  | succ k=>exact terms_in (l:=l) (last:=t.var) (by omega) h.2 k (by simpa using hk)
theorem row_terms {n:Int} {r:RowV} (h:rowB n r=true):∀ k,k<r.terms.length->0<=(r.t k).var/\(r.t k).var<n:=by
 unfold rowB at h;simp only [Bool.and_eq_true] at h;exact terms_in (Int.le_refl _) h.2
theorem least_some {p:ProgV} {c:List Rat} {l:Rat} (h:leastQ p c=some l):emptyB p=false/\lowB p c=true/\l=leastS p c:=by
 unfold leastQ at h;split at h
 ·cases h
 ·rename_i hn;simp only [Bool.or_eq_true,Bool.not_eq_true',not_or,Bool.not_eq_true,Bool.not_eq_false] at hn;exact ⟨hn.1,hn.2,(Option.some.inj h).symm⟩
structure CutV where
 kind:Int
 mul:List Rat
 row:Int
 vars:List Int
def binB (p:ProgV) (v:Int):Bool:=decide (0<=v) && (decide (v<p.vars.length) && ((p.v v.toNat).ig && (!(p.v v.toNat).op && (decide ((p.v v.toNat).lo=0) && decide ((p.v v.toNat).up=1)))))
def upJ (p:ProgV) (y:List Rat) (j:Nat):Int:=if (p.v j).ig then (combA p y j).ceil else 0
def lowS (p:ProgV) (y:List Rat):Rat:=sumTo p.vars.length fun j=>combA p y j*((p.v j).lo:Rat)
def isum:Nat->(Nat->Int)->Int
 | 0,_=>0
 | n+1,f=>isum n f+f n
theorem isum_cast (f:Nat->Int):∀ n,((isum n f:Int):Rat)=sumTo n fun j=>(f j:Rat)
 | 0=>rfl
 | n+1=>by
  show ((isum n f+f n:Int):Rat)=sumTo n (fun j=>(f j:Rat))+(f n:Rat);rw [Rat.intCast_add,isum_cast f n]
def upI (p:ProgV) (y:List Rat):Int:=isum p.vars.length fun j=>upJ p y j*(p.v j).lo
def roundBd (p:ProgV) (y:List Rat):Int:=(combB p y - lowS p y).ceil+upI p y
def noneUp (p:ProgV) (y:List Rat):Bool:=allTo p.vars.length fun j=>(p.v j).ig || decide (combA p y j<=0)
def termsTo (n:Nat) (f:Nat->Int):List TermV:=(List.range n).filterMap fun j=>if f j=0 then none else some ⟨j,f j⟩
def roundOk (p:ProgV) (y:List Rat):Bool:=allTo p.vars.length (fun j=>limB (upJ p y j)) && limB (roundBd p y)
def cutName:ByteArray:=⟨#[99,117,116]⟩
def roundP (p:ProgV) (y:List Rat):RowV × Int :=
 if signedB p y && noneUp p y then
  if roundOk p y then (⟨cutName,0,1,termsTo p.vars.length (upJ p y),roundBd p y⟩,0) else (row0,8)
 else (row0,13)
theorem termsTo_succ (n:Nat) (f:Nat->Int):termsTo (n+1) f=termsTo n f++if f n=0 then [] else [⟨n,f n⟩]:=by
 unfold termsTo;rw [List.range_succ,List.filterMap_append];by_cases h:f n=0 <;> simp [h]
def oneL (vars:List VarV) (l:List Int):List VarV:=l.foldl (fun vs v=>vs.set v.toNat { vs.getD v.toNat var0 with lo:=1 }) vars
theorem oneL_length (l:List Int):∀ vars:List VarV,(oneL vars l).length=vars.length:=by
 induction l with
 | nil=>exact fun _=>rfl
 | cons v l ih =>
  intro vars;show (oneL (vars.set v.toNat _) l).length=_;rw [ih,List.length_set]
def oneV (v:VarV):VarV:={ v with lo:=1 }
theorem oneL_get (l:List Int):∀ (vars:List VarV) (j:Nat),j<vars.length->(∀ v ∈ l,0<=v)->(oneL vars l).getD j var0=if (j:Int) ∈ l then oneV (vars.getD j var0) else vars.getD j var0:=by
 induction l with
 | nil=>intro vars j _ _; simp [oneL]
 | cons v l ih =>
  intro vars j hj hp;show (oneL (vars.set v.toNat _) l).getD j var0=_;rw [ih _ j (by rw [List.length_set]; exact hj) (fun x hx=>hp x (List.mem_cons_of_mem _ hx))];have hv:=hp v (List.mem_cons_self ..);have hset:(vars.set v.toNat { vars.getD v.toNat var0 with lo:=1 }).getD j var0=if (j:Int)=v then oneV (vars.getD j var0) else vars.getD j var0:=by
   by_cases e:(j:Int)=v
   ·rw [if_pos e];have e2:v.toNat=j:=(by omega);rw [e2,List.getD_eq_getElem?_getD,List.getElem?_set_self hj];rfl
   ·rw [if_neg e,List.getD_eq_getElem?_getD,List.getElem?_set_ne (by omega),<- List.getD_eq_getElem?_getD]
  rw [hset];by_cases e:(j:Int)=v
  ·rw [if_pos e,if_pos (show (j:Int) ∈ v :: l from by rw [e]; exact List.mem_cons_self ..)];split <;> rfl
  ·rw [if_neg e];by_cases h2:(j:Int) ∈ l
   ·rw [if_pos h2,if_pos (List.mem_cons_of_mem _ h2)]
   ·rw [if_neg h2,if_neg (fun h=>(List.mem_cons.1 h).elim e h2)]
def oneP (p:ProgV) (l:List Int):ProgV:=⟨oneL p.vars l,[]⟩
def sgR (r:RowV):Int:=if r.kind=1 then -1 else 1
def cfL (n:Nat) (sg:Int) (ts:List TermV):List Rat:=ts.foldl (fun l t=>l.set t.var.toNat ((sg:Rat)*(t.coef:Rat))) (List.replicate n 0)
def covB (p:ProgV) (r:RowV) (l:List Int):Bool:=match leastQ (oneP p l) (cfL p.vars.length (sgR r) r.terms) with
 | some s=>decide ((sgR r:Rat)*(r.bound:Rat)<s)
 | none=>false
theorem cfL_snoc (n:Nat) (sg:Int) (l:List TermV) (t:TermV):cfL n sg (l++[t])=(cfL n sg l).set t.var.toNat ((sg:Rat)*(t.coef:Rat)):=by
 unfold cfL; rw [List.foldl_append]; rfl
theorem cfL_length (n:Nat) (sg:Int) (ts:List TermV):(cfL n sg ts).length=n:=by
 unfold cfL;have:∀ (l:List Rat),(ts.foldl (fun l t=>l.set t.var.toNat ((sg:Rat)*(t.coef:Rat))) l).length=l.length:=by
  induction ts with
  | nil=>exact fun _=>rfl
  | cons t ts ih=>intro l; rw [List.foldl_cons,ih,List.length_set]
 rw [this,List.length_replicate]
theorem terms_lt {n:Int}:∀ {l:List TermV} {last:Int},termsB n last l=true->∀ t ∈ l,last<t.var
 | [],_,_,_,h=>by cases h
 | t :: l,last,h,s,hs=>by
  simp only [termsB,Bool.and_eq_true,decide_eq_true_eq] at h;rcases List.mem_cons.1 hs with rfl | hs
  ·exact h.1.1.1.1
  ·have:=terms_lt h.2 s hs;have:=h.1.1.1.1;omega
theorem terms_pair {n:Int}:∀ {l:List TermV} {last:Int},termsB n last l=true->l.Pairwise (fun a b=>a.var<b.var)
 | [],_,_=>List.Pairwise.nil
 | t :: l,last,h=>by
  simp only [termsB,Bool.and_eq_true,decide_eq_true_eq] at h;exact List.pairwise_cons.2 ⟨fun s hs=>terms_lt h.2 s hs,terms_pair h.2⟩
theorem binB_parts {p:ProgV} {v:Int} (h:binB p v=true):0<=v/\v<p.vars.length/\(p.v v.toNat).ig=true/\(p.v v.toNat).op=false/\(p.v v.toNat).lo=0/\(p.v v.toNat).up=1:=by
 unfold binB at h;simp only [Bool.and_eq_true,decide_eq_true_eq,Bool.not_eq_true'] at h;exact ⟨h.1,h.2.1,h.2.2.1,h.2.2.2.1,h.2.2.2.2.1,h.2.2.2.2.2⟩
section
variable {p:ProgV} {r:RowV} {l l':List Int}
theorem oneP_v (hb:∀ v ∈ l,binB p v=true) {j:Nat} (hj:j<p.vars.length):(oneP p l).v j=if (j:Int) ∈ l then oneV (p.v j) else p.v j :=
 oneL_get l p.vars j hj (fun v hv=>(binB_parts (hb v hv)).1)
theorem oneP_len:(oneP p l).vars.length=p.vars.length:=oneL_length l p.vars
theorem covB_iff:covB p r l=true↔∃ s,leastQ (oneP p l) (cfL p.vars.length (sgR r) r.terms)=some s/\(sgR r:Rat)*(r.bound:Rat)<s:=by
 unfold covB;split
 ·rename_i s hs;constructor
  ·exact fun h=>⟨s,hs,of_decide_eq_true h⟩
  ·rintro ⟨s',e,h⟩;rw [hs] at e; cases e;exact decide_eq_true h
 ·rename_i hs;constructor
  ·exact fun h=>absurd h (by decide)
  ·rintro ⟨s',e,h⟩;rw [hs] at e; cases e
theorem covB_mono (hb:∀ v ∈ l',binB p v=true) (hs:∀ v ∈ l,v ∈ l') (h:covB p r l=true):covB p r l'=true:=by
 obtain ⟨s,h1,h2⟩:=covB_iff.1 h;have hb0:∀ v ∈ l,binB p v=true:=fun v hv=>hb v (hs v hv);obtain ⟨he,hl,rfl⟩:=least_some h1;have he':emptyB (oneP p l')=false:=by
  unfold emptyB at he ⊢;rw [Bool.not_eq_false'] at he ⊢;refine allTo_iff.2 fun i hi=>?_;rw [oneP_len] at hi;have h3:=allTo_iff.1 he i (by rw [oneP_len]; exact hi);rw [oneP_v hb0 hi] at h3;rw [oneP_v hb hi];by_cases e:(i:Int) ∈ l'
  ·have h4:=binB_parts (hb _ e);rw [if_pos e];rw [show ((i:Int)).toNat=i from by omega] at h4;simp [oneV,h4.2.2.2.2.2]
  ·rw [if_neg e];rw [if_neg (fun h=>e (hs _ h))] at h3;exact h3
 have hl':lowB (oneP p l') (cfL p.vars.length (sgR r) r.terms)=true:=by
  unfold lowB at hl ⊢;refine allTo_iff.2 fun i hi=>?_;rw [oneP_len] at hi;have h3:=allTo_iff.1 hl i (by rw [oneP_len]; exact hi);have ho:∀ m:List Int,(∀ v ∈ m,binB p v=true)->((oneP p m).v i).op=(p.v i).op:=fun m hm=>by
   rw [oneP_v hm hi]; split <;> rfl
  rw [ho l hb0] at h3;rw [ho l' hb];exact h3
 refine covB_iff.2 ⟨leastS (oneP p l') (cfL p.vars.length (sgR r) r.terms),?_,?_⟩
 ·unfold leastQ;rw [he',hl']; rfl
 ·refine Std.lt_of_lt_of_le h2 ?_;unfold leastS;rw [oneP_len,oneP_len];refine sumTo_le fun j hj=>?_;rw [oneP_v hb0 hj,oneP_v hb hj];generalize atQ (cfL p.vars.length (sgR r) r.terms) j=c;by_cases e:(j:Int) ∈ l
  ·rw [if_pos e,if_pos (hs _ e)]; exact Rat.le_refl
  ·rw [if_neg e];by_cases e':(j:Int) ∈ l'
   ·rw [if_pos e'];have h4:=binB_parts (hb _ e');rw [show ((j:Int)).toNat=j from by omega] at h4;unfold pickQ;by_cases hc:c<0
    ·rw [if_pos hc,if_pos hc];exact Rat.le_refl
    ·rw [if_neg hc,if_neg hc];show ((p.v j).lo:Rat)*c<=((1:Int):Rat)*c;rw [h4.2.2.2.2.1];have h5:((0:Int):Rat)=0:=rfl;have h6:((1:Int):Rat)=1:=rfl;rw [h5,h6];grind
   ·rw [if_neg e']; exact Rat.le_refl
def onesT (l:List Int):List TermV:=l.map fun v=>⟨v,1⟩
end
def incB (p:ProgV):Int->List Int->Bool
 | _,[]=>true
 | last,v :: l=>decide (last<v) && binB p v && incB p v l
def formB (p:ProgV) (c:CutV):Bool :=
 if c.kind=0 then decide (c.row=0) && (decide (c.vars=[]) && decide (c.mul.length<=p.rows.length))
 else if c.kind=1 then decide (c.mul=[]) && (decide (0<=c.row) && (decide (c.row<p.rows.length) && (decide (c.vars≠[]) && incB p (-1) c.vars)))
 else false
def dervP (p:ProgV) (c:CutV):RowV × Int :=
 if formB p c then
  if c.kind=0 then roundP p c.mul
  else if covB p (p.r c.row.toNat) c.vars then (⟨cutName,0,0,onesT c.vars,(c.vars.length:Int) - 1⟩,0) else (row0,13)
 else (row0,1)
def deriveP (p:ProgV) (c:CutV):RowV × Int:=if validB p then dervP p c else (row0,1)
section
variable {p:ProgV} {c:CutV} {r:RowV}
theorem incB_mem:∀ {l:List Int} {last:Int},incB p last l=true->∀ v ∈ l,binB p v=true/\last<v
 | [],_,_,_,h=>by cases h
 | u :: l,last,h,v,hv=>by
  simp only [incB,Bool.and_eq_true,decide_eq_true_eq] at h;rcases List.mem_cons.1 hv with rfl | hv
  ·exact ⟨h.1.2,h.1.1⟩
  ·have:=incB_mem h.2 v hv;exact ⟨this.1,Int.lt_trans h.1.1 this.2⟩
theorem incB_of:∀ {l:List Int} {last:Int},l.Pairwise (·<·)->(∀ v ∈ l,binB p v=true/\last<v)->incB p last l=true
 | [],_,_,_=>rfl
 | u :: l,last,h,hb=>by
  have h1:=List.pairwise_cons.1 h;have h2:=hb u (List.mem_cons_self ..);simp only [incB,Bool.and_eq_true,decide_eq_true_eq];exact ⟨⟨h2.2,h2.1⟩,incB_of h1.2 (fun v hv=>⟨(hb v (List.mem_cons_of_mem _ hv)).1,h1.1 v hv⟩)⟩
theorem incB_pair:∀ {l:List Int} {last:Int},incB p last l=true->l.Pairwise (·<·)
 | [],_,_=>List.Pairwise.nil
 | u :: l,last,h=>by
  simp only [incB,Bool.and_eq_true,decide_eq_true_eq] at h;exact List.pairwise_cons.2 ⟨fun v hv=>(incB_mem h.2 v hv).2,incB_pair h.2⟩
theorem derive_ok (h:deriveP p c=(r,0)):validB p=true/\((c.kind=0/\signedB p c.mul=true/\noneUp p c.mul=true/\roundOk p c.mul=true/\r=⟨cutName,0,1,termsTo p.vars.length (upJ p c.mul),roundBd p c.mul⟩) ∨
  (c.kind=1/\0<=c.row/\c.row<p.rows.length/\c.vars≠[]/\incB p (-1) c.vars=true/\covB p (p.r c.row.toNat) c.vars=true/\r=⟨cutName,0,0,onesT c.vars,(c.vars.length:Int) - 1⟩)):=by
 unfold deriveP dervP at h;by_cases hv:validB p=true
 ·rw [if_pos hv] at h;refine ⟨hv,?_⟩;by_cases hf:formB p c=true
  ·rw [if_pos hf] at h;by_cases hk:c.kind=0
   ·rw [if_pos hk] at h;unfold roundP at h;split at h
    ·rename_i hs;rw [Bool.and_eq_true] at hs;split at h
     ·rename_i ho;cases h;exact .inl ⟨hk,hs.1,hs.2,ho,rfl⟩
     ·cases h
    ·cases h
   ·rw [if_neg hk] at h;split at h
    ·rename_i hc;cases h;unfold formB at hf;rw [if_neg hk] at hf;by_cases h1:c.kind=1
     ·rw [if_pos h1] at hf;simp only [Bool.and_eq_true,decide_eq_true_eq] at hf;exact .inr ⟨h1,hf.2.1,hf.2.2.1,hf.2.2.2.1,hf.2.2.2.2,hc,rfl⟩
     ·rw [if_neg h1] at hf; cases hf
    ·cases h
  ·rw [if_neg hf] at h; cases h
 ·rw [if_neg hv] at h; cases h
theorem termsTo_mem {f:Nat->Int}:∀ {n:Nat},∀ t ∈ termsTo n f,∃ j:Nat,j<n/\t=⟨j,f j⟩/\f j≠0:=fun {n} t ht=>by
 unfold termsTo at ht;obtain ⟨j,hj,h⟩:=List.mem_filterMap.1 ht;split at h
 ·cases h
 ·rename_i hz;cases h;exact ⟨j,List.mem_range.1 hj,rfl,hz⟩
theorem termsB_snoc {n:Int} {t:TermV}:∀ {l:List TermV} {last:Int},termsB n last l=true->(∀ s ∈ l,s.var<t.var)->last<t.var->t.var<n->t.coef≠0->limB t.coef=true->termsB n last (l++[t])=true
 | [],last,_,_,h1,h2,h3,h4=>by
  show termsB n last [t]=true;simp [termsB,h1,h2,h3,h4]
 | s :: l,last,h,hs,h1,h2,h3,h4=>by
  show termsB n last (s :: (l++[t]))=true;simp only [termsB,Bool.and_eq_true] at h ⊢;exact ⟨h.1,termsB_snoc h.2 (fun u hu=>hs u (List.mem_cons_of_mem _ hu)) (hs s (List.mem_cons_self ..)) h2 h3 h4⟩
theorem termsTo_ok {f:Nat->Int} {n:Nat}:∀ {m:Nat},m<=n->(∀ j,j<m->limB (f j)=true)->termsB n (-1) (termsTo m f)=true
 | 0,_,_=>rfl
 | m+1,h,hl=>by
  rw [termsTo_succ];have ih:=termsTo_ok (f:=f) (n:=n) (m:=m) (by omega) (fun j hj=>hl j (by omega));split
  ·rw [List.append_nil]; exact ih
  ·rename_i hz;refine termsB_snoc ih (fun s hs=>?_) (show (-1:Int)<(m:Int) by omega) (show (m:Int)<(n:Int) by omega) hz (hl m (by omega));obtain ⟨j,hj,rfl,-⟩:=termsTo_mem s hs;show (j:Int)<(m:Int);omega
theorem onesT_ok:∀ {l:List Int} {last:Int},incB p last l=true->termsB p.vars.length last (onesT l)=true
 | [],_,_=>rfl
 | v :: l,last,h=>by
  have hm:=incB_mem h v (List.mem_cons_self ..);simp only [incB,Bool.and_eq_true,decide_eq_true_eq] at h;show termsB p.vars.length last (⟨v,1⟩ :: onesT l)=true;simp only [termsB,Bool.and_eq_true,decide_eq_true_eq];refine ⟨⟨⟨⟨h.1.1,(binB_parts hm.1).2.1⟩,rfl⟩,rfl⟩,onesT_ok h.2⟩
theorem cut_name:decide (cutName.size<=80)=true/\nameB cutName=true:=by decide +kernel
theorem inc_len:∀ {l:List Int} {last:Int} {n:Int},l.Pairwise (·<·)->(∀ v ∈ l,last<v/\v<n)->(l.length:Int)<=max 0 (n - last - 1)
 | [],_,_,_,_=>by simp; omega
 | v :: l,last,n,h,hb=>by
  have h1:=List.pairwise_cons.1 h;have h2:=hb v (List.mem_cons_self ..);have:=inc_len (last:=v) (n:=n) h1.2 (fun u hu=>⟨h1.1 u hu,(hb u (List.mem_cons_of_mem _ hu)).2⟩);rw [List.length_cons];omega
theorem derive_row (h:deriveP p c=(r,0)):rowB p.vars.length r=true:=by
 obtain ⟨hv,h⟩:=derive_ok h;have hn:p.vars.length<=400:=by
  unfold validB at hv;simp only [Bool.and_eq_true,decide_eq_true_eq] at hv;exact hv.1.1.1
 rcases h with ⟨_,_,_,ho,rfl⟩ | ⟨_,_,_,h0,hi,_,rfl⟩
 ·unfold roundOk at ho;rw [Bool.and_eq_true] at ho;unfold rowB;simp only [Bool.and_eq_true,decide_eq_true_eq];exact ⟨⟨⟨⟨⟨⟨⟨(by decide:(0:Int)<=1),(by decide:(1:Int)<=2)⟩,(by decide:(0:Int)<=0)⟩,(by decide:(0:Int)<=60)⟩,of_decide_eq_true cut_name.1⟩,ho.2⟩,cut_name.2⟩,termsTo_ok (Nat.le_refl _) (fun j hj=>allTo_iff.1 ho.1 j hj)⟩
 ·have hl:=inc_len (last:=-1) (n:=p.vars.length) (incB_pair hi) (fun v hvl=>⟨(incB_mem hi v hvl).2,(binB_parts (incB_mem hi v hvl).1).2.1⟩);unfold rowB;simp only [Bool.and_eq_true,decide_eq_true_eq];refine ⟨⟨⟨⟨⟨⟨⟨(by decide:(0:Int)<=0),(by decide:(0:Int)<=2)⟩,(by decide:(0:Int)<=0)⟩,(by decide:(0:Int)<=60)⟩,of_decide_eq_true cut_name.1⟩,?_⟩,cut_name.2⟩,onesT_ok hi⟩;unfold limB;simp only [Bool.and_eq_true,decide_eq_true_eq];omega
end
def bef (x:List Rat) (a b:Int):Prop:=atQ x b<atQ x a∨(atQ x a=atQ x b/\a<b)
theorem bef_trans {x:List Rat} {a b c:Int} (h:bef x a b) (h':bef x b c):bef x a c:=by
 unfold bef at *;generalize atQ x a=s at *;generalize atQ x b=t at *;generalize atQ x c=u at *;rcases h with h | ⟨h,h2⟩ <;> rcases h' with h' | ⟨h',h3⟩
 ·exact .inl (by grind)
 ·exact .inl (by grind)
 ·exact .inl (by grind)
 ·exact .inr ⟨by grind,by omega⟩
theorem bef_irrefl {x:List Rat} {a:Int}:¬ bef x a a:=by
 unfold bef;rintro (h | ⟨_,h⟩)
 ·exact Rat.lt_irrefl h
 ·omega
theorem bef_total {x:List Rat} {a b:Int} (h:a≠b):bef x a b∨bef x b a:=by
 unfold bef;generalize atQ x a=s;generalize atQ x b=t;by_cases h1:t<s
 ·exact .inl (.inl h1)
 ·by_cases h2:s<t
  ·exact .inr (.inl h2)
  ·have h3:s=t:=(by grind);rcases Int.lt_or_gt_of_ne h with h | h
   ·exact .inl (.inr ⟨h3,h⟩)
   ·exact .inr (.inr ⟨h3.symm,h⟩)
theorem ord_same {R:Int->Int->Prop} (hR:∀ a b c,R a b->R b c->R a c) (hi:∀ a,¬ R a a):∀ {a b:List Int},a.Pairwise R->b.Pairwise R->(∀ x,x ∈ a↔x ∈ b)->a=b
 | [],[],_,_,_=>rfl
 | [],y :: b,_,_,h=>by have:=(h y).2 (List.mem_cons_self ..); cases this
 | x :: a,[],_,_,h=>by have:=(h x).1 (List.mem_cons_self ..); cases this
 | x :: a,y :: b,ha,hb,h=>by
  have a1:=List.pairwise_cons.1 ha;have b1:=List.pairwise_cons.1 hb;have hxy:x=y:=by
   rcases List.mem_cons.1 ((h x).1 (List.mem_cons_self ..)) with e | e
   ·exact e
   ·rcases List.mem_cons.1 ((h y).2 (List.mem_cons_self ..)) with e2 | e2
    ·exact e2.symm
    ·exact absurd (hR _ _ _ (b1.1 x e) (a1.1 y e2)) (hi _)
  subst hxy;rw [ord_same hR hi a1.2 b1.2 (fun z=>?_)];constructor
  ·intro hz;rcases List.mem_cons.1 ((h z).1 (List.mem_cons_of_mem _ hz)) with e | e
   ·exact absurd (e ▸ a1.1 z hz) (hi _)
   ·exact e
  ·intro hz;rcases List.mem_cons.1 ((h z).2 (List.mem_cons_of_mem _ hz)) with e | e
   ·exact absurd (e ▸ b1.1 z hz) (hi _)
   ·exact e
def binsR (p:ProgV) (r:RowV):List Int:=(r.terms.map (·.var)).filter (binB p)
structure OrdOk (p:ProgV) (r:RowV) (x:List Rat) (l:List Int):Prop where
 ord:l.Pairwise (bef x)
 mem:∀ v,v ∈ l↔v ∈ binsR p r
section
variable {p:ProgV} {r:RowV} {x:List Rat} {l l':List Int}
theorem OrdOk.uniq (h:OrdOk p r x l) (h':OrdOk p r x l'):l=l' :=
 ord_same (R:=bef x) (fun a b c h1 h2=>bef_trans h1 h2) (fun a h1=>bef_irrefl h1) h.ord h'.ord (fun v=>(h.mem v).trans (h'.mem v).symm)
theorem OrdOk.bin (h:OrdOk p r x l):∀ v ∈ l,binB p v=true:=fun v hv=>(List.mem_filter.1 ((h.mem v).1 hv)).2
theorem OrdOk.nodup (h:OrdOk p r x l):l.Nodup:=h.ord.imp (by intro a b hab e; subst e; exact bef_irrefl hab)
def takeV (p:ProgV) (r:RowV):List Int->List Int->List Int
 | acc,[]=>acc
 | acc,v :: o=>if covB p r (acc++[v]) then acc++[v] else takeV p r (acc++[v]) o
def lessV (p:ProgV) (r:RowV) (l:List Int) (i:Nat):List Int:=if l.eraseIdx i≠[]/\covB p r (l.eraseIdx i)=true then l.eraseIdx i else l
def dropV (p:ProgV) (r:RowV):Nat->List Int->List Int
 | 0,l=>l
 | i+1,l=>dropV p r i (lessV p r l i)
def minV (p:ProgV) (r:RowV) (o:List Int):Option (List Int) :=
 if takeV p r [] o≠[]/\covB p r (takeV p r [] o)=true then some (dropV p r (takeV p r [] o).length (takeV p r [] o)) else none
theorem takeV_mem:∀ (o acc:List Int) (v:Int),v ∈ takeV p r acc o->v ∈ acc∨v ∈ o
 | [],acc,v,h=>.inl h
 | u :: o,acc,v,h=>by
  unfold takeV at h;split at h
  ·rcases List.mem_append.1 h with h | h
   ·exact .inl h
   ·rw [List.mem_singleton.1 h]; exact .inr (List.mem_cons_self ..)
  ·rcases takeV_mem o _ v h with h | h
   ·rcases List.mem_append.1 h with h | h
    ·exact .inl h
    ·rw [List.mem_singleton.1 h]; exact .inr (List.mem_cons_self ..)
   ·exact .inr (List.mem_cons_of_mem _ h)
theorem takeV_pre:∀ (o acc:List Int),∃ o',takeV p r acc o++o'=acc++o
 | [],acc=>⟨[],rfl⟩
 | u :: o,acc=>by
  unfold takeV;split
  ·exact ⟨o,by simp⟩
  ·obtain ⟨o',h⟩:=takeV_pre o (acc++[u]);exact ⟨o',by rw [h]; simp⟩
theorem lessV_sub {i:Nat}:∀ v ∈ lessV p r l i,v ∈ l:=fun v hv=>by
 unfold lessV at hv;split at hv
 ·exact List.mem_of_mem_eraseIdx hv
 ·exact hv
theorem lessV_cov {i:Nat} (h:covB p r l=true):covB p r (lessV p r l i)=true:=by
 unfold lessV;split
 ·rename_i h2; exact h2.2
 ·exact h
theorem lessV_ne {i:Nat} (h:l≠[]):lessV p r l i≠[]:=by
 unfold lessV;split
 ·rename_i h2; exact h2.1
 ·exact h
theorem lessV_nodup {i:Nat} (h:l.Nodup):(lessV p r l i).Nodup:=by
 unfold lessV;split
 ·exact h.sublist (List.eraseIdx_sublist ..)
 ·exact h
def Stuck (p:ProgV) (r:RowV) (l:List Int) (j:Nat):Prop:=l.eraseIdx j=[]∨covB p r (l.eraseIdx j)=false
theorem lessV_stuck {i:Nat} (hb:∀ v ∈ l,binB p v=true) (h:∀ j,i<j->j<l.length->Stuck p r l j):∀ j,i<=j->j<(lessV p r l i).length->Stuck p r (lessV p r l i) j:=fun j hj hl=>by
 unfold lessV at hl ⊢;split at hl
 ·rename_i h2;rw [if_pos h2];by_cases hil:i<l.length
  ·have hlen:(l.eraseIdx i).length=l.length - 1:=List.length_eraseIdx_of_lt hil;have hs:=h (j+1) (by omega) (by omega);have hsub:∀ v ∈ (l.eraseIdx i).eraseIdx j,v ∈ l.eraseIdx (j+1):=fun v hv=>by
    obtain ⟨m,hm,rfl⟩:=List.getElem_of_mem hv;rw [List.getElem_eraseIdx];rw [List.length_eraseIdx_of_lt (by omega)] at hm;split
    ·rename_i hmj;rw [List.getElem_eraseIdx];split
     ·rename_i hmi;have h3:(l.eraseIdx (j+1))[m]'(by rw [List.length_eraseIdx_of_lt (by omega)]; omega)=l[m]:=(by rw [List.getElem_eraseIdx,dif_pos (by omega)]);rw [<- h3]; exact List.getElem_mem _
     ·rename_i hmi;have h3:(l.eraseIdx (j+1))[m+1]'(by rw [List.length_eraseIdx_of_lt (by omega)]; omega)=l[m+1]'(by omega)∨m+1=j+1:=by
       by_cases e:m+1<j+1
       ·exact .inl (by rw [List.getElem_eraseIdx,dif_pos e])
       ·omega
      rcases h3 with h3 | h3
      ·rw [<- h3]; exact List.getElem_mem _
      ·omega
    ·rename_i hmj;rw [List.getElem_eraseIdx,dif_neg (by omega)];have h3:(l.eraseIdx (j+1))[m+1]'(by rw [List.length_eraseIdx_of_lt (by omega)]; omega)=l[m+1+1]'(by omega):=(by rw [List.getElem_eraseIdx,dif_neg (by omega)]);rw [<- h3]; exact List.getElem_mem _
   rcases hs with hs | hs
   ·left;cases he:(l.eraseIdx i).eraseIdx j with
    | nil=>rfl
    | cons a t =>
     have:=hsub a (by rw [he]; exact List.mem_cons_self ..);rw [hs] at this; cases this
   ·right;cases he:covB p r ((l.eraseIdx i).eraseIdx j) with
    | false=>rfl
    | true =>
     rw [covB_mono (fun v hv=>hb v (List.mem_of_mem_eraseIdx hv)) hsub he] at hs;cases hs
  ·rw [List.eraseIdx_of_length_le (by omega)] at hl ⊢;omega
 ·rename_i h2;rw [if_neg h2];by_cases e:j=i
  ·subst e;unfold Stuck;by_cases h3:l.eraseIdx j=[]
   ·exact .inl h3
   ·right;cases h4:covB p r (l.eraseIdx j) with
    | false=>rfl
    | true=>exact absurd ⟨h3,h4⟩ h2
  ·exact h j (by omega) hl
theorem dropV_spec:∀ (i:Nat) {l:List Int},(∀ v ∈ l,binB p v=true)->l.Nodup->l≠[]->covB p r l=true->(∀ j,i<=j->j<l.length->Stuck p r l j) ->
  (∀ v ∈ dropV p r i l,v ∈ l)/\(dropV p r i l).Nodup/\dropV p r i l≠[]/\covB p r (dropV p r i l)=true/\∀ j,j<(dropV p r i l).length->Stuck p r (dropV p r i l) j
 | 0,l,_,hn,h0,hc,hs=>⟨fun v hv=>hv,hn,h0,hc,fun j hj=>hs j (Nat.zero_le _) hj⟩
 | i+1,l,hb,hn,h0,hc,hs=>by
  have:=dropV_spec i (l:=lessV p r l i) (fun v hv=>hb v (lessV_sub v hv)) (lessV_nodup hn) (lessV_ne h0) (lessV_cov hc) (lessV_stuck hb (fun j hj hl=>hs j (by omega) hl))
  exact ⟨fun v hv=>lessV_sub v (this.1 v hv),this.2⟩
theorem minV_spec {o s:List Int} (ho:OrdOk p r x o) (h:minV p r o=some s):(∀ v ∈ s,binB p v=true)/\s.Nodup/\s≠[]/\covB p r s=true/\∀ j,j<s.length->Stuck p r s j:=by
 unfold minV at h;split at h
 ·rename_i h2;cases h;have hm:∀ v ∈ takeV p r [] o,binB p v=true:=fun v hv=>by
   rcases takeV_mem o [] v hv with h | h
   ·cases h
   ·exact ho.bin v h
  have hn:(takeV p r [] o).Nodup:=by
   obtain ⟨o',h⟩:=takeV_pre (p:=p) (r:=r) o [];have h3:=ho.nodup;rw [List.nil_append] at h;rw [<- h] at h3;exact (List.nodup_append.1 h3).1
  have:=dropV_spec (takeV p r [] o).length hm hn h2.1 h2.2 (fun j hj hl=>absurd hl (by omega));exact ⟨fun v hv=>hm v (this.1 v hv),this.2⟩
 ·cases h
structure Srt (s t:List Int):Prop where
 pair:t.Pairwise (·<·)
 mem:∀ v,v ∈ t↔v ∈ s
theorem Srt.uniq {s t t':List Int} (h:Srt s t) (h':Srt s t'):t=t' :=
 ord_same (R:=(·<·)) (fun _ _ _=>Int.lt_trans) (fun _=>Int.lt_irrefl _) h.pair h'.pair (fun v=>(h.mem v).trans (h'.mem v).symm)
def CovIs (p:ProgV) (i:Int) (x:List Rat) (c:CutV) (ok:Bool):Prop :=
 ∃ o,OrdOk p (p.r i.toNat) x o/\match minV p (p.r i.toNat) o with
  | some s=>ok=true/\c.kind=1/\c.mul=[]/\c.row=i/\Srt s c.vars
  | none=>ok=false/\c=⟨0,[],0,[]⟩
theorem CovIs.uniq {i:Int} {c c':CutV} {ok ok':Bool} (h:CovIs p i x c ok) (h':CovIs p i x c' ok'):c=c'/\ok=ok':=by
 obtain ⟨o,ho,h⟩:=h;obtain ⟨o',ho',h'⟩:=h';rw [ho.uniq ho'] at h;cases hm:minV p (p.r i.toNat) o' with
 | none =>
  rw [hm] at h h';exact ⟨h.2.trans h'.2.symm,h.1.trans h'.1.symm⟩
 | some s =>
  rw [hm] at h h';obtain ⟨a,b,d,e,f⟩:=h;obtain ⟨a',b',d',e',f'⟩:=h';refine ⟨?_,a.trans a'.symm⟩;cases c; cases c';simp only at b b' d d' e e' f f';subst b b' d d' e e';rw [f.uniq f']
end
def dgt (l:List Nat) (i:Nat):Nat:=l.getD i 0
theorem dgt_in {l:List Nat} {i:Nat} (h:i<l.length):dgt l i=l[i]:=by unfold dgt; rw [List.getD_eq_getElem?_getD,List.getElem?_eq_getElem h]; rfl
theorem dgt_out {l:List Nat} {i:Nat} (h:l.length<=i):dgt l i=0:=by unfold dgt; rw [List.getD_eq_getElem?_getD,List.getElem?_eq_none h]; rfl
theorem dgt_lt {l:List Nat} (hl:Dig l) (i:Nat):dgt l i<4294967296:=by
 by_cases h:i<l.length
 ·rw [dgt_in h]; exact hl.get i h
 ·rw [dgt_out (by omega)]; omega
theorem vl_take_dgt (l:List Nat) (i:Nat):vl (l.take (i+1))=vl (l.take i)+4294967296 ^ i*dgt l i:=by
 by_cases h:i<l.length
 ·rw [vl_take_succ h,dgt_in h]
 ·rw [dgt_out (by omega),List.take_of_length_le (by omega),List.take_of_length_le (by omega)]; simp
theorem pow_mono {i j:Nat} (h:i<=j):4294967296 ^ i<=4294967296 ^ j:=Nat.pow_le_pow_right (by omega) h
theorem pow_next (i:Nat):4294967296 ^ (i+1)=4294967296 ^ i*4294967296:=Nat.pow_succ _ _
theorem vl_snoc (o:List Nat) (d:Nat):vl (o++[d])=vl o+4294967296 ^ o.length*d:=by rw [vl_append]; simp [vl]
theorem vl_take_all {l:List Nat} {i:Nat} (h:l.length<=i):vl (l.take i)=vl l:=by rw [List.take_of_length_le h]
theorem Dig.snoc {o:List Nat} (h:Dig o) {d:Nat} (hd:d<4294967296):Dig (o++[d]):=h.append (Dig.cons hd Dig.nil)
structure AddSt (a b:List Nat) (i:Nat) (o:List Nat) (c:Nat):Prop where
 dig:Dig o
 len:o.length=i
 car:c<=1
 val:vl o+4294967296 ^ i*c=vl (a.take i)+vl (b.take i)
theorem AddSt.zero (a b:List Nat):AddSt a b 0 [] 0:=⟨Dig.nil,rfl,by omega,by simp [vl]⟩
theorem AddSt.step {a b:List Nat} (ha:Dig a) (hb:Dig b) {i:Nat} {o:List Nat} {c:Nat} (h:AddSt a b i o c) :
  AddSt a b (i+1) (o++[(dgt a i+dgt b i+c) % 4294967296]) ((dgt a i+dgt b i+c) / 4294967296):=by
 have h1:=dgt_lt ha i;have h2:=dgt_lt hb i;have h3:=h.car;have h4:=h.val;refine ⟨h.dig.snoc (Nat.mod_lt _ (by omega)),by simp [h.len],by omega,?_⟩;rw [vl_snoc,vl_take_dgt,vl_take_dgt,h.len,Nat.pow_succ,Nat.mul_assoc,Nat.add_assoc,<- Nat.mul_add,Nat.mod_add_div,Nat.mul_add,Nat.mul_add];omega
theorem add_end {P va vb vo c:Nat} (h1:va<P) (h2:vb<P) (hc:c<=1) (h:vo+P*4294967296*c=va+vb):c=0:=by
 rcases Nat.eq_zero_or_pos c with h0 | h0
 ·exact h0
 ·obtain rfl:c=1:=(by omega);omega
theorem AddSt.done {a b:List Nat} (ha:Dig a) (hb:Dig b) {o:List Nat} {c:Nat} (h:AddSt a b (max a.length b.length+1) o c):trimL o=dg (vl a+vl b):=by
 have h4:=h.val;rw [vl_take_all (Nat.le_succ_of_le (Nat.le_max_left _ _)),vl_take_all (Nat.le_succ_of_le (Nat.le_max_right _ _)),pow_next] at h4;have hc:=add_end (Nat.lt_of_lt_of_le (vl_lt ha) (pow_mono (Nat.le_max_left a.length b.length))) (Nat.lt_of_lt_of_le (vl_lt hb) (pow_mono (Nat.le_max_right a.length b.length))) h.car h4;subst hc;unfold trimL;rw [<- h4,Nat.mul_zero,Nat.add_zero]
structure SubSt (a b:List Nat) (i:Nat) (o:List Nat) (c:Nat):Prop where
 dig:Dig o
 len:o.length=i
 car:c<=1
 val:vl o+vl (b.take i)=vl (a.take i)+4294967296 ^ i*c
theorem SubSt.zero (a b:List Nat):SubSt a b 0 [] 0:=⟨Dig.nil,rfl,by omega,by simp [vl]⟩
def subD (x y c:Nat):Nat:=if y+c<=x then x - y - c else x+4294967296 - y - c
def subB (x y c:Nat):Nat:=if y+c<=x then 0 else 1
theorem SubSt.step {a b:List Nat} (ha:Dig a) (hb:Dig b) {i:Nat} {o:List Nat} {c:Nat} (h:SubSt a b i o c) :
  SubSt a b (i+1) (o++[subD (dgt a i) (dgt b i) c]) (subB (dgt a i) (dgt b i) c):=by
 have h1:=dgt_lt ha i;have h2:=dgt_lt hb i;have h3:=h.car;have h4:=h.val;have hd:subD (dgt a i) (dgt b i) c+dgt b i+c=dgt a i+4294967296*subB (dgt a i) (dgt b i) c:=by unfold subD subB; split <;> omega
 refine ⟨h.dig.snoc (by unfold subD; split <;> omega),by simp [h.len],by unfold subB; split <;> omega,?_⟩;rw [vl_snoc,vl_take_dgt,vl_take_dgt,h.len,Nat.pow_succ,Nat.mul_assoc];have:=congrArg (4294967296 ^ i*·) hd;simp only [Nat.mul_add] at this;omega
theorem SubSt.done {a b:List Nat} (ha:Dig a) (hb:Dig b) {o:List Nat} {c:Nat} (h:SubSt a b (max a.length b.length+1) o c) (hle:vl b<=vl a):trimL o=dg (vl a - vl b):=by
 have h4:=h.val;rw [vl_take_all (by omega),vl_take_all (by omega)] at h4;have ho:=vl_lt h.dig;rw [h.len] at ho;have hc:c=0:=by
  have:=h.car;by_cases hc:c=0
  ·exact hc
  ·have:c=1:=(by omega);subst this;omega
 subst hc;unfold trimL;rw [show vl o=vl a - vl b by omega]
structure MulSt (a b:List Nat) (i:Nat) (o:List Nat):Prop where
 dig:Dig o
 len:o.length=a.length+b.length
 high:∀ k,i+b.length<=k->dgt o k=0
 val:vl o=vl (a.take i)*vl b
theorem MulSt.zero (a b:List Nat):MulSt a b 0 (List.replicate (a.length+b.length) 0) :=
 ⟨Dig.zeros _,by simp,fun k _=>by
  by_cases h:k<a.length+b.length
  ·rw [dgt_in (by simpa using h)]; simp
  ·rw [dgt_out (by simpa using h)],by rw [vl_zeros]; simp [vl]⟩
structure MulIn (a b o0:List Nat) (i k:Nat) (o:List Nat) (c:Nat):Prop where
 dig:Dig o
 len:o.length=a.length+b.length
 car:c<4294967296
 high:∀ j,i+k<=j->dgt o j=dgt o0 j
 val:vl o+4294967296 ^ (i+k)*c=vl o0+4294967296 ^ i*(dgt a i*vl (b.take k))
theorem MulIn.zero {a b o0:List Nat} {i:Nat} (hd:Dig o0) (hl:o0.length=a.length+b.length):MulIn a b o0 i 0 o0 0 :=
 ⟨hd,hl,by omega,fun _ _=>rfl,by simp [vl]⟩
theorem dgt_set {l:List Nat} {i j d:Nat} (h:i<l.length):dgt (l.set i d) j=if i=j then d else dgt l j:=by
 unfold dgt;rw [List.getD_eq_getElem?_getD,List.getD_eq_getElem?_getD,List.getElem?_set];split
 ·subst_vars; simp
 ·rfl
theorem vl_set_dgt {l:List Nat} {i:Nat} (d:Nat) (h:i<l.length):vl (l.set i d)+4294967296 ^ i*dgt l i=vl l+4294967296 ^ i*d:=by rw [dgt_in h]; exact vl_set d h
theorem mul_fits {x y o c:Nat} (hx:x<4294967296) (hy:y<4294967296) (ho:o<4294967296) (hc:c<4294967296):x*y+o+c<18446744073709551616:=by
 have:x*y<=4294967295*4294967295:=Nat.mul_le_mul (by omega) (by omega);omega
theorem MulIn.step {a b o0:List Nat} (ha:Dig a) (hb:Dig b) {i k:Nat} {o:List Nat} {c:Nat} (hi:i<a.length) (hk:k<b.length) (h:MulIn a b o0 i k o c) :
  MulIn a b o0 i (k+1) (o.set (i+k) ((dgt a i*dgt b k+dgt o (i+k)+c) % 4294967296)) ((dgt a i*dgt b k+dgt o (i+k)+c) / 4294967296):=by
 have h1:=dgt_lt ha i;have h2:=dgt_lt hb k;have h3:=dgt_lt h.dig (i+k);have h4:=h.val;have hf:=mul_fits h1 h2 h3 h.car;have hlt:i+k<o.length:=by rw [h.len]; omega
 refine ⟨h.dig.set _ _ (Nat.mod_lt _ (by omega)),by simp [h.len],by omega,fun j hj=>?_,?_⟩
 ·rw [dgt_set hlt,if_neg (by omega)]; exact h.high j (by omega)
 ·have hs:=vl_set_dgt ((dgt a i*dgt b k+dgt o (i+k)+c) % 4294967296) hlt;have hm:=congrArg (4294967296 ^ (i+k)*·) (Nat.mod_add_div (dgt a i*dgt b k+dgt o (i+k)+c) 4294967296);simp only [Nat.mul_add] at hm;rw [vl_take_dgt,show i+(k+1)=(i+k)+1 by omega,Nat.pow_succ,Nat.mul_add,Nat.mul_add];rw [Nat.mul_assoc (4294967296 ^ (i+k)) 4294967296];have e:4294967296 ^ i*(dgt a i*(4294967296 ^ k*dgt b k))=4294967296 ^ (i+k)*(dgt a i*dgt b k):=by
   rw [Nat.pow_add,Nat.mul_assoc,<- Nat.mul_assoc (dgt a i),Nat.mul_comm (dgt a i) (4294967296 ^ k),Nat.mul_assoc]
  rw [e];omega
theorem MulSt.step {a b o0 o:List Nat} {i c:Nat} (hi:i<a.length) (hs:MulSt a b i o0) (h:MulIn a b o0 i b.length o c):MulSt a b (i+1) (o.set (i+b.length) c):=by
 have hlt:i+b.length<o.length:=by rw [h.len]; omega
 refine ⟨h.dig.set _ _ h.car,by simp [h.len],fun k hk=>?_,?_⟩
 ·rw [dgt_set hlt,if_neg (by omega),h.high k (by omega)]; exact hs.high k (by omega)
 ·have hz:dgt o (i+b.length)=0:=(by rw [h.high _ (Nat.le_refl _)]; exact hs.high _ (Nat.le_refl _));have h1:=vl_set_dgt c hlt;have h2:=h.val;rw [List.take_length,hs.val] at h2;rw [hz] at h1;rw [vl_take_dgt,Nat.add_mul,Nat.mul_assoc];omega
theorem MulSt.done {a b o:List Nat} (h:MulSt a b a.length o):trimL o=dg (vl a*vl b):=by
 unfold trimL;rw [h.val,List.take_length]
structure ShortSt (a:List Nat) (by_:Nat) (i:Nat) (o:List Nat) (r:Nat):Prop where
 dig:Dig o
 len:o.length=a.length
 rest:r<by_
 low:∀ k,k<i->dgt o k=dgt a k
 val:vl (a.drop i)=by_*vl (o.drop i)+r
theorem ShortSt.start {a:List Nat} (ha:Dig a) {d:Nat} (hd:0<d):ShortSt a d a.length a 0:=⟨ha,rfl,hd,fun _ _=>rfl,by simp [vl]⟩
theorem ShortSt.step {a:List Nat} (ha:Dig a) {d:Nat} (hd:d<4294967296) {i:Nat} (hi:i<a.length) {o:List Nat} {r:Nat} (h:ShortSt a d (i+1) o r) :
  (r*4294967296+dgt a i) / d<4294967296/\ShortSt a d i (o.set i ((r*4294967296+dgt a i) / d)) ((r*4294967296+dgt a i) % d):=by
 have h1:=dgt_lt ha i;have h2:=h.rest;have hq:(r*4294967296+dgt a i) / d<4294967296:=by
  rw [Nat.div_lt_iff_lt_mul (by omega)];have:r+1<=d:=h2;have:=Nat.mul_le_mul_right 4294967296 this;rw [Nat.mul_comm 4294967296 d];omega
 have hlt:i<o.length:=by rw [h.len]; exact hi
 refine ⟨hq,h.dig.set _ _ hq,by simp [h.len],Nat.mod_lt _ (by omega),fun k hk=>?_,?_⟩
 ·rw [dgt_set hlt,if_neg (by omega)]; exact h.low k (by omega)
 ·rw [vl_drop hi,vl_drop (l:=o.set i _) (by simpa using hlt),h.val,List.drop_set,if_pos (by omega),List.getElem_set_self,<- dgt_in hi];have hm:=Nat.div_add_mod (r*4294967296+dgt a i) d;rw [Nat.mul_add,Nat.mul_add,<- Nat.mul_assoc,Nat.mul_left_comm d 4294967296];rw [Nat.mul_comm 4294967296 r];rw [Nat.mul_assoc] at *;omega
theorem ShortSt.done {a:List Nat} {d:Nat} {o:List Nat} {r:Nat} (h:ShortSt a d 0 o r):trimL o=dg (vl a / d)/\r=vl a % d:=by
 have hv:=h.val;simp only [List.drop_zero] at hv;have h2:=h.rest;rw [Nat.mul_comm] at hv;have e1:vl a / d=vl o:=by rw [hv,Nat.mul_comm,Nat.mul_add_div (by omega),Nat.div_eq_of_lt h2]; omega
 have e2:vl a % d=r:=by rw [hv,Nat.mul_comm,Nat.mul_add_mod,Nat.mod_eq_of_lt h2]
 exact ⟨by unfold trimL; rw [e1],e2.symm⟩
structure ShiftSt (a:List Nat) (n i:Nat) (o:List Nat) (c:Nat):Prop where
 dig:Dig o
 len:o.length=a.length+1
 car:c<2 ^ n
 high:∀ k,i<=k->dgt o k=0
 val:vl o+4294967296 ^ i*c=2 ^ n*vl (a.take i)
theorem ShiftSt.zero (a:List Nat) (n:Nat):ShiftSt a n 0 (List.replicate (a.length+1) 0) 0 :=
 ⟨Dig.zeros _,by simp,Nat.two_pow_pos n,fun k _=>by
  by_cases h:k<a.length+1
  ·rw [dgt_in (by simpa using h)]; simp
  ·rw [dgt_out (by simpa using h)],by rw [vl_zeros]; simp [vl]⟩
theorem ShiftSt.step {a:List Nat} (ha:Dig a) {n i:Nat} (hn:n<32) {o:List Nat} {c:Nat} (hi:i<a.length) (h:ShiftSt a n i o c) :
  ShiftSt a n (i+1) (o.set i ((2 ^ n*dgt a i+c) % 4294967296)) ((2 ^ n*dgt a i+c) / 4294967296):=by
 have h1:=dgt_lt ha i;have h2:=h.car;have hlt:i<o.length:=by rw [h.len]; omega
 refine ⟨h.dig.set _ _ (Nat.mod_lt _ (by omega)),by simp [h.len],?_,fun k hk=>?_,?_⟩
 ·rw [Nat.div_lt_iff_lt_mul (by omega)];have:dgt a i+1<=4294967296:=h1;have:=Nat.mul_le_mul_left (2 ^ n) this;rw [Nat.mul_add] at this;omega
 ·rw [dgt_set hlt,if_neg (by omega)]; exact h.high k (by omega)
 ·have hs:=vl_set_dgt ((2 ^ n*dgt a i+c) % 4294967296) hlt;rw [h.high i (Nat.le_refl _)] at hs;have hm:=congrArg (4294967296 ^ i*·) (Nat.mod_add_div (2 ^ n*dgt a i+c) 4294967296);simp only [Nat.mul_add] at hm;have hv:=h.val;rw [vl_take_dgt,Nat.pow_succ,Nat.mul_add,Nat.mul_assoc,Nat.mul_left_comm (2 ^ n)];omega
theorem ShiftSt.done {a:List Nat} {n:Nat} {o:List Nat} {c:Nat} (h:ShiftSt a n a.length o c) (hn:n<32) :
  Dig (o.set a.length c)/\(o.set a.length c).length=a.length+1/\vl (o.set a.length c)=2 ^ n*vl a:=by
 have hlt:a.length<o.length:=by rw [h.len]; omega
 have hs:=vl_set_dgt c hlt;rw [h.high _ (Nat.le_refl _)] at hs;have hv:=h.val;rw [List.take_length] at hv;have hp:2 ^ n<=2 ^ 31:=Nat.pow_le_pow_right (by omega) (by omega);exact ⟨h.dig.set _ _ (by have:=h.car; omega),by simp [h.len],by omega⟩
theorem grownBy_refl (w:World) (row:Option Nat):w.grownBy w row:=⟨rfl,rfl,rfl,Nat.le_refl _,fun _ _ _=>rfl⟩
def Lies (w:World) (ao:Option Addr) (m:Nat) (news:List Value):Prop:=m=0∨∃ ad,ao=some ad/\∀ j u,news[j]?=some u->w.cell? (ad.add j)=some u
section
variable {P:Program} {w:World}
theorem run_append_any (base:Nat) (t ty e:TypeId) (i:TypeInfo) (z:Value) (size bytes:Nat) (ht:P.underlying t=some (.slice e)) (hi:P.info? e=some i) (hz:i.zero=some z)
  (hsize:i.size=size) (hby:i.bytes=bytes) (hzs:z.cells.size=size) (hsz:0<size)
  (v:Value) (n:Nat) (xs:List Value) (hown:w.ownsRow base e size v n xs)
  (ao:Option Addr) (m c:Nat) (hc:ao=none->c=0) (news:List Value) (hl:news.length=m*size) (hnews:Lies w ao m news) (h1:∀ u ∈ news,u.oneCell'=true)
  (h63:n+m<=maxLen) (hbytes:(n+m)*bytes<=140737488355328) (hbase:base<=w.heap.size) :
  ∃ v' w',(Builtin.append_ #[t,t] ty #[v,.slice ao m c]).run P w=.ok v' w'/\w'.ownsRow base e size v' (n+m) (xs++news)/\w.grownBy w' v.ownBlock/\(v'.ownBlock=v.ownBlock∨v'.ownBlock=some w.heap.size):=by
 cases ao with
 | none =>
  have hm:m=0:=by
   rcases hnews with h | ⟨ad,h,_⟩
   ·exact h
   ·cases h
  subst hm;have hc0:=hc rfl;subst hc0;have hn:news=[]:=List.eq_nil_of_length_eq_zero (by rw [hl]; simp);subst hn;refine ⟨v,w,run_append_owned_none w base t ty e i size ht hi v n xs hown,by simpa using hown,grownBy_refl _ _,.inl rfl⟩
 | some ad =>
  have hn:∀ j u,news[j]?=some u->w.cell? (ad.add j)=some u:=by
   rcases hnews with h | ⟨ad',h,h2⟩
   ·subst h;have hn:news=[]:=List.eq_nil_of_length_eq_zero (by rw [hl]; simp);subst hn;intro j u hu; simp at hu
   ·cases h; exact h2
  obtain ⟨v',w',hr,h2,h3,_,h5⟩:=run_append_own_at (P:=P) w base t ty e i z size bytes ht hi hz hsize hby hzs hsz v n xs hown ad m c news hl hn h1 h63 hbytes hbase;exact ⟨v',w',hr,h2,h3,h5⟩
theorem wpList_append_any {ops:Array Oper} {rest:List Oper} {o:Oper} {a:Act} {Q:Exit->Act->World->Prop} (hgd:o.guard=none) (s x:Operand) (t:TypeId)
  (ho:o.op=.call { callee:=.builtin .append,args:=#[s,x],argTypes:=#[t,t] })
  (base:Nat) (e:TypeId) (i:TypeInfo) (z:Value) (size bytes:Nat) (ht:P.underlying t=some (.slice e)) (hi:P.info? e=some i) (hz:i.zero=some z)
  (hsize:i.size=size) (hby:i.bytes=bytes) (hzs:z.cells.size=size) (hsz:0<size)
  (v:Value) (n:Nat) (xs:List Value) (hs:a.eval s=v) (hown:w.ownsRow base e size v n xs)
  (ao:Option Addr) (m c:Nat) (hc:ao=none->c=0) (news:List Value) (hx:a.eval x=.slice ao m c) (hl:news.length=m*size) (hnews:Lies w ao m news) (h1:∀ u ∈ news,u.oneCell'=true)
  (h63:n+m<=maxLen) (hbytes:(n+m)*bytes<=140737488355328) (hbase:base<=w.heap.size)
  (h:∀ v' w',w'.ownsRow base e size v' (n+m) (xs++news)->w.grownBy w' v.ownBlock->(v'.ownBlock=v.ownBlock∨v'.ownBlock=some w.heap.size)->wpList P ops Q rest (a.put o.dst v') w') :
  wpList P ops Q (o :: rest) a w:=by
 refine wpList_plain hgd fun K hK=>?_;obtain ⟨v',w',hr,h2,h3,h5⟩:=run_append_any (P:=P) (w:=w) base t o.type e i z size bytes ht hi hz hsize hby hzs hsz v n xs hown ao m c hc news hl hnews h1 h63 hbytes hbase;unfold Oper.wp execOp;simp only [ho,resolve,invoke,builtin,Sem.run_bind,Sem.run_pure,Result.andThen_ok,List.map_toArray,List.map_cons,List.map_nil,hs,hx,hr];exact hK _ _ (h v' w' h2 h3 h5)
theorem step_append_any {ops:Array Oper} {o:Oper} {a:Act} {K:Act->World->Prop} {Q:Exit->Act->World->Prop} {E:Prop} (hgd:o.guard=none) (s x:Operand) (t:TypeId)
  (ho:o.op=.call { callee:=.builtin .append,args:=#[s,x],argTypes:=#[t,t] })
  (base:Nat) (e:TypeId) (i:TypeInfo) (z:Value) (size bytes:Nat) (ht:P.underlying t=some (.slice e)) (hi:P.info? e=some i) (hz:i.zero=some z)
  (hsize:i.size=size) (hby:i.bytes=bytes) (hzs:z.cells.size=size) (hsz:0<size)
  (v:Value) (n:Nat) (xs:List Value) (hs:a.eval s=v) (hown:w.ownsRow base e size v n xs)
  (ao:Option Addr) (m c:Nat) (hc:ao=none->c=0) (news:List Value) (hx:a.eval x=.slice ao m c) (hl:news.length=m*size) (hnews:Lies w ao m news) (h1:∀ u ∈ news,u.oneCell'=true)
  (h63:n+m<=maxLen) (hbytes:(n+m)*bytes<=140737488355328) (hbase:base<=w.heap.size)
  (h:∀ v' w',w'.ownsRow base e size v' (n+m) (xs++news)->w.grownBy w' v.ownBlock->(v'.ownBlock=v.ownBlock∨v'.ownBlock=some w.heap.size)->K (a.put o.dst v') w') :
  if Region.wanted o (yielded ops a.tmps)=true then Oper.wp P o a w K Q else E:=by
 have hw:Region.wanted o (yielded ops a.tmps)=true:=by simp [Region.wanted,hgd]
 rw [if_pos hw];obtain ⟨v',w',hr,h2,h3,h5⟩:=run_append_any (P:=P) (w:=w) base t o.type e i z size bytes ht hi hz hsize hby hzs hsz v n xs hown ao m c hc news hl hnews h1 h63 hbytes hbase;unfold Oper.wp execOp;simp only [ho,resolve,invoke,builtin,Sem.run_bind,Sem.run_pure,Result.andThen_ok,List.map_toArray,List.map_cons,List.map_nil,hs,hx,hr];exact h v' w' h2 h3 h5
end
section
variable {β:Type} {f:β->List Value} {m:Nat}
theorem fm_length (hf:∀ x,(f x).length=m) (l:List β):(l.flatMap f).length=l.length*m:=by
 induction l with
 | nil=>simp
 | cons x r ih=>rw [List.flatMap_cons,List.length_append,hf,ih,List.length_cons,Nat.succ_mul]; omega
theorem fm_drop (hf:∀ x,(f x).length=m) (l:List β) (i:Nat):(l.flatMap f).drop (i*m)=(l.drop i).flatMap f:=by
 induction l generalizing i with
 | nil=>simp
 | cons x r ih =>
  cases i with
  | zero=>simp
  | succ i=>rw [List.flatMap_cons,Nat.succ_mul,Nat.add_comm,<- List.drop_drop,List.drop_left' (hf x),ih]; rfl
theorem fm_get (hf:∀ x,(f x).length=m) (l:List β) (i:Nat) {x:β} (h:l[i]?=some x) (j:Nat) (hj:j<m):(l.flatMap f)[i*m+j]?=(f x)[j]?:=by
 have h1:(l.flatMap f)[i*m+j]?=((l.flatMap f).drop (i*m))[j]?:=by rw [List.getElem?_drop]
 rw [h1,fm_drop hf];obtain ⟨hi,he⟩:=List.getElem?_eq_some_iff.1 h;rw [List.drop_eq_getElem_cons hi,he,List.flatMap_cons,List.getElem?_append_left (by rw [hf]; exact hj)]
end
def dv (d:Nat):Value:=.int .u32 (d:Int)
theorem Tryz.infoU32:(Tryz.prog.info? 129).map (fun i=>(i.zero,i.size,i.bytes))=some (some (.int .u32 0),1,4):=by kernel_rfl
def Rds (w:World) (v:Value) (l:List Nat):Prop :=
 Dig l/\∃ ao c,v=.slice ao l.length c/\l.length<=c/\c<=maxLen/\(ao=none->c=0)/\(0<l.length->∃ b off,ao=some ⟨b,off,none⟩/\b<w.heap.size/\∀ i d,l[i]?=some d->w.cell? ⟨b,off+i,none⟩=some (dv d))
theorem Rds.nil (w:World):Rds w (.slice none 0 0) []:=⟨Dig.nil,none,0,rfl,Nat.le_refl _,Nat.zero_le _,fun _=>rfl,fun h=>absurd h (Nat.lt_irrefl 0)⟩
theorem Rds.keep {w w':World} {v:Value} {l:List Nat} (h:Rds w v l) (hx:XF w w'):Rds w' v l:=by
 obtain ⟨h0,ao,c,rfl,h1,h2,h3,h4⟩:=h;refine ⟨h0,ao,c,rfl,h1,h2,h3,fun hp=>?_⟩;obtain ⟨b,off,e,hb,hc⟩:=h4 hp;exact ⟨b,off,e,Nat.lt_of_lt_of_le hb hx.size,fun i d hi=>(hx.cell (p:=⟨b,off+i,none⟩) hb id).trans (hc i d hi)⟩
def Own (w:World) (base:Nat) (v:Value) (l:List Nat):Prop:=w.ownsRow base 129 1 v l.length (l.map dv)
theorem Own.rds {w:World} {base:Nat} {v:Value} {l:List Nat} (h:Own w base v l) (hd:Dig l):Rds w v l:=by
 refine ⟨hd,?_⟩;rcases h.2 with ⟨h1,h2⟩ | ⟨g,c,cur,h1,_,h3,h4,h5,_,_⟩
 ·exact ⟨none,0,by rw [h1,h2],by omega,Nat.zero_le _,fun _=>rfl,fun h=>by omega⟩
 ·subst h1;refine ⟨_,c,rfl,h4,h5,fun h=>(by cases h),fun _=>⟨g,0,rfl,blk_lt (w:=w) (b:=g) h3,fun i d hi=>?_⟩⟩;have:=World.ownsRow.cells h (g:=g) rfl i (dv d) (by rw [List.getElem?_map,hi]; rfl);rwa [Addr.add_lit] at this
def IsNat (w:World) (v:Value) (n:Nat):Prop:=Rds w v (dg n)
def NatPost (w:World) (n:Nat) (r:Ending) (w':World):Prop:=∃ v,r=.returned v/\IsNat w' v n/\XF w w'
theorem Rds.take {w:World} {ao:Option Addr} {c m:Nat} {l:List Nat} (h:Rds w (.slice ao m c) l) (n:Nat) (hn:n<=m) (h0:ao=none->n=0):Rds w (.slice ao n n) (l.take n):=by
 obtain ⟨hd,ao',c',e,h1,h2,h3,h4⟩:=h;cases e;have hl:(l.take n).length=n:=by rw [List.length_take]; omega
 refine ⟨hd.take n,ao,n,by rw [hl],by omega,by omega,h0,fun hp=>?_⟩;obtain ⟨b,off,e,hb,hc⟩:=h4 (by omega);refine ⟨b,off,e,hb,fun i d hi=>hc i d ?_⟩;have hlt:=(List.getElem?_eq_some_iff.1 hi).1;rwa [List.getElem?_take_of_lt (by omega)] at hi
def CutOf (v v':Value):Prop:=∀ ao m c,v=.slice ao m c->∃ n,v'=.slice ao n n
def SamePost (w:World) (Q:Value->Prop) (r:Ending) (w':World):Prop:=w'=w/\∃ v,r=.returned v/\Q v
theorem trim_at (w:World) (v:Value) (l:List Nat) (h:Rds w v l):Calls Tryz.prog 219 #[v] w (SamePost w fun v'=>Rds w v' (trimL l)/\CutOf v v'):=by
 have h':=h;obtain ⟨hd,ao,c,rfl,h1,h2,h3,h4⟩:=h';obtain ⟨m,hm⟩:∃ m,l.length=m:=⟨_,rfl⟩;have hmx:m<=9223372036854775807:=by unfold maxLen at h2; omega
 rw [hm] at h h1 h4 ⊢;have H:=bH h;have H4:=bH h4;have Hm:=bH hm;have Hd:=bH hd;clear h h4 hm hd;go_enter Tryz.func219,Tryz.ntmps219;go_wp2_with fail;go_loopg [3] m (fun g v3 wr=>∃ n:Nat,n<=m/\g=n/\v3=.int .i64 n/\wr=w/\∀ i,n<=i->(hi:i<l.length)->l[i]=0);case atStart=>exact ⟨m,Nat.le_refl _,rfl,rfl,rfl,fun i hi hl=>by have:=Hm.o; omega⟩
 case round =>
  obtain ⟨n,hn,hg,rfl,hwr,hz⟩:=hrel;obtain rfl:=hg.symm;obtain rfl:=hwr.symm;by_cases h0:n=0
  ·subst h0;have HR:=bH (H.o.take 0 hn (fun _=>rfl));have HT:=bH (trim_take Hd.o (Nat.zero_le _) hz (.inl rfl));clear hz;cases ao with
   | none =>
    have hc:=h3 rfl;subst hc;go_wp2;go_ret;exact ⟨rfl,_,rfl,(by rw [<- HT.o]; exact HR.o),(by intro _ _ _ e; cases e; exact ⟨_,rfl⟩)⟩
   | some ad =>
    go_wp2;go_ret;exact ⟨rfl,_,rfl,(by rw [<- HT.o]; exact HR.o),(by intro _ _ _ e; cases e; exact ⟨_,rfl⟩)⟩
  ·obtain ⟨b,off,rfl,hb,hc⟩:=H4.o (by omega);obtain ⟨j,rfl⟩:∃ j,n=j+1:=⟨n - 1,by omega⟩;have hj:j<l.length:=(by have:=Hm.o; omega);have c0:=hc j l[j] (List.getElem?_eq_getElem hj);unfold dv at c0;have hd:=Hd.o.get j hj;have p0:(0:Int)<((j+1:Nat):Int):=(by omega);have p1:((j+1:Nat):Int) - 1=j:=(by omega);by_cases hz0:l[j]=0
   ·rw [hz0] at c0;clear hc;have Hz:=bH hz;clear hz;go_wp2;go_roundg j;case measure=>omega
    case rel=>exact ⟨j,by omega,rfl,by go_num,rfl,fun i hi hl=>by
     by_cases e:i=j
     ·subst e; exact hz0
     ·exact Hz.o i (by omega) hl⟩
   ·have HR:=bH (H.o.take (j+1) hn (fun h=>by cases h));have HT:=bH (trim_take Hd.o (by have:=Hm.o; omega) hz (.inr ⟨by omega,by simpa using hz0⟩));have hz1:¬ (l[j]:Int)=0:=(by omega);clear hz hc;generalize l[j]=dj at *;go_wp2;go_ret;exact ⟨rfl,_,rfl,(by rw [<- HT.o]; exact HR.o),(by intro _ _ _ e; cases e; exact ⟨_,rfl⟩)⟩
theorem trim_any (w:World) (v:Value) (l:List Nat) (h:Rds w v l):Calls Tryz.prog 219 #[v] w (SamePost w fun v'=>Rds w v' (trimL l)) :=
 (trim_at w v l h).mono fun _ _ h=>⟨h.1,h.2.imp fun _ h=>⟨h.1,h.2.1⟩⟩
theorem Ext.own {w0 w w':World} {S:Nat->Prop} (h:XF w0 w) (hx:Ext S w w') (hb:∀ k,S k->w0.heap.size<=k):XF w0 w' :=
 h.trans' hx (fun k hk e=>absurd hk (by have:=hb k e; omega))
theorem ownsRow_shape {w:World} {base:Nat} {e:TypeId} {size:Nat} {v:Value} {n:Nat} {xs:List Value} (h:w.ownsRow base e size v n xs):∃ ao cap,v=.slice ao n cap:=by
 rcases h.2 with ⟨h1,h2⟩ | ⟨g,c,cur,h1,_⟩
 ·exact ⟨none,0,by rw [h1,h2]⟩
 ·exact ⟨_,_,h1⟩
theorem ownsRow_empty {w:World} {base g:Nat} {e:TypeId} (size:Nat) (hg:base<=g) (h:blk w g=some (.cells #[] e (0,0))):w.ownsRow base e size (.slice (some ⟨g,0,none⟩) 0 0) 0 [] :=
 ⟨by simp,.inr ⟨g,0,#[],rfl,hg,h,Nat.le_refl _,Nat.zero_le _,by simp,by simp⟩⟩
theorem dv_one (l:List Nat):∀ u ∈ l.map dv,u.oneCell'=true:=fun u hu=>by
 obtain ⟨d,_,rfl⟩:=List.mem_map.1 hu;rfl
theorem Own.nil (w:World) (base:Nat):Own w base (.slice none 0 0) []:=World.ownsRow_nil w base _ 1
theorem Own.shape {w:World} {base:Nat} {v:Value} {l:List Nat} (h:Own w base v l):∃ ao cap,v=.slice ao l.length cap:=ownsRow_shape h
theorem Own.keep {w w':World} {base:Nat} {v:Value} {l:List Nat} (h:Own w base v l) (hx:XF w w'):Own w' base v l:=ownsRow_ext h hx (fun _ _ h=>h)
theorem Own.ge {w:World} {base:Nat} {v:Value} {l:List Nat} (h:Own w base v l):∀ g,v.ownBlock=some g->base<=g:=fun g e=>by
 rcases h.2 with ⟨h1,_⟩ | ⟨g1,c,cur,h1,h2,_⟩
 ·subst h1; cases e
 ·subst h1; cases e; exact h2
def OwnPost (w:World) (l:List Nat) (r:Ending) (w':World):Prop:=∃ v',r=.returned v'/\Own w' w.heap.size v' l/\XF w w'
theorem Rds.lies {w:World} {ao:Option Addr} {m c:Nat} {l:List Nat} (h:Rds w (.slice ao m c) l):Lies w ao m (l.map dv):=by
 obtain ⟨_,ao',c',e,h1,h2,h3,h4⟩:=h;cases e;by_cases h0:l.length=0
 ·exact .inl h0
 ·obtain ⟨b,off,rfl,hb,hc⟩:=h4 (by omega);refine .inr ⟨_,rfl,fun j u hu=>?_⟩;rw [List.getElem?_map] at hu;cases hq:l[j]? with
  | none=>rw [hq] at hu; cases hu
  | some d=>rw [hq] at hu; cases hu; rw [Addr.add_lit]; exact hc j d hq
theorem clone_any (w:World) (v:Value) (l:List Nat) (h:Rds w v l) (hl:l.length<=1073741824):Calls Tryz.prog 228 #[v] w (OwnPost w l):=by
 have h':=h;obtain ⟨hd,ao,c,rfl,h1,h2,h3,h4⟩:=h';obtain ⟨m,hm⟩:∃ m,l.length=m:=⟨_,rfl⟩;rw [hm] at h h1 h4 hl ⊢;obtain ⟨i0,hi,hz0,hz1,hz2⟩:=info_parts Tryz.infoU32;have H:=bH h;have Hm:=bH hm;have Hi:=bH (bI hi (bI hz0 (bI hz1 hz2)));have q22:∀ (w:World) (a:Option Addr) (n c n' c':Nat),(binOp .eql 60 (.slice a n c) (.slice none n' c')).run Tryz.prog w=.ok (.bool a.isNone) w:=fun w a n c n' c'=>Lib.run_eql_slice_nil w _ _ a n c n' c' Tryz.underlying60;clear h h4 hm hd hi hz0 hz1 hz2;cases ao with
 | none =>
  have hc:=h3 rfl;subst hc;have hm0:m=0:=(by omega);subst hm0;obtain rfl:=List.eq_nil_of_length_eq_zero Hm.o;go_enter Tryz.func228,Tryz.ntmps228;go_wp2;go_ret;exact ⟨_,rfl,Own.nil _ _,Ext.refl _ _⟩
 | some ad =>
  have hx1:XF w (w.alloc (.cells #[] 129)):=(Ext.refl _ w).alloc _;have hb1:blk (w.alloc (.cells #[] 129)) w.heap.size=some (.cells #[] 129 (0,0)):=blk_alloc_at _ _;have L1:=(H.o.keep hx1).lies;have HL:=bH L1;have HX1:=bH hx1;have HB1:=bH hb1;clear L1 hx1 hb1;go_enter Tryz.func228,Tryz.ntmps228;go_wp2_with (at_builtin; refine wpList_append_any rfl (.tmp 5) (.tmp 6) 60 rfl w.heap.size 129 i0 _ 1 4 Tryz.underlying60 Hi.o.1 Hi.o.2.1 Hi.o.2.2.1 Hi.o.2.2.2 rfl (by decide) _ 0 [] rfl (ownsRow_empty 1 (Nat.le_refl _) HB1.o) _ _ _ (fun e=>by cases e) _ rfl (by have:=Hm.o; simp [this]) HL.o (dv_one _) (by simp only [maxLen]; omega) (by omega) (by simp) ?_; intro v5 w5 hown5 hgrow5 hat5; have HO:Hid (OwnPost w l (.returned v5) w5):=bH ⟨v5,rfl,(by unfold Own; have:=Hm.o; rw [this]; simpa using hown5),HX1.o.own ((Ext.refl (fun k=>w.heap.size=k) _).grown hgrow5 (fun k e _=>Option.some.inj e)) (fun k e=>Nat.le_of_eq e)⟩; clear hown5 hgrow5 hat5);go_wp2;go_ret;exact HO.o
theorem fresh_any (w:World) (v:Value) (l:List Nat) (h:Rds w v l) (hl:l.length<=1073741824):Calls Tryz.prog 205 #[v] w (NatPost w (vl l)):=by
 have H:=bH h;have h2:=trimL_length l h.1;have hlen:(trimL l).length<=1073741824:=by omega
 clear h h2;go_enter Tryz.func205,Tryz.ntmps205;go_wp2_with fail;refine (trim_any w v l H.o).mono ?_;rintro r w' ⟨hw,v1,rfl,h1⟩; obtain rfl:=hw.symm;have H1:=bH h1;clear h1 hw;go_wp2_with fail;refine (clone_any w v1 _ H1.o hlen).mono ?_;rintro r w2 ⟨v2,rfl,ho,hx⟩;have HP:Hid (NatPost w (vl l) (.returned v2) w2):=bH ⟨v2,rfl,ho.rds (dg_dig _),hx⟩;clear ho hx;go_wp2;go_ret;exact HP.o
theorem digit_any (w:World) (v:Value) (l:List Nat) (h:Rds w v l) (i:Nat) (hi:i<=9223372036854775807):Calls Tryz.prog 212 #[v,.int .i64 i] w fun r w'=>r=.returned (.int .u64 (dgt l i))/\w'=w:=by
 have h':=h;obtain ⟨hd,ao,c,rfl,h1,h2,h3,h4⟩:=h';obtain ⟨m,hm⟩:∃ m,l.length=m:=⟨_,rfl⟩;have hmx:m<=9223372036854775807:=by unfold maxLen at h2; omega
 by_cases hlt:i<l.length
 ·obtain ⟨b,off,rfl,hb,hc⟩:=h4 (by omega);have c0:=hc i l[i] (List.getElem?_eq_getElem hlt);unfold dv at c0;rw [dgt_in hlt];have hdi:=hd.get i hlt;rw [hm] at hlt ⊢;clear hc h h3 h4;generalize l[i]=d at *;have i0:(0:Int)<=(i:Int):=(by omega);have i1:(i:Int)<(m:Int):=(by omega);have hw:IntKind.u64.wrap (d:Int)=d:=IntWalk.u64_in _ (by omega);go_enter Tryz.func212,Tryz.ntmps212;go_wp2;go_ret;exact ⟨ret_int (by omega),rfl⟩
 ·rw [dgt_out (by omega)];rw [hm] at hlt ⊢;have i1:(m:Int)<=(i:Int):=(by omega);clear h h3 h4;go_enter Tryz.func212,Tryz.ntmps212;go_wp2;go_ret;exact ⟨rfl,rfl⟩
theorem ret_two {k k':IntKind} {a b c d:Int} (h:a=b) (h':c=d):Ending.returned (.tuple #[.int k a,.int k' c])=.returned (.tuple #[.int k b,.int k' d]):=by rw [h,h']
theorem row_ge {w:World} {base:Nat} {e:TypeId} {size:Nat} {v:Value} {n:Nat} {xs:List Value} (h:w.ownsRow base e size v n xs):∀ g,v.ownBlock=some g->base<=g:=fun g e=>by
 rcases h.2 with ⟨h1,_⟩ | ⟨g1,c,cur,h1,h2,_⟩
 ·subst h1; cases e
 ·subst h1; cases e; exact h2
theorem own_app {w:World} {base j D:Nat} {v:Value} {o:List Nat} (hlen:o.length=j) (h:w.ownsRow base 129 1 v (j+1) (o.map dv++[.int .u32 (D:Int)])):Own w base v (o++[D]):=by
 unfold Own;rw [List.length_append,hlen,List.map_append];exact h
theorem wrapU (x:Int):IntKind.u64.wrap x=x % 18446744073709551616:=by simp [IntKind.wrap,IntKind.bits,IntKind.signed]
theorem addF_any (w:World) (x y c:Nat) (hx:x<4294967296) (hy:y<4294967296) (hc:c<=1) :
  Calls Tryz.prog 211 #[.int .u64 x,.int .u64 y,.int .u64 c] w fun r w'=>r=.returned (.tuple #[dv ((x+y+c) % 4294967296),.int .u64 ((x+y+c) / 4294967296:Nat)])/\w'=w:=by
 go_enter Tryz.func211,Tryz.ntmps211;go_wp2;go_ret2;exact ⟨ret_two (k:=.u32) (k':=.u64) (by omega) (by omega),rfl⟩
theorem subF_any (w:World) (x y c:Nat) (hx:x<4294967296) (hy:y<4294967296) (hc:c<=1) :
  Calls Tryz.prog 213 #[.int .u64 x,.int .u64 y,.int .u64 c] w fun r w'=>r=.returned (.tuple #[dv (subD x y c),.int .u64 (subB x y c:Nat)])/\w'=w:=by
 go_enter Tryz.func213,Tryz.ntmps213;go_wp2;go_ret2;refine ⟨ret_two (k:=.u32) (k':=.u64) ?_ ?_,rfl⟩
 ·rw [wrapU,wrapU]; unfold subD; split <;> omega
 ·rw [wrapU,wrapU]; unfold subB; split <;> omega
theorem combineAdd_any (w:World) (va vb:Value) (a b:List Nat) (ha:Rds w va a) (hb:Rds w vb b) (hal:a.length<=1073741823) (hbl:b.length<=1073741823) :
  Calls Tryz.prog 210 #[va,vb,.func (.func 211) #[] #[]] w fun r w'=>∃ v o c,r=.returned v/\AddSt a b (max a.length b.length+1) o c/\Rds w' v (trimL o)/\XF w w':=by
 obtain ⟨ada,aao,ac,rfl,_⟩:=id ha;obtain ⟨bda,bao,bc,rfl,_⟩:=id hb;obtain ⟨m,hm⟩:∃ m,max a.length b.length+1=m:=⟨_,rfl⟩;have hmx:m<=1073741824:=by omega
 have hm2:max (a.length:Int) (b.length:Int)+1=m:=by omega
 obtain ⟨i0,hi,hz0,hz1,hz2⟩:=info_parts Tryz.infoU32;have Ha:=bH ha;have Hb:=bH hb;have Hi:=bH (bI hi (bI hz0 (bI hz1 hz2)));clear ha hb hi hz0 hz1 hz2;rw [hm];generalize hna:a.length=na at *;generalize hnb:b.length=nb at *;have HN:=bH (bI hna hnb);clear hna hnb;go_enter Tryz.func210,Tryz.ntmps210;go_upto_region 3 with fail;go_cut [16,17] (fun v16 v17 wx=>v16=.int .i64 m/\v17=.int .i64 0/\wx=w);case first =>
  by_cases hc:na<nb
  ·go_wp2;go_meet;exact ⟨by go_num,rfl,rfl⟩
  ·go_wp2;go_meet;exact ⟨by go_num,rfl,rfl⟩
 case rest =>
  obtain ⟨rfl,rfl,hwc⟩:=hcut;obtain rfl:=hwc.symm;go_wp2_with fail;go_loopg [7,8,17] m (fun g v7 v8 v17 wr=>∃ (j:Nat) (o:List Nat) (c:Nat),j<=m/\g=m - j/\v17=.int .i64 j/\v8=.int .u64 c/\AddSt a b j o c/\Own wr w.heap.size v7 o/\XF w wr);case atStart=>exact ⟨0,[],0,Nat.zero_le _,rfl,rfl,rfl,AddSt.zero a b,Own.nil _ _,Ext.refl _ _⟩
  case round =>
   obtain ⟨j,o,c,hj,rfl,rfl,rfl,hst,ho,hx⟩:=hrel;by_cases hjm:j<m
   ·have hda:=digit_any wr _ a (Ha.o.keep hx) j (by omega);have hdb:=digit_any wr _ b (Hb.o.keep hx) j (by omega);have h1:=dgt_lt Ha.o.1 j;have h2:=dgt_lt Hb.o.1 j;have hF:=addF_any wr _ _ _ h1 h2 hst.car;have hst2:=hst.step Ha.o.1 Hb.o.1;obtain ⟨ao,cap,rfl⟩:=ho.shape;have Hda:=bH hda;have Hdb:=bH hdb;have HF:=bH hF;have Hst:=bH hst2;have Ho:=bH ho;have Hx:=bH hx;have hlen:=hst.len;clear hda hdb hF hst hst2 ho hx h1 h2;go_wp2_with fail;refine Hda.o.mono ?_;rintro r w' ⟨rfl,hw⟩; obtain rfl:=hw.symm;go_wp2_with fail;refine Hdb.o.mono ?_;rintro r w' ⟨rfl,hw⟩; obtain rfl:=hw.symm;go_wp2_with fail;refine HF.o.mono ?_;rintro r w' ⟨rfl,hw⟩; obtain rfl:=hw.symm;obtain ⟨D,hD⟩:∃ D,(dgt a j+dgt b j+c) % 4294967296=D:=⟨_,rfl⟩;obtain ⟨E,hE⟩:∃ E,(dgt a j+dgt b j+c) / 4294967296=E:=⟨_,rfl⟩;rw [hD,hE] at Hst;rw [hD,hE];have hx1:XF wr (wr.alloc (.cells #[dv D] 129)):=(Ext.refl _ wr).alloc _;have HX1:=bH hx1;have HO1:Hid ((wr.alloc (.cells #[dv D] 129)).ownsRow w.heap.size 129 1 (.slice ao j cap) j (o.map dv)):=bH (by have:=Ho.o.keep hx1; unfold Own at this; rw [hlen] at this; exact this);have HG:=bH (row_ge HO1.o);clear hx1 hD hE Hda Hdb HF hw;unfold dv at HX1 HO1 ⊢;go_wp2_with (at_builtin; refine wpList_append_any rfl (.tmp 32) (.tmp 34) 60 rfl w.heap.size 129 i0 _ 1 4 Tryz.underlying60 Hi.o.1 Hi.o.2.1 Hi.o.2.2.1 Hi.o.2.2.2 rfl (by decide) _ _ _ rfl HO1.o _ 1 1 (fun e=>by cases e) [.int .u32 (D:Int)] rfl rfl (.inr ⟨_,rfl,cells_new [.int .u32 (D:Int)] _ rfl⟩) (dv_one [D]) (by simp only [maxLen]; omega) (by omega) (Nat.le_trans Hx.o.size HX1.o.size) ?_; intro v5 w5 hown5 hgrow5 hat5; have HO:Hid (Own w5 w.heap.size v5 (o++[D])):=bH (own_app hlen hown5); have HX:Hid (XF w w5):=bH ((Hx.o.trans HX1.o).grown hgrow5 (fun k e h=>absurd (HG.o k e) (by omega))); clear hown5 hgrow5 hat5);go_wp2;go_roundg (m - (j+1));case measure=>omega
    case rel=>exact ⟨j+1,_,_,by omega,rfl,by go_num,rfl,Hst.o,HO.o,HX.o⟩
   ·have e:j=m:=(by omega);subst e;have HT:=bH (trim_any wr _ o (ho.rds hst.dig));have HS:=bH hst;have Hx:=bH hx;clear hst ho hx;go_wp2_with fail;refine HT.o.mono ?_;rintro r w' ⟨hw,v9,rfl,h9⟩; obtain rfl:=hw.symm;have H9:=bH h9;clear h9 HT hw;go_wp2;go_ret;exact ⟨_,o,c,rfl,HS.o,H9.o,Hx.o⟩
theorem combineSub_any (w:World) (va vb:Value) (a b:List Nat) (ha:Rds w va a) (hb:Rds w vb b) (hal:a.length<=1073741823) (hbl:b.length<=1073741823) :
  Calls Tryz.prog 210 #[va,vb,.func (.func 213) #[] #[]] w fun r w'=>∃ v o c,r=.returned v/\SubSt a b (max a.length b.length+1) o c/\Rds w' v (trimL o)/\XF w w':=by
 obtain ⟨ada,aao,ac,rfl,_⟩:=id ha;obtain ⟨bda,bao,bc,rfl,_⟩:=id hb;obtain ⟨m,hm⟩:∃ m,max a.length b.length+1=m:=⟨_,rfl⟩;have hmx:m<=1073741824:=by omega
 have hm2:max (a.length:Int) (b.length:Int)+1=m:=by omega
 obtain ⟨i0,hi,hz0,hz1,hz2⟩:=info_parts Tryz.infoU32;have Ha:=bH ha;have Hb:=bH hb;have Hi:=bH (bI hi (bI hz0 (bI hz1 hz2)));clear ha hb hi hz0 hz1 hz2;rw [hm];generalize hna:a.length=na at *;generalize hnb:b.length=nb at *;have HN:=bH (bI hna hnb);clear hna hnb;go_enter Tryz.func210,Tryz.ntmps210;go_upto_region 3 with fail;go_cut [16,17] (fun v16 v17 wx=>v16=.int .i64 m/\v17=.int .i64 0/\wx=w);case first =>
  by_cases hc:na<nb
  ·go_wp2;go_meet;exact ⟨by go_num,rfl,rfl⟩
  ·go_wp2;go_meet;exact ⟨by go_num,rfl,rfl⟩
 case rest =>
  obtain ⟨rfl,rfl,hwc⟩:=hcut;obtain rfl:=hwc.symm;go_wp2_with fail;go_loopg [7,8,17] m (fun g v7 v8 v17 wr=>∃ (j:Nat) (o:List Nat) (c:Nat),j<=m/\g=m - j/\v17=.int .i64 j/\v8=.int .u64 c/\SubSt a b j o c/\Own wr w.heap.size v7 o/\XF w wr);case atStart=>exact ⟨0,[],0,Nat.zero_le _,rfl,rfl,rfl,SubSt.zero a b,Own.nil _ _,Ext.refl _ _⟩
  case round =>
   obtain ⟨j,o,c,hj,rfl,rfl,rfl,hst,ho,hx⟩:=hrel;by_cases hjm:j<m
   ·have hda:=digit_any wr _ a (Ha.o.keep hx) j (by omega);have hdb:=digit_any wr _ b (Hb.o.keep hx) j (by omega);have h1:=dgt_lt Ha.o.1 j;have h2:=dgt_lt Hb.o.1 j;have hF:=subF_any wr _ _ _ h1 h2 hst.car;have hst2:=hst.step Ha.o.1 Hb.o.1;obtain ⟨ao,cap,rfl⟩:=ho.shape;have Hda:=bH hda;have Hdb:=bH hdb;have HF:=bH hF;have Hst:=bH hst2;have Ho:=bH ho;have Hx:=bH hx;have hlen:=hst.len;clear hda hdb hF hst hst2 ho hx h1 h2;go_wp2_with fail;refine Hda.o.mono ?_;rintro r w' ⟨rfl,hw⟩; obtain rfl:=hw.symm;go_wp2_with fail;refine Hdb.o.mono ?_;rintro r w' ⟨rfl,hw⟩; obtain rfl:=hw.symm;go_wp2_with fail;refine HF.o.mono ?_;rintro r w' ⟨rfl,hw⟩; obtain rfl:=hw.symm;obtain ⟨D,hD⟩:∃ D,subD (dgt a j) (dgt b j) c=D:=⟨_,rfl⟩;obtain ⟨E,hE⟩:∃ E,subB (dgt a j) (dgt b j) c=E:=⟨_,rfl⟩;rw [hD,hE] at Hst;rw [hD,hE];have hx1:XF wr (wr.alloc (.cells #[dv D] 129)):=(Ext.refl _ wr).alloc _;have HX1:=bH hx1;have HO1:Hid ((wr.alloc (.cells #[dv D] 129)).ownsRow w.heap.size 129 1 (.slice ao j cap) j (o.map dv)):=bH (by have:=Ho.o.keep hx1; unfold Own at this; rw [hlen] at this; exact this);have HG:=bH (row_ge HO1.o);clear hx1 hD hE Hda Hdb HF hw;unfold dv at HX1 HO1 ⊢;go_wp2_with (at_builtin; refine wpList_append_any rfl (.tmp 32) (.tmp 34) 60 rfl w.heap.size 129 i0 _ 1 4 Tryz.underlying60 Hi.o.1 Hi.o.2.1 Hi.o.2.2.1 Hi.o.2.2.2 rfl (by decide) _ _ _ rfl HO1.o _ 1 1 (fun e=>by cases e) [.int .u32 (D:Int)] rfl rfl (.inr ⟨_,rfl,cells_new [.int .u32 (D:Int)] _ rfl⟩) (dv_one [D]) (by simp only [maxLen]; omega) (by omega) (Nat.le_trans Hx.o.size HX1.o.size) ?_; intro v5 w5 hown5 hgrow5 hat5; have HO:Hid (Own w5 w.heap.size v5 (o++[D])):=bH (own_app hlen hown5); have HX:Hid (XF w w5):=bH ((Hx.o.trans HX1.o).grown hgrow5 (fun k e h=>absurd (HG.o k e) (by omega))); clear hown5 hgrow5 hat5);go_wp2;go_roundg (m - (j+1));case measure=>omega
    case rel=>exact ⟨j+1,_,_,by omega,rfl,by go_num,rfl,Hst.o,HO.o,HX.o⟩
   ·have e:j=m:=(by omega);subst e;have HT:=bH (trim_any wr _ o (ho.rds hst.dig));have HS:=bH hst;have Hx:=bH hx;clear hst ho hx;go_wp2_with fail;refine HT.o.mono ?_;rintro r w' ⟨hw,v9,rfl,h9⟩; obtain rfl:=hw.symm;have H9:=bH h9;clear h9 HT hw;go_wp2;go_ret;exact ⟨_,o,c,rfl,HS.o,H9.o,Hx.o⟩
theorem vl_take_lt {l:List Nat} (hl:Dig l) (i:Nat):vl (l.take i)<4294967296 ^ i :=
 Nat.lt_of_lt_of_le (vl_lt (hl.take i)) (pow_mono (by rw [List.length_take]; omega))
theorem dgt_lt_step {P x y d e:Nat} (hx:x<P) (h:d<e):x+P*d<y+P*e:=by
 have:=Nat.mul_le_mul_left P h;rw [Nat.mul_succ] at this;omega
theorem vl_less {a b:List Nat} (ha:Dig a) {i:Nat} (h:dgt a i<dgt b i) (hh:∀ j,i+1<=j->dgt a j=dgt b j):vl a<vl b:=by
 have key:∀ n,vl (a.take (i+1+n))<vl (b.take (i+1+n)):=fun n=>by
  induction n with
  | zero=>rw [Nat.add_zero,vl_take_dgt,vl_take_dgt]; exact dgt_lt_step (vl_take_lt ha i) h
  | succ n ih=>rw [<- Nat.add_assoc,vl_take_dgt,vl_take_dgt,hh _ (by omega)]; exact Nat.add_lt_add_right ih _
 have:=key (a.length+b.length);rwa [vl_take_all (by omega),vl_take_all (by omega)] at this
theorem vl_equal {a b:List Nat} (hh:∀ j,dgt a j=dgt b j):vl a=vl b:=by
 have key:∀ n,vl (a.take n)=vl (b.take n):=fun n=>by
  induction n with
  | zero=>simp
  | succ n ih=>rw [vl_take_dgt,vl_take_dgt,ih,hh]
 have:=key (a.length+b.length);rwa [vl_take_all (by omega),vl_take_all (by omega)] at this
def cmpN (x y:Nat):Int:=if x<y then -1 else if y<x then 1 else 0
theorem add_any (w:World) (va vb:Value) (a b:List Nat) (ha:Rds w va a) (hb:Rds w vb b) (hal:a.length<=1073741823) (hbl:b.length<=1073741823) :
  Calls Tryz.prog 171 #[va,vb] w (NatPost w (vl a+vl b)):=by
 have H:=bH (combineAdd_any w va vb a b ha hb hal hbl);have HA:=bH (bI ha.1 hb.1);clear ha hb;go_enter Tryz.func171,Tryz.ntmps171;go_wp2_with fail;refine H.o.mono ?_;rintro r w' ⟨v,o,c,rfl,hst,hr,hx⟩;have HP:Hid (NatPost w (vl a+vl b) (.returned v) w'):=bH ⟨v,rfl,by unfold IsNat; rw [<- hst.done HA.o.1 HA.o.2]; exact hr,hx⟩;clear hst hr hx;go_wp2;go_ret;exact HP.o
theorem cmp_any (w:World) (va vb:Value) (a b:List Nat) (ha:Rds w va a) (hb:Rds w vb b) (hal:a.length<=1073741823) (hbl:b.length<=1073741823) :
  Calls Tryz.prog 172 #[va,vb] w fun r w'=>r=.returned (.int .i64 (cmpN (vl a) (vl b)))/\w'=w:=by
 obtain ⟨ada,aao,ac,rfl,_⟩:=id ha;obtain ⟨bda,bao,bc,rfl,_⟩:=id hb;obtain ⟨m,hm⟩:∃ m,max a.length b.length=m:=⟨_,rfl⟩;have hmx:m<=1073741824:=by omega
 have hm2:max (a.length:Int) (b.length:Int) - 1=(m:Int) - 1:=by omega
 have hz:∀ j,m<=j->dgt a j=dgt b j:=fun j hj=>by rw [dgt_out (by omega),dgt_out (by omega)]
 have Ha:=bH ha;have Hb:=bH hb;have Hz:=bH hz;clear ha hb hz;generalize hna:a.length=na at *;generalize hnb:b.length=nb at *;clear hna hnb;go_enter Tryz.func172,Tryz.ntmps172;go_upto_region 1 with fail;go_cut [5] (fun v5 wx=>v5=.int .i64 ((m:Int) - 1)/\wx=w);case first =>
  by_cases hc:na<nb
  ·have hw:IntKind.i64.wrap ((nb:Int) - 1)=(nb:Int) - 1:=IntWalk.i64_in _ (by omega);go_wp2;go_meet;exact ⟨by go_num,rfl⟩
  ·have hw:IntKind.i64.wrap ((na:Int) - 1)=(na:Int) - 1:=IntWalk.i64_in _ (by omega);go_wp2;go_meet;exact ⟨by go_num,rfl⟩
 case rest =>
  obtain ⟨rfl,hwc⟩:=hcut;obtain rfl:=hwc.symm;go_wp2_with fail;go_loopg [5] m (fun g v5 wr=>∃ k:Nat,k<=m/\g=k/\v5=.int .i64 ((k:Int) - 1)/\wr=w/\∀ j,k<=j->dgt a j=dgt b j);case atStart=>exact ⟨m,Nat.le_refl _,rfl,rfl,rfl,Hz.o⟩
  case round =>
   obtain ⟨k,hk,hg,rfl,hwr,hz⟩:=hrel;obtain rfl:=hg.symm;obtain rfl:=hwr.symm;by_cases h0:k=0
   ·subst h0;have e:cmpN (vl a) (vl b)=0:=by
     unfold cmpN;rw [vl_equal (fun j=>hz j (Nat.zero_le _)),if_neg (Nat.lt_irrefl _),if_neg (Nat.lt_irrefl _)]
    clear hz;have p0:((0:Nat):Int) - 1 = -1:=(by omega);rw [p0];go_wp2;go_ret;exact ⟨by first | (rw [e]; rfl) | rfl,rfl⟩
   ·obtain ⟨i,rfl⟩:∃ i,k=i+1:=⟨k - 1,by omega⟩;have p1:((i+1:Nat):Int) - 1=i:=(by omega);rw [p1];have Hda:=bH (digit_any w _ a Ha.o i (by omega));have Hdb:=bH (digit_any w _ b Hb.o i (by omega));have h1:=dgt_lt Ha.o.1 i;have h2:=dgt_lt Hb.o.1 i;have p2:(0:Int)<=(i:Int):=(by omega);have hlt:=fun h=>vl_less Ha.o.1 (b:=b) (i:=i) h hz;have hgt:=fun h=>vl_less Hb.o.1 (b:=a) (i:=i) h (fun j hj=>(hz j hj).symm);have Hlt:=bH hlt;have Hgt:=bH hgt;have Hzz:=bH hz;clear hlt hgt hz;go_wp2_with fail;refine Hda.o.mono ?_;rintro r w' ⟨rfl,hw⟩; obtain rfl:=hw.symm;go_wp2_with fail;refine Hdb.o.mono ?_;rintro r w' ⟨rfl,hw⟩; obtain rfl:=hw.symm;obtain ⟨D,hD⟩:∃ D,dgt a i=D:=⟨_,rfl⟩;obtain ⟨E,hE⟩:∃ E,dgt b i=E:=⟨_,rfl⟩;rw [hD] at Hlt Hgt h1 ⊢;rw [hE] at Hlt Hgt h2 ⊢;clear Hda Hdb hw;by_cases q1:D<E
    ·have e:cmpN (vl a) (vl b) = -1:=(by unfold cmpN; rw [if_pos (Hlt.o q1)]);go_wp2;go_ret;exact ⟨by first | (rw [e]; rfl) | rfl,rfl⟩
    ·by_cases q2:E<D
     ·have e:cmpN (vl a) (vl b)=1:=by
       have:=Hgt.o q2;unfold cmpN; rw [if_neg (by omega),if_pos this]
      go_wp2;go_ret;exact ⟨by first | (rw [e]; rfl) | rfl,rfl⟩
     ·have q3:D=E:=(by omega);go_wp2;go_roundg i;case measure=>omega
      case rel=>exact ⟨i,by omega,rfl,by go_num,rfl,fun j hj=>by
       by_cases e:j=i
       ·subst e; rw [hD,hE,q3]
       ·exact Hzz.o j (by omega)⟩
def SubPost (w:World) (x y:Nat) (r:Ending) (w':World):Prop :=
 if x<y then r=.returned (.tuple #[.slice none 0 0,.int .i64 2])/\w'=w else ∃ v,r=.returned (.tuple #[v,.int .i64 0])/\IsNat w' v (x - y)/\XF w w'
theorem sub_any (w:World) (va vb:Value) (a b:List Nat) (ha:Rds w va a) (hb:Rds w vb b) (hal:a.length<=1073741823) (hbl:b.length<=1073741823) :
  Calls Tryz.prog 173 #[va,vb] w (SubPost w (vl a) (vl b)):=by
 have H:=bH (combineSub_any w va vb a b ha hb hal hbl);have HC:=bH (cmp_any w va vb a b ha hb hal hbl);have HA:=bH (bI ha.1 hb.1);clear ha hb;by_cases hlt:vl a<vl b
 ·have e:cmpN (vl a) (vl b) = -1:=(by unfold cmpN; rw [if_pos hlt]);rw [e] at HC;have HP:Hid (SubPost w (vl a) (vl b) (.returned (.tuple #[.slice none 0 0,.int .i64 2])) w):=bH (by unfold SubPost; rw [if_pos hlt]; exact ⟨rfl,rfl⟩);clear e hlt;go_enter Tryz.func173,Tryz.ntmps173;go_wp2_with fail;refine HC.o.mono ?_;rintro r w' ⟨rfl,hw⟩; obtain rfl:=hw.symm;go_wp2;go_ret2;exact HP.o
 ·have e:¬ cmpN (vl a) (vl b)<0:=(by unfold cmpN; rw [if_neg hlt]; split <;> omega);generalize hq:cmpN (vl a) (vl b)=q at *;clear hq;go_enter Tryz.func173,Tryz.ntmps173;go_wp2_with fail;refine HC.o.mono ?_;rintro r w' ⟨rfl,hw⟩; obtain rfl:=hw.symm;go_wp2_with fail;refine H.o.mono ?_;rintro r w' ⟨v,o,c,rfl,hst,hr,hx⟩;have HP:Hid (SubPost w (vl a) (vl b) (.returned (.tuple #[v,.int .i64 0])) w'):=bH (by unfold SubPost; rw [if_neg hlt]; exact ⟨v,rfl,by unfold IsNat; rw [<- hst.done HA.o.1 HA.o.2 (by omega)]; exact hr,hx⟩);clear hst hr hx hlt;go_wp2;go_ret2;exact HP.o
theorem from_any (w:World) (n:Nat) (hn:n<18446744073709551616):Calls Tryz.prog 155 #[.int .u64 n] w (NatPost w n):=by
 have hx1:XF w (w.alloc (.cells #[.int .u32 ((n:Int) % 4294967296),.int .u32 ((n:Int) / 4294967296)] 129)):=(Ext.refl _ w).alloc _;have hr:Rds (w.alloc (.cells #[.int .u32 ((n:Int) % 4294967296),.int .u32 ((n:Int) / 4294967296)] 129)) (.slice (some ⟨w.heap.size,0,none⟩) 2 2) [n % 4294967296,n / 4294967296]:=by
  refine ⟨Dig.cons (by omega) (Dig.cons (by omega) Dig.nil),_,2,rfl,Nat.le_refl _,by unfold maxLen; omega,fun h=>(by cases h),fun _=>⟨_,0,rfl,by simp,fun i d hi=>?_⟩⟩;have:=cells_new (w:=w) [.int .u32 ((n:Int) % 4294967296),.int .u32 ((n:Int) / 4294967296)] 129 rfl i (dv d) (by
   match i,hi with
   | 0,hi=>simp at hi ⊢; subst hi; simp [dv]
   | 1,hi=>simp at hi ⊢; subst hi; simp [dv]
   | i+2,hi=>simp at hi)
  rwa [Addr.add_lit] at this
 have hf:=fresh_any _ _ _ hr (by simp);rw [show vl [n % 4294967296,n / 4294967296]=n by simp [vl]; omega] at hf;have H:=bH hf;have HX:=bH hx1;clear hf hr hx1;go_enter Tryz.func155,Tryz.ntmps155;go_wp2_with fail;refine H.o.mono ?_;rintro r w' ⟨v,rfl,h1,h2⟩;have HP:Hid (NatPost w n (.returned v) w'):=bH ⟨v,rfl,h1,HX.o.trans h2⟩;clear h1 h2;go_wp2;go_ret;exact HP.o
def Arr (w:World) (b:Nat) (l:List Nat):Prop:=∃ cur,blk w b=some (.cells cur 129 (0,0))/\cur.toList.take l.length=l.map dv
theorem Arr.lt {w:World} {b:Nat} {l:List Nat} (h:Arr w b l):b<w.heap.size:=by obtain ⟨cur,h,_⟩:=h; exact blk_lt h
theorem Arr.free {w:World} {b:Nat} {l:List Nat} (h:Arr w b l) (i:Nat):w.frozen? ⟨b,i,none⟩=false:=by obtain ⟨cur,h,_⟩:=h; exact free_of_cells h i
theorem Arr.cell {w:World} {b:Nat} {l:List Nat} (h:Arr w b l) (i:Nat) (hi:i<l.length):w.cell? ⟨b,i,none⟩=some (.int .u32 (dgt l i)):=by
 obtain ⟨cur,h,ht⟩:=h;have e:=congrArg (·[i]?) ht;simp only [List.getElem?_take_of_lt hi] at e;rw [cell_of_cells h i,dgt_in hi,<- Array.getElem?_toList,e];simp [hi,dv]
theorem Arr.set {w:World} {b:Nat} {l:List Nat} (h:Arr w b l) (i d:Nat):Arr (w.setCell ⟨b,i,none⟩ (.int .u32 d)) b (l.set i d):=by
 obtain ⟨cur,h,ht⟩:=h;refine ⟨_,blk_setCell_same h i (.int .u32 d),?_⟩;rw [List.length_set,Array.toList_setIfInBounds,List.take_set,ht,List.map_set];rfl
theorem Arr.ext {w w':World} {b:Nat} {l:List Nat} (h:Arr w b l) (hx:XF w w'):Arr w' b l:=by
 obtain ⟨cur,h,ht⟩:=h;exact ⟨cur,(hx.blk (blk_lt h) id).trans h,ht⟩
theorem Arr.rds {w:World} {b:Nat} {l:List Nat} (h:Arr w b l) (hd:Dig l) (hl:l.length<=1073741824):Rds w (.slice (some ⟨b,0,none⟩) l.length l.length) l :=
 ⟨hd,_,_,rfl,Nat.le_refl _,by unfold maxLen; omega,(fun e=>by cases e),fun _=>⟨b,0,rfl,h.lt,fun i d hi=>by
  obtain ⟨hj,rfl⟩:=List.getElem?_eq_some_iff.1 hi;rw [Nat.zero_add,h.cell i hj,dgt_in hj]; rfl⟩⟩
theorem run_make_nat (w:World) (n:Nat) (hn:n<=2147483648):∃ w',(Instr.makeSlice 60 (.int .i64 n) (.int .i64 n)).run Tryz.prog w=.ok (.slice (some ⟨w.heap.size,0,none⟩) n n) w'/\Arr w' w.heap.size (List.replicate n 0)/\XF w w':=by
 obtain ⟨i0,hi,hz0,hz1,hz2⟩:=info_parts Tryz.infoU32;have h:=run_make (P:=Tryz.prog) w 60 129 i0 (.int .u32 0) Tryz.underlying60 hi hz0 .i64 .i64 n n (by omega) (Int.le_refl _) (by rw [hz2]; omega) (by omega);rw [Int.toNat_natCast,hz1,Nat.mul_one] at h;refine ⟨_,h,?_,(Ext.refl _ w).alloc _⟩;refine ⟨_,blk_alloc_at _ _,?_⟩;rw [show (Value.int .u32 0).cells=#[.int .u32 0] from rfl,toList_madeCells_one];simp [dv]
theorem mul_any (w:World) (va vb:Value) (a b:List Nat) (ha:Rds w va a) (hb:Rds w vb b) (hal:a.length<=536870911) (hbl:b.length<=536870911) :
  Calls Tryz.prog 185 #[va,vb] w (NatPost w (vl a*vl b)):=by
 obtain ⟨ada,aao,ac,rfl,_,_,_,ha4⟩:=id ha;obtain ⟨bda,bao,bc,rfl,_,_,_,hb4⟩:=id hb;obtain ⟨n,hn⟩:∃ n,a.length+b.length=n:=⟨_,rfl⟩;obtain ⟨w1,hmk,hA,hx1⟩:=run_make_nat w n (by omega);rw [<- hn] at hA;obtain ⟨B,hB⟩:∃ B,w.heap.size=B:=⟨_,rfl⟩;rw [hB] at hmk hA;have HA:=bH hA;have HX:=bH hx1;have Hda:=bH ada;have Hdb:=bH bda;have Ha4:=bH ha4;have Hb4:=bH hb4;have Hst0:=bH (MulSt.zero a b);clear ha hb hA hx1 ada bda ha4 hb4;generalize hna:a.length=na at *;generalize hnb:b.length=nb at *;have HN:=bH (bI hna hnb);clear hna hnb;have hn0:(0:Int)<=(na:Int)+nb:=by omega
 have hn1:(na:Int)+nb=n:=by omega
 go_enter Tryz.func185,Tryz.ntmps185;go_wp2_with fail;go_loopg [20] na (fun g v20 wr=>∃ (i:Nat) (o:List Nat),i<=na/\g=na - i/\v20=.int .i64 i/\MulSt a b i o/\Arr wr B o/\XF w wr);case atStart=>exact ⟨0,_,Nat.zero_le _,rfl,rfl,Hst0.o,HA.o,HX.o⟩
 case round =>
  obtain ⟨i,o,hi,rfl,rfl,hst,hA,hx⟩:=hrel;clear HA HX Hst0 hmk;by_cases hin:i<na
  ·obtain ⟨ba,offa,rfl,hba,hca⟩:=Ha4.o (by omega);have hia:i<a.length:=(by have:=HN.o.1; omega);have c0:=(hx.cell (p:=⟨ba,offa+i,none⟩) hba id).trans (hca i a[i] (List.getElem?_eq_getElem hia));rw [<- dgt_in hia] at c0;unfold dv at c0;have hxl:=dgt_lt Hda.o i;have hin0:=MulIn.zero (a:=a) (b:=b) (i:=i) hst.dig hst.len;have Hst:=bH hst;have Hin0:=bH hin0;have HA:=bH hA;have HX:=bH hx;clear hst hin0 hA hx hca;obtain ⟨x,hxe⟩:∃ x,dgt a i=x:=⟨_,rfl⟩;rw [hxe] at c0 hxl;have Hxe:=bH hxe;clear hxe;go_wp2_with fail;go_loopg [8,27] nb (fun g v8 v27 wr=>∃ (k:Nat) (oc:List Nat) (c:Nat),k<=nb/\g=nb - k/\v27=.int .i64 k/\v8=.int .u64 c/\MulIn a b o i k oc c/\Arr wr B oc/\XF w wr);case atStart=>exact ⟨0,o,0,Nat.zero_le _,rfl,rfl,rfl,Hin0.o,HA.o,HX.o⟩
   case round =>
    obtain ⟨k,oc,c,hk,rfl,rfl,rfl,hin1,hA1,hx1⟩:=hrel;clear HA HX Hin0 c0;by_cases hkn:k<nb
    ·obtain ⟨bb,offb,rfl,hbb,hcb⟩:=Hb4.o (by omega);have hkb:k<b.length:=(by have:=HN.o.2; omega);have c1:=(hx1.cell (p:=⟨bb,offb+k,none⟩) hbb id).trans (hcb k b[k] (List.getElem?_eq_getElem hkb));rw [<- dgt_in hkb] at c1;unfold dv at c1;have hyl:=dgt_lt Hdb.o k;have hlen:i+k<oc.length:=(by have:=HN.o; have:=hin1.len; omega);have hnxt:=hin1.step Hda.o Hdb.o (by have:=HN.o; omega) hkb;have c2:=hA1.cell (i+k) hlen;have hol:=dgt_lt hin1.dig (i+k);have hcl:=hin1.car;have f2:=hA1.free (i+k);rw [Hxe.o] at hnxt;obtain ⟨y,hye⟩:∃ y,dgt b k=y:=⟨_,rfl⟩;obtain ⟨od,hoe⟩:∃ od,dgt oc (i+k)=od:=⟨_,rfl⟩;rw [hye] at c1 hyl hnxt;rw [hoe] at c2 hol hnxt;have hfit:=mul_fits hxl hyl hol hcl;obtain ⟨p,hp⟩:∃ p,x*y=p:=⟨_,rfl⟩;have hpi:(x:Int)*(y:Int)=(p:Int):=(by rw [<- hp]; simp);rw [hp] at hnxt hfit;have HA2:=bH (hA1.set (i+k) ((p+od+c) % 4294967296));have Hnxt:=bH hnxt;have HX2:=bH (hx1.own ((Ext.refl (fun z=>z=B) wr).setCell (p:=⟨B,i+k,none⟩) (.int .u32 ((p+od+c) % 4294967296:Nat)) (fun _=>rfl)) (fun z e=>by omega));clear hin1 hA1 hx1 hnxt hcb;have e0:(0:Int)<=(k:Int):=(by omega);have e1:(k:Int)<(nb:Int):=(by omega);have e2:(i:Int)+k<(n:Int):=(by omega);have e3:(0:Int)<=(i:Int)+k:=(by omega);have e4:((i:Int)+k).toNat=i+k:=(by omega);have e5:(0:Int)<=(x:Int)*y:=(by omega);have e6:(x:Int)*y<18446744073709551616:=(by omega);have e7:(x:Int)*y+od<18446744073709551616:=(by omega);have e8:(x:Int)*y+od+c<18446744073709551616:=(by omega);go_wp2;have q1:((p:Int)+od+c) % 4294967296=((p+od+c) % 4294967296:Nat):=(by omega);have q2:((p:Int)+od+c) / 4294967296=((p+od+c) / 4294967296:Nat):=(by omega);rw [q1,q2];go_roundg (nb - (k+1));case measure=>omega
     case rel=>exact ⟨k+1,_,_,by omega,rfl,by go_num,rfl,Hnxt.o,HA2.o,HX2.o⟩
    ·have e:k=nb:=(by omega);subst e;have hlen:i+k<oc.length:=(by have:=HN.o; have:=hin1.len; omega);have hcl:=hin1.car;have f2:=hA1.free (i+k);have c2:=hA1.cell (i+k) hlen;have HA2:=bH (hA1.set (i+k) c);have hnx:=Hst.o.step (by have:=HN.o; omega) (o:=oc) (c:=c) (by rw [HN.o.2]; exact hin1);rw [HN.o.2] at hnx;have Hnx:=bH hnx;have HX2:=bH (hx1.own ((Ext.refl (fun z=>z=B) wr).setCell (p:=⟨B,i+k,none⟩) (.int .u32 (c:Nat)) (fun _=>rfl)) (fun z e=>by omega));clear hin1 hA1 hx1 hnx;have e2:(i:Int)+k<(n:Int):=(by omega);have e3:(0:Int)<=(i:Int)+k:=(by omega);have e4:((i:Int)+k).toNat=i+k:=(by omega);go_wp2;go_roundg (na - (i+1));case measure=>omega
     case rel=>exact ⟨i+1,_,by omega,rfl,by go_num,Hnx.o,HA2.o,HX2.o⟩
  ·have e:i=na:=(by omega);subst e;have hl:o.length=n:=(by have:=HN.o; have:=hst.len; omega);have hr:=hA.rds hst.dig (by omega);rw [hl] at hr;have HT:=bH (trim_any wr _ o hr);have hd:=hst;rw [<- HN.o.1] at hd;have HD:=bH hd.done;have HX:=bH hx;clear hst hA hx hr hd hl;go_wp2_with fail;refine HT.o.mono ?_;rintro r w' ⟨hw,v9,rfl,h9⟩; obtain rfl:=hw.symm;rw [HD.o] at h9;have HP:Hid (NatPost w (vl a*vl b) (.returned v9) wr):=bH ⟨v9,rfl,h9,HX.o⟩;clear h9 HT hw;go_wp2;go_ret;exact HP.o
theorem or_shift {n x c:Nat} (hn:n<=32) (hx:x<4294967296) (hc:c<2 ^ n):bits BinOp.or .u64 (IntKind.u64.wrap ((x:Int)*2 ^ n)) (c:Int)=((2 ^ n*x+c:Nat):Int):=by
 have hp:(2:Nat) ^ n<=4294967296:=Nat.pow_le_pow_right (n:=2) (by omega) hn;have hm:x*2 ^ n<=4294967295*4294967296:=Nat.mul_le_mul (by omega) hp;have e1:((x:Int)*2 ^ n)=((x*2 ^ n:Nat):Int):=by simp
 rw [e1,IntWalk.u64_in _ (by omega),bits_or_u64_nat _ _ (by omega) (by omega)];have:=Nat.shiftLeft_add_eq_or_of_lt hc x;rw [Nat.shiftLeft_eq] at this;rw [<- this,Nat.mul_comm]
def ShiftPost (w:World) (a:List Nat) (n:Nat) (r:Ending) (w':World):Prop :=
 ∃ l,r=.returned (.slice (some ⟨w.heap.size,0,none⟩) l.length l.length)/\Arr w' w.heap.size l/\Dig l/\l.length=a.length+1/\vl l=2 ^ n*vl a/\XF w w'
theorem shift_any (w:World) (va:Value) (a:List Nat) (ha:Rds w va a) (hal:a.length<=536870911) (n:Nat) (hn:n<32) :
  Calls Tryz.prog 236 #[va,.int .i64 n] w (ShiftPost w a n):=by
 obtain ⟨ada,aao,ac,rfl,_,_,_,ha4⟩:=id ha;obtain ⟨m,hm⟩:∃ m,a.length+1=m:=⟨_,rfl⟩;obtain ⟨w1,hmk,hA,hx1⟩:=run_make_nat w m (by omega);rw [<- hm] at hA;obtain ⟨B,hB⟩:∃ B,w.heap.size=B:=⟨_,rfl⟩;unfold ShiftPost;rw [hB] at hmk hA ⊢;have HA:=bH hA;have HX:=bH hx1;have Hda:=bH ada;have Ha4:=bH ha4;have Hst0:=bH (ShiftSt.zero a n);clear ha hA hx1 ada ha4;generalize hna:a.length=na at *;have HN:=bH hna;clear hna;have hn1:(na:Int)+1=m:=by omega
 go_enter Tryz.func236,Tryz.ntmps236;go_wp2_with fail;go_loopg [6,16] na (fun g v6 v16 wr=>∃ (i:Nat) (o:List Nat) (c:Nat),i<=na/\g=na - i/\v16=.int .i64 i/\v6=.int .u64 c/\ShiftSt a n i o c/\Arr wr B o/\XF w wr);case atStart=>exact ⟨0,_,0,Nat.zero_le _,rfl,rfl,rfl,Hst0.o,HA.o,HX.o⟩
 case round =>
  obtain ⟨i,o,c,hi,rfl,rfl,rfl,hst,hA,hx⟩:=hrel;clear HA HX Hst0 hmk;by_cases hin:i<na
  ·obtain ⟨ba,offa,rfl,hba,hca⟩:=Ha4.o (by omega);have hia:i<a.length:=(by have:=HN.o; omega);have c0:=(hx.cell (p:=⟨ba,offa+i,none⟩) hba id).trans (hca i a[i] (List.getElem?_eq_getElem hia));rw [<- dgt_in hia] at c0;unfold dv at c0;have hxl:=dgt_lt Hda.o i;have hlen:i<o.length:=(by have:=HN.o; have:=hst.len; omega);have hnxt:=hst.step Hda.o hn hia;have c2:=hA.cell i hlen;have f2:=hA.free i;have hcl:=hst.car;obtain ⟨x,hxe⟩:∃ x,dgt a i=x:=⟨_,rfl⟩;rw [hxe] at c0 hxl hnxt;have hor:=or_shift (by omega:n<=32) hxl hcl;obtain ⟨y,hy⟩:∃ y,2 ^ n*x+c=y:=⟨_,rfl⟩;rw [hy] at hor hnxt;clear hy;have HA2:=bH (hA.set i (y % 4294967296));have Hnxt:=bH hnxt;have HX2:=bH (hx.own ((Ext.refl (fun z=>z=B) wr).setCell (p:=⟨B,i,none⟩) (.int .u32 (y % 4294967296:Nat)) (fun _=>rfl)) (fun z e=>by omega));clear hst hA hx hnxt hca hxe;have e0:(0:Int)<=(i:Int):=(by omega);have e1:(i:Int)<(na:Int):=(by omega);have e2:(i:Int)<(m:Int):=(by omega);have e3:(0:Int)<=(n:Int):=(by omega);have e4:(n:Int)<=64:=(by omega);go_wp2;have q1:(y:Int) % 4294967296=(y % 4294967296:Nat):=(by omega);have q2:(y:Int) / 4294967296=(y / 4294967296:Nat):=(by omega);rw [q1,q2];go_roundg (na - (i+1));case measure=>omega
   case rel=>exact ⟨i+1,_,_,by omega,rfl,by go_num,rfl,Hnxt.o,HA2.o,HX2.o⟩
  ·have e:i=na:=(by omega);subst e;have hlen:i<o.length:=(by have:=HN.o; have:=hst.len; omega);have c2:=hA.cell i hlen;have f2:=hA.free i;have hcl:=hst.car;have hcb:c<4294967296:=Nat.lt_of_lt_of_le hcl (Nat.le_trans (Nat.pow_le_pow_right (by omega) (by omega:n<=32)) (by decide));have hd:=hst;rw [<- HN.o] at hd;obtain ⟨d1,d2,d3⟩:=hd.done hn;rw [HN.o] at d1 d2 d3;have hA2:=hA.set i c;have hx2:=hx.own ((Ext.refl (fun z=>z=B) wr).setCell (p:=⟨B,i,none⟩) (.int .u32 (c:Nat)) (fun _=>rfl)) (fun z e=>by omega);have HP:=bH (bI hA2 (bI d1 (bI d2 (bI d3 hx2))));clear hst hA hx hd d1 d2 d3 hA2 hx2;have e2:(i:Int)<(m:Int):=(by omega);go_wp2;go_ret;obtain ⟨h1,h2,h3,h4,h5⟩:=HP.o;exact ⟨_,by rw [h3,hm]; rfl,h1,h2,h3,h4,h5⟩
theorem Own.arr {w:World} {base:Nat} {v:Value} {l:List Nat} (h:Own w base v l) (hp:0<l.length):∃ g cap,v=.slice (some ⟨g,0,none⟩) l.length cap/\base<=g/\Arr w g l/\l.length<=cap/\cap<=maxLen:=by
 rcases h.2 with ⟨_,h2⟩ | ⟨g,cap,cur,h1,h2,h3,h4,h5,_,h7⟩
 ·omega
 ·exact ⟨g,cap,h1,h2,⟨cur,h3,by simpa using h7⟩,h4,h5⟩
theorem Arr.rds' {w:World} {b:Nat} {l:List Nat} (h:Arr w b l) (hd:Dig l) {c:Nat} (hl:l.length<=c) (hc:c<=maxLen):Rds w (.slice (some ⟨b,0,none⟩) l.length c) l :=
 ⟨hd,_,_,rfl,hl,hc,(fun e=>by cases e),fun _=>⟨b,0,rfl,h.lt,fun i d hi=>by
  obtain ⟨hj,rfl⟩:=List.getElem?_eq_some_iff.1 hi;rw [Nat.zero_add,h.cell i hj,dgt_in hj]; rfl⟩⟩
def ShortPost (w:World) (x d:Nat) (r:Ending) (w':World):Prop:=∃ v,r=.returned (.tuple #[v,.int .u64 (x % d:Nat)])/\IsNat w' v (x / d)/\XF w w'
theorem short_any (w:World) (va:Value) (a:List Nat) (ha:Rds w va a) (hal:a.length<=536870911) (hpos:0<a.length) (d:Nat) (hd0:0<d) (hd:d<4294967296) :
  Calls Tryz.prog 234 #[va,.int .u64 d] w (ShortPost w (vl a) d):=by
 have Hda:=bH ha.1;have HC:=bH (clone_any w va a ha (by omega));have Hst0:=bH (ShortSt.start ha.1 hd0);clear ha;go_enter Tryz.func234,Tryz.ntmps234;go_wp2_with fail;refine HC.o.mono ?_;rintro r w1 ⟨v1,rfl,ho,hx⟩;obtain ⟨g,cap,rfl,hg,hA,hcap,hcm⟩:=ho.arr hpos;obtain ⟨n,hn⟩:∃ n,a.length=n:=⟨_,rfl⟩;rw [hn] at hcap hpos hal Hst0 ⊢;have HN:=bH hn;have HA:=bH hA;have HX:=bH hx;clear ho hA hx hn HC;have hn1:IntKind.i64.wrap ((n:Int) - 1)=(n:Int) - 1:=IntWalk.i64_in _ (by omega);go_wp2_with fail;go_loopg [7,8] n (fun q v7 v8 wr=>∃ (k:Nat) (o:List Nat) (r:Nat),k<=n/\q=k/\v8=.int .i64 ((k:Int) - 1)/\v7=.int .u64 r/\ShortSt a d k o r/\Arr wr g o/\XF w wr);case atStart=>exact ⟨n,a,0,Nat.le_refl _,rfl,by go_num,rfl,Hst0.o,HA.o,HX.o⟩
 case round =>
  obtain ⟨k,o,r,hk,hq,rfl,rfl,hst,hA,hx⟩:=hrel;obtain rfl:=hq.symm;clear HA HX Hst0;by_cases h0:k=0
  ·subst h0;have hol:o.length=n:=(by have:=HN.o; have:=hst.len; omega);have hr:=hA.rds' hst.dig (c:=cap) (by omega) hcm;rw [hol] at hr;have HT:=bH (trim_any wr _ o hr);obtain ⟨f1,f2⟩:=hst.done;have HF:=bH (bI f1 f2);have HX:=bH hx;clear hst hA hx hr hol f1 f2;have p0:((0:Nat):Int) - 1 = -1:=(by omega);rw [p0];go_wp2_with fail;refine HT.o.mono ?_;rintro z w' ⟨hw,v9,rfl,h9⟩; obtain rfl:=hw.symm;rw [HF.o.1] at h9;have HP:Hid (ShortPost w (vl a) d (.returned (.tuple #[v9,.int .u64 r])) wr):=bH ⟨v9,by rw [HF.o.2],h9,HX.o⟩;clear h9 HT hw;go_wp2;go_ret2;exact HP.o
  ·obtain ⟨i,rfl⟩:∃ i,k=i+1:=⟨k - 1,by omega⟩;have p1:((i+1:Nat):Int) - 1=i:=(by omega);rw [p1];have hia:i<a.length:=(by have:=HN.o; omega);have hlen:i<o.length:=(by have:=hst.len; omega);have c2:=hA.cell i hlen;have f2:=hA.free i;have hlow:=hst.low i (by omega);rw [hlow] at c2;have hxl:=dgt_lt Hda.o i;have hrl:=hst.rest;obtain ⟨hql,hnxt⟩:=hst.step Hda.o hd hia;obtain ⟨x,hxe⟩:∃ x,dgt a i=x:=⟨_,rfl⟩;rw [hxe] at c2 hxl hnxt hql;obtain ⟨y,hy⟩:∃ y,r*4294967296+x=y:=⟨_,rfl⟩;have hor:=or_shift (n:=32) (x:=r) (c:=x) (Nat.le_refl _) (by omega) hxl;rw [show 2 ^ 32*r+x=y by rw [<- hy]; omega,show ((r:Int)*2 ^ 32)=(r:Int)*4294967296 from rfl,IntWalk.u64_in _ (by omega)] at hor;rw [hy] at hnxt hql;have hyl:y<18446744073709551616:=(by omega);have t1:(y:Int).tdiv (d:Int)=((y / d:Nat):Int):=rfl;have t2:(y:Int).tmod (d:Int)=((y % d:Nat):Int):=rfl;obtain ⟨q,hq⟩:∃ q,y / d=q:=⟨_,rfl⟩;obtain ⟨s,hs⟩:∃ s,y % d=s:=⟨_,rfl⟩;rw [hq] at t1 hnxt hql;rw [hs] at t2 hnxt;have t3:IntKind.u64.wrap (q:Int)=q:=IntWalk.u64_in _ (by omega);have t4:(q:Int) % 4294967296=q:=(by omega);have HA2:=bH (hA.set i q);have Hnxt:=bH hnxt;have HX2:=bH (hx.own ((Ext.refl (fun z=>z=g) wr).setCell (p:=⟨g,i,none⟩) (.int .u32 (q:Nat)) (fun _=>rfl)) (fun z e=>by omega));clear hst hA hx hnxt hxe hlow hy hq hs;have e0:(0:Int)<=(i:Int):=(by omega);have e1:(i:Int)<(n:Int):=(by omega);have e2:¬ (d:Int)=0:=(by omega);go_upto_region 7 with fail;go_region;all_goals (try simp only [hor,t1,t2,t3,t4])
   all_goals go_wp2
   all_goals go_roundg i
   case measure=>omega
   case rel=>exact ⟨i,_,_,by omega,rfl,by go_num,rfl,Hnxt.o,HA2.o,HX2.o.drew⟩
def guess (x y z f s:Nat):Nat:=min 4294967295 (((x*4294967296+y)*4294967296+z) / (f*4294967296+s))
structure EstSt (x y z f s q r:Nat):Prop where
 sum:q*f+r=x*4294967296+y
 low:r<4294967296
 ge:guess x y z f s<=q
theorem est_start {x y z f s:Nat} (hf:0<f) (hf2:f<4294967296) (hz:z<4294967296):EstSt x y z f s ((x*4294967296+y) / f) ((x*4294967296+y) % f):=by
 refine ⟨by rw [Nat.mul_comm]; exact Nat.div_add_mod _ _,Nat.lt_trans (Nat.mod_lt _ hf) hf2,?_⟩;unfold guess;refine Nat.le_trans (Nat.min_le_right _ _) ?_;rw [Nat.le_div_iff_mul_le hf];have h1:=Nat.div_mul_le_self ((x*4294967296+y)*4294967296+z) (f*4294967296+s);generalize ((x*4294967296+y)*4294967296+z) / (f*4294967296+s)=g at *;rw [Nat.mul_add,<- Nat.mul_assoc] at h1;generalize g*f=gf at *;generalize g*s=gs at *;omega
theorem est_cmp {x y z f s q r:Nat} (h:EstSt x y z f s q r):q*(f*4294967296+s)<=(x*4294967296+y)*4294967296+z↔q*s<=r*4294967296+z:=by
 have:=h.sum;rw [Nat.mul_add,<- Nat.mul_assoc,<- this,Nat.add_mul];omega
theorem est_done {x y z f s q r:Nat} (hf:0<f) (h:EstSt x y z f s q r) (h1:¬ 4294967295<q) (h2:¬ r*4294967296+z<q*s):q=guess x y z f s:=by
 have h3:=(est_cmp h).2 (by omega);have h4:q<=((x*4294967296+y)*4294967296+z) / (f*4294967296+s):=(Nat.le_div_iff_mul_le (by omega)).2 h3;have h5:=h.ge;unfold guess at *;omega
theorem est_less {x y z f s q r:Nat} (hf:0<f) (h:EstSt x y z f s q r) (h1:4294967295<q∨r*4294967296+z<q*s):0<q/\guess x y z f s<=q - 1/\(q - 1)*f+(r+f)=x*4294967296+y:=by
 have hq:0<q:=by
  rcases h1 with h1 | h1
  ·omega
  ·rcases Nat.eq_zero_or_pos q with rfl | h0
   ·rw [Nat.zero_mul] at h1; omega
   ·exact h0
 refine ⟨hq,?_,?_⟩
 ·unfold guess;rcases h1 with h1 | h1
  ·omega
  ·have h3:¬ q*(f*4294967296+s)<=(x*4294967296+y)*4294967296+z:=fun h'=>by have:=(est_cmp h).1 h'; omega
   have h4:((x*4294967296+y)*4294967296+z) / (f*4294967296+s)<q:=(Nat.div_lt_iff_lt_mul (show 0<f*4294967296+s by omega)).2 (Nat.lt_of_not_le h3);omega
 ·have:=h.sum;obtain ⟨p,rfl⟩:∃ p,q=p+1:=⟨q - 1,by omega⟩;rw [Nat.add_mul] at this;simp only [Nat.add_sub_cancel];omega
theorem est_next {x y z f s q r:Nat} (hf:0<f) (h:EstSt x y z f s q r) (h1:4294967295<q∨r*4294967296+z<q*s) (h2:¬ 4294967295<r+f):EstSt x y z f s (q - 1) (r+f):=by
 obtain ⟨_,h3,h4⟩:=est_less hf h h1;exact ⟨h4,by omega,h3⟩
theorem est_break {x y z f s q r:Nat} (hf:0<f) (hx:x<=f) (hy:y<4294967296) (hs:s<4294967296) (h:EstSt x y z f s q r) (h1:4294967295<q∨r*4294967296+z<q*s) (h2:4294967295<r+f):q - 1=guess x y z f s:=by
 obtain ⟨h0,h3,h4⟩:=est_less hf h h1;obtain ⟨p,rfl⟩:∃ p,q=p+1:=⟨q - 1,by omega⟩;simp only [Nat.add_sub_cancel] at *;have hp:p<=4294967295:=by
  by_cases hp:p<=4294967295
  ·exact hp
  ·have:=Nat.mul_le_mul_right f (show 4294967296<=p by omega);have:=Nat.mul_le_mul_right 4294967296 hx;rw [Nat.mul_comm 4294967296 f] at *;omega
 have hps:p*s<=4294967295*4294967295:=Nat.mul_le_mul hp (by omega);have h5:p*(f*4294967296+s)<=(x*4294967296+y)*4294967296+z:=by
  rw [Nat.mul_add,<- Nat.mul_assoc,<- h4,Nat.add_mul];omega
 have h6:p<=((x*4294967296+y)*4294967296+z) / (f*4294967296+s):=(Nat.le_div_iff_mul_le (by omega)).2 h5;unfold guess at *;omega
structure RedSt (l b:List Nat) (t q j:Nat) (o:List Nat) (bo ca:Nat):Prop where
 dig:Dig o
 len:o.length=l.length
 car:ca<4294967296
 bor:bo<=1
 same:∀ i,i<t∨t+j<=i->dgt o i=dgt l i
 fin:b.length<j->ca=0
 val:vl o+4294967296 ^ t*(q*vl (b.take j))=vl l+4294967296 ^ (t+j)*(ca+bo)
theorem RedSt.zero {l b:List Nat} (hl:Dig l) (t q:Nat):RedSt l b t q 0 l 0 0:=⟨hl,rfl,by omega,by omega,fun _ _=>rfl,fun _=>rfl,by simp [vl]⟩
theorem RedSt.step {l b:List Nat} (hb:Dig b) {t q j:Nat} {o:List Nat} {bo ca:Nat} (hq:q<4294967296) (ht:t+j<l.length) (h:RedSt l b t q j o bo ca) :
  RedSt l b t q (j+1) (o.set (t+j) (subD (dgt o (t+j)) ((q*dgt b j+ca) % 4294967296) bo)) (subB (dgt o (t+j)) ((q*dgt b j+ca) % 4294967296) bo) ((q*dgt b j+ca) / 4294967296):=by
 have h1:=dgt_lt hb j;have h2:=dgt_lt h.dig (t+j);have h3:=h.car;have h4:=h.bor;have hlt:t+j<o.length:=by rw [h.len]; exact ht
 have hqd:q*dgt b j<=4294967295*4294967295:=Nat.mul_le_mul (by omega) (by omega);have hv:=h.val;have hs:=vl_set_dgt (subD (dgt o (t+j)) ((q*dgt b j+ca) % 4294967296) bo) hlt;have e:4294967296 ^ t*(q*(4294967296 ^ j*dgt b j))=4294967296 ^ (t+j)*(q*dgt b j):=by
  rw [Nat.pow_add,Nat.mul_assoc,Nat.mul_left_comm q]
 have hfin:b.length<=j->q*dgt b j=0:=fun h=>by rw [dgt_out h,Nat.mul_zero]
 generalize hx:dgt o (t+j)=x at *;generalize hp:q*dgt b j+ca=p at *;have hm:=Nat.div_add_mod p 4294967296;have hd:subD x (p % 4294967296) bo+p % 4294967296+bo=x+4294967296*subB x (p % 4294967296) bo:=by unfold subD subB; split <;> omega
 refine ⟨h.dig.set _ _ (by unfold subD; split <;> omega),by simp [h.len],by omega,by unfold subB; split <;> omega,fun i hi=>?_,fun hj=>by have:=hfin (by omega); omega,?_⟩
 ·rw [dgt_set hlt,if_neg (by omega)]; exact h.same i (by omega)
 ·rw [vl_take_dgt,Nat.mul_add,Nat.mul_add,e,<- Nat.add_assoc t j 1,Nat.pow_succ];have hk:subD x (p % 4294967296) bo+q*dgt b j+(ca+bo)=x+4294967296*(p / 4294967296+subB x (p % 4294967296) bo):=(by omega);have hk2:=congrArg (4294967296 ^ (t+j)*·) hk;simp only [Nat.mul_add] at hk2 hv ⊢;rw [Nat.mul_assoc,Nat.mul_assoc,Nat.mul_add] at *;omega
structure AddBk (l b:List Nat) (t j:Nat) (o:List Nat) (c:Nat):Prop where
 dig:Dig o
 len:o.length=l.length
 car:c<=1
 same:∀ i,i<t∨t+j<=i->dgt o i=dgt l i
 val:vl o+4294967296 ^ (t+j)*c=vl l+4294967296 ^ t*vl (b.take j)
theorem AddBk.zero {l b:List Nat} (hl:Dig l) (t:Nat):AddBk l b t 0 l 0:=⟨hl,rfl,by omega,fun _ _=>rfl,by simp [vl]⟩
theorem AddBk.step {l b:List Nat} (hb:Dig b) {t j:Nat} {o:List Nat} {c:Nat} (ht:t+j<l.length) (h:AddBk l b t j o c) :
  AddBk l b t (j+1) (o.set (t+j) ((dgt o (t+j)+dgt b j+c) % 4294967296)) ((dgt o (t+j)+dgt b j+c) / 4294967296):=by
 have h1:=dgt_lt hb j;have h2:=dgt_lt h.dig (t+j);have h3:=h.car;have hlt:t+j<o.length:=by rw [h.len]; exact ht
 have hv:=h.val;have hs:=vl_set_dgt ((dgt o (t+j)+dgt b j+c) % 4294967296) hlt;have hm:=congrArg (4294967296 ^ (t+j)*·) (Nat.mod_add_div (dgt o (t+j)+dgt b j+c) 4294967296);simp only [Nat.mul_add] at hm;refine ⟨h.dig.set _ _ (Nat.mod_lt _ (by omega)),by simp [h.len],by omega,fun i hi=>?_,?_⟩
 ·rw [dgt_set hlt,if_neg (by omega)]; exact h.same i (by omega)
 ·rw [vl_take_dgt,Nat.mul_add,<- Nat.mul_assoc (4294967296 ^ t),<- Nat.pow_add,<- Nat.add_assoc t j 1,Nat.pow_succ,Nat.mul_assoc];omega
theorem vl_take_same {o l:List Nat} (t:Nat) (h:∀ i,i<t->dgt o i=dgt l i):vl (o.take t)=vl (l.take t):=by
 induction t with
 | zero=>simp
 | succ t ih=>rw [vl_take_dgt,vl_take_dgt,ih (fun i hi=>h i (by omega)),h t (by omega)]
theorem vl_at {l:List Nat} {t:Nat} (h:t<=l.length):vl l=vl (l.take t)+4294967296 ^ t*vl (l.drop t):=by
 have:=vl_split l t;rwa [List.length_take,Nat.min_eq_left h] at this
theorem dgt_drop (l:List Nat) (t i:Nat):dgt (l.drop t) i=dgt l (t+i):=by
 unfold dgt; rw [List.getD_eq_getElem?_getD,List.getD_eq_getElem?_getD,List.getElem?_drop]
theorem vl_high {l:List Nat} {n:Nat} (h:∀ i,n<=i->dgt l i=0):vl l=vl (l.take n):=by
 have key:∀ m,vl (l.take (n+m))=vl (l.take n):=fun m=>by
  induction m with
  | zero=>rfl
  | succ m ih=>rw [<- Nat.add_assoc,vl_take_dgt,h _ (by omega),ih]; simp
 have:=key l.length;rwa [vl_take_all (by omega)] at this
theorem vl_high_lt {l:List Nat} (hl:Dig l) {n:Nat} (h:∀ i,n<=i->dgt l i=0):vl l<4294967296 ^ n:=by
 rw [vl_high h];exact Nat.lt_of_lt_of_le (vl_lt (hl.take n)) (pow_mono (by rw [List.length_take]; omega))
theorem cancel_at {P a b c d x y:Nat} (hP:0<P) (hx:x=y) (h:x+P*a+P*b=y+P*c+P*d):a+b=c+d:=by
 subst hx;have:P*(a+b)=P*(c+d):=by rw [Nat.mul_add,Nat.mul_add]; omega
 exact Nat.eq_of_mul_eq_mul_left hP this
theorem RedSt.done {l b:List Nat} {t q:Nat} {o:List Nat} {bo ca:Nat} (ht:t<=l.length) (h:RedSt l b t q (b.length+1) o bo ca) :
  vl (o.drop t)+q*vl b=vl (l.drop t)+4294967296 ^ (b.length+1)*bo:=by
 have hc:=h.fin (by omega);have hv:=h.val;rw [vl_take_all (Nat.le_succ _),hc,Nat.zero_add,vl_at (l:=o) (by rw [h.len]; exact ht),vl_at ht,Nat.pow_add,Nat.mul_assoc] at hv;exact cancel_at (Nat.pow_pos (by omega)) (vl_take_same t (fun i hi=>h.same i (.inl hi))) hv
theorem AddBk.done {l b:List Nat} {t:Nat} {o:List Nat} {c:Nat} (ht:t<=l.length) (h:AddBk l b t (b.length+1) o c) :
  vl (o.drop t)+4294967296 ^ (b.length+1)*c=vl (l.drop t)+vl b:=by
 have hv:=h.val;rw [vl_take_all (Nat.le_succ _),vl_at (l:=o) (by rw [h.len]; exact ht),vl_at ht,Nat.pow_add,Nat.mul_assoc] at hv;exact cancel_at (Nat.pow_pos (by omega)) (vl_take_same t (fun i hi=>h.same i (.inl hi))) hv
theorem red_over {P X V o o2 q bo c:Nat} (hb:bo<=1) (hc:c<=1) (ho2:o2<P) (h:o+q*V=X+P*bo) (h2:o2+P*c=o+V) (hq:X<q*V) (hq2:q*V<=X+V) (hV:V<=P):bo=1/\o2+q*V=X+V:=by
 rcases Nat.eq_zero_or_pos bo with rfl | h0
 ·rw [Nat.mul_zero] at h; omega
 ·obtain rfl:bo=1:=(by omega);refine ⟨rfl,?_⟩;rcases Nat.eq_zero_or_pos c with rfl | h1
  ·rw [Nat.mul_zero] at h2; omega
  ·obtain rfl:c=1:=(by omega);omega
theorem guess_ok {x y z f s P X0 V0 X V:Nat} (hf:0<f) (hX:X=((x*4294967296+y)*4294967296+z)*P+X0) (hX0:X0<P) (hV:V=(f*4294967296+s)*P+V0) (hV0:V0<P) (hy:y<4294967296) (hs:s<4294967296) (hlt:X<4294967296*V) :
  x<=f/\X / V<=guess x y z f s/\guess x y z f s<=X / V+1:=by
 have hP:0<P:=by omega
 obtain ⟨T,hT⟩:∃ T,(x*4294967296+y)*4294967296+z=T:=⟨_,rfl⟩;obtain ⟨D,hD⟩:∃ D,f*4294967296+s=D:=⟨_,rfl⟩;rw [hT] at hX;rw [hD] at hV;have hD0:4294967296<=D:=by omega
 have hVD:V<(D+1)*P:=by rw [hV,Nat.add_mul]; omega
 have hV0:0<V:=by
  have:=Nat.mul_le_mul (show 1<=D by omega) (show 1<=P by omega);omega
 have hXT:X<(T+1)*P:=by rw [hX,Nat.add_mul]; omega
 have hTX:T*P<=X:=by omega
 have hDV:D*P<=V:=by omega
 refine ⟨?_,?_,?_⟩
 ·have h1:T*P<4294967296*(D+1)*P:=by
   rw [Nat.mul_assoc];exact Nat.lt_of_le_of_lt hTX (Nat.lt_trans hlt (Nat.mul_lt_mul_of_pos_left hVD (by omega)))
  have h2:=Nat.lt_of_mul_lt_mul_right h1;omega
 ·have hq:=Nat.div_mul_le_self X V;have hq1:X / V<4294967296:=(Nat.div_lt_iff_lt_mul hV0).2 hlt;generalize X / V=q0 at *;have h1:q0*D*P<(T+1)*P:=by
   rw [Nat.mul_assoc];exact Nat.lt_of_le_of_lt (Nat.le_trans (Nat.mul_le_mul_left q0 hDV) hq) hXT
  have h2:=Nat.lt_of_mul_lt_mul_right h1;have h3:q0<=T / D:=(Nat.le_div_iff_mul_le (by omega)).2 (by omega);unfold guess;rw [hT,hD];omega
 ·have hq1:X / V<4294967296:=(Nat.div_lt_iff_lt_mul hV0).2 hlt;have hq2:X<(X / V+1)*V:=by
   have:=Nat.lt_div_mul_add hV0 (a:=X);rw [Nat.add_mul]; omega
  have hg:guess x y z f s<=T / D:=(by unfold guess; rw [hT,hD]; omega);generalize guess x y z f s=g at *;generalize X / V=q0 at *;have h0:g*D<=T:=Nat.le_trans (Nat.mul_le_mul_right D hg) (Nat.div_mul_le_self T D);have h1:g*D*P<(q0+1)*(D+1)*P:=by
   have a1:=Nat.mul_le_mul_right P h0;have a2:(q0+1)*V<(q0+1)*((D+1)*P):=Nat.mul_lt_mul_of_pos_left hVD (by omega);rw [Nat.mul_assoc (q0+1)];omega
  have h2:=Nat.lt_of_mul_lt_mul_right h1;by_cases hc:g<=q0+1
  ·exact hc
  ·have h3:=Nat.mul_le_mul_right D (show q0+2<=g by omega);have e1:(q0+2)*D=(q0+1)*D+D:=(by rw [Nat.add_mul,Nat.add_mul]; omega);have e2:(q0+1)*(D+1)=(q0+1)*D+(q0+1):=(by rw [Nat.mul_add]; omega);omega
theorem or_digits {x y:Nat} (hx:x<4294967296) (hy:y<4294967296):bits BinOp.or .u64 ((x:Int)*4294967296) (y:Int)=((x*4294967296+y:Nat):Int):=by
 have h:=or_shift (n:=32) (x:=x) (c:=y) (Nat.le_refl _) hx hy;rw [show ((x:Int)*2 ^ 32)=(x:Int)*4294967296 from rfl,IntWalk.u64_in _ (by omega)] at h;rw [h]; omega
theorem estimate_any (w:World) (x y z f s:Nat) (hf:0<f) (hfl:f<4294967296) (hx:x<=f) (hy:y<4294967296) (hz:z<4294967296) (hs:s<4294967296) :
  Calls Tryz.prog 237 #[.int .u64 x,.int .u64 y,.int .u64 z,.int .u64 f,.int .u64 s] w fun r w'=>r=.returned (.int .u64 (guess x y z f s:Nat))/\∃ n,w'=w.drewN n:=by
 have hor:=or_digits (x:=x) (y:=y) (by omega) hy;have Hst0:=bH (est_start (x:=x) (y:=y) (s:=s) hf hfl hz);obtain ⟨W,hW⟩:∃ W,x*4294967296+y=W:=⟨_,rfl⟩;rw [hW] at hor Hst0;have hWl:W<18446744073709551616:=by omega
 have t1:(W:Int).tdiv (f:Int)=((W / f:Nat):Int):=rfl;have t2:(W:Int).tmod (f:Int)=((W % f:Nat):Int):=rfl;have hql:W / f<=W:=Nat.div_le_self _ _;obtain ⟨q0,hq⟩:∃ q,W / f=q:=⟨_,rfl⟩;obtain ⟨r0,hr⟩:∃ r,W % f=r:=⟨_,rfl⟩;rw [hq] at t1 Hst0 hql;rw [hr] at t2 Hst0;have hql':=hql;have t3:IntKind.u64.wrap (q0:Int)=q0:=IntWalk.u64_in _ (by omega);have hf0:¬ (f:Int)=0:=by omega
 clear hq hr;go_enter Tryz.func237,Tryz.ntmps237;go_upto_region 1 with fail;go_cut [11,12] (fun v11 v12 wx=>v11=.int .u64 q0/\v12=.int .u64 r0/\wx=w.drew);case first =>
  go_region;all_goals (try simp only [hor,t1,t2,t3])
  all_goals go_wp2
  all_goals go_meet
  all_goals exact ⟨rfl,rfl,rfl⟩
 case rest =>
  obtain ⟨rfl,rfl,hwc⟩:=hcut;have HX:Hid (∃ n,wc=w.drewN n):=bH ⟨1,hwc⟩;clear hwc hor t1 t2 t3 hql;go_wp2_with fail;go_loopg [11,12] q0 (fun g v11 v12 wr=>∃ q r:Nat,g=q/\v11=.int .u64 q/\v12=.int .u64 r/\wr=wc/\q<=W/\EstSt x y z f s q r);case atStart=>exact ⟨q0,r0,rfl,rfl,rfl,rfl,hql',Hst0.o⟩
  case round =>
   obtain ⟨q,r,hg,rfl,rfl,hwr,hqW,hst⟩:=hrel;obtain rfl:=hg.symm;obtain rfl:=hwr.symm;have hrl:=hst.low;have hrz:=or_digits hrl hz;obtain ⟨R,hR⟩:∃ R,r*4294967296+z=R:=⟨_,rfl⟩;rw [hR] at hrz;have Hst:=bH hst;have HR:=bH hR;clear Hst0 hst hR;by_cases h1:4294967295<q
   ·have h1i:(4294967295:Int)<(q:Int):=(by omega);have hqi:(1:Int)<=(q:Int):=(by omega);have hq1:((q:Int) - 1)=((q - 1:Nat):Int):=(by omega);by_cases hbr:4294967295<r+f
    ·have hE:=bH (est_break hf hx hy hs Hst.o (.inl h1) hbr);have b1:(4294967295:Int)<(r:Int)+f:=(by omega);go_wp2;go_ret;exact ⟨ret_int (by rw [<- hE.o]),HX.o⟩
    ·have hE:=bH (est_next hf Hst.o (.inl h1) hbr);have b1:¬ (4294967295:Int)<(r:Int)+f:=(by omega);go_wp2;go_roundg (q - 1);case measure=>omega
     case rel=>exact ⟨q - 1,r+f,rfl,by go_num,by go_num,rfl,by omega,hE.o⟩
   ·have h1i:¬ (4294967295:Int)<(q:Int):=(by omega);have hqs:q*s<=4294967295*4294967295:=Nat.mul_le_mul (by omega) (by omega);obtain ⟨p,hp⟩:∃ p,q*s=p:=⟨_,rfl⟩;have hpi:(q:Int)*(s:Int)=(p:Int):=(by rw [<- hp]; simp);rw [hp] at hqs;have e5:(0:Int)<=(q:Int)*s:=(by omega);have e6:(q:Int)*s<18446744073709551616:=(by omega);have Hp:=bH hp;clear hp;by_cases h2:R<p
    ·have h2i:(R:Int)<(p:Int):=(by omega);have hq0:0<q:=(est_less hf Hst.o (.inr (by rw [HR.o,Hp.o]; exact h2))).1;have hqi:(1:Int)<=(q:Int):=(by omega);have hq1:((q:Int) - 1)=((q - 1:Nat):Int):=(by omega);by_cases hbr:4294967295<r+f
     ·have hE:=bH (est_break hf hx hy hs Hst.o (.inr (by rw [HR.o,Hp.o]; exact h2)) hbr);have b1:(4294967295:Int)<(r:Int)+f:=(by omega);go_wp2;go_ret;exact ⟨ret_int (by rw [<- hE.o]),HX.o⟩
     ·have hE:=bH (est_next hf Hst.o (.inr (by rw [HR.o,Hp.o]; exact h2)) hbr);have b1:¬ (4294967295:Int)<(r:Int)+f:=(by omega);go_wp2;go_roundg (q - 1);case measure=>omega
      case rel=>exact ⟨q - 1,r+f,rfl,by go_num,by go_num,rfl,by omega,hE.o⟩
    ·have h2i:¬ (R:Int)<(p:Int):=(by omega);have hE:=bH (est_done hf Hst.o h1 (by rw [HR.o,Hp.o]; exact h2));go_wp2;go_ret;exact ⟨ret_int (by rw [<- hE.o]),HX.o⟩
theorem dg_two {n:Nat} (h:n<18446744073709551616):(dg n).length<=2/\dgt (dg n) 1*4294967296+dgt (dg n) 0=n:=by
 refine ⟨dg_length_le (k:=2) (by omega),?_⟩;by_cases h0:n=0
 ·subst h0; rw [dg_zero]; rfl
 ·rw [dg_pos (by omega)];by_cases h1:n / 4294967296=0
  ·rw [h1,dg_zero]; show 0*4294967296+n % 4294967296=n; omega
  ·rw [dg_pos (by omega)]; show n / 4294967296 % 4294967296*4294967296+n % 4294967296=n; omega
theorem dg_more {n:Nat} (h:¬ n<18446744073709551616):2<(dg n).length:=by
 rw [dg_pos (by omega),dg_pos (by omega),dg_pos (by omega)];simp
theorem uint_any (w:World) (v:Value) (l:List Nat) (h:Rds w v l):Calls Tryz.prog 231 #[v] w fun r w' =>
  r=.returned (.tuple #[.int .u64 (if vl l<18446744073709551616 then vl l else 0:Nat),.bool (decide (vl l<18446744073709551616))])/\w'=w:=by
 have HT:=bH (trim_any w v l h);clear h;unfold trimL at HT;generalize vl l=n at *;by_cases hn:n<18446744073709551616
 ·obtain ⟨h1,h2⟩:=dg_two hn;rw [if_pos hn,decide_eq_true hn];go_enter Tryz.func231,Tryz.ntmps231;go_wp2_with fail;refine HT.o.mono ?_;rintro r w' ⟨hw,v1,rfl,hr⟩; obtain rfl:=hw.symm;have hd0:=digit_any w v1 _ hr 0 (by omega);have hd1:=digit_any w v1 _ hr 1 (by omega);have l0:=dgt_lt hr.1 0;have l1:=dgt_lt hr.1 1;obtain ⟨ao,c,rfl,_⟩:=hr.2;generalize dgt (dg n) 0=x at *;generalize dgt (dg n) 1=y at *;generalize (dg n).length=m at *;have hor:=or_digits l1 l0;rw [h2] at hor;have H0:=bH hd0;have H1:=bH hd1;clear hd0 hd1 hr HT;go_wp2_with fail;refine H1.o.mono ?_;rintro r w' ⟨rfl,hw⟩; obtain rfl:=hw.symm;go_wp2_with fail;refine H0.o.mono ?_;rintro r w' ⟨rfl,hw⟩; obtain rfl:=hw.symm;go_wp2;go_ret2;exact ⟨rfl,rfl⟩
 ·have h1:=dg_more hn;rw [if_neg hn,decide_eq_false hn];go_enter Tryz.func231,Tryz.ntmps231;go_wp2_with fail;refine HT.o.mono ?_;rintro r w' ⟨hw,v1,rfl,hr⟩; obtain rfl:=hw.symm;obtain ⟨ao,c,rfl,_⟩:=hr.2;generalize (dg n).length=m at *;clear hr HT;go_wp2;go_ret2;exact ⟨rfl,rfl⟩
theorem small_any (w:World) (va vb:Value) (a b:List Nat) (ha:Rds w va a) (hb:Rds w vb b) (hal:vl a<18446744073709551616) (hbl:vl b<18446744073709551616) :
  Calls Tryz.prog 225 #[va,vb] w (NatPost w (Nat.gcd (vl a) (vl b))):=by
 have h1:=uint_any w va a ha;have h2:=uint_any w vb b hb;rw [if_pos hal,decide_eq_true hal] at h1;rw [if_pos hbl,decide_eq_true hbl] at h2;generalize vl a=x0 at *;generalize vl b=y0 at *;have H1:=bH h1;have H2:=bH h2;clear ha hb h1 h2;go_enter Tryz.func225,Tryz.ntmps225;go_wp2_with fail;refine H1.o.mono ?_;rintro r w' ⟨rfl,hw⟩; obtain rfl:=hw.symm;go_wp2_with fail;refine H2.o.mono ?_;rintro r w' ⟨rfl,hw⟩; obtain rfl:=hw.symm;clear hw;go_wp2_with fail;go_loopg [5,7] y0 (fun q v5 v7 wr=>∃ x y:Nat,q=y/\v5=.int .u64 x/\v7=.int .u64 y/\x<18446744073709551616/\y<18446744073709551616/\Nat.gcd x y=Nat.gcd x0 y0/\XF w wr);case atStart=>exact ⟨x0,y0,rfl,rfl,rfl,hal,hbl,rfl,Ext.refl _ _⟩
 case round =>
  obtain ⟨x,y,hq,rfl,rfl,hx,hy,hg,hX⟩:=hrel;obtain rfl:=hq.symm;by_cases h0:y=0
  ·subst h0;rw [Nat.gcd_zero_right] at hg;have HF:=bH (from_any wr x hx);have Hg:=bH hg;have HX:=bH hX;clear hg hX;go_wp2_with fail;refine HF.o.mono ?_;rintro r w9 ⟨v,rfl,hn,hx9⟩;have HP:Hid (NatPost w (Nat.gcd x0 y0) (.returned v) w9):=bH ⟨v,rfl,by rw [<- Hg.o]; exact hn,HX.o.trans hx9⟩;clear hn hx9;go_wp2;go_ret;exact HP.o
  ·have e0:(0:Int)<(y:Int):=(by omega);have e1:¬ (y:Int)=0:=(by omega);have t2:(x:Int).tmod (y:Int)=((x % y:Nat):Int):=rfl;have hml:=Nat.mod_lt x (show 0<y by omega);have hgn:Nat.gcd y (x % y)=Nat.gcd x0 y0:=(by rw [<- hg,Nat.gcd_comm y,<- Nat.gcd_rec,Nat.gcd_comm]);obtain ⟨m,hm⟩:∃ m,x % y=m:=⟨_,rfl⟩;rw [hm] at t2 hml hgn;have Hgn:=bH hgn;have HX:=bH hX;clear hm hg hgn hX;go_upto_region 4 with fail;go_region;all_goals (try simp only [t2])
   all_goals go_wp2
   all_goals go_roundg m
   case measure=>omega
   case rel=>exact ⟨y,m,rfl,rfl,rfl,hy,by omega,Hgn.o,HX.o.drew⟩
theorem red_over' {P X V o o2 q c:Nat} (_h1:1<=1) (hc:c<=1) (ho2:o2<P) (ho:o<P) (h:o+q*V=X+P*1) (h2:o2+P*c=o+V) (hq2:q*V<=X+V) (hV:V<=P):0<q/\o2+(q - 1)*V=X/\X<(q - 1+1)*V:=by
 have hq:X<q*V:=by omega
 obtain ⟨_,h3⟩:=red_over (Nat.le_refl 1) hc ho2 h h2 hq hq2 hV;rcases Nat.eq_zero_or_pos q with rfl | h0
 ·omega
 ·obtain ⟨p,rfl⟩:∃ p,q=p+1:=⟨q - 1,by omega⟩;rw [Nat.add_mul] at h3;exact ⟨h0,by simp only [Nat.add_sub_cancel]; omega,by simp only [Nat.add_sub_cancel]; exact hq⟩
def RedPost (w:World) (U:Nat) (l b:List Nat) (t q:Nat) (r:Ending) (w':World):Prop :=
 ∃ q' l',r=.returned (.int .u64 (q':Nat))/\q'<=q/\Arr w' U l'/\Dig l'/\l'.length=l.length/\(∀ i,i<t∨t+(b.length+1)<=i->dgt l' i=dgt l i)/\vl (l'.drop t)+q'*vl b=vl (l.drop t)/\(q'=q∨vl (l.drop t)<(q'+1)*vl b)/\Ext (fun k=>k=U) w w'
theorem sub_word {x pm bo:Nat} (hx:x<4294967296) (hp:pm<4294967296) (hb:bo<=1):∃ S:Nat,IntKind.u64.wrap (IntKind.u64.wrap ((x:Int) - pm) - bo)=(S:Int)/\(S:Int) % 4294967296=(subD x pm bo:Nat)/\(S:Int) / 9223372036854775808=(subB x pm bo:Nat):=by
 refine ⟨(IntKind.u64.wrap (IntKind.u64.wrap ((x:Int) - pm) - bo)).toNat,?_,?_,?_⟩
 ·rw [wrapU,wrapU]; omega
 ·rw [wrapU,wrapU]; unfold subD; split <;> omega
 ·rw [wrapU,wrapU]; unfold subB; split <;> omega
theorem reduce_any (w:World) (U n cap:Nat) (l:List Nat) (vb:Value) (b:List Nat) (t q:Nat) (hA:Arr w U l) (hl:l.length=n) (hd:Dig l) (hb:∀ W,Ext (fun k=>k=U) w W->Rds W vb b)
  (K:Nat) (hK:b.length+1=K) (ht:t+K<=n) (hn:n<=1073741824) (hq:q<4294967296) (hz:∀ i,K<=i->dgt (l.drop t) i=0) (hfit:q*vl b<=vl (l.drop t)+vl b) :
  Calls Tryz.prog 238 #[.slice (some ⟨U,0,none⟩) n cap,vb,.int .i64 t,.int .u64 q] w (RedPost w U l b t q):=by
 obtain ⟨bda,bao,bc,rfl,_⟩:=id (hb w (Ext.refl _ w));have HB:=bH hb;have HA:=bH hA;have Hl:=bH hl;have Hbd:=bH bda;have Hst0:=bH (RedSt.zero (b:=b) hd t q);have HZ:=bH (bI hz hfit);clear hb hA hl hd bda hz hfit;obtain ⟨nb,hnb⟩:∃ nb,b.length=nb:=⟨_,rfl⟩;rw [hnb] at hK HB;have Hnb:=bH hnb;clear hnb;have hk1:(nb:Int)+1=K:=by omega
 rw [Hnb.o];go_enter Tryz.func238,Tryz.ntmps238;go_wp2_with fail;go_loopg [9,10,19] K (fun g v9 v10 v19 wr=>∃ (j:Nat) (o:List Nat) (bo ca:Nat),j<=K/\g=K - j/\v19=.int .i64 j/\v9=.int .u64 bo/\v10=.int .u64 ca/\RedSt l b t q j o bo ca/\Arr wr U o/\Ext (fun k=>k=U) w wr);case atStart=>exact ⟨0,l,0,0,Nat.zero_le _,rfl,rfl,rfl,rfl,Hst0.o,HA.o,Ext.refl _ _⟩
 case round =>
  obtain ⟨j,o,bo,ca,hj,rfl,rfl,rfl,rfl,hst,hA,hx⟩:=hrel;clear HA Hst0;by_cases hjk:j<K
  ·have Hdb:=bH (digit_any wr _ b (HB.o wr hx) j (by omega));have hlen:t+j<o.length:=(by have:=Hl.o; have:=hst.len; omega);have c2:=hA.cell (t+j) hlen;have f2:=hA.free (t+j);have hnxt:=hst.step Hbd.o hq (by have:=Hl.o; omega);have hdl:=dgt_lt Hbd.o j;have hxl:=dgt_lt hst.dig (t+j);have hcl:=hst.car;have hbl:=hst.bor;obtain ⟨D,hD⟩:∃ D,dgt b j=D:=⟨_,rfl⟩;obtain ⟨x,hx0⟩:∃ x,dgt o (t+j)=x:=⟨_,rfl⟩;rw [hD] at Hdb hnxt hdl;rw [hx0] at c2 hnxt hxl;have hqd:q*D<=4294967295*4294967295:=Nat.mul_le_mul (by omega) (by omega);obtain ⟨p0,hp⟩:∃ p,q*D=p:=⟨_,rfl⟩;have hpi:(q:Int)*(D:Int)=(p0:Int):=(by rw [<- hp]; simp);rw [hp] at hnxt hqd;have e5:(0:Int)<=(q:Int)*D:=(by omega);have e6:(q:Int)*D<18446744073709551616:=(by omega);obtain ⟨P,hP⟩:∃ P,p0+ca=P:=⟨_,rfl⟩;have hPi:(p0:Int)+ca=P:=(by omega);have e7:(p0:Int)+ca<18446744073709551616:=(by omega);rw [hP] at hnxt;obtain ⟨pm,hpm⟩:∃ pm,P % 4294967296=pm:=⟨_,rfl⟩;obtain ⟨pd,hpd⟩:∃ pd,P / 4294967296=pd:=⟨_,rfl⟩;have hpmi:(P:Int) % 4294967296=pm:=(by omega);have hpdi:(P:Int) / 4294967296=pd:=(by omega);rw [hpm,hpd] at hnxt;obtain ⟨S,hS,hSm,hSd⟩:=sub_word hxl (show pm<4294967296 by omega) hbl;obtain ⟨sd,hsd⟩:∃ sd,subD x pm bo=sd:=⟨_,rfl⟩;obtain ⟨sb,hsb⟩:∃ sb,subB x pm bo=sb:=⟨_,rfl⟩;rw [hsd] at hSm hnxt;rw [hsb] at hSd hnxt;have HA2:=bH (hA.set (t+j) sd);have Hnxt:=bH hnxt;have HX2:=bH (hx.trans ((Ext.refl (fun z=>z=U) wr).setCell (p:=⟨U,t+j,none⟩) (.int .u32 (sd:Nat)) (fun _=>rfl)));clear hst hA hx hnxt hD hx0 hp hP hpm hpd hsd hsb;have i0:(0:Int)<=(t:Int)+j:=(by omega);have i1:(t:Int)+j<(n:Int):=(by omega);have i2:((t:Int)+j).toNat=t+j:=(by omega);go_wp2_with fail;refine Hdb.o.mono ?_;rintro r w' ⟨rfl,hw⟩; obtain rfl:=hw.symm;go_wp2;go_roundg (K - (j+1));case measure=>omega
   case rel=>exact ⟨j+1,_,_,_,by omega,rfl,by go_num,rfl,rfl,Hnxt.o,HA2.o,HX2.o⟩
  ·have e:j=K:=(by omega);subst e;have htl:t<=l.length:=(by have:=Hl.o; omega);have hst':=hst;rw [<- hK,<- Hnb.o] at hst';have Hdn:=bH (hst'.done htl);have hsame:=hst'.same;have hzo:∀ i,b.length+1<=i->dgt (o.drop t) i=0:=fun i hi=>by
    have:=HZ.o.1 i (by have:=Hnb.o; omega);rw [dgt_drop] at this ⊢;rw [hsame (t+i) (.inr (by omega))]; exact this
   have Hol:=bH (vl_high_lt (hst.dig.drop t) hzo);have HVl:=bH (Nat.lt_of_lt_of_le (vl_lt Hbd.o) (pow_mono (Nat.le_succ b.length)));rcases Nat.eq_zero_or_pos bo with rfl | hbo
   ·have HP:Hid (RedPost w U l b t q (.returned (.int .u64 q)) wr):=bH ⟨q,o,rfl,Nat.le_refl _,hA,hst.dig,hst.len,hsame,by have:=Hdn.o; rwa [Nat.mul_zero,Nat.add_zero] at this,.inl rfl,hx⟩;clear hst hst' Hdn hsame hzo Hol HVl hA hx;go_wp2;go_ret;exact HP.o
   ·have hb1:bo=1:=(by have:=hst.bor; omega);subst hb1;have Hst1:=bH hst;have Hsame:=bH hsame;have Hz0:=bH (AddBk.zero (b:=b) hst.dig t);have HA1:=bH hA;have HX1:=bH hx;have Hzo:=bH hzo;clear hst hst' hsame hzo hA hx;go_wp2_with fail;go_loopg [10,60] j (fun g v10 v60 wr=>∃ (i:Nat) (o2:List Nat) (c:Nat),i<=j/\g=j - i/\v60=.int .i64 i/\v10=.int .u64 c/\AddBk o b t i o2 c/\Arr wr U o2/\Ext (fun k=>k=U) w wr);case atStart=>exact ⟨0,o,0,Nat.zero_le _,rfl,rfl,rfl,Hz0.o,HA1.o,HX1.o⟩
    case round =>
     obtain ⟨i,o2,c,hi,rfl,rfl,rfl,hst,hA,hx⟩:=hrel;clear HA1 HX1 Hz0;by_cases hij:i<j
     ·have Hdb:=bH (fun W hW=>digit_any W _ b (HB.o W hW) i (by omega));have hlen:t+i<o2.length:=(by have:=Hl.o; have:=hst.len; have:=Hst1.o.len; omega);have c2:=hA.cell (t+i) hlen;have f2:=hA.free (t+i);have hnxt:=hst.step Hbd.o (by have:=Hl.o; have:=Hst1.o.len; omega);have hdl:=dgt_lt Hbd.o i;have hxl:=dgt_lt hst.dig (t+i);have hcl:=hst.car;obtain ⟨D,hD⟩:∃ D,dgt b i=D:=⟨_,rfl⟩;obtain ⟨x,hx0⟩:∃ x,dgt o2 (t+i)=x:=⟨_,rfl⟩;rw [hD] at Hdb hnxt hdl;rw [hx0] at c2 hnxt hxl;obtain ⟨S,hS⟩:∃ S,x+D+c=S:=⟨_,rfl⟩;rw [hS] at hnxt;have hSi:(x:Int)+D+c=S:=(by omega);obtain ⟨sd,hsd⟩:∃ sd,S % 4294967296=sd:=⟨_,rfl⟩;obtain ⟨sb,hsb⟩:∃ sb,S / 4294967296=sb:=⟨_,rfl⟩;have hsdi:(S:Int) % 4294967296=sd:=(by omega);have hsbi:(S:Int) / 4294967296=sb:=(by omega);rw [hsd,hsb] at hnxt;have HA2:=bH (hA.set (t+i) sd);have Hnxt:=bH hnxt;have HX2:=bH (fun N=>(hx.drewN N).trans ((Ext.refl (fun z=>z=U) (wr.drewN N)).setCell (p:=⟨U,t+i,none⟩) (.int .u32 (sd:Nat)) (fun _=>rfl)));have HX3:=bH (fun N=>hx.drewN N);clear hst hA hx hnxt hD hx0 hsd hsb;have i0:(0:Int)<=(t:Int)+i:=(by omega);have i1:(t:Int)+i<(n:Int):=(by omega);have i2:((t:Int)+i).toNat=t+i:=(by omega);go_upto_region 15 with fail;go_quiet ((go_at_call 212; exact (Hdb.o _ (HX3.o _)).mono (fun r w' h=>⟨h.1,_,h.2⟩)));go_wp2;go_roundg (j - (i+1));case measure=>omega
      case rel=>exact ⟨i+1,_,_,by omega,rfl,by go_num,rfl,Hnxt.o,HA2.o,HX2.o _⟩
     ·have e:i=j:=(by omega);subst e;have hst':=hst;rw [<- hK,<- Hnb.o] at hst';have htl2:t<=o.length:=(by have:=Hst1.o.len; omega);have Hd2:=bH (hst'.done htl2);have hs2:=hst'.same;have hz2:∀ a,b.length+1<=a->dgt (o2.drop t) a=0:=fun a ha=>by
       have:=Hzo.o a ha;rw [dgt_drop] at this ⊢;rw [hs2 (t+a) (.inr (by omega))]; exact this
      have Ho2:=bH (vl_high_lt (hst.dig.drop t) hz2);have Hover:=bH (red_over' (Nat.le_refl 1) hst.car Ho2.o Hol.o Hdn.o Hd2.o HZ.o.2 (Nat.le_of_lt HVl.o));have hsame2:∀ a,a<t∨t+(b.length+1)<=a->dgt o2 a=dgt l a:=fun a ha=>(hs2 a ha).trans (Hsame.o a ha);have hq1:0<q:=Hover.o.1;have HP:Hid (RedPost w U l b t q (.returned (.int .u64 (q - 1:Nat))) wr):=bH ⟨q - 1,o2,rfl,Nat.sub_le _ _,hA,hst.dig,hst.len.trans Hst1.o.len,hsame2,Hover.o.2.1,.inr Hover.o.2.2,hx⟩;clear hst hst' hs2 hz2 hsame2 hA hx;have hqi:((q:Int) - 1)=((q - 1:Nat):Int):=(by omega);go_wp2;go_ret;exact HP.o
structure DivSt (U0 V m i:Nat) (u q:List Nat):Prop where
 udig:Dig u
 qdig:Dig q
 qlen:q.length=m
 qlow:∀ j,j<i->dgt q j=0
 val:U0=vl q*V+vl u
 rest:vl (u.drop i)<V
theorem DivSt.start {u:List Nat} {V m:Nat} (hu:Dig u) (h:vl (u.drop m)<V):DivSt (vl u) V m m u (List.replicate m 0) :=
 ⟨hu,Dig.zeros m,by simp,fun j hj=>by rw [dgt_in (by simpa using hj)]; simp,by rw [vl_zeros]; simp,h⟩
theorem DivSt.next_lt {U0 V m i:Nat} {u q:List Nat} (h:DivSt U0 V m (i+1) u q) (hi:i<u.length):vl (u.drop i)<4294967296*V:=by
 have h1:=vl_drop hi;have h2:=h.udig.get i hi;have h3:=h.rest;omega
theorem DivSt.step {U0 V m i d:Nat} {u q u':List Nat} (h:DivSt U0 V m (i+1) u q) (hi:i<m) (hlen:u'.length=u.length) (hiu:i<u.length) (hd:d<4294967296) (hu:Dig u') (hs:∀ j,j<i->dgt u' j=dgt u j)
  (hv:vl (u'.drop i)+d*V=vl (u.drop i)) (hr:vl (u'.drop i)<V):DivSt U0 V m i u' (q.set i d):=by
 have hlt:i<q.length:=by rw [h.qlen]; exact hi
 refine ⟨hu,h.qdig.set _ _ hd,by simp [h.qlen],fun j hj=>by rw [dgt_set hlt,if_neg (by omega)]; exact h.qlow j (by omega),?_,hr⟩;have h1:=vl_set_dgt d hlt;rw [h.qlow i (by omega),Nat.mul_zero,Nat.add_zero] at h1;have h2:=vl_at (l:=u') (t:=i) (by omega);have h3:=vl_at (l:=u) (t:=i) (by omega);rw [h1,h2,vl_take_same i hs,h.val,h3,<- hv,Nat.mul_add,Nat.add_mul,Nat.mul_assoc];omega
theorem DivSt.done {U0 V m:Nat} {u q:List Nat} (h:DivSt U0 V m 0 u q):vl q=U0 / V/\vl u=U0 % V:=by
 have hr:=h.rest;rw [List.drop_zero] at hr;have hv:=h.val;have hV:0<V:=by omega
 constructor
 ·rw [hv,Nat.mul_comm,Nat.mul_add_div hV,Nat.div_eq_of_lt hr]; omega
 ·rw [hv,Nat.mul_comm,Nat.mul_add_mod,Nat.mod_eq_of_lt hr]
theorem digit_rest {X V g d r:Nat} (hg:X / V<=g) (hV:0<V) (h:r+d*V=X) (hd:d=g∨X<(d+1)*V):r<V:=by
 rcases hd with rfl | hd
 ·have h1:X<(X / V+1)*V:=by
   have:=Nat.lt_div_mul_add hV (a:=X);rw [Nat.add_mul]; omega
  have h2:(X / V+1)*V<=(d+1)*V:=Nat.mul_le_mul_right V (by omega);have h3:=Nat.lt_of_lt_of_le h1 h2;rw [Nat.add_mul] at h3;omega
 ·rw [Nat.add_mul] at hd;omega
end Go.Proofs.YtjaldknfeojjkaaGreat
