/-
  Texts of the proof, part 5. Conditions: each lemma names its own.
-/
import Derived.Test.YtglepbhkilbbcaaGreatZ1
import Derived.Test.YtglepbhkilbbcaaGreatZ3
import Derived.Test.YtglepbhkilbbcaaGreatZ4
import Derived.Laws.StructEq
import Derived.Shelf.SlicesQ.IndexFunc
import Derived.Shelf.SlGeneric
import Derived.Ground.SlgfProg
import Derived.Shelf.Small.Bits
import Derived.Shelf.Strconv.Itoa0
import Derived.Shelf.GgClosure.StringsIndexFunc
import Derived.Ground.GgwProg
import Derived.Shelf.GgClosure.StringsIndexFuncTop
import Derived.Shelf.Strings.FuncGrows
import Derived.Shelf.Slices.Turned
import Derived.Ground.Names2Prog
import Derived.Shelf.Slices.Clone
import Derived.Ground.SlgfProg
import Derived.Shelf.SlicesE.IndexFunc
import Derived.Test.YtglepbhkilbbcaaGreatProg
import Derived.Laws.RangeAny
import Derived.Maps.RangeWalk
open Go.Proofs.Tryz
set_option linter.unusedVariables false
set_option linter.unusedSimpArgs false
set_option maxRecDepth 100000
set_option maxHeartbeats 16000000
namespace Go.Proofs.YtglepbhkilbbcaaGreat
open Go.RowKit Go.MapKept
open Go.ChangeMaps (setBlock)
structure Tb where
 B:Nat->Bool
 M:Nat->Nat->Rat
 b:Nat->Rat
 d:Nat->Rat
 z:Rat
structure Wf(N:Nat) (D:Tb):Prop where
 dom:∀w,D.B w=true->w<N
 row:∀w,D.B w=false->∀t,D.M w t=0
 rhs:∀w,D.B w=false->D.b w=0
 unit:∀w t,D.B w=true->D.B t=true->D.M w t=if w=t then 1 else 0
 cost:∀t,D.B t=true->D.d t=0
def RP(N:Nat) (D:Tb) (c:Rat) (x:Nat->Rat):Prop:=∀w,D.B w=true->AG N (fun t=>D.M w t*x t)=c*D.b w
def KG(N:Nat) (D:Tb) (c:Rat) (x:Nat->Rat):Rat:=c*D.z+AG N fun t=>D.d t*x t
structure F4(N:Nat) (D E:Tb):Prop where
 sol:∀c x,RP N D c x↔RP N E c x
 obj:∀c x,RP N D c x->KG N D c x=KG N E c x
theorem F4.refl(N:Nat) (D:Tb):F4 N D D:=⟨fun _ _=>Iff.rfl,fun _ _ _=>rfl⟩
theorem F4.symm{N:Nat} {D E:Tb} (h:F4 N D E):F4 N E D:=⟨fun c x=>(h.sol c x).symm,fun c x hx=>(h.obj c x ((h.sol c x).2 hx)).symm⟩
theorem F4.trans{N:Nat} {D E F:Tb} (h:F4 N D E) (k:F4 N E F):F4 N D F :=
 ⟨fun c x=>(h.sol c x).trans (k.sol c x),fun c x hx=>(h.obj c x hx).trans (k.obj c x ((h.sol c x).1 hx))⟩
def Cq(D:Tb) (v u:Nat):Tb where
 B w:=if w=u then true else if w=v then false else D.B w
 M w t:=if w=u then D.M v t/D.M v u else if w=v then 0 else D.M w t-D.M w u*(D.M v t/D.M v u)
 b w:=if w=u then D.b v/D.M v u else if w=v then 0 else D.b w-D.M w u*(D.b v/D.M v u)
 d t:=D.d t-D.d u*(D.M v t/D.M v u)
 z:=D.z+D.d u*(D.b v/D.M v u)
section
variable {N:Nat} {D:Tb} {v u:Nat}
theorem Mk(h:Wf N D) (hv:D.B v=true) (hu:D.B u=false) (hN:u<N) (hr:D.M v u≠0):Wf N (Cq D v u):=by
 have huv:u≠v:=fun e=>by rw[e,hv] at hu;cases hu
 have hrr:D.M v u/D.M v u=1:=by grind
 have hz:∀t,D.B t=true->t≠v->D.M v t/D.M v u=0:=fun t ht hn=>by
  rw[h.unit v t hv ht,if_neg (Ne.symm hn)];grind
 refine⟨fun w hw=>?_,fun w hw t=>?_,fun w hw=>?_,fun w t hw ht=>?_,fun t ht=>?_⟩
 ·simp only[Cq] at hw;split at hw
  ·rename_i e;rw[e];exact hN
  split at hw
  ·cases hw
  exact h.dom w hw
 ·simp only[Cq] at hw ⊢;split at hw
  ·cases hw
  rename_i h1;rw[if_neg h1];split at hw
  ·rename_i h2;rw[if_pos h2]
  rename_i h2;rw[if_neg h2,h.row w hw,h.row w hw];grind
 ·simp only[Cq] at hw ⊢;split at hw
  ·cases hw
  rename_i h1;rw[if_neg h1];split at hw
  ·rename_i h2;rw[if_pos h2]
  rename_i h2;rw[if_neg h2,h.rhs w hw,h.row w hw];grind
 ·simp only[Cq] at hw ht ⊢;by_cases hwu:w=u
  ·rw[if_pos hwu];by_cases htu:t=u
   ·rw[htu,hrr,if_pos (by rw[hwu])]
   rw[if_neg htu] at ht;by_cases htv:t=v
   ·rw[if_pos htv] at ht;cases ht
   rw[if_neg htv] at ht;rw[hz t ht htv,if_neg (fun e=>htu (e.symm.trans hwu))]
  rw[if_neg hwu] at hw ⊢;by_cases hwv:w=v
  ·rw[if_pos hwv] at hw;cases hw
  rw[if_neg hwv] at hw ⊢;by_cases htu:t=u
  ·rw[htu,hrr,if_neg hwu];grind
  rw[if_neg htu] at ht;by_cases htv:t=v
  ·rw[if_pos htv] at ht;cases ht
  rw[if_neg htv] at ht;rw[hz t ht htv,h.unit w t hw ht];grind
 simp only[Cq] at ht ⊢;by_cases htu:t=u
 ·rw[htu,hrr];grind
 rw[if_neg htu] at ht;by_cases htv:t=v
 ·rw[if_pos htv] at ht;cases ht
 rw[if_neg htv] at ht;rw[hz t ht htv,h.cost t ht];grind
theorem Nb(hr:D.M v u≠0) (x:Nat->Rat):AG N (fun t=>(D.M v t/D.M v u)*x t)=AG N (fun t=>D.M v t*x t)/D.M v u:=by
 have e:∀t,t<N->(D.M v t/D.M v u)*x t=(1/D.M v u)*(D.M v t*x t):=fun t _=>by grind
 rw[AE e,A2];grind
theorem MC(x:Nat->Rat) (w:Nat):AG N (fun t=>(D.M w t-D.M w u*(D.M v t/D.M v u))*x t)=AG N (fun t=>D.M w t*x t)-D.M w u*AG N (fun t=>(D.M v t/D.M v u)*x t):=by
 rw[<- A2,<- B8];exact AE fun t _=>by grind
theorem Nw(hv:D.B v=true) (hu:D.B u=false) (hr:D.M v u≠0):F4 N D (Cq D v u):=by
 have huv:u≠v:=fun e=>by rw[e,hv] at hu;cases hu
 have hs:∀c x,RP N D c x->AG N (fun t=>(D.M v t/D.M v u)*x t)=c*(D.b v/D.M v u):=fun c x h=>by
  rw[Nb hr,h v hv];grind
 refine⟨fun c x=>⟨fun h w hw=>?_,fun h w hw=>?_⟩,fun c x h=>?_⟩
 ·simp only[Cq] at hw ⊢;by_cases hwu:w=u
  ·simp only[if_pos hwu];exact hs c x h
  simp only[if_neg hwu] at hw ⊢;by_cases hwv:w=v
  ·simp only[if_pos hwv] at hw;cases hw
  simp only[if_neg hwv] at hw ⊢;rw[MC,hs c x h,h w hw];grind
 ·have h1:AG N (fun t=>(D.M v t/D.M v u)*x t)=c*(D.b v/D.M v u):=by
   have:=h u (by simp[Cq]);simpa[Cq] using this
  by_cases hwv:w=v
  ·rw[hwv];rw[Nb hr] at h1;have:AG N (fun t=>D.M v t*x t)=(AG N (fun t=>D.M v t*x t)/D.M v u)*D.M v u:=(by grind);rw[this,h1];grind
  have hwu:w≠u:=fun e=>by rw[e,hu] at hw;cases hw
  have h2:=h w (by simp only[Cq];rw[if_neg hwu,if_neg hwv];exact hw);simp only[Cq,if_neg hwu,if_neg hwv] at h2;rw[MC,h1] at h2;grind
 unfold KG;have e:∀t,t<N->(Cq D v u).d t*x t=D.d t*x t-D.d u*((D.M v t/D.M v u)*x t):=fun t _=>by
  show (D.d t-D.d u*(D.M v t/D.M v u))*x t=_;grind
 rw[AE e,B8,A2,hs c x h];show _=c*(D.z+D.d u*(D.b v/D.M v u))+_;grind
def D7(N:Nat) (D:Tb) (c:Rat) (y:Nat->Rat) (t:Nat):Rat:=if D.B t then c*D.b t-AG N (fun u=>if D.B u then 0 else D.M t u*y u) else y t
theorem Bi{c:Rat} {y:Nat->Rat} {t:Nat} (h:D.B t=false):D7 N D c y t=y t:=by unfold D7;rw[h];rfl
theorem CY{c:Rat} {y:Nat->Rat} {t:Nat} (h:D.B t=true):D7 N D c y t=c*D.b t-AG N (fun u=>if D.B u then 0 else D.M t u*y u):=by unfold D7;rw[h];rfl
theorem L4(h:Wf N D) {w:Nat} (hw:D.B w=true) (x:Nat->Rat):AG N (fun t=>D.M w t*x t)=x w+AG N (fun u=>if D.B u then 0 else D.M w u*x u):=by
 have e:∀t,t<N->D.M w t*x t=(if t=w then x w else 0)+(if D.B t then 0 else D.M w t*x t):=fun t _=>by
  cases ht:D.B t with
  | true =>
   rw[h.unit w t hw ht];by_cases e:t=w
   ·rw[if_pos e,if_pos e.symm,e];simp;grind
   rw[if_neg e,if_neg (Ne.symm e)];simp;grind
  | false =>
   have e:t≠w:=fun e=>by rw[e,hw] at ht;cases ht
   rw[if_neg e];simp;grind
 rw[AE e,DM,BK,if_pos (h.dom w hw)]
theorem Db(h:Wf N D) (c:Rat) (y:Nat->Rat):RP N D c (D7 N D c y):=fun w hw=>by
 rw[L4 h hw,CY hw];have:AG N (fun u=>if D.B u=true then 0 else D.M w u*D7 N D c y u)=AG N (fun u=>if D.B u=true then 0 else D.M w u*y u):=by
  refine AE fun u _=>?_;cases hu:D.B u with
  | true=>rfl
  | false=>rw[Bi hu]
 rw[this];grind
theorem Gy(h:Wf N D) {c:Rat} {x:Nat->Rat} (hx:RP N D c x) {w:Nat} (hw:D.B w=true):x w=c*D.b w-AG N (fun u=>if D.B u then 0 else D.M w u*x u):=by
 have:=hx w hw;rw[L4 h hw] at this;grind
theorem Fk(h:Wf N D) (c:Rat) (x:Nat->Rat):KG N D c x=c*D.z+AG N (fun u=>if D.B u then 0 else D.d u*x u):=by
 unfold KG;congr 1;refine AE fun u _=>?_;cases hu:D.B u with
 | true=>rw[h.cost u hu];simp
 | false=>simp
def Bw(s t:Nat):Rat:=if t=s then 1 else 0
theorem Cl(f:Nat->Rat) {s:Nat} (hs:s<N) (hf:D.B s=false):AG N (fun u=>if D.B u then 0 else f u*Bw s u)=f s:=by
 have e:∀t,t<N->(if D.B t then 0 else f t*Bw s t)=if t=s then f s else 0:=fun t _=>by
  unfold Bw;by_cases e:t=s
  ·rw[e,hf,if_pos rfl,if_pos rfl];simp
  rw[if_neg e,if_neg e];cases D.B t<;>simp
 rw[AE e,BK,if_pos hs]
theorem It(f:Nat->Rat):AG N (fun u=>if D.B u then 0 else f u*(fun _:Nat=>(0:Rat)) u)=0:=by
 refine Af fun t _=>?_;cases D.B t<;>simp
end
theorem F4.same{N:Nat} {D E:Tb} (h:F4 N D E) (hD:Wf N D) (hE:Wf N E) (hB:∀t,D.B t=E.B t):(∀w t,t<N->D.M w t=E.M w t)/\(∀w,D.b w=E.b w)/\(∀t,t<N->D.d t=E.d t)/\D.z=E.z:=by
 have hB':D.B=E.B:=funext hB;refine⟨fun w t ht=>?_,fun w=>?_,fun t ht=>?_,?_⟩
 ·cases hw:D.B w with
  | false=>rw[hD.row w hw,hE.row w (by rw[<- hB];exact hw)]
  | true =>
   have hw':E.B w=true:=(by rw[<- hB];exact hw);cases htB:D.B t with
   | true=>rw[hD.unit w t hw htB,hE.unit w t hw' (by rw[<- hB];exact htB)]
   | false =>
    have h1:=Db hD 0 (Bw t);have h2:=Gy hE ((h.sol _ _).1 h1) hw';rw[CY hw,Cl _ ht htB] at h2;have h3:AG N (fun u=>if E.B u then 0 else E.M w u*D7 N D 0 (Bw t) u)=E.M w t:=by
     rw[<- Cl (D:=E) (fun u=>E.M w u) ht (by rw[<- hB];exact htB)];refine AE fun u _=>?_;cases hu:E.B u with
     | true=>rfl
     | false=>rw[Bi (by rw[hB];exact hu)]
    rw[h3] at h2;grind
 ·cases hw:D.B w with
  | false=>rw[hD.rhs w hw,hE.rhs w (by rw[<- hB];exact hw)]
  | true =>
   have hw':E.B w=true:=(by rw[<- hB];exact hw);have h1:=Db hD 1 (fun _=>0);have h2:=Gy hE ((h.sol _ _).1 h1) hw';rw[CY hw,It] at h2;have h3:AG N (fun u=>if E.B u then 0 else E.M w u*D7 N D 1 (fun _=>0) u)=0:=by
    refine Af fun u _=>?_;cases hu:E.B u with
    | true=>rfl
    | false=>rw[Bi (by rw[hB];exact hu)];simp
   rw[h3] at h2;grind
 ·cases htB:D.B t with
  | true=>rw[hD.cost t htB,hE.cost t (by rw[<- hB];exact htB)]
  | false =>
   have h1:=Db hD 0 (Bw t);have h2:=h.obj _ _ h1;rw[Fk hD,Fk hE] at h2;have h3:∀f:Nat->Rat,AG N (fun u=>if D.B u then 0 else f u*D7 N D 0 (Bw t) u)=f t:=fun f=>by
    rw[<- Cl (D:=D) f ht htB];refine AE fun u _=>?_;cases hu:D.B u with
    | true=>rfl
    | false=>rw[Bi hu]
   rw[<- hB',h3,h3] at h2;grind
 have h1:=Db hD 1 (fun _=>0);have h2:=h.obj _ _ h1;rw[Fk hD,Fk hE] at h2;have h3:∀f:Nat->Rat,AG N (fun u=>if D.B u then 0 else f u*D7 N D 1 (fun _=>0) u)=0:=fun f=>by
  refine Af fun u _=>?_;cases hu:D.B u with
  | true=>rfl
  | false=>rw[Bi hu];simp
 rw[<- hB',h3,h3] at h2;grind
theorem C0(n:Nat) (f:Nat->Rat):∀k:Nat,AG (n+k) f=AG n f+AG k (fun j=>f (n+j))
 | 0=>by
  show AG n f=AG n f+0;grind
 | k+1=>by
  show AG (n+k) f+f (n+k)=AG n f+(AG k (fun j=>f (n+j))+f (n+k));rw[C0 n f k];grind
theorem JT(f:Nat->Rat) (n:Nat):AG n (fun i=>-f i) = -AG n f:=by
 have:=A2 (-1) f n;rw[AE (g:=fun i=>-1*f i) (fun i _=>by grind),this];grind
structure AZ where
 row:Int
 var:Nat
 tur:Bool
def BB:AZ:=⟨0,0,false⟩
def AV(p:AH) (l:AZ):List B1:=if l.row<0 then [⟨l.var,1⟩] else (p.r l.row.toNat).terms
def A6(l:AZ):Int:=if l.row<0 then 1 else if l.tur then -1 else 1
def KZ(p:AH) (ts:List B1):Rat:=AG ts.length fun k=>((ts.getD k AW).coef:Rat)*((p.v (ts.getD k AW).var.toNat).lo:Rat)
def Cs(p:AH) (l:AZ):Rat:=if l.row<0 then (((p.v l.var).up-(p.v l.var).lo:Int):Rat) else ((p.r l.row.toNat).bound:Rat)-KZ p (AV p l)
def BM(p:AH) (l:AZ) (z:List Rat) (dir:Bool):Rat:=((if dir then 0 else Cs p l)-Bs (AV p l) z)*(A6 l:Rat)
def Cp(p:AH) (l:AZ) (t:Nat):Rat:=AG (AV p l).length fun k=>if ((AV p l).getD k AW).var=(t:Int) then (((AV p l).getD k AW).coef:Rat)*(A6 l:Rat) else 0
def Fi(p:AH) (l:AZ):Rat:=Cs p l*(A6 l:Rat)
def BF(p:AH) (l:AZ):Prop :=
 (l.row = -1/\l.var<p.vars.length/\(p.v l.var).op=false/\l.tur=false) ∨
 (0<=l.row/\l.row.toNat<p.rows.length/\l.var=0/\(l.tur=false->(p.r l.row.toNat).kind≠1)/\(l.tur=true->(p.r l.row.toNat).kind≠0))
section
variable {p:AH} {l:AZ}
theorem BF.terms(hv:AU p=true) (h:BF p l):∀k,k<(AV p l).length->0<=((AV p l).getD k AW).var/\((AV p l).getD k AW).var<p.vars.length:=fun k hk=>by
 rcases h with⟨h1,h2,_⟩|⟨h1,h2,_⟩
 ·have e:AV p l=[⟨l.var,1⟩]:=if_pos (by omega);rw[e] at hk ⊢;have:k=0:=(by simp at hk;omega);subst this;show (0:Int)<=(l.var:Int)/\(l.var:Int)<_;omega
 have e:AV p l=(p.r l.row.toNat).terms:=if_neg (by omega);rw[e] at hk ⊢;exact D5 (BR hv h2) k hk
theorem M4(hv:AU p=true) (h:BF p l) (y:Nat->Rat):AG p.vars.length (fun t=>Cp p l t*y t)=AG (AV p l).length (fun k=>(((AV p l).getD k AW).coef:Rat)*y ((AV p l).getD k AW).var.toNat)*(A6 l:Rat):=by
 have h1:∀t,Cp p l t*y t=AG (AV p l).length (fun k=>y t*(if ((AV p l).getD k AW).var=(t:Int) then (((AV p l).getD k AW).coef:Rat)*(A6 l:Rat) else 0)):=fun t=>by
  unfold Cp;rw[Rat.mul_comm,<- A2]
 rw[AE (fun t _=>h1 t),CB,Rat.mul_comm,<- A2];refine AE fun k hk=>?_;obtain⟨h2,h3⟩:=h.terms hv k hk;generalize (AV p l).getD k AW=t at *;obtain⟨m,hm⟩:∃m:Nat,t.var=m:=⟨t.var.toNat,by omega⟩;rw[hm] at h3 ⊢;have h4:∀j:Nat,y j*(if (m:Int)=(j:Int) then (t.coef:Rat)*(A6 l:Rat) else 0)=if j=m then y m*((t.coef:Rat)*(A6 l:Rat)) else 0:=fun j=>by
  by_cases e:j=m
  ·subst e;rw[if_pos rfl,if_pos rfl]
  rw[if_neg (by omega),if_neg e];grind
 rw[AE (fun j _=>h4 j),BK,if_pos (by omega),show (m:Int).toNat=m from rfl];grind
theorem J3(hv:AU p=true) (h:BF p l) {t:Nat} (ht:p.vars.length<=t):Cp p l t=0:=by
 unfold Cp;refine Af fun k hk=>if_neg fun e=>?_;have:=(h.terms hv k hk).2;omega
theorem KK(hv:AU p=true) (h:BF p l) (y:Nat->Rat) (dir:Bool):BM p l (AP p.vars.length y) dir=(if dir then 0 else Fi p l)-AG p.vars.length (fun t=>Cp p l t*y t):=by
 have h1:Bs (AV p l) (AP p.vars.length y)=AG (AV p l).length (fun k=>(((AV p l).getD k AW).coef:Rat)*y ((AV p l).getD k AW).var.toNat):=AE fun k hk=>by
  obtain⟨h2,h3⟩:=h.terms hv k hk;obtain⟨m,hm⟩:∃m:Nat,((AV p l).getD k AW).var=m:=⟨((AV p l).getD k AW).var.toNat,by omega⟩;rw[hm] at h3 ⊢;rw[BH y (by omega)];rfl
 rw[M4 hv h,<- h1];unfold BM Fi;cases dir with
 | true=>simp only[if_true];grind
 | false=>simp only[Bool.false_eq_true,if_false];grind
end
def Cb(p:AH) (us:List AZ):Tb where
 B v:=decide (p.vars.length<=v/\v<p.vars.length+us.length)
 M v t:=if p.vars.length<=v/\v<p.vars.length+us.length then (if t<p.vars.length then Cp p (us.getD (v-p.vars.length) BB) t else if t=v then 1 else 0) else 0
 b v:=if p.vars.length<=v/\v<p.vars.length+us.length then Fi p (us.getD (v-p.vars.length) BB) else 0
 d t:=if t<p.vars.length then ((p.v t).co:Rat) else 0
 z:=0
section
variable (p:AH) (us:List AZ) (v t:Nat)
theorem JZ:(Cb p us).B v=decide (p.vars.length<=v/\v<p.vars.length+us.length):=rfl
theorem II:(Cb p us).M v t=if p.vars.length<=v/\v<p.vars.length+us.length then (if t<p.vars.length then Cp p (us.getD (v-p.vars.length) BB) t else if t=v then 1 else 0) else 0:=rfl
theorem KQ:(Cb p us).b v=if p.vars.length<=v/\v<p.vars.length+us.length then Fi p (us.getD (v-p.vars.length) BB) else 0:=rfl
theorem GR:(Cb p us).d t=if t<p.vars.length then ((p.v t).co:Rat) else 0:=rfl
end
theorem F5(p:AH) (us:List AZ):Wf (p.vars.length+us.length) (Cb p us):=by
 refine⟨fun w hw=>(of_decide_eq_true hw).2,fun w hw t=>if_neg (of_decide_eq_false hw),fun w hw=>if_neg (of_decide_eq_false hw),fun w t hw ht=>?_,fun t ht=>if_neg (by have:=of_decide_eq_true ht;omega)⟩;have h1:=of_decide_eq_true hw;have h2:=of_decide_eq_true ht;rw[II,if_pos h1,if_neg (by omega)];by_cases e:t=w
 ·rw[if_pos e,if_pos e.symm]
 rw[if_neg e,if_neg (Ne.symm e)]
def FO(N:Nat) (D:Tb) (a:Nat->Rat) (be:Rat):Tb where
 B v:=if v=N then true else D.B v
 M v t:=if v=N then (if t=N then 1 else a t-AG N (fun w=>a w*D.M w t)) else if t=N then 0 else D.M v t
 b v:=if v=N then be-AG N (fun w=>a w*D.b w) else D.b v
 d t:=if t=N then 0 else D.d t
 z:=D.z
section
variable (N:Nat) (D:Tb) (a:Nat->Rat) (be:Rat) (v t:Nat)
theorem OA:(FO N D a be).B v=if v=N then true else D.B v:=rfl
theorem Ub:(FO N D a be).M v t=if v=N then (if t=N then 1 else a t-AG N (fun w=>a w*D.M w t)) else if t=N then 0 else D.M v t:=rfl
theorem UX:(FO N D a be).b v=if v=N then be-AG N (fun w=>a w*D.b w) else D.b v:=rfl
theorem UZ:(FO N D a be).d t=if t=N then 0 else D.d t:=rfl
end
section
variable {N:Nat} {D E:Tb} {a:Nat->Rat} {be:Rat}
theorem Wf.notN(h:Wf N D):D.B N=false:=by
 cases hb:D.B N with
 | false=>rfl
 | true=>exact absurd (h.dom N hb) (Nat.lt_irrefl N)
theorem Us(h:Wf N D):Wf (N+1) (FO N D a be):=by
 have hN:=h.notN;refine⟨fun w hw=>?_,fun w hw t=>?_,fun w hw=>?_,fun w t hw ht=>?_,fun t ht=>?_⟩
 ·have hw:(if w=N then true else D.B w)=true:=hw;by_cases e:w=N
  ·omega
  rw[if_neg e] at hw;have:=h.dom w hw;omega
 ·have hw:(if w=N then true else D.B w)=false:=hw;by_cases e:w=N
  ·rw[if_pos e] at hw;cases hw
  rw[if_neg e] at hw;show (if w=N then _ else if t=N then 0 else D.M w t)=0;rw[if_neg e,h.row w hw];split<;>rfl
 ·have hw:(if w=N then true else D.B w)=false:=hw;by_cases e:w=N
  ·rw[if_pos e] at hw;cases hw
  rw[if_neg e] at hw;show (if w=N then _ else D.b w)=0;rw[if_neg e,h.rhs w hw]
 ·have hw:(if w=N then true else D.B w)=true:=hw;have ht:(if t=N then true else D.B t)=true:=ht;show (if w=N then (if t=N then 1 else a t-AG N (fun w=>a w*D.M w t)) else if t=N then 0 else D.M w t)=_;by_cases e:w=N
  ·by_cases e2:t=N
   ·rw[if_pos e,if_pos e2,if_pos (by omega)]
   rw[if_neg e2] at ht;have htN:=h.dom t ht;rw[if_pos e,if_neg e2,if_neg (by omega)];have h1:∀v,v<N->a v*D.M v t=if v=t then a t else 0:=fun v _=>by
    cases hv:D.B v with
    | true =>
     rw[h.unit v t hv ht];by_cases e3:v=t
     ·rw[if_pos e3,if_pos e3,e3];grind
     rw[if_neg e3,if_neg e3];grind
    | false =>
     rw[h.row v hv,if_neg (fun e3=>by rw[e3,ht] at hv;cases hv)];grind
   rw[AE h1,BK,if_pos htN];grind
  rw[if_neg e] at hw ⊢;by_cases e2:t=N
  ·rw[if_pos e2,if_neg (by omega)]
  rw[if_neg e2] at ht ⊢;exact h.unit w t hw ht
 have ht:(if t=N then true else D.B t)=true:=ht;show (if t=N then 0 else D.d t)=0;by_cases e:t=N
 ·rw[if_pos e]
 rw[if_neg e] at ht ⊢;exact h.cost t ht
theorem MY(h:Wf N D) (c:Rat) (x:Nat->Rat):RP (N+1) (FO N D a be) c x↔RP N D c x/\AG N (fun t=>a t*x t)+x N=c*be:=by
 have hN:=h.notN;have hrow:RP N D c x->AG N (fun t=>(a t-AG N (fun w=>a w*D.M w t))*x t)=AG N (fun t=>a t*x t)-c*AG N (fun w=>a w*D.b w):=fun hs=>by
  rw[AE (g:=fun t=>a t*x t-AG N (fun w=>a w*(D.M w t*x t))) (fun t _=>by
   rw[AE (g:=fun w=>x t*(a w*D.M w t)) (f:=fun w=>a w*(D.M w t*x t)) (fun w _=>by grind),A2];grind),B8,CB]
  rw[AE (f:=fun w=>AG N (fun t=>a w*(D.M w t*x t))) (g:=fun w=>c*(a w*D.b w)) (fun w _=>by
   rw[A2];cases hw:D.B w with
   | true=>rw[hs w hw];grind
   | false =>
    rw[h.rhs w hw,Af (f:=fun t=>D.M w t*x t) (fun t _=>by rw[h.row w hw];grind)];grind),A2]
 have hl:∀w,w≠N->AG (N+1) (fun t=>(FO N D a be).M w t*x t)=AG N (fun t=>D.M w t*x t):=fun w hw=>by
  show AG N (fun t=>(if w=N then _ else if t=N then 0 else D.M w t)*x t)+(if w=N then _ else if N=N then 0 else D.M w N)*x N=_;rw[if_neg hw,if_pos rfl,AE (g:=fun t=>D.M w t*x t) (fun t ht=>by rw[if_neg hw,if_neg (by omega)])];grind
 have hn:AG (N+1) (fun t=>(FO N D a be).M N t*x t)=AG N (fun t=>(a t-AG N (fun w=>a w*D.M w t))*x t)+x N:=by
  show AG N (fun t=>(if N=N then (if t=N then 1 else a t-AG N (fun w=>a w*D.M w t)) else _)*x t)+(if N=N then (if N=N then 1 else _) else _)*x N=_;rw[if_pos rfl,if_pos rfl,AE (g:=fun t=>(a t-AG N (fun w=>a w*D.M w t))*x t) (fun t ht=>by rw[if_pos rfl,if_neg (by omega)])];grind
 have hb:(FO N D a be).b N=be-AG N (fun w=>a w*D.b w):=if_pos rfl;constructor
 ·intro hs;have hD:RP N D c x:=fun w hw=>by
   have e:w≠N:=fun e=>by rw[e,hN] at hw;cases hw
   have:=hs w (show (if w=N then true else D.B w)=true by rw[if_neg e];exact hw);rw[hl w e,show (FO N D a be).b w=D.b w from if_neg e] at this;exact this
  refine⟨hD,?_⟩;have:=hs N (if_pos rfl);rw[hn,hb,hrow hD] at this;grind
 rintro⟨hs,he⟩ w hw;have hw:(if w=N then true else D.B w)=true:=hw;by_cases e:w=N
 ·subst e;rw[hn,hb,hrow hs];grind
 rw[if_neg e] at hw;rw[hl w e,show (FO N D a be).b w=D.b w from if_neg e];exact hs w hw
theorem QK(c:Rat) (x:Nat->Rat):KG (N+1) (FO N D a be) c x=KG N D c x:=by
 show c*D.z+(AG N (fun t=>(if t=N then 0 else D.d t)*x t)+(if N=N then 0 else D.d N)*x N)=c*D.z+AG N (fun t=>D.d t*x t);rw[if_pos rfl,AE (g:=fun t=>D.d t*x t) (fun t ht=>by rw[if_neg (by omega)])];grind
theorem F4.use(h:F4 N D E) (hD:Wf N D) (hE:Wf N E) (a:Nat->Rat) (be:Rat):F4 (N+1) (FO N D a be) (FO N E a be) :=
 ⟨fun c x=>by rw[MY hD,MY hE,h.sol],fun c x hx=>by rw[QK,QK];exact h.obj c x ((MY hD c x).1 hx).1⟩
theorem F4.of_eq(hB:∀w,D.B w=E.B w) (hM:∀w t,D.B w=true->t<N->D.M w t=E.M w t) (hb:∀w,D.B w=true->D.b w=E.b w) (hd:∀t,t<N->D.d t=E.d t) (hz:D.z=E.z):F4 N D E :=
 ⟨fun c x=>⟨fun hs w hw=>by
   rw[<- hB] at hw
   rw[<- hb w hw,<- hs w hw]
   exact AE fun t ht=>by rw[hM w t hw ht],
  fun hs w hw=>by
   rw[hb w hw,<- hs w (by rw[<- hB];exact hw)]
   exact AE fun t ht=>by rw[hM w t hw ht]⟩,
  fun c x _=>by
  unfold KG
  rw[hz,AE (g:=fun t=>E.d t*x t) (fun t ht=>by rw[hd t ht])]⟩
end
theorem Ss{p:AH} (hv:AU p=true) (us:List AZ) {l:AZ} (h:BF p l):F4 (p.vars.length+us.length+1) (Cb p (us++[l])) (FO (p.vars.length+us.length) (Cb p us) (Cp p l) (Fi p l)):=by
 have hlen:(us++[l]).length=us.length+1:=by simp
 have hget:∀j,j<us.length->(us++[l]).getD j BB=us.getD j BB:=fun j hj=>by
  rw[List.getD_eq_getElem?_getD,List.getD_eq_getElem?_getD,List.getElem?_append_left hj]
 have hlast:(us++[l]).getD us.length BB=l:=by simp[List.getD_eq_getElem?_getD]
 have hz:∀t,t<p.vars.length+us.length->AG (p.vars.length+us.length) (fun w=>Cp p l w*(Cb p us).M w t)=0:=fun t _=>Af fun w _=>by
  by_cases e:w<p.vars.length
  ·rw[(F5 p us).row w (decide_eq_false (by omega))];grind
  rw[J3 hv h (by omega)];grind
 have hzb:AG (p.vars.length+us.length) (fun w=>Cp p l w*(Cb p us).b w)=0:=Af fun w _=>by
  by_cases e:w<p.vars.length
  ·rw[(F5 p us).rhs w (decide_eq_false (by omega))];grind
  rw[J3 hv h (by omega)];grind
 refine F4.of_eq (fun w=>?_) (fun w t hw ht=>?_) (fun w hw=>?_) (fun t ht=>?_) rfl
 ·rw[JZ,OA,JZ,hlen];by_cases e:w=p.vars.length+us.length
  ·rw[if_pos e];exact decide_eq_true (by omega)
  rw[if_neg e];exact decide_eq_decide.2 (by omega)
 ·have hw:p.vars.length<=w/\w<p.vars.length+(us++[l]).length:=of_decide_eq_true hw;rw[hlen] at hw;rw[II,Ub,hlen,if_pos hw];by_cases e:w=p.vars.length+us.length
  ·rw[if_pos e];by_cases e2:t=p.vars.length+us.length
   ·rw[if_pos e2,if_neg (by omega),if_pos (by omega)]
   rw[if_neg e2,hz t (by omega)];by_cases e3:t<p.vars.length
   ·rw[if_pos e3,e,Nat.add_sub_cancel_left,hlast];grind
   rw[if_neg e3,if_neg (by omega),J3 hv h (by omega)];grind
  rw[if_neg e];by_cases e2:t=p.vars.length+us.length
  ·rw[if_pos e2,if_neg (by omega),if_neg (by omega)]
  rw[if_neg e2,II,if_pos (show p.vars.length<=w/\w<p.vars.length+us.length by omega)];by_cases e3:t<p.vars.length
  ·rw[if_pos e3,if_pos e3,hget _ (by omega)]
  rw[if_neg e3,if_neg e3]
 ·have hw:p.vars.length<=w/\w<p.vars.length+(us++[l]).length:=of_decide_eq_true hw;rw[hlen] at hw;rw[KQ,UX,hlen,if_pos hw];by_cases e:w=p.vars.length+us.length
  ·rw[if_pos e,hzb,e,Nat.add_sub_cancel_left,hlast];grind
  rw[if_neg e,KQ,if_pos (show p.vars.length<=w/\w<p.vars.length+us.length by omega),hget _ (by omega)]
 rw[GR,UZ,GR];by_cases e:t=p.vars.length+us.length
 ·rw[if_pos e,if_neg (by omega)]
 rw[if_neg e]
theorem Iq{p:AH} {us:List AZ} {W:Nat->Rat} {be:Rat} (h:∀c x,RP (p.vars.length+us.length) (Cb p us) c x->AG (p.vars.length+us.length) (fun t=>W t*x t)=c*be) :
  (∀t,t<p.vars.length->W t=AG us.length (fun j=>W (p.vars.length+j)*Cp p (us.getD j BB) t))/\be=AG us.length (fun j=>W (p.vars.length+j)*Fi p (us.getD j BB)):=by
 have hb:∀j,j<us.length->(Cb p us).B (p.vars.length+j)=true:=fun j hj=>decide_eq_true (by omega);have hf:∀t,t<p.vars.length->(Cb p us).B t=false:=fun t ht=>decide_eq_false (by omega);have hM:∀j t,j<us.length->t<p.vars.length->(Cb p us).M (p.vars.length+j) t=Cp p (us.getD j BB) t:=fun j t hj ht=>by
  rw[II,if_pos (by omega),if_pos ht,Nat.add_sub_cancel_left]
 have hR:∀j,j<us.length->(Cb p us).b (p.vars.length+j)=Fi p (us.getD j BB):=fun j hj=>by
  rw[KQ,if_pos (by omega),Nat.add_sub_cancel_left]
 constructor
 ·intro s hs;have h1:=h 0 _ (Db (F5 p us) 0 (Bw s));rw[C0,AE (f:=fun t=>W t*D7 _ _ _ _ t) (g:=fun t=>if t=s then W s else 0) (fun t ht=>by
   rw[Bi (hf t ht)];unfold Bw;by_cases e:t=s
   ·rw[if_pos e,if_pos e,e];grind
   ·rw[if_neg e,if_neg e];grind),BK,if_pos hs,AE (g:=fun j=>-(W (p.vars.length+j)*Cp p (us.getD j BB) s)) (fun j hj=>by
   rw[CY (hb j hj),Cl _ (by omega) (hf s hs),hM j s hj hs];grind),JT] at h1
  grind
 have h1:=h 1 _ (Db (F5 p us) 1 (fun _=>0));rw[C0,Af (f:=fun t=>W t*D7 _ _ _ _ t) (fun t ht=>by rw[Bi (hf t ht)];grind),AE (g:=fun j=>W (p.vars.length+j)*Fi p (us.getD j BB)) (fun j hj=>by
  rw[CY (hb j hj),It,hR j hj];grind)] at h1
 grind
theorem Dd(f:Nat->Rat) (c:Rat) (n:Nat):AG n (fun i=>f i*c)=AG n f*c:=by
 rw[AE (g:=fun i=>c*f i) (fun i _=>by grind),A2];grind
def yW(p:AH) (us:List AZ) (W:Nat->Rat) (r:Nat):Rat:=AG us.length fun j=>if (us.getD j BB).row=(r:Int) then -((A6 (us.getD j BB):Rat)*W (p.vars.length+j)) else 0
def uW(p:AH) (us:List AZ) (W:Nat->Rat) (i:Nat):Rat:=AG us.length fun j=>if (us.getD j BB).row<0/\(us.getD j BB).var=i then W (p.vars.length+j) else 0
def gW(p:AH) (us:List AZ) (W:Nat->Rat) (t:Nat):Rat:=AG us.length fun j=>W (p.vars.length+j)*Cp p (us.getD j BB) t
def sW(p:AH) (us:List AZ) (W:Nat->Rat):Rat:=AG us.length fun j=>W (p.vars.length+j)*Fi p (us.getD j BB)
def yL(p:AH) (us:List AZ) (W:Nat->Rat):List Rat:=AP p.rows.length (yW p us W)
def EY(p:AH) (us:List AZ):Prop:=∀j,j<us.length->BF p (us.getD j BB)
section
variable {p:AH} {us:List AZ} {W:Nat->Rat} {l:AZ}
theorem Ps{r:Nat} (h:r<p.rows.length):Am (yL p us W) (r:Int)=yW p us W r:=BH _ h
theorem R7(f:Nat->Rat) (c:Rat) (h:BF p l):AG p.rows.length (fun r=>f r*(if l.row=(r:Int) then c else 0))=if l.row<0 then 0 else f l.row.toNat*c:=by
 rcases h with⟨h1,_⟩|⟨h1,h2,_⟩
 ·rw[if_pos (by omega)];exact Af fun r _=>by rw[if_neg (by omega)];grind
 rw[if_neg (by omega)];obtain⟨m,hm⟩:∃m:Nat,l.row=m:=⟨l.row.toNat,by omega⟩;rw[hm] at h2 ⊢;rw[AE (g:=fun r=>if r=m then f m*c else 0) (fun r _=>by
  by_cases e:r=m
  ·rw[if_pos e,if_pos (by omega),e]
  rw[if_neg e,if_neg (by omega)];grind),BK,if_pos (by simpa using h2)];rfl
theorem OI(f:Nat->Rat) (h:EY p us):AG p.rows.length (fun r=>f r*yW p us W r)=AG us.length (fun j=>if (us.getD j BB).row<0 then 0 else f (us.getD j BB).row.toNat * -((A6 (us.getD j BB):Rat)*W (p.vars.length+j))):=by
 rw[AE (g:=fun r=>AG us.length fun j=>f r*(if (us.getD j BB).row=(r:Int) then -((A6 (us.getD j BB):Rat)*W (p.vars.length+j)) else 0)) (fun r _=>by unfold yW;rw[A2]),CB];exact AE fun j hj=>R7 f _ (h j hj)
theorem PF(f:Nat->Rat) (h:EY p us):AG p.vars.length (fun i=>uW p us W i*f i)=AG us.length (fun j=>if (us.getD j BB).row<0 then W (p.vars.length+j)*f (us.getD j BB).var else 0):=by
 rw[AE (g:=fun i=>AG us.length fun j=>f i*(if (us.getD j BB).row<0/\(us.getD j BB).var=i then W (p.vars.length+j) else 0)) (fun i _=>by unfold uW;rw[A2];grind),CB];refine AE fun j hj=>?_;rcases h j hj with⟨h1,h2,_⟩|⟨h1,h2,_⟩
 ·rw[if_pos (by omega),AE (g:=fun i=>if i=(us.getD j BB).var then W (p.vars.length+j)*f (us.getD j BB).var else 0) (fun i _=>by
   by_cases e:i=(us.getD j BB).var
   ·rw[if_pos e,if_pos ⟨by omega,e.symm⟩,e];grind
   rw[if_neg e,if_neg (fun k=>e k.2.symm)];grind),BK,if_pos h2]
 rw[if_neg (by omega)];exact Af fun i _=>by rw[if_neg (by omega)];grind
theorem RA(p:AH) (y:List Rat) (i:Nat):Ax p y i=AG p.rows.length (fun r=>AG (p.r r).terms.length (fun k=>if ((p.r r).t k).var=(i:Int) then (((p.r r).t k).coef:Rat) else 0)*Am y r):=by
 unfold Ax;refine AE fun r _=>?_;rw[<- Dd];exact AE fun k _=>by split<;>grind
theorem Se(h:¬l.row<0) (t:Nat):Cp p l t=(A6 l:Rat)*AG (p.r l.row.toNat).terms.length (fun k=>if ((p.r l.row.toNat).t k).var=(t:Int) then (((p.r l.row.toNat).t k).coef:Rat) else 0):=by
 have e:AV p l=(p.r l.row.toNat).terms:=if_neg h;unfold Cp;rw[e,<- A2];exact AE fun k _=>by
  show (if ((p.r l.row.toNat).t k).var=(t:Int) then (((p.r l.row.toNat).t k).coef:Rat)*(A6 l:Rat) else 0)=_;split<;>grind
theorem LL(h:l.row<0) (t:Nat):Cp p l t=if t=l.var then 1 else 0:=by
 have e:AV p l=[⟨l.var,1⟩]:=if_pos h;have e2:A6 l=1:=if_pos h;unfold Cp;rw[e,e2];show (0:Rat)+(if (l.var:Int)=(t:Int) then ((1:Int):Rat)*((1:Int):Rat) else 0)=_;by_cases e3:t=l.var
 ·rw[if_pos e3,if_pos (by omega)];grind
 rw[if_neg e3,if_neg (by omega)];grind
theorem Pw(h:EY p us) {i:Nat} (hi:i<p.vars.length):Ax p (yL p us W) i=uW p us W i-gW p us W i:=by
 rw[RA,AE (g:=fun r=>AG (p.r r).terms.length (fun k=>if ((p.r r).t k).var=(i:Int) then (((p.r r).t k).coef:Rat) else 0)*yW p us W r) (fun r hr=>by rw[Ps hr]),OI _ h];unfold uW gW;rw[<- B8];refine AE fun j hj=>?_;by_cases e:(us.getD j BB).row<0
 ·rw[if_pos e,LL e];by_cases e2:i=(us.getD j BB).var
  ·rw[if_pos ⟨e,e2.symm⟩,if_pos e2];grind
  rw[if_neg (fun k=>e2 k.2.symm),if_neg e2];grind
 rw[if_neg e,if_neg (fun k=>e k.1),Se e];grind
theorem SW(hv:AU p=true) (hl:BF p l) (h:¬l.row<0):(A6 l:Rat)*((p.r l.row.toNat).bound:Rat)=Fi p l+AG p.vars.length (fun t=>Cp p l t*((p.v t).lo:Rat)):=by
 rw[M4 hv hl (fun t=>((p.v t).lo:Rat))];unfold Fi Cs KZ;rw[if_neg h];grind
theorem O3(h:l.row<0):Fi p l=((p.v l.var).up:Rat)-((p.v l.var).lo:Rat):=by
 unfold Fi Cs;have e2:A6 l=1:=if_pos h;rw[if_pos h,e2,Rat.intCast_sub];show _*(1:Rat)=_;grind
theorem R4(hv:AU p=true) (h:EY p us):C3 p (yL p us W) = -sW p us W+AG p.vars.length (fun i=>uW p us W i*((p.v i).up:Rat)-gW p us W i*((p.v i).lo:Rat)):=by
 unfold C3;rw[AE (g:=fun r=>((p.r r).bound:Rat)*yW p us W r) (fun r hr=>by rw[Ps hr]),OI _ h,B8,PF _ h];have h1:AG p.vars.length (fun i=>gW p us W i*((p.v i).lo:Rat))=AG us.length (fun j=>W (p.vars.length+j)*AG p.vars.length (fun i=>Cp p (us.getD j BB) i*((p.v i).lo:Rat))):=by
  rw[AE (g:=fun i=>AG us.length (fun j=>W (p.vars.length+j)*(Cp p (us.getD j BB) i*((p.v i).lo:Rat)))) (fun i _=>by
   unfold gW;rw[<- Dd];exact AE fun j _=>by grind),CB]
  exact AE fun j _=>A2 _ _ _
 rw[h1];unfold sW;rw[<- JT,<- B8,<- DM];refine AE fun j hj=>?_;by_cases e:(us.getD j BB).row<0
 ·rw[if_pos e,if_pos e,O3 e,AE (g:=fun i=>if i=(us.getD j BB).var then ((p.v (us.getD j BB).var).lo:Rat) else 0) (fun i _=>by
   rw[LL e];by_cases e2:i=(us.getD j BB).var
   ·rw[if_pos e2,if_pos e2,e2];grind
   rw[if_neg e2,if_neg e2];grind),BK]
  rcases h j hj with⟨_,h2,_⟩|⟨h2,_⟩
  ·rw[if_pos h2];grind
  omega
 rw[if_neg e,if_neg e];have:=SW hv (h j hj) e;grind
theorem Md{f:Nat->Rat} {n:Nat} (h:∀i,i<n->f i<=0):AG n f<=0:=by
 have:=Du (f:=f) (g:=fun _=>0) h;rwa [Cg] at this
theorem Lq{f:Nat->Rat} {n:Nat} (h:∀i,i<n->0<=f i):0<=AG n f:=by
 have:=Du (g:=f) (f:=fun _=>0) h;rwa [Cg] at this
theorem MM(hW:∀j,j<us.length->0<=W (p.vars.length+j)) (i:Nat):0<=uW p us W i:=Lq fun j hj=>by
 split
 ·exact hW j hj
 exact Rat.le_refl
theorem M5(h:EY p us) {i:Nat} (ho:(p.v i).op=true):uW p us W i=0:=Af fun j hj=>by
 rcases h j hj with⟨_,h2,h3,_⟩|⟨h2,_⟩
 ·refine if_neg fun e=>?_;rw[e.2,ho] at h3;cases h3
 exact if_neg fun e=>by omega
theorem MS(h:EY p us) (hW:∀j,j<us.length->0<=W (p.vars.length+j)):Cw p (yL p us W)=true:=A5.2 fun r hr=>by
 rw[Ps hr];unfold Js;have hr0:∀j,j<us.length->(us.getD j BB).row=(r:Int)->((us.getD j BB).tur=false->(p.r r).kind≠1)/\((us.getD j BB).tur=true->(p.r r).kind≠0)/\A6 (us.getD j BB)=if (us.getD j BB).tur then -1 else 1:=fun j hj e=>by
  rcases h j hj with⟨h1,_⟩|⟨_,_,_,h3,h4⟩
  ·omega
  rw[e] at h3 h4;exact⟨h3,h4,if_neg (by omega)⟩
 by_cases k1:(p.r r).kind=1
 ·have:0<=yW p us W r:=Lq fun j hj=>by
   split
   ·rename_i e;obtain⟨g1,g2,g3⟩:=hr0 j hj e;cases ht:(us.getD j BB).tur with
    | false=>exact absurd k1 (g1 ht)
    | true =>
     rw[g3,ht,if_pos rfl];have:=hW j hj;show 0≤-(((-1:Int):Rat)*_);grind
   exact Rat.le_refl
  rw[decide_eq_false (Rat.not_lt.2 this),decide_eq_false (p:=(p.r r).kind=0) (by omega)];simp
 by_cases k0:(p.r r).kind=0
 ·have:yW p us W r<=0:=Md fun j hj=>by
   split
   ·rename_i e;obtain⟨g1,g2,g3⟩:=hr0 j hj e;cases ht:(us.getD j BB).tur with
    | true=>exact absurd k0 (g2 ht)
    | false =>
     rw[g3,ht,if_neg Bool.false_ne_true];have:=hW j hj;show -(((1:Int):Rat)*_)<=0;grind
   exact Rat.le_refl
  rw[decide_eq_false (p:=0<yW p us W r) (Rat.not_lt.2 this),decide_eq_false k1];simp
 rw[decide_eq_false k1,decide_eq_false k0];rfl
theorem Mx(h:CS p=false) {i:Nat} (hi:i<p.vars.length) (ho:(p.v i).op=false):(p.v i).lo<=(p.v i).up:=by
 unfold CS at h;have h1:BY p.vars.length (fun i=>(p.v i).op||decide ((p.v i).lo<=(p.v i).up))=true:=by simpa using h
 have:=A5.1 h1 i hi;rw[ho] at this;simpa using this
theorem Pq{c:List Rat} (h:∀i,i<p.vars.length->(p.v i).op=true->0<=Am c i):Pa p c=true:=A5.2 fun i hi=>by
 cases ho:(p.v i).op with
 | false=>rfl
 | true=>rw[decide_eq_false (Rat.not_lt.2 (h i hi ho))];rfl
theorem MJ{c:List Rat} (he:CS p=false) (h:Pa p c=true):CH p c=some (IR p c):=by
 unfold CH;rw[he,h];rfl
theorem Tv{a b:Int} (h:a<=b):(a:Rat)<=(b:Rat):=Rat.intCast_le_intCast.2 h
theorem Sk(hv:AU p=true) (h:EY p us) (hW:∀t,t<p.vars.length+us.length->0<=W t) (hg:∀t,t<p.vars.length->W t=gW p us W t) (hs:sW p us W<0):JB p (yL p us W)=true:=by
 have hWj:∀j,j<us.length->0<=W (p.vars.length+j):=fun j hj=>hW _ (by omega);unfold JB;rw[hv,MS h hWj];cases he:CS p with
 | true=>rfl
 | false =>
  have hc:∀i,i<p.vars.length->Am (AP p.vars.length fun i=>-Ax p (yL p us W) i) (i:Int)=W i-uW p us W i:=fun i hi=>by
   rw[BH _ hi,Pw h hi,hg i hi];grind
  rw[MJ he (Pq fun i hi ho=>by rw[hc i hi,M5 h ho];have:=hW i (by omega);grind)];show (true&&true&&(false||decide _))=true;have h2:AG p.vars.length (fun i=>W i*((p.v i).lo:Rat)-uW p us W i*((p.v i).up:Rat))<=IR p (AP p.vars.length fun i=>-Ax p (yL p us W) i):=Du fun i hi=>by
   rw[hc i hi];have h3:=hW i (by omega);have h4:=MM (p:=p) (us:=us) (W:=W) hWj i;have h5:(p.v i).op=true∨((p.v i).lo:Rat)<=((p.v i).up:Rat):=by
    cases ho:(p.v i).op with
    | true=>exact .inl rfl
    | false=>exact .inr (Tv (Mx he hi ho))
   unfold EL;rcases h5 with h5|h5
   ·rw[M5 h h5] at h4 ⊢;rw[if_neg (by grind)];grind
   split
   ·have:=Rat.mul_le_mul_of_nonneg_left h5 h3;grind
   have:=Rat.mul_le_mul_of_nonneg_left h5 h4;grind
  have h3:C3 p (yL p us W) = -sW p us W+AG p.vars.length (fun i=>uW p us W i*((p.v i).up:Rat)-W i*((p.v i).lo:Rat)):=by
   rw[R4 hv h];congr 1;exact AE fun i hi=>by rw[hg i hi]
  have h4:AG p.vars.length (fun i=>uW p us W i*((p.v i).up:Rat)-W i*((p.v i).lo:Rat)) = -AG p.vars.length (fun i=>W i*((p.v i).lo:Rat)-uW p us W i*((p.v i).up:Rat)):=by
   rw[<- JT];exact AE fun i _=>by grind
  rw[decide_eq_true (by rw[h3,h4];grind)];rfl
def Ji(p:AH) (z:Nat->Rat):List Rat:=AP p.vars.length fun i=>z i+((p.v i).lo:Rat)
theorem TT(z:Nat->Rat) {i:Nat} (hi:i<p.vars.length):Am (Ji p z) (i:Int)=z i+((p.v i).lo:Rat):=BH _ hi
theorem Ul(z:Nat->Rat) {ts:List B1} (h:∀k,k<ts.length->0<=(ts.getD k AW).var/\(ts.getD k AW).var<p.vars.length):Bs ts (Ji p z)=Bs ts (AP p.vars.length z)+KZ p ts:=by
 unfold Bs KZ;rw[<- DM];refine AE fun k hk=>?_;obtain⟨h2,h3⟩:=h k hk;generalize ts.getD k AW=t at *;obtain⟨m,hm⟩:∃m:Nat,t.var=m:=⟨t.var.toNat,by omega⟩;rw[hm] at h3 ⊢;rw[TT z (by omega),BH z (by omega)];show _=_+(t.coef:Rat)*((p.v m).lo:Rat);grind
theorem JJ(hv:AU p=true) (hl:BF p l) (h:¬l.row<0) (z:Nat->Rat):BM p l (AP p.vars.length z) false=(((p.r l.row.toNat).bound:Rat)-Bs (p.r l.row.toNat).terms (Ji p z))*(A6 l:Rat):=by
 have e:AV p l=(p.r l.row.toNat).terms:=if_neg h;have:=Ul (p:=p) z (hl.terms hv);rw[e] at this;unfold BM Cs;rw[if_neg h,e,this];simp only[Bool.false_eq_true,if_false];grind
theorem Ka(h:¬l.row<0) (z:List Rat):BM p l z true = -Bs (p.r l.row.toNat).terms z*(A6 l:Rat):=by
 have e:AV p l=(p.r l.row.toNat).terms:=if_neg h;unfold BM;rw[e];simp only[if_true];grind
theorem GP(h:l.row<0) (hn:l.var<p.vars.length) (z:Nat->Rat) (dir:Bool):BM p l (AP p.vars.length z) dir=(if dir then 0 else ((p.v l.var).up:Rat)-((p.v l.var).lo:Rat))-z l.var:=by
 have e:AV p l=[⟨l.var,1⟩]:=if_pos h;have e2:A6 l=1:=if_pos h;unfold BM Cs;rw[if_pos h,e,e2,Rat.intCast_sub];have:Bs [⟨l.var,1⟩] (AP p.vars.length z)=z l.var:=by
  show (0:Rat)+((1:Int):Rat)*Am _ (l.var:Int)=_;rw[BH z hn];show (0:Rat)+1*_=_;grind
 rw[this];show _*(1:Rat)=_;grind
theorem Tn(hv:AU p=true) (z:Nat->Rat) (h0:∀t,t<p.vars.length->0<=z t) (h:∀l,BF p l->0<=BM p l (AP p.vars.length z) false):D4 p (Ji p z)=true:=by
 unfold D4;rw[hv];have h1:DI p (Ji p z)=true:=A5.2 fun i hi=>by
  rw[TT z hi,decide_eq_true (show ((p.v i).lo:Rat)<=z i+((p.v i).lo:Rat) by have:=h0 i hi;grind)];cases ho:(p.v i).op with
  | true=>rfl
  | false =>
   have:=h ⟨-1,i,false⟩ (.inl ⟨rfl,hi,ho,rfl⟩);rw[GP (l:=⟨-1,i,false⟩) (by show (-1:Int)<0;decide) hi] at this;simp only[Bool.false_eq_true,if_false] at this;rw[decide_eq_true (show z i+((p.v i).lo:Rat)<=((p.v i).up:Rat) by grind)];rfl
 have h2:Kc p (Ji p z)=[]:=Fg.2 fun r hr=>by
  have hrow:=BR hv hr;have hc:Bg p (Ji p z)=Ji p z:=by
   unfold Bg;exact List.take_of_length_le (by unfold Ji;rw[A9];exact Nat.le_refl _)
  unfold CC;rw[hc];have hle:(p.r r).kind≠1->Bs (p.r r).terms (Ji p z)<=((p.r r).bound:Rat):=fun hk=>by
   have hl:BF p ⟨r,0,false⟩:=.inr ⟨by show (0:Int)<=(r:Int);omega,hr,rfl,fun _=>hk,fun e=>by cases e⟩;have:=h _ hl;rw[JJ hv hl (by show ¬(r:Int)<0;omega)] at this;have e:A6 ⟨r,0,false⟩=1:=(by unfold A6;rw[if_neg (by show ¬(r:Int)<0;omega),if_neg Bool.false_ne_true]);rw[e] at this;have this:0<=(((p.r r).bound:Rat)-Bs (p.r r).terms (Ji p z))*(1:Rat):=this;grind
  have hge:(p.r r).kind≠0->((p.r r).bound:Rat)<=Bs (p.r r).terms (Ji p z):=fun hk=>by
   have hl:BF p ⟨r,0,true⟩:=.inr ⟨by show (0:Int)<=(r:Int);omega,hr,rfl,fun e=>(by cases e),fun _=>hk⟩;have:=h _ hl;rw[JJ hv hl (by show ¬(r:Int)<0;omega)] at this;have e:A6 ⟨r,0,true⟩ = -1:=(by unfold A6;rw[if_neg (by show ¬(r:Int)<0;omega),if_pos rfl]);rw[e] at this;have this:0<=(((p.r r).bound:Rat)-Bs (p.r r).terms (Ji p z))*(-1:Rat):=this;grind
  unfold EM;rcases GF hrow with k|k|k
  ·rw[if_pos k];exact decide_eq_true (hle (by omega))
  ·rw[if_neg (by omega),if_pos k];exact decide_eq_true (hge (by omega))
  rw[if_neg (by omega),if_neg (by omega)];exact decide_eq_true (Rat.le_antisymm (hle (by omega)) (hge (by omega)))
 rw[h1,h2];rfl
theorem Sc(hv:AU p=true) (h:EY p us) (z:Nat->Rat) (hf:D4 p (Ji p z)=true) (hW:∀t,t<p.vars.length+us.length->0<=W t) (hg:∀t,t<p.vars.length->W t-((p.v t).co:Rat)=gW p us W t)
  (hz:∀t,t<p.vars.length->W t*z t=0) (hs:∀j,j<us.length->W (p.vars.length+j)*BM p (us.getD j BB) (AP p.vars.length z) false=0):JO p (Ji p z) (yL p us W)=true:=by
 have hWj:∀j,j<us.length->0<=W (p.vars.length+j):=fun j hj=>hW _ (by omega);obtain⟨_,hin,hrows⟩:=IA hf;have he:=L5 hin;unfold JO;rw[hf];have hc:∀i,i<p.vars.length->Am (AP p.vars.length fun i=>((p.v i).co:Rat)-Ax p (yL p us W) i) (i:Int)=W i-uW p us W i:=fun i hi=>by
  rw[BH _ hi,Pw h hi,<- hg i hi];grind
 have hu:∀i,i<p.vars.length->uW p us W i*(((p.v i).up:Rat)-(z i+((p.v i).lo:Rat)))=0:=fun i hi=>by
  unfold uW;rw[<- Dd];refine Af fun j hj=>?_;by_cases e:(us.getD j BB).row<0/\(us.getD j BB).var=i
  ·rw[if_pos e];have:=hs j hj;rw[GP e.1 (by rw[e.2];exact hi),e.2] at this;simp only[Bool.false_eq_true,if_false] at this;grind
  rw[if_neg e];grind
 have hy:∀r,r<p.rows.length->yW p us W r*(((p.r r).bound:Rat)-Bs (p.r r).terms (Ji p z))=0:=fun r hr=>by
  unfold yW;rw[<- Dd];refine Af fun j hj=>?_;by_cases e:(us.getD j BB).row=(r:Int)
  ·rw[if_pos e];have:=hs j hj;rw[JJ hv (h j hj) (by omega),e,show ((r:Nat):Int).toNat=r from rfl] at this;grind
  rw[if_neg e];grind
 have hlow:Pa p (AP p.vars.length fun i=>((p.v i).co:Rat)-Ax p (yL p us W) i)=true:=Pq fun i hi ho=>by
  rw[hc i hi,M5 h ho];have:=hW i (by omega);grind
 have hS:IR p (AP p.vars.length fun i=>((p.v i).co:Rat)-Ax p (yL p us W) i)=AG p.vars.length (fun i=>(((p.v i).co:Rat)-Ax p (yL p us W) i)*Am (Ji p z) (i:Int)):=AE fun i hi=>by
  have e0:=hc i hi;rw[BH _ hi] at e0 ⊢;rw[e0,TT z hi];have h1:=hz i hi;have h2:=hu i hi;have h3:=hW i (by omega);have h4:=MM (p:=p) (us:=us) (W:=W) hWj i;unfold EL;split
  ·rename_i hlt;have:uW p us W i≠0:=fun e=>by rw[e] at hlt;grind
   have h5:((p.v i).up:Rat)-(z i+((p.v i).lo:Rat))=0:=(Rat.mul_eq_zero.1 h2).resolve_left this;have:((p.v i).up:Rat)=z i+((p.v i).lo:Rat):=(by grind);rw[this];grind
  rename_i hge;rcases Rat.mul_eq_zero.1 h1 with e|e
  ·have:uW p us W i=0:=Rat.le_antisymm (by rw[e] at hge;grind) h4;rw[e,this];grind
  rw[e];grind
 have hB:C3 p (yL p us W)=AG p.vars.length (fun i=>Ax p (yL p us W) i*Am (Ji p z) (i:Int)):=by
  rw[NF hv];exact AE fun r hr=>by rw[Ps hr];have:=hy r hr;grind
 have hb:FF p (yL p us W)=some (Al p (Ji p z)):=by
  unfold FF;rw[hv,MS h hWj,MJ he hlow,hS,hB];show some _=some _;congr 1;show AG p.vars.length (fun i=>Ax p (yL p us W) i*Am (Ji p z) (i:Int))+AG p.vars.length (fun i=>(((p.v i).co:Rat)-Ax p (yL p us W) i)*Am (Ji p z) (i:Int))=Al p (Ji p z);rw[<- DM];exact AE fun i _=>by grind
 rw[hb];simp
theorem Uw(hv:AU p=true) (z:Nat->Rat) (h0:∀t,t<p.vars.length->0<=z t) (h:∀l,BF p l->0<=BM p l (AP p.vars.length z) true):VB p (AP p.vars.length z)=true/\UW p (AP p.vars.length z)=true:=by
 constructor
 ·refine A5.2 fun i hi=>?_;rw[BH z hi,decide_eq_false (Rat.not_lt.2 (h0 i hi))];cases ho:(p.v i).op with
  | true=>simp
  | false =>
   have:=h ⟨-1,i,false⟩ (.inl ⟨rfl,hi,ho,rfl⟩);rw[GP (l:=⟨-1,i,false⟩) (by show (-1:Int)<0;decide) hi] at this;simp only[if_true] at this;rw[decide_eq_false (show ¬0<z i from Rat.not_lt.2 (by grind))];rfl
 refine A5.2 fun r hr=>?_;have hrow:=BR hv hr;have hc:Bg p (AP p.vars.length z)=AP p.vars.length z:=by
  unfold Bg;exact List.take_of_length_le (by rw[A9];exact Nat.le_refl _)
 rw[hc];have hle:(p.r r).kind≠1->Bs (p.r r).terms (AP p.vars.length z)<=0:=fun hk=>by
  have hl:BF p ⟨r,0,false⟩:=.inr ⟨by show (0:Int)<=(r:Int);omega,hr,rfl,fun _=>hk,fun e=>by cases e⟩;have:=h _ hl;rw[Ka (by show ¬(r:Int)<0;omega)] at this;have e:A6 ⟨r,0,false⟩=1:=(by unfold A6;rw[if_neg (by show ¬(r:Int)<0;omega),if_neg Bool.false_ne_true]);rw[e] at this;have this:0≤-Bs (p.r r).terms (AP p.vars.length z)*(1:Rat):=this;grind
 have hge:(p.r r).kind≠0->0<=Bs (p.r r).terms (AP p.vars.length z):=fun hk=>by
  have hl:BF p ⟨r,0,true⟩:=.inr ⟨by show (0:Int)<=(r:Int);omega,hr,rfl,fun e=>(by cases e),fun _=>hk⟩;have:=h _ hl;rw[Ka (by show ¬(r:Int)<0;omega)] at this;have e:A6 ⟨r,0,true⟩ = -1:=(by unfold A6;rw[if_neg (by show ¬(r:Int)<0;omega),if_pos rfl]);rw[e] at this;have this:0≤-Bs (p.r r).terms (AP p.vars.length z)*(-1:Rat):=this;grind
 unfold EM;rcases GF hrow with k|k|k
 ·rw[if_pos k];exact decide_eq_true (hle (by omega))
 ·rw[if_neg (by omega),if_pos k];exact decide_eq_true (hge (by omega))
 rw[if_neg (by omega),if_neg (by omega)];exact decide_eq_true (Rat.le_antisymm (hle (by omega)) (hge (by omega)))
end
def Fw(w:World) (q:Option Rat) (r:Ending) (w':World):Prop:=XF w w'/\match q with
 | none=>∃v,r=.returned (.tuple #[v,.bool false])/\AN w' v 0
 | some q=>∃v,r=.returned (.tuple #[v,.bool true])/\AN w' v q
theorem Pj{p:AH} {w:World} {v:Value} (h:Ju w v p.vars) (c:List Rat) (i:Nat) (hi:i<p.vars.length):EX (EL (p.v i) (Am c i)):=by
 unfold EL;split
 ·exact (h.ok i hi).up
 exact (h.ok i hi).lo
structure BT(w:World) (b n:Nat) (f:Nat->Rat):Prop where
 row:∃arr,Au w b=some (.cells arr 34 (0,0))/\arr.size=n*3
 cells:∀i,i<n->∃neg a1 m1 c1 a2 m2 c2,w.cell? ⟨b,i*3,none⟩=some (.bool neg)/\w.cell? ⟨b,i*3+1,none⟩=some (.slice a1 m1 c1)/\w.cell? ⟨b,i*3+2,none⟩=some (.slice a2 m2 c2)/\AN w (.agg #[.bool neg,.slice a1 m1 c1,.slice a2 m2 c2]) (f i)
section
variable {w w':World} {b n:Nat} {f g:Nat->Rat}
theorem BT.lt(h:BT w b n f):b<w.heap.size:=by
 obtain⟨arr,h1,_⟩:=h.row;exact AT h1
theorem BT.free(h:BT w b n f) (i:Nat):w.frozen? ⟨b,i,none⟩=false:=by
 obtain⟨arr,h1,_⟩:=h.row;exact AC h1 i
theorem BT.keep(h:BT w b n f) (hx:XF w w'):BT w' b n f:=by
 obtain⟨arr,h1,h2⟩:=h.row;refine⟨⟨arr,AM h1 hx,h2⟩,fun i hi=>?_⟩;obtain⟨neg,a1,m1,c1,a2,m2,c2,e0,e1,e2,hq⟩:=h.cells i hi;exact⟨neg,a1,m1,c1,a2,m2,c2,AB e0 hx,AB e1 hx,AB e2 hx,hq.keep hx⟩
theorem BT.congr(h:BT w b n f) (hg:∀i,i<n->f i=g i):BT w b n g :=
 ⟨h.row,fun i hi=>by
  obtain⟨neg,a1,m1,c1,a2,m2,c2,e0,e1,e2,hq⟩:=h.cells i hi;exact⟨neg,a1,m1,c1,a2,m2,c2,e0,e1,e2,by rw[<- hg i hi];exact hq⟩⟩
theorem BT.noDig(h:BT w b n f):BN w b:=fun i d hc=>by
 obtain⟨arr,h1,h2⟩:=h.row;have hi:i<n*3:=by
  rw[AS h1] at hc;have:=(Array.getElem?_eq_some_iff.1 hc).1;omega
 obtain⟨neg,a1,m1,c1,a2,m2,c2,e0,e1,e2,_⟩:=h.cells (i/3) (by omega);have h3:i=i/3*3∨i=i/3*3+1∨i=i/3*3+2:=by omega
 rcases h3 with h3|h3|h3<;>rw[h3] at hc
 ·rw[e0] at hc;cases hc
 ·rw[e1] at hc;cases hc
 rw[e2] at hc;cases hc
theorem BT.put(h:BT w b n f) {j:Nat} (hj:j<n) {neg:Bool} {a1 a2:Option Addr} {m1 c1 m2 c2:Nat} {q:Rat} (hq:AN w (.agg #[.bool neg,.slice a1 m1 c1,.slice a2 m2 c2]) q) :
  BT (((w.setCell ⟨b,j*3,none⟩ (.bool neg)).setCell ⟨b,j*3+1,none⟩ (.slice a1 m1 c1)).setCell ⟨b,j*3+2,none⟩ (.slice a2 m2 c2)) b n (fun k=>if k=j then q else f k) /\
  AK (fun k=>k=b) w (((w.setCell ⟨b,j*3,none⟩ (.bool neg)).setCell ⟨b,j*3+1,none⟩ (.slice a1 m1 c1)).setCell ⟨b,j*3+2,none⟩ (.slice a2 m2 c2)) /\
  ∀v l,Ad w v l->Ad (((w.setCell ⟨b,j*3,none⟩ (.bool neg)).setCell ⟨b,j*3+1,none⟩ (.slice a1 m1 c1)).setCell ⟨b,j*3+2,none⟩ (.slice a2 m2 c2)) v l:=by
 have hx:AK (fun k=>k=b) w (((w.setCell ⟨b,j*3,none⟩ (.bool neg)).setCell ⟨b,j*3+1,none⟩ (.slice a1 m1 c1)).setCell ⟨b,j*3+2,none⟩ (.slice a2 m2 c2)):=(((AK.refl (fun k=>k=b) w).setCell (p:=⟨b,j*3,none⟩) _ (fun _=>rfl)).setCell (p:=⟨b,j*3+1,none⟩) _ (fun _=>rfl)).setCell (p:=⟨b,j*3+2,none⟩) _ (fun _=>rfl);have hr:∀v l,Ad w v l->Ad (((w.setCell ⟨b,j*3,none⟩ (.bool neg)).setCell ⟨b,j*3+1,none⟩ (.slice a1 m1 c1)).setCell ⟨b,j*3+2,none⟩ (.slice a2 m2 c2)) v l:=fun v l hv=>hv.past hx (fun k _ e=>by subst e;exact h.noDig);refine⟨⟨?_,fun i hi=>?_⟩,hx,hr⟩
 ·obtain⟨arr,h1,h2⟩:=h.row;have k1:=AI h1 (j*3) (.bool neg);have k2:=AI k1 (j*3+1) (.slice a1 m1 c1);have k3:=AI k2 (j*3+2) (.slice a2 m2 c2);exact⟨_,k3,by simpa using h2⟩
 obtain⟨n0,b1,l1,d1,b2,l2,d2,e0,e1,e2,hf⟩:=h.cells i hi;by_cases hij:i=j
 ·subst hij;rw[if_pos rfl];refine⟨neg,a1,m1,c1,a2,m2,c2,?_,?_,?_,?_⟩
  ·simp only[AJ?_setCell_if];rw[if_neg (by omega),if_neg (by omega),if_pos (by simp),e0];rfl
  ·simp only[AJ?_setCell_if];rw[if_neg (by omega),if_pos (by simp),if_neg (by omega),e1];rfl
  ·simp only[AJ?_setCell_if];rw[if_pos (by simp),if_neg (by omega),if_neg (by omega),e2];rfl
  obtain⟨mag,dv',g1,g2,g3⟩:=hq;exact⟨mag,dv',g1,hr _ _ g2,hr _ _ g3⟩
 rw[if_neg hij];refine⟨n0,b1,l1,d1,b2,l2,d2,?_,?_,?_,?_⟩
 ·simp only[AJ?_setCell_if];rw[if_neg (by omega),if_neg (by omega),if_neg (by omega),e0]
 ·simp only[AJ?_setCell_if];rw[if_neg (by omega),if_neg (by omega),if_neg (by omega),e1]
 ·simp only[AJ?_setCell_if];rw[if_neg (by omega),if_neg (by omega),if_neg (by omega),e2]
 obtain⟨mag,dv',g1,g2,g3⟩:=hf;exact⟨mag,dv',g1,hr _ _ g2,hr _ _ g3⟩
theorem BT.rats(h:BT w b n f) {L:Nat} (hs:∀i,i<n->Sz (f i) L) {c:Nat} (hc:n<=c) (hm:c<=maxLen):B2 w (.slice (some ⟨b,0,none⟩) n c) (AP n f) L:=by
 have hex:∃cs:List (List Value),cs.length=n/\∀i,i<n->∃neg a1 m1 c1 a2 m2 c2,cs[i]?=some [.bool neg,.slice a1 m1 c1,.slice a2 m2 c2]/\w.cell? ⟨b,i*3,none⟩=some (.bool neg)/\w.cell? ⟨b,i*3+1,none⟩=some (.slice a1 m1 c1)/\w.cell? ⟨b,i*3+2,none⟩=some (.slice a2 m2 c2)/\AN w (.agg #[.bool neg,.slice a1 m1 c1,.slice a2 m2 c2]) (f i):=by
  have hg:∀i:Fin n,∃r:List Value,∃neg a1 m1 c1 a2 m2 c2,r=[.bool neg,.slice a1 m1 c1,.slice a2 m2 c2]/\w.cell? ⟨b,i*3,none⟩=some (.bool neg)/\w.cell? ⟨b,i*3+1,none⟩=some (.slice a1 m1 c1)/\w.cell? ⟨b,i*3+2,none⟩=some (.slice a2 m2 c2)/\AN w (.agg #[.bool neg,.slice a1 m1 c1,.slice a2 m2 c2]) (f i):=fun i=>by
   obtain⟨neg,a1,m1,c1,a2,m2,c2,h1⟩:=h.cells i i.2;exact⟨_,neg,a1,m1,c1,a2,m2,c2,rfl,h1⟩
  refine⟨List.ofFn fun i:Fin n=>Classical.choose (hg i),by simp,fun i hi=>?_⟩;obtain⟨neg,a1,m1,c1,a2,m2,c2,h1,h2⟩:=Classical.choose_spec (hg ⟨i,hi⟩);exact⟨neg,a1,m1,c1,a2,m2,c2,by rw[List.getElem?_ofFn,dif_pos hi,h1],h2⟩
 obtain⟨cs,hl,hcs⟩:=hex;refine⟨cs,by rw[hl,A9],⟨some ⟨b,0,none⟩,c,by rw[hl],by omega,hm,(fun e=>by cases e),fun hp=>⟨b,0,rfl,h.lt,fun i r hi j u hu=>?_⟩⟩,fun i c' q hc' hq=>?_⟩
 ·have hin:i<n:=(by rw[<- hl];exact (List.getElem?_eq_some_iff.1 hi).1);obtain⟨neg,a1,m1,c1,a2,m2,c2,h1,e0,e1,e2,_⟩:=hcs i hin;rw[h1] at hi;cases hi;rw[Nat.zero_add];match j,hu with
  | 0,hu=>cases hu;exact e0
  | 1,hu=>cases hu;exact e1
  | 2,hu=>cases hu;exact e2
  | j+3,hu=>simp at hu
 have hin:i<n:=(by rw[<- hl];exact (List.getElem?_eq_some_iff.1 hc').1);obtain⟨neg,a1,m1,c1,a2,m2,c2,h1,e0,e1,e2,h3⟩:=hcs i hin;rw[h1] at hc';cases hc';have:f i=q:=by
  simp[AP,hin] at hq;exact hq
 rw[<- this];exact h3.reads (hs i hin)
end
theorem Tryz.infoRat:(prog.info? 34).map (fun i=>(i.zero,i.size,i.bytes))=some (some (.agg #[.bool false,.slice none 0 0,.slice none 0 0]),3,56):=by kernel_rfl
theorem Fv(z:Array Value) (n i:Nat) (h:i<n):(madeCells z n)[i]?=some z[i%z.size]!:=by
 unfold madeCells;rw[Array.getElem?_map,Array.getElem?_range,if_pos h];rfl
theorem A7(w:World) (n:Nat) (hn:n<=1000000):∃w',(Instr.makeSlice 35 (.int .i64 n) (.int .i64 n)).run prog w=.ok (.slice (some ⟨w.heap.size,0,none⟩) n n) w'/\BT w' w.heap.size n (fun _=>0)/\XF w w':=by
 obtain⟨i0,hi,hz0,hz1,hz2⟩:=info_parts Tryz.infoRat
 have h:=run_make (P:=prog) w 35 34 i0 _ underlying35 hi hz0 .i64 .i64 n n (by omega) (Int.le_refl _) (by rw[hz2];omega) (by omega);rw[Int.toNat_natCast,hz1,show (Value.agg #[.bool false,.slice none 0 0,.slice none 0 0]).cells=#[.bool false,.slice none 0 0,.slice none 0 0] from rfl] at h;refine⟨_,h,⟨⟨_,AD _ _,by rw[size_madeCells]⟩,fun i hi=>?_⟩,(AK.refl _ w).alloc _⟩;have hc:=fun k=>AS (AD w (.cells (madeCells #[.bool false,.slice none 0 0,.slice none 0 0] (n*3)) 34)) k;refine⟨false,none,0,0,none,0,0,?_,?_,?_,AN.zero _⟩
 ·rw[hc,Fv _ _ _ (by omega),show i*3%(#[Value.bool false,.slice none 0 0,.slice none 0 0]:Array Value).size=0 from (by show i*3%3=0;omega)];rfl
 ·rw[hc,Fv _ _ _ (by omega),show (i*3+1)%(#[Value.bool false,.slice none 0 0,.slice none 0 0]:Array Value).size=1 from (by show (i*3+1)%3=1;omega)];rfl
 rw[hc,Fv _ _ _ (by omega),show (i*3+2)%(#[Value.bool false,.slice none 0 0,.slice none 0 0]:Array Value).size=2 from (by show (i*3+2)%3=2;omega)];rfl
def Gu(w:World) (n:Nat) (f:Nat->Rat) (r:Ending) (w':World):Prop:=∃b,r=.returned (.slice (some ⟨b,0,none⟩) n n)/\w.heap.size<=b/\BT w' b n f/\XF w w'
def EB(l:AZ):Value:=.agg #[.int .i64 l.row,.int .i64 l.var,.bool l.tur]
def T4(l l':AZ):Bool:=(l.row == l'.row)&&((l.var:Int) == (l'.var:Int))&&(l.tur == l'.tur)
theorem P3{l l':AZ}:T4 l l'=true↔l=l':=by
 obtain⟨a,b,c⟩:=l;obtain⟨a',b',c'⟩:=l';unfold T4;simp;constructor
 ·rintro⟨⟨rfl,h⟩,rfl⟩;exact⟨rfl,by omega,rfl⟩
 rintro⟨rfl,rfl,rfl⟩;exact⟨⟨rfl,rfl⟩,rfl⟩
def FT(us:List AZ) (l:AZ):Bool:=us.any (T4 l)
theorem LT{us:List AZ} {l:AZ}:FT us l=true↔l∈us:=by
 unfold FT;rw[List.any_eq_true];constructor
 ·rintro⟨x,h1,h2⟩;rw[P3] at h2;rw[h2];exact h1
 exact fun h=>⟨l,h,P3.2 rfl⟩
theorem Qp(w:World) (l l':AZ):(Op.equal 124 (EB l) (EB l')).run prog w=.ok (T4 l l') w:=by
 unfold Op.equal EB T4;rw[show Op.maxDepth=9999+1 from rfl,run_equalIn_agg w 9999 124 _ _ (by kernel_rfl) (by kernel_rfl)];simp only[Program.fieldsOf,underlying124];have h1:∀(d:Nat) (a b:Int),(Op.equalIn (d+1) 3 (.int .i64 a) (.int .i64 b)).run prog w=.ok (a == b) w:=fun d a b=>run_equalIn_int w d 3 .i64 .i64 a b underlying3;have h2:∀(d:Nat) (a b:Bool),(Op.equalIn (d+1) 4 (.bool a) (.bool b)).run prog w=.ok (a == b) w:=fun d a b=>run_equalIn_bool' w d 4 a b underlying4;simp[Op.eqFields,go_sem,h1,h2];by_cases e1:l.row=l'.row
 ·by_cases e2:(l.var:Int)=(l'.var:Int)
  ·by_cases e3:l.tur=l'.tur
   ·simp[e1,e2,e3]
   simp[e1,e2,e3]
  simp[e1,e2]
 simp[e1]
theorem JE(w:World) (e:Bool) (l:AZ):(Instr.checkKey e 10000 124 (EB l)).run prog w=.ok () w:=by
 unfold EB;rw[show 10000=9998+1+1 from rfl];have h3:∀(a:Int),(Instr.checkKey e (9998+1) 3 (.int .i64 a)).run prog w=.ok () w:=fun a=>MapKept.run_checkKey underlying3 (show IsKey (.int .i64) (.int .i64 a) from rfl) e 9998;have h4:∀(a:Bool),(Instr.checkKey e (9998+1) 4 (.bool a)).run prog w=.ok () w:=fun a=>MapKept.run_checkKey underlying4 (show IsKey .bool (.bool a) from trivial) e 9998;unfold Instr.checkKey;simp only[Sem.run_bind,run_underlying underlying124,Result.andThen_ok];simp[go_sem,h3,h4,Result.andThen]
def F3(es:Array MapEntry) (us:List AZ):Prop:=es.toList.map (fun e=>(e.key,e.val))=us.map fun l=>(EB l,Value.bool true)
theorem Kw(w:World) (l:AZ):∀(es:List MapEntry) (us:List AZ) (i:Nat),es.map (fun e=>(e.key,e.val))=us.map (fun l=>(EB l,Value.bool true)) ->
  (FT us l=false/\(Instr.findAsking 124 (EB l) es i).run prog w=.ok none w)∨(FT us l=true/\∃j,(Instr.findAsking 124 (EB l) es i).run prog w=.ok (some (j,.bool true)) w)
 | [],[],i,_=>.inl ⟨rfl,rfl⟩
 | [],_::_,_,h=>by simp at h
 | _::_,[],_,h=>by simp at h
 | e::es,u::us,i,h=>by
  simp only[List.map_cons,List.cons.injEq,Prod.mk.injEq] at h
  obtain⟨⟨hk,hv⟩,hr⟩:=h
  have hm:FT (u::us) l=(T4 l u||FT us l):=rfl
  have hrun:(Instr.findAsking 124 (EB l) (e::es) i).run prog w=if T4 l u then .ok (some (i,.bool true)) w else (Instr.findAsking 124 (EB l) es (i+1)).run prog w:=by
   simp only[Instr.findAsking,Sem.run_bind,hk,Qp,Result.andThen_ok,hv];cases T4 l u<;>simp
  rw[hm,hrun]
  cases he:T4 l u with
  | true=>exact .inr ⟨rfl,i,by simp⟩
  | false =>
   simp only[Bool.false_or,Bool.false_eq_true,if_false]
   exact Kw w l es us (i+1) hr
theorem OO(w:World) (l:AZ) {es:Array MapEntry} {us:List AZ} (h:F3 es us) :
  (FT us l=false/\(Instr.findKey 124 (EB l) es.toList).run prog w=.ok none w)∨(FT us l=true/\∃j,(Instr.findKey 124 (EB l) es.toList).run prog w=.ok (some (j,.bool true)) w):=by
 unfold F3 at h;have h1:=Kw w l es.toList us 0 h;have h2:(Instr.findKey 124 (EB l) es.toList).run prog w=(Instr.findAsking 124 (EB l) es.toList 0).run prog w:=by
  simp only[Instr.findKey,Sem.run_bind,run_underlying underlying124,Result.andThen_ok];cases hes:es.toList with
  | nil=>rfl
  | cons e r =>
   cases us with
   | nil=>rw[hes] at h;simp at h
   | cons u us =>
    rw[hes] at h;simp only[List.map_cons,List.cons.injEq,Prod.mk.injEq] at h;simp[Instr.findNow,h.1.1,EB,Instr.sameNow]
 rw[h2];exact h1
theorem JP{α:Type} (l:List α) (a:α) (f:α->α):(l++[a]).modify l.length f=l++[f a]:=by
 induction l with
 | nil=>rfl
 | cons x r ih=>rw[List.cons_append,List.length_cons,List.modify_succ_cons,ih];rfl
section
variable {w:World} {b:Nat} {es:Array MapEntry} {clock:Nat} {us:List AZ}
theorem Kn(hb:Au w b=some (.map es clock)) (hl:F3 es us) (l:AZ):(Instr.lookup 119 (.map (some b)) (EB l) false).run prog w=.ok (.bool (FT us l)) w:=by
 have hz:(zeroValue 4).run prog w=.ok (.bool false) w:=by
  simp[go_sem]
 rcases OO w l hl with⟨h1,h2⟩|⟨h1,j,h2⟩
 ·simp[Instr.lookup,run_underlying underlying119,MapKept.run_getObj_map hb,JE,h2,Result.andThen,hz,h1]
 simp[Instr.lookup,run_underlying underlying119,MapKept.run_getObj_map hb,JE,h2,Result.andThen,h1]
theorem La(hl:F3 es us) (Aa:Stamped es clock) (l:AZ) (habs:FT us l=false) :
  ∃O,(∀w:World,Au w b=some (.map es clock)->(Instr.mapEntry 119 (.map (some b)) (EB l)).run prog w=.ok (.tuple #[.bool false,.int .i64 clock]) (setBlock w b O)) /\
   ∃es' clock',(∀w:World,Au w b=some O->(Instr.entryStore 119 (.map (some b)) (.int .i64 clock) (.bool true)).run prog w=.ok () (setBlock w b (.map es' clock')))/\F3 es' (us++[l])/\Stamped es' clock':=by
 have hl':=hl;unfold F3 at hl';have hnew:∀x∈es.toList,x.key≠EB l:=fun x hx he=>by
  have:(x.key,x.val)∈es.toList.map (fun e=>(e.key,e.val)):=List.mem_map.2 ⟨x,hx,rfl⟩;rw[hl'] at this;obtain⟨p,hp,hpe⟩:=List.mem_map.1 this;have h5:EB p=x.key:=congrArg Prod.fst hpe;rw[he] at h5;have h6:p=l:=by
   obtain⟨a,c,d⟩:=p;obtain⟨a',c',d'⟩:=l;unfold EB at h5;simp at h5;obtain⟨rfl,h7,rfl⟩:=h5;rw[show c=c' from by omega]
  rw[h6] at hp;rw[LT.2 hp] at habs;cases habs
 have hz:∀u:World,(zeroValue 4).run prog u=.ok (.bool false) u:=fun u=>by simp[go_sem]
 have hf:∀u:World,(Instr.findKey 124 (EB l) es.toList).run prog u=.ok none u:=fun u=>by
  rcases OO u l hl with⟨_,h2⟩|⟨h1,_⟩
  ·exact h2
  rw[habs] at h1;cases h1
 refine⟨.map (es.push { key:=EB l,val:=.bool false,born:=clock }) (clock+1),fun w hb=>?_,es.push { key:=EB l,val:=.bool true,born:=clock },clock+1,fun w hb=>?_,?_,?_⟩
 ·simp[Instr.mapEntry,run_underlying underlying119,MapKept.run_getObj_map hb,JE,hf,hz,Result.andThen,MapKept.run_setObj_map _ hb,setBlock,goInt]
 ·have hidx:(es.push (⟨EB l,.bool false,clock⟩:MapEntry)).findIdx? (fun e=>((e.born:Nat):Int) == ((clock:Nat):Int))=some es.size:=by
   rw[Array.findIdx?_push];have hn:es.findIdx? (fun e=>((e.born:Nat):Int) == ((clock:Nat):Int))=none:=by
    rw[Array.findIdx?_eq_none_iff];intro x hx;have:=Aa.1 x (by simpa using hx);simp;omega
   rw[hn];simp
  have hmod:(es.push (⟨EB l,.bool false,clock⟩:MapEntry)).modify es.size (fun e=>{ e with val:=.bool true })=es.push ⟨EB l,.bool true,clock⟩:=by
   apply Array.ext';rw[Array.toList_modify,Array.toList_push,Array.toList_push,<- Array.length_toList,JP]
  simp[Instr.entryStore,MapKept.run_getObj_map hb,asInt,asIntOf,hidx,hmod,MapKept.run_setObj_map _ hb,Result.andThen,setBlock]
 ·unfold F3;simp[hl']
 exact stamped_push Aa hnew
end
section
variable {b0 b1 b2 b3 b4 b5 b6 b7 b8 o0 o1 o2 o3 o4 o5 o6 o7 o8:Nat} {x0 x1 x2 x3 x4 x5 x6 x7 x8:Value} {W:World}
end
theorem Dm{g:Nat->Rat} {M:Nat}:∀{n:Nat},(∀i,i<n->Sz (g i) M)->Sz (AG n g) (1+n*(M+1))
 | 0,_=>Sz.zero.mono (by omega)
 | n+1,h=>by
  have e:1+n*(M+1)+M+1=1+(n+1)*(M+1):=(by rw[Nat.succ_mul];omega);exact ((Dm (n:=n) (fun i hi=>h i (by omega))).add (h n (by omega))).mono (Nat.le_of_eq e)
def EP(r:DD) (q:Rat) (j k:Nat):Rat:=if (r.t k).var=(j:Int) then ((r.t k).coef:Rat)*q else 0
def G6(p:AH) (y:List Rat) (j i:Nat):Rat:=AG (p.r i).terms.length (EP (p.r i) (Am y i) j)
theorem OB(p:AH) (y:List Rat) (j:Nat):Ax p y j=AG p.rows.length (G6 p y j):=rfl
theorem NY{r:DD} {q:Rat} {L:Nat} (hq:Sz q L) {k:Nat} (hk:Fp (r.t k)) (j:Nat):Sz (EP r q j k) (L+2):=by
 unfold EP;split
 ·exact ((Sz.int hk.coef).mul hq).mono (by omega)
 exact Sz.zero.mono (by omega)
theorem BT.past{w w':World} {b n:Nat} {f:Nat->Rat} {S:Nat->Prop} (h:BT w b n f) (hx:AK S w w') (hb:¬S b) (hr:∀v l,Ad w v l->Ad w' v l):BT w' b n f:=by
 obtain⟨arr,h1,h2⟩:=h.row;refine⟨⟨arr,(hx.blk (AT h1) hb).trans h1,h2⟩,fun i hi=>?_⟩;obtain⟨neg,a1,m1,c1,a2,m2,c2,e0,e1,e2,mag,dv',g1,g2,g3⟩:=h.cells i hi;exact⟨neg,a1,m1,c1,a2,m2,c2,(hx.cell (p:=⟨b,i*3,none⟩) h.lt hb).trans e0,(hx.cell (p:=⟨b,i*3+1,none⟩) h.lt hb).trans e1,(hx.cell (p:=⟨b,i*3+2,none⟩) h.lt hb).trans e2,mag,dv',g1,hr _ _ g2,hr _ _ g3⟩
def Sa(w:World) (n:Nat) (f:Nat->Rat) (q:Rat) (r:Ending) (w':World):Prop:=∃B v,r=.returned (.tuple #[.slice (some ⟨B,0,none⟩) n n,v])/\w.heap.size<=B/\BT w' B n f/\AN w' v q/\XF w w'
def nv(k:Nat):Value:=.int .i64 (k:Int)
theorem U2(k:Nat):∀u∈[Value.int .i64 (k:Int)],u.oneCell'=true:=fun u hu=>by
 rw[List.mem_singleton.1 hu];rfl
def Hj(w:World) (base:Nat) (v:Value) (l:List Nat):Prop:=w.ownsRow base 3 1 v l.length (l.map nv)
theorem Si{w:World} {base j k:Nat} {v:Value} {o:List Nat} (hlen:o.length=j) (h:w.ownsRow base 3 1 v (j+1) (o.map nv++[.int .i64 (k:Int)])):Hj w base v (o++[k]):=by
 unfold Hj;rw[List.length_append,hlen,List.map_append];exact h
theorem Hj.keep{w w':World} {base:Nat} {v:Value} {l:List Nat} (h:Hj w base v l) (hx:XF w w'):Hj w' base v l:=C9 h hx (fun _ _ h=>h)
theorem Hj.shape{w:World} {base:Nat} {v:Value} {l:List Nat} (h:Hj w base v l):∃ao cap,v=.slice ao l.length cap:=Ag h
def Sw(w:World) (l:List Nat) (r:Ending) (w':World):Prop:=∃v,r=.returned v/\Hj w' w.heap.size v l/\XF w w'
theorem Tryz.infoInt:(prog.info? 3).map (fun i=>(i.zero,i.size,i.bytes))=some (some (.int .i64 0),1,8):=by kernel_rfl
theorem B2.take{w:World} {ao:Option Addr} {n c:Nat} {l:List Rat} {L:Nat} (h:B2 w (.slice ao n c) l L) (k:Nat) (hk:k<=n):B2 w (.slice ao k c) (l.take k) L:=by
 obtain⟨cs,h0,⟨ao',c',e,h1,h2,h3,h4⟩,h5⟩:=h;cases e;refine⟨cs.take k,by simp[h0],⟨ao,c,by rw[List.length_take,Nat.min_eq_left hk],by rw[List.length_take];omega,h2,h3,fun hp=>?_⟩,fun i c' q hc hq=>?_⟩
 ·rw[List.length_take] at hp;obtain⟨b,off,e,hb,hc⟩:=h4 (by omega);refine⟨b,off,e,hb,fun i r hi j u hu=>hc i r ?_ j u hu⟩;rw[List.getElem?_take] at hi;split at hi
  ·exact hi
  cases hi
 rw[List.getElem?_take] at hc hq;split at hc
 ·rename_i hik;rw[if_pos hik] at hq;exact h5 i c' q hc hq
 cases hc
theorem U6{ts:List B1} {x:List Rat} {L T:Nat} (ht:∀k,k<ts.length->Fp (ts.getD k AW)) (hx:∀i:Int,Sz (Am x i) L) (hT:ts.length<=T):Sz (Bs ts x) (1+T*(L+3)) :=
 (Dm (M:=L+2) (fun k hk=>((Sz.int (ht k hk).coef).mul (hx _)).mono (by omega))).mono (by
  have:=Nat.mul_le_mul_right (L+3) hT;show 1+ts.length*(L+3)<=_;omega)
theorem LX.term_ok{p:AH} {w:World} {v:Value} (h:LX w v p.rows) {i:Nat} (hi:i<p.rows.length):∀k,k<(p.r i).terms.length->Fp ((p.r i).t k):=fun k hk=>by
 obtain⟨ao,c,rfl,_⟩:=h.shape;obtain⟨_,_,_,_,_,_,_,_,_,_,_,_,ht⟩:=h.atp i hi;exact ht.ok k hk
theorem Q8{k:Int} {d b:Rat}:EM k d b=if k=0 then !decide (0<(d-b).num.sign) else if k=1 then !decide ((d-b).num.sign<0) else decide ((d-b).num.sign=0):=by
 have h1:=BV (d-b);have h2:=Ea (d-b);have h3:=By (d-b);unfold EM;split
 ·rw[<- decide_not];exact decide_eq_decide.2 ⟨fun h h'=>by have:=h2.1 h';grind,fun h=>Rat.not_lt.1 (fun h'=>h (h2.2 (by grind)))⟩
 split
 ·rw[<- decide_not];exact decide_eq_decide.2 ⟨fun h h'=>by have:=h1.1 h';grind,fun h=>Rat.not_lt.1 (fun h'=>h (h1.2 (by grind)))⟩
 exact decide_eq_decide.2 ⟨fun h=>h3.2 (by grind),fun h=>by have:=h3.1 h;grind⟩
end Go.Proofs.YtglepbhkilbbcaaGreat
namespace Go.Proofs
open Go.Shelf
def Tryz.laysGw17_ren:Go.Shelf.Ren:=⟨fun|17=>147|15=>213|20=>260|n=>n,fun|9=>9|23=>173|4=>4|3=>3|0=>0|21=>21|n=>n,fun|n=>n⟩
theorem Tryz.laysGw17:Go.Proofs.LaysGw.n17 prog Tryz.laysGw17_ren:={
 mixed:=by kernel_rfl
 f15:=func213.trans (congrArg some (by kernel_rfl))
 f17:=func147.trans (congrArg some (by kernel_rfl))
 f20:=func260.trans (congrArg some (by kernel_rfl))
 t0:=underlying0
 a0:=isAgg0
 z0:=sizeOf0
 v0:=zeroValue0
 i0:=by kernel_rfl
 t3:=underlying3
 a3:=isAgg3
 z3:=sizeOf3
 v3:=zeroValue3
 i3:=by kernel_rfl
 t4:=underlying4
 a4:=isAgg4
 z4:=sizeOf4
 v4:=zeroValue4
 i4:=by kernel_rfl
 t9:=underlying9
 a9:=isAgg9
 z9:=sizeOf9
 v9:=zeroValue9
 i9:=by kernel_rfl
 t21:=underlying21
 a21:=isAgg21
 z21:=sizeOf21
 v21:=zeroValue21
 i21:=by kernel_rfl
 t23:=underlying173
 a23:=isAgg173
 z23:=sizeOf173
 v23:=zeroValue173
 i23:=by kernel_rfl }
open Go.RowKit Go.Lib in
theorem Tryz.strings_ContainsFunc(g:Nat) (lb:Array Value) (eg:∀args w,(callFunc g args).run prog w=.ok (.enter g args) w) (p:Nat->Bool) (s:ByteArray) (w:World) (hp:PredAt prog g lb encR p w) :
  Calls prog 147 #[.string s,.func (.func g) #[] lb] w fun e w'=>e=.returned (.bool (decide (0<=Lib.idxFunc p true s)))/\Below w.heap.size w w':=Any.strings_ContainsFunc Tryz.laysGw17 g lb eg p s w hp
def Tryz.laysSlH8_f144_ren:Go.Shelf.Ren:=⟨fun|8=>144|6=>212|n=>n,fun|22=>105|23=>2|25=>78|4=>4|3=>3|0=>0|n=>n,fun|n=>n⟩
theorem Tryz.laysSlH8_f144:Go.Proofs.SlLaysH.n8 prog Tryz.laysSlH8_f144_ren:={
 mixed:=by kernel_rfl
 f6:=⟨Tryz.f212.name,by decide,func212.trans (congrArg some (by kernel_rfl))⟩
 f8:=⟨Tryz.f144.name,by decide,func144.trans (congrArg some (by kernel_rfl))⟩
 t0:=underlying0
 a0:=isAgg0
 z0:=sizeOf0
 v0:=zeroValue0
 t3:=underlying3
 a3:=isAgg3
 z3:=sizeOf3
 v3:=zeroValue3
 t4:=underlying4
 a4:=isAgg4
 z4:=sizeOf4
 v4:=zeroValue4
 t22:=underlying105
 a22:=isAgg105
 z22:=sizeOf105
 v22:=zeroValue105
 a23:=isAgg2
 z23:=sizeOf2
 t25:=underlying78
 a25:=isAgg78
 z25:=sizeOf78
 v25:=zeroValue78 }
open Go.RowKit Go.Lib in
theorem Tryz.slices_ContainsFunc{α:Type} [Inhabited α] (enc:α->Value) (p:α->Bool) (g:Nat) (lb:Array Value) (eg:∀args w,(callFunc g args).run prog w=.ok (.enter g args) w) (b off n c:Nat) (zs:List α) (w:World) (hp:PredAt prog g lb enc p w) (hz:n<=zs.length) (hbig:n<=9223372036854775807) (hc:∀j,j<zs.length->w.cell? ⟨b,off+j,none⟩=some (enc zs[j]!)) :
  Calls prog 144 #[.slice (some ⟨b,off,none⟩) n c,.func (.func g) #[] lb] w fun e w'=>e=.returned (.bool ((zs.take n).any p))/\∃q,w'=w.drewN q:=AnyE.slices_ContainsFunc Tryz.laysSlH8_f144 enc p g lb eg b off n c zs w hp hz hbig hc
def Tryz.laysRow8_ren:Go.Shelf.Ren:=⟨fun|8=>82|6=>146|n=>n,fun|22=>23|23=>51|25=>117|4=>4|3=>3|0=>0|n=>n,fun|n=>n⟩
theorem Tryz.laysRow8:Go.Proofs.SlLaysH0.n8 prog Tryz.laysRow8_ren:={
 mixed:=by kernel_rfl
 f6:=⟨Tryz.f146.name,by decide,func146.trans (congrArg some (by kernel_rfl))⟩
 f8:=⟨Tryz.f82.name,by decide,func82.trans (congrArg some (by kernel_rfl))⟩
 t0:=underlying0
 a0:=isAgg0
 z0:=sizeOf0
 v0:=zeroValue0
 t3:=underlying3
 a3:=isAgg3
 z3:=sizeOf3
 v3:=zeroValue3
 t4:=underlying4
 a4:=isAgg4
 z4:=sizeOf4
 v4:=zeroValue4
 t22:=underlying23
 a22:=isAgg23
 z22:=sizeOf23
 v22:=zeroValue23
 t25:=underlying117
 a25:=isAgg117
 z25:=sizeOf117
 v25:=zeroValue117 }
def Tryz.laysVar8_ren:Go.Shelf.Ren:=⟨fun|8=>42|6=>85|n=>n,fun|22=>22|23=>77|25=>80|4=>4|3=>3|0=>0|n=>n,fun|n=>n⟩
theorem Tryz.laysVar8:Go.Proofs.SlLaysH0.n8 prog Tryz.laysVar8_ren:={
 mixed:=by kernel_rfl
 f6:=⟨Tryz.f85.name,by decide,func85.trans (congrArg some (by kernel_rfl))⟩
 f8:=⟨Tryz.f42.name,by decide,func42.trans (congrArg some (by kernel_rfl))⟩
 t0:=underlying0
 a0:=isAgg0
 z0:=sizeOf0
 v0:=zeroValue0
 t3:=underlying3
 a3:=isAgg3
 z3:=sizeOf3
 v3:=zeroValue3
 t4:=underlying4
 a4:=isAgg4
 z4:=sizeOf4
 v4:=zeroValue4
 t22:=underlying22
 a22:=isAgg22
 z22:=sizeOf22
 v22:=zeroValue22
 t25:=underlying80
 a25:=isAgg80
 z25:=sizeOf80
 v25:=zeroValue80 }
def Tryz.laysRat8_ren:Go.Shelf.Ren:=⟨fun|8=>149|6=>214|n=>n,fun|22=>35|23=>34|25=>111|4=>4|3=>3|0=>0|n=>n,fun|n=>n⟩
theorem Tryz.laysRat8:Go.Proofs.SlLaysH0.n8 prog Tryz.laysRat8_ren:={
 mixed:=by kernel_rfl
 f6:=⟨Tryz.f214.name,by decide,func214.trans (congrArg some (by kernel_rfl))⟩
 f8:=⟨Tryz.f149.name,by decide,func149.trans (congrArg some (by kernel_rfl))⟩
 t0:=underlying0
 a0:=isAgg0
 z0:=sizeOf0
 v0:=zeroValue0
 t3:=underlying3
 a3:=isAgg3
 z3:=sizeOf3
 v3:=zeroValue3
 t4:=underlying4
 a4:=isAgg4
 z4:=sizeOf4
 v4:=zeroValue4
 t22:=underlying35
 a22:=isAgg35
 z22:=sizeOf35
 v22:=zeroValue35
 t25:=underlying111
 a25:=isAgg111
 z25:=sizeOf111
 v25:=zeroValue111 }
end Go.Proofs
namespace Go.Proofs.YtglepbhkilbbcaaGreat
open Go.RowKit Go.MapKept
open Go.ChangeMaps (setBlock)
open Go.RowKit Go.MapKept Go.Lib
theorem Below.ext{w w':World} (h:Below w.heap.size w w'):XF w w':=⟨h.os,h.tape,h.output,h.size,fun k hk _=>h.block k hk⟩
theorem Lc(w:World):PredAt prog 145 #[] (fun z:Int=>Value.int .i64 z) (fun z=>!CT z) w:=fun W z _=>by
 unfold FnGives CT;by_cases h1:z < -1099511627776
 ·go_enter func145,ntmps145;go_wp2;go_ret;exact⟨AL (by first|rfl|(simp;done)|(simp;omega)|omega),0,rfl⟩
 by_cases h2:1099511627776<z
 ·go_enter func145,ntmps145;go_wp2;go_ret;exact⟨AL (by first|rfl|(simp;done)|(simp;omega)|omega),0,rfl⟩
 go_enter func145,ntmps145;go_wp2;go_ret;exact⟨AL (by first|rfl|(simp;done)|(simp;omega)|omega),0,rfl⟩
theorem GI{α:Type} (f:α->Bool):∀l:List α,(!l.any fun z=>!f z)=l.all f
 | []=>rfl
 | a::l=>by
  rw[List.any_cons,List.all_cons,<- GI f l];cases f a<;>cases (l.any fun z=>!f z)<;>rfl
theorem Je(w:World) (b off c:Nat) (l:List Int) (hl:l.length<=9223372036854775807) (hc:∀j z,l[j]?=some z->w.cell? ⟨b,off+j,none⟩=some (.int .i64 z)) :
  Calls prog 81 #[.slice (some ⟨b,off,none⟩) l.length c] w (Ak w (l.all CT)):=by
 have hq:=Tryz.slices_ContainsFunc (fun z:Int=>Value.int .i64 z) (fun z=>!CT z) 145 #[] (enters_of func145 (by kernel_rfl) rfl) b off l.length c l w (Lc w) (Nat.le_refl _) hl (fun j hj=>(by
  rw[getElem!_pos l j hj];exact hc j _ (List.getElem?_eq_getElem hj)))
 rw[List.take_length] at hq;have ha:=GI CT l;generalize (l.any fun z=>!CT z)=x at *;have HQ:=bH hq;have HA:=bH ha;clear hq ha hc;generalize l.all CT=y at *;generalize l.length=n at *;go_enter func81,ntmps81;go_wp2_with (go_at_call 144;refine HQ.o.mono ?_;rintro e w' ⟨rfl,q,rfl⟩);go_ret;exact⟨AL HA.o,(AK.refl _ w).drewN q⟩
theorem PL(w:World):PredAt prog 148 #[] encR (fun r=>decide (r<32)||decide (126<r)) w:=fun W z _=>by
 unfold FnGives;show Calls prog 148 #[.int .i32 (z:Int)] W _;by_cases h1:z<32
 ·have h1':(z:Int)<32:=(by omega);go_enter func148,ntmps148;go_wp2;go_ret;exact⟨AL (by first|rfl|(simp;done)|(simp;omega)|omega),0,rfl⟩
 have h1':¬(z:Int)<32:=(by omega);by_cases h2:126<z
 ·have h2':(126:Int)<z:=(by omega);go_enter func148,ntmps148;go_wp2;go_ret;exact⟨AL (by first|rfl|(simp;done)|(simp;omega)|omega),0,rfl⟩
 have h2':¬(126:Int)<z:=(by omega);go_enter func148,ntmps148;go_wp2;go_ret;exact⟨AL (by first|rfl|(simp;done)|(simp;omega)|omega),0,rfl⟩
def Lb(r:Nat):Bool:=decide (r<32)||decide (126<r)
theorem QC(s:ByteArray):∀(f pos:Nat),s.size<=pos+f->(0<=idxFuncFrom Lb true s f pos↔∃i,pos<=i/\∃h:i<s.size,Lb (s[i]'h).toNat=true)
 | 0,pos,h=>by
  unfold idxFuncFrom;constructor
  ·intro h1;omega
  rintro⟨i,h1,h2,_⟩;omega
 | f+1,pos,h=>by
  unfold idxFuncFrom;by_cases hp:pos<s.size
  ·rw[if_pos hp];by_cases ha:(s[pos]'hp).toNat<128
   ·rw[decode_ascii s pos hp ha];by_cases hb:Lb (s[pos]'hp).toNat=true
    ·rw[if_pos hb];exact⟨fun _=>⟨pos,Nat.le_refl _,hp,hb⟩,fun _=>by omega⟩
    rw[if_neg hb,QC s f (pos+1) (by omega)];constructor
    ·rintro⟨i,h1,h2⟩;exact⟨i,by omega,h2⟩
    rintro⟨i,h1,h2,h3⟩;refine⟨i,?_,h2,h3⟩;rcases Nat.lt_or_ge pos i with h4|h4
    ·omega
    obtain rfl:i=pos:=(by omega);exact absurd h3 hb
   have hd:=(decode_high s pos hp (by omega)).1;have hb:Lb (Utf8.decode s pos).1=true:=(by unfold Lb;rw[decide_eq_true (p:=(126<_)) (by omega)];simp);rw[if_pos hb];refine⟨fun _=>⟨pos,Nat.le_refl _,hp,?_⟩,fun _=>by omega⟩;unfold Lb;rw[decide_eq_true (p:=(126<(s[pos]'hp).toNat)) (by omega)];simp
  rw[if_neg hp];constructor
  ·intro h1;omega
  rintro⟨i,h1,h2,_⟩;omega
theorem TD(s:ByteArray):(!decide (0<=idxFunc Lb true s))=E8 s:=by
 have h:=QC s s.size 0 (by omega);have hl:s.toList=s.data.toList:=ByteArray.toList_eq s;cases hq:E8 s with
 | true =>
  rw[decide_eq_false];rfl;intro h0;obtain⟨i,_,hi,hb⟩:=h.1 h0;unfold E8 at hq;rw[hl,List.all_eq_true] at hq;have:=hq (s[i]'hi) (by
   show s.data[i]∈s.data.toList;simp)
  unfold Lb at hb;simp only[Bool.and_eq_true,Bool.or_eq_true,decide_eq_true_eq] at this hb;omega
 | false =>
  rw[decide_eq_true];rfl;refine h.2 ?_;unfold E8 at hq;rw[hl,List.all_eq_false] at hq;obtain⟨x,hx,hb⟩:=hq;obtain⟨i,hi,rfl⟩:=List.getElem_of_mem hx;have hi':i<s.size:=(by rw[Array.length_toList] at hi;exact hi);refine⟨i,Nat.zero_le _,hi',?_⟩;unfold Lb;simp only[Bool.and_eq_true,decide_eq_true_eq,Bool.or_eq_true] at hb ⊢;have e:s[i]'hi'=s.data.toList[i]:=by
   show s.data[i]=_;rw[Array.getElem_toList]
  rw[e];omega
open Go.RowKit Go.MapKept Go.Lib
theorem No(w:World) (z:Int) (c:Nat):Calls prog 81 #[.slice (some ⟨w.heap.size,0,none⟩) 1 c] (w.alloc (.cells #[.int .i64 z] 2)) (Ak (w.alloc (.cells #[.int .i64 z] 2)) (CT z)):=by
 have h:=Je (w.alloc (.cells #[.int .i64 z] 2)) w.heap.size 0 c [z] (by simp) (fun j u hj=>by
  have:=Be (w:=w) [Value.int .i64 z] 2 rfl j (.int .i64 u) (by
   match j,hj with
   | 0,hj=>cases hj;rfl
   | j+1,hj=>simp at hj)
  simpa[Addr.add_lit] using this)
 simpa using h
theorem Sj(w:World) (s:ByteArray):Calls prog 147 #[.string s,.func (.func 148) #[] #[]] w fun r w'=>r=.returned (.bool (!E8 s))/\XF w w':=by
 refine (Tryz.strings_ContainsFunc 148 #[] (enters_of func148 (by kernel_rfl) rfl) _ s w (PL w)).mono ?_;rintro r w' ⟨rfl,hb⟩;refine⟨AL ?_,Below.ext hb⟩;have:=TD s;unfold Lb at this;rw[<- this,Bool.not_not]
theorem Jm(n last:Int) (t:B1) (l:List B1):Bq n last (t::l)=(decide (last<t.var)&&decide (t.var<n) && !decide (t.coef=0)&&CT t.coef&&Bq n t.var l):=rfl
theorem ND(w:World) (vars:Nat) (hv:vars<=9223372036854775807) (r:DD) (ta:Option Addr) (tc:Nat) (hok:E9 r) (ht:G8 w (.slice ta r.terms.length tc) r.terms) :
  Calls prog 84 #[.int .i64 vars,.agg #[.string r.name,.int .i64 r.group,.int .i64 r.kind,.slice ta r.terms.length tc,.int .i64 r.bound]] w (Ak w (Cx vars r)):=by
 have hns:r.name.size<=9223372036854775807:=by have:=hok.name;unfold maxLen at this;omega
 have hg:=hok.group;have hk:=hok.kind;unfold EX at hg hk;obtain⟨-,-,-,-,htn,-⟩:=ht.shape;have HT:=bH ht;have HR:=bH (show Cx vars r=(decide (0<=r.kind)&&decide (r.kind<=2)&&decide (0<=r.group)&&decide (r.group<=60)&&decide (r.name.size<=80)&&CT r.bound&&E8 r.name&&Bq vars (-1) r.terms) from rfl);have hb1:=AD w (.cells #[.string r.name,.int .i64 r.group,.int .i64 r.kind,.slice ta r.terms.length tc,.int .i64 r.bound] 51);have hx1:=(AK.refl (fun _=>False) w).alloc (.cells #[.string r.name,.int .i64 r.group,.int .i64 r.kind,.slice ta r.terms.length tc,.int .i64 r.bound] 51);have HB:=bH (bI hb1 hx1);clear ht hok hb1 hx1;obtain⟨tl,htl⟩:=bN r.terms.length;have HTL:=bH htl;rw[htl] at htn HT HB ⊢;clear htl;obtain⟨gr,hgr⟩:=bN r.group;rw[hgr] at hg HR HB ⊢;clear hgr;obtain⟨kd,hkd⟩:=bN r.kind;rw[hkd] at hk HR HB ⊢;clear hkd;obtain⟨bd,hbd⟩:=bN r.bound;rw[hbd] at HR HB ⊢;clear hbd;obtain⟨nm,hnm⟩:=bN r.name;rw[hnm] at hns HR HB ⊢;clear hnm;go_enter func84,ntmps84;go_upto_region 1 with fail;generalize hw1:w.alloc (.cells #[.string nm,.int .i64 gr,.int .i64 kd,.slice ta tl tc,.int .i64 bd] 51)=w1 at *;clear hw1;obtain⟨rb,hrb⟩:=bN w.heap.size;rw[hrb] at HB ⊢;clear hrb;have e0:=AA HB.o.1 0 rfl;have e1:=AA HB.o.1 1 rfl;have e2:=AA HB.o.1 2 rfl;have e3:=AA HB.o.1 3 rfl;have e4:=AA HB.o.1 4 rfl;by_cases c1:80<nm.size
 ·have c1':(80:Int)<(nm.size:Int):=(by omega);go_wp2;go_ret;exact⟨AL (by rw[HR.o,decide_eq_false (p:=(nm.size<=80)) (by omega)];simp),HB.o.2⟩
 have c1':¬(80:Int)<(nm.size:Int):=by omega
 by_cases c2:gr<0
 ·go_wp2;go_ret;exact⟨AL (by rw[HR.o,decide_eq_false (p:=(0<=gr)) (by omega)];simp),HB.o.2⟩
 by_cases c3:60<gr
 ·go_wp2;go_ret;exact⟨AL (by rw[HR.o,decide_eq_false (p:=(gr<=60)) (by omega)];simp),HB.o.2⟩
 by_cases c4:kd<0
 ·go_wp2;go_ret;exact⟨AL (by rw[HR.o,decide_eq_false (p:=(0<=kd)) (by omega)];simp),HB.o.2⟩
 by_cases c5:2<kd
 ·go_wp2;go_ret;exact⟨AL (by rw[HR.o,decide_eq_false (p:=(kd<=2)) (by omega)];simp),HB.o.2⟩
 have HL:=bH (fun W (z:Int) c=>No W z c);have HN:=bH (fun W=>Sj W nm);have HR2:Hid (Cx vars r=(CT bd&&E8 nm&&Bq vars (-1) r.terms)):=bH (by
  rw[HR.o,decide_eq_true (p:=(0<=kd)) (by omega),decide_eq_true (p:=(kd<=2)) (by omega),decide_eq_true (p:=(0<=gr)) (by omega),decide_eq_true (p:=(gr<=60)) (by omega),decide_eq_true (p:=(nm.size<=80)) (by omega)];simp)
 clear HR;go_wp2_with fail;refine (HL.o w1 bd _).mono ?_;rintro r2 w2 ⟨rfl,hx2⟩;have hx12:=((AK.refl (fun _=>False) w1).alloc (.cells #[.int .i64 bd] 2)).trans hx2;have HB2:=bH (bI (AM HB.o.1 hx12) (HB.o.2.trans hx12));clear hx2 hx12 HB e0 e1 e2 e3 e4;cases hlb:CT bd with
 | false =>
  rw[hlb] at HR2;clear hlb;go_wp2;go_ret;exact⟨AL (by rw[HR2.o];rfl),HB2.o.2⟩
 | true =>
  rw[hlb] at HR2;clear hlb;have e3:=AA HB2.o.1 3 rfl;go_wp2_with fail;go_loopg [42,5] tl (fun gg v42 v5 wr=>∃(k:Nat) (la:Int),k<=tl/\gg=tl-k/\v42=.int .i64 k/\v5=.int .i64 la∧-9223372036854775808<=la/\la<=9223372036854775807/\Bq vars (-1) r.terms=Bq vars la (r.terms.drop k)/\XF w2 wr);case atStart=>exact⟨0,-1,Nat.zero_le _,rfl,rfl,rfl,by omega,by omega,rfl,AK.refl _ _⟩
  case round =>
   clear e3;obtain⟨k,la,hk,rfl,rfl,rfl,hla0,hla1,heq,hx⟩:=hrel;have HX:=bH (bI heq hx);clear heq hx;by_cases hin:k<tl
   ·have i0:(k:Int)<(tl:Int):=(by omega);have hkl:k<r.terms.length:=(by rw[HTL.o];exact hin);have hdr:r.terms.drop k=r.t k::r.terms.drop (k+1):=by
     rw[List.drop_eq_getElem_cons hkl,r.t_at hkl]
    have HD:=bH (HX.o.1.trans (by rw[hdr,Jm]));obtain⟨b,off,rfl,-,e0,e1,htok⟩:=(HT.o.keep (HB2.o.2.trans HX.o.2)).atr k hkl;have hva:=htok.var;have hco:=htok.coef;unfold EX at hva hco;clear hdr hkl htok;obtain⟨tv,htv⟩:=bN ((r.t k).var);obtain⟨co,hco'⟩:=bN ((r.t k).coef);rw[htv] at e0 HD hva;rw[hco'] at e1 HD hco;clear htv hco';have hb3:=AD wr (.cells #[.int .i64 tv,.int .i64 co] 95);have hx3:=(AK.refl (fun _=>False) wr).alloc (.cells #[.int .i64 tv,.int .i64 co] 95);have HB3:=bH (bI hb3 hx3);clear hb3 hx3;go_upto_region 7 with fail;generalize hw3:wr.alloc (.cells #[.int .i64 tv,.int .i64 co] 95)=w3 at *;clear hw3;obtain⟨tb,htb⟩:=bN wr.heap.size;rw[htb] at HB3 ⊢;clear htb e0 e1;obtain⟨x0,x1⟩:w3.cell? ⟨tb,0,none⟩=some (.int .i64 tv)/\w3.cell? ⟨tb,1,none⟩=some (.int .i64 co):=⟨AA HB3.o.1 0 rfl,AA HB3.o.1 1 rfl⟩;have HE:=bH ((HB2.o.2.trans HX.o.2).trans HB3.o.2);by_cases t1:tv<=la
    ·go_wp2;go_ret;exact⟨AL (by rw[HR2.o,HD.o,decide_eq_false (p:=(la<tv)) (by omega)];simp),HE.o⟩
    by_cases t2:(vars:Int)<=tv
    ·go_wp2;go_ret;exact⟨AL (by rw[HR2.o,HD.o,decide_eq_false (p:=(tv<(vars:Int))) (by omega)];simp),HE.o⟩
    by_cases t3:co=0
    ·have t3':(co == 0)=true:=(by simpa using t3);subst t3;go_wp2;go_ret;exact⟨AL (by rw[HR2.o,HD.o];simp),HE.o⟩
    have t3':(co == 0)=false:=(by simpa using t3);have HD2:Hid (Bq vars (-1) r.terms=(CT co&&Bq vars tv (r.terms.drop (k+1)))):=bH (by
     rw[HD.o,decide_eq_true (p:=(la<tv)) (by omega),decide_eq_true (p:=(tv<(vars:Int))) (by omega),decide_eq_false t3];simp)
    clear HD;go_wp2_with fail;refine (HL.o w3 co _).mono ?_;rintro r4 w4 ⟨rfl,hx4⟩;have hx34:=((AK.refl (fun _=>False) w3).alloc (.cells #[.int .i64 co] 2)).trans hx4;have HX4:=bH ((HX.o.2.trans HB3.o.2).trans hx34);have y0:=AB x0 hx34;clear hx4 hx34 x0 x1 HE;cases hlc:CT co with
    | false =>
     rw[hlc] at HD2;clear hlc;go_wp2;go_ret;exact⟨AL (by rw[HR2.o,HD2.o];simp),HB2.o.2.trans HX4.o⟩
    | true =>
     rw[hlc] at HD2;clear hlc;go_wp2;go_roundg (tl-(k+1));case measure=>omega
     case rel=>exact⟨k+1,tv,by omega,rfl,by go_num,rfl,by omega,by omega,by rw[HD2.o];simp,HX4.o⟩
   obtain rfl:k=tl:=(by omega);have HF:Hid (Bq vars (-1) r.terms=true):=bH (by
    rw[HX.o.1,List.drop_of_length_le (by rw[HTL.o];exact Nat.le_refl _)];rfl)
   have e0:=AB (AA HB2.o.1 0 rfl) HX.o.2;go_wp2_with fail;refine (HN.o wr).mono ?_;rintro r4 w4 ⟨rfl,hx4⟩;have HX4:=bH ((HB2.o.2.trans HX.o.2).trans hx4);clear hx4 e0;go_wp2;go_ret;exact⟨AL (by rw[HR2.o,HF.o];simp),HX4.o⟩
open Go.RowKit Go.MapKept Go.Lib
theorem PY(w:World) (ao:Option Addr) (c:Nat) (fv:Value):Calls prog 82 #[.slice ao 0 c,fv] w fun r w'=>r=.returned (.bool false)/\w'=w:=by
 have h:∀W,Calls prog 146 #[.slice ao 0 c,fv] W fun r w'=>r=.returned (.int .i64 (-1))/\w'=W:=fun W=>by
  go_enter func146,ntmps146;go_wp2_with fail;go_loopg [8] 0 (fun gg s8 wr=>s8=.int .i64 0/\wr=W);case atStart=>exact⟨rfl,rfl⟩
  case round =>
   obtain⟨rfl,rfl⟩:=hrel;go_wp2;go_ret;exact⟨rfl,rfl⟩
 have H:=bH h;clear h;go_enter func82,ntmps82;go_wp2_with (go_at_call 146;refine (H.o _).mono ?_;rintro e w' ⟨rfl,rfl⟩);go_ret;exact⟨rfl,rfl⟩
def VQ(p:AH) (tvs:List Value) (j:Nat):List Value:=cR (p.r j) (tvs.getD j (.slice none 0 0))
theorem Om(w:World) (pb:Nat) (vv rv:Value) (p:AH) (hp:Au w pb=some (.cells #[vv,rv] 25 (0,0))) (hv:Ju w vv p.vars) (r:DD) (tv:Value) (ht:G8 w tv r.terms) (hok:E9 r) :
  Calls prog 83 #[.agg (cR r tv).toArray,.pointer (some ⟨pb,0,none⟩)] w (Ak w (!Cx p.vars.length r)):=by
 obtain⟨vo,vc,rfl,-,hn,-⟩:=hv.shape;obtain⟨ta,tc,rfl,-,-,-⟩:=ht.shape;have HR:=bH (fun W (hW:XF w W)=>ND W p.vars.length hn r ta tc hok (ht.keep hW));have hx:=(AK.refl (fun _=>False) w).alloc (.cells #[.string r.name,.int .i64 r.group,.int .i64 r.kind,.slice ta r.terms.length tc,.int .i64 r.bound] 51);have z0:=AB (AA hp 0 rfl) hx;have HX:=bH hx;clear hv ht hok hp hx;generalize p.vars.length=n at *;generalize r.terms.length=tl at *;generalize Cx n r=b at *;show Calls prog 83 #[.agg #[.string r.name,.int .i64 r.group,.int .i64 r.kind,.slice ta tl tc,.int .i64 r.bound],.pointer (some ⟨pb,0,none⟩)] w _;go_enter func83,ntmps83;go_wp2_with (go_at_call 84;refine (HR.o _ HX.o).mono ?_;rintro e w' ⟨rfl,hx'⟩);go_ret;exact⟨rfl,HX.o.trans hx'⟩
theorem RD{α:Type} (f:α->Bool) (l:List α) (d:α):(!(List.range l.length).any fun j=>!f (l.getD j d))=l.all f:=by
 rw[GI];have h:(List.range l.length).map (fun j=>l.getD j d)=l:=by
  refine List.ext_getElem (by simp) (fun i h1 h2=>?_);simp[List.getElem?_eq_getElem h2]
 conv=>rhs;rw[<- h]
 rw[List.all_map];rfl
theorem R5(w:World) (pb:Nat) (vv rv:Value) (p:AH) (hp:Au w pb=some (.cells #[vv,rv] 25 (0,0))) (hv:Ju w vv p.vars) (hr:LX w rv p.rows) :
  Calls prog 82 #[rv,.func (.func 83) #[] #[.pointer (some ⟨pb,0,none⟩)]] w fun r w'=>r=.returned (.bool (!p.rows.all (Cx p.vars.length)))/\XF w w':=by
 obtain⟨ro,rc,rfl,-,hn,-⟩:=hr.shape;by_cases h0:p.rows.length=0
 ·rw[h0];refine (PY w ro rc _).mono ?_;rintro r w' ⟨rfl,rfl⟩;refine⟨AL ?_,AK.refl _ _⟩;rw[List.eq_nil_of_length_eq_zero h0];rfl
 obtain⟨tvs,hl,⟨ao,c,e,h1,h2,h3,h4⟩,h5⟩:=hr;rw[List.length_zipWith,hl,Nat.min_self] at e h1 h4;cases e;obtain⟨b,off,rfl,hlt,hc⟩:=h4 (by omega);have hall:∀j,G8 w (tvs.getD j (.slice none 0 0)) (p.r j).terms/\E9 (p.r j):=fun j=>by
  by_cases hj:j<p.rows.length
  ·have hj':j<tvs.length:=(by omega);have:=h5 j _ _ (List.getElem?_eq_getElem hj) (List.getElem?_eq_getElem hj');rw[p.r_at hj] at this;rw[BZ hj'];exact this
  have e1:p.r j=GC:=by
   unfold AH.r;rw[List.getD_eq_getElem?_getD,List.getElem?_eq_none (by omega)];rfl
  rw[List.getD_eq_getElem?_getD,List.getElem?_eq_none (by omega),e1];refine⟨⟨Sl.nil w 2,fun t ht=>(by cases ht)⟩,⟨?_,?_,?_,?_⟩⟩
  ·show (0:Nat)<=maxLen;exact Nat.zero_le _
  all_goals (constructor<;>(show (_:Int)<=_)<;>decide)
 have hq:=AnyQ.slices_ContainsFunc Tryz.laysRow8 5 isAgg51 sizeOf51 (VQ p tvs) (fun _=>rfl) (fun j=>!Cx p.vars.length (p.r j)) 83 #[.pointer (some ⟨pb,0,none⟩)] (enters_of func83 (by kernel_rfl) rfl) b off p.rows.length rc (List.range p.rows.length) w
  (fun W j hW=>by
   have hx:=Below.ext hW;refine (Om W pb vv _ p (AM hp hx) (hv.keep hx) (p.r j) _ ((hall j).1.keep hx) (hall j).2).mono ?_;rintro e w' ⟨rfl,hx'⟩;exact⟨rfl,(hx.trans hx').below⟩)
  (by simp) hn hlt (fun j hj i v hi=>by
   rw[List.length_range] at hj;rw[getElem!_pos _ j (by simpa using hj),List.getElem_range] at hi;refine hc j _ ?_ i v hi;have hj':j<tvs.length:=(by omega);rw[List.getElem?_zipWith,List.getElem?_eq_getElem hj,List.getElem?_eq_getElem hj',p.r_at hj];show some (cR (p.r j) tvs[j])=some (cR (p.r j) (tvs.getD j _));rw[BZ hj'])
 refine hq.mono ?_;rintro r w' ⟨rfl,hb⟩;refine⟨AL ?_,Below.ext hb⟩;have ht:List.take p.rows.length (List.range p.rows.length)=List.range p.rows.length:=by
  rw[List.take_of_length_le (by simp)]
 rw[ht,<- RD (Cx p.vars.length) p.rows GC,Bool.not_not];rfl
theorem UD(v:Ey):Gk v=([v.lo,v.up,v.co].all CT && !(v.op && !decide (v.up=0))):=by
 unfold Gk;simp[Bool.and_assoc]
theorem Fm{α:Type} {f:α->Bool} {l:List α} {d:α} {i:Nat} (hi:i<l.length) (h:(l.take i).all f=true) (hf:f (l.getD i d)=true):(l.take (i+1)).all f=true:=by
 rw[List.take_succ_eq_append_getElem hi,List.all_append,h,Bool.true_and,List.all_cons,List.all_nil,Bool.and_true,<- BZ hi d];exact hf
theorem DH{α:Type} {f:α->Bool} {l:List α} {d:α} {i:Nat} (hi:i<l.length) (hf:f (l.getD i d)=false):l.all f=false:=by
 rw[List.all_eq_false];exact⟨_,List.getElem_mem hi,by rw[<- BZ hi d,hf];simp⟩
theorem Q4(w:World) (pv:Value) (p:AH) (hp:Ba w pv p):Calls prog 41 #[pv] w (Ak w (AU p)):=by
 obtain⟨vv,rv,rfl,hv,hr⟩:=hp;obtain⟨vo,vc,rfl,-,hn,-⟩:=hv.shape;obtain⟨ro,rc,rfl,-,hrn,-⟩:=hr.shape;have HV:=bH (bI hv hr);have HR:=bH (show AU p=(decide (p.vars.length<=400)&&decide (p.rows.length<=4000)&&p.vars.all Gk&&p.rows.all (Cx p.vars.length)) from rfl);have hb:=AD w (.cells #[.slice vo p.vars.length vc,.slice ro p.rows.length rc] 25);have hx:=(AK.refl (fun _=>False) w).alloc (.cells #[.slice vo p.vars.length vc,.slice ro p.rows.length rc] 25);have HB:=bH (bI hb hx);have HW:=bH (fun W (hW:XF w W) pb hpb=>R5 W pb _ _ p hpb (hv.keep hW) (hr.keep hW));clear hv hr hb hx;obtain⟨n,hn'⟩:=bN p.vars.length;have HN:=bH hn';rw[hn'] at hn HV HR HB HW ⊢;clear hn';obtain⟨m,hm'⟩:=bN p.rows.length;rw[hm'] at hrn HV HR HB HW ⊢;clear hm';generalize p.rows.all (Cx n)=rb at *;go_enter func41,ntmps41;go_upto_region 1 with fail;generalize hw1:w.alloc (.cells #[.slice vo n vc,.slice ro m rc] 25)=w1 at *;clear hw1;obtain⟨pb,hpb⟩:=bN w.heap.size;rw[hpb] at HB ⊢;clear hpb;have z0:=AA HB.o.1 0 rfl;have z1:=AA HB.o.1 1 rfl;by_cases c1:400<n
 ·have c1':(400:Int)<(n:Int):=(by omega);go_wp2;go_ret;exact⟨AL (by rw[HR.o,decide_eq_false (p:=(n<=400)) (by omega)];simp),HB.o.2⟩
 have c1':¬(400:Int)<(n:Int):=by omega
 by_cases c2:4000<m
 ·have c2':(4000:Int)<(m:Int):=(by omega);go_wp2;go_ret;exact⟨AL (by rw[HR.o,decide_eq_false (p:=(m<=4000)) (by omega)];simp),HB.o.2⟩
 have c2':¬(4000:Int)<(m:Int):=by omega
 have HR2:Hid (AU p=(p.vars.all Gk&&rb)):=bH (by rw[HR.o,decide_eq_true (p:=(n<=400)) (by omega),decide_eq_true (p:=(m<=4000)) (by omega)];simp);clear HR;go_wp2_with fail;go_loopg [18] n (fun gg v18 wr=>∃i:Nat,i<=n/\gg=n-i/\v18=.int .i64 i/\(p.vars.take i).all Gk=true/\XF w1 wr);case atStart=>exact⟨0,Nat.zero_le _,rfl,rfl,rfl,AK.refl _ _⟩
 case round =>
  clear z0 z1;obtain⟨i,hi,rfl,rfl,hall,hx⟩:=hrel;have HX:=bH (bI hall hx);clear hall hx;by_cases hin:i<n
  ·have i0:(i:Int)<(n:Int):=(by omega);have HI:Hid (i<p.vars.length):=bH (by rw[HN.o];exact hin);obtain⟨b,off,rfl,-,e0,e1,e2,e3,e4,-⟩:=(HV.o.1.keep (HB.o.2.trans HX.o.2)).atp i HI.o;have hb1:=IK.new wr (p.v i);have hx1:=(AK.refl (fun _=>False) wr).alloc (.cells #[.int .i64 (p.v i).lo,.int .i64 (p.v i).up,.bool (p.v i).op,.bool (p.v i).ig,.int .i64 (p.v i).co] 77);have HB1:=bH (bI hb1 hx1);have HVB:=bH (UD (p.v i));clear hb1 hx1;go_upto_region 6 with fail;generalize hw2:wr.alloc (.cells #[.int .i64 (p.v i).lo,.int .i64 (p.v i).up,.bool (p.v i).op,.bool (p.v i).ig,.int .i64 (p.v i).co] 77)=w2 at *;clear hw2 e0 e1 e2 e3 e4;obtain⟨vb,hvb⟩:=bN wr.heap.size;rw[hvb] at HB1 ⊢;clear hvb;obtain⟨f0,f1,f2,-,f4⟩:=HB1.o.1.facts;have HL:=bH (Je (w2.alloc (.cells #[.int .i64 (p.v i).lo,.int .i64 (p.v i).up,.int .i64 (p.v i).co] 2)) w2.heap.size 0 3 [(p.v i).lo,(p.v i).up,(p.v i).co] (by simp) (fun j u hj=>(by
    have:=Be (w:=w2) [Value.int .i64 (p.v i).lo,.int .i64 (p.v i).up,.int .i64 (p.v i).co] 2 rfl j (.int .i64 u) (by
     match j,hj with
     | 0,hj=>cases hj;rfl
     | 1,hj=>cases hj;rfl
     | 2,hj=>cases hj;rfl
     | j+3,hj=>simp at hj)
    simpa[Addr.add_lit] using this)))
   simp only[List.length_cons,List.length_nil,Nat.zero_add] at HL;obtain⟨lb,hlb⟩:=bN ([(p.v i).lo,(p.v i).up,(p.v i).co].all CT);rw[hlb] at HL HVB;clear hlb;generalize (p.v i).lo=lo at *;generalize (p.v i).up=up at *;generalize (p.v i).op=o at *;generalize (p.v i).ig=ig at *;generalize (p.v i).co=co at *;go_wp2_with fail;refine HL.o.mono ?_;rintro r3 w3 ⟨rfl,hx3⟩;have hx23:=((AK.refl (fun _=>False) w2).alloc (.cells #[.int .i64 lo,.int .i64 up,.int .i64 co] 2)).trans hx3;have HX3:=bH ((HX.o.2.trans HB1.o.2).trans hx23);have g1:=AB f1 hx23;have g2:=AB f2 hx23;clear f0 f1 f2 f4 hx3 hx23 HL HB1;cases lb with
   | false =>
    go_wp2;go_ret;exact⟨AL (by rw[HR2.o,DH (d:=Fs) HI.o (HVB.o.trans rfl)];rfl),HB.o.2.trans HX3.o⟩
   | true =>
    cases o with
    | false =>
     go_wp2;go_roundg (n-(i+1));case measure=>omega
     case rel=>exact⟨i+1,by omega,rfl,by go_num,Fm (d:=Fs) HI.o HX.o.1 (HVB.o.trans rfl),HX3.o⟩
    | true =>
     by_cases hu:up=0
     ·have hu':(up == 0)=true:=(by simpa using hu);have HVB':=bH (HVB.o.trans (show _=true by rw[decide_eq_true hu];rfl));clear HVB;subst hu;go_wp2;go_roundg (n-(i+1));case measure=>omega
      case rel=>exact⟨i+1,by omega,rfl,by go_num,Fm (d:=Fs) HI.o HX.o.1 HVB'.o,HX3.o⟩
     have hu':(up == 0)=false:=(by simpa using hu);have hu2:(up != 0)=true:=(by simpa using hu);have HVB':=bH (HVB.o.trans (show _=false by rw[decide_eq_false hu];rfl));clear HVB;go_wp2;go_ret;exact⟨AL (by rw[HR2.o,DH (d:=Fs) HI.o HVB'.o];rfl),HB.o.2.trans HX3.o⟩
  obtain rfl:i=n:=(by omega);have HF:Hid (p.vars.all Gk=true):=bH (by
   have:=HX.o.1;rw[List.take_of_length_le (by rw[HN.o];exact Nat.le_refl _)] at this;exact this)
  have z1:=AB (AA HB.o.1 1 rfl) HX.o.2;have HW2:=bH (HW.o wr (HB.o.2.trans HX.o.2) pb (AM HB.o.1 HX.o.2));go_wp2_with fail;refine HW2.o.mono ?_;rintro r3 w3 ⟨rfl,hx3⟩;have HX3:=bH ((HB.o.2.trans HX.o.2).trans hx3);clear hx3 z1 HW2;go_wp2;go_ret;exact⟨AL (by rw[HR2.o,HF.o];simp),HX3.o⟩
structure O9(n m T L:Nat):Prop where
 one:1<=L
 sum:(n+1)*(m*(T*(L+3)+2)+7)+T*(L+3)+m*(L+3)+n*(L+3)+L<=1000000
def Cu(m T L:Nat):Nat:=1+m*(T*(L+3)+2)
theorem O9.all{n m T L:Nat} (h:O9 n m T L):1+m*(T*(L+3)+2)+(1+T*(L+3))+(L+3)<=4000000/\1+m*(L+3)+(L+3)<=4000000/\n<=1000000/\Cu m T L+3<=1000000 /\
  1+n*(Cu m T L+3+3)+(Cu m T L+3+3)<=2000000/\1+T*(L+3)+(L+3)<=4000000/\1+n*(L+3)+(L+3)<=4000000/\L<=1000000/\1+m*(L+3)<=1000000:=by
 have h1:=h.sum;unfold Cu;generalize m*(T*(L+3)+2)=X at *;generalize T*(L+3)=Y at *;have e:n*(1+X+3+3)=n*(X+7):=by rw[show 1+X+3+3=X+7 from by omega]
 rw[Nat.succ_mul] at h1;rw[e];have h2:n<=n*(X+7):=Nat.le_mul_of_pos_right n (by omega);generalize n*(X+7)=Z at *;generalize m*(L+3)=U at *;generalize n*(L+3)=V at *;omega
theorem LG{p:AH} {y:List Rat} {w:World} {v:Value} {L T:Nat} (hr:LX w v p.rows) (hy:∀i:Int,Sz (Am y i) L) (hT:∀i,i<p.rows.length->(p.r i).terms.length<=T) (j:Nat):Sz (Ax p y j) (Cu p.rows.length T L):=by
 rw[OB];refine (Dm (M:=1+T*(L+3)) (fun i hi=>?_)).mono (by
  unfold Cu;rw[show 1+T*(L+3)+1=T*(L+3)+2 from by omega];exact Nat.le_refl _)
 refine (Dm (M:=L+2) (fun k hk=>NY (hy i) (hr.term_ok hi k hk) j)).mono ?_;have:=Nat.mul_le_mul_right (L+3) (hT i hi);show 1+(p.r i).terms.length*(L+3)<=_;omega
theorem KB{p:AH} {y:List Rat} {w:World} {v:Value} {L:Nat} (hr:LX w v p.rows) (hy:∀i:Int,Sz (Am y i) L):Sz (C3 p y) (1+p.rows.length*(L+3)) :=
 Dm (M:=L+2) (fun i hi=>((Sz.int (hr.ok i hi).bound).mul (hy i)).mono (by omega))
theorem JU{p:AH} {c:List Rat} {w:World} {v:Value} {L:Nat} (hv:Ju w v p.vars) (hc:∀i:Int,Sz (Am c i) L):Sz (IR p c) (1+p.vars.length*(L+3)) :=
 Dm (M:=L+2) (fun i hi=>((Sz.int (Pj hv c i hi)).mul (hc i)).mono (by omega))
theorem Fw.open{w w':World} {q:Option Rat} {r:Ending} (h:Fw w q r w'):∃neg a1 m1 c1 a2 m2 c2,r=.returned (.tuple #[.agg #[.bool neg,.slice a1 m1 c1,.slice a2 m2 c2],.bool q.isSome])/\AN w' (.agg #[.bool neg,.slice a1 m1 c1,.slice a2 m2 c2]) (q.getD 0)/\XF w w':=by
 obtain⟨hx,h⟩:=h;cases q with
 | none =>
  obtain⟨v,rfl,hv⟩:=h;obtain⟨neg,a1,m1,c1,a2,m2,c2,rfl⟩:=hv.shape;exact⟨neg,a1,m1,c1,a2,m2,c2,rfl,hv,hx⟩
 | some q =>
  obtain⟨v,rfl,hv⟩:=h;obtain⟨neg,a1,m1,c1,a2,m2,c2,rfl⟩:=hv.shape;exact⟨neg,a1,m1,c1,a2,m2,c2,rfl,hv,hx⟩
theorem Da{n:Nat} {f:Nat->Rat} {L:Nat} (h:∀i,i<n->Sz (f i) L) (h1:1<=L) (i:Int):Sz (Am (AP n f) i) L:=by
 by_cases h0:i<0
 ·rw[G1 _ h0];exact Sz.zero.mono h1
 by_cases h2:((AP n f).length:Int)<=i
 ·rw[Gw _ h2];exact Sz.zero.mono h1
 obtain⟨j,rfl⟩:∃j:Nat,i=j:=⟨i.toNat,by omega⟩;rw[A9] at h2;rw[BH _ (by omega)];exact h j (by omega)
structure Gh(p:AH) (T L:Nat):Prop where
 room:O9 p.vars.length p.rows.length T L
 terms:∀i,i<p.rows.length->(p.r i).terms.length<=T
def QZ(p:AH) (x:List Rat) (i:Nat):Bool:=decide (((p.v i).lo:Rat)<=Am x i)&&((p.v i).op||decide (Am x i<=((p.v i).up:Rat)))
theorem Pe(p:AH) (x:List Rat):DI p x=BY p.vars.length (QZ p x):=rfl
theorem Qa(p:AH) (x:List Rat) (i:Nat):QZ p x i=(!decide ((Am x i-((p.v i).lo:Rat)).num.sign<0)&&((p.v i).op || !decide (0<(Am x i-((p.v i).up:Rat)).num.sign))):=by
 have hr1:=BV (Am x i-((p.v i).lo:Rat));have hr2:=Ea (Am x i-((p.v i).up:Rat));unfold QZ;congr 1
 ·rw[<- decide_not];exact decide_eq_decide.2 ⟨fun h h2=>by have:=hr1.1 h2;grind,fun h=>Rat.not_lt.1 (fun h2=>h (hr1.2 (by grind)))⟩
 congr 1;rw[<- decide_not];exact decide_eq_decide.2 ⟨fun h h2=>by have:=hr2.1 h2;grind,fun h=>Rat.not_lt.1 (fun h2=>h (hr2.2 (by grind)))⟩
theorem GN{p:AH} {w:World} {v:Value} {x:List Rat} {L:Nat} (hv:Ju w v p.vars) (hx:∀i:Int,Sz (Am x i) L):Sz (Al p x) (1+p.vars.length*(L+3)) :=
 Dm (M:=L+2) (fun i hi=>((Sz.int (hv.ok i hi).co).mul (hx i)).mono (by omega))
def KW(p:AH) (z:List Rat) (i:Nat):Bool:=!decide (Am z i<0)&&(!decide (0<Am z i)||(p.v i).op)
def Jl(p:AH) (z:List Rat) (i:Nat):Bool:=EM (p.r i).kind (Bs (p.r i).terms (Bg p z)) 0
theorem QP(p:AH) (z:List Rat) (i:Nat):KW p z i=(!decide ((Am z i).num.sign<0)&&(!decide (0<(Am z i).num.sign)||(p.v i).op)):=by
 unfold KW;rw[show decide (Am z i<0)=decide ((Am z i).num.sign<0) from decide_eq_decide.2 (BV _).symm,show decide (0<Am z i)=decide (0<(Am z i).num.sign) from decide_eq_decide.2 (Ea _).symm]
section
variable {b0 b1 b2 b3 b4 b5 b6 b7 b8 b9 o0 o1 o2 o3 o4 o5 o6 o7 o8 o9:Nat} {x0 x1 x2 x3 x4 x5 x6 x7 x8 x9:Value} {W:World}
end
structure Co where
 kind:Int
 val:Rat
 pt:List Rat
 mu:List Rat
 ray:List Rat
def SZ(p:AH) (o:Co):Bool:=decide (o.pt.length=p.vars.length)&&decide (o.mu.length=p.rows.length)&&decide (o.ray.length=0)&&JO p o.pt o.mu&&decide (o.val=Al p o.pt)
def PW(p:AH) (o:Co):Bool:=decide (o.val=0)&&decide (o.pt.length+o.ray.length=0)&&decide (o.mu.length=p.rows.length)&&JB p o.mu
def Rv(p:AH) (o:Co):Bool:=decide (o.val=0)&&decide (o.mu.length=0)&&decide (o.pt.length=p.vars.length)&&decide (o.ray.length=p.vars.length)&&Mg p o.pt o.ray
def IG(p:AH) (o:Co):Bool:=if o.kind=0 then SZ p o else if o.kind=1 then PW p o else Rv p o
def Hr(k:Nat) (r:DD):Bool:=decide (r.terms.length<=2*k)&&decide (r.name.size<=100)
def G7(p:AH) (k m:Nat):Bool:=p.rows.all (Hr k)&&decide (p.vars.length<=k)&&decide (p.rows.length<=m)
theorem Rx(w:World) (pv:Value) (p:AH) (k m:Nat) (hk:k<=1000000) (hm:m<=1000000) (hp:Ba w pv p):Calls prog 11 #[pv,.int .i64 k,.int .i64 m] w (Ak w (G7 p k m)):=by
 obtain⟨vv,rv,rfl,hv,hr⟩:=hp;obtain⟨vo,vc,rfl,-,hvn,-⟩:=hv.shape;obtain⟨ro,rc,rfl,-,hrn,-⟩:=hr.shape;have HV:=bH hr;have HF:=bH (show G7 p k m=(p.rows.all (Hr k)&&decide (p.vars.length<=k)&&decide (p.rows.length<=m)) from rfl);clear hv hr;generalize p.vars.length=vn at *;obtain⟨n,hn'⟩:=bN p.rows.length;have HN:=bH hn';rw[hn'] at hrn HV HF ⊢;clear hn';have HB:=bH (bI (AD w (.cells #[.slice vo vn vc,.slice ro n rc] 25)) ((AK.refl (fun _=>False) w).alloc (.cells #[.slice vo vn vc,.slice ro n rc] 25)));go_enter func11,ntmps11;go_upto_region 1 with fail;generalize hw1:w.alloc (.cells #[.slice vo vn vc,.slice ro n rc] 25)=w1 at *;clear hw1;obtain⟨pb,hpb⟩:=bN w.heap.size;rw[hpb] at HB ⊢;clear hpb;go_wp2_with fail;go_loopg [7] n (fun gg v7 wr=>∃i:Nat,i<=n/\gg=n-i/\v7=.int .i64 i/\(p.rows.take i).all (Hr k)=true/\XF w1 wr);case atStart=>exact⟨0,Nat.zero_le _,rfl,rfl,rfl,AK.refl _ _⟩
 case round =>
  obtain⟨i,hi,rfl,rfl,hall,hx⟩:=hrel;have HX:=bH (bI hall hx);clear hall hx;have z0:=AB (AA HB.o.1 0 rfl) HX.o.2;have z1:=AB (AA HB.o.1 1 rfl) HX.o.2;by_cases hin:i<n
  ·have i0:(i:Int)<(n:Int):=(by omega);have i1:(0:Int)<=(i:Int):=(by omega);have HI:Hid (i<p.rows.length):=bH (by rw[HN.o];exact hin);obtain⟨b,off,ta,tc,rfl,-,e0,e1,e2,e3,e4,hok,htm⟩:=(HV.o.keep (HB.o.2.trans HX.o.2)).atp i HI.o;have hns:(p.r i).name.size<=9223372036854775807:=(by have:=hok.name;unfold maxLen at this;omega);obtain⟨-,-,-,-,htn,-⟩:=htm.shape;have HR:=bH (show Hr k (p.rows.getD i GC)=(decide ((p.r i).terms.length<=2*k)&&decide ((p.r i).name.size<=100)) from rfl);clear hok htm;generalize (p.r i).terms.length=tl at *;generalize (p.r i).name=nm at *;obtain⟨kk,hkk⟩:=bN (2*k);have hk2:(2:Int)*(k:Int)=(kk:Int):=(by omega);rw[hkk] at HR;have hkk63:kk<=9223372036854775807:=(by omega);clear hkk;by_cases q1:kk<tl
   ·have q1':(kk:Int)<(tl:Int):=(by omega);go_wp2;go_ret;exact⟨AL (by rw[HF.o,DH (d:=GC) HI.o (by rw[HR.o,decide_eq_false (p:=tl<=kk) (by omega)];rfl)];rfl),HB.o.2.trans HX.o.2⟩
   have q1':¬(kk:Int)<(tl:Int):=(by omega);by_cases q2:100<nm.size
   ·have q2':(100:Int)<(nm.size:Int):=(by omega);go_wp2;go_ret;exact⟨AL (by rw[HF.o,DH (d:=GC) HI.o (by rw[HR.o,decide_eq_false (p:=nm.size<=100) (by omega)];simp)];rfl),HB.o.2.trans HX.o.2⟩
   have q2':¬(100:Int)<(nm.size:Int):=(by omega);go_wp2;go_roundg (n-(i+1));case measure=>omega
   case rel=>exact⟨i+1,by omega,rfl,by go_num,Fm (d:=GC) HI.o HX.o.1 (by rw[HR.o,decide_eq_true (p:=tl<=kk) (by omega),decide_eq_true (p:=nm.size<=100) (by omega)];rfl),HX.o.2⟩
  obtain rfl:i=n:=(by omega);have HF2:Hid (G7 p k m=(decide (vn<=k)&&decide (i<=m))):=bH (by
   have:=HX.o.1;rw[List.take_of_length_le (by rw[HN.o];exact Nat.le_refl _)] at this;rw[HF.o,this];rfl)
  by_cases q1:vn<=k
  ·have q1':(vn:Int)<=(k:Int):=(by omega);by_cases q2:i<=m
   ·have q2':(i:Int)<=(m:Int):=(by omega);go_wp2;go_ret;exact⟨AL (by rw[HF2.o,decide_eq_true q1,decide_eq_true q2];rfl),HB.o.2.trans HX.o.2⟩
   have q2':¬(i:Int)<=(m:Int):=(by omega);go_wp2;go_ret;exact⟨AL (by rw[HF2.o,decide_eq_true q1,decide_eq_false q2];rfl),HB.o.2.trans HX.o.2⟩
  have q1':¬(vn:Int)<=(k:Int):=(by omega);go_wp2;go_ret;exact⟨AL (by rw[HF2.o,decide_eq_false q1];rfl),HB.o.2.trans HX.o.2⟩
def E1(xs:List Value):Prop:=∀u∈xs,∀d,u≠.int .u32 d
theorem Ae{w:World} {g:Nat} {cur:Array Value} {t:TypeId} {fr:Nat×Nat} (h:Au w g=some (.cells cur t fr)) (hn:E1 cur.toList):BN w g:=fun i d hc=>by
 rw[AS h] at hc;exact hn _ (by rw[<- Array.getElem?_toList] at hc;exact List.mem_of_getElem? hc) d rfl
theorem BN.cells{w:World} {g:Nat} {cur:Array Value} {t:TypeId} {fr:Nat×Nat} (hn:BN w g) (h:Au w g=some (.cells cur t fr)):E1 cur.toList:=fun u hu d e=>by
 obtain⟨i,hi,rfl⟩:=List.getElem_of_mem hu;refine hn i d ?_;rw[AS h,<- Array.getElem?_toList,List.getElem?_eq_getElem hi,e]
theorem E1.append{xs ys:List Value} (h:E1 xs) (k:E1 ys):E1 (xs++ys):=fun u hu=>(List.mem_append.1 hu).elim (h u) (k u)
theorem E1.take{xs:List Value} (h:E1 xs) (n:Nat):E1 (xs.take n):=fun u hu=>h u (List.mem_of_mem_take hu)
theorem E1.drop{xs:List Value} (h:E1 xs) (n:Nat):E1 (xs.drop n):=fun u hu=>h u (List.mem_of_mem_drop hu)
theorem K6{z:Array Value} (h:E1 z.toList) (n:Nat):E1 (Builtin.zeroCells z n).toList:=fun u hu=>by
 unfold Builtin.zeroCells at hu;rw[Array.toList_map] at hu;obtain⟨i,hi,rfl⟩:=List.mem_map.1 hu;have hi':i<n*z.size:=by simpa using hi
 have hz:0<z.size:=Nat.pos_of_ne_zero (fun e=>by rw[e] at hi';simp at hi');have hm:i%z.size<z.size:=Nat.mod_lt _ hz;rw[getElem!_pos z _ hm];exact h _ (by rw[<- Array.getElem_toList];exact List.getElem_mem _)
section
variable {P:Program}
theorem EZ(w:World) (base:Nat) (t ty e:TypeId) (i:TypeInfo) (z:Value) (ht:P.underlying t=some (.slice e)) (hi:P.info? e=some i) (hz:i.zero=some z)
  (hzs:z.cells.size=i.size) (hzn:E1 z.cells.toList)
  (v:Value) (n:Nat) (xs:List Value) (hown:w.ownsRow base e i.size v n xs) (hnd:∀g,v.ownBlock=some g->BN w g) (hxs:E1 xs)
  (a:Addr) (m c:Nat) (news:List Value) (hl:news.length=m*i.size) (hnews:∀j u,news[j]?=some u->w.cell? (a.add j)=some u) (h1:∀u∈news,u.oneCell'=true) (hnn:E1 news) (hm:0<m)
  (h63:n+m<=maxLen) (hbytes:(n+m)*i.bytes<=140737488355328) :
  ∀v' w',(Builtin.append_ #[t,t] ty #[v,.slice (some a) m c]).run P w=.ok v' w'->∀g,v'.ownBlock=some g->BN w' g:=by
 intro v' w' hrun g' hg';have hsmall:n+m<=9223372036854775807:=by simp only[maxLen] at h63;omega
 rcases hown.2 with⟨rfl,rfl⟩|⟨g,cap,cur,rfl,hbg,hg,hnc,hcm,hcs,htake⟩
 ·have hr:=run_append_nil (P:=P) w t ty e i z ht hi hz a m c news hl hnews hm (by omega) (by have hb:=hbytes;simp only[Nat.zero_add] at hb;omega);rw[hr] at hrun;injection hrun with h2 h3;subst h2 h3;cases hg';refine Ae (show Au (w.drew.alloc _) w.heap.size=some _ from AD w.drew _) ?_;rw[Array.toList_append];exact (by simpa using hnn:E1 news.toArray.toList).append (K6 hzn _)
 by_cases hroom:n+m<=cap
 ·have hfit:n*i.size+news.length<=cur.size:=(by rw[hl,hcs,<- Nat.add_mul];exact Nat.mul_le_mul_right _ hroom);have hr:=run_append_room (P:=P) w t ty e i ht hi g n cap cur hg a m c news hl hnews h1 hroom hfit;rw[hr] at hrun;injection hrun with h2 h3;subst h2 h3;cases hg';have hc:=(hnd g rfl).cells (show Au w g=some _ from hg);refine Ae (show Au (w.setRow g _) g=some _ from setRow_heap w g cur _ e _ hg) ?_;exact ((hc.take _).append hnn).append (hc.drop _)
 have holds:∀j u,xs[j]?=some u->w.cell? ((⟨g,0,none⟩:Addr).add j)=some u:=hown.cells (g:=g) rfl;have hr:=run_append_grow (P:=P) w t ty e i z ht hi hz ⟨g,0,none⟩ n cap xs hown.1 holds a m c news hl hnews (by omega) (by omega) (growslice_fits (by omega) hbytes);rw[hr] at hrun;injection hrun with h2 h3;subst h2 h3;cases hg';refine Ae (show Au (w.drew.alloc _) w.heap.size=some _ from AD w.drew _) ?_;rw[Array.toList_append,Array.toList_append];exact (hxs.append (by simpa using hnn:E1 news.toArray.toList)).append (K6 hzn _)
end
structure BW where
 ng:Bool
 a1:Option Addr
 m1:Nat
 c1:Nat
 a2:Option Addr
 m2:Nat
 c2:Nat
def BW.cells(x:BW):List Value:=[.bool x.ng,.slice x.a1 x.m1 x.c1,.slice x.a2 x.m2 x.c2]
def BW.v(x:BW):Value:=.agg #[.bool x.ng,.slice x.a1 x.m1 x.c1,.slice x.a2 x.m2 x.c2]
theorem CL(x:BW):E1 x.cells:=fun u hu d e=>by
 subst e;simp[BW.cells] at hu
theorem En(x:BW):∀u∈x.cells,u.oneCell'=true:=fun u hu=>by
 simp[BW.cells] at hu;rcases hu with rfl|rfl|rfl<;>rfl
theorem Qm(cs:List BW):E1 (cs.flatMap BW.cells):=fun u hu=>by
 obtain⟨x,hx,hu⟩:=List.mem_flatMap.1 hu;exact CL x u hu
def EH(w:World) (base:Nat) (v:Value) (l:List Rat) (L:Nat):Prop :=
 ∃cs:List BW,cs.length=l.length/\w.ownsRow base 34 3 v l.length (cs.flatMap BW.cells)/\(∀g,v.ownBlock=some g->BN w g)/\∀(i:Nat) c q,cs[i]?=some c->l[i]?=some q->BA w c.v q L
theorem EH.shape{w:World} {base:Nat} {v:Value} {l:List Rat} {L:Nat} (h:EH w base v l L):∃ao cap,v=.slice ao l.length cap:=by
 obtain⟨cs,_,h1,_⟩:=h;exact Ag h1
theorem EH.lt{w:World} {base:Nat} {v:Value} {l:List Rat} {L:Nat} (h:EH w base v l L):∀g,v.ownBlock=some g->base<=g/\g<w.heap.size:=by
 obtain⟨cs,_,h1,_⟩:=h;exact h1.lt
theorem EH.past{S:Nat->Prop} {w w':World} {base:Nat} {v:Value} {l:List Rat} {L:Nat} (h:EH w base v l L) (hx:AK S w w') (hn:∀g,v.ownBlock=some g->¬S g) (hr:∀u d,Ad w u d->Ad w' u d):EH w' base v l L:=by
 have hlt:=h.lt;obtain⟨cs,h1,h2,h3,h4⟩:=h;refine⟨cs,h1,C9 h2 hx hn,fun g hg i d hc=>h3 g hg i d ?_,fun i c q hc hq=>?_⟩
 ·rw[<- hx.cell (p:=⟨g,i,none⟩) (hlt g hg).2 (hn g hg)];exact hc
 obtain⟨n,m,d,l,k,g1,g2,g3,g4,g5⟩:=h4 i c q hc hq;exact⟨n,m,d,l,k,g1,hr _ _ g2,g3,hr _ _ g4,g5⟩
theorem EH.keep{w w':World} {base:Nat} {v:Value} {l:List Rat} {L:Nat} (h:EH w base v l L) (hx:XF w w'):EH w' base v l L:=h.past hx (fun _ _ h=>h) (fun _ _ hr=>hr.keep hx)
theorem EH.rats{w:World} {base:Nat} {v:Value} {l:List Rat} {L:Nat} (h:EH w base v l L):B2 w v l L:=by
 obtain⟨cs,h1,h2,h3,h4⟩:=h;rcases h2.2 with⟨rfl,h0⟩|⟨g,cap,cur,rfl,hb,hg,hnc,hcm,hcs,htake⟩
 ·have hl:=List.eq_nil_of_length_eq_zero h0;subst hl;exact B2.nil w L
 refine⟨cs.map BW.cells,by rw[List.length_map,h1],⟨some ⟨g,0,none⟩,cap,by rw[List.length_map,h1],by rw[List.length_map,h1];exact hnc,hcm,(fun e=>by cases e),fun hp=>⟨g,0,rfl,(Array.getElem?_eq_some_iff.1 hg).1,fun i r hi j u hu=>?_⟩⟩,fun i c q hc hq=>?_⟩
 ·rw[List.getElem?_map] at hi;obtain⟨x,hx,rfl⟩:=Option.map_eq_some_iff.1 hi;have hil:i<cs.length:=(List.getElem?_eq_some_iff.1 hx).1;have hj:j<3:=(List.getElem?_eq_some_iff.1 hu).1;have hget:=My (f:=BW.cells) (m:=3) (fun _=>rfl) cs i hx j hj;rw[<- htake] at hget;rw[Nat.zero_add,AS (show Au w g=some _ from hg),<- Array.getElem?_toList,<- hu,<- hget,List.getElem?_take,if_pos (by
   have:i<l.length:=(by omega);omega)]
 rw[List.getElem?_map] at hc;obtain⟨x,hx,rfl⟩:=Option.map_eq_some_iff.1 hc;exact h4 i x q hx hq
theorem GO(w:World) (base:Nat) (v:Value) (l:List Rat) (L:Nat) (x:BW) (q:Rat) (ad:Addr) (c:Nat) (ty:TypeId) (h:EH w base v l L) (hq:BA w x.v q L) (hsrc:∀j u,x.cells[j]?=some u->w.cell? (ad.add j)=some u) (hl:l.length<=1000000) (hbase:base<=w.heap.size) :
  ∃v' w',(Builtin.append_ #[35,35] ty #[v,.slice (some ad) 1 c]).run prog w=.ok v' w'/\EH w' base v' (l++[q]) L/\AK (fun k=>v.ownBlock=some k) w w'/\(∀u d,Ad w u d->Ad w' u d):=by
 obtain⟨i0,hi,hz0,hz1,hz2⟩:=info_parts Tryz.infoRat
 obtain⟨cs,h1,h2,h3,h4⟩:=h;have h2':w.ownsRow base 34 i0.size v l.length (cs.flatMap BW.cells):=by rw[hz1];exact h2
 have hsz:(Value.agg #[.bool false,.slice none 0 0,.slice none 0 0]).cells.size=i0.size:=by rw[hz1];rfl
 have hzn:E1 (Value.agg #[.bool false,.slice none 0 0,.slice none 0 0]).cells.toList:=CL ⟨false,none,0,0,none,0,0⟩;have hbt:(l.length+1)*i0.bytes<=140737488355328:=by rw[hz2];omega
 have h63:l.length+1<=maxLen:=by unfold maxLen;omega
 obtain⟨v',w',hr,g1,g2,_,g5⟩:=run_append_own_at (P:=prog) w base 35 ty 34 i0 _ i0.size i0.bytes underlying35 hi hz0 rfl rfl hsz (by rw[hz1];decide) v l.length _ h2' ad 1 c x.cells (by rw[hz1];rfl) hsrc (En x) h63 hbt hbase;have hx:AK (fun k=>v.ownBlock=some k) w w':=(AK.refl (fun k=>v.ownBlock=some k) w).grown g2 (fun k hk _=>hk);have hrd:∀u d,Ad w u d->Ad w' u d:=fun u d hu=>hu.past hx (fun k _ hk=>h3 k hk);have hnd:=EZ (P:=prog) w base 35 ty 34 i0 _ underlying35 hi hz0 hsz hzn v l.length _ h2' h3 (Qm cs) ad 1 c x.cells (by rw[hz1];rfl) hsrc (En x) (CL x) (by omega) h63 hbt v' w' hr;refine⟨v',w',hr,⟨cs++[x],by rw[List.length_append,List.length_append,h1];rfl,?_,hnd,fun i c' q' hc' hq'=>?_⟩,hx,hrd⟩
 ·rw[List.length_append,List.flatMap_append,List.flatMap_cons,List.flatMap_nil,List.append_nil];rw[hz1] at g1;exact g1
 have hkeep:∀{c:BW} {q:Rat},BA w c.v q L->BA w' c.v q L:=fun hh=>by
  obtain⟨n,m,d,l,k,e1,e2,e3,e4,e5⟩:=hh;exact⟨n,m,d,l,k,e1,hrd _ _ e2,e3,hrd _ _ e4,e5⟩
 by_cases hi':i<cs.length
 ·rw[List.getElem?_append_left hi'] at hc';rw[List.getElem?_append_left (by omega)] at hq';exact hkeep (h4 i c' q' hc' hq')
 rw[List.getElem?_append_right (by omega)] at hc' hq';have e:i-cs.length=0:=by
  have:=(List.getElem?_eq_some_iff.1 hc').1;simp at this;omega
 rw[e] at hc';rw[show i-l.length=0 from by omega] at hq';cases hc';cases hq';exact hkeep hq
theorem IV{w:World} {ops:Array Oper} {rest:List Oper} {o:Oper} {a:Act} {Q:Exit->Act->World->Prop} (hgd:o.guard=none) (s x:Operand)
  (ho:o.op=.call { callee:=.builtin .append,args:=#[s,x],argTypes:=#[35,35] })
  (base:Nat) (v:Value) (l:List Rat) (L:Nat) (hs:a.eval s=v) (hown:EH w base v l L) (e:BW) (q:Rat) (hq:BA w e.v q L) (ad:Addr) (c:Nat) (hx:a.eval x=.slice (some ad) 1 c) (hsrc:∀j u,e.cells[j]?=some u->w.cell? (ad.add j)=some u) (hl:l.length<=1000000) (hbase:base<=w.heap.size)
  (h:∀v' w',EH w' base v' (l++[q]) L->AK (fun k=>v.ownBlock=some k) w w'->(∀u d,Ad w u d->Ad w' u d)->wpList prog ops Q rest (a.put o.dst v') w') :
  wpList prog ops Q (o::rest) a w:=by
 refine wpList_plain hgd fun K hK=>?_;obtain⟨v',w',hr,h2,h3,h5⟩:=GO w base v l L e q ad c o.type hown hq hsrc hl hbase;unfold Oper.wp execOp;simp only[ho,resolve,invoke,builtin,Sem.run_bind,Sem.run_pure,Result.andThen_ok,List.map_toArray,List.map_cons,List.map_nil,hs,hx,hr];exact hK _ _ (h v' w' h2 h3 h5)
theorem Jy{w:World} {ops:Array Oper} {o:Oper} {a:Act} {K:Act->World->Prop} {Q:Exit->Act->World->Prop} {E:Prop} (hgd:o.guard=none) (s x:Operand)
  (ho:o.op=.call { callee:=.builtin .append,args:=#[s,x],argTypes:=#[35,35] })
  (base:Nat) (v:Value) (l:List Rat) (L:Nat) (hs:a.eval s=v) (hown:EH w base v l L) (e:BW) (q:Rat) (hq:BA w e.v q L) (ad:Addr) (c:Nat) (hx:a.eval x=.slice (some ad) 1 c) (hsrc:∀j u,e.cells[j]?=some u->w.cell? (ad.add j)=some u) (hl:l.length<=1000000) (hbase:base<=w.heap.size)
  (h:∀v' w',EH w' base v' (l++[q]) L->AK (fun k=>v.ownBlock=some k) w w'->(∀u d,Ad w u d->Ad w' u d)->K (a.put o.dst v') w') :
  if Region.wanted o (yielded ops a.tmps)=true then Oper.wp prog o a w K Q else E:=by
 have hw:Region.wanted o (yielded ops a.tmps)=true:=by simp[Region.wanted,hgd]
 rw[if_pos hw];obtain⟨v',w',hr,h2,h3,h5⟩:=GO w base v l L e q ad c o.type hown hq hsrc hl hbase;unfold Oper.wp execOp;simp only[ho,resolve,invoke,builtin,Sem.run_bind,Sem.run_pure,Result.andThen_ok,List.map_toArray,List.map_cons,List.map_nil,hs,hx,hr];exact h v' w' h2 h3 h5
end Go.Proofs.YtglepbhkilbbcaaGreat
