/-
  Texts of the proof, part 2. Conditions: each lemma names its own.
-/
import Derived.Test.YtglepbhkilbbcaaGreatZ1
import Derived.Maps.RangeWalk
open Go.Proofs.Tryz
set_option linter.unusedVariables false
set_option linter.unusedSimpArgs false
set_option maxRecDepth 100000
set_option maxHeartbeats 16000000
namespace Go.Proofs.YtglepbhkilbbcaaGreat
open Go.RowKit Go.MapKept
open Go.ChangeMaps (setBlock)
theorem Lu{n:Nat} (h:(dg n).length<=2):n<18446744073709551616:=Nat.lt_of_lt_of_le (CP n) (An h)
theorem P5(w:World) (va vb:Value) (a b:List Nat) (ha:Ad w va a) (hb:Ad w vb b) (hal:a.length<=268435455) (hbl:b.length<=268435455) :
  Calls prog 255 #[va,vb] w (BO w (Nat.gcd (vl a) (vl b))):=by
 have Fa:=bH (Gt w va a ha (by omega));have Fb:=bH (fun W (hW:XF w W)=>Gt W vb b (hb.keep hW) (by omega));have la:=Bc a ha.1;have lb:=Bc b hb.1;unfold Ce at la lb;have hla:(dg (vl a)).length<=268435455:=by omega
 have hlb:(dg (vl b)).length<=268435455:=by omega
 generalize vl a=x0 at *;generalize vl b=y0 at *;have HL:=bH (bI hla hlb);clear ha hb hal hbl la lb hla hlb;go_enter func255,ntmps255;go_wp2_with fail;refine Fa.o.mono ?_;rintro r w1 ⟨v1,rfl,h1,hx1⟩;have Fb1:=bH (Fb.o w1 hx1);have H1:=bH (bI h1 hx1);clear h1 hx1 Fa Fb;go_wp2_with fail;refine Fb1.o.mono ?_;rintro r w2 ⟨v2,rfl,h2,hx2⟩;have HI:=bH (bI (H1.o.1.keep hx2) (bI h2 (H1.o.2.trans hx2)));clear h2 hx2 Fb1 H1;go_wp2_with fail;go_loopg [0,1] y0 (fun g v0 v1 wr=>∃x y:Nat,g=y/\Ab wr v0 x/\Ab wr v1 y/\(dg x).length<=268435455/\(dg y).length<=268435455/\Nat.gcd x y=Nat.gcd x0 y0/\XF w wr);case atStart=>exact⟨x0,y0,rfl,HI.o.1,HI.o.2.1,HL.o.1,HL.o.2,rfl,HI.o.2.2⟩
 case round =>
  rename_i v0 v1;obtain⟨x,y,hg,h0,h1,hlx,hly,hgc,hx⟩:=hrel;obtain rfl:=hg.symm;clear HI HL;have h0':=h0;have h1':=h1;obtain⟨ao,ca,rfl,_⟩:=h0'.2;obtain⟨bo,cb,rfl,_⟩:=h1'.2;by_cases hy:y=0
  ·subst hy;rw[Nat.gcd_zero_right] at hgc;rw[Bo];have HP:Hid (BO w (Nat.gcd x0 y0) (.returned (.slice ao (dg x).length ca)) wr):=bH ⟨_,rfl,by rw[<- hgc];exact h0,hx⟩;clear h0 h1 h0' h1' hgc hx hlx hly;generalize (dg x).length=lx at *;simp only[List.length_nil];go_wp2;go_ret;exact HP.o
  obtain⟨m,hm⟩:=bN ((dg x).length);obtain⟨k,hk⟩:=bN ((dg y).length);have hk0:0<k:=by
   rcases Nat.eq_zero_or_pos k with h|h
   ·exact absurd (DN.1 (List.eq_nil_of_length_eq_zero (hk.trans h))) hy
   exact h
  have hki:(0:Int)<(k:Int):=(by omega);have HD:=LI wr _ _ _ _ h0 h1 hlx hly;have HS:=fun h2 h3=>Qh wr _ _ _ _ h0 h1 h2 h3;rw[At,At,hm,hk] at HD HS;have hlx':=hlx;have hly':=hly;rw[hm] at hlx';rw[hk] at hly';have H0:=bH (bI h0 (bI h1 (bI hx hgc)));have Hm:=bH (bI hm (bI hk (bI hlx hly)));rw[hm,hk];have Hy:=bH hy;by_cases h22:m<=2/\k<=2
  ·have HS':=bH (HS (Lu (by omega)) (Lu (by omega)));have m2:(m:Int)<=2:=(by omega);have k2:(k:Int)<=2:=(by omega);clear h0 h1 h0' h1' hgc hx hlx hly hm hk HD HS h22 hy;go_wp2_with fail;refine HS'.o.mono ?_;rintro r w9 ⟨v9,rfl,h9,hx9⟩;have HP:Hid (BO w (Nat.gcd x0 y0) (.returned v9) w9):=bH ⟨_,rfl,by rw[<- H0.o.2.2.2];exact h9,H0.o.2.2.1.trans hx9⟩;clear h9 hx9;go_wp2;go_ret;exact HP.o
  have hD':CV wr x y=fun r w'=>∃v1 v2,r=.returned (.tuple #[v1,v2,.int .i64 0])/\Ab w' v1 (x/y)/\Ab w' v2 (x%y)/\XF wr w':=by
   funext r w';unfold CV;rw[if_neg hy]
  rw[hD'] at HD;have HD':=bH HD;have hlt:=Nat.mod_lt x (Nat.pos_of_ne_zero hy);have hmono:=Bu (Nat.le_of_lt hlt);have hgn:Nat.gcd y (x%y)=Nat.gcd x0 y0:=(by rw[<- hgc,Nat.gcd_comm y,<- Nat.gcd_rec,Nat.gcd_comm]);have HN:=bH (bI hlt (bI hgn (Nat.le_trans hmono hly)));have hcase:¬(m:Int)<=2∨((m:Int)<=2/\¬(k:Int)<=2):=(by omega);clear h0 h1 h0' h1' hgc hx hlx hly hm hk HD HS h22 hy hD' hlt hmono hgn;rcases hcase with m2|⟨m2,k2⟩;all_goals
   go_wp2_with fail
   refine HD'.o.mono ?_
   rintro r w9 ⟨v8,v9,rfl,_,h9,hx9⟩
   have HF:Hid (Ab w9 (.slice bo k cb) y/\Ab w9 v9 (x%y)/\XF w w9):=bH ⟨by have:=H0.o.2.1.keep hx9;rw[Hm.o.2.1] at this;exact this,h9,H0.o.2.2.1.trans hx9⟩
   clear h9 hx9
   go_wp2
   go_roundg (x%y)
  case measure=>exact HN.o.1
  case rel=>exact⟨y,x%y,rfl,HF.o.1,HF.o.2.1,Hm.o.2.2.2,HN.o.2.2,HN.o.2.1,HF.o.2.2⟩
  case measure=>exact HN.o.1
  case rel=>exact⟨y,x%y,rfl,HF.o.1,HF.o.2.1,Hm.o.2.2.2,HN.o.2.2,HN.o.2.1,HF.o.2.2⟩
def Kp(w:World) (n:Nat) (r:Ending) (w':World):Prop:=∃m:Nat,r=.returned (.int .i64 m)/\w'=w/\(m=0↔n=0)
theorem LD(w:World) (v:Value) (l:List Nat) (h:Ad w v l) (hl:l.length<=268435455):Calls prog 238 #[v] w (Kp w (vl l)):=by
 have HT:=bH (DX w v l h);have ll:=Bc l h.1;unfold Ce at HT ll;generalize vl l=n at *;have hl2:(dg n).length<=268435455:=by omega
 clear h ll hl;go_enter func238,ntmps238;go_wp2_with fail;refine HT.o.mono ?_;rintro r w' ⟨hw,v1,rfl,h1⟩;obtain rfl:=hw.symm;obtain⟨ao,c,rfl,_⟩:=id h1.2;obtain⟨k,hk⟩:=bN ((dg n).length);rw[hk] at h1 hl2 ⊢;by_cases h0:k=0
 ·subst h0;have hn:n=0:=DN.1 (List.eq_nil_of_length_eq_zero hk);have HP:Hid (Kp w n (.returned (.int .i64 0)) w):=bH ⟨0,rfl,rfl,by simp[hn]⟩;clear hn h1 hk HT;go_wp2;go_ret;exact HP.o
 obtain⟨j,hj⟩:∃j,k=j+1:=⟨k-1,by omega⟩;obtain⟨bb,ob,rfl,hbb⟩:=h1.base (by omega);have c0:=h1.at.2 j (by omega);obtain⟨hp,_,_⟩:=I5 (n:=n) (k:=j) (by omega);have htl:=Ar (ET n) j;generalize Aq (dg n) j=t at *;have HL:=bH (Tryz.bits_Len32 (t:Int) w (by omega) (by omega));rw[Int.toNat_natCast] at HL;have hbl:=MK htl;have hb32:=Any.bitLen_le32 t (by omega) (by omega);rw[Int.toNat_natCast] at hb32;generalize Lib.bitLen t=q at *;have hq0:0<q:=by
  rcases Nat.eq_zero_or_pos q with rfl|h
  ·simp at hbl;omega
  exact h
 have hne:¬n=0:=fun h=>h0 (by rw[<- hk,h,Bo];rfl);obtain⟨S,hS⟩:=bN (32*j+q);have HP:Hid (Kp w n (.returned (.int .i64 S)) w):=bH ⟨S,rfl,rfl,by constructor<;>intro h<;>omega⟩;have i0:(k:Int)-1=j:=(by omega);have i1:(j:Int)<(k:Int):=(by omega);have i2:(32:Int)*j+q=S:=(by omega);have i3:¬(k:Int)=0:=(by omega);clear h1 hk HT hj hp hbl hS hne;go_wp2_with fail;refine HL.o.mono ?_;rintro r w' ⟨rfl,hw⟩;obtain rfl:=hw.symm;clear hw HL c0;go_wp2;go_ret;exact HP.o
def sg(neg:Bool) (n:Nat):Int:=if neg then -(n:Int) else n
theorem Eg(neg:Bool) (n:Nat):(sg neg n).natAbs=n:=by unfold sg;split<;>omega
theorem Ux(neg:Bool) (n:Nat):decide (sg neg n<0)=(neg&&decide (0<n)):=by
 unfold sg;cases neg
 ·simp
 simp
def Bf(w:World) (v:Value) (z:Int) (L:Nat):Prop:=∃neg mag l,v=.agg #[.bool neg,mag]/\Ad w mag l/\l.length<=L/\z=sg neg (vl l)
def Ay(w:World) (v:Value) (z:Int):Prop:=∃mag,v=.agg #[.bool (decide (z<0)),mag]/\Ab w mag z.natAbs
def DK(w:World) (z:Int) (r:Ending) (w':World):Prop:=∃v,r=.returned v/\Ay w' v z/\XF w w'
theorem Ab.keep{w w':World} {v:Value} {n:Nat} (h:Ab w v n) (hx:XF w w'):Ab w' v n:=Ad.keep h hx
theorem Bf.keep{w w':World} {v:Value} {z:Int} {L:Nat} (h:Bf w v z L) (hx:XF w w'):Bf w' v z L:=by
 obtain⟨neg,mag,l,h1,h2,h3⟩:=h;exact⟨neg,mag,l,h1,h2.keep hx,h3⟩
theorem Ay.keep{w w':World} {v:Value} {z:Int} (h:Ay w v z) (hx:XF w w'):Ay w' v z:=by
 obtain⟨mag,h1,h2⟩:=h;exact⟨mag,h1,h2.keep hx⟩
theorem Ay.reads{w:World} {v:Value} {z:Int} {L:Nat} (h:Ay w v z) (hl:(dg z.natAbs).length<=L):Bf w v z L:=by
 obtain⟨mag,h1,h2⟩:=h;refine⟨_,mag,_,h1,h2,hl,?_⟩;rw[At];unfold sg;split
 ·rename_i h;have:=of_decide_eq_true h;omega
 rename_i h;have:¬z<0:=fun h'=>h (decide_eq_true h');omega
theorem Ay.mk{w:World} {mag:Value} {n:Nat} (neg:Bool) (h:Ab w mag n):Ay w (.agg #[.bool (neg&&decide (0<n)),mag]) (sg neg n) :=
 ⟨mag,by rw[Ux],by rw[Eg];exact h⟩
theorem Ab.shape{w:World} {v:Value} {n:Nat} (h:Ab w v n):∃ao c,v=.slice ao (dg n).length c:=by
 obtain⟨ao,c,h,_⟩:=h.2;exact⟨ao,c,h⟩
theorem D8(w:World) (neg:Bool) (mag:Value) (n:Nat) (h:Ab w mag n) (hl:(dg n).length<=268435455) :
  Calls prog 206 #[.bool neg,mag] w (DK w (sg neg n)):=by
 have HB:=bH (fun W (hW:XF w W)=>LD W mag _ (h.keep hW) hl);rw[At] at HB;have HI:=bH (Ay.mk neg h);obtain⟨ao,c,rfl⟩:=h.shape;clear h;generalize (dg n).length=m at *;go_enter func206,ntmps206;cases neg
 ·go_wp2;refine bodyPost_ret (v:=.agg #[.bool false,.slice ao m c]) (by simp[results,results206,go_sem]) rfl ⟨_,rfl,?_,?_⟩
  ·have:=HI.o.keep ((AK.refl _ w).alloc (.cells #[.bool false,.slice ao m c] 32));rwa [Bool.false_and] at this
  exact (AK.refl _ w).alloc _
 go_wp2_with fail;refine (HB.o _ ((AK.refl _ w).alloc _)).mono ?_;rintro r w' ⟨q,rfl,hw,hq⟩;subst hw;have hd:decide (0<n)=decide ((0:Int)<(q:Int)):=by
  by_cases h0:n=0
  ·rw[h0,hq.2 h0];rfl
  have:¬q=0:=fun h=>h0 (hq.1 h);rw[decide_eq_true (by omega:0<n),decide_eq_true (by omega:(0:Int)<(q:Int))]
 have HI':=bH HI.o;rw[hd,Bool.true_and] at HI';clear hd hq HI HB;go_wp2;refine bodyPost_ret (v:=.agg #[.bool (decide ((0:Int)<(q:Int))),.slice ao m c]) (by simp[results,results206,go_sem]) rfl ⟨_,rfl,?_,?_⟩
 ·exact HI'.o.keep (by repeat (first|exact AK.refl _ _|apply AK.alloc))
 repeat (first|exact AK.refl _ _|apply AK.alloc)
def BN(w:World) (k:Nat):Prop:=∀i d,w.cell? ⟨k,i,none⟩≠some (.int .u32 d)
theorem Ad.past{S:Nat->Prop} {w w':World} {v:Value} {l:List Nat} (h:Ad w v l) (hx:AK S w w') (hS:∀k,k<w.heap.size->S k->BN w k):Ad w' v l:=by
 obtain⟨h0,ao,c,rfl,h1,h2,h3,h4⟩:=h;refine⟨h0,_,_,rfl,h1,h2,h3,fun hp=>?_⟩;obtain⟨b,off,e,hbl,hc⟩:=h4 hp;have hn:¬S b:=fun hs=>hS b hbl hs (off+0) _ (hc 0 l[0] (List.getElem?_eq_getElem hp));exact⟨b,off,e,Nat.lt_of_lt_of_le hbl hx.size,fun i d hi=>(hx.cell (p:=⟨b,off+i,none⟩) hbl hn).trans (hc i d hi)⟩
def A1(w:World) (b:Nat) (neg:Bool) (mag:Value):Prop:=Au w b=some (.cells #[.bool neg,mag] 32 (0,0))/\∀k d,mag≠.int k d
theorem Ad.noInt{w:World} {v:Value} {l:List Nat} (h:Ad w v l) (k:IntKind) (d:Int):v≠.int k d:=by
 obtain⟨_,ao,c,rfl,_⟩:=h;intro e;cases e
theorem A1.lt{w:World} {b:Nat} {neg:Bool} {mag:Value} (h:A1 w b neg mag):b<w.heap.size:=AT h.1
theorem A1.facts{w:World} {b:Nat} {neg:Bool} {mag:Value} (h:A1 w b neg mag):w.cell? ⟨b,0,none⟩=some (.bool neg)/\w.cell? ⟨b,1,none⟩=some mag/\w.frozen? ⟨b,0,none⟩=false/\w.frozen? ⟨b,1,none⟩=false :=
 ⟨by simpa using AS h.1 0,by simpa using AS h.1 1,AC h.1 0,AC h.1 1⟩
theorem A1.noDig{w:World} {b:Nat} {neg:Bool} {mag:Value} (h:A1 w b neg mag):BN w b:=fun i d=>by
 rw[AS h.1 i];match i with
 | 0=>simp
 | 1=>simpa using h.2 .u32 d
 | i+2=>simp
theorem A1.ext{S:Nat->Prop} {w w':World} {b:Nat} {neg:Bool} {mag:Value} (h:A1 w b neg mag) (hx:AK S w w') (hn:¬S b):A1 w' b neg mag:=⟨(hx.blk h.lt hn).trans h.1,h.2⟩
structure VP(w w':World) (r:Nat) (neg:Bool) (mag:Value):Prop where
 box:A1 w' r neg mag
 ext:AK (fun k=>k=r) w w'
 rds:∀v l,Ad w v l->Ad w' v l
theorem A1.put{w:World} {r:Nat} {n0 neg:Bool} {m0 mag:Value} (h:A1 w r n0 m0) (hm:∀k d,mag≠.int k d):VP w ((w.setCell ⟨r,0,none⟩ (.bool neg)).setCell ⟨r,1,none⟩ mag) r neg mag:=by
 have hx:AK (fun k=>k=r) w ((w.setCell ⟨r,0,none⟩ (.bool neg)).setCell ⟨r,1,none⟩ mag):=((AK.refl (fun k=>k=r) w).setCell (p:=⟨r,0,none⟩) _ (fun _=>rfl)).setCell (p:=⟨r,1,none⟩) _ (fun _=>rfl);refine⟨⟨?_,hm⟩,hx,fun v l hr=>hr.past hx (fun k _ e=>by subst e;exact h.noDig)⟩;have h1:=AI h.1 0 (.bool neg);have h2:=AI h1 1 mag;simpa using h2
theorem VP.int{w w':World} {r:Nat} {neg:Bool} {mag v:Value} {z:Int} (h:VP w w' r neg mag) (hi:Ay w v z):Ay w' v z:=by
 obtain⟨m,h1,h2⟩:=hi;exact⟨m,h1,h.rds _ _ h2⟩
theorem Ay.shape{w:World} {v:Value} {z:Int} (h:Ay w v z):∃neg ao n c,v=.agg #[.bool neg,.slice ao n c]:=by
 obtain⟨m,h1,h2⟩:=h;obtain⟨ao,c,rfl⟩:=h2.shape;exact⟨_,_,_,_,h1⟩
theorem AF(ao:Option Addr) (n c:Nat):∀k d,Value.slice ao n c≠.int k d:=fun _ _ h=>by cases h
theorem El(w:World) (v:Value) (z:Int) (L:Nat) (h:Bf w v z L) (hL:L<=268435455) :
  Calls prog 204 #[v] w fun r w'=>r=.returned (.int .i64 z.sign)/\XF w w':=by
 obtain⟨neg,mag,l,rfl,hr,hl,rfl⟩:=h;have HB:=bH (fun W (hW:XF w W)=>LD W mag l (hr.keep hW) (by omega));have hs:(sg neg (vl l)).sign=if vl l=0 then 0 else if neg then -1 else 1:=by
  unfold sg;by_cases h0:vl l=0
  ·rw[h0];cases neg<;>rfl
  rw[if_neg h0];cases neg
  ·simp;omega
  simp;omega
 rw[hs];generalize vl l=n at *;clear hs hr hl;by_cases h0:n=0
 ·rw[if_pos h0];have H0:=bH h0;clear h0;go_enter func204,ntmps204;go_wp2_with fail;refine (HB.o _ ((AK.refl _ w).alloc _)).mono ?_;rintro r w' ⟨q,rfl,hw,hq⟩;subst hw;obtain rfl:=hq.2 H0.o;clear HB hq;go_wp2;go_ret;exact⟨rfl,(AK.refl _ w).alloc _⟩
 rw[if_neg h0];have H0:=bH h0;clear h0;go_enter func204,ntmps204;go_wp2_with fail;refine (HB.o _ ((AK.refl _ w).alloc _)).mono ?_;rintro r w' ⟨q,rfl,hw,hq⟩;subst hw;have hq0:¬(q:Int)=0:=fun h=>H0.o (hq.1 (by omega));clear hq HB;cases neg
 ·go_wp2;go_ret;exact⟨rfl,(AK.refl _ w).alloc _⟩
 go_wp2;go_ret;exact⟨rfl,(AK.refl _ w).alloc _⟩
theorem L0(w:World) (k:Int) (h0:-9223372036854775808<=k) (h1:k<=9223372036854775807) :
  Calls prog 126 #[.int .i64 k] w (DK w k):=by
 by_cases hk:k<0
 ·obtain⟨n,hn⟩:∃n:Nat,k = -(n:Int):=⟨k.natAbs,by omega⟩;have HF:=bH (fun W=>FW W n (by omega));have HS:=bH (fun W v h=>D8 W true v n h (Nat.le_trans (GL (n:=n) (by omega)).1 (by omega)));have hz:sg true n=k:=(by unfold sg;simp[hn]);rw[hz] at HS;have q1:IntKind.u64.wrap (-IntKind.u64.wrap (-(n:Int)))=n:=(by rw[EJ,EJ];omega);subst hn;clear hz;go_enter func126,ntmps126;go_wp2_with fail;refine (HF.o _).mono ?_;rintro r w1 ⟨v1,rfl,h1,hx1⟩;have HS1:=bH (HS.o w1 v1 h1);obtain⟨ao,c,rfl⟩:=h1.shape;have hb0:A1 (w.alloc (.cells #[.bool false,.slice none 0 0] 32)) w.heap.size false (.slice none 0 0):=⟨AD _ _,fun _ _ h=>(by cases h)⟩;have HB1:=bH (hb0.ext hx1 id);have HX1:=bH (((AK.refl (fun _=>False) w).alloc _).trans hx1);clear hb0 h1 hx1;go_wp2_with fail;refine HS1.o.mono ?_;rintro r w2 ⟨v2,rfl,h2,hx2⟩;have hb2:=HB1.o.ext hx2 id;obtain⟨f0,f1,f2,f3⟩:=hb2.facts;obtain⟨neg,so,sn,sc,rfl⟩:=h2.shape;have hp:=hb2.put (neg:=neg) (AF so sn sc);have HR:Hid (Ay _ _ (-(n:Int))/\XF w _):=bH ⟨hp.int h2,(HX1.o.trans hx2).own hp.ext (fun k e=>by omega)⟩;have hg:=hp.box.facts;have HG:=bH hg;clear hb2 h2 hx2 hp hg;go_wp2;generalize (w2.setCell ⟨w.heap.size,0,none⟩ (.bool neg)).setCell ⟨w.heap.size,1,none⟩ (.slice so sn sc)=w9 at *;obtain⟨g0,g1,_⟩:=HG.o;exact bodyPost_ret (v:=.agg #[.bool neg,.slice so sn sc]) (by simp[results,results126,go_sem,g0,g1]) rfl ⟨_,rfl,HR.o.1,HR.o.2⟩
 obtain⟨n,hn⟩:∃n:Nat,k=(n:Int):=⟨k.natAbs,by omega⟩;have HF:=bH (fun W=>FW W n (by omega));have HS:=bH (fun W v h=>D8 W false v n h (Nat.le_trans (GL (n:=n) (by omega)).1 (by omega)));have hz:sg false n=k:=(by unfold sg;simp[hn]);rw[hz] at HS;have q1:IntKind.u64.wrap (n:Int)=n:=(by rw[EJ];omega);subst hn;clear hz;go_enter func126,ntmps126;go_wp2_with fail;refine (HF.o _).mono ?_;rintro r w1 ⟨v1,rfl,h1,hx1⟩;have HS1:=bH (HS.o w1 v1 h1);obtain⟨ao,c,rfl⟩:=h1.shape;have hb0:A1 (w.alloc (.cells #[.bool false,.slice none 0 0] 32)) w.heap.size false (.slice none 0 0):=⟨AD _ _,fun _ _ h=>(by cases h)⟩;have HB1:=bH (hb0.ext hx1 id);have HX1:=bH (((AK.refl (fun _=>False) w).alloc _).trans hx1);clear hb0 h1 hx1;go_wp2_with fail;refine HS1.o.mono ?_;rintro r w2 ⟨v2,rfl,h2,hx2⟩;have hb2:=HB1.o.ext hx2 id;obtain⟨f0,f1,f2,f3⟩:=hb2.facts;obtain⟨neg,so,sn,sc,rfl⟩:=h2.shape;have hp:=hb2.put (neg:=neg) (AF so sn sc);have HR:Hid (Ay _ _ (n:Int)/\XF w _):=bH ⟨hp.int h2,(HX1.o.trans hx2).own hp.ext (fun k e=>by omega)⟩;have hg:=hp.box.facts;have HG:=bH hg;clear hb2 h2 hx2 hp hg;go_wp2;generalize (w2.setCell ⟨w.heap.size,0,none⟩ (.bool neg)).setCell ⟨w.heap.size,1,none⟩ (.slice so sn sc)=w9 at *;obtain⟨g0,g1,_⟩:=HG.o;exact bodyPost_ret (v:=.agg #[.bool neg,.slice so sn sc]) (by simp[results,results126,go_sem,g0,g1]) rfl ⟨_,rfl,HR.o.1,HR.o.2⟩
theorem AR{W:World} {k:Nat} (hk:k=W.heap.size) (neg:Bool) (ao:Option Addr) (n c:Nat):A1 (W.alloc (.cells #[.bool neg,.slice ao n c] 32)) k neg (.slice ao n c):=by
 subst hk;exact⟨AD _ _,AF ao n c⟩
theorem A1.alloc{W:World} {k:Nat} {neg:Bool} {mag:Value} (h:A1 W k neg mag) (o:Obj):A1 (W.alloc o) k neg mag:=h.ext ((AK.refl (fun _=>False) W).alloc o) id
theorem TR(neg:Bool) (n:Nat):sg (!neg) n = -sg neg n:=by cases neg<;>simp[sg]
theorem IP{x y a b:Nat} (hx:x<4294967296 ^ a) (hy:y<4294967296 ^ b):(dg (x+y)).length<=max a b+1:=by
 refine As ?_;have h1:=An (Nat.le_max_left a b);have h2:=An (Nat.le_max_right a b);rw[DU];omega
theorem Bk{x y a b:Nat} (hx:x<4294967296 ^ a) (hy:y<4294967296 ^ b):(dg (x*y)).length<=a+b:=by
 refine As ?_;rw[Nat.pow_add];exact Nat.mul_lt_mul'' hx hy
theorem I6(w:World) (v:Value) (z:Int) (L:Nat) (h:Bf w v z L) (hL:L<=134217728) :
  Calls prog 217 #[v] w (DK w (-z)):=by
 obtain⟨neg,mag,l,rfl,hr,hl,rfl⟩:=h;have HA:=bH (fun W (hW:XF w W)=>P6 W mag (.slice none 0 0) l [] (hr.keep hW) (Ad.nil W) (by omega) (by simp));have hln:(dg (vl l)).length<=134217728:=Nat.le_trans (As (Ct hr.1)) (Nat.le_trans hl hL);rw[show vl l+vl []=vl l from rfl] at HA;have HS:=bH (fun W v h=>D8 W (!neg) v (vl l) h (by omega));rw[TR] at HS;have hmi:=hr.noInt;obtain⟨ao,c,rfl,_⟩:=hr.2;generalize l.length=m at *;generalize vl l=n at *;clear hr hl hln;go_enter func217,ntmps217;go_upto_region 0 with fail;go_cut [1,2] (fun v1 v2 wx=>∃b r,v1=.pointer (some ⟨b,0,none⟩)/\v2=.pointer (some ⟨r,0,none⟩)/\A1 wx b neg (.slice ao m c)/\A1 wx r false (.slice none 0 0)/\w.heap.size<=r/\XF w wx);case first =>
  go_wp2;go_meet;exact⟨_,_,rfl,rfl,(AR rfl neg ao m c).alloc _,AR (by simp) false none 0 0,(by omega),((AK.refl _ w).alloc _).alloc _⟩
 case rest =>
  obtain⟨b,r,rfl,rfl,hb,hrb,hle,hx⟩:=hcut;obtain⟨c0,c1,_⟩:=hb.facts;have HB:=bH (bI hb (bI hrb hx));clear hb hrb hx;go_upto_region 1 with fail;go_region_law (first
   | (go_simp;go_at_call 224;(with_reducible refine (HA.o _ ?_).mono ?_);(exact HB.o.2.2.drew);rintro r5 w5 ⟨v5,rfl,h5,hx5⟩;have hS5:=HS.o w5 v5 h5;obtain⟨c05,c15,_⟩:=((HB.o.1.ext (AK.refl (fun _=>False) wc).drew id).ext hx5 id).facts;have hr5:=(HB.o.2.1.ext (AK.refl (fun _=>False) wc).drew id).ext hx5 id;have hX5:=HB.o.2.2.drew.trans hx5;obtain⟨ao5,k5,rfl⟩:=h5.shape)
   | (go_simp;go_at_call 206;(with_reducible refine hS5.mono ?_);rintro r6 w6 ⟨v6,rfl,h6,hx6⟩;have hr6:=hr5.ext hx6 id;obtain⟨d0,d1,d2,d3⟩:=hr6.facts;have hX6:=hX5.trans hx6;obtain⟨neg6,so,sn,sc,rfl⟩:=h6.shape))
  all_goals
   have hp:=hr6.put (neg:=neg6) (AF so sn sc)
   have HR:=bH (bI (hp.int h6) (bI (hX6.own hp.ext (fun k e=>by omega)) hp.box))
   clear hp h6 hX6 hr6 hx6 d0 d1 d2 d3
   generalize (w6.setCell ⟨r,0,none⟩ (.bool neg6)).setCell ⟨r,1,none⟩ (.slice so sn sc)=w9 at *
   obtain⟨g0,g1,_⟩:=HR.o.2.2.facts
   go_wp2
   exact bodyPost_ret (v:=.agg #[.bool neg6,.slice so sn sc]) (by simp[results,results217,go_sem,g0,g1]) rfl ⟨_,rfl,HR.o.1,HR.o.2.1⟩
abbrev FD(b b':Nat) (n n':Bool) (m m':Value) (W:World):Prop :=
 W.cell? ⟨b,0,none⟩=some (.bool n)/\W.cell? ⟨b,1,none⟩=some m/\W.cell? ⟨b',0,none⟩=some (.bool n')/\W.cell? ⟨b',1,none⟩=some m'
theorem FD.of{b b':Nat} {n n':Bool} {m m':Value} {W:World} (h:A1 W b n m) (h':A1 W b' n' m'):FD b b' n n' m m' W:=⟨h.facts.1,h.facts.2.1,h'.facts.1,h'.facts.2.1⟩
theorem FD.drew{b b':Nat} {n n':Bool} {m m':Value} {W:World} (h:FD b b' n n' m m' W):FD b b' n n' m m' W.drew:=h
theorem FD.set{b b':Nat} {n n':Bool} {m m':Value} {W:World} (h:FD b b' n n' m m' W) (p:Addr) (u:Value) (h1:¬b=p.block) (h2:¬b'=p.block):FD b b' n n' m m' (W.setCell p u):=by
 obtain⟨a,b,c,d⟩:=h;exact⟨(World.cell?_setCell_other _ _ _ _ (fun e=>h1 (by rw[e]))).trans a,(World.cell?_setCell_other _ _ _ _ (fun e=>h1 (by rw[e]))).trans b,(World.cell?_setCell_other _ _ _ _ (fun e=>h2 (by rw[e]))).trans c,(World.cell?_setCell_other _ _ _ _ (fun e=>h2 (by rw[e]))).trans d⟩
theorem Su(a b:Bool) (x y:Nat):sg (a != b) (x*y)=sg a x*sg b y:=by
 cases a<;>cases b<;>simp[sg,Int.neg_mul,Int.mul_neg]
theorem Bf.open{w:World} {v:Value} {z:Int} {L:Nat} (h:Bf w v z L):∃neg ao m c l,v=.agg #[.bool neg,.slice ao m c]/\Ad w (.slice ao m c) l/\l.length<=L/\z=sg neg (vl l):=by
 obtain⟨neg,mag,l,rfl,hr,hl,rfl⟩:=h;obtain⟨ao,c,rfl,_⟩:=id hr.2;exact⟨neg,ao,_,c,l,rfl,hr,hl,rfl⟩
theorem DB(w:World) (v v':Value) (z z':Int) (L:Nat) (h:Bf w v z L) (h':Bf w v' z' L) (hL:L<=67108864) :
  Calls prog 188 #[v,v'] w (DK w (z*z')):=by
 obtain⟨neg,ao,m,c,l,rfl,hr,hl,rfl⟩:=h.open;obtain⟨neg',ao',m',c',l',rfl,hr',hl',rfl⟩:=h'.open;have HA:=bH (fun W (hW:XF w W)=>UH W _ _ l l' (hr.keep hW) (hr'.keep hW) (by omega) (by omega));have hln:=Bk (Ct hr.1) (Ct hr'.1);rw[<- Su];obtain⟨s,hs⟩:=bN ((neg != neg'));rw[hs];have hs':(!(neg == neg'))=s:=hs;have HS:=bH (fun W v h=>D8 W s v (vl l*vl l') h (by omega));generalize vl l*vl l'=n at *;clear hr hl hln hr' hl' h h' hs;go_enter func188,ntmps188;go_upto_region 0 with fail;go_cut [2,3,4] (fun v1 v2 v3 wx=>∃b b' r,v1=.pointer (some ⟨b,0,none⟩)/\v2=.pointer (some ⟨b',0,none⟩)/\v3=.pointer (some ⟨r,0,none⟩)/\A1 wx b neg (.slice ao m c)/\A1 wx b' neg' (.slice ao' m' c')/\A1 wx r false (.slice none 0 0)/\¬b=r/\¬b'=r/\w.heap.size<=r/\XF w wx);case first =>
  go_wp2;go_meet;exact⟨_,_,_,rfl,rfl,rfl,((AR rfl neg ao m c).alloc _).alloc _,(AR (by simp) neg' ao' m' c').alloc _,AR (by simp) false none 0 0,(by omega),(by omega),(by omega),(((AK.refl _ w).alloc _).alloc _).alloc _⟩
 case rest =>
  obtain⟨b,b',r,rfl,rfl,rfl,hb,hb',hrb,n1,n2,hle,hx⟩:=hcut;have hS:=FD.of hb hb';have HB:=bH (bI hb (bI hb' (bI hrb hx)));clear hb hb' hrb hx;go_upto_region 1 with fail;go_region_held3 (FD b b' neg neg' (.slice ao m c) (.slice ao' m' c'))
   (repeat (first|(with_reducible assumption)|(with_reducible refine FD.drew ?_)|(with_reducible refine FD.set ?_ _ _ ?_ ?_)|(dsimp only;omega)))
   (first
    | (go_at_call 237;(with_reducible refine (HA.o _ ?_).mono ?_);(exact HB.o.2.2.2.drew);rintro r5 w5 ⟨v5,rfl,h5,hx5⟩;have hS5:=HS.o w5 v5 h5;have hK5:=FD.of ((HB.o.1.ext (AK.refl (fun _=>False) wc).drew id).ext hx5 id) ((HB.o.2.1.ext (AK.refl (fun _=>False) wc).drew id).ext hx5 id);have hr5:=(HB.o.2.2.1.ext (AK.refl (fun _=>False) wc).drew id).ext hx5 id;have hX5:=HB.o.2.2.2.drew.trans hx5;obtain⟨ao5,k5,rfl⟩:=h5.shape)
    | (go_at_call 206;(with_reducible refine hS5.mono ?_);rintro r6 w6 ⟨v6,rfl,h6,hx6⟩;have hr6:=hr5.ext hx6 id;obtain⟨d0,d1,d2,d3⟩:=hr6.facts;have hX6:=hX5.trans hx6;have hK6:=FD.of (((HB.o.1.ext (AK.refl (fun _=>False) wc).drew id).ext hx5 id).ext hx6 id) (((HB.o.2.1.ext (AK.refl (fun _=>False) wc).drew id).ext hx5 id).ext hx6 id);obtain⟨neg6,so,sn,sc,rfl⟩:=h6.shape))
  all_goals
   have hp:=hr6.put (neg:=neg6) (AF so sn sc)
   have HR:=bH (bI (hp.int h6) (bI (hX6.own hp.ext (fun k e=>by omega)) hp.box))
   clear hp h6 hX6 hr6 hx6 d0 d1 d2 d3
   generalize (w6.setCell ⟨r,0,none⟩ (.bool neg6)).setCell ⟨r,1,none⟩ (.slice so sn sc)=w9 at *
   obtain⟨g0,g1,_⟩:=HR.o.2.2.facts
   go_wp2
   exact bodyPost_ret (v:=.agg #[.bool neg6,.slice so sn sc]) (by simp[results,results188,go_sem,g0,g1]) rfl ⟨_,rfl,HR.o.1,HR.o.2.1⟩
theorem ST(a:Bool) (x y:Nat):sg a (x+y)=sg a x+sg a y:=by cases a<;>simp[sg]<;>omega
theorem Mw(a b:Bool) (x y:Nat) (h:y<=x) (hab:¬a=b):sg a (x-y)=sg a x+sg b y:=by
 cases a<;>cases b<;>simp[sg] at*<;> omega
theorem Km{n x y a b:Nat} (h:n<=max x y) (hx:x<4294967296 ^ a) (hy:y<4294967296 ^ b):(dg n).length<=max a b:=by
 refine As ?_;have h1:=An (Nat.le_max_left a b);have h2:=An (Nat.le_max_right a b);omega
theorem KR(w:World) (v v':Value) (z z':Int) (L:Nat) (h:Bf w v z L) (h':Bf w v' z' L) (hL:L<=134217728) :
  Calls prog 181 #[v,v'] w (DK w (z+z')):=by
 obtain⟨neg,ao,m,c,l,rfl,hr,hl,rfl⟩:=h.open;obtain⟨neg',ao',m',c',l',rfl,hr',hl',rfl⟩:=h'.open;have HA:=bH (fun W (hW:XF w W)=>P6 W _ _ l l' (hr.keep hW) (hr'.keep hW) (by omega) (by omega));have HC:=bH (fun W (hW:XF w W)=>Iv W _ _ l l' (hr.keep hW) (hr'.keep hW) (by omega) (by omega));have HD:=bH (fun W (h1:Ad W (.slice ao m c) l) (h2:Ad W (.slice ao' m' c') l')=>Pt W _ _ l l' h1 h2 (by omega) (by omega));have HD':=bH (fun W (h1:Ad W (.slice ao m c) l) (h2:Ad W (.slice ao' m' c') l')=>Pt W _ _ l' l h2 h1 (by omega) (by omega));have hln:=IP (Ct hr.1) (Ct hr'.1);have hS2:=fun n (h:n<=max (vl l) (vl l'))=>Km h (Ct hr.1) (Ct hr'.1);have HS:=bH (fun W s v n (h:Ab W v n) (hn:n<=max (vl l) (vl l')∨n=vl l+vl l')=>D8 W s v n h (by
  rcases hn with hn|rfl
  ·have:=hS2 n hn;omega
  omega))
 have HR0:=bH (bI hr hr');generalize vl l=x at *;generalize vl l'=y at *;clear hr hl hln hr' hl' h h' hS2;obtain⟨Z,hZ⟩:=bN (sg neg x+sg neg' y);rw[hZ];have HZ:=bH hZ;clear hZ;go_enter func181,ntmps181;go_upto_region 0 with fail;go_cut [2,3,4] (fun v1 v2 v3 wx=>∃b b' r,v1=.pointer (some ⟨b,0,none⟩)/\v2=.pointer (some ⟨b',0,none⟩)/\v3=.pointer (some ⟨r,0,none⟩)/\A1 wx b neg (.slice ao m c)/\A1 wx b' neg' (.slice ao' m' c')/\A1 wx r false (.slice none 0 0)/\¬b=b'/\¬b=r/\¬b'=r/\w.heap.size<=b/\w.heap.size<=b'/\w.heap.size<=r/\XF w wx);case first =>
  go_wp2;go_meet;exact⟨_,_,_,rfl,rfl,rfl,((AR rfl neg ao m c).alloc _).alloc _,(AR (by simp) neg' ao' m' c').alloc _,AR (by simp) false none 0 0,(by omega),(by omega),(by omega),(by omega),(by omega),(by omega),(((AK.refl _ w).alloc _).alloc _).alloc _⟩
 case rest =>
  obtain⟨b,b',r,rfl,rfl,rfl,hb,hb',hrb,n0,n1,n2,le1,le2,hle,hx⟩:=hcut;have hS:=FD.of hb hb';obtain⟨c0,c1,c2,c3⟩:=hb.facts;obtain⟨e0,e1,e2,e3⟩:=hb'.facts;have HB:=bH (bI hb (bI hb' (bI hrb hx)));clear hb hb' hrb hx;by_cases hn:neg=neg'
  ·subst hn;have HS1:=bH (fun W v h=>HS.o W neg v (x+y) h (.inr rfl));rw[ST,HZ.o] at HS1;clear c2 c3 e2 e3;go_upto_region 2 with fail;go_region_held3 (FD b b' neg neg (.slice ao m c) (.slice ao' m' c'))
    (repeat (first|(with_reducible assumption)|(with_reducible refine FD.drew ?_)|(with_reducible refine FD.set ?_ _ _ ?_ ?_)|(dsimp only;omega)))
    (first
     | (go_at_call 224;(with_reducible refine (HA.o _ ?_).mono ?_);(exact HB.o.2.2.2.drew);rintro r5 w5 ⟨v5,rfl,h5,hx5⟩;have hS5:=HS1.o w5 v5 h5;have hK5:=FD.of ((HB.o.1.ext (AK.refl (fun _=>False) wc).drew id).ext hx5 id) ((HB.o.2.1.ext (AK.refl (fun _=>False) wc).drew id).ext hx5 id);have hr5:=(HB.o.2.2.1.ext (AK.refl (fun _=>False) wc).drew id).ext hx5 id;have hX5:=HB.o.2.2.2.drew.trans hx5;obtain⟨ao5,k5,rfl⟩:=h5.shape)
     | (go_at_call 206;(with_reducible refine hS5.mono ?_);rintro r6 w6 ⟨v6,rfl,h6,hx6⟩;have hr6:=hr5.ext hx6 id;obtain⟨d0,d1,d2,d3⟩:=hr6.facts;have hX6:=hX5.trans hx6;have hK6:=FD.of (((HB.o.1.ext (AK.refl (fun _=>False) wc).drew id).ext hx5 id).ext hx6 id) (((HB.o.2.1.ext (AK.refl (fun _=>False) wc).drew id).ext hx5 id).ext hx6 id);obtain⟨neg6,so,sn,sc,rfl⟩:=h6.shape))
   all_goals
    have hp:=hr6.put (neg:=neg6) (AF so sn sc)
    have HR:=bH (bI (hp.int h6) (bI (hX6.own hp.ext (fun k e=>by omega)) hp.box))
    clear hp h6 hX6 hr6 hx6 d0 d1 d2 d3
    generalize (w6.setCell ⟨r,0,none⟩ (.bool neg6)).setCell ⟨r,1,none⟩ (.slice so sn sc)=w9 at *
    obtain⟨g0,g1,_⟩:=HR.o.2.2.facts
    go_wp2
    exact bodyPost_ret (v:=.agg #[.bool neg6,.slice so sn sc]) (by simp[results,results181,go_sem,g0,g1]) rfl ⟨_,rfl,HR.o.1,HR.o.2.1⟩
  have hne:(neg == neg')=false:=(by simpa using hn);have HC1:=bH (HC.o wc HB.o.2.2.2);by_cases hxy:x<y
  ·have e:CA x y = -1:=(by unfold CA;rw[if_pos hxy]);rw[e] at HC1;have HS1:=bH (fun W v h=>HS.o W neg' v (y-x) h (.inl (by omega)));rw[Mw neg' neg y x (by omega) (fun h=>hn h.symm),Int.add_comm,HZ.o] at HS1;have Hxy:=bH hxy;clear e hn hxy;go_wp2_with fail;refine HC1.o.mono ?_;rintro r7 w' ⟨rfl,hw⟩;obtain rfl:=hw.symm;clear hw HC1;go_upto_region 4 with fail;go_cut [] (fun wx=>A1 wx b neg' (.slice ao' m' c')/\A1 wx b' neg (.slice ao m c)/\A1 wx r false (.slice none 0 0)/\Ad wx (.slice ao m c) l/\Ad wx (.slice ao' m' c') l'/\XF w wx);case first =>
    go_wp2;go_meet;have hp1:=HB.o.1.put (neg:=neg') (AF ao' m' c');have hp2:=(HB.o.2.1.ext hp1.ext (fun e=>n0 e.symm)).put (neg:=neg) (AF ao m c);exact⟨hp1.box.ext hp2.ext n0,hp2.box,(HB.o.2.2.1.ext hp1.ext (fun e=>n1 e.symm)).ext hp2.ext (fun e=>n2 e.symm),hp2.rds _ _ (hp1.rds _ _ (HR0.o.1.keep HB.o.2.2.2)),hp2.rds _ _ (hp1.rds _ _ (HR0.o.2.keep HB.o.2.2.2)),(HB.o.2.2.2.own hp1.ext (fun k e=>by omega)).own hp2.ext (fun k e=>by omega)⟩
   case rest =>
    obtain⟨hb,hb',hrb,hr1,hr2,hx⟩:=hcut;have HD1:=bH (HD'.o wc hr1 hr2);have hnl:¬y<x:=(by have:=Hxy.o;omega);obtain⟨c0,c1,_⟩:=hb.facts;obtain⟨e0,e1,_⟩:=hb'.facts;have HB':=bH (bI hb (bI hrb hx));have Hnl:=bH hnl;clear hb hb' hrb hx hnl;go_wp2_with fail;refine HD1.o.mono ?_;intro r7 w7 hp7;unfold Fn at hp7;rw[if_neg Hnl.o] at hp7;obtain⟨v7,rfl,h7,hx7⟩:=hp7;have HS7:=bH (HS1.o w7 v7 h7);obtain⟨c07,c17,_⟩:=(HB'.o.1.ext hx7 id).facts;have HB7:=bH (bI (HB'.o.2.1.ext hx7 id) (HB'.o.2.2.trans hx7));obtain⟨ao7,k7,rfl⟩:=h7.shape;clear h7 hx7;go_wp2_with fail;refine HS7.o.mono ?_;rintro r8 w6 ⟨v6,rfl,h6,hx6⟩;have hr6:=HB7.o.1.ext hx6 id;obtain⟨d0,d1,d2,d3⟩:=hr6.facts;have hX6:=HB7.o.2.trans hx6;obtain⟨neg6,so,sn,sc,rfl⟩:=h6.shape;have hp:=hr6.put (neg:=neg6) (AF so sn sc);have HR:=bH (bI (hp.int h6) (bI (hX6.own hp.ext (fun k e=>by omega)) hp.box));clear hp h6 hX6 hr6 hx6;go_wp2;generalize (w6.setCell ⟨r,0,none⟩ (.bool neg6)).setCell ⟨r,1,none⟩ (.slice so sn sc)=w9 at *;obtain⟨g0,g1,_⟩:=HR.o.2.2.facts;exact bodyPost_ret (v:=.agg #[.bool neg6,.slice so sn sc]) (by simp[results,results181,go_sem,g0,g1]) rfl ⟨_,rfl,HR.o.1,HR.o.2.1⟩
  have e:¬CA x y<0:=(by unfold CA;rw[if_neg hxy];split<;>omega);generalize hq:CA x y=cq at *;have HS1:=bH (fun W v h=>HS.o W neg v (x-y) h (.inl (by omega)));rw[Mw neg neg' x y (by omega) hn,HZ.o] at HS1;have Hxy:=bH hxy;clear hq hn hxy;go_wp2_with fail;refine HC1.o.mono ?_;rintro r7 w' ⟨rfl,hw⟩;obtain rfl:=hw.symm;clear hw HC1;obtain⟨hb,hb',hrb,hx⟩:=HB.o;have HD1:=bH (HD.o wc (HR0.o.1.keep hx) (HR0.o.2.keep hx));have hnl:¬x<y:=Hxy.o;obtain⟨c0,c1,_⟩:=hb.facts;obtain⟨e0,e1,_⟩:=hb'.facts;have HB':=bH (bI hb (bI hrb hx));have Hnl:=bH hnl;clear hb hb' hrb hx hnl;go_wp2_with fail;refine HD1.o.mono ?_;intro r7 w7 hp7;unfold Fn at hp7;rw[if_neg Hnl.o] at hp7;obtain⟨v7,rfl,h7,hx7⟩:=hp7;have HS7:=bH (HS1.o w7 v7 h7);obtain⟨c07,c17,_⟩:=(HB'.o.1.ext hx7 id).facts;have HB7:=bH (bI (HB'.o.2.1.ext hx7 id) (HB'.o.2.2.trans hx7));obtain⟨ao7,k7,rfl⟩:=h7.shape;clear h7 hx7;go_wp2_with fail;refine HS7.o.mono ?_;rintro r8 w6 ⟨v6,rfl,h6,hx6⟩;have hr6:=HB7.o.1.ext hx6 id;obtain⟨d0,d1,d2,d3⟩:=hr6.facts;have hX6:=HB7.o.2.trans hx6;obtain⟨neg6,so,sn,sc,rfl⟩:=h6.shape;have hp:=hr6.put (neg:=neg6) (AF so sn sc);have HR:=bH (bI (hp.int h6) (bI (hX6.own hp.ext (fun k e=>by omega)) hp.box));clear hp h6 hX6 hr6 hx6;go_wp2;generalize (w6.setCell ⟨r,0,none⟩ (.bool neg6)).setCell ⟨r,1,none⟩ (.slice so sn sc)=w9 at *;obtain⟨g0,g1,_⟩:=HR.o.2.2.facts;exact bodyPost_ret (v:=.agg #[.bool neg6,.slice so sn sc]) (by simp[results,results181,go_sem,g0,g1]) rfl ⟨_,rfl,HR.o.1,HR.o.2.1⟩
theorem Bf.len{w:World} {v:Value} {z:Int} {L:Nat} (h:Bf w v z L):(dg z.natAbs).length<=L:=by
 obtain⟨neg,mag,l,rfl,hr,hl,rfl⟩:=h;rw[Eg];exact Nat.le_trans (As (Ct hr.1)) hl
theorem Bf.mono{w:World} {v:Value} {z:Int} {L M:Nat} (h:Bf w v z L) (hl:L<=M):Bf w v z M:=by
 obtain⟨neg,mag,l,h1,hr,h2,h3⟩:=h;exact⟨neg,mag,l,h1,hr,Nat.le_trans h2 hl,h3⟩
theorem I8{x y:Int} {L:Nat} (hx:(dg x.natAbs).length<=L) (hy:(dg y.natAbs).length<=L):(dg (x+y).natAbs).length<=L+1:=by
 have h1:=CP x.natAbs;have h2:=CP y.natAbs;have h3:=Nat.lt_of_lt_of_le h1 (An hx);have h4:=Nat.lt_of_lt_of_le h2 (An hy);refine As ?_;rw[DU];omega
theorem CQ{x y:Int} {L M:Nat} (hx:(dg x.natAbs).length<=L) (hy:(dg y.natAbs).length<=M):(dg (x*y).natAbs).length<=L+M:=by
 have h3:=Nat.lt_of_lt_of_le (CP x.natAbs) (An hx);have h4:=Nat.lt_of_lt_of_le (CP y.natAbs) (An hy);rw[Int.natAbs_mul];exact Bk h3 h4
theorem ON(w:World) (v v':Value) (z z':Int) (L:Nat) (h:Bf w v z L) (h':Bf w v' z' L) (hL:L<=134217728) :
  Calls prog 236 #[v,v'] w (DK w (z-z')):=by
 have HN:=bH (fun W (hW:XF w W)=>I6 W v' z' L (h'.keep hW) hL);have hl':(dg (-z').natAbs).length<=L:=by rw[Int.natAbs_neg];exact h'.len
 have HA:=bH (fun W (hW:XF w W) u (hu:Ay W u (-z'))=>KR W v u z (-z') L (h.keep hW) (hu.reads hl') hL);rw[<- Int.sub_eq_add_neg] at HA;obtain⟨neg,ao,m,c,l,rfl,_,_,_⟩:=h.open;obtain⟨neg',ao',m',c',l',rfl,_,_,_⟩:=h'.open;clear h h' hl';go_enter func236,ntmps236;go_upto_region 0 with fail;go_cut [2,3,4] (fun v1 v2 v3 wx=>∃b b' r,v1=.pointer (some ⟨b,0,none⟩)/\v2=.pointer (some ⟨b',0,none⟩)/\v3=.pointer (some ⟨r,0,none⟩)/\A1 wx b neg (.slice ao m c)/\A1 wx b' neg' (.slice ao' m' c')/\A1 wx r false (.slice none 0 0)/\¬b=r/\¬b'=r/\w.heap.size<=r/\XF w wx);case first =>
  go_wp2;go_meet;exact⟨_,_,_,rfl,rfl,rfl,((AR rfl neg ao m c).alloc _).alloc _,(AR (by simp) neg' ao' m' c').alloc _,AR (by simp) false none 0 0,(by omega),(by omega),(by omega),(((AK.refl _ w).alloc _).alloc _).alloc _⟩
 case rest =>
  obtain⟨b,b',r,rfl,rfl,rfl,hb,hb',hrb,n1,n2,hle,hx⟩:=hcut;have hS:=FD.of hb hb';have HB:=bH (bI hb (bI hb' (bI hrb hx)));clear hb hb' hrb hx;go_upto_region 1 with fail;go_region_held3 (FD b b' neg neg' (.slice ao m c) (.slice ao' m' c'))
   (repeat (first|(with_reducible assumption)|(with_reducible refine FD.drew ?_)|(with_reducible refine FD.set ?_ _ _ ?_ ?_)|(dsimp only;omega)))
   (first
    | (go_at_call 217;(with_reducible refine (HN.o _ ?_).mono ?_);(exact HB.o.2.2.2.drew);rintro r5 w5 ⟨v5,rfl,h5,hx5⟩;have hX5:=HB.o.2.2.2.drew.trans hx5;have hA5:=HA.o w5 hX5 v5 h5;have hK5:=FD.of ((HB.o.1.ext (AK.refl (fun _=>False) wc).drew id).ext hx5 id) ((HB.o.2.1.ext (AK.refl (fun _=>False) wc).drew id).ext hx5 id);have hr5:=(HB.o.2.2.1.ext (AK.refl (fun _=>False) wc).drew id).ext hx5 id;obtain⟨neg5,ao5,n5,k5,rfl⟩:=h5.shape)
    | (go_at_call 181;(with_reducible refine hA5.mono ?_);rintro r6 w6 ⟨v6,rfl,h6,hx6⟩;have hr6:=hr5.ext hx6 id;obtain⟨d0,d1,d2,d3⟩:=hr6.facts;have hX6:=hX5.trans hx6;have hK6:=FD.of (((HB.o.1.ext (AK.refl (fun _=>False) wc).drew id).ext hx5 id).ext hx6 id) (((HB.o.2.1.ext (AK.refl (fun _=>False) wc).drew id).ext hx5 id).ext hx6 id);obtain⟨neg6,so,sn,sc,rfl⟩:=h6.shape))
  all_goals
   have hp:=hr6.put (neg:=neg6) (AF so sn sc)
   have HR:=bH (bI (hp.int h6) (bI (hX6.own hp.ext (fun k e=>by omega)) hp.box))
   clear hp h6 hX6 hr6 hx6 d0 d1 d2 d3
   generalize (w6.setCell ⟨r,0,none⟩ (.bool neg6)).setCell ⟨r,1,none⟩ (.slice so sn sc)=w9 at *
   obtain⟨g0,g1,_⟩:=HR.o.2.2.facts
   go_wp2
   exact bodyPost_ret (v:=.agg #[.bool neg6,.slice so sn sc]) (by simp[results,results236,go_sem,g0,g1]) rfl ⟨_,rfl,HR.o.1,HR.o.2.1⟩
theorem Sd(w:World) (v v':Value) (z z':Int) (L:Nat) (h:Bf w v z L) (h':Bf w v' z' L) (hL:L<=134217728) :
  Calls prog 187 #[v,v'] w fun r w'=>r=.returned (.int .i64 (z-z').sign)/\XF w w':=by
 have HN:=bH (fun W (hW:XF w W)=>ON W v v' z z' L (h.keep hW) (h'.keep hW) hL);have hl':(dg (z-z').natAbs).length<=L+1:=by
  rw[Int.sub_eq_add_neg];exact I8 h.len (by rw[Int.natAbs_neg];exact h'.len)
 have HA:=bH (fun W u (hu:Ay W u (z-z'))=>El W u (z-z') (L+1) (hu.reads hl') (by omega));obtain⟨neg,ao,m,c,l,rfl,_,_,_⟩:=h.open;obtain⟨neg',ao',m',c',l',rfl,_,_,_⟩:=h'.open;clear h h' hl';generalize z-z'=d at *;go_enter func187,ntmps187;go_wp2_with fail;refine (HN.o _ (((AK.refl _ w).alloc _).alloc _)).mono ?_;rintro r5 w5 ⟨v5,rfl,h5,hx5⟩;have hA5:=bH (HA.o w5 v5 h5);have HX:=bH ((((AK.refl (fun _=>False) w).alloc _).alloc _).trans hx5);clear h5 hx5;go_wp2_with fail;refine hA5.o.mono ?_;rintro r6 w6 ⟨rfl,hx6⟩;have HX6:=bH (HX.o.trans hx6);clear hx6;go_wp2;go_ret;exact⟨rfl,HX6.o⟩
abbrev QE(b b' b2:Nat) (n n' n2:Bool) (m m' m2:Value) (W:World):Prop :=
 W.cell? ⟨b,0,none⟩=some (.bool n)/\W.cell? ⟨b,1,none⟩=some m/\W.cell? ⟨b',0,none⟩=some (.bool n')/\W.cell? ⟨b',1,none⟩=some m'/\W.cell? ⟨b2,0,none⟩=some (.bool n2)/\W.cell? ⟨b2,1,none⟩=some m2
theorem QE.of{b b' b2:Nat} {n n' n2:Bool} {m m' m2:Value} {W:World} (h:A1 W b n m) (h':A1 W b' n' m') (h2:A1 W b2 n2 m2):QE b b' b2 n n' n2 m m' m2 W:=⟨h.facts.1,h.facts.2.1,h'.facts.1,h'.facts.2.1,h2.facts.1,h2.facts.2.1⟩
theorem QE.drew{b b' b2:Nat} {n n' n2:Bool} {m m' m2:Value} {W:World} (h:QE b b' b2 n n' n2 m m' m2 W):QE b b' b2 n n' n2 m m' m2 W.drew:=h
theorem AY{W:World} {b i:Nat} {p:Addr} {u:Value} {x:Option Value} (h:W.cell? ⟨b,i,none⟩=x) (hn:¬b=p.block):(W.setCell p u).cell? ⟨b,i,none⟩=x :=
 (World.cell?_setCell_other _ _ _ _ (fun e=>hn (by rw[e]))).trans h
theorem QE.set{b b' b2:Nat} {n n' n2:Bool} {m m' m2:Value} {W:World} (h:QE b b' b2 n n' n2 m m' m2 W) (p:Addr) (u:Value) (h1:¬b=p.block) (h2:¬b'=p.block) (h3:¬b2=p.block):QE b b' b2 n n' n2 m m' m2 (W.setCell p u):=by
 obtain⟨a1,a2,a3,a4,a5,a6⟩:=h;exact⟨AY a1 h1,AY a2 h1,AY a3 h2,AY a4 h2,AY a5 h3,AY a6 h3⟩
theorem Tl(b:Bool):sg b 0=0:=by cases b<;>rfl
theorem Ib(x y:Nat):(x:Int).tdiv (y:Int)=((x/y:Nat):Int):=rfl
theorem C7{x:Nat} (h:0<x):(x:Int).sign=1:=Int.sign_eq_one_of_pos (by omega)
theorem QF(z z':Int):sg (decide (z.sign*z'.sign<0)) (z.natAbs/z'.natAbs)=z.tdiv z':=by
 by_cases hq:z.natAbs/z'.natAbs=0
 ·rw[hq,Tl];have:(z.tdiv z').natAbs=0:=(by rw[Int.natAbs_tdiv];exact hq);omega
 have hy:0<z'.natAbs:=Nat.pos_of_ne_zero (fun h=>hq (by rw[h,Nat.div_zero]));have hx:0<z.natAbs:=Nat.pos_of_ne_zero (fun h=>hq (by rw[h,Nat.zero_div]));rcases Int.natAbs_eq z with h|h<;>rcases Int.natAbs_eq z' with h'|h'<;>generalize z.natAbs=x at*<;> generalize z'.natAbs=y at*<;> subst h<;>subst h'
 ·rw[C7 hx,C7 hy];rfl
 ·rw[Int.sign_neg,C7 hx,C7 hy,Int.tdiv_neg];rfl
 ·rw[Int.sign_neg,C7 hx,C7 hy,Int.neg_tdiv];rfl
 rw[Int.sign_neg,Int.sign_neg,C7 hx,C7 hy,Int.neg_tdiv,Int.tdiv_neg,Int.neg_neg];rfl
theorem S6(w:World) (a b:Bool):Calls prog 279 #[.bool a,.bool b] w fun r w'=>r=.returned (.bool false)/\w'=w:=by
 go_enter func279,ntmps279;go_wp2;go_ret;exact⟨rfl,rfl⟩
def Gs(w:World) (z z':Int) (r:Ending) (w':World):Prop :=
 ∃q s,r=.returned (.tuple #[q,s,.int .i64 0])/\Ay w' q (z.tdiv z')/\Ay w' s (z-z.tdiv z'*z')/\XF w w'
theorem PO(w:World) (v v':Value) (z z':Int) (L:Nat) (h:Bf w v z L) (h':Bf w v' z' L) (h0:¬z'=0) (hL:L<=33554432) :
  Calls prog 266 #[v,v',.func (.func 279) #[] #[]] w (Gs w z z'):=by
 have HG1:=bH (fun W (hW:XF w W)=>El W v z L (h.keep hW) (by omega));have HG2:=bH (fun W (hW:XF w W)=>El W v' z' L (h'.keep hW) (by omega));have hlq:(dg (z.tdiv z').natAbs).length<=L:=by
  rw[Int.natAbs_tdiv];exact Nat.le_trans (Bu (Nat.div_le_self _ _)) h.len
 have HM:=bH (fun W (hW:XF w W) u (hu:Ay W u (z.tdiv z'))=>DB W u v' (z.tdiv z') z' L (hu.reads hlq) (h'.keep hW) (by omega));have HU:=bH (fun W (hW:XF w W) u (hu:Ay W u (z.tdiv z'*z'))=>ON W v u z (z.tdiv z'*z') (L+L) ((h.keep hW).mono (by omega)) (hu.reads (CQ hlq h'.len)) (by omega));have hsg:=QF z z';have hlz:=h.len;obtain⟨neg,ao,m,c,l,rfl,hr,hl,hz⟩:=h.open;obtain⟨neg',ao',m',c',l',rfl,hr',hl',hz'⟩:=h'.open;have HD:=bH (fun W (hW:XF w W)=>LI W _ _ l l' (hr.keep hW) (hr'.keep hW) (by omega) (by omega));have e1:vl l=z.natAbs:=by rw[hz,Eg]
 have e2:vl l'=z'.natAbs:=by rw[hz',Eg]
 rw[e1,e2] at HD;have hy0:¬z'.natAbs=0:=by omega
 have hDP:∀W,CV W z.natAbs z'.natAbs=fun r w'=>∃v1 v2,r=.returned (.tuple #[v1,v2,.int .i64 0])/\Ab w' v1 (z.natAbs/z'.natAbs)/\Ab w' v2 (z.natAbs%z'.natAbs)/\XF W w':=fun W=>by
  funext r w';unfold CV;rw[if_neg hy0]
 simp only[hDP] at HD;have HS:=bH (fun W v n (hn:Ab W v (z.natAbs/z'.natAbs))=>D8 W n v _ hn (Nat.le_trans (Nat.le_trans (Bu (Nat.div_le_self _ _)) hlz) (by omega)));have hPb:-1<=z.sign*z'.sign/\z.sign*z'.sign<=1:=by
  rcases Int.sign_trichotomy z with h|h|h<;>rcases Int.sign_trichotomy z' with h'|h'|h'<;>rw[h,h']<;>decide
 have hPw:IntKind.i64.wrap (z.sign*z'.sign)=z.sign*z'.sign:=IntWalk.i64_in _ (by omega);obtain⟨PP,hPP⟩:=bN (z.sign*z'.sign);rw[hPP] at hPw hPb hsg;obtain⟨P,hP⟩:=bN (decide (PP<0));rw[hP] at hsg;have Hsg:=bH hsg;generalize z.natAbs/z'.natAbs=x at *;generalize z.natAbs%z'.natAbs=y at *;unfold Gs;have hq:∀t t':Int,t=t->t'=t'->True:=fun _ _ _ _=>trivial;clear hr hr' hl hl' h h' hz hz' e1 e2 hy0 hDP hlq hlz hsg hq;generalize z.tdiv z'=q at *;generalize z-q*z'=s at *;generalize q*z'=qz at *;generalize z.sign=sz at *;generalize z'.sign=sz' at *;go_enter func266,ntmps266;go_upto_region 0 with fail;go_cut [3,4,6,7,8] (fun v1 v2 v3 v4 v8 wx=>∃b b' r r',v1=.pointer (some ⟨b,0,none⟩)/\v2=.pointer (some ⟨b',0,none⟩)/\v3=.pointer (some ⟨r,0,none⟩)/\v4=.pointer (some ⟨r',0,none⟩)/\v8=.int .i64 0/\A1 wx b neg (.slice ao m c)/\A1 wx b' neg' (.slice ao' m' c')/\A1 wx r false (.slice none 0 0)/\A1 wx r' false (.slice none 0 0)/\¬b=r/\¬b'=r/\¬b=r'/\¬b'=r'/\¬r=r'/\w.heap.size<=r/\w.heap.size<=r'/\XF w wx);case first =>
  go_wp2;go_meet;exact⟨_,_,_,_,rfl,rfl,rfl,rfl,rfl,(((AR rfl neg ao m c).alloc _).alloc _).alloc _,((AR (by simp) neg' ao' m' c').alloc _).alloc _,(AR (by simp) false none 0 0).alloc _,AR (by simp) false none 0 0,(by omega),(by omega),(by omega),(by omega),(by omega),(by omega),(by omega),((((AK.refl _ w).alloc _).alloc _).alloc _).alloc _⟩
 case rest =>
  obtain⟨b,b',r,r',rfl,rfl,rfl,rfl,rfl,hb,hb',hrb,hrb',n1,n2,n3,n4,n5,hle,hle',hx⟩:=hcut;obtain⟨c0,c1,_⟩:=hb.facts;obtain⟨e0,e1,_⟩:=hb'.facts;have HD1:=bH (HD.o wc hx);have HB:=bH (bI hb (bI hb' (bI hrb (bI hrb' hx))));clear hb hb' hrb hrb' hx;go_wp2_with fail;refine HD1.o.mono ?_;rintro r1 w1 ⟨v1,v2,rfl,h1,h2,hx1⟩;have hS:=FD.of (HB.o.1.ext hx1 id) (HB.o.2.1.ext hx1 id);have HX1:=bH (bI hx1 h1);obtain⟨ao2,c2,rfl⟩:=h2.shape;obtain⟨ao1,c1',rfl⟩:=h1.shape;clear h1 h2 hx1 c0 c1 e0 e1;generalize (dg y).length=ly at *;generalize (dg x).length=lx at *;go_upto_region 4 with fail;go_region_held3 (FD b b' neg neg' (.slice ao m c) (.slice ao' m' c'))
   (repeat (first|(with_reducible assumption)|(with_reducible refine FD.drew ?_)|(with_reducible refine FD.set ?_ _ _ ?_ ?_)|(dsimp only;omega)))
   (first
    | (go_at_call 204;(with_reducible refine (HG1.o _ ?_).mono ?_);(exact (HB.o.2.2.2.2.trans HX1.o.1).drew);rintro r2 w2 ⟨rfl,hx2⟩;have hX2:=HX1.o.1.drew.trans hx2;have hK2:=FD.of (HB.o.1.ext hX2 id) (HB.o.2.1.ext hX2 id))
    | (go_at_call 204;(with_reducible refine (HG2.o _ ?_).mono ?_);(exact HB.o.2.2.2.2.trans hX2);rintro r3 w3 ⟨rfl,hx3⟩;have hX3:=hX2.trans hx3;have hK3:=FD.of (HB.o.1.ext hX3 id) (HB.o.2.1.ext hX3 id)))
  have h13:XF w1 w3:=(AK.refl _ w1).drew.trans (hx2.trans hx3);have HX3:=bH (bI (HX1.o.2.keep h13) hX3);clear hK2 hK3 hX2 hX3 hx2 hx3 h13 hS hPw hPP hPb;go_wp2_with fail;refine (S6 _ _ _).mono ?_;rintro r4 w4 ⟨rfl,hw⟩;obtain rfl:=hw.symm;clear hw;have HS3:=bH (HS.o w3 _ P HX3.o.1);rw[Hsg.o] at HS3;go_wp2_with fail;refine HS3.o.mono ?_;rintro r5 w5 ⟨v5,rfl,h5,hx5⟩;have HX5:=bH (bI h5 (HX3.o.2.trans hx5));obtain⟨neg5,ao5,n6,k5,rfl⟩:=h5.shape;clear h5 hx5 HS3;go_upto_region 8 with fail;obtain⟨bq,hbq⟩:=bN w5.heap.size;have hbox:=AR hbq.symm neg5 ao5 n6 k5;have hx57:=(AK.refl (fun _=>False) w5).alloc (.cells #[.bool neg5,.slice ao5 n6 k5] 32);rw[hbq];generalize w5.alloc (.cells #[.bool neg5,.slice ao5 n6 k5] 32)=w7 at *;have hX7:=HX5.o.2.trans hx57;have hI7:=HX5.o.1.keep hx57;have HM7:=bH (HM.o w7.drew (HB.o.2.2.2.2.trans hX7).drew _ (hI7.keep (AK.refl _ w7).drew));have hS:=QE.of (HB.o.1.ext hX7 id) (HB.o.2.1.ext hX7 id) hbox;have HX7:=bH (bI hX7 (bI hI7 hbox));have hq1:¬bq=r:=fun e=>by
   have h1:=HB.o.2.2.1.lt;have h2:=HX5.o.2.size;omega
  have hq2:¬bq=r':=fun e=>by
   have h1:=HB.o.2.2.2.1.lt;have h2:=HX5.o.2.size;omega
  clear hX7 hI7 hbox hx57 hbq HX5 HX3 HX1 hP;go_region_held3 (QE b b' bq neg neg' neg5 (.slice ao m c) (.slice ao' m' c') (.slice ao5 n6 k5))
   (repeat (first|(with_reducible assumption)|(with_reducible refine QE.drew ?_)|(with_reducible refine QE.set ?_ _ _ ?_ ?_ ?_)|(dsimp only;omega)))
   (first
    | (go_at_call 188;(with_reducible refine HM7.o.mono ?_);rintro r8 w8 ⟨v8,rfl,h8,hx8⟩;have hx78:=(AK.refl (fun _=>False) w7).drew.trans hx8;have hX8:=HX7.o.1.trans hx78;have hU8:=HU.o w8 (HB.o.2.2.2.2.trans hX8) v8 h8;have hK8:=QE.of (HB.o.1.ext hX8 id) (HB.o.2.1.ext hX8 id) (HX7.o.2.2.ext hx78 id);obtain⟨neg8,ao8,n8,k8,rfl⟩:=h8.shape)
    | (go_at_call 236;(with_reducible refine hU8.mono ?_);rintro r9 w9 ⟨v9,rfl,h9,hx9⟩;have hx79:=hx78.trans hx9;have hX9:=HX7.o.1.trans hx79;have hK9:=QE.of (HB.o.1.ext hX9 id) (HB.o.2.1.ext hX9 id) (HX7.o.2.2.ext hx79 id);have hr9:=HB.o.2.2.1.ext hX9 id;have hr9':=HB.o.2.2.2.1.ext hX9 id;obtain⟨d0,d1,d2,d3⟩:=hr9.facts;obtain⟨f0,f1,f2,f3⟩:=hr9'.facts;obtain⟨neg9,ao9,n9,k9,rfl⟩:=h9.shape))
  have hp1:=hr9.put (neg:=neg5) (AF ao5 n6 k5);have hp2:=(hr9'.ext hp1.ext (fun e=>n5 e.symm)).put (neg:=neg9) (AF ao9 n9 k9);have HR:=bH (bI (hp2.int (hp1.int (HX7.o.2.1.keep hx79))) (bI (hp2.int (hp1.int h9)) (bI (((HB.o.2.2.2.2.trans hX9).own hp1.ext (fun k e=>by omega)).own hp2.ext (fun k e=>by omega)) (bI (hp1.box.ext hp2.ext n5) hp2.box))));clear hp1 hp2 h8 h9 hx8 hx9 hx78 hx79 hX8 hX9 hK8 hK9 hU8 d0 d1 d2 d3 f0 f1 f2 f3 hr9 hr9' hS;generalize (((w9.setCell ⟨r,0,none⟩ (.bool neg5)).setCell ⟨r,1,none⟩ (.slice ao5 n6 k5)).setCell ⟨r',0,none⟩ (.bool neg9)).setCell ⟨r',1,none⟩ (.slice ao9 n9 k9)=w10 at *;obtain⟨g0,g1,_⟩:=HR.o.2.2.2.1.facts;obtain⟨g2,g3,_⟩:=HR.o.2.2.2.2.facts;go_wp2;exact bodyPost_ret (v:=.tuple #[.agg #[.bool neg5,.slice ao5 n6 k5],.agg #[.bool neg9,.slice ao9 n9 k9],.int .i64 0]) (by simp[results,results266,go_sem,g0,g1,g2,g3]) rfl ⟨_,_,rfl,HR.o.1,HR.o.2.1,HR.o.2.2.1⟩
theorem J9(w:World) (v v':Value) (z z':Int) (L:Nat) (h:Bf w v z L) (h':Bf w v' z' L) (h0:¬z'=0) (hL:L<=33554432) :
  Calls prog 256 #[v,v'] w (Gs w z z'):=by
 have HD:=bH (fun W (hW:XF w W)=>PO W v v' z z' L (h.keep hW) (h'.keep hW) h0 hL);obtain⟨neg,ao,m,c,l,rfl,_,_,_⟩:=h.open;obtain⟨neg',ao',m',c',l',rfl,_,_,_⟩:=h'.open;clear h h';unfold Gs at *;generalize z.tdiv z'=q at *;generalize z-q*z'=s at *;go_enter func256,ntmps256;go_upto_region 0 with fail;go_cut [2,3,4,5,6] (fun v1 v2 v3 v4 v8 wx=>∃b b' r r',v1=.pointer (some ⟨b,0,none⟩)/\v2=.pointer (some ⟨b',0,none⟩)/\v3=.pointer (some ⟨r,0,none⟩)/\v4=.pointer (some ⟨r',0,none⟩)/\v8=.int .i64 0/\A1 wx b neg (.slice ao m c)/\A1 wx b' neg' (.slice ao' m' c')/\A1 wx r false (.slice none 0 0)/\A1 wx r' false (.slice none 0 0)/\¬r=r'/\w.heap.size<=r/\w.heap.size<=r'/\XF w wx);case first =>
  go_wp2;go_meet;exact⟨_,_,_,_,rfl,rfl,rfl,rfl,rfl,(((AR rfl neg ao m c).alloc _).alloc _).alloc _,((AR (by simp) neg' ao' m' c').alloc _).alloc _,(AR (by simp) false none 0 0).alloc _,AR (by simp) false none 0 0,(by omega),(by omega),(by omega),((((AK.refl _ w).alloc _).alloc _).alloc _).alloc _⟩
 case rest =>
  obtain⟨b,b',r,r',rfl,rfl,rfl,rfl,rfl,hb,hb',hrb,hrb',n5,hle,hle',hx⟩:=hcut;obtain⟨c0,c1,_⟩:=hb.facts;obtain⟨e0,e1,_⟩:=hb'.facts;have HD1:=bH (HD.o wc hx);have HB:=bH (bI hrb (bI hrb' hx));clear hb hb' hrb hrb' hx;go_wp2_with fail;refine HD1.o.mono ?_;rintro r1 w9 ⟨v1,v2,rfl,h1,h2,hx1⟩;have hr9:=HB.o.1.ext hx1 id;have hr9':=HB.o.2.1.ext hx1 id;obtain⟨d0,d1,d2,d3⟩:=hr9.facts;obtain⟨f0,f1,f2,f3⟩:=hr9'.facts;obtain⟨neg5,ao5,n6,k5,rfl⟩:=h1.shape;obtain⟨neg9,ao9,n9,k9,rfl⟩:=h2.shape;have hp1:=hr9.put (neg:=neg5) (AF ao5 n6 k5);have hp2:=(hr9'.ext hp1.ext (fun e=>n5 e.symm)).put (neg:=neg9) (AF ao9 n9 k9);have HR:=bH (bI (hp2.int (hp1.int h1)) (bI (hp2.int (hp1.int h2)) (bI (((HB.o.2.2.trans hx1).own hp1.ext (fun k e=>by omega)).own hp2.ext (fun k e=>by omega)) (bI (hp1.box.ext hp2.ext n5) hp2.box))));clear hp1 hp2 h1 h2 hx1 hr9 hr9' c0 c1 e0 e1;go_wp2;generalize (((w9.setCell ⟨r,0,none⟩ (.bool neg5)).setCell ⟨r,1,none⟩ (.slice ao5 n6 k5)).setCell ⟨r',0,none⟩ (.bool neg9)).setCell ⟨r',1,none⟩ (.slice ao9 n9 k9)=w10 at *;obtain⟨g0,g1,_⟩:=HR.o.2.2.2.1.facts;obtain⟨g2,g3,_⟩:=HR.o.2.2.2.2.facts;exact bodyPost_ret (v:=.tuple #[.agg #[.bool neg5,.slice ao5 n6 k5],.agg #[.bool neg9,.slice ao9 n9 k9],.int .i64 0]) (by simp[results,results256,go_sem,g0,g1,g2,g3]) rfl ⟨_,_,rfl,HR.o.1,HR.o.2.1,HR.o.2.2.1⟩
def dn(d:Nat):Nat:=if d=0 then 1 else d
theorem Br(d:Nat):0<dn d:=by unfold dn;split<;>omega
def BA(w:World) (v:Value) (q:Rat) (L:Nat):Prop:=∃neg mag dv' l d,v=.agg #[.bool neg,mag,dv']/\Ad w mag l/\l.length<=L/\Ad w dv' d/\d.length<=L/\q=mkRat (sg neg (vl l)) (dn (vl d))
def dw(d:Nat):Nat:=if d=1 then 0 else d
def AN(w:World) (v:Value) (q:Rat):Prop:=∃mag dv',v=.agg #[.bool (decide (q.num<0)),mag,dv']/\Ab w mag q.num.natAbs/\Ab w dv' (dw q.den)
def Aw(w:World) (q:Rat) (r:Ending) (w':World):Prop:=∃v,r=.returned v/\AN w' v q/\XF w w'
def Sq(w:World) (z:Int) (L:Nat) (r:Ending) (w':World):Prop:=∃v,r=.returned v/\Bf w' v z L/\XF w w'
def Sz(q:Rat) (L:Nat):Prop:=(dg q.num.natAbs).length<=L/\(dg q.den).length<=L
theorem BA.keep{w w':World} {v:Value} {q:Rat} {L:Nat} (h:BA w v q L) (hx:XF w w'):BA w' v q L:=by
 obtain⟨neg,mag,dv',l,d,h1,h2,h3,h4,h5⟩:=h;exact⟨neg,mag,dv',l,d,h1,h2.keep hx,h3,h4.keep hx,h5⟩
theorem AN.keep{w w':World} {v:Value} {q:Rat} (h:AN w v q) (hx:XF w w'):AN w' v q:=by
 obtain⟨mag,dv',h1,h2,h3⟩:=h;exact⟨mag,dv',h1,h2.keep hx,h3.keep hx⟩
theorem VE(q:Rat):dn (dw q.den)=q.den:=by
 have:=q.den_nz;unfold dn dw;by_cases h:q.den=1
 ·rw[if_pos h,if_pos rfl,h]
 rw[if_neg h,if_neg this]
theorem TM(d:Nat):dw d<=d:=by unfold dw;split<;>omega
theorem P9(z:Int):sg (decide (z<0)) z.natAbs=z:=by
 unfold sg;split
 ·rename_i h;have:=of_decide_eq_true h;omega
 rename_i h;have:¬z<0:=fun h'=>h (decide_eq_true h');omega
theorem AN.reads{w:World} {v:Value} {q:Rat} {L:Nat} (h:AN w v q) (hl:Sz q L):BA w v q L:=by
 obtain⟨mag,dv',h1,h2,h3⟩:=h;exact⟨_,mag,dv',_,_,h1,h2,hl.1,h3,Nat.le_trans (Bu (TM _)) hl.2,by rw[At,At,VE,P9,Rat.mkRat_self]⟩
theorem BA.open{w:World} {v:Value} {q:Rat} {L:Nat} (h:BA w v q L):∃neg ao m c ao' m' c' l d,v=.agg #[.bool neg,.slice ao m c,.slice ao' m' c']/\Bf w (.agg #[.bool neg,.slice ao m c]) (sg neg (vl l)) L/\Ad w (.slice ao' m' c') d/\m'=d.length/\d.length<=L/\q=mkRat (sg neg (vl l)) (dn (vl d)):=by
 obtain⟨neg,mag,dv',l,d,rfl,h1,h2,h3,h4,h5⟩:=h;obtain⟨ao,c,rfl,_⟩:=id h1.2;obtain⟨ao',c',rfl,_⟩:=id h3.2;exact⟨neg,ao,_,c,ao',_,c',l,d,rfl,⟨neg,_,l,rfl,h1,h2,rfl⟩,h3,rfl,h4,h5⟩
def Aj(w:World) (b:Nat) (neg:Bool) (mag den:Value):Prop:=Au w b=some (.cells #[.bool neg,mag,den] 34 (0,0))/\(∀k d,mag≠.int k d)/\∀k d,den≠.int k d
theorem Aj.lt{w:World} {b:Nat} {neg:Bool} {mag den:Value} (h:Aj w b neg mag den):b<w.heap.size:=AT h.1
theorem Aj.facts{w:World} {b:Nat} {neg:Bool} {mag den:Value} (h:Aj w b neg mag den):w.cell? ⟨b,0,none⟩=some (.bool neg)/\w.cell? ⟨b,1,none⟩=some mag/\w.cell? ⟨b,2,none⟩=some den/\w.frozen? ⟨b,0,none⟩=false/\w.frozen? ⟨b,1,none⟩=false/\w.frozen? ⟨b,2,none⟩=false :=
 ⟨by simpa using AS h.1 0,by simpa using AS h.1 1,by simpa using AS h.1 2,AC h.1 0,AC h.1 1,AC h.1 2⟩
theorem Aj.noDig{w:World} {b:Nat} {neg:Bool} {mag den:Value} (h:Aj w b neg mag den):BN w b:=fun i d=>by
 rw[AS h.1 i];match i with
 | 0=>simp
 | 1=>simpa using h.2.1 .u32 d
 | 2=>simpa using h.2.2 .u32 d
 | i+3=>simp
theorem Aj.ext{S:Nat->Prop} {w w':World} {b:Nat} {neg:Bool} {mag den:Value} (h:Aj w b neg mag den) (hx:AK S w w') (hn:¬S b):Aj w' b neg mag den:=⟨(hx.blk h.lt hn).trans h.1,h.2⟩
theorem AO{W:World} {k:Nat} (hk:k=W.heap.size) (neg:Bool) (ao:Option Addr) (n c:Nat) (ao':Option Addr) (n' c':Nat):Aj (W.alloc (.cells #[.bool neg,.slice ao n c,.slice ao' n' c'] 34)) k neg (.slice ao n c) (.slice ao' n' c'):=by
 subst hk;exact⟨AD _ _,AF ao n c,AF ao' n' c'⟩
theorem Aj.alloc{W:World} {k:Nat} {neg:Bool} {mag den:Value} (h:Aj W k neg mag den) (o:Obj):Aj (W.alloc o) k neg mag den:=h.ext ((AK.refl (fun _=>False) W).alloc o) id
structure TI(w w':World) (r:Nat) (neg:Bool) (mag den:Value):Prop where
 box:Aj w' r neg mag den
 ext:AK (fun k=>k=r) w w'
 rds:∀v l,Ad w v l->Ad w' v l
theorem Aj.put{w:World} {r:Nat} {n0 neg:Bool} {m0 mag d0 den:Value} (h:Aj w r n0 m0 d0) (hm:∀k d,mag≠.int k d) (hd:∀k d,den≠.int k d):TI w (((w.setCell ⟨r,0,none⟩ (.bool neg)).setCell ⟨r,1,none⟩ mag).setCell ⟨r,2,none⟩ den) r neg mag den:=by
 have hx:AK (fun k=>k=r) w (((w.setCell ⟨r,0,none⟩ (.bool neg)).setCell ⟨r,1,none⟩ mag).setCell ⟨r,2,none⟩ den):=(((AK.refl (fun k=>k=r) w).setCell (p:=⟨r,0,none⟩) _ (fun _=>rfl)).setCell (p:=⟨r,1,none⟩) _ (fun _=>rfl)).setCell (p:=⟨r,2,none⟩) _ (fun _=>rfl);refine⟨⟨?_,hm,hd⟩,hx,fun v l hr=>hr.past hx (fun k _ e=>by subst e;exact h.noDig)⟩;have h1:=AI h.1 0 (.bool neg);have h2:=AI h1 1 mag;have h3:=AI h2 2 den;simpa using h3
theorem TI.rat{w w':World} {r:Nat} {neg:Bool} {mag den v:Value} {q:Rat} (h:TI w w' r neg mag den) (hi:AN w v q):AN w' v q:=by
 obtain⟨mag,dv',h1,h2,h3⟩:=hi;exact⟨mag,dv',h1,h.rds _ _ h2,h.rds _ _ h3⟩
theorem AN.shape{w:World} {v:Value} {q:Rat} (h:AN w v q):∃neg ao n c ao' n' c',v=.agg #[.bool neg,.slice ao n c,.slice ao' n' c']:=by
 obtain⟨mag,dv',rfl,h2,h3⟩:=h;obtain⟨ao,c,rfl⟩:=h2.shape;obtain⟨ao',c',rfl⟩:=h3.shape;exact⟨_,ao,_,c,ao',_,c',rfl⟩
theorem AN.mk{w:World} {neg:Bool} {mag dv':Value} {q:Rat} (h:Ay w (.agg #[.bool neg,mag]) q.num) (hd:Ab w dv' (dw q.den)):AN w (.agg #[.bool neg,mag,dv']) q:=by
 obtain⟨m,h1,h2⟩:=h;injection h1 with h1;simp at h1;obtain⟨rfl,rfl⟩:=h1;exact⟨mag,dv',rfl,h2,hd⟩
theorem AN.ofInt{w:World} {neg:Bool} {mag:Value} {z:Int} (h:Ay w (.agg #[.bool neg,mag]) z):AN w (.agg #[.bool neg,mag,.slice none 0 0]) (z:Rat) :=
 AN.mk (by rw[Rat.num_intCast];exact h) (by rw[Rat.den_intCast];exact Ab.nil w)
theorem Bf.shape{w:World} {v:Value} {z:Int} {L:Nat} (h:Bf w v z L):∃neg ao n c,v=.agg #[.bool neg,.slice ao n c]:=by
 obtain⟨neg,ao,m,c,l,h1,_⟩:=h.open;exact⟨neg,ao,m,c,h1⟩
theorem M0{z:Int} {g:Nat} (hg:0<g) (h:g∣z.natAbs):∃k:Int,z=g*k/\z/(g:Int)=k/\z.tdiv g=k:=by
 obtain⟨k,hk⟩:=Int.ofNat_dvd_left.2 h;have hg0:(g:Int)≠0:=by omega
 exact⟨k,hk,by rw[hk,Int.mul_ediv_cancel_left _ hg0],by rw[hk,Int.mul_tdiv_cancel_left _ hg0]⟩
theorem IL(z:Int) {d:Nat} (hd:0<d):(mkRat z d).num.sign=z.sign:=by
 have hg:0<d.gcd z.natAbs:=Nat.gcd_pos_of_pos_left _ hd;obtain⟨k,h1,h2,_⟩:=M0 hg (Nat.gcd_dvd_right d z.natAbs);rw[Rat.num_mkRat,if_neg (by omega),h2];generalize d.gcd z.natAbs=g at *;rw[h1,Int.sign_mul,C7 hg,Int.one_mul]
theorem Ed(w:World) (v:Value) (neg:Bool) (ao:Option Addr) (m c:Nat) (ao':Option Addr) (m' c':Nat) (d:List Nat) (L:Nat) (hv:v=.agg #[.bool neg,.slice ao m c,.slice ao' m' c'])
  (h:Ad w (.slice ao' m' c') d) (hl:d.length<=L) (hL:L<=268435455) (h1:1<=L) :
  Calls prog 189 #[v] w (Sq w (dn (vl d):Nat) L):=by
 subst hv;have HB:=bH (fun W (hW:XF w W)=>LD W _ d (h.keep hW) (by omega));have HF:=bH (fun W=>L0 W 1 (by omega) (by omega));have HR:=bH (bI h hl);clear h hl;obtain⟨Z,hZ⟩:∃Z:Int,(dn (vl d):Int)=Z:=⟨_,rfl⟩;rw[hZ];by_cases h0:vl d=0
 ·have hz:Z=1:=(by rw[<- hZ];unfold dn;rw[if_pos h0];rfl);subst hz;have H0:=bH h0;clear h0 hZ;go_enter func189,ntmps189;go_wp2_with fail;refine (HB.o _ (((AK.refl _ w).alloc _).alloc _)).mono ?_;rintro r w' ⟨q,rfl,hw,hq⟩;subst hw;obtain rfl:=hq.2 H0.o;clear HB hq;obtain⟨rb,hrb⟩:=bN (w.heap.size+1);have hb0:=AR (W:=w.alloc (.cells #[.bool neg,.slice ao m c,.slice ao' m' c'] 34)) (k:=rb) (by simp;omega) false none 0 0;have hx0:XF w ((w.alloc (.cells #[.bool neg,.slice ao m c,.slice ao' m' c'] 34)).alloc (.cells #[.bool false,.slice none 0 0] 32)):=((AK.refl _ w).alloc _).alloc _;rw[hrb];generalize (w.alloc (.cells #[.bool neg,.slice ao m c,.slice ao' m' c'] 34)).alloc (.cells #[.bool false,.slice none 0 0] 32)=w1 at *;have HB0:=bH (bI hb0 hx0);clear hb0 hx0;go_wp2_with fail;refine (HF.o _).mono ?_;rintro r6 w6 ⟨v6,rfl,h6,hx6⟩;have hr6:=HB0.o.1.ext hx6 id;obtain⟨d0,d1,d2,d3⟩:=hr6.facts;have hX6:=HB0.o.2.trans hx6;obtain⟨neg6,so,sn,sc,rfl⟩:=h6.shape;have hp:=hr6.put (neg:=neg6) (AF so sn sc);have HR:=bH (bI ((hp.int h6).reads (L:=L) (Nat.le_trans (As (k:=1) (by decide)) h1)) (bI (hX6.own hp.ext (fun k e=>by omega)) hp.box));clear hp h6 hX6 hr6 hx6;go_wp2;generalize (w6.setCell ⟨rb,0,none⟩ (.bool neg6)).setCell ⟨rb,1,none⟩ (.slice so sn sc)=w9 at *;obtain⟨g0,g1,_⟩:=HR.o.2.2.facts;exact bodyPost_ret (v:=.agg #[.bool neg6,.slice so sn sc]) (by simp[results,results189,go_sem,g0,g1]) rfl ⟨_,rfl,HR.o.1,HR.o.2.1⟩
 have hz:Z=(vl d:Int):=(by rw[<- hZ];unfold dn;rw[if_neg h0]);have HZ:=bH hz;have H0:=bH h0;clear h0 hZ hz;go_enter func189,ntmps189;go_wp2_with fail;refine (HB.o _ (((AK.refl _ w).alloc _).alloc _)).mono ?_;rintro r w' ⟨q,rfl,hw,hq⟩;subst hw;have hq0:¬(q:Int)=0:=fun h=>H0.o (hq.1 (by omega));clear HB hq;have hx0:XF w ((w.alloc (.cells #[.bool neg,.slice ao m c,.slice ao' m' c'] 34)).alloc (.cells #[.bool false,.slice ao' m' c'] 32)):=((AK.refl _ w).alloc _).alloc _;have HX0:=bH hx0;clear hx0;go_wp2;exact bodyPost_ret (v:=.agg #[.bool false,.slice ao' m' c']) (by simp[results,results189,go_sem]) rfl ⟨_,rfl,⟨false,_,d,rfl,HR.o.1.keep HX0.o,HR.o.2,by rw[HZ.o];rfl⟩,HX0.o⟩
theorem Bx(w:World) (k:Int) (h0:-9223372036854775808<=k) (h1:k<=9223372036854775807) :
  Calls prog 86 #[.int .i64 k] w (Aw w (k:Rat)):=by
 have HF:=bH (fun W=>L0 W k h0 h1);obtain⟨q,hq⟩:∃q:Rat,(k:Rat)=q:=⟨_,rfl⟩;have hof:∀W neg mag,Ay W (.agg #[.bool neg,mag]) k->AN W (.agg #[.bool neg,mag,.slice none 0 0]) q:=fun W neg mag h=>by rw[<- hq];exact AN.ofInt h
 have Hof:=bH hof;rw[hq];clear hof hq h0 h1;go_enter func86,ntmps86;go_wp2_with fail;refine (HF.o _).mono ?_;rintro r6 w6 ⟨v6,rfl,h6,hx6⟩;have hr6:=(AO rfl false none 0 0 none 0 0 (W:=w)).ext hx6 id;obtain⟨d0,d1,d2,d3,d4,d5⟩:=hr6.facts;have hX6:=((AK.refl (fun _=>False) w).alloc _).trans hx6;obtain⟨neg6,so,sn,sc,rfl⟩:=h6.shape;have hp:=hr6.put (neg:=neg6) (AF so sn sc) (AF none 0 0);have HR:=bH (bI (hp.rat (Hof.o _ _ _ h6)) (bI (hX6.own hp.ext (fun k e=>by omega)) hp.box));clear hp h6 hX6 hr6 hx6;go_wp2;generalize ((w6.setCell ⟨w.heap.size,0,none⟩ (.bool neg6)).setCell ⟨w.heap.size,1,none⟩ (.slice so sn sc)).setCell ⟨w.heap.size,2,none⟩ (.slice none 0 0)=w9 at *;obtain⟨g0,g1,g2,_⟩:=HR.o.2.2.facts;exact bodyPost_ret (v:=.agg #[.bool neg6,.slice so sn sc,.slice none 0 0]) (by simp[results,results86,go_sem,g0,g1,g2]) rfl ⟨_,rfl,HR.o.1,HR.o.2.1⟩
theorem Bt(w:World) (v:Value) (q:Rat) (L:Nat) (h:BA w v q L) (hL:L<=268435455) :
  Calls prog 151 #[v] w fun r w'=>r=.returned (.int .i64 q.num.sign)/\XF w w':=by
 obtain⟨neg,ao,m,c,ao',m',c',l,d,rfl,h1,_,_,_,rfl⟩:=h.open;rw[IL _ (Br _)];have HS:=bH (fun W (hW:XF w W)=>El W _ _ L (h1.keep hW) hL);generalize sg neg (vl l)=z at *;clear h h1;go_enter func151,ntmps151;go_wp2_with fail;refine (HS.o _ ((AK.refl _ w).alloc _)).mono ?_;rintro r6 w6 ⟨rfl,hx6⟩;have HX6:=bH (((AK.refl (fun _=>False) w).alloc _).trans hx6);clear hx6;go_wp2;go_ret;exact⟨rfl,HX6.o⟩
theorem Mb{z:Int} {y:Nat} (hy:0<y):z.tdiv ((Nat.gcd z.natAbs y:Nat):Int)=(mkRat z y).num/\(y:Int).tdiv ((Nat.gcd z.natAbs y:Nat):Int)=((mkRat z y).den:Int):=by
 have hg:0<Nat.gcd z.natAbs y:=Nat.gcd_pos_of_pos_right _ hy;have hc:y.gcd z.natAbs=Nat.gcd z.natAbs y:=Nat.gcd_comm _ _;obtain⟨k,h1,h2,h3⟩:=M0 hg (Nat.gcd_dvd_left z.natAbs y);rw[Rat.num_mkRat,Rat.den_mkRat,if_neg (by omega),if_neg (by omega),hc,h2,h3];exact⟨rfl,Ib _ _⟩
theorem Oc(d:Nat):CA d 1=0↔d=1:=by unfold CA;split<;>(try split)<;>omega
abbrev S1(b:Nat) (m:Value) (W:World):Prop:=W.cell? ⟨b,1,none⟩=some m
theorem S1.drew{b:Nat} {m:Value} {W:World} (h:S1 b m W):S1 b m W.drew:=h
theorem E6(w:World) (v v':Value) (z:Int) (y L:Nat) (h:Bf w v z L) (h':Bf w v' (y:Int) L) (hy:0<y) (hL:L<=33554432) :
  Calls prog 205 #[v,v'] w (Aw w (mkRat z y)):=by
 have HSg:=bH (fun W (hW:XF w W)=>El W v' y L (h'.keep hW) (by omega));rw[C7 hy] at HSg;obtain⟨hq1,hq2⟩:=Mb (z:=z) hy;have hg:0<Nat.gcd z.natAbs y:=Nat.gcd_pos_of_pos_right _ hy;have hgl:(dg (Nat.gcd z.natAbs y)).length<=L:=Nat.le_trans (Bu (Nat.gcd_le_right _ hy)) h'.len;have HQ1:=bH (fun W (hW:XF w W) ao n c (hu:Ab W (.slice ao n c) (Nat.gcd z.natAbs y))=>J9 W v (.agg #[.bool false,.slice ao n c]) z ((Nat.gcd z.natAbs y:Nat):Int) L (h.keep hW) ⟨false,_,_,rfl,hu,hgl,by rw[At];rfl⟩ (by omega) hL);have HQ2:=bH (fun W (hW:XF w W) ao n c (hu:Ab W (.slice ao n c) (Nat.gcd z.natAbs y))=>J9 W v' (.agg #[.bool false,.slice ao n c]) y ((Nat.gcd z.natAbs y:Nat):Int) L (h'.keep hW) ⟨false,_,_,rfl,hu,hgl,by rw[At];rfl⟩ (by omega) hL);unfold Gs at HQ1 HQ2;simp only[hq1,hq2] at HQ1 HQ2;have hdl:(dg (mkRat z y).den).length<=L:=by
  have:(mkRat z y).den<=y:=by
   have e:=hq2;rw[Ib] at e;have:=Nat.div_le_self y (Nat.gcd z.natAbs y);omega
  exact Nat.le_trans (Bu this) h'.len
 have HC:=bH (fun W u u' (h1:Ab W u (mkRat z y).den) (h2:Ab W u' 1)=>Iv W u u' _ _ h1 h2 (by omega) (Nat.le_trans (GL (n:=1) (by decide)).1 (by decide)));simp only[At] at HC;have hF:∀W,Calls prog 207 #[.int .u64 1] W (BO W 1):=fun W=>FW W 1 (by decide);have HF:=bH hF;clear hF;obtain⟨neg,ao,m,c,l,rfl,hr,hl,hz⟩:=h.open;obtain⟨neg',ao',m',c',l',rfl,hr',hl',hz'⟩:=h'.open;have HG:=bH (fun W (hW:XF w W)=>P5 W _ _ l l' (hr.keep hW) (hr'.keep hW) (by omega) (by omega));have e1:vl l=z.natAbs:=by rw[hz,Eg]
 have e2:vl l'=y:=by have:=congrArg Int.natAbs hz';rw[Eg] at this;simpa using this.symm
 rw[e1,e2] at HG;clear hq1 hq2 hg hgl hdl hr hr' hl hl' hz hz' e1 e2 h h';generalize Nat.gcd z.natAbs y=g at *;generalize mkRat z y=q at *;go_enter func205,ntmps205;go_upto_region 0 with fail;go_cut [2,3,4] (fun v1 v2 v3 wx=>∃b b' r,v1=.pointer (some ⟨b,0,none⟩)/\v2=.pointer (some ⟨b',0,none⟩)/\v3=.pointer (some ⟨r,0,none⟩)/\A1 wx b neg (.slice ao m c)/\A1 wx b' neg' (.slice ao' m' c')/\Aj wx r false (.slice none 0 0) (.slice none 0 0)/\w.heap.size<=r/\XF w wx);case first =>
  go_wp2;go_meet;exact⟨_,_,_,rfl,rfl,rfl,((AR rfl neg ao m c).alloc _).alloc _,(AR (by simp) neg' ao' m' c').alloc _,AO (by simp) false none 0 0 none 0 0,(by omega),(((AK.refl _ w).alloc _).alloc _).alloc _⟩
 case rest =>
  obtain⟨b,b',r,rfl,rfl,rfl,hb,hb',hrb,hle,hx⟩:=hcut;obtain⟨e0,e1,_⟩:=hb'.facts;have HB:=bH (bI hb (bI hb' (bI hrb hx)));clear hb hb' hrb hx;go_wp2_with fail;refine (HSg.o _ HB.o.2.2.2).mono ?_;rintro r1 w1 ⟨rfl,hx1⟩;have HX1:=bH hx1;obtain⟨c10,c11,_⟩:=(HB.o.1.ext hx1 id).facts;obtain⟨e10,e11,_⟩:=(HB.o.2.1.ext hx1 id).facts;have HG1:=bH (HG.o w1 (HB.o.2.2.2.trans hx1));clear hx1 e0 e1;go_wp2_with fail;refine HG1.o.mono ?_;rintro r2 w2 ⟨vg,rfl,hg2,hx2⟩;obtain⟨aog,cg,rfl⟩:=hg2.shape;generalize (dg g).length=ng at *;clear c10 c11 e10 e11 HG1;have hbg:=AR (W:=w2) rfl false aog ng cg;have hx23:=(AK.refl (fun _=>False) w2).alloc (.cells #[.bool false,.slice aog ng cg] 32);have hX3:=(HX1.o.trans hx2).trans hx23;go_upto_region 4 with fail;obtain⟨bg,hbge⟩:=bN w2.heap.size;rw[hbge] at hbg ⊢;generalize w2.alloc (.cells #[.bool false,.slice aog ng cg] 32)=w3 at *;obtain⟨c0,c1,_⟩:=(HB.o.1.ext hX3 id).facts;obtain⟨g0,g1,_⟩:=hbg.facts;have HQ13:=bH (HQ1.o w3 (HB.o.2.2.2.trans hX3) aog ng cg (hg2.keep hx23));have HX3:=bH (bI hX3 (bI hbg (hg2.keep hx23)));clear hg2 hx2 hX3 hbg hx23 hbge HX1;go_wp2_with fail;refine HQ13.o.mono ?_;rintro r4 w4 ⟨vn,vs,rfl,hn4,hs4,hx4⟩;obtain⟨nn,aon,mn,cn,rfl⟩:=hn4.shape;obtain⟨ns,aos,ms,cs,rfl⟩:=hs4.shape;have hX4:=HX3.o.1.trans hx4;clear c0 c1 g0 g1;go_upto_region 5 with fail;obtain⟨bn,hbne⟩:=bN w4.heap.size;have hbn:=(AR (W:=w4) rfl nn aon mn cn).alloc (.cells #[.bool ns,.slice aos ms cs] 32);have hx45:=((AK.refl (fun _=>False) w4).alloc (.cells #[.bool nn,.slice aon mn cn] 32)).alloc (.cells #[.bool ns,.slice aos ms cs] 32);rw[hbne] at hbn ⊢;generalize (w4.alloc (.cells #[.bool nn,.slice aon mn cn] 32)).alloc (.cells #[.bool ns,.slice aos ms cs] 32)=w5 at *;have hX5:=hX4.trans hx45;obtain⟨e0,e1,_⟩:=(HB.o.2.1.ext hX5 id).facts;obtain⟨g0,g1,_⟩:=(HX3.o.2.1.ext (hx4.trans hx45) id).facts;have HQ25:=bH (HQ2.o w5 (HB.o.2.2.2.trans hX5) aog ng cg (HX3.o.2.2.keep (hx4.trans hx45)));have HX5:=bH (bI hX5 (bI (hn4.keep hx45) hbn));clear hX4 hx4 hX5 hx45 hbn hn4 hs4 hbne;go_wp2_with fail;refine HQ25.o.mono ?_;rintro r6 w6 ⟨vd,vt,rfl,hd6,ht6,hx6⟩;obtain⟨nd,aod,md,cd,rfl⟩:=hd6.shape;obtain⟨nt,aot,mt,ct,rfl⟩:=ht6.shape;have hX6:=HX5.o.1.trans hx6;clear e0 e1 g0 g1;go_upto_region 6 with fail;obtain⟨bd,hbde⟩:=bN w6.heap.size;have hbd:=(AR (W:=w6) rfl nd aod md cd).alloc (.cells #[.bool nt,.slice aot mt ct] 32);have hx67:=((AK.refl (fun _=>False) w6).alloc (.cells #[.bool nd,.slice aod md cd] 32)).alloc (.cells #[.bool nt,.slice aot mt ct] 32);rw[hbde] at hbd ⊢;generalize (w6.alloc (.cells #[.bool nd,.slice aod md cd] 32)).alloc (.cells #[.bool nt,.slice aot mt ct] 32)=w7 at *;have hX7:=hX6.trans hx67;have hnd:Ab w7 (.slice aod md cd) q.den:=by
   obtain⟨m0,h1,h2⟩:=hd6.keep hx67;cases h1;rw[Int.natAbs_natCast] at h2;exact h2
  have hS:S1 bd (.slice aod md cd) w7:=hbd.facts.2.1;have HX7:=bH (bI hX7 (bI (HX5.o.2.1.keep (hx6.trans hx67)) (bI (HX5.o.2.2.ext (hx6.trans hx67) id) (bI hbd hnd))));clear hX6 hx6 hX7 hx67 hbd hd6 ht6 hbde hnd;go_region_held3 (S1 bd (.slice aod md cd))
   (repeat (first|(with_reducible assumption)|(with_reducible refine S1.drew ?_)))
   (first
    | (go_at_call 207;(with_reducible refine (HF.o _).mono ?_);rintro r8 w8 ⟨v8,rfl,h8,hx8⟩;have hx78:=(AK.refl (fun _=>False) w7).drew.trans hx8;have hK8:S1 bd (.slice aod md cd) w8:=(HX7.o.2.2.2.1.ext hx78 id).facts.2.1;have hC8:=HC.o w8 _ _ (HX7.o.2.2.2.2.keep hx78) h8)
    | (go_at_call 225;(with_reducible refine hC8.mono ?_);rintro r9 w' ⟨rfl,hw⟩;obtain rfl:=hw.symm))
  have hX8:=HX7.o.1.trans hx78;have hr8:=HB.o.2.2.1.ext hX8 id;obtain⟨d0,d1,d2,d3,d4,d5⟩:=hr8.facts;obtain⟨c0,c1,_⟩:=(HX7.o.2.2.1.ext hx78 id).facts;have hn8:=HX7.o.2.1.keep hx78;have hd8:=HX7.o.2.2.2.2.keep hx78;have hXw:=HB.o.2.2.2.trans hX8;have hc1:=Oc q.den;generalize CA q.den 1=cq at *;by_cases h1:q.den=1
  ·have hcq:=hc1.2 h1;subst hcq;have hp:=hr8.put (neg:=nn) (AF aon mn cn) (AF none 0 0);have hR0:AN w8 (.agg #[.bool nn,.slice aon mn cn,.slice none 0 0]) q:=AN.mk hn8 (by rw[h1];exact Ab.nil w8);have HR:=bH (bI (hp.rat hR0) (bI (hXw.own hp.ext (fun k e=>by omega)) hp.box));clear hp hR0 hn8 hd8 hr8 hXw hX8 hx8 hx78 h8 hC8 hK8 hS hc1 h1;go_wp2;generalize ((w8.setCell ⟨r,0,none⟩ (.bool nn)).setCell ⟨r,1,none⟩ (.slice aon mn cn)).setCell ⟨r,2,none⟩ (.slice none 0 0)=w9 at *;obtain⟨g0,g1,g2,_⟩:=HR.o.2.2.facts;exact bodyPost_ret (v:=.agg #[.bool nn,.slice aon mn cn,.slice none 0 0]) (by simp[results,results205,go_sem,g0,g1,g2]) rfl ⟨_,rfl,HR.o.1,HR.o.2.1⟩
  have hcq:¬cq=0:=fun e=>h1 (hc1.1 e);have hp:=hr8.put (neg:=nn) (AF aon mn cn) (AF aod md cd);have hR0:AN w8 (.agg #[.bool nn,.slice aon mn cn,.slice aod md cd]) q:=AN.mk hn8 (by unfold dw;rw[if_neg h1];exact hd8);have HR:=bH (bI (hp.rat hR0) (bI (hXw.own hp.ext (fun k e=>by omega)) hp.box));clear hp hR0 hn8 hd8 hr8 hXw hX8 hx8 hx78 h8 hC8 hS hc1 h1;have hcb:(cq == 0)=false:=(by simpa using hcq);go_wp2;generalize ((w8.setCell ⟨r,0,none⟩ (.bool nn)).setCell ⟨r,1,none⟩ (.slice aon mn cn)).setCell ⟨r,2,none⟩ (.slice aod md cd)=w9 at *;obtain⟨g0,g1,g2,_⟩:=HR.o.2.2.facts;exact bodyPost_ret (v:=.agg #[.bool nn,.slice aon mn cn,.slice aod md cd]) (by simp[results,results205,go_sem,g0,g1,g2]) rfl ⟨_,rfl,HR.o.1,HR.o.2.1⟩
abbrev Od(b1 b2 b3 b4:Nat) (n1 n2 n3 n4:Bool) (m1 m2 m3 m4:Value) (W:World):Prop :=
 W.cell? ⟨b1,0,none⟩=some (.bool n1)/\W.cell? ⟨b1,1,none⟩=some m1/\W.cell? ⟨b2,0,none⟩=some (.bool n2)/\W.cell? ⟨b2,1,none⟩=some m2/\W.cell? ⟨b3,0,none⟩=some (.bool n3)/\W.cell? ⟨b3,1,none⟩=some m3/\W.cell? ⟨b4,0,none⟩=some (.bool n4)/\W.cell? ⟨b4,1,none⟩=some m4
section
variable {b1 b2 b3 b4:Nat} {n1 n2 n3 n4:Bool} {m1 m2 m3 m4:Value} {W:World}
def OM(W:World) (b1 b2 b3 b4:Nat) (n1 n2 n3 n4:Bool) (m1 m2 m3 m4:Value):Prop:=A1 W b1 n1 m1/\A1 W b2 n2 m2/\A1 W b3 n3 m3/\A1 W b4 n4 m4
theorem OM.s(h:OM W b1 b2 b3 b4 n1 n2 n3 n4 m1 m2 m3 m4):Od b1 b2 b3 b4 n1 n2 n3 n4 m1 m2 m3 m4 W:=⟨h.1.facts.1,h.1.facts.2.1,h.2.1.facts.1,h.2.1.facts.2.1,h.2.2.1.facts.1,h.2.2.1.facts.2.1,h.2.2.2.facts.1,h.2.2.2.facts.2.1⟩
theorem OM.keep{W':World} (h:OM W b1 b2 b3 b4 n1 n2 n3 n4 m1 m2 m3 m4) (hx:XF W W'):OM W' b1 b2 b3 b4 n1 n2 n3 n4 m1 m2 m3 m4:=⟨h.1.ext hx id,h.2.1.ext hx id,h.2.2.1.ext hx id,h.2.2.2.ext hx id⟩
theorem Od.drew(h:Od b1 b2 b3 b4 n1 n2 n3 n4 m1 m2 m3 m4 W):Od b1 b2 b3 b4 n1 n2 n3 n4 m1 m2 m3 m4 W.drew:=h
theorem Od.set(h:Od b1 b2 b3 b4 n1 n2 n3 n4 m1 m2 m3 m4 W) (p:Addr) (u:Value) (h1:¬b1=p.block) (h2:¬b2=p.block) (h3:¬b3=p.block) (h4:¬b4=p.block):Od b1 b2 b3 b4 n1 n2 n3 n4 m1 m2 m3 m4 (W.setCell p u):=by
 obtain⟨a1,a2,a3,a4,a5,a6,a7,a8⟩:=h;exact⟨AY a1 h1,AY a2 h1,AY a3 h2,AY a4 h2,AY a5 h3,AY a6 h3,AY a7 h4,AY a8 h4⟩
end
def Fx(w:World) (Z Y:Int) (r:Ending) (w':World):Prop:=∃a b,r=.returned (.tuple #[a,b])/\Ay w' a Z/\Ay w' b Y/\XF w w'
theorem SC(w:World) (p q r s:Value) (zp zq zr zs:Int) (L:Nat) (hp:Bf w p zp L) (hq:Bf w q zq L) (hr:Bf w r zr L) (hs:Bf w s zs L) (hL:L<=4194304) :
  Calls prog 222 #[p,q,r,s] w (Fx w (zp*zr) (zq*zs)):=by
 have H1:=bH (fun W (hW:XF w W)=>DB W p r zp zr L (hp.keep hW) (hr.keep hW) (by omega));have H2:=bH (fun W (hW:XF w W)=>DB W q s zq zs L (hq.keep hW) (hs.keep hW) (by omega));obtain⟨n1,a1,l1,c1,_,rfl,_,_,_⟩:=hp.open;obtain⟨n2,a2,l2,c2,_,rfl,_,_,_⟩:=hq.open;obtain⟨n3,a3,l3,c3,_,rfl,_,_,_⟩:=hr.open;obtain⟨n4,a4,l4,c4,_,rfl,_,_,_⟩:=hs.open;clear hp hq hr hs;unfold Fx;generalize zp*zr=Z at *;generalize zq*zs=Y at *;go_enter func222,ntmps222;go_upto_region 0 with fail;go_cut [4,5,6,7,8,9] (fun v1 v2 v3 v4 v5 v6 wx=>∃b1 b2 b3 b4 r1 r2,v1=.pointer (some ⟨b1,0,none⟩)/\v2=.pointer (some ⟨b2,0,none⟩)/\v3=.pointer (some ⟨b3,0,none⟩)/\v4=.pointer (some ⟨b4,0,none⟩)/\v5=.pointer (some ⟨r1,0,none⟩)/\v6=.pointer (some ⟨r2,0,none⟩)/\OM wx b1 b2 b3 b4 n1 n2 n3 n4 (.slice a1 l1 c1) (.slice a2 l2 c2) (.slice a3 l3 c3) (.slice a4 l4 c4)/\A1 wx r1 false (.slice none 0 0)/\A1 wx r2 false (.slice none 0 0)/\b1<r1/\b2<r1/\b3<r1/\b4<r1/\r1<r2/\w.heap.size<=r1/\XF w wx);case first =>
  go_wp2;go_meet;exact⟨_,_,_,_,_,_,rfl,rfl,rfl,rfl,rfl,rfl,⟨(((((AR rfl n1 a1 l1 c1).alloc _).alloc _).alloc _).alloc _).alloc _,((((AR (by simp) n2 a2 l2 c2).alloc _).alloc _).alloc _).alloc _,(((AR (by simp) n3 a3 l3 c3).alloc _).alloc _).alloc _,((AR (by simp) n4 a4 l4 c4).alloc _).alloc _⟩,(AR (by simp) false none 0 0).alloc _,AR (by simp) false none 0 0,(by omega),(by omega),(by omega),(by omega),(by omega),(by omega),((((((AK.refl _ w).alloc _).alloc _).alloc _).alloc _).alloc _).alloc _⟩
 case rest =>
  obtain⟨b1,b2,b3,b4,r1,r2,rfl,rfl,rfl,rfl,rfl,rfl,hb,hr1,hr2,i1,i2,i3,i4,i5,hle,hx⟩:=hcut;have hS:=hb.s;have HB:=bH (bI hb (bI hr1 (bI hr2 hx)));clear hb hr1 hr2 hx;go_upto_region 1 with fail;go_region_held3 (Od b1 b2 b3 b4 n1 n2 n3 n4 (.slice a1 l1 c1) (.slice a2 l2 c2) (.slice a3 l3 c3) (.slice a4 l4 c4))
   (repeat (first|(with_reducible assumption)|(with_reducible refine Od.drew ?_)|(with_reducible refine Od.set ?_ _ _ ?_ ?_ ?_ ?_)|(dsimp only;omega)))
   (first
    | (go_at_call 188;(with_reducible refine (H1.o _ (HB.o.2.2.2.drew)).mono ?_);rintro q1 w11 ⟨v11,rfl,h11,hx11⟩;have hX1:=(AK.refl (fun _=>False) wc).drew.trans hx11;have hK1:=(HB.o.1.keep hX1).s;obtain⟨ng1,ag1,lg1,cg1,rfl⟩:=h11.shape)
    | (go_at_call 188;(with_reducible refine (H2.o _ (HB.o.2.2.2.trans hX1)).mono ?_);rintro q2 w12 ⟨v12,rfl,h12,hx12⟩;have hX2:=hX1.trans hx12;have hK2:=(HB.o.1.keep hX2).s;have hR1:=HB.o.2.1.ext hX2 id;have hR2:=HB.o.2.2.1.ext hX2 id;obtain⟨d0,d1,d2,d3⟩:=hR1.facts;obtain⟨f0,f1,f2,f3⟩:=hR2.facts;obtain⟨ng2,ag2,lg2,cg2,rfl⟩:=h12.shape))
  have hp1:=hR1.put (neg:=ng1) (AF ag1 lg1 cg1);have hp2:=(hR2.ext hp1.ext (fun e=>by omega)).put (neg:=ng2) (AF ag2 lg2 cg2);have HR:=bH (bI (hp2.int (hp1.int (h11.keep hx12))) (bI (hp2.int (hp1.int h12)) (bI (((HB.o.2.2.2.trans hX2).own hp1.ext (fun k e=>by omega)).own hp2.ext (fun k e=>by omega)) (bI (hp1.box.ext hp2.ext (fun e=>by omega)) hp2.box))));clear hp1 hp2 hR1 hR2 hS d0 d1 d2 d3 f0 f1 f2 f3 h11 hx11 hX1 hK1 h12 hx12 hX2 hK2;generalize (((w12.setCell ⟨r1,0,none⟩ (.bool ng1)).setCell ⟨r1,1,none⟩ (.slice ag1 lg1 cg1)).setCell ⟨r2,0,none⟩ (.bool ng2)).setCell ⟨r2,1,none⟩ (.slice ag2 lg2 cg2)=w20 at *;obtain⟨g0,g1,_⟩:=HR.o.2.2.2.1.facts;obtain⟨g2,g3,_⟩:=HR.o.2.2.2.2.facts;go_wp2;exact bodyPost_ret (v:=.tuple #[.agg #[.bool ng1,.slice ag1 lg1 cg1],.agg #[.bool ng2,.slice ag2 lg2 cg2]]) (by simp[results,results222,go_sem,g0,g1,g2,g3]) rfl ⟨_,_,rfl,HR.o.1,HR.o.2.1,HR.o.2.2.1⟩
theorem SI(w:World) (p q r s:Value) (zp zq zr zs:Int) (L:Nat) (hp:Bf w p zp L) (hq:Bf w q zq L) (hr:Bf w r zr L) (hs:Bf w s zs L) (hL:L<=4194304) :
  Calls prog 219 #[p,q,r,s] w (Fx w (zp*zs+zr*zq) (zq*zs)):=by
 have H1:=bH (fun W (hW:XF w W)=>DB W p s zp zs L (hp.keep hW) (hs.keep hW) (by omega));have H2:=bH (fun W (hW:XF w W)=>DB W r q zr zq L (hr.keep hW) (hq.keep hW) (by omega));have H4:=bH (fun W (hW:XF w W)=>DB W q s zq zs L (hq.keep hW) (hs.keep hW) (by omega));have hl1:=CQ hp.len hs.len;have hl2:=CQ hr.len hq.len;have H3:=bH (fun W u u' (hu:Ay W u (zp*zs)) (hu':Ay W u' (zr*zq))=>KR W u u' _ _ (L+L) (hu.reads hl1) (hu'.reads hl2) (by omega));clear hl1 hl2;obtain⟨n1,a1,l1,c1,_,rfl,_,_,_⟩:=hp.open;obtain⟨n2,a2,l2,c2,_,rfl,_,_,_⟩:=hq.open;obtain⟨n3,a3,l3,c3,_,rfl,_,_,_⟩:=hr.open;obtain⟨n4,a4,l4,c4,_,rfl,_,_,_⟩:=hs.open;clear hp hq hr hs;unfold Fx;generalize zp*zs=Z1 at *;generalize zr*zq=Z2 at *;generalize zq*zs=Y at *;go_enter func219,ntmps219;go_upto_region 0 with fail;go_cut [4,5,6,7,8,9] (fun v1 v2 v3 v4 v5 v6 wx=>∃b1 b2 b3 b4 r1 r2,v1=.pointer (some ⟨b1,0,none⟩)/\v2=.pointer (some ⟨b2,0,none⟩)/\v3=.pointer (some ⟨b3,0,none⟩)/\v4=.pointer (some ⟨b4,0,none⟩)/\v5=.pointer (some ⟨r1,0,none⟩)/\v6=.pointer (some ⟨r2,0,none⟩)/\OM wx b1 b2 b3 b4 n1 n2 n3 n4 (.slice a1 l1 c1) (.slice a2 l2 c2) (.slice a3 l3 c3) (.slice a4 l4 c4)/\A1 wx r1 false (.slice none 0 0)/\A1 wx r2 false (.slice none 0 0)/\b1<r1/\b2<r1/\b3<r1/\b4<r1/\r1<r2/\w.heap.size<=r1/\XF w wx);case first =>
  go_wp2;go_meet;exact⟨_,_,_,_,_,_,rfl,rfl,rfl,rfl,rfl,rfl,⟨(((((AR rfl n1 a1 l1 c1).alloc _).alloc _).alloc _).alloc _).alloc _,((((AR (by simp) n2 a2 l2 c2).alloc _).alloc _).alloc _).alloc _,(((AR (by simp) n3 a3 l3 c3).alloc _).alloc _).alloc _,((AR (by simp) n4 a4 l4 c4).alloc _).alloc _⟩,(AR (by simp) false none 0 0).alloc _,AR (by simp) false none 0 0,(by omega),(by omega),(by omega),(by omega),(by omega),(by omega),((((((AK.refl _ w).alloc _).alloc _).alloc _).alloc _).alloc _).alloc _⟩
 case rest =>
  obtain⟨b1,b2,b3,b4,r1,r2,rfl,rfl,rfl,rfl,rfl,rfl,hb,hr1,hr2,i1,i2,i3,i4,i5,hle,hx⟩:=hcut;have hS:=hb.s;have HB:=bH (bI hb (bI hr1 (bI hr2 hx)));clear hb hr1 hr2 hx;go_upto_region 1 with fail;go_region_held3 (Od b1 b2 b3 b4 n1 n2 n3 n4 (.slice a1 l1 c1) (.slice a2 l2 c2) (.slice a3 l3 c3) (.slice a4 l4 c4))
   (repeat (first|(with_reducible assumption)|(with_reducible refine Od.drew ?_)|(with_reducible refine Od.set ?_ _ _ ?_ ?_ ?_ ?_)|(dsimp only;omega)))
   (first
    | (go_at_call 188;(with_reducible refine (H1.o _ (HB.o.2.2.2.drew)).mono ?_);rintro q1 w11 ⟨v11,rfl,h11,hx11⟩;have hX1:=(AK.refl (fun _=>False) wc).drew.trans hx11;have hK1:=(HB.o.1.keep hX1).s;obtain⟨ng1,ag1,lg1,cg1,rfl⟩:=h11.shape)
    | (go_at_call 188;(with_reducible refine (H2.o _ (HB.o.2.2.2.trans hX1)).mono ?_);rintro q2 w12 ⟨v12,rfl,h12,hx12⟩;have hX2:=hX1.trans hx12;have hK2:=(HB.o.1.keep hX2).s;have hA:=H3.o _ _ _ (h11.keep hx12) h12;obtain⟨ng2,ag2,lg2,cg2,rfl⟩:=h12.shape)
    | (go_at_call 181;(with_reducible refine hA.mono ?_);rintro q3 w13 ⟨v13,rfl,h13,hx13⟩;have hX3:=hX2.trans hx13;have hK3:=(HB.o.1.keep hX3).s;obtain⟨ng3,ag3,lg3,cg3,rfl⟩:=h13.shape)
    | (go_at_call 188;(with_reducible refine (H4.o _ (HB.o.2.2.2.trans hX3)).mono ?_);rintro q4 w14 ⟨v14,rfl,h14,hx14⟩;have hX4:=hX3.trans hx14;have hK4:=(HB.o.1.keep hX4).s;have hR1:=HB.o.2.1.ext hX4 id;have hR2:=HB.o.2.2.1.ext hX4 id;obtain⟨d0,d1,d2,d3⟩:=hR1.facts;obtain⟨f0,f1,f2,f3⟩:=hR2.facts;obtain⟨ng4,ag4,lg4,cg4,rfl⟩:=h14.shape))
  have hp1:=hR1.put (neg:=ng3) (AF ag3 lg3 cg3);have hp2:=(hR2.ext hp1.ext (fun e=>by omega)).put (neg:=ng4) (AF ag4 lg4 cg4);have HR:=bH (bI (hp2.int (hp1.int (h13.keep hx14))) (bI (hp2.int (hp1.int h14)) (bI (((HB.o.2.2.2.trans hX4).own hp1.ext (fun k e=>by omega)).own hp2.ext (fun k e=>by omega)) (bI (hp1.box.ext hp2.ext (fun e=>by omega)) hp2.box))));clear hp1 hp2 hR1 hR2 hS d0 d1 d2 d3 f0 f1 f2 f3 h11 hx11 hX1 hK1 h12 hx12 hX2 hK2 h13 hx13 hX3 hK3 h14 hx14 hX4 hK4;generalize (((w14.setCell ⟨r1,0,none⟩ (.bool ng3)).setCell ⟨r1,1,none⟩ (.slice ag3 lg3 cg3)).setCell ⟨r2,0,none⟩ (.bool ng4)).setCell ⟨r2,1,none⟩ (.slice ag4 lg4 cg4)=w20 at *;obtain⟨g0,g1,_⟩:=HR.o.2.2.2.1.facts;obtain⟨g2,g3,_⟩:=HR.o.2.2.2.2.facts;go_wp2;exact bodyPost_ret (v:=.tuple #[.agg #[.bool ng3,.slice ag3 lg3 cg3],.agg #[.bool ng4,.slice ag4 lg4 cg4]]) (by simp[results,results219,go_sem,g0,g1,g2,g3]) rfl ⟨_,_,rfl,HR.o.1,HR.o.2.1,HR.o.2.2.1⟩
abbrev B5(b1 b2:Nat) (n1 n2:Bool) (m1 e1 m2 e2:Value) (W:World):Prop :=
 W.cell? ⟨b1,0,none⟩=some (.bool n1)/\W.cell? ⟨b1,1,none⟩=some m1/\W.cell? ⟨b1,2,none⟩=some e1/\W.cell? ⟨b2,0,none⟩=some (.bool n2)/\W.cell? ⟨b2,1,none⟩=some m2/\W.cell? ⟨b2,2,none⟩=some e2
section
variable {b1 b2:Nat} {n1 n2:Bool} {m1 e1 m2 e2:Value} {W:World}
theorem B5.of(h:Aj W b1 n1 m1 e1) (h':Aj W b2 n2 m2 e2):B5 b1 b2 n1 n2 m1 e1 m2 e2 W:=⟨h.facts.1,h.facts.2.1,h.facts.2.2.1,h'.facts.1,h'.facts.2.1,h'.facts.2.2.1⟩
theorem B5.drew(h:B5 b1 b2 n1 n2 m1 e1 m2 e2 W):B5 b1 b2 n1 n2 m1 e1 m2 e2 W.drew:=h
theorem B5.set(h:B5 b1 b2 n1 n2 m1 e1 m2 e2 W) (p:Addr) (u:Value) (h1:¬b1=p.block) (h2:¬b2=p.block):B5 b1 b2 n1 n2 m1 e1 m2 e2 (W.setCell p u):=by
 obtain⟨a1,a2,a3,a4,a5,a6⟩:=h;exact⟨AY a1 h1,AY a2 h1,AY a3 h1,AY a4 h2,AY a5 h2,AY a6 h2⟩
end
abbrev JA(b1:Nat) (n1:Bool) (m1 e1:Value) (W:World):Prop :=
 W.cell? ⟨b1,0,none⟩=some (.bool n1)/\W.cell? ⟨b1,1,none⟩=some m1/\W.cell? ⟨b1,2,none⟩=some e1
section
variable {b1:Nat} {n1:Bool} {m1 e1:Value} {W:World}
theorem JA.of(h:Aj W b1 n1 m1 e1):JA b1 n1 m1 e1 W:=⟨h.facts.1,h.facts.2.1,h.facts.2.2.1⟩
theorem JA.drew(h:JA b1 n1 m1 e1 W):JA b1 n1 m1 e1 W.drew:=h
theorem JA.set(h:JA b1 n1 m1 e1 W) (p:Addr) (u:Value) (h1:¬b1=p.block):JA b1 n1 m1 e1 (W.setCell p u):=by
 obtain⟨a1,a2,a3⟩:=h;exact⟨AY a1 h1,AY a2 h1,AY a3 h1⟩
end
theorem C5{w:World} {v:Value} {d:List Nat} {L:Nat} (h:Ad w v d) (hl:d.length<=L) (h0:1<=L):(dg (dn (vl d))).length<=L:=by
 unfold dn;split
 ·exact Nat.le_trans (As (k:=1) (by decide)) h0
 exact Nat.le_trans (As (Ct h.1)) hl
theorem Qg(w:World) (v v':Value) (q q':Rat) (L:Nat) (h:BA w v q L) (h':BA w v' q' L) (h0:1<=L) (hL:L<=4194304) :
  Calls prog 215 #[v,v',.func (.func 219) #[] #[]] w (Aw w (q+q')):=by
 obtain⟨n1,a1,l1,c1,x1,y1,k1,l,d,rfl,hr,hd,hm,hdl,hq⟩:=h.open;clear hm;obtain⟨n2,a2,l2,c2,x2,y2,k2,l',d',rfl,hr',hd',hm,hdl',hq'⟩:=h'.open;clear hm;have HD1:=bH (fun W (hW:XF w W)=>Ed W _ n1 a1 l1 c1 x1 y1 k1 d L rfl (hd.keep hW) hdl (by omega) h0);have HD2:=bH (fun W (hW:XF w W)=>Ed W _ n2 a2 l2 c2 x2 y2 k2 d' L rfl (hd'.keep hW) hdl' (by omega) h0);have HF:=bH (fun W (hW:XF w W) u u' hu hu'=>SI W _ u _ u' _ (dn (vl d):Nat) _ (dn (vl d'):Nat) L (hr.keep hW) hu (hr'.keep hW) hu' hL);have hY:((dn (vl d):Nat):Int)*((dn (vl d'):Nat):Int)=((dn (vl d)*dn (vl d'):Nat):Int):=by simp
 have hdl1:(dg (((dn (vl d):Nat):Int)).natAbs).length<=L:=by rw[Int.natAbs_natCast];exact C5 hd hdl h0
 have hdl2:(dg (((dn (vl d'):Nat):Int)).natAbs).length<=L:=by rw[Int.natAbs_natCast];exact C5 hd' hdl' h0
 have hYl:=CQ hdl1 hdl2;have hZl:(dg (sg n1 (vl l)*((dn (vl d'):Nat):Int)+sg n2 (vl l')*((dn (vl d):Nat):Int)).natAbs).length<=L+L+1:=I8 (CQ hr.len hdl2) (CQ hr'.len hdl1);clear hdl1 hdl2;have HRd:=bH (fun W u u' (hu:Ay W u (sg n1 (vl l)*((dn (vl d'):Nat):Int)+sg n2 (vl l')*((dn (vl d):Nat):Int))) (hu':Ay W u' (((dn (vl d):Nat):Int)*((dn (vl d'):Nat):Int)))=>E6 W u u' (sg n1 (vl l)*((dn (vl d'):Nat):Int)+sg n2 (vl l')*((dn (vl d):Nat):Int)) (dn (vl d)*dn (vl d')) (L+L+1) (hu.reads hZl) (by rw[<- hY];exact hu'.reads (by have:=hYl;omega)) (Nat.mul_pos (Br _) (Br _)) (by omega));have hres:mkRat (sg n1 (vl l)*((dn (vl d'):Nat):Int)+sg n2 (vl l')*((dn (vl d):Nat):Int)) (dn (vl d)*dn (vl d'))=q+q':=by
  rw[hq,hq'];rw[Rat.mkRat_add_mkRat _ _ (Nat.ne_of_gt (Br _)) (Nat.ne_of_gt (Br _))]
 rw[hres] at HRd;clear hr hr' hd hd' hdl hdl' hq hq' h h' hY hres hZl hYl;generalize q+q'=Q at *;unfold Fx at HF;generalize sg n1 (vl l)*((dn (vl d'):Nat):Int)+sg n2 (vl l')*((dn (vl d):Nat):Int)=Z at *;generalize ((dn (vl d):Nat):Int)*((dn (vl d'):Nat):Int)=Y at *;generalize ((dn (vl d):Nat):Int)=D1 at *;generalize ((dn (vl d'):Nat):Int)=D2 at *;go_enter func215,ntmps215;go_upto_region 0 with fail;go_cut [3,4,6] (fun v1 v2 v3 wx=>∃b1 b2 r,v1=.pointer (some ⟨b1,0,none⟩)/\v2=.pointer (some ⟨b2,0,none⟩)/\v3=.pointer (some ⟨r,0,none⟩)/\Aj wx b1 n1 (.slice a1 l1 c1) (.slice x1 y1 k1)/\Aj wx b2 n2 (.slice a2 l2 c2) (.slice x2 y2 k2)/\Aj wx r false (.slice none 0 0) (.slice none 0 0)/\b1<r/\b2<r/\w.heap.size<=r/\XF w wx);case first =>
  go_wp2;go_meet;exact⟨_,_,_,rfl,rfl,rfl,((AO rfl n1 a1 l1 c1 x1 y1 k1).alloc _).alloc _,(AO (by simp) n2 a2 l2 c2 x2 y2 k2).alloc _,AO (by simp) false none 0 0 none 0 0,(by omega),(by omega),(by omega),(((AK.refl _ w).alloc _).alloc _).alloc _⟩
 case rest =>
  obtain⟨b1,b2,r,rfl,rfl,rfl,hb1,hb2,hrb,i1,i2,hle,hx⟩:=hcut;have hS:=B5.of hb1 hb2;have HB:=bH (bI hb1 (bI hb2 (bI hrb hx)));clear hb1 hb2 hrb hx;go_upto_region 1 with fail;go_region_held3 (B5 b1 b2 n1 n2 (.slice a1 l1 c1) (.slice x1 y1 k1) (.slice a2 l2 c2) (.slice x2 y2 k2))
   (repeat (first|(with_reducible assumption)|(with_reducible refine B5.drew ?_)|(with_reducible refine B5.set ?_ _ _ ?_ ?_)|(dsimp only;omega)))
   (first
    | (go_at_call 189;(with_reducible refine (HD1.o _ HB.o.2.2.2.drew).mono ?_);rintro q1 w11 ⟨v11,rfl,h11,hx11⟩;have hX1:=(AK.refl (fun _=>False) wc).drew.trans hx11;have hK1:=B5.of (HB.o.1.ext hX1 id) (HB.o.2.1.ext hX1 id);obtain⟨ng1,ag1,lg1,cg1,rfl⟩:=h11.shape)
    | (go_at_call 189;(with_reducible refine (HD2.o _ (HB.o.2.2.2.trans hX1)).mono ?_);rintro q2 w12 ⟨v12,rfl,h12,hx12⟩;have hX2:=hX1.trans hx12;have hK2:=B5.of (HB.o.1.ext hX2 id) (HB.o.2.1.ext hX2 id);have hF:=HF.o w12 (HB.o.2.2.2.trans hX2) _ _ (h11.keep hx12) h12;obtain⟨ng2,ag2,lg2,cg2,rfl⟩:=h12.shape)
    | (go_at_call 219;(with_reducible refine hF.mono ?_);rintro q3 w13 ⟨va,vb,rfl,ha,hb,hx13⟩;have hX3:=hX2.trans hx13;have hK3:=B5.of (HB.o.1.ext hX3 id) (HB.o.2.1.ext hX3 id);have hR:=HRd.o w13 _ _ ha hb;obtain⟨ng3,ag3,lg3,cg3,rfl⟩:=ha.shape;obtain⟨ng4,ag4,lg4,cg4,rfl⟩:=hb.shape)
    | (go_at_call 205;(with_reducible refine hR.mono ?_);rintro q4 w14 ⟨v14,rfl,h14,hx14⟩;have hX4:=hX3.trans hx14;have hK4:=B5.of (HB.o.1.ext hX4 id) (HB.o.2.1.ext hX4 id);have hr4:=HB.o.2.2.1.ext hX4 id;obtain⟨d0,d1,d2,d3,d4,d5⟩:=hr4.facts;obtain⟨ng,sa,sn,sc,ta,tn,tc,rfl⟩:=h14.shape))
  have hp:=hr4.put (neg:=ng) (AF sa sn sc) (AF ta tn tc);have HR:=bH (bI (hp.rat h14) (bI ((HB.o.2.2.2.trans hX4).own hp.ext (fun k e=>by omega)) hp.box));clear hp hr4 h11 h12 ha hb h14 hx11 hx12 hx13 hx14 hX1 hX2 hX3 hX4 hK1 hK2 hK3 hK4 hS hF hR d0 d1 d2 d3 d4 d5;generalize ((w14.setCell ⟨r,0,none⟩ (.bool ng)).setCell ⟨r,1,none⟩ (.slice sa sn sc)).setCell ⟨r,2,none⟩ (.slice ta tn tc)=w20 at *;obtain⟨g0,g1,g2,_⟩:=HR.o.2.2.facts;go_wp2;exact bodyPost_ret (v:=.agg #[.bool ng,.slice sa sn sc,.slice ta tn tc]) (by simp[results,results215,go_sem,g0,g1,g2]) rfl ⟨_,rfl,HR.o.1,HR.o.2.1⟩
theorem RG(w:World) (v v':Value) (q q':Rat) (L:Nat) (h:BA w v q L) (h':BA w v' q' L) (h0:1<=L) (hL:L<=4194304) :
  Calls prog 215 #[v,v',.func (.func 222) #[] #[]] w (Aw w (q*q')):=by
 obtain⟨n1,a1,l1,c1,x1,y1,k1,l,d,rfl,hr,hd,hm,hdl,hq⟩:=h.open;clear hm;obtain⟨n2,a2,l2,c2,x2,y2,k2,l',d',rfl,hr',hd',hm,hdl',hq'⟩:=h'.open;clear hm;have HD1:=bH (fun W (hW:XF w W)=>Ed W _ n1 a1 l1 c1 x1 y1 k1 d L rfl (hd.keep hW) hdl (by omega) h0);have HD2:=bH (fun W (hW:XF w W)=>Ed W _ n2 a2 l2 c2 x2 y2 k2 d' L rfl (hd'.keep hW) hdl' (by omega) h0);have HF:=bH (fun W (hW:XF w W) u u' hu hu'=>SC W _ u _ u' _ (dn (vl d):Nat) _ (dn (vl d'):Nat) L (hr.keep hW) hu (hr'.keep hW) hu' hL);have hY:((dn (vl d):Nat):Int)*((dn (vl d'):Nat):Int)=((dn (vl d)*dn (vl d'):Nat):Int):=by simp
 have hdl1:(dg (((dn (vl d):Nat):Int)).natAbs).length<=L:=by rw[Int.natAbs_natCast];exact C5 hd hdl h0
 have hdl2:(dg (((dn (vl d'):Nat):Int)).natAbs).length<=L:=by rw[Int.natAbs_natCast];exact C5 hd' hdl' h0
 have hYl:=CQ hdl1 hdl2;have hZl:(dg (sg n1 (vl l)*sg n2 (vl l')).natAbs).length<=L+L+1:=Nat.le_trans (CQ hr.len hr'.len) (by omega);clear hdl1 hdl2;have HRd:=bH (fun W u u' (hu:Ay W u (sg n1 (vl l)*sg n2 (vl l'))) (hu':Ay W u' (((dn (vl d):Nat):Int)*((dn (vl d'):Nat):Int)))=>E6 W u u' (sg n1 (vl l)*sg n2 (vl l')) (dn (vl d)*dn (vl d')) (L+L+1) (hu.reads hZl) (by rw[<- hY];exact hu'.reads (by have:=hYl;omega)) (Nat.mul_pos (Br _) (Br _)) (by omega));have hres:mkRat (sg n1 (vl l)*sg n2 (vl l')) (dn (vl d)*dn (vl d'))=q*q':=by
  rw[hq,hq'];rw[Rat.mkRat_mul_mkRat]
 rw[hres] at HRd;clear hr hr' hd hd' hdl hdl' hq hq' h h' hY hres hZl hYl;generalize q*q'=Q at *;unfold Fx at HF;generalize sg n1 (vl l)*sg n2 (vl l')=Z at *;generalize ((dn (vl d):Nat):Int)*((dn (vl d'):Nat):Int)=Y at *;generalize ((dn (vl d):Nat):Int)=D1 at *;generalize ((dn (vl d'):Nat):Int)=D2 at *;go_enter func215,ntmps215;go_upto_region 0 with fail;go_cut [3,4,6] (fun v1 v2 v3 wx=>∃b1 b2 r,v1=.pointer (some ⟨b1,0,none⟩)/\v2=.pointer (some ⟨b2,0,none⟩)/\v3=.pointer (some ⟨r,0,none⟩)/\Aj wx b1 n1 (.slice a1 l1 c1) (.slice x1 y1 k1)/\Aj wx b2 n2 (.slice a2 l2 c2) (.slice x2 y2 k2)/\Aj wx r false (.slice none 0 0) (.slice none 0 0)/\b1<r/\b2<r/\w.heap.size<=r/\XF w wx);case first =>
  go_wp2;go_meet;exact⟨_,_,_,rfl,rfl,rfl,((AO rfl n1 a1 l1 c1 x1 y1 k1).alloc _).alloc _,(AO (by simp) n2 a2 l2 c2 x2 y2 k2).alloc _,AO (by simp) false none 0 0 none 0 0,(by omega),(by omega),(by omega),(((AK.refl _ w).alloc _).alloc _).alloc _⟩
 case rest =>
  obtain⟨b1,b2,r,rfl,rfl,rfl,hb1,hb2,hrb,i1,i2,hle,hx⟩:=hcut;have hS:=B5.of hb1 hb2;have HB:=bH (bI hb1 (bI hb2 (bI hrb hx)));clear hb1 hb2 hrb hx;go_upto_region 1 with fail;go_region_held3 (B5 b1 b2 n1 n2 (.slice a1 l1 c1) (.slice x1 y1 k1) (.slice a2 l2 c2) (.slice x2 y2 k2))
   (repeat (first|(with_reducible assumption)|(with_reducible refine B5.drew ?_)|(with_reducible refine B5.set ?_ _ _ ?_ ?_)|(dsimp only;omega)))
   (first
    | (go_at_call 189;(with_reducible refine (HD1.o _ HB.o.2.2.2.drew).mono ?_);rintro q1 w11 ⟨v11,rfl,h11,hx11⟩;have hX1:=(AK.refl (fun _=>False) wc).drew.trans hx11;have hK1:=B5.of (HB.o.1.ext hX1 id) (HB.o.2.1.ext hX1 id);obtain⟨ng1,ag1,lg1,cg1,rfl⟩:=h11.shape)
    | (go_at_call 189;(with_reducible refine (HD2.o _ (HB.o.2.2.2.trans hX1)).mono ?_);rintro q2 w12 ⟨v12,rfl,h12,hx12⟩;have hX2:=hX1.trans hx12;have hK2:=B5.of (HB.o.1.ext hX2 id) (HB.o.2.1.ext hX2 id);have hF:=HF.o w12 (HB.o.2.2.2.trans hX2) _ _ (h11.keep hx12) h12;obtain⟨ng2,ag2,lg2,cg2,rfl⟩:=h12.shape)
    | (go_at_call 222;(with_reducible refine hF.mono ?_);rintro q3 w13 ⟨va,vb,rfl,ha,hb,hx13⟩;have hX3:=hX2.trans hx13;have hK3:=B5.of (HB.o.1.ext hX3 id) (HB.o.2.1.ext hX3 id);have hR:=HRd.o w13 _ _ ha hb;obtain⟨ng3,ag3,lg3,cg3,rfl⟩:=ha.shape;obtain⟨ng4,ag4,lg4,cg4,rfl⟩:=hb.shape)
    | (go_at_call 205;(with_reducible refine hR.mono ?_);rintro q4 w14 ⟨v14,rfl,h14,hx14⟩;have hX4:=hX3.trans hx14;have hK4:=B5.of (HB.o.1.ext hX4 id) (HB.o.2.1.ext hX4 id);have hr4:=HB.o.2.2.1.ext hX4 id;obtain⟨d0,d1,d2,d3,d4,d5⟩:=hr4.facts;obtain⟨ng,sa,sn,sc,ta,tn,tc,rfl⟩:=h14.shape))
  have hp:=hr4.put (neg:=ng) (AF sa sn sc) (AF ta tn tc);have HR:=bH (bI (hp.rat h14) (bI ((HB.o.2.2.2.trans hX4).own hp.ext (fun k e=>by omega)) hp.box));clear hp hr4 h11 h12 ha hb h14 hx11 hx12 hx13 hx14 hX1 hX2 hX3 hX4 hK1 hK2 hK3 hK4 hS hF hR d0 d1 d2 d3 d4 d5;generalize ((w14.setCell ⟨r,0,none⟩ (.bool ng)).setCell ⟨r,1,none⟩ (.slice sa sn sc)).setCell ⟨r,2,none⟩ (.slice ta tn tc)=w20 at *;obtain⟨g0,g1,g2,_⟩:=HR.o.2.2.facts;go_wp2;exact bodyPost_ret (v:=.agg #[.bool ng,.slice sa sn sc,.slice ta tn tc]) (by simp[results,results215,go_sem,g0,g1,g2]) rfl ⟨_,rfl,HR.o.1,HR.o.2.1⟩
theorem GT(w:World) (v:Value) (q:Rat) (L:Nat) (h:BA w v q L) (h0:1<=L) (hL:L<=4194304) :
  Calls prog 157 #[v] w (Aw w (-q)):=by
 obtain⟨n1,a1,l1,c1,x1,y1,k1,l,d,rfl,hr,hd,hm,hdl,hq⟩:=h.open;clear hm;have HN:=bH (fun W (hW:XF w W)=>I6 W _ _ L (hr.keep hW) (by omega));have HD1:=bH (fun W (hW:XF w W)=>Ed W _ n1 a1 l1 c1 x1 y1 k1 d L rfl (hd.keep hW) hdl (by omega) h0);have hnl:(dg (-sg n1 (vl l)).natAbs).length<=L:=by rw[Int.natAbs_neg];exact hr.len
 have HRd:=bH (fun W u u' (hu:Ay W u (-sg n1 (vl l))) hu'=>E6 W u u' (-sg n1 (vl l)) (dn (vl d)) L (hu.reads hnl) hu' (Br _) (by omega));rw[<- Rat.neg_mkRat,<- hq] at HRd;clear hr hd hdl hq h hnl;generalize -q=Q at *;generalize -sg n1 (vl l)=Z at *;generalize ((dn (vl d):Nat):Int)=D1 at *;go_enter func157,ntmps157;go_upto_region 0 with fail;go_cut [1,2] (fun v1 v3 wx=>∃b1 r,v1=.pointer (some ⟨b1,0,none⟩)/\v3=.pointer (some ⟨r,0,none⟩)/\Aj wx b1 n1 (.slice a1 l1 c1) (.slice x1 y1 k1)/\Aj wx r false (.slice none 0 0) (.slice none 0 0)/\b1<r/\w.heap.size<=r/\XF w wx);case first =>
  go_wp2;go_meet;exact⟨_,_,rfl,rfl,(AO rfl n1 a1 l1 c1 x1 y1 k1).alloc _,AO (by simp) false none 0 0 none 0 0,(by omega),(by omega),((AK.refl _ w).alloc _).alloc _⟩
 case rest =>
  obtain⟨b1,r,rfl,rfl,hb1,hrb,i1,hle,hx⟩:=hcut;have hS:=JA.of hb1;have HB:=bH (bI hb1 (bI hrb hx));clear hb1 hrb hx;go_upto_region 1 with fail;go_region_held3 (JA b1 n1 (.slice a1 l1 c1) (.slice x1 y1 k1))
   (repeat (first|(with_reducible assumption)|(with_reducible refine JA.drew ?_)|(with_reducible refine JA.set ?_ _ _ ?_)|(dsimp only;omega)))
   (first
    | (go_at_call 217;(with_reducible refine (HN.o _ HB.o.2.2.drew).mono ?_);rintro q1 w11 ⟨v11,rfl,h11,hx11⟩;have hX1:=(AK.refl (fun _=>False) wc).drew.trans hx11;have hK1:=JA.of (HB.o.1.ext hX1 id);obtain⟨ng1,ag1,lg1,cg1,rfl⟩:=h11.shape)
    | (go_at_call 189;(with_reducible refine (HD1.o _ (HB.o.2.2.trans hX1)).mono ?_);rintro q2 w12 ⟨v12,rfl,h12,hx12⟩;have hX2:=hX1.trans hx12;have hK2:=JA.of (HB.o.1.ext hX2 id);have hR:=HRd.o w12 _ _ (h11.keep hx12) h12;obtain⟨ng2,ag2,lg2,cg2,rfl⟩:=h12.shape)
    | (go_at_call 205;(with_reducible refine hR.mono ?_);rintro q4 w14 ⟨v14,rfl,h14,hx14⟩;have hX4:=hX2.trans hx14;have hK4:=JA.of (HB.o.1.ext hX4 id);have hr4:=HB.o.2.1.ext hX4 id;obtain⟨d0,d1,d2,d3,d4,d5⟩:=hr4.facts;obtain⟨ng,sa,sn,sc,ta,tn,tc,rfl⟩:=h14.shape))
  have hp:=hr4.put (neg:=ng) (AF sa sn sc) (AF ta tn tc);have HR:=bH (bI (hp.rat h14) (bI ((HB.o.2.2.trans hX4).own hp.ext (fun k e=>by omega)) hp.box));clear hp hr4 h11 h12 h14 hx11 hx12 hx14 hX1 hX2 hX4 hK1 hK2 hK4 hS hR d0 d1 d2 d3 d4 d5;generalize ((w14.setCell ⟨r,0,none⟩ (.bool ng)).setCell ⟨r,1,none⟩ (.slice sa sn sc)).setCell ⟨r,2,none⟩ (.slice ta tn tc)=w20 at *;obtain⟨g0,g1,g2,_⟩:=HR.o.2.2.facts;go_wp2;exact bodyPost_ret (v:=.agg #[.bool ng,.slice sa sn sc,.slice ta tn tc]) (by simp[results,results157,go_sem,g0,g1,g2]) rfl ⟨_,rfl,HR.o.1,HR.o.2.1⟩
theorem Qq(z:Int):mkRat z 1=(z:Rat):=by
 have h:=Rat.mkRat_self (z:Rat);rwa [Rat.num_intCast,Rat.den_intCast] at h
theorem J8{neg:Bool} {l d:List Nat} (h:d.length=0):mkRat (sg neg (vl l)) (dn (vl d))=((sg neg (vl l):Int):Rat):=by
 rw[List.eq_nil_of_length_eq_zero h];exact Qq _
theorem GW(w:World) (v v':Value) (q q':Rat) (L:Nat) (h:BA w v q L) (h':BA w v' q' L) (h0:1<=L) (hL:L<=4194304) :
  Calls prog 160 #[v,v'] w (Aw w (q+q')):=by
 have HC:=bH (fun W (hW:XF w W)=>Qg W v v' q q' L (h.keep hW) (h'.keep hW) h0 hL);obtain⟨n1,a1,l1,c1,x1,y1,k1,l,d,rfl,hr,hd,hm,hdl,hq⟩:=h.open;obtain⟨n2,a2,l2,c2,x2,y2,k2,l',d',rfl,hr',hd',hm',hdl',hq'⟩:=h'.open;have HI:=bH (fun W (hW:XF w W)=>KR W _ _ _ _ L (hr.keep hW) (hr'.keep hW) (by omega));have hof:=fun W neg mag (hz:y1=0/\y2=0) (h:Ay W (.agg #[.bool neg,mag]) (sg n1 (vl l)+sg n2 (vl l')))=>AN.ofInt h;have he:y1=0/\y2=0->((sg n1 (vl l)+sg n2 (vl l'):Int):Rat)=q+q':=fun hz=>by
  rw[hq,hq',J8 (by omega),J8 (by omega),Rat.intCast_add]
 have Hof:=bH (fun W neg mag (hz:y1=0/\y2=0) (h:Ay W (.agg #[.bool neg,mag]) (sg n1 (vl l)+sg n2 (vl l')))=>(he hz)▸AN.ofInt h);have b1l:y1<=4194304:=by omega
 have b2l:y2<=4194304:=by omega
 clear hr hr' hd hd' hdl hdl' hq hq' h h' hof he hm hm';generalize q+q'=Q at *;generalize sg n1 (vl l)+sg n2 (vl l')=Z at *;go_enter func160,ntmps160;go_upto_region 0 with fail;go_cut [2,3,4] (fun v1 v2 v3 wx=>∃b1 b2 r,v1=.pointer (some ⟨b1,0,none⟩)/\v2=.pointer (some ⟨b2,0,none⟩)/\v3=.pointer (some ⟨r,0,none⟩)/\Aj wx b1 n1 (.slice a1 l1 c1) (.slice x1 y1 k1)/\Aj wx b2 n2 (.slice a2 l2 c2) (.slice x2 y2 k2)/\Aj wx r false (.slice none 0 0) (.slice none 0 0)/\b1<r/\b2<r/\w.heap.size<=r/\XF w wx);case first =>
  go_wp2;go_meet;exact⟨_,_,_,rfl,rfl,rfl,((AO rfl n1 a1 l1 c1 x1 y1 k1).alloc _).alloc _,(AO (by simp) n2 a2 l2 c2 x2 y2 k2).alloc _,AO (by simp) false none 0 0 none 0 0,(by omega),(by omega),(by omega),(((AK.refl _ w).alloc _).alloc _).alloc _⟩
 case rest =>
  obtain⟨b1,b2,r,rfl,rfl,rfl,hb1,hb2,hrb,i1,i2,hle,hx⟩:=hcut;obtain⟨c0,c1',c2',_⟩:=hb1.facts;obtain⟨e0,e1,e2,_⟩:=hb2.facts;have HB:=bH (bI hrb hx);clear hb1 hb2 hrb hx;by_cases hz:y1=0/\y2=0
  ·obtain⟨rfl,rfl⟩:=hz;have HI1:=bH (HI.o wc HB.o.2);go_wp2_with fail;refine HI1.o.mono ?_;rintro q4 w14 ⟨v14,rfl,h14,hx14⟩;obtain⟨ng,sa,sn,sc,rfl⟩:=h14.shape;have hr4:=HB.o.1.ext hx14 id;obtain⟨d0,d1,d2,d3,d4,d5⟩:=hr4.facts;have hp:=hr4.put (neg:=ng) (AF sa sn sc) (AF none 0 0);have HR:=bH (bI (hp.rat (Hof.o _ _ _ (by simp) h14)) (bI ((HB.o.2.trans hx14).own hp.ext (fun k e=>by omega)) hp.box));clear hp hr4 h14 hx14;go_wp2;generalize ((w14.setCell ⟨r,0,none⟩ (.bool ng)).setCell ⟨r,1,none⟩ (.slice sa sn sc)).setCell ⟨r,2,none⟩ (.slice none 0 0)=w20 at *;obtain⟨g0,g1,g2,_⟩:=HR.o.2.2.facts;exact bodyPost_ret (v:=.agg #[.bool ng,.slice sa sn sc,.slice none 0 0]) (by simp[results,results160,go_sem,g0,g1,g2]) rfl ⟨_,rfl,HR.o.1,HR.o.2.1⟩
  have hzi:¬(y1:Int)+y2=0:=(by omega);have hzb:((y1:Int)+y2 == 0)=false:=(by simpa using hzi);have hCC:=bH (HC.o wc HB.o.2);have Hz:=bH hz;clear hz;go_wp2_with fail;refine hCC.o.mono ?_;rintro q4 w14 ⟨v14,rfl,h14,hx14⟩;obtain⟨ng,sa,sn,sc,ta,tn,tc,rfl⟩:=h14.shape;have hr4:=HB.o.1.ext hx14 id;obtain⟨d0,d1,d2,d3,d4,d5⟩:=hr4.facts;have hp:=hr4.put (neg:=ng) (AF sa sn sc) (AF ta tn tc);have HR:=bH (bI (hp.rat h14) (bI ((HB.o.2.trans hx14).own hp.ext (fun k e=>by omega)) hp.box));clear hp hr4 h14 hx14;go_wp2;generalize ((w14.setCell ⟨r,0,none⟩ (.bool ng)).setCell ⟨r,1,none⟩ (.slice sa sn sc)).setCell ⟨r,2,none⟩ (.slice ta tn tc)=w20 at *;obtain⟨g0,g1,g2,_⟩:=HR.o.2.2.facts;exact bodyPost_ret (v:=.agg #[.bool ng,.slice sa sn sc,.slice ta tn tc]) (by simp[results,results160,go_sem,g0,g1,g2]) rfl ⟨_,rfl,HR.o.1,HR.o.2.1⟩
theorem DW(w:World) (v v':Value) (q q':Rat) (L:Nat) (h:BA w v q L) (h':BA w v' q' L) (h0:1<=L) (hL:L<=4194304) :
  Calls prog 179 #[v,v'] w (Aw w (q*q')):=by
 have HC:=bH (fun W (hW:XF w W)=>RG W v v' q q' L (h.keep hW) (h'.keep hW) h0 hL);obtain⟨n1,a1,l1,c1,x1,y1,k1,l,d,rfl,hr,hd,hm,hdl,hq⟩:=h.open;obtain⟨n2,a2,l2,c2,x2,y2,k2,l',d',rfl,hr',hd',hm',hdl',hq'⟩:=h'.open;have HI:=bH (fun W (hW:XF w W)=>DB W _ _ _ _ L (hr.keep hW) (hr'.keep hW) (by omega));have hof:=fun W neg mag (hz:y1=0/\y2=0) (h:Ay W (.agg #[.bool neg,mag]) (sg n1 (vl l)*sg n2 (vl l')))=>AN.ofInt h;have he:y1=0/\y2=0->((sg n1 (vl l)*sg n2 (vl l'):Int):Rat)=q*q':=fun hz=>by
  rw[hq,hq',J8 (by omega),J8 (by omega),Rat.intCast_mul]
 have Hof:=bH (fun W neg mag (hz:y1=0/\y2=0) (h:Ay W (.agg #[.bool neg,mag]) (sg n1 (vl l)*sg n2 (vl l')))=>(he hz)▸AN.ofInt h);have b1l:y1<=4194304:=by omega
 have b2l:y2<=4194304:=by omega
 clear hr hr' hd hd' hdl hdl' hq hq' h h' hof he hm hm';generalize q*q'=Q at *;generalize sg n1 (vl l)*sg n2 (vl l')=Z at *;go_enter func179,ntmps179;go_upto_region 0 with fail;go_cut [2,3,4] (fun v1 v2 v3 wx=>∃b1 b2 r,v1=.pointer (some ⟨b1,0,none⟩)/\v2=.pointer (some ⟨b2,0,none⟩)/\v3=.pointer (some ⟨r,0,none⟩)/\Aj wx b1 n1 (.slice a1 l1 c1) (.slice x1 y1 k1)/\Aj wx b2 n2 (.slice a2 l2 c2) (.slice x2 y2 k2)/\Aj wx r false (.slice none 0 0) (.slice none 0 0)/\b1<r/\b2<r/\w.heap.size<=r/\XF w wx);case first =>
  go_wp2;go_meet;exact⟨_,_,_,rfl,rfl,rfl,((AO rfl n1 a1 l1 c1 x1 y1 k1).alloc _).alloc _,(AO (by simp) n2 a2 l2 c2 x2 y2 k2).alloc _,AO (by simp) false none 0 0 none 0 0,(by omega),(by omega),(by omega),(((AK.refl _ w).alloc _).alloc _).alloc _⟩
 case rest =>
  obtain⟨b1,b2,r,rfl,rfl,rfl,hb1,hb2,hrb,i1,i2,hle,hx⟩:=hcut;obtain⟨c0,c1',c2',_⟩:=hb1.facts;obtain⟨e0,e1,e2,_⟩:=hb2.facts;have HB:=bH (bI hrb hx);clear hb1 hb2 hrb hx;by_cases hz:y1=0/\y2=0
  ·obtain⟨rfl,rfl⟩:=hz;have HI1:=bH (HI.o wc HB.o.2);go_wp2_with fail;refine HI1.o.mono ?_;rintro q4 w14 ⟨v14,rfl,h14,hx14⟩;obtain⟨ng,sa,sn,sc,rfl⟩:=h14.shape;have hr4:=HB.o.1.ext hx14 id;obtain⟨d0,d1,d2,d3,d4,d5⟩:=hr4.facts;have hp:=hr4.put (neg:=ng) (AF sa sn sc) (AF none 0 0);have HR:=bH (bI (hp.rat (Hof.o _ _ _ (by simp) h14)) (bI ((HB.o.2.trans hx14).own hp.ext (fun k e=>by omega)) hp.box));clear hp hr4 h14 hx14;go_wp2;generalize ((w14.setCell ⟨r,0,none⟩ (.bool ng)).setCell ⟨r,1,none⟩ (.slice sa sn sc)).setCell ⟨r,2,none⟩ (.slice none 0 0)=w20 at *;obtain⟨g0,g1,g2,_⟩:=HR.o.2.2.facts;exact bodyPost_ret (v:=.agg #[.bool ng,.slice sa sn sc,.slice none 0 0]) (by simp[results,results179,go_sem,g0,g1,g2]) rfl ⟨_,rfl,HR.o.1,HR.o.2.1⟩
  have hzi:¬(y1:Int)+y2=0:=(by omega);have hzb:((y1:Int)+y2 == 0)=false:=(by simpa using hzi);have hCC:=bH (HC.o wc HB.o.2);have Hz:=bH hz;clear hz;go_wp2_with fail;refine hCC.o.mono ?_;rintro q4 w14 ⟨v14,rfl,h14,hx14⟩;obtain⟨ng,sa,sn,sc,ta,tn,tc,rfl⟩:=h14.shape;have hr4:=HB.o.1.ext hx14 id;obtain⟨d0,d1,d2,d3,d4,d5⟩:=hr4.facts;have hp:=hr4.put (neg:=ng) (AF sa sn sc) (AF ta tn tc);have HR:=bH (bI (hp.rat h14) (bI ((HB.o.2.trans hx14).own hp.ext (fun k e=>by omega)) hp.box));clear hp hr4 h14 hx14;go_wp2;generalize ((w14.setCell ⟨r,0,none⟩ (.bool ng)).setCell ⟨r,1,none⟩ (.slice sa sn sc)).setCell ⟨r,2,none⟩ (.slice ta tn tc)=w20 at *;obtain⟨g0,g1,g2,_⟩:=HR.o.2.2.facts;exact bodyPost_ret (v:=.agg #[.bool ng,.slice sa sn sc,.slice ta tn tc]) (by simp[results,results179,go_sem,g0,g1,g2]) rfl ⟨_,rfl,HR.o.1,HR.o.2.1⟩
theorem Sz.neg{q:Rat} {L:Nat} (h:Sz q L):Sz (-q) L:=⟨by rw[Rat.neg_num,Int.natAbs_neg];exact h.1,by rw[Rat.neg_den];exact h.2⟩
theorem Ij{z:Int} {y L M:Nat} (hy:0<y) (hz:(dg z.natAbs).length<=L) (hd:(dg y).length<=L) (hM:L<=M):Sz (mkRat z y) M:=by
 have hg:0<y.gcd z.natAbs:=Nat.gcd_pos_of_pos_left _ hy;obtain⟨k,h1,h2,_⟩:=M0 hg (Nat.gcd_dvd_right y z.natAbs);constructor
 ·rw[Rat.num_mkRat,if_neg (by omega),h2];refine Nat.le_trans (Bu ?_) (Nat.le_trans hz hM);rw[h1,Int.natAbs_mul,Int.natAbs_natCast];exact Nat.le_mul_of_pos_left _ hg
 rw[Rat.den_mkRat,if_neg (by omega)];exact Nat.le_trans (Bu (Nat.div_le_self _ _)) (Nat.le_trans hd hM)
theorem BA.sz{w:World} {v:Value} {q:Rat} {L:Nat} (h:BA w v q L) (h0:1<=L):Sz q L:=by
 obtain⟨n1,a1,l1,c1,x1,y1,k1,l,d,rfl,hr,hd,hm,hdl,hq⟩:=h.open;rw[hq];exact Ij (Br _) hr.len (C5 hd hdl h0) (Nat.le_refl _)
theorem BA.mono{w:World} {v:Value} {q:Rat} {L M:Nat} (h:BA w v q L) (hl:L<=M):BA w v q M:=by
 obtain⟨neg,mag,dv',l,d,h1,h2,h3,h4,h5,h6⟩:=h;exact⟨neg,mag,dv',l,d,h1,h2,Nat.le_trans h3 hl,h4,Nat.le_trans h5 hl,h6⟩
theorem Fh(w:World) (v v':Value) (q q':Rat) (L:Nat) (h:BA w v q L) (h':BA w v' q' L) (h0:1<=L) (hL:L<=4194304) :
  Calls prog 161 #[v,v'] w (Aw w (q-q')):=by
 have HN:=bH (fun W (hW:XF w W)=>GT W v' q' L (h'.keep hW) h0 hL);have hsz:=(h'.sz h0).neg;have HA:=bH (fun W (hW:XF w W) u (hu:AN W u (-q'))=>GW W v u q (-q') L (h.keep hW) (hu.reads hsz) h0 hL);rw[<- Rat.sub_eq_add_neg] at HA;obtain⟨n1,a1,l1,c1,x1,y1,k1,l,d,rfl,hr,hd,hm,hdl,hq⟩:=h.open;obtain⟨n2,a2,l2,c2,x2,y2,k2,l',d',rfl,hr',hd',hm',hdl',hq'⟩:=h'.open;clear hr hr' hd hd' hdl hdl' hq hq' h h' hm hm' hsz;go_enter func161,ntmps161;go_upto_region 0 with fail;go_cut [2,3,4] (fun v1 v2 v3 wx=>∃b1 b2 r,v1=.pointer (some ⟨b1,0,none⟩)/\v2=.pointer (some ⟨b2,0,none⟩)/\v3=.pointer (some ⟨r,0,none⟩)/\Aj wx b1 n1 (.slice a1 l1 c1) (.slice x1 y1 k1)/\Aj wx b2 n2 (.slice a2 l2 c2) (.slice x2 y2 k2)/\Aj wx r false (.slice none 0 0) (.slice none 0 0)/\b1<r/\b2<r/\w.heap.size<=r/\XF w wx);case first =>
  go_wp2;go_meet;exact⟨_,_,_,rfl,rfl,rfl,((AO rfl n1 a1 l1 c1 x1 y1 k1).alloc _).alloc _,(AO (by simp) n2 a2 l2 c2 x2 y2 k2).alloc _,AO (by simp) false none 0 0 none 0 0,(by omega),(by omega),(by omega),(((AK.refl _ w).alloc _).alloc _).alloc _⟩
 case rest =>
  obtain⟨b1,b2,r,rfl,rfl,rfl,hb1,hb2,hrb,i1,i2,hle,hx⟩:=hcut;have hS:=B5.of hb1 hb2;have HB:=bH (bI hb1 (bI hb2 (bI hrb hx)));clear hb1 hb2 hrb hx;go_upto_region 1 with fail;go_region_held3 (B5 b1 b2 n1 n2 (.slice a1 l1 c1) (.slice x1 y1 k1) (.slice a2 l2 c2) (.slice x2 y2 k2))
   (repeat (first|(with_reducible assumption)|(with_reducible refine B5.drew ?_)|(with_reducible refine B5.set ?_ _ _ ?_ ?_)|(dsimp only;omega)))
   (first
    | (go_at_call 157;(with_reducible refine (HN.o _ HB.o.2.2.2.drew).mono ?_);rintro q1 w11 ⟨v11,rfl,h11,hx11⟩;have hX1:=(AK.refl (fun _=>False) wc).drew.trans hx11;have hK1:=B5.of (HB.o.1.ext hX1 id) (HB.o.2.1.ext hX1 id);have hA:=HA.o w11 (HB.o.2.2.2.trans hX1) _ h11;obtain⟨ng1,sa1,sn1,sc1,ta1,tn1,tc1,rfl⟩:=h11.shape)
    | (go_at_call 160;(with_reducible refine hA.mono ?_);rintro q4 w14 ⟨v14,rfl,h14,hx14⟩;have hX4:=hX1.trans hx14;have hK4:=B5.of (HB.o.1.ext hX4 id) (HB.o.2.1.ext hX4 id);have hr4:=HB.o.2.2.1.ext hX4 id;obtain⟨d0,d1,d2,d3,d4,d5⟩:=hr4.facts;obtain⟨ng,sa,sn,sc,ta,tn,tc,rfl⟩:=h14.shape))
  have hp:=hr4.put (neg:=ng) (AF sa sn sc) (AF ta tn tc);have HR:=bH (bI (hp.rat h14) (bI ((HB.o.2.2.2.trans hX4).own hp.ext (fun k e=>by omega)) hp.box));clear hp hr4 h11 h14 hx11 hx14 hX1 hX4 hK1 hK4 hS hA d0 d1 d2 d3 d4 d5;generalize ((w14.setCell ⟨r,0,none⟩ (.bool ng)).setCell ⟨r,1,none⟩ (.slice sa sn sc)).setCell ⟨r,2,none⟩ (.slice ta tn tc)=w20 at *;obtain⟨g0,g1,g2,_⟩:=HR.o.2.2.facts;go_wp2;exact bodyPost_ret (v:=.agg #[.bool ng,.slice sa sn sc,.slice ta tn tc]) (by simp[results,results161,go_sem,g0,g1,g2]) rfl ⟨_,rfl,HR.o.1,HR.o.2.1⟩
theorem SS(w:World) (v v':Value) (q q':Rat) (L:Nat) (h:BA w v q L) (h':BA w v' q' L) (h0:1<=L) (hL:L<=4194304) :
  Calls prog 114 #[v,v'] w fun r w'=>r=.returned (.int .i64 (q-q').num.sign)/\XF w w':=by
 obtain⟨n1,a1,l1,c1,x1,y1,k1,l,d,rfl,hr,hd,hm,hdl,hq⟩:=h.open;obtain⟨n2,a2,l2,c2,x2,y2,k2,l',d',rfl,hr',hd',hm',hdl',hq'⟩:=h'.open;clear hm hm';have HD1:=bH (fun W (hW:XF w W)=>Ed W _ n1 a1 l1 c1 x1 y1 k1 d L rfl (hd.keep hW) hdl (by omega) h0);have HD2:=bH (fun W (hW:XF w W)=>Ed W _ n2 a2 l2 c2 x2 y2 k2 d' L rfl (hd'.keep hW) hdl' (by omega) h0);have HM1:=bH (fun W (hW:XF w W) u hu=>DB W _ u _ (dn (vl d'):Nat) L (hr.keep hW) hu (by omega));have HM2:=bH (fun W (hW:XF w W) u hu=>DB W _ u _ (dn (vl d):Nat) L (hr'.keep hW) hu (by omega));have hdl1:(dg (((dn (vl d):Nat):Int)).natAbs).length<=L:=by rw[Int.natAbs_natCast];exact C5 hd hdl h0
 have hdl2:(dg (((dn (vl d'):Nat):Int)).natAbs).length<=L:=by rw[Int.natAbs_natCast];exact C5 hd' hdl' h0
 have hz1:=CQ hr.len hdl2;have hz2:=CQ hr'.len hdl1;have HC:=bH (fun W u u' (hu:Ay W u (sg n1 (vl l)*((dn (vl d'):Nat):Int))) (hu':Ay W u' (sg n2 (vl l')*((dn (vl d):Nat):Int)))=>Sd W u u' _ _ (L+L) (hu.reads hz1) (hu'.reads hz2) (by omega));have hres:(q-q').num.sign=(sg n1 (vl l)*((dn (vl d'):Nat):Int)-sg n2 (vl l')*((dn (vl d):Nat):Int)).sign:=by
  rw[hq,hq',Rat.sub_eq_add_neg,Rat.neg_mkRat,Rat.mkRat_add_mkRat _ _ (Nat.ne_of_gt (Br _)) (Nat.ne_of_gt (Br _)),IL _ (Nat.mul_pos (Br _) (Br _)),Int.neg_mul,<- Int.sub_eq_add_neg]
 rw[hres];clear hr hr' hd hd' hdl hdl' hq hq' h h' hres hdl1 hdl2 hz1 hz2;generalize sg n1 (vl l)*((dn (vl d'):Nat):Int)=Z1 at *;generalize sg n2 (vl l')*((dn (vl d):Nat):Int)=Z2 at *;generalize ((dn (vl d):Nat):Int)=D1 at *;generalize ((dn (vl d'):Nat):Int)=D2 at *;generalize (Z1-Z2).sign=S at *;go_enter func114,ntmps114;go_upto_region 0 with fail;go_cut [2,3] (fun v1 v2 wx=>∃b1 b2,v1=.pointer (some ⟨b1,0,none⟩)/\v2=.pointer (some ⟨b2,0,none⟩)/\Aj wx b1 n1 (.slice a1 l1 c1) (.slice x1 y1 k1)/\Aj wx b2 n2 (.slice a2 l2 c2) (.slice x2 y2 k2)/\XF w wx);case first =>
  go_wp2;go_meet;exact⟨_,_,rfl,rfl,(AO rfl n1 a1 l1 c1 x1 y1 k1).alloc _,AO (by simp) n2 a2 l2 c2 x2 y2 k2,((AK.refl _ w).alloc _).alloc _⟩
 case rest =>
  obtain⟨b1,b2,rfl,rfl,hb1,hb2,hx⟩:=hcut;have hS:=B5.of hb1 hb2;have HB:=bH (bI hb1 (bI hb2 hx));clear hb1 hb2 hx;go_upto_region 1 with fail;go_region_held3 (B5 b1 b2 n1 n2 (.slice a1 l1 c1) (.slice x1 y1 k1) (.slice a2 l2 c2) (.slice x2 y2 k2))
   (repeat (first|(with_reducible assumption)|(with_reducible refine B5.drew ?_)))
   (first
    | (go_at_call 189;(with_reducible refine (HD2.o _ HB.o.2.2.drew).mono ?_);rintro q1 w11 ⟨v11,rfl,h11,hx11⟩;have hX1:=(AK.refl (fun _=>False) wc).drew.trans hx11;have hK1:=B5.of (HB.o.1.ext hX1 id) (HB.o.2.1.ext hX1 id);have hM1:=HM1.o w11 (HB.o.2.2.trans hX1) _ h11;obtain⟨ng1,ag1,lg1,cg1,rfl⟩:=h11.shape)
    | (go_at_call 188;(with_reducible refine hM1.mono ?_);rintro q2 w12 ⟨v12,rfl,h12,hx12⟩;have hX2:=hX1.trans hx12;have hK2:=B5.of (HB.o.1.ext hX2 id) (HB.o.2.1.ext hX2 id);obtain⟨ng2,ag2,lg2,cg2,rfl⟩:=h12.shape)
    | (go_at_call 189;(with_reducible refine (HD1.o _ (HB.o.2.2.trans hX2)).mono ?_);rintro q3 w13 ⟨v13,rfl,h13,hx13⟩;have hX3:=hX2.trans hx13;have hK3:=B5.of (HB.o.1.ext hX3 id) (HB.o.2.1.ext hX3 id);have hM2:=HM2.o w13 (HB.o.2.2.trans hX3) _ h13;obtain⟨ng3,ag3,lg3,cg3,rfl⟩:=h13.shape)
    | (go_at_call 188;(with_reducible refine hM2.mono ?_);rintro q4 w14 ⟨v14,rfl,h14,hx14⟩;have hX4:=hX3.trans hx14;have hK4:=B5.of (HB.o.1.ext hX4 id) (HB.o.2.1.ext hX4 id);have hC:=HC.o w14 _ _ (h12.keep (hx13.trans hx14)) h14;obtain⟨ng4,ag4,lg4,cg4,rfl⟩:=h14.shape)
    | (go_at_call 187;(with_reducible refine hC.mono ?_);rintro q5 w15 ⟨rfl,hx15⟩;have hX5:=hX4.trans hx15;have hK5:=B5.of (HB.o.1.ext hX5 id) (HB.o.2.1.ext hX5 id)))
  have HX:=bH (HB.o.2.2.trans hX5);clear h11 h12 h13 h14 hx11 hx12 hx13 hx14 hx15 hX1 hX2 hX3 hX4 hX5 hK1 hK2 hK3 hK4 hK5 hS hM1 hM2 hC;go_wp2;go_ret;exact⟨rfl,HX.o⟩
theorem EA(w:World) (v:Value) (l:List Nat) (h:Ad w v l) (i:Nat) (hi:i<=9223372036854775807):Calls prog 211 #[v,.int .i64 i] w fun r w'=>r=.returned (.int .u64 (Aq l i))/\w'=w:=by
 have h':=h;obtain⟨hd,ao,c,rfl,h1,h2,h3,h4⟩:=h';obtain⟨m,hm⟩:=bN l.length;have hmx:m<=9223372036854775807:=by unfold maxLen at h2;omega
 by_cases hlt:i<l.length
 ·obtain⟨b,off,rfl,hb,hc⟩:=h4 (by omega);have c0:=hc i l[i] (List.getElem?_eq_getElem hlt);unfold dv at c0;rw[CI hlt];have hdi:=hd.get i hlt;rw[hm] at hlt ⊢;clear hc h h3 h4;generalize l[i]=d at *;have i0:(0:Int)<=(i:Int):=(by omega);have i1:(i:Int)<(m:Int):=(by omega);have hw:IntKind.u64.wrap (d:Int)=d:=IntWalk.u64_in _ (by omega);go_enter func211,ntmps211;go_wp2;go_ret;exact⟨I2 (by omega),rfl⟩
 rw[DO (by omega)];rw[hm] at hlt ⊢;have i1:(m:Int)<=(i:Int):=(by omega);clear h h3 h4;go_enter func211,ntmps211;go_wp2;go_ret;exact⟨rfl,rfl⟩
def Ga(w:World) (n:Nat) (r:Ending) (w':World):Prop:=∃v,r=.returned v/\Ab w' v n/\XF w w'/\∀g,v.ownBlock=some g->w.heap.size<=g
theorem Ga.post{w w':World} {n:Nat} {r:Ending} (h:Ga w n r w'):BO w n r w':=h.imp fun _ h=>⟨h.1,h.2.1,h.2.2.1⟩
theorem KI(w:World) (v:Value) (l:List Nat) (h:Ad w v l) (hl:l.length<=1073741824):Calls prog 102 #[v] w (Ga w (vl l)):=by
 have h':=h;obtain⟨hd,ao,c,rfl,h1,h2,h3,h4⟩:=h';obtain⟨m,hm⟩:=bN l.length;have hmx:m<=1073741824:=by omega
 rw[hm] at h h1 h4 ⊢;obtain⟨i0,hi,hz0,hz1,hz2⟩:=info_parts Tryz.infoU32;have Hi:=bH (bI hi (bI hz0 (bI hz1 hz2)));have H:=bH h;have H4:=bH h4;have Hm:=bH hm;have Hd:=bH hd;clear h h4 hm hd hi hz0 hz1 hz2 hl;go_enter func102,ntmps102;go_wp2_with fail;go_loopg [3] m (fun g v3 wr=>∃n:Nat,n<=m/\g=n/\v3=.int .i64 n/\wr=w/\∀i,n<=i->(hi:i<l.length)->l[i]=0);case atStart=>exact⟨m,Nat.le_refl _,rfl,rfl,rfl,fun i hi hl=>by have:=Hm.o;omega⟩
 case round =>
  obtain⟨n,hn,hg,rfl,hwr,hz⟩:=hrel;obtain rfl:=hg.symm;obtain rfl:=hwr.symm;by_cases h0:n=0∨∃hlt:n-1<l.length,l[n-1]≠0
  ·have hT:=JV Hd.o (by have:=Hm.o;omega) hz h0;have hx1:XF w (w.alloc (.cells #[] 135)):=(AK.refl _ w).alloc _;have hb1:Au (w.alloc (.cells #[] 135)) w.heap.size=some (.cells #[] 135 (0,0)):=AD _ _;have HR:=bH ((H.o.head n hn).keep hx1).lies;have HT:=bH hT;have HX1:=bH hx1;have HB1:=bH hb1;have hlen:(l.take n).length=n:=(by rw[List.length_take];have:=Hm.o;omega);have HL:=bH hlen;have HV:Hid (∀W,Ab W=Ab W):=bH (fun _=>rfl);have hni:(n:Int)<=(m:Int):=(by omega);have hnc:(n:Int)<=(c:Int):=(by omega);have H0:=bH h0;clear hz hT hx1 hb1 hlen h0;have hcase:n=0∨(0<n/\∃b off dj,ao=some ⟨b,off,none⟩/\w.cell? ⟨b,off+(n-1),none⟩=some (.int .u32 (dj:Nat))/\¬dj=0):=by
    rcases H0.o with h|⟨hlt,hne⟩
    ·exact .inl h
    rcases Nat.eq_zero_or_pos n with h|h
    ·exact .inl h
    obtain⟨b,off,rfl,hb,hc⟩:=H4.o (by omega);exact .inr ⟨h,b,off,l[n-1],rfl,hc (n-1) _ (List.getElem?_eq_getElem hlt),hne⟩
   clear H0;rcases hcase with rfl|⟨hn0,b,off,dj,rfl,cj,hdj⟩
   ·cases ao with
    | none =>
     obtain rfl:=h3 rfl;go_wp2_with (at_builtin;refine A0 rfl (.tmp 18) (.tmp 21) 30 rfl w.heap.size 135 i0 _ 1 4 underlying30 Hi.o.1 Hi.o.2.1 Hi.o.2.2.1 Hi.o.2.2.2 rfl (by decide) _ 0 [] rfl (BU 1 (Nat.le_refl _) HB1.o) _ _ _ (fun _=>rfl) _ rfl (by rw[List.length_map,HL.o,Nat.mul_one]) HR.o (JY _) (by simp only[maxLen];omega) (by omega) (by simp) ?_;intro v5 w5 hown5 hgrow5 hat5;have HO:Hid (Ga w (vl l) (.returned v5) w5):=bH (by
      have ho:FI w5 w.heap.size v5 (l.take 0):=(by unfold FI;rw[HL.o];simpa using hown5);have hr:=ho.rds (Hd.o.take _);rw[HT.o] at hr;exact⟨v5,rfl,hr,HX1.o.own ((AK.refl (fun k=>w.heap.size=k) _).grown hgrow5 (fun k e _=>Option.some.inj e)) (fun k e=>Nat.le_of_eq e),ho.ge⟩);clear hown5 hgrow5 hat5)
     go_wp2;go_ret;exact HO.o
    | some ad =>
     go_wp2_with (at_builtin;refine A0 rfl (.tmp 18) (.tmp 21) 30 rfl w.heap.size 135 i0 _ 1 4 underlying30 Hi.o.1 Hi.o.2.1 Hi.o.2.2.1 Hi.o.2.2.2 rfl (by decide) _ 0 [] rfl (BU 1 (Nat.le_refl _) HB1.o) _ _ _ (fun e=>by cases e) _ rfl (by rw[List.length_map,HL.o,Nat.mul_one]) HR.o (JY _) (by simp only[maxLen];omega) (by omega) (by simp) ?_;intro v5 w5 hown5 hgrow5 hat5;have HO:Hid (Ga w (vl l) (.returned v5) w5):=bH (by
      have ho:FI w5 w.heap.size v5 (l.take 0):=(by unfold FI;rw[HL.o];simpa using hown5);have hr:=ho.rds (Hd.o.take _);rw[HT.o] at hr;exact⟨v5,rfl,hr,HX1.o.own ((AK.refl (fun k=>w.heap.size=k) _).grown hgrow5 (fun k e _=>Option.some.inj e)) (fun k e=>Nat.le_of_eq e),ho.ge⟩);clear hown5 hgrow5 hat5)
     go_wp2;go_ret;exact HO.o
   obtain⟨j,rfl⟩:∃j,n=j+1:=⟨n-1,by omega⟩;rw[Nat.add_sub_cancel] at cj;have hjm:(j:Int)<(m:Int):=(by omega);have p0:(0:Int)<((j+1:Nat):Int):=(by omega);have p1:((j+1:Nat):Int)-1=j:=(by omega);have hz1:¬(dj:Int)=0:=(by omega);go_wp2_with (at_builtin;refine A0 rfl (.tmp 18) (.tmp 21) 30 rfl w.heap.size 135 i0 _ 1 4 underlying30 Hi.o.1 Hi.o.2.1 Hi.o.2.2.1 Hi.o.2.2.2 rfl (by decide) _ 0 [] rfl (BU 1 (Nat.le_refl _) HB1.o) _ _ _ (fun e=>by cases e) _ rfl (by rw[List.length_map,HL.o,Nat.mul_one]) HR.o (JY _) (by simp only[maxLen];omega) (by omega) (by simp) ?_;intro v5 w5 hown5 hgrow5 hat5;have HO:Hid (Ga w (vl l) (.returned v5) w5):=bH (by
    have ho:FI w5 w.heap.size v5 (l.take (j+1)):=(by unfold FI;rw[HL.o];simpa using hown5);have hr:=ho.rds (Hd.o.take _);rw[HT.o] at hr;exact⟨v5,rfl,hr,HX1.o.own ((AK.refl (fun k=>w.heap.size=k) _).grown hgrow5 (fun k e _=>Option.some.inj e)) (fun k e=>Nat.le_of_eq e),ho.ge⟩);clear hown5 hgrow5 hat5)
   go_wp2;go_ret;exact HO.o
  obtain⟨j,rfl⟩:∃j,n=j+1:=⟨n-1,by
   rcases Nat.eq_zero_or_pos n with h|h
   ·exact absurd (.inl h) h0
   omega⟩
  have hj:j<l.length:=(by have:=Hm.o;omega);have hz0:l[j]=0:=by
   by_cases h:l[j]=0
   ·exact h
   exact absurd (.inr ⟨by omega,by simpa using h⟩) h0
  obtain⟨b,off,rfl,hb,hc⟩:=H4.o (by omega);have c0:=hc j l[j] (List.getElem?_eq_getElem hj);unfold dv at c0;rw[hz0] at c0;have p0:(0:Int)<((j+1:Nat):Int):=(by omega);have p1:((j+1:Nat):Int)-1=j:=(by omega);have Hz:=bH hz;have Hz0:=bH hz0;clear hc hz hz0 h0;go_wp2;go_roundg j;case measure=>omega
  case rel=>exact⟨j,by omega,rfl,by go_num,rfl,fun i hi hl=>by
   by_cases e:i=j
   ·subst e;exact Hz0.o
   exact Hz.o i (by omega) hl⟩
theorem DZ(w:World) (v:Value) (l:List Nat) (h:Ad w v l) (hl:l.length<=1073741824):Calls prog 102 #[v] w (BO w (vl l)):=(KI w v l h hl).mono fun _ _ h=>h.post
theorem L8(w:World) (n:Nat) (hn:n<18446744073709551616):Calls prog 139 #[.int .u64 n] w (BO w n):=by
 have hx1:XF w (w.alloc (.cells #[.int .u32 ((n:Int)%4294967296),.int .u32 ((n:Int)/4294967296)] 135)):=(AK.refl _ w).alloc _;have hr:Ad (w.alloc (.cells #[.int .u32 ((n:Int)%4294967296),.int .u32 ((n:Int)/4294967296)] 135)) (.slice (some ⟨w.heap.size,0,none⟩) 2 2) [n%4294967296,n/4294967296]:=by
  refine⟨Bj.cons (by omega) (Bj.cons (by omega) Bj.nil),_,2,rfl,Nat.le_refl _,by unfold maxLen;omega,fun h=>(by cases h),fun _=>⟨_,0,rfl,by simp,fun i d hi=>?_⟩⟩;have:=Be (w:=w) [.int .u32 ((n:Int)%4294967296),.int .u32 ((n:Int)/4294967296)] 135 rfl i (dv d) (by
   match i,hi with
   | 0,hi=>simp at hi ⊢;subst hi;simp[dv]
   | 1,hi=>simp at hi ⊢;subst hi;simp[dv]
   | i+2,hi=>simp at hi)
  rwa [Addr.add_lit] at this
 have hf:=DZ _ _ _ hr (by simp);rw[show vl [n%4294967296,n/4294967296]=n by simp[vl];omega] at hf;have H:=bH hf;have HX:=bH hx1;clear hf hr hx1;go_enter func139,ntmps139;go_wp2_with fail;refine H.o.mono ?_;rintro r w' ⟨v,rfl,h1,h2⟩;have HP:Hid (BO w n (.returned v) w'):=bH ⟨v,rfl,h1,HX.o.trans h2⟩;clear h1 h2;go_wp2;go_ret;exact HP.o
theorem Mf{a b:List Nat} (hl:a.length=b.length) (h:∀j,j<a.length->Aq a j=Aq b j):a=b:=by
 apply List.ext_getElem hl;intro i h1 h2;have:=h i h1;rwa [CI h1,CI h2] at this
theorem K7(w:World) (va vb:Value) (a b:List Nat) (ha:Ad w va a) (hb:Ad w vb b) (hal:a.length<=1073741824) (hbl:b.length<=1073741824) :
  Calls prog 49 #[va,vb] w fun r w'=>r=.returned (.bool (decide (a=b)))/\XF w w':=by
 obtain⟨ao,ac,rfl,_⟩:=id ha.2;obtain⟨bo,bc,rfl,_⟩:=id hb.2;by_cases hl:a.length=b.length
 ·obtain⟨m,hm⟩:=bN a.length;rw[<- hl,hm];have Ha:=bH ha;have Hb:=bH hb;have Hm:=bH (bI hm hl);have hml:m<=1073741824:=(by omega);clear ha hb hl hm hal hbl;rw[Hm.o.1] at Ha;rw[<- Hm.o.2,Hm.o.1] at Hb;obtain⟨D,hD⟩:=bN (decide (a=b));rw[hD];have HD:=bH hD;clear hD;go_enter func49,ntmps49;go_wp2_with fail;go_loopg [5] m (fun g v5 wr=>∃i:Nat,i<=m/\g=m-i/\v5=.int .i64 i/\(∀j,j<i->Aq a j=Aq b j)/\XF w wr);case atStart=>exact⟨0,Nat.zero_le _,rfl,rfl,fun j hj=>absurd hj (Nat.not_lt_zero _),AK.refl _ _⟩
  case round =>
   obtain⟨i,hi,rfl,rfl,hs,hx⟩:=hrel;by_cases him:i<m
   ·have hia:i<a.length:=(by have:=Hm.o.1;omega);have hib:i<b.length:=(by have:=Hm.o.2;omega);obtain⟨b1,o1,rfl,_⟩:=Ha.o.base (by have:=Hm.o.1;omega);obtain⟨b2,o2,rfl,_⟩:=Hb.o.base (by have:=Hm.o;omega);have c0:=(Ha.o.keep hx).at.2 i hia;have c1:=(Hb.o.keep hx).at.2 i hib;have Hs:=bH hs;have HX:=bH hx;have HXN:=bH (fun N=>hx.drewN N);obtain⟨x,hxe⟩:=bN (Aq a i);obtain⟨y,hye⟩:=bN (Aq b i);rw[hxe] at c0;rw[hye] at c1;have Hxy:=bH (bI hxe hye);have e0:(0:Int)<=(i:Int):=(by omega);have e1:(i:Int)<(m:Int):=(by omega);clear hs hx hxe hye hia hib;by_cases hxy:x=y
    ·subst hxy;go_upto_region 6 with fail;go_quiet (fail);go_wp2;go_roundg (m-(i+1));case measure=>omega
     case rel=>exact⟨i+1,by omega,rfl,by go_num,fun j hj=>by
      by_cases e:j=i
      ·subst e;rw[Hxy.o.1,Hxy.o.2]
      exact Hs.o j (by omega),HXN.o _⟩
    have hne:¬(x:Int)=y:=(by omega);have hbe:((x:Int) == y)=false:=(by simpa using hne);have hDf:D=false:=by
     rw[<- HD.o];refine decide_eq_false (fun h=>hxy ?_);rw[<- Hxy.o.1,<- Hxy.o.2,h]
    subst hDf;go_upto_region 6 with fail;go_quiet (fail);go_wp2;go_ret;exact⟨rfl,HXN.o _⟩
   obtain rfl:i=m:=(by omega);have hDt:D=true:=by
    rw[<- HD.o];refine decide_eq_true (Mf Hm.o.2 (fun j hj=>hs j (by have:=Hm.o.1;omega)))
   subst hDt;have HX:=bH hx;clear hs hx;go_wp2;go_ret;exact⟨rfl,HX.o⟩
 have hne:¬(a.length:Int)=b.length:=(by omega);have hbe:((a.length:Int) == b.length)=false:=(by simpa using hne);rw[decide_eq_false (fun h=>hl (by rw[h]))];clear ha hb;generalize a.length=la at *;generalize b.length=lb at *;go_enter func49,ntmps49;go_wp2;go_ret;exact⟨rfl,AK.refl _ _⟩
end Go.Proofs.YtglepbhkilbbcaaGreat
