/-
  Texts of the proof, part 3. Conditions: each lemma names its own.
-/
import Derived.Test.YtglepbhkilbbcaaGreatZ1
import Derived.Test.YtglepbhkilbbcaaGreatZ2
import Derived.Laws.BitsAllLaws
import Derived.Maps.RangeWalk
open Go.Proofs.Tryz
set_option linter.unusedVariables false
set_option linter.unusedSimpArgs false
set_option maxRecDepth 100000
set_option maxHeartbeats 16000000
namespace Go.Proofs.YtglepbhkilbbcaaGreat
open Go.RowKit Go.MapKept
open Go.ChangeMaps (setBlock)
theorem J7(d:Int):∀u∈[Value.int .u32 d],u.oneCell'=true:=fun u hu=>by
 rw[List.mem_singleton.1 hu];rfl
theorem JD{w:World} {g:Nat} (h:Au w g=some (.cells #[] 135 (0,0))) (base:Nat) (hb:base<=g):FI w base (.slice (some ⟨g,0,none⟩) 0 0) []:=BU 1 hb h
theorem FB.all{a b:List Nat} {i:Nat} {o:List Nat} {c:Nat} (h:FB a b i o c) (ha:a.length<=i) (hb:b.length<=i):vl (o++[c])=vl a+vl b/\Bj (o++[c]):=by
 have h4:=h.val;rw[BP ha,BP hb] at h4;refine⟨by rw[J1,h.len,h4],h.dig.snoc (by have:=h.car;omega)⟩
theorem LJ(w:World) (va vb:Value) (a b:List Nat) (ha:Ad w va a) (hb:Ad w vb b) (hal:a.length<=536870911) (hbl:b.length<=536870911) :
  Calls prog 138 #[va,vb] w (Ga w (vl a+vl b)):=by
 obtain⟨aao,ac,rfl,_⟩:=id ha.2;obtain⟨bbo,bc,rfl,_⟩:=id hb.2;obtain⟨m,hm⟩:=bN (max a.length b.length);have hma:a.length<=m:=by omega
 have hmb:b.length<=m:=by omega
 have hmx:m<=536870911:=by omega
 have hcs:a.length=m∨b.length=m:=by omega
 obtain⟨i0,hi,hz0,hz1,hz2⟩:=info_parts Tryz.infoU32;have Hi:=bH (bI hi (bI hz0 (bI hz1 hz2)));have Ha:=bH ha;have Hb:=bH hb;have HM:=bH (bI hma hmb);clear hi hz0 hz1 hz2 ha hb hal hbl hm;generalize hna:a.length=na at *;generalize hnb:b.length=nb at *;have HN:=bH (bI hna hnb);clear hna hnb;have hb0:Au (w.alloc (.cells #[] 135)) w.heap.size=some (.cells #[] 135 (0,0)):=AD _ _;have HI:=bH (bI (JD hb0 w.heap.size (Nat.le_refl _)) ((AK.refl (fun _=>False) w).alloc (.cells #[] 135)));clear hb0;go_enter func138,ntmps138;go_wp2_with fail;go_loopg [5,6,7] m (fun g v5 v6 v7 wr=>∃(i:Nat) (o:List Nat) (c:Nat),i<=m/\g=m-i/\v7=.int .i64 i/\v6=.int .u64 c/\FB a b i o c/\FI wr w.heap.size v5 o/\XF w wr);case atStart=>exact⟨0,[],0,Nat.zero_le _,rfl,rfl,rfl,FB.zero a b,HI.o.1,HI.o.2⟩
 case round =>
  obtain⟨i,o,c,hi,rfl,rfl,rfl,Aa,ho,hx⟩:=hrel;clear HI;by_cases hia:i<na
  ·have hlti:i<m:=(by omega);have hia':(i:Int)<(na:Int):=(by omega);obtain⟨S,hS⟩:=bN (Aq a i+Aq b i+c);have Hda:=bH (EA wr _ a (Ha.o.keep hx) i (by omega));have Hdb:=bH (EA wr _ b (Hb.o.keep hx) i (by omega));have hst2:=Aa.step Ha.o.1 Hb.o.1;have hlen:=Aa.len;have l1:=Ar Ha.o.1 i;have l2:=Ar Hb.o.1 i;have l3:=Aa.car;rw[hS] at hst2;obtain⟨D,hD⟩:=bN (S%4294967296);obtain⟨E,hE⟩:=bN (S/4294967296);rw[hD,hE] at hst2;obtain⟨ao,cap,rfl⟩:=ho.shape;generalize hX:Aq a i=X at *;generalize hY:Aq b i=Y at *;obtain⟨S1,hS1⟩:=bN (c+X);have q1:(c:Int)+X=S1:=(by omega);have q2:(S1:Int)+Y=S:=(by omega);have q3:(S:Int)%4294967296=D:=(by omega);have q4:(S:Int)/4294967296=E:=(by omega);have hS1l:S1<18446744073709551616:=(by omega);have hSl:S<18446744073709551616:=(by omega);have Hst:=bH hst2;have Ho:=bH ho;have Hx:=bH hx;rw[hlen];have Hlen:=bH hlen;clear Aa hst2 ho hx hX hY hS hD hE hS1;go_wp2_with fail;refine Hda.o.mono ?_;rintro r w' ⟨rfl,hw⟩;obtain rfl:=hw.symm;go_wp2_with fail;refine Hdb.o.mono ?_;rintro r w' ⟨rfl,hw⟩;obtain rfl:=hw.symm;have hx1:XF wr (wr.alloc (.cells #[.int .u32 (D:Int)] 135)):=(AK.refl _ wr).alloc _;have HX1:=bH hx1;have HO1:Hid ((wr.alloc (.cells #[.int .u32 (D:Int)] 135)).ownsRow w.heap.size 135 1 (.slice ao i cap) i (o.map dv)):=bH (by have:=Ho.o.keep hx1;unfold FI at this;rw[hlen] at this;exact this);have HG:=bH (JC HO1.o);clear hx1 Hda Hdb hw hlen;go_wp2_with (at_builtin;refine A0 rfl (.tmp 30) (.tmp 33) 30 rfl w.heap.size 135 i0 _ 1 4 underlying30 Hi.o.1 Hi.o.2.1 Hi.o.2.2.1 Hi.o.2.2.2 rfl (by decide) _ _ _ rfl HO1.o _ 1 1 (fun e=>by cases e) [.int .u32 (D:Int)] rfl rfl (.inr ⟨_,rfl,Be [.int .u32 (D:Int)] _ rfl⟩) (J7 _) (by simp only[maxLen];omega) (by omega) (Nat.le_trans Hx.o.size HX1.o.size) ?_;intro v5 w5 hown5 hgrow5 hat5;have HO:Hid (FI w5 w.heap.size v5 (o++[D])):=bH (Gv Hlen.o hown5);have HX:Hid (XF w w5):=bH ((Hx.o.trans HX1.o).grown hgrow5 (fun k e h=>absurd (HG.o k e) (by omega)));clear hown5 hgrow5 hat5);go_wp2;go_roundg (m-(i+1));case measure=>omega
   case rel=>exact⟨i+1,_,_,by omega,rfl,by go_num,rfl,Hst.o,HO.o,HX.o⟩
  by_cases hib:i<nb
  ·have hlti:i<m:=(by omega);have hib':(i:Int)<(nb:Int):=(by omega);have hia':¬(i:Int)<(na:Int):=(by omega);obtain⟨S,hS⟩:=bN (Aq a i+Aq b i+c);have Hda:=bH (EA wr _ a (Ha.o.keep hx) i (by omega));have Hdb:=bH (EA wr _ b (Hb.o.keep hx) i (by omega));have hst2:=Aa.step Ha.o.1 Hb.o.1;have hlen:=Aa.len;have l1:=Ar Ha.o.1 i;have l2:=Ar Hb.o.1 i;have l3:=Aa.car;rw[hS] at hst2;obtain⟨D,hD⟩:=bN (S%4294967296);obtain⟨E,hE⟩:=bN (S/4294967296);rw[hD,hE] at hst2;obtain⟨ao,cap,rfl⟩:=ho.shape;generalize hX:Aq a i=X at *;generalize hY:Aq b i=Y at *;obtain⟨S1,hS1⟩:=bN (c+X);have q1:(c:Int)+X=S1:=(by omega);have q2:(S1:Int)+Y=S:=(by omega);have q3:(S:Int)%4294967296=D:=(by omega);have q4:(S:Int)/4294967296=E:=(by omega);have hS1l:S1<18446744073709551616:=(by omega);have hSl:S<18446744073709551616:=(by omega);have Hst:=bH hst2;have Ho:=bH ho;have Hx:=bH hx;rw[hlen];have Hlen:=bH hlen;clear Aa hst2 ho hx hX hY hS hD hE hS1;go_wp2_with fail;refine Hda.o.mono ?_;rintro r w' ⟨rfl,hw⟩;obtain rfl:=hw.symm;go_wp2_with fail;refine Hdb.o.mono ?_;rintro r w' ⟨rfl,hw⟩;obtain rfl:=hw.symm;have hx1:XF wr (wr.alloc (.cells #[.int .u32 (D:Int)] 135)):=(AK.refl _ wr).alloc _;have HX1:=bH hx1;have HO1:Hid ((wr.alloc (.cells #[.int .u32 (D:Int)] 135)).ownsRow w.heap.size 135 1 (.slice ao i cap) i (o.map dv)):=bH (by have:=Ho.o.keep hx1;unfold FI at this;rw[hlen] at this;exact this);have HG:=bH (JC HO1.o);clear hx1 Hda Hdb hw hlen;go_wp2_with (at_builtin;refine A0 rfl (.tmp 30) (.tmp 33) 30 rfl w.heap.size 135 i0 _ 1 4 underlying30 Hi.o.1 Hi.o.2.1 Hi.o.2.2.1 Hi.o.2.2.2 rfl (by decide) _ _ _ rfl HO1.o _ 1 1 (fun e=>by cases e) [.int .u32 (D:Int)] rfl rfl (.inr ⟨_,rfl,Be [.int .u32 (D:Int)] _ rfl⟩) (J7 _) (by simp only[maxLen];omega) (by omega) (Nat.le_trans Hx.o.size HX1.o.size) ?_;intro v5 w5 hown5 hgrow5 hat5;have HO:Hid (FI w5 w.heap.size v5 (o++[D])):=bH (Gv Hlen.o hown5);have HX:Hid (XF w w5):=bH ((Hx.o.trans HX1.o).grown hgrow5 (fun k e h=>absurd (HG.o k e) (by omega)));clear hown5 hgrow5 hat5);go_wp2;go_roundg (m-(i+1));case measure=>omega
   case rel=>exact⟨i+1,_,_,by omega,rfl,by go_num,rfl,Hst.o,HO.o,HX.o⟩
  have hia':¬(i:Int)<(na:Int):=(by omega);have hib':¬(i:Int)<(nb:Int):=(by omega);have hall:=Aa.all (by have:=HN.o;omega) (by have:=HN.o;omega);have hlen:=Aa.len;have l3:=Aa.car;obtain⟨ao,cap,rfl⟩:=ho.shape;have Hall:=bH hall;have Ho:=bH ho;have Hx:=bH hx;rw[hlen];obtain⟨D,hD⟩:=bN c;subst hD;have q3:(c:Int)%4294967296=c:=(by omega);have hlo:(o++[c]).length=i+1:=(by simp[hlen]);have Hlo:=bH hlo;clear Aa hall ho hx hlo;have hx1:XF wr (wr.alloc (.cells #[.int .u32 (c:Int)] 135)):=(AK.refl _ wr).alloc _;have HX1:=bH hx1;have HO1:Hid ((wr.alloc (.cells #[.int .u32 (c:Int)] 135)).ownsRow w.heap.size 135 1 (.slice ao i cap) i (o.map dv)):=bH (by have:=Ho.o.keep hx1;unfold FI at this;rw[hlen] at this;exact this);have HG:=bH (JC HO1.o);clear hx1;have Hlen:=bH hlen;clear hlen;go_wp2_with (at_builtin;refine A0 rfl (.tmp 37) (.tmp 40) 30 rfl w.heap.size 135 i0 _ 1 4 underlying30 Hi.o.1 Hi.o.2.1 Hi.o.2.2.1 Hi.o.2.2.2 rfl (by decide) _ _ _ rfl HO1.o _ 1 1 (fun e=>by cases e) [.int .u32 (c:Int)] rfl rfl (.inr ⟨_,rfl,Be [.int .u32 (c:Int)] _ rfl⟩) (J7 _) (by simp only[maxLen];omega) (by omega) (Nat.le_trans Hx.o.size HX1.o.size) ?_;intro v5 w5 hown5 hgrow5 hat5;have HO:Hid (FI w5 w.heap.size v5 (o++[c])):=bH (Gv Hlen.o hown5);have HX:Hid (XF w w5):=bH ((Hx.o.trans HX1.o).grown hgrow5 (fun k e h=>absurd (HG.o k e) (by omega)));clear hown5 hgrow5 hat5);obtain⟨ao5,cap5,rfl⟩:=HO.o.shape;rw[Hlo.o] at HO ⊢;have HT:=bH (KI w5 _ _ (HO.o.rds Hall.o.2) (by rw[Hlo.o];omega));go_wp2_with fail;refine HT.o.mono ?_;rintro r6 w6 ⟨v6,rfl,h6,hx6,hg6⟩;rw[Hall.o.1] at h6;have HP:Hid (Ga w (vl a+vl b) (.returned v6) w6):=bH ⟨v6,rfl,h6,HX.o.trans hx6,fun g e=>Nat.le_trans HX.o.size (hg6 g e)⟩;clear h6 hx6 hg6;go_wp2;go_ret;exact HP.o
theorem OP(w:World) (va vb:Value) (a b:List Nat) (ha:Ad w va a) (hb:Ad w vb b) (hal:a.length<=536870911) (hbl:b.length<=536870911) :
  Calls prog 138 #[va,vb] w (BO w (vl a+vl b)):=(LJ w va vb a b ha hb hal hbl).mono fun _ _ h=>h.post
theorem KT(w:World) (va vb:Value) (a b:List Nat) (ha:Ad w va a) (hb:Ad w vb b) (hal:a.length<=1073741823) (hbl:b.length<=1073741823) :
  Calls prog 172 #[va,vb] w fun r w'=>r=.returned (.int .i64 (CA (vl a) (vl b)))/\XF w w':=by
 have Fa:=bH (DZ w va a ha (by omega));have Fb:=bH (fun W (hW:XF w W)=>DZ W vb b (hb.keep hW) (by omega));have la:=Bc a ha.1;have lb:=Bc b hb.1;unfold Ce at la lb;generalize vl a=x at *;generalize vl b=y at *;obtain⟨m,hm⟩:=bN ((dg x).length);obtain⟨k,hk⟩:=bN ((dg y).length);have hml:m<=1073741823:=by omega
 have hkl:k<=1073741823:=by omega
 have Hm:=bH (bI hm hk);obtain⟨C,hC⟩:=bN (CA x y);rw[hC];have HC:=bH hC;clear ha hb hal hbl la lb hm hk hC;go_enter func172,ntmps172;go_wp2_with fail;refine Fa.o.mono ?_;rintro r w1 ⟨v1,rfl,h1,hx1⟩;have Fb1:=bH (Fb.o w1 hx1);have H1:=bH (bI h1 hx1);clear h1 hx1 Fa Fb;go_wp2_with fail;refine Fb1.o.mono ?_;rintro r w2 ⟨v2,rfl,h2,hx2⟩;have h1:=H1.o.1.keep hx2;have hX:=H1.o.2.trans hx2;have h1':=h1;have h2':=h2;obtain⟨ao,ca,rfl⟩:=h1'.shape;obtain⟨bo,cb,rfl⟩:=h2'.shape;rw[Hm.o.1] at h1 h1' ⊢;rw[Hm.o.2] at h2 h2' ⊢;have HN:=bH (bI h1 (bI h2 hX));clear h1 h2 h1' h2' hX hx2 Fb1 H1;by_cases hmk:m=k
 ·subst hmk;go_wp2_with fail;go_loopg [5] m (fun g v5 wr=>∃n:Nat,n<=m/\g=n/\v5=.int .i64 ((n:Int)-1)/\(∀j,n<=j->Aq (dg x) j=Aq (dg y) j)/\XF w2 wr);case atStart=>exact⟨m,Nat.le_refl _,rfl,rfl,fun j hj=>by rw[DO (by have:=Hm.o;omega),DO (by have:=Hm.o;omega)],AK.refl _ _⟩
  case round =>
   obtain⟨n,hn,hg,rfl,hs,hx⟩:=hrel;obtain rfl:=hg.symm;by_cases h0:n=0
   ·subst h0;have e:C=0:=by
     rw[<- HC.o];have:=Nv (fun j=>hs j (Nat.zero_le _));rw[At,At] at this;unfold CA;rw[this,if_neg (Nat.lt_irrefl _),if_neg (Nat.lt_irrefl _)]
    subst e;have HX:=bH (HN.o.2.2.trans hx);have p0:((0:Nat):Int)-1 = -1:=(by omega);rw[p0];clear hs hx;go_wp2;go_ret;exact⟨rfl,HX.o⟩
   obtain⟨i,rfl⟩:∃i,n=i+1:=⟨n-1,by omega⟩;have p1:((i+1:Nat):Int)-1=i:=(by omega);rw[p1];obtain⟨b1,o1,rfl,_⟩:=HN.o.1.base (by have:=Hm.o.1;omega);obtain⟨b2,o2,rfl,_⟩:=HN.o.2.1.base (by have:=Hm.o.2;omega);have c0:=(Ad.keep HN.o.1 hx).at.2 i (by have:=Hm.o;omega);have c1:=(Ad.keep HN.o.2.1 hx).at.2 i (by have:=Hm.o;omega);have hlt:=fun h=>J4 (ET x) (b:=dg y) (i:=i) h hs;have hgt:=fun h=>J4 (ET y) (b:=dg x) (i:=i) h (fun j hj=>(hs j hj).symm);rw[At,At] at hlt hgt;have Hs:=bH hs;have HX:=bH (fun N=>hx.drewN N);have HXN:=bH (fun N M=>((HN.o.2.2.trans hx).drewN N).drewN M);have HXD:=bH (fun N M=>(hx.drewN N).drewN M);obtain⟨D,hD⟩:=bN (Aq (dg x) i);obtain⟨E,hE⟩:=bN (Aq (dg y) i);rw[hD] at c0;rw[hE] at c1;rw[hD,hE] at hlt hgt;have Hlt:=bH hlt;have Hgt:=bH hgt;have HDE:=bH (bI hD hE);have e0:(0:Int)<=(i:Int):=(by omega);have e1:(i:Int)<(m:Int):=(by omega);clear hs hx hD hE hlt hgt p1;by_cases q1:D=E
   ·subst q1;go_upto_region 9 with fail;go_quiet (fail);go_wp2;go_roundg i;case measure=>omega
    case rel=>exact⟨i,by omega,rfl,by go_num,fun j hj=>by
     by_cases e:j=i
     ·subst e;rw[HDE.o.1,HDE.o.2]
     exact Hs.o j (by omega),HX.o _⟩
   have hne:¬(D:Int)=E:=(by omega);have hbe:((D:Int) == E)=false:=(by simpa using hne);by_cases q2:D<E
   ·have e:C = -1:=(by rw[<- HC.o];unfold CA;rw[if_pos (Hlt.o q2)]);have q2i:(D:Int)<E:=(by omega);subst e;go_upto_region 9 with fail;go_quiet (fail);go_upto_region 10 with fail;go_quiet (fail);go_wp2;go_ret;exact⟨rfl,by first|exact HXN.o _ _|exact HXN.o _ 0⟩
   have e:C=1:=by
    rw[<- HC.o];have:=Hgt.o (by omega);unfold CA;rw[if_neg (by omega),if_pos this]
   have q2i:¬(D:Int)<E:=(by omega);subst e;go_upto_region 9 with fail;go_quiet (fail);go_upto_region 10 with fail;go_quiet (fail);go_wp2;go_ret;exact⟨rfl,by first|exact HXN.o _ _|exact HXN.o _ 0⟩
 have hne:¬(m:Int)=k:=(by omega);have hbe:((m:Int) == k)=false:=(by simpa using hne);have HX:=bH HN.o.2.2;by_cases hlt:m<k
 ·have e:C = -1:=by
   rw[<- HC.o];unfold CA;rw[if_pos];by_cases h:y<=x
   ·have:=Bu h;have:=Hm.o;omega
   omega
  subst e;clear HN Hm;go_wp2;go_ret;exact⟨rfl,HX.o⟩
 have e:C=1:=by
  rw[<- HC.o];have h2:y<x:=by
   by_cases h:x<=y
   ·have:=Bu h;have:=Hm.o;omega
   omega
  unfold CA;rw[if_neg (by omega),if_pos h2]
 subst e;clear HN Hm;go_wp2;go_ret;exact⟨rfl,HX.o⟩
theorem E7.all{a b:List Nat} (ha:Bj a) (hb:Bj b) {o:List Nat} {c:Nat} (h:E7 a b a.length o c) (hle:vl b<=vl a):vl o=vl a-vl b:=by
 have h4:=h.val;have hb2:vl b=vl (b.take a.length):=Ma (fun i hi=>LM (Nat.lt_of_le_of_lt hle (Ct ha)) i hi);rw[List.take_length,<- hb2] at h4;have ho:=Ct h.dig;rw[h.len] at ho;have hc:c=0:=by
  have:=h.car;by_cases hc:c=0
  ·exact hc
  have:c=1:=(by omega);subst this;omega
 subst hc;omega
theorem Qi{x y c:Nat} (hx:x<4294967296) (hy:y<4294967296) (hc:c<=1):(4294967296+x-y-c)%4294967296=GD x y c/\1-(4294967296+x-y-c)/4294967296=GZ x y c/\(4294967296+x-y-c)/4294967296<=1:=by
 unfold GD GZ;split<;>omega
def KL(w:World) (x y:Nat) (r:Ending) (w':World):Prop:=∃v,r=.returned (.tuple #[v,.int .i64 0])/\Ab w' v (x-y)/\XF w w'/\∀g,v.ownBlock=some g->w.heap.size<=g
theorem Kh(w:World) (va vb:Value) (a b:List Nat) (ha:Ad w va a) (hb:Ad w vb b) (hal:a.length<=536870911) (hbl:b.length<=536870911) (hle:vl b<=vl a) :
  Calls prog 173 #[va,vb] w (KL w (vl a) (vl b)):=by
 have HC:=bH (KT w va vb a b ha hb (by omega) (by omega));have hcm:¬CA (vl a) (vl b)<0:=by unfold CA;split<;>(try split)<;>omega
 generalize CA (vl a) (vl b)=cq at *;obtain⟨aao,ac,rfl,_⟩:=id ha.2;obtain⟨bbo,bc,rfl,_⟩:=id hb.2;obtain⟨i0,hi,hz0,hz1,hz2⟩:=info_parts Tryz.infoU32;have Hi:=bH (bI hi (bI hz0 (bI hz1 hz2)));have Ha:=bH ha;have Hb:=bH hb;have Hle:=bH hle;clear hi hz0 hz1 hz2 ha hb hle;obtain⟨m,hm⟩:=bN a.length;have hmx:m<=536870911:=by omega
 rw[hm] at Ha HC ⊢;generalize b.length=nb at *;have Hm:=bH hm;clear hm hal;go_enter func173,ntmps173;go_wp2_with fail;refine HC.o.mono ?_;rintro r w1 ⟨rfl,hx1⟩;have hb0:Au (w1.alloc (.cells #[] 135)) w1.heap.size=some (.cells #[] 135 (0,0)):=AD _ _;have HI:=bH (bI (JD hb0 w.heap.size hx1.size) (hx1.alloc (.cells #[] 135)));clear hb0 hx1 HC;go_wp2_with fail;go_loopg [6,7,8] m (fun g v6 v7 v8 wr=>∃(i:Nat) (o:List Nat) (c:Nat),i<=m/\g=m-i/\v8=.int .i64 i/\v7=.int .u64 c/\E7 a b i o c/\FI wr w.heap.size v6 o/\XF w wr);case atStart=>exact⟨0,[],0,Nat.zero_le _,rfl,rfl,rfl,E7.zero a b,HI.o.1,HI.o.2⟩
 case round =>
  obtain⟨i,o,c,hi,rfl,rfl,rfl,Aa,ho,hx⟩:=hrel;clear HI;by_cases hlti:i<m
  ·have hia':(i:Int)<(m:Int):=(by omega);have Hda:=bH (EA wr _ a (Ha.o.keep hx) i (by omega));have Hdb:=bH (EA wr _ b (Hb.o.keep hx) i (by omega));have hst2:=Aa.step Ha.o.1 Hb.o.1;have hlen:=Aa.len;have l1:=Ar Ha.o.1 i;have l2:=Ar Hb.o.1 i;have l3:=Aa.car;obtain⟨w1',w2',w3'⟩:=Qi l1 l2 l3;rw[<- w1',<- w2'] at hst2;obtain⟨ao,cap,rfl⟩:=ho.shape;generalize hX:Aq a i=X at *;generalize hY:Aq b i=Y at *;obtain⟨S1,hS1⟩:=bN (4294967296+X);obtain⟨S2,hS2⟩:=bN (S1-Y);obtain⟨S3,hS3⟩:=bN (S2-c);rw[hS1,hS2,hS3] at hst2 w3';obtain⟨D,hD⟩:=bN (S3%4294967296);obtain⟨E,hE⟩:=bN (S3/4294967296);obtain⟨F,hF⟩:=bN (1-E);rw[hD,hE,hF] at hst2;rw[hE] at w3';have q0:(4294967296:Int)+X=S1:=(by omega);have q1:(S1:Int)-Y=S2:=(by omega);have q2:(S2:Int)-c=S3:=(by omega);have q3:(S3:Int)%4294967296=D:=(by omega);have q4:(S3:Int)/4294967296=E:=(by omega);have q5:(1:Int)-E=F:=(by omega);have b1:S1<18446744073709551616:=(by omega);have b2:S2<18446744073709551616:=(by omega);have b3:S3<18446744073709551616:=(by omega);have Hst:=bH hst2;have Ho:=bH ho;have Hx:=bH hx;rw[hlen];have Hlen:=bH hlen;clear Aa hst2 ho hx hX hY hD hE hS1 hS2 hS3 hF w1' w2';go_wp2_with fail;refine Hda.o.mono ?_;rintro r w' ⟨rfl,hw⟩;obtain rfl:=hw.symm;go_wp2_with fail;refine Hdb.o.mono ?_;rintro r w' ⟨rfl,hw⟩;obtain rfl:=hw.symm;have hx1:XF wr (wr.alloc (.cells #[.int .u32 (D:Int)] 135)):=(AK.refl _ wr).alloc _;have HX1:=bH hx1;have HO1:Hid ((wr.alloc (.cells #[.int .u32 (D:Int)] 135)).ownsRow w.heap.size 135 1 (.slice ao i cap) i (o.map dv)):=bH (by have:=Ho.o.keep hx1;unfold FI at this;rw[hlen] at this;exact this);have HG:=bH (JC HO1.o);clear hx1 Hda Hdb hw hlen;go_wp2_with (at_builtin;refine A0 rfl (.tmp 31) (.tmp 34) 30 rfl w.heap.size 135 i0 _ 1 4 underlying30 Hi.o.1 Hi.o.2.1 Hi.o.2.2.1 Hi.o.2.2.2 rfl (by decide) _ _ _ rfl HO1.o _ 1 1 (fun e=>by cases e) [.int .u32 (D:Int)] rfl rfl (.inr ⟨_,rfl,Be [.int .u32 (D:Int)] _ rfl⟩) (J7 _) (by simp only[maxLen];omega) (by omega) (Nat.le_trans Hx.o.size HX1.o.size) ?_;intro v5 w5 hown5 hgrow5 hat5;have HO:Hid (FI w5 w.heap.size v5 (o++[D])):=bH (Gv Hlen.o hown5);have HX:Hid (XF w w5):=bH ((Hx.o.trans HX1.o).grown hgrow5 (fun k e h=>absurd (HG.o k e) (by omega)));clear hown5 hgrow5 hat5);go_wp2;go_roundg (m-(i+1));case measure=>omega
   case rel=>exact⟨i+1,_,_,by omega,rfl,by go_num,rfl,Hst.o,HO.o,HX.o⟩
  obtain rfl:i=m:=(by omega);have hst':=Aa;rw[<- Hm.o] at hst';have hall:=hst'.all Ha.o.1 Hb.o.1 Hle.o;have hT:=KI wr _ _ (ho.rds Aa.dig) (by rw[Aa.len];omega);rw[hall] at hT;have HT:=bH hT;have Hx:=bH hx;clear Aa hst' hall hT ho hx;go_wp2_with fail;refine HT.o.mono ?_;rintro r6 w6 ⟨v6,rfl,h6,hx6,hg6⟩;have HP:Hid (KL w (vl a) (vl b) (.returned (.tuple #[v6,.int .i64 0])) w6):=bH ⟨v6,rfl,h6,Hx.o.trans hx6,fun g e=>Nat.le_trans Hx.o.size (hg6 g e)⟩;clear h6 hx6 hg6;go_wp2;go_ret2;exact HP.o
theorem TH{o:List Nat} {i:Nat} (h:i<o.length):Aq (o++[0]) i=Aq o i:=by
 rw[CI h,CI (by simp;omega),List.getElem_append_left h]
theorem OC{o:List Nat} {i d:Nat} (h:i<o.length):(o++[0]).set i d=o.set i d++[0]:=List.set_append_left i d h
theorem LA(w:World) (va vb:Value) (a b:List Nat) (ha:Ad w va a) (hb:Ad w vb b) (hal:a.length<=268435455) (hbl:b.length<=268435455) :
  Calls prog 185 #[va,vb] w (BO w (vl a*vl b)):=by
 obtain⟨ada,aao,ac,rfl,_,_,_,ha4⟩:=id ha;obtain⟨bda,bao,bc,rfl,_,_,_,hb4⟩:=id hb;obtain⟨n,hn⟩:=bN (a.length+b.length+1);obtain⟨w1,hmk,hA,hx1⟩:=Do w n (by omega);rw[<- hn,List.replicate_succ'] at hA;obtain⟨B,hB⟩:=bN w.heap.size;rw[hB] at hmk hA;have HA:=bH hA;have HX:=bH hx1;have Hda:=bH ada;have Hdb:=bH bda;have Ha:=bH ha;have Hb:=bH hb;have Hst0:=bH (GJ.zero a b);clear ha hb hA hx1 ada bda ha4 hb4;generalize hna:a.length=na at *;generalize hnb:b.length=nb at *;have HN:=bH (bI hna hnb);clear hna hnb;have hn1:(na:Int)+nb+1=n:=by omega
 have hn0:(0:Int)<=(na:Int)+nb+1:=by omega
 go_enter func185,ntmps185;go_wp2_with fail;go_loopg [6] na (fun g v6 wr=>∃(i:Nat) (o:List Nat),i<=na/\g=na-i/\v6=.int .i64 i/\GJ a b i o/\F9 wr B (o++[0])/\XF w wr);case atStart=>exact⟨0,_,Nat.zero_le _,rfl,rfl,Hst0.o,HA.o,HX.o⟩
 case round =>
  obtain⟨i,o,hi,rfl,rfl,Aa,hA,hx⟩:=hrel;clear HA HX Hst0 hmk;by_cases hin:i<na
  ·obtain⟨ba,offa,rfl,hba⟩:=Ha.o.base (by have:=HN.o;omega);have hia:i<a.length:=(by have:=HN.o.1;omega);have hxl:=Ar Hda.o i;have hin0:=G9.zero (a:=a) (b:=b) (i:=i) Aa.dig Aa.len;have Hst:=bH Aa;have Hin0:=bH hin0;have HA:=bH hA;have HX:=bH hx;have hini:(i:Int)<(na:Int):=(by omega);clear Aa hin0 hA hx;obtain⟨x,hxe⟩:=bN (Aq a i);rw[hxe] at hxl;have Hxe:=bH hxe;clear hxe;go_wp2_with fail;go_loopg [7,8] nb (fun g v7 v8 wr=>∃(k:Nat) (oc:List Nat) (c:Nat),k<=nb/\g=nb-k/\v8=.int .i64 k/\v7=.int .u64 c/\G9 a b o i k oc c/\F9 wr B (oc++[0])/\XF w wr);case atStart=>exact⟨0,o,0,Nat.zero_le _,rfl,rfl,rfl,Hin0.o,HA.o,HX.o⟩
   case round =>
    obtain⟨k,oc,c,hk,rfl,rfl,rfl,hin1,hA1,hx1⟩:=hrel;clear HA HX Hin0;by_cases hkn:k<nb
    ·obtain⟨bb,offb,rfl,hbb⟩:=Hb.o.base (by have:=HN.o;omega);have hkb:k<b.length:=(by have:=HN.o.2;omega);have c0:=(Ha.o.keep hx1).at.2 i hia;have c1:=(Hb.o.keep hx1).at.2 k hkb;have hyl:=Ar Hdb.o k;have hlen:i+k<oc.length:=(by have:=HN.o;have:=hin1.len;omega);have hnxt:=hin1.step Hda.o Hdb.o hia hkb;have c2:=hA1.cell (i+k) (by simp;omega);rw[TH hlen] at c2;have hol:=Ar hin1.dig (i+k);have hcl:=hin1.car;rw[Hxe.o] at hnxt c0;obtain⟨y,hye⟩:=bN (Aq b k);obtain⟨od,hoe⟩:=bN (Aq oc (i+k));rw[hye] at c1 hyl hnxt;rw[hoe] at c2 hol hnxt;have hfit:=KP hxl hyl hol hcl;obtain⟨p,hp⟩:=bN (x*y);have hpi:(x:Int)*(y:Int)=(p:Int):=(by rw[<- hp];simp);rw[hp] at hnxt hfit;obtain⟨S1,hS1⟩:=bN (c+p);obtain⟨S2,hS2⟩:=bN (p+od+c);rw[hS2] at hnxt;have e5:(0:Int)<=(x:Int)*y:=(by omega);have e6:(x:Int)*y<18446744073709551616:=(by omega);have w1':IntKind.u64.wrap (p:Int)=p:=IntWalk.u64_in _ (by omega);have w2':IntKind.u64.wrap ((c:Int)+p)=S1:=(by rw[EJ];omega);have w3':IntKind.u64.wrap ((S1:Int)+od)=S2:=(by rw[EJ];omega);have w4':IntKind.u64.wrap (x:Int)=x:=IntWalk.u64_in _ (by omega);have w5':IntKind.u64.wrap (y:Int)=y:=IntWalk.u64_in _ (by omega);have w6':IntKind.u64.wrap (od:Int)=od:=IntWalk.u64_in _ (by omega);have hs1:S1<18446744073709551616:=(by omega);have hs2:S2<18446744073709551616:=(by omega);have HA2:=bH (fun N=>(hA1.ext ((AK.refl _ wr).drewN N)).set (i+k) (S2%4294967296));have Hnxt:=bH hnxt;have HX2:=bH (fun N=>(hx1.drewN N).own ((AK.refl (fun z=>z=B) (wr.drewN N)).setCell (p:=⟨B,i+k,none⟩) (.int .u32 (S2%4294967296:Nat)) (fun _=>rfl)) (fun z e=>by omega));have f2:=hA1.free (i+k);have Hlen:=bH hlen;have e0:(0:Int)<=(k:Int):=(by omega);have e1:(k:Int)<(nb:Int):=(by omega);have e2:(i:Int)+k<(n:Int):=(by omega);have e3:(0:Int)<=(i:Int)+k:=(by omega);have e4:((i:Int)+k).toNat=i+k:=(by omega);have e7:(0:Int)<=(i:Int):=(by omega);clear hin1 hA1 hx1 hnxt hye hoe hp hS1 hS2 hfit hlen hia hkb;go_upto_region 9 with fail;go_quiet (fail);go_wp2;have q1:(S2:Int)%4294967296=(S2%4294967296:Nat):=(by omega);have q2:(S2:Int)/4294967296=(S2/4294967296:Nat):=(by omega);rw[q1,q2];go_roundg (nb-(k+1));case measure=>omega
     case rel=>exact⟨k+1,_,_,by omega,rfl,by go_num,rfl,Hnxt.o,by rw[<- OC Hlen.o];exact HA2.o _,HX2.o _⟩
    have e:k=nb:=(by omega);subst e;have hlen:i+k<oc.length:=(by have:=HN.o;have:=hin1.len;omega);have hcl:=hin1.car;have f2:=hA1.free (i+k);have c2:=hA1.cell (i+k) (by simp;omega);have HA2:=bH (hA1.set (i+k) c);rw[OC hlen] at HA2;have hnx:=Hst.o.step (by have:=HN.o;omega) (o:=oc) (c:=c) (by rw[HN.o.2];exact hin1);rw[HN.o.2] at hnx;have Hnx:=bH hnx;have HX2:=bH (hx1.own ((AK.refl (fun z=>z=B) wr).setCell (p:=⟨B,i+k,none⟩) (.int .u32 (c:Nat)) (fun _=>rfl)) (fun z e=>by omega));have q3:(c:Int)%4294967296=c:=(by omega);clear hin1 hA1 hx1 hnx;have e2:(i:Int)+k<(n:Int):=(by omega);have e3:(0:Int)<=(i:Int)+k:=(by omega);have e4:((i:Int)+k).toNat=i+k:=(by omega);go_wp2;go_roundg (na-(i+1));case measure=>omega
    case rel=>exact⟨i+1,_,by omega,rfl,by go_num,Hnx.o,HA2.o,HX2.o⟩
  have e:i=na:=(by omega);subst e;have hl:(o++[0]).length=n:=(by have:=HN.o;have:=Aa.len;simp;omega);have hr:=hA.rds (Aa.dig.snoc (by omega)) (by omega);rw[hl] at hr;have hd:=Aa;rw[<- HN.o.1] at hd;have hdone:=hd.done;have hv:vl (o++[0])=vl a*vl b:=by
   rw[J1,Nat.mul_zero,Nat.add_zero];have:=congrArg vl hdone;rwa [OY,At] at this
  have hT:=DZ wr _ _ hr (by omega);rw[hv] at hT;have HT:=bH hT;have HX:=bH hx;clear Aa hA hx hr hd hl hdone hv hT;go_wp2_with fail;refine HT.o.mono ?_;rintro r6 w6 ⟨v6,rfl,h6,hx6⟩;have HP:Hid (BO w (vl a*vl b) (.returned v6) w6):=bH ⟨v6,rfl,h6,HX.o.trans hx6⟩;clear h6 hx6;go_wp2;go_ret;exact HP.o
theorem NP{l:List Nat} (hd:Bj l) (t:Nat):vl l/4294967296 ^ t%4294967296=Aq l t:=by
 by_cases h:t<l.length
 ·have h1:=Ih (l:=l) (t:=t) (Nat.le_of_lt h);have h2:=Ik h;rw[<- CI h] at h2;have h3:=Ct (hd.take t);rw[List.length_take,Nat.min_eq_left (Nat.le_of_lt h)] at h3;have h4:=Ar hd t;rw[h1,Nat.add_mul_div_left _ _ (Nat.pow_pos (by omega)),Nat.div_eq_of_lt h3,h2];omega
 rw[DO (by omega)];have h1:=Nat.lt_of_lt_of_le (Ct hd) (An (show l.length<=t by omega));rw[Nat.div_eq_of_lt h1]
theorem QH(t:Nat):4294967296 ^ t=2 ^ (32*t):=by rw[Nat.pow_mul]
theorem Ug{l:List Nat} (hd:Bj l) (i:Nat):Aq l (i/32)/2 ^ (i%32)%2=vl l/2 ^ i%2:=by
 have h1:=NP hd (i/32);have hs:i%32<32:=Nat.mod_lt _ (by omega);have e:vl l/2 ^ i=vl l/4294967296 ^ (i/32)/2 ^ (i%32):=by
  rw[Nat.div_div_eq_div_mul,QH,<- Nat.pow_add,Nat.div_add_mod]
 rw[e,<- h1];generalize vl l/4294967296 ^ (i/32)=X;generalize i%32=s at *;have h2:Nat.testBit (X%2 ^ 32) s=Nat.testBit X s:=by rw[Nat.testBit_mod_two_pow];simp[hs]
 rw[Nat.testBit_eq_decide_div_mod_eq,Nat.testBit_eq_decide_div_mod_eq] at h2;have h3:=Nat.mod_two_eq_zero_or_one (X%4294967296/2 ^ s);have h4:=Nat.mod_two_eq_zero_or_one (X/2 ^ s);have h5:(X%4294967296/2 ^ s%2=1)↔(X/2 ^ s%2=1):=by simpa using h2
 omega
structure F7(N y m j:Nat) (q:List Nat) (R:Nat):Prop where
 dig:Bj q
 len:q.length=m
 val:vl q=2 ^ j*(N/2 ^ j/y)
 rest:R=N/2 ^ j%y
theorem F7.start{N y m:Nat} (hN:N<4294967296 ^ m):F7 N y m (32*m) (List.replicate m 0) 0:=by
 have h:N/2 ^ (32*m)=0:=Nat.div_eq_of_lt (by rw[<- QH];exact hN);exact⟨Bj.zeros m,by simp,by rw[GG,h];simp,by rw[h];simp⟩
theorem VH(N j:Nat):N/2 ^ j=2*(N/2 ^ (j+1))+N/2 ^ j%2:=by
 have:N/2 ^ (j+1)=N/2 ^ j/2:=by rw[Nat.pow_succ,Nat.div_div_eq_div_mul]
 omega
theorem TJ{M y b:Nat} (hb:b<2) (hy:0<y) :
  (2*(M%y)+b<y->(2*M+b)/y=2*(M/y)/\(2*M+b)%y=2*(M%y)+b) /\
  (y<=2*(M%y)+b->(2*M+b)/y=2*(M/y)+1/\(2*M+b)%y=2*(M%y)+b-y):=by
 have h1:=Nat.div_add_mod M y;have h2:=Nat.mod_lt M hy;generalize M/y=Q at *;generalize M%y=R at *;have e:2*M+b=y*(2*Q)+(2*R+b):=by rw[<- h1,Nat.mul_add,Nat.mul_left_comm];omega
 refine⟨fun h=>?_,fun h=>?_⟩
 ·rw[e,Nat.mul_add_div hy,Nat.mul_add_mod,Nat.div_eq_of_lt h,Nat.mod_eq_of_lt h];exact⟨by omega,rfl⟩
 have e2:2*M+b=y*(2*Q+1)+(2*R+b-y):=(by rw[e,Nat.mul_add y (2*Q) 1];omega);have h3:2*R+b-y<y:=(by omega);rw[e2,Nat.mul_add_div hy,Nat.mul_add_mod,Nat.div_eq_of_lt h3,Nat.mod_eq_of_lt h3];exact⟨by omega,rfl⟩
theorem F7.keep{N y m j:Nat} {q:List Nat} {R:Nat} (hy:0<y) (h:F7 N y m (j+1) q R) (hlt:R+R+N/2 ^ j%2<y):F7 N y m j q (R+R+N/2 ^ j%2):=by
 have hb:N/2 ^ j%2<2:=Nat.mod_lt _ (by omega);obtain⟨h1,h2⟩:=(TJ (M:=N/2 ^ (j+1)) hb hy).1 (by have:=h.rest;omega);rw[<- VH] at h1 h2;refine⟨h.dig,h.len,?_,?_⟩
 ·rw[h.val,h1,Nat.pow_succ,Nat.mul_assoc]
 rw[h2,<- h.rest];omega
theorem Rl{d k:Nat} (h:d%2 ^ (k+1)=0):d ||| 2 ^ k=d+2 ^ k:=by
 obtain⟨e,he⟩:=Nat.dvd_of_mod_eq_zero h;have:=Nat.shiftLeft_add_eq_or_of_lt (show 2 ^ k<2 ^ (k+1) by rw[Nat.pow_succ];have:=Nat.two_pow_pos k;omega) e;rw[Nat.shiftLeft_eq,Nat.mul_comm,<- he] at this;exact this.symm
theorem F7.turn{N y m j:Nat} {q:List Nat} {R:Nat} (hy:0<y) (hj:j<32*m) (h:F7 N y m (j+1) q R) (hge:y<=R+R+N/2 ^ j%2) :
  (Aq q (j/32) ||| 2 ^ (j%32))<4294967296/\F7 N y m j (q.set (j/32) (Aq q (j/32) ||| 2 ^ (j%32))) (R+R+N/2 ^ j%2-y):=by
 have hb:N/2 ^ j%2<2:=Nat.mod_lt _ (by omega);obtain⟨h1,h2⟩:=(TJ (M:=N/2 ^ (j+1)) hb hy).2 (by have:=h.rest;omega);rw[<- VH] at h1 h2;have hs:j%32<32:=Nat.mod_lt _ (by omega);have ht:j/32<q.length:=by rw[h.len];omega
 have hor:(Aq q (j/32) ||| 2 ^ (j%32))<4294967296:=Nat.or_lt_two_pow (n:=32) (Ar h.dig _) (Nat.pow_lt_pow_right (by omega) hs);have hm:Aq q (j/32)%2 ^ (j%32+1)=0:=by
  rw[<- NP h.dig,h.val,show (4294967296:Nat)=2 ^ (j%32+1)*2 ^ (32-(j%32+1)) by rw[<- Nat.pow_add,show j%32+1+(32-(j%32+1))=32 by omega],Nat.mod_mul_right_mod];rw[show 2 ^ (j%32+1)*2 ^ (32-(j%32+1))=(4294967296:Nat) by rw[<- Nat.pow_add,show j%32+1+(32-(j%32+1))=32 by omega],QH];rw[show 2 ^ (j+1)*(N/2 ^ (j+1)/y)=2 ^ (32*(j/32))*(2 ^ (j%32+1)*(N/2 ^ (j+1)/y)) by rw[<- Nat.mul_assoc,<- Nat.pow_add,show 32*(j/32)+(j%32+1)=j+1 by omega]];rw[Nat.mul_div_cancel_left _ (Nat.two_pow_pos _),Nat.mul_mod_right]
 refine⟨hor,h.dig.set _ _ hor,by simp[h.len],?_,?_⟩
 ·have hset:=Cz (Aq q (j/32) ||| 2 ^ (j%32)) ht;rw[Rl hm,Nat.mul_add] at hset;have e:4294967296 ^ (j/32)*2 ^ (j%32)=2 ^ j:=(by rw[QH,<- Nat.pow_add,Nat.div_add_mod]);rw[e] at hset;rw[Rl hm,h1,Nat.mul_add,Nat.mul_one];have e2:vl q=2 ^ j*(2*(N/2 ^ (j+1)/y)):=(by rw[h.val,Nat.pow_succ,Nat.mul_assoc]);omega
 rw[h2,<- h.rest];omega
theorem F7.done{N y m:Nat} {q:List Nat} {R:Nat} (h:F7 N y m 0 q R):vl q=N/y/\R=N%y:=by
 have h1:=h.val;have h2:=h.rest;simp at h1 h2;exact⟨h1,h2⟩
theorem OF{x:Nat} (h:x<4294967296):bits BinOp.and .u32 (x:Int) 1=((x%2:Nat):Int):=by
 have:=u32_and_nat x 1 h (by decide);rw[Nat.and_one_is_mod] at this;exact this
theorem UA(w:World) (v:Value) (l:List Nat) (h:Ad w v l) (i:Nat) (hi:i<32*l.length) (hl:l.length<=268435455):Calls prog 171 #[v,.int .i64 i] w fun r w'=>r=.returned (.int .u32 (vl l/2 ^ i%2:Nat))/\w'=w:=by
 obtain⟨ao,c,rfl,_⟩:=id h.2;obtain⟨m,hm⟩:=bN l.length;obtain⟨b,off,rfl,_⟩:=h.base (by omega);have ht:i/32<l.length:=by omega
 have c0:=h.at.2 (i/32) ht;have hb:=Ug h.1 i;have hdl:=Ar h.1 (i/32);rw[<- hb];rw[hm] at h ht hi hl ⊢;have hs:i%32<32:=Nat.mod_lt _ (by omega);have t1:(i:Int).tdiv 32=((i/32:Nat):Int):=rfl;have t2:(i:Int).tmod 32=((i%32:Nat):Int):=rfl;obtain⟨t,hte⟩:=bN (i/32);obtain⟨s,hse⟩:=bN (i%32);rw[hte] at t1 c0 ht hdl ⊢;rw[hse] at t2 hs ⊢;generalize Aq l t=d at *;have w1:IntKind.i64.wrap (t:Int)=t:=IntWalk.i64_in _ (by omega);have e1:(t:Int)<(m:Int):=by omega
 have e2:(0:Int)<=(t:Int):=by omega
 have e3:(0:Int)<=(s:Int):=by omega
 have hq:d/2 ^ s<4294967296:=Nat.lt_of_le_of_lt (Nat.div_le_self _ _) hdl;have q1:(d:Int)/2 ^ s=((d/2 ^ s:Nat):Int):=by rw[Int.natCast_ediv,Int.natCast_pow];rfl
 obtain⟨f,hf⟩:=bN (d/2 ^ s);rw[hf] at q1 hq ⊢;have q2:=OF hq;obtain⟨g,hg⟩:=bN (f%2);rw[hg] at q2 ⊢;have e4:(s:Int)<=64:=by omega
 clear hf hg;clear h hb hte hse hq;go_enter func171,ntmps171;go_wp2;go_ret;exact⟨rfl,rfl⟩
def LE(w:World) (x y:Nat) (r:Ending) (w':World):Prop:=∃v1 v2,r=.returned (.tuple #[v1,v2,.int .i64 0])/\Ab w' v1 (x/y)/\Ab w' v2 (x%y)/\XF w w'
theorem Ad.apart{S:Nat->Prop} {w w':World} {v:Value} {l:List Nat} (h:Ad w v l) (hx:AK S w w') (hn:∀g,v.ownBlock=some g->¬S g):Ad w' v l:=by
 obtain⟨h0,ao,c,rfl,h1,h2,h3,h4⟩:=h;refine⟨h0,ao,c,rfl,h1,h2,h3,fun hp=>?_⟩;obtain⟨b,off,rfl,hbl,hc⟩:=h4 hp;have hb:=hn b rfl;exact⟨b,off,rfl,Nat.lt_of_lt_of_le hbl hx.size,fun i d hi=>(hx.cell (p:=⟨b,off+i,none⟩) hbl hb).trans (hc i d hi)⟩
theorem Gc(w:World) (va vb:Value) (a b:List Nat) (ha:Ad w va a) (hb:Ad w vb b) (hal:a.length<=134217727) (hbl:b.length<=134217727) (hy:¬vl b=0) :
  Calls prog 101 #[va,vb] w (LE w (vl a) (vl b)):=by
 have HT:=bH (DZ w vb b hb (by omega));have hyl:=Bc b hb.1;unfold Ce at hyl;generalize vl b=y at *;have hy0:0<y:=Nat.pos_of_ne_zero hy;obtain⟨m,hm⟩:=bN a.length;obtain⟨k,hk⟩:=bN ((dg y).length);have hN:vl a<4294967296 ^ m:=by have:=Ct ha.1;rwa [hm] at this
 have hkl:k<=134217727:=by omega
 have hk0:¬(k:Int)=0:=by
  intro h;exact hy (DN.1 (List.eq_nil_of_length_eq_zero (by omega)))
 have hkb:((k:Int) == 0)=false:=by simpa using hk0
 obtain⟨ao,ac,rfl,_⟩:=id ha.2;rw[hm] at ha hal ⊢;have Ha:=bH ha;have Hm:=bH (bI hm hk);have HN:=bH (F7.start (y:=y) hN);have Hbit:=bH (fun W (hW:XF w W) i (hi:i<32*m)=>UA W _ a (ha.keep hW) i (by rw[hm];exact hi) (by omega));clear ha hb hbl hyl hm hk hN;generalize vl a=N at *;go_enter func101,ntmps101;go_wp2_with fail;refine HT.o.mono ?_;rintro r w1 ⟨v1,rfl,h1,hx1⟩;have h1':=h1;obtain⟨bo,bc,rfl⟩:=h1'.shape;rw[Hm.o.2] at h1 h1' ⊢;obtain⟨w2,hmk,hQ,hxq⟩:=Do w1 m (by omega);obtain⟨Q,hQe⟩:=bN w1.heap.size;rw[hQe] at hmk hQ;have hQl:=hQ.lt;have hx3:XF w2 (w2.alloc (.cells #[] 135)):=(AK.refl _ w2).alloc _;have hw1:=hx1.size;have HI:=bH (bI (hQ.ext hx3) (bI ((JD (AD w2 (.cells #[] 135)) 0 (Nat.zero_le _)).rds Bj.nil) (hxq.trans hx3)));have H1:=bH (bI h1 hx1);clear h1 h1' hx1 hQ hxq hx3 HT;have hb32:(32:Int)*m-1=(32*m:Nat)-1:=by omega
 go_wp2_with fail;go_loopg [8,9] (32*m) (fun g v8 v9 wr=>∃(j:Nat) (q:List Nat) (R:Nat),j<=32*m/\g=j/\v9=.int .i64 ((j:Int)-1)/\F7 N y m j q R/\F9 wr Q q/\Ab wr v8 R/\(∀g,v8.ownBlock=some g->Q<g)/\XF w1 wr);case atStart =>
  refine⟨32*m,_,0,Nat.le_refl _,rfl,by go_num,HN.o,HI.o.1,?_,?_,HI.o.2.2⟩
  ·unfold Ab;rw[Bo];exact HI.o.2.1
  intro g e;cases e;omega
 case round =>
  rename_i v8;obtain⟨j,q,R,hj,hg,rfl,Aa,hAq,hR,hRo,hx⟩:=hrel;obtain rfl:=hg.symm;clear HN HI hmk;obtain⟨aoR,capR,rfl⟩:=hR.shape;by_cases h0:j=0
  ·subst h0;obtain⟨hq,hr⟩:=Aa.done;have hqr:=hAq.rds Aa.dig (by rw[Aa.len];omega);rw[Aa.len] at hqr;have hT:=DZ wr _ q hqr (by rw[Aa.len];omega);rw[hq] at hT;rw[hr] at hR;have HT:=bH hT;have HRr:=bH hR;have Hx:=bH (H1.o.2.trans hx);have p0:((0:Nat):Int)-1 = -1:=(by omega);rw[p0];rw[hr];clear Aa hAq hR hRo hx hq hr hqr hT p0;generalize (dg (N%y)).length=lr at *;go_wp2_with fail;refine HT.o.mono ?_;rintro r6 w6 ⟨v6,rfl,h6,hx6⟩;have HP:Hid (LE w N y (.returned (.tuple #[v6,.slice aoR lr capR,.int .i64 0])) w6):=bH ⟨v6,_,rfl,h6,HRr.o.keep hx6,Hx.o.trans hx6⟩;clear h6 hx6;go_wp2;go_ret3;exact HP.o
  obtain⟨i,rfl⟩:∃i,j=i+1:=⟨j-1,by omega⟩;have p1:((i+1:Nat):Int)-1=i:=(by omega);rw[p1];have hRy:R<y:=(by rw[Aa.rest];exact Nat.mod_lt _ hy0);have hRl:(dg R).length<=k:=(by have:=Bu (Nat.le_of_lt hRy);rw[Hm.o.2] at this;exact this);have hA1:=LJ wr _ _ _ _ hR hR (by omega) (by omega);rw[At] at hA1;obtain⟨lR,hlR⟩:=bN ((dg R).length);rw[hlR] at hA1 ⊢;have hbl:N/2 ^ i%2<2:=Nat.mod_lt _ (by omega);have hkeep:=fun h=>Aa.keep hy0 h;have hturn:=fun h=>Aa.turn hy0 (by omega) h;have hBt:=Hbit.o;have hlen2:(dg (R+R)).length<=k+1:=by
   have h3:=Nat.lt_of_lt_of_le (CP R) (An hRl);have:=IP h3 h3;omega
  generalize hbe:N/2 ^ i%2=bt at *;have HA1:=bH hA1;have HS:=bH (bI hAq (bI hx (bI Aa.dig Aa.len)));have HK:=bH (bI hkeep hturn);have HL2:=bH hlen2;have hRk:=bH hRo;clear Aa hAq hR hRo hx hRl hA1 hkeep hturn hBt hlR hlen2;go_wp2_with fail;refine HA1.o.mono ?_;rintro r3 w3 ⟨v3,rfl,h3,hx3,hg3⟩;have hBt:=Hbit.o w3 (H1.o.2.trans (HS.o.2.1.trans hx3)) i (by omega);rw[hbe] at hBt;have HBt:=bH hBt;have H3:=bH (bI h3 hx3);obtain⟨ao3,c3,rfl⟩:=h3.shape;clear h3 hx3 hg3 hBt HA1 hbe;go_wp2_with fail;refine HBt.o.mono ?_;rintro r4 w' ⟨rfl,hw⟩;obtain rfl:=hw.symm;clear hw HBt;have hx4:XF w3 (w3.alloc (.cells #[.int .u32 (bt:Nat)] 135)):=(AK.refl _ w3).alloc _;have hr4:Ad (w3.alloc (.cells #[.int .u32 (bt:Nat)] 135)) (.slice (some ⟨w3.heap.size,0,none⟩) 1 1) [bt]:=by
   refine⟨Bj.cons (by omega) Bj.nil,_,1,rfl,Nat.le_refl _,by unfold maxLen;omega,fun h=>(by cases h),fun _=>⟨_,0,rfl,by simp,fun i d hi=>?_⟩⟩;have:=Be (w:=w3) [.int .u32 (bt:Nat)] 135 rfl i (dv d) (by
    match i,hi with
    | 0,hi=>simp at hi ⊢;subst hi;rfl
    | i+1,hi=>simp at hi)
   rwa [Addr.add_lit] at this
  have hA2:=LJ _ _ _ _ _ (H3.o.1.keep hx4) hr4 (by have:=HL2.o;omega) (by simp);rw[At,show vl [bt]=bt by simp[vl]] at hA2;have HA2:=bH hA2;have HX4:=bH (H3.o.2.trans hx4);generalize (dg (R+R)).length=lRR at *;clear hx4 hr4 hA2 H3;go_wp2_with fail;refine HA2.o.mono ?_;rintro r5 w5 ⟨v5,rfl,h5,hx5,hg5⟩;have HX5:=bH ((HS.o.2.1.trans HX4.o).trans hx5);have hA5:=HS.o.1.ext (HX4.o.trans hx5);have hQ5:∀g,v5.ownBlock=some g->Q<g:=fun g e=>by
   have h1:=hg5 g e;have h2:=HX4.o.size;have h3:=HS.o.1.lt;omega
  obtain⟨ao5,c5,rfl⟩:=h5.shape;obtain⟨T,hT⟩:=bN (R+R+bt);rw[hT] at h5 HK hQ5 ⊢;have hTl:(dg T).length<=k+1:=by
   have h1:=Nat.lt_of_lt_of_le (CP y) (An (Nat.le_of_eq Hm.o.2));refine As ?_;rw[DU];omega
  have hC:=KT w5 _ _ _ _ h5 (H1.o.1.keep HX5.o) (by omega) (by have:=Hm.o.2;omega);rw[At,At] at hC;have hD:=fun W (hW:XF w5 W) (h:y<=T)=>Kh W _ _ _ _ (Ad.keep h5 hW) (Ad.keep H1.o.1 (HX5.o.trans hW)) (by omega) (by have:=Hm.o.2;omega) (by rw[At,At];exact h);rw[At,At] at hD;obtain⟨lT,hlT⟩:=bN ((dg T).length);rw[hlT] at hC hD ⊢ h5 hQ5;have HC:=bH hC;have HD:=bH hD;have H5:=bH (bI h5 (bI hQ5 hA5));clear hA5 h5 hx5 hg5 hC hD hT hlT HA2 HX4 hQ5;by_cases hTy:T<y
  ·have e:CA T y = -1:=(by unfold CA;rw[if_pos hTy]);rw[e] at HC;have HKK:=bH (HK.o.1 hTy);clear e HK HD hTy;go_wp2_with fail;refine HC.o.mono ?_;rintro r6 w6 ⟨rfl,hx6⟩;have HF:Hid (F9 w6 Q q/\Ab w6 (.slice ao5 lT c5) T/\XF w1 w6):=bH ⟨H5.o.2.2.ext hx6,H5.o.1.keep hx6,HX5.o.trans hx6⟩;clear hx6;go_wp2;go_roundg i;case measure=>omega
   case rel=>exact⟨i,q,T,by omega,rfl,by go_num,HKK.o,HF.o.1,HF.o.2.1,H5.o.2.1,HF.o.2.2⟩
  have e:¬CA T y<0:=(by unfold CA;rw[if_neg hTy];split<;>omega);have e':0<=CA T y:=(by omega);generalize CA T y=cq at *;have HKK:=bH (HK.o.2 (by omega));have HTy:=bH hTy;clear e HK hTy;go_wp2_with fail;refine HC.o.mono ?_;rintro r6 w6 ⟨rfl,hx6⟩;have HD6:=bH (HD.o w6 hx6 (by have:=HTy.o;omega));have HF:=bH (bI (H5.o.2.2.ext hx6) (HX5.o.trans hx6));have hsz:=HX5.o.size;have hsz6:=hx6.size;have hQs:=H5.o.2.2.lt;clear hx6 HC HD;go_wp2_with fail;refine HD6.o.mono ?_;rintro r7 w7 ⟨v7,rfl,h7,hx7,hg7⟩;have hA7:=HF.o.1.ext hx7;have hQ7:∀g,v7.ownBlock=some g->Q<g:=fun g e=>by
   have h1:=hg7 g e;omega
  obtain⟨ao7,c7,rfl⟩:=h7.shape;have hs32:i%32<32:=Nat.mod_lt _ (by omega);have htm:i/32<m:=(by omega);have hlq:=HS.o.2.2.2;have cq0:=hA7.cell (i/32) (by omega);have f0:=hA7.free (i/32);have hdl:=Ar HS.o.2.2.1 (i/32);have hor:=HKK.o.1;have t1:(i:Int).tdiv 32=((i/32:Nat):Int):=rfl;have t2:(i:Int).tmod 32=((i%32:Nat):Int):=rfl;have HSet:=bH HKK.o.2;obtain⟨t,hte⟩:=bN (i/32);obtain⟨s,hse⟩:=bN (i%32);rw[hte] at t1 cq0 f0 htm hdl hor HSet;rw[hse] at t2 hs32 hor HSet;obtain⟨d,hde⟩:=bN (Aq q t);rw[hde] at cq0 hdl hor HSet;obtain⟨P,hP⟩:=bN (2 ^ s);have hPl:P<4294967296:=(by rw[<- hP];exact Nat.pow_lt_pow_right (a:=2) (n:=32) (by omega) hs32);obtain⟨d2,hd2⟩:=bN (d ||| P);have horb:bits BinOp.or .u32 (d:Int) (P:Int)=(d2:Int):=(by rw[u32_or_nat d P hdl hPl,hd2]);rw[hP,hd2] at HSet hor;have hPi:(2:Int) ^ s=(P:Int):=(by rw[<- hP,Int.natCast_pow];rfl);have w1':IntKind.i64.wrap (t:Int)=t:=IntWalk.i64_in _ (by omega);have w2':IntKind.u32.wrap (P:Int)=P:=IntWalk.u32_in _ (by omega);have w3':IntKind.u32.wrap ((1:Int)*P)=P:=(by rw[Int.one_mul];exact w2');have e1:(t:Int)<(m:Int):=(by omega);have e2:(0:Int)<=(t:Int):=(by omega);have e3:(0:Int)<=(s:Int):=(by omega);have e4:(s:Int)<=64:=(by omega);have HA7:=bH (bI hA7 (bI h7 (bI hQ7 (HF.o.2.trans hx7))));clear hA7 h7 hx7 hg7 hQ7 HKK hte hse hde hP hd2 HF HD6 hlq;generalize (dg (T-y)).length=l7 at *;go_upto_region 12 with fail;go_region;have hxs:AK (fun z=>z=Q) w7 (w7.setCell ⟨Q,t,none⟩ (.int .u32 (d2:Nat))).drew:=((AK.refl (fun z=>z=Q) w7).setCell (p:=⟨Q,t,none⟩) (.int .u32 (d2:Nat)) (fun _=>rfl)).drew;have hA8:=(HA7.o.1.set t d2).ext ((AK.refl (fun _=>False) _).drew);have hR8:=HA7.o.2.1.apart hxs (fun g e=>by have:=HA7.o.2.2.1 g e;omega);have hX8:=HA7.o.2.2.2.own hxs (fun z e=>by omega);have HF8:=bH (bI hA8 (bI hR8 (bI HA7.o.2.2.1 hX8)));clear hxs hA8 hR8 hX8 HA7;go_wp2;go_roundg i;case measure=>omega
  case rel=>exact⟨i,_,_,by omega,rfl,by go_num,HSet.o,HF8.o.1,HF8.o.2.1,HF8.o.2.2.1,HF8.o.2.2.2⟩
theorem TB(w:World) (va vb:Value) (a b:List Nat) (ha:Ad w va a) (hb:Ad w vb b) (hal:a.length<=134217727) (hbl:b.length<=134217727) :
  Calls prog 100 #[va,vb] w (BO w (Nat.gcd (vl a) (vl b))):=by
 have Fa:=bH (DZ w va a ha (by omega));have Fb:=bH (fun W (hW:XF w W)=>DZ W vb b (hb.keep hW) (by omega));have la:=Bc a ha.1;have lb:=Bc b hb.1;unfold Ce at la lb;have hla:(dg (vl a)).length<=134217727:=by omega
 have hlb:(dg (vl b)).length<=134217727:=by omega
 generalize vl a=x0 at *;generalize vl b=y0 at *;have HL:=bH (bI hla hlb);clear ha hb hal hbl la lb hla hlb;go_enter func100,ntmps100;go_wp2_with fail;refine Fa.o.mono ?_;rintro r w1 ⟨v1,rfl,h1,hx1⟩;have Fb1:=bH (Fb.o w1 hx1);have H1:=bH (bI h1 hx1);clear h1 hx1 Fa Fb;go_wp2_with fail;refine Fb1.o.mono ?_;rintro r w2 ⟨v2,rfl,h2,hx2⟩;have HI:=bH (bI (H1.o.1.keep hx2) (bI h2 (H1.o.2.trans hx2)));clear h2 hx2 Fb1 H1;go_wp2_with fail;go_loopg [0,1] y0 (fun g v0 v1 wr=>∃x y:Nat,g=y/\Ab wr v0 x/\Ab wr v1 y/\(dg x).length<=134217727/\(dg y).length<=134217727/\Nat.gcd x y=Nat.gcd x0 y0/\XF w wr);case atStart=>exact⟨x0,y0,rfl,HI.o.1,HI.o.2.1,HL.o.1,HL.o.2,rfl,HI.o.2.2⟩
 case round =>
  rename_i v0 v1;obtain⟨x,y,hg,h0,h1,hlx,hly,hgc,hx⟩:=hrel;obtain rfl:=hg.symm;clear HI HL;have h0':=h0;have h1':=h1;obtain⟨ao,ca,rfl,_⟩:=h0'.2;obtain⟨bo,cb,rfl,_⟩:=h1'.2;by_cases hy:y=0
  ·subst hy;rw[Nat.gcd_zero_right] at hgc;rw[Bo];have HP:Hid (BO w (Nat.gcd x0 y0) (.returned (.slice ao (dg x).length ca)) wr):=bH ⟨_,rfl,by rw[<- hgc];exact h0,hx⟩;clear h0 h1 h0' h1' hgc hx hlx hly;generalize (dg x).length=lx at *;simp only[List.length_nil];go_wp2;go_ret;exact HP.o
  obtain⟨m,hm⟩:=bN ((dg x).length);obtain⟨k,hk⟩:=bN ((dg y).length);have hk0:0<k:=by
   rcases Nat.eq_zero_or_pos k with h|h
   ·exact absurd (DN.1 (List.eq_nil_of_length_eq_zero (hk.trans h))) hy
   exact h
  have hki:(0:Int)<(k:Int):=(by omega);have HD:=Gc wr _ _ _ _ h0 h1 hlx hly (by rw[At];exact hy);rw[At,At,hm,hk] at HD;have H0:=bH (bI h0 (bI h1 (bI hx hgc)));have Hm:=bH (bI hm (bI hk (bI hlx hly)));rw[hm,hk];have HD':=bH HD;have hlt:=Nat.mod_lt x (Nat.pos_of_ne_zero hy);have hmono:=Bu (Nat.le_of_lt hlt);have hgn:Nat.gcd y (x%y)=Nat.gcd x0 y0:=(by rw[<- hgc,Nat.gcd_comm y,<- Nat.gcd_rec,Nat.gcd_comm]);have HN:=bH (bI hlt (bI hgn (Nat.le_trans hmono hly)));clear h0 h1 h0' h1' hgc hx hlx hly hm hk HD hy hlt hmono hgn;go_wp2_with fail;refine HD'.o.mono ?_;rintro r w9 ⟨v8,v9,rfl,_,h9,hx9⟩;have HF:Hid (Ab w9 (.slice bo k cb) y/\Ab w9 v9 (x%y)/\XF w w9):=bH ⟨by have:=H0.o.2.1.keep hx9;rw[Hm.o.2.1] at this;exact this,h9,H0.o.2.2.1.trans hx9⟩;clear h9 hx9;go_wp2;go_roundg (x%y);case measure=>exact HN.o.1
  case rel=>exact⟨y,x%y,rfl,HF.o.1,HF.o.2.1,Hm.o.2.2.2,HN.o.2.2,HN.o.2.1,HF.o.2.2⟩
theorem PQ(n:Nat):decide (0<(dg n).length)=decide (0<n):=by
 by_cases h:n=0
 ·subst h;rw[Bo];rfl
 have h1:¬(dg n).length=0:=fun e=>h (DN.1 (List.eq_nil_of_length_eq_zero e));rw[decide_eq_true (by omega:0<n),decide_eq_true (by omega:0<(dg n).length)]
theorem D9(w:World) (neg:Bool) (v:Value) (l:List Nat) (h:Ad w v l) (hl:l.length<=268435455) :
  Calls prog 137 #[.bool neg,v] w (DK w (sg neg (vl l))):=by
 have HT:=bH (fun W (hW:XF w W)=>DZ W v l (h.keep hW) (by omega));generalize vl l=n at *;clear h hl;go_enter func137,ntmps137;go_wp2_with fail;refine (HT.o _ ((AK.refl _ w).alloc _)).mono ?_;rintro r w1 ⟨v1,rfl,h1,hx1⟩;have hb1:=(AR (W:=w) rfl false none 0 0).ext hx1 id;have hX1:=((AK.refl (fun _=>False) w).alloc (.cells #[.bool false,.slice none 0 0] 32)).trans hx1;have hi:=Ay.mk neg h1;rw[<- PQ] at hi;obtain⟨ao,c,rfl⟩:=h1.shape;obtain⟨f0,f1,f2,f3⟩:=hb1.facts;obtain⟨m,hm⟩:=bN ((dg n).length);rw[hm] at hi h1 ⊢;obtain⟨s,hs⟩:=bN ((neg&&decide (0<m)));rw[hs] at hi;have hp:=hb1.put (neg:=s) (AF ao m c);have HR:=bH (bI (hp.int hi) (bI (hX1.own hp.ext (fun k e=>by omega)) hp.box));have Hs:=bH hs;clear hp hi h1 hx1 hX1 hb1 HT hm hs;cases neg
 ·have hs:=Hs.o;rw[Bool.false_and] at hs;subst hs;go_wp2;generalize (w1.setCell ⟨w.heap.size,0,none⟩ (.bool false)).setCell ⟨w.heap.size,1,none⟩ (.slice ao m c)=w9 at *;obtain⟨g0,g1,_⟩:=HR.o.2.2.facts;exact bodyPost_ret (v:=.agg #[.bool false,.slice ao m c]) (by simp[results,results137,go_sem,g0,g1]) rfl ⟨_,rfl,HR.o.1,HR.o.2.1⟩
 have hs:=Hs.o;rw[Bool.true_and] at hs;subst hs;go_wp2;generalize (w1.setCell ⟨w.heap.size,0,none⟩ (.bool (decide (0<m)))).setCell ⟨w.heap.size,1,none⟩ (.slice ao m c)=w9 at *;obtain⟨g0,g1,_⟩:=HR.o.2.2.facts;exact bodyPost_ret (v:=.agg #[.bool (decide (0<m)),.slice ao m c]) (by simp[results,results137,go_sem,g0,g1]) rfl ⟨_,rfl,HR.o.1,HR.o.2.1⟩
theorem EN(w:World) (v:Value) (z:Int) (L:Nat) (h:Bf w v z L) (hL:L<=268435455) :
  Calls prog 99 #[v] w (DK w (z)):=by
 obtain⟨neg,ao,m,c,l,rfl,hr,hl,rfl⟩:=h.open;have HB:=bH (fun W (hW:XF w W)=>D9 W neg _ l (hr.keep hW) (by omega));generalize vl l=n at *;clear h hr hl;go_enter func99,ntmps99;go_wp2_with fail;refine (HB.o _ (((AK.refl _ w).alloc _).alloc _)).mono ?_;rintro r w1 ⟨v1,rfl,h1,hx1⟩;obtain⟨rb,hrb⟩:=bN (w.heap.size+1);have hb1:=(AR (W:=w.alloc (.cells #[.bool neg,.slice ao m c] 32)) (k:=rb) (by simp;omega) false none 0 0).ext hx1 id;have hX1:=(((AK.refl (fun _=>False) w).alloc _).alloc _).trans hx1;obtain⟨neg1,so,sn,sc,rfl⟩:=h1.shape;obtain⟨f0,f1,f2,f3⟩:=hb1.facts;have hp:=hb1.put (neg:=neg1) (AF so sn sc);have HR:=bH (bI (hp.int h1) (bI (hX1.own hp.ext (fun k e=>by omega)) hp.box));clear hp h1 hx1 hX1 hb1 HB;rw[hrb];go_wp2;generalize (w1.setCell ⟨rb,0,none⟩ (.bool neg1)).setCell ⟨rb,1,none⟩ (.slice so sn sc)=w9 at *;obtain⟨g0,g1,_⟩:=HR.o.2.2.facts;exact bodyPost_ret (v:=.agg #[.bool neg1,.slice so sn sc]) (by simp[results,results99,go_sem,g0,g1]) rfl ⟨_,rfl,HR.o.1,HR.o.2.1⟩
theorem OV(w:World) (v:Value) (z:Int) (L:Nat) (h:Bf w v z L) (hL:L<=268435455) :
  Calls prog 174 #[v] w (DK w (-z)):=by
 obtain⟨neg,ao,m,c,l,rfl,hr,hl,rfl⟩:=h.open;have HB:=bH (fun W (hW:XF w W)=>D9 W (!neg) _ l (hr.keep hW) (by omega));rw[TR] at HB;generalize vl l=n at *;clear h hr hl;go_enter func174,ntmps174;go_wp2_with fail;refine (HB.o _ (((AK.refl _ w).alloc _).alloc _)).mono ?_;rintro r w1 ⟨v1,rfl,h1,hx1⟩;obtain⟨rb,hrb⟩:=bN (w.heap.size+1);have hb1:=(AR (W:=w.alloc (.cells #[.bool neg,.slice ao m c] 32)) (k:=rb) (by simp;omega) false none 0 0).ext hx1 id;have hX1:=(((AK.refl (fun _=>False) w).alloc _).alloc _).trans hx1;obtain⟨neg1,so,sn,sc,rfl⟩:=h1.shape;obtain⟨f0,f1,f2,f3⟩:=hb1.facts;have hp:=hb1.put (neg:=neg1) (AF so sn sc);have HR:=bH (bI (hp.int h1) (bI (hX1.own hp.ext (fun k e=>by omega)) hp.box));clear hp h1 hx1 hX1 hb1 HB;rw[hrb];go_wp2;generalize (w1.setCell ⟨rb,0,none⟩ (.bool neg1)).setCell ⟨rb,1,none⟩ (.slice so sn sc)=w9 at *;obtain⟨g0,g1,_⟩:=HR.o.2.2.facts;exact bodyPost_ret (v:=.agg #[.bool neg1,.slice so sn sc]) (by simp[results,results174,go_sem,g0,g1]) rfl ⟨_,rfl,HR.o.1,HR.o.2.1⟩
theorem Oe(w:World) (neg neg':Bool) (ao ao':Option Addr) (m c m' c':Nat) (l l':List Nat) (h:Ad w (.slice ao m c) l) (h':Ad w (.slice ao' m' c') l') (hl:l.length<=268435455) (hl':l'.length<=268435455) :
  Calls prog 48 #[.agg #[.bool neg,.slice ao m c],.agg #[.bool neg',.slice ao' m' c']] w fun r w'=>r=.returned (.bool (neg == neg'&&decide (l=l')))/\XF w w':=by
 have HS:=bH (fun W (hW:XF w W)=>K7 W _ _ l l' (h.keep hW) (h'.keep hW) (by omega) (by omega));generalize decide (l=l')=D at *;clear h h' hl hl';by_cases hn:neg=neg'
 ·subst hn;rw[beq_self_eq_true,Bool.true_and];go_enter func48,ntmps48;go_wp2_with fail;refine (HS.o _ (((AK.refl _ w).alloc _).alloc _)).mono ?_;rintro r w1 ⟨rfl,hx1⟩;have HX:=bH ((((AK.refl (fun _=>False) w).alloc _).alloc _).trans hx1);clear hx1 HS;go_wp2;go_ret;exact⟨rfl,HX.o⟩
 have hb:(neg == neg')=false:=(by simpa using hn);rw[hb,Bool.false_and];clear hn HS;go_enter func48,ntmps48;go_wp2;go_ret;exact⟨rfl,((AK.refl _ w).alloc _).alloc _⟩
theorem PV(w:World) (v:Value) (z:Int) (L:Nat) (h:Bf w v z L) (hL:L<=268435455) :
  Calls prog 141 #[v] w fun r w'=>r=.returned (.int .i64 z.sign)/\XF w w':=by
 have HF:=bH (fun W (hW:XF w W)=>EN W v z L (h.keep hW) hL);obtain⟨neg,ao,m,c,l,rfl,hr,hl,rfl⟩:=h.open;generalize sg neg (vl l)=z at *;obtain⟨S,hS⟩:=bN z.sign;rw[hS];have HSS:=bH hS;clear h hr hl hS;go_enter func141,ntmps141;go_wp2_with fail;refine (HF.o _ ((AK.refl _ w).alloc _)).mono ?_;rintro r w1 ⟨v1,rfl,h1,hx1⟩;have hb1:=(AR (W:=w) rfl neg ao m c).ext hx1 id;have hX1:=((AK.refl (fun _=>False) w).alloc _).trans hx1;obtain⟨mag,hv,hm⟩:=h1;obtain⟨so,sc,rfl⟩:=hm.shape;subst hv;obtain⟨f0,f1,f2,f3⟩:=hb1.facts;have hp:=hb1.put (neg:=decide (z<0)) (AF so (dg z.natAbs).length sc);have HR:=bH (bI (hX1.own hp.ext (fun k e=>by omega)) hp.box);obtain⟨k,hk⟩:=bN ((dg z.natAbs).length);have hk0:k=0↔z=0:=by
  rw[<- hk];constructor
  ·intro h;have:=DN.1 (List.eq_nil_of_length_eq_zero h);omega
  rintro rfl;rw[show (0:Int).natAbs=0 from rfl,Bo];rfl
 obtain⟨s,hs⟩:=bN (decide (z<0));rw[hk,hs] at HR ⊢;have Hs:=bH hs;clear hp hx1 hX1 hb1 HF hm hk hs;obtain⟨W9,hW9⟩:=bN ((w1.setCell ⟨w.heap.size,0,none⟩ (.bool s)).setCell ⟨w.heap.size,1,none⟩ (.slice so k sc));go_upto_region 2 with fail;rw[hW9] at HR;obtain⟨g0,g1,_⟩:=HR.o.2.facts;clear hW9 f0 f1 f2 f3;by_cases h0:k=0
 ·subst h0;have hz:z=0:=hk0.1 rfl;subst hz;obtain rfl:S=0:=HSS.o.symm;clear hk0;go_wp2;go_ret;exact⟨rfl,HR.o.1⟩
 have hk1:¬(k:Int)=0:=(by omega);have hkb:((k:Int) == 0)=false:=(by simpa using hk1);have hz:¬z=0:=fun e=>h0 (hk0.2 e);clear hk0;by_cases hn:z<0
 ·have hsv:s=true:=(by rw[<- Hs.o];exact decide_eq_true hn);subst hsv;obtain rfl:S = -1:=(by rw[<- HSS.o];exact Int.sign_eq_neg_one_of_neg hn);clear hn hz;go_wp2;go_ret;exact⟨rfl,HR.o.1⟩
 have hsv:s=false:=(by rw[<- Hs.o];exact decide_eq_false hn);subst hsv;obtain rfl:S=1:=(by rw[<- HSS.o];exact Int.sign_eq_one_of_pos (by omega));clear hn hz;go_wp2;go_ret;exact⟨rfl,HR.o.1⟩
theorem PT(w:World) (k:Int) (h0:-9223372036854775808<=k) (h1:k<=9223372036854775807) :
  Calls prog 73 #[.int .i64 k] w (DK w k):=by
 by_cases hk:k<0
 ·obtain⟨n,hn⟩:∃n:Nat,k = -((n:Int)+1):=⟨k.natAbs-1,by omega⟩;have hnl:n<9223372036854775808:=(by omega);have HF:=bH (fun W=>L8 W n (by omega));have HA:=bH (fun W u u' h h'=>OP W u u' (dg n) [1] h h' (Nat.le_trans (GL (n:=n) (by omega)).1 (by decide)) (by simp));rw[At,show vl [1]=1 from rfl] at HA;have HS:=bH (fun W v h=>D9 W true v (dg (n+1)) h (Nat.le_trans (GL (n:=n+1) (by omega)).1 (by decide)));have hz:sg true (n+1)=k:=(by unfold sg;simp;omega);rw[At,hz] at HS;have q0:k+1 = -(n:Int):=(by omega);have q1:-(-(n:Int))=n:=(by omega);have q2:IntKind.u64.wrap (n:Int)=n:=(by rw[EJ];omega);have q3:IntKind.i64.wrap (-(n:Int)) = -n:=IntWalk.i64_in _ (by omega);have q4:IntKind.i64.wrap (n:Int)=n:=IntWalk.i64_in _ (by omega);clear hz hn;go_enter func73,ntmps73;go_wp2_with fail;refine (HF.o _).mono ?_;rintro r w1 ⟨v1,rfl,h1,hx1⟩;have hx2:XF w1 (w1.alloc (.cells #[.int .u32 1] 135)):=(AK.refl _ w1).alloc _;have hr2:Ad (w1.alloc (.cells #[.int .u32 1] 135)) (.slice (some ⟨w1.heap.size,0,none⟩) 1 1) [1]:=by
   refine⟨Bj.cons (by omega) Bj.nil,_,1,rfl,Nat.le_refl _,by unfold maxLen;omega,fun h=>(by cases h),fun _=>⟨_,0,rfl,by simp,fun i d hi=>?_⟩⟩;have:=Be (w:=w1) [.int .u32 1] 135 rfl i (dv d) (by
    match i,hi with
    | 0,hi=>simp at hi ⊢;subst hi;rfl
    | i+1,hi=>simp at hi)
   rwa [Addr.add_lit] at this
  have HA1:=bH (HA.o _ _ _ (h1.keep hx2) hr2);obtain⟨ao,c,rfl⟩:=h1.shape;have hb0:=(AR (W:=w) rfl false none 0 0).ext (hx1.trans hx2) id;have HB0:=bH (bI hb0 (((AK.refl (fun _=>False) w).alloc (.cells #[.bool false,.slice none 0 0] 32)).trans (hx1.trans hx2)));clear hb0 h1 hx1 hx2 hr2 HF HA;go_wp2_with fail;refine HA1.o.mono ?_;rintro r w2 ⟨v2,rfl,h2,hx2⟩;have HS1:=bH (HS.o w2 v2 h2);obtain⟨ao2,c2,rfl⟩:=h2.shape;have HB1:=bH (bI (HB0.o.1.ext hx2 id) (HB0.o.2.trans hx2));clear h2 hx2 HS HB0 HA1;go_wp2_with fail;refine HS1.o.mono ?_;rintro r w3 ⟨v3,rfl,h3,hx3⟩;have hb3:=HB1.o.1.ext hx3 id;obtain⟨f0,f1,f2,f3⟩:=hb3.facts;obtain⟨neg,so,sn,sc,rfl⟩:=h3.shape;have hp:=hb3.put (neg:=neg) (AF so sn sc);have HR:=bH (bI (hp.int h3) (bI ((HB1.o.2.trans hx3).own hp.ext (fun k e=>by omega)) hp.box));clear hb3 h3 hx3 hp HS1 HB1;go_wp2;generalize (w3.setCell ⟨w.heap.size,0,none⟩ (.bool neg)).setCell ⟨w.heap.size,1,none⟩ (.slice so sn sc)=w9 at *;obtain⟨g0,g1,_⟩:=HR.o.2.2.facts;exact bodyPost_ret (v:=.agg #[.bool neg,.slice so sn sc]) (by simp[results,results73,go_sem,g0,g1]) rfl ⟨_,rfl,HR.o.1,HR.o.2.1⟩
 obtain⟨n,hn⟩:∃n:Nat,k=(n:Int):=⟨k.natAbs,by omega⟩;have hnl:n<9223372036854775808:=(by omega);have HF:=bH (fun W=>L8 W n (by omega));have HS:=bH (fun W v h=>D9 W false v (dg n) h (Nat.le_trans (GL (n:=n) (by omega)).1 (by decide)));have hz:sg false n=k:=(by unfold sg;simp[hn]);rw[At,hz] at HS;have q2:IntKind.u64.wrap (n:Int)=n:=(by rw[EJ];omega);subst hn;clear hz;go_enter func73,ntmps73;go_wp2_with fail;refine (HF.o _).mono ?_;rintro r w1 ⟨v1,rfl,h1,hx1⟩;have HS1:=bH (HS.o w1 v1 h1);obtain⟨ao,c,rfl⟩:=h1.shape;have HB1:=bH (bI ((AR (W:=w) rfl false none 0 0).ext hx1 id) (((AK.refl (fun _=>False) w).alloc (.cells #[.bool false,.slice none 0 0] 32)).trans hx1));clear h1 hx1 HF HS;go_wp2_with fail;refine HS1.o.mono ?_;rintro r w3 ⟨v3,rfl,h3,hx3⟩;have hb3:=HB1.o.1.ext hx3 id;obtain⟨f0,f1,f2,f3⟩:=hb3.facts;obtain⟨neg,so,sn,sc,rfl⟩:=h3.shape;have hp:=hb3.put (neg:=neg) (AF so sn sc);have HR:=bH (bI (hp.int h3) (bI ((HB1.o.2.trans hx3).own hp.ext (fun k e=>by omega)) hp.box));clear hb3 h3 hx3 hp HS1 HB1;go_wp2;generalize (w3.setCell ⟨w.heap.size,0,none⟩ (.bool neg)).setCell ⟨w.heap.size,1,none⟩ (.slice so sn sc)=w9 at *;obtain⟨g0,g1,_⟩:=HR.o.2.2.facts;exact bodyPost_ret (v:=.agg #[.bool neg,.slice so sn sc]) (by simp[results,results73,go_sem,g0,g1]) rfl ⟨_,rfl,HR.o.1,HR.o.2.1⟩
def M9(wx:World) (b b':Nat) (z z':Int):Prop:=∃s a n c s' a' n' c',A1 wx b s (.slice a n c)/\A1 wx b' s' (.slice a' n' c')/\Ay wx (.agg #[.bool s,.slice a n c]) z/\Ay wx (.agg #[.bool s',.slice a' n' c']) z'
theorem Ay.rds{w:World} {s:Bool} {mag:Value} {z:Int} (h:Ay w (.agg #[.bool s,mag]) z):Ad w mag (dg z.natAbs)/\sg s z.natAbs=z:=by
 obtain⟨m,h1,h2⟩:=h;injection h1 with h1;simp at h1;obtain⟨rfl,rfl⟩:=h1;exact⟨h2,P9 z⟩
theorem FV(w:World) (v v':Value) (z z':Int) (L:Nat) (h:Bf w v z L) (h':Bf w v' z' L) (hL:L<=67108864) :
  Calls prog 132 #[v,v'] w (DK w (z*z')):=by
 have hlz:=h.len;have hlz':=h'.len;have HF1:=bH (fun W (hW:XF w W)=>EN W v z L (h.keep hW) (by omega));have HF2:=bH (fun W (hW:XF w W)=>EN W v' z' L (h'.keep hW) (by omega));have HL:=bH (bI hlz hlz');obtain⟨neg,ao,m,c,l,rfl,hr,hl,_⟩:=h.open;obtain⟨neg',ao',m',c',l',rfl,hr',hl',_⟩:=h'.open;clear hr hl hr' hl' h h' hlz hlz';go_enter func132,ntmps132;go_upto_region 0 with fail;go_cut [2,3,4] (fun v1 v2 v3 wx=>∃b b' r,v1=.pointer (some ⟨b,0,none⟩)/\v2=.pointer (some ⟨b',0,none⟩)/\v3=.pointer (some ⟨r,0,none⟩)/\A1 wx b neg (.slice ao m c)/\A1 wx b' neg' (.slice ao' m' c')/\A1 wx r false (.slice none 0 0)/\¬b=b'/\¬b=r/\¬b'=r/\w.heap.size<=b/\w.heap.size<=b'/\w.heap.size<=r/\XF w wx);case first =>
  go_wp2;go_meet;exact⟨_,_,_,rfl,rfl,rfl,((AR rfl neg ao m c).alloc _).alloc _,(AR (by simp) neg' ao' m' c').alloc _,AR (by simp) false none 0 0,(by omega),(by omega),(by omega),(by omega),(by omega),(by omega),(((AK.refl _ w).alloc _).alloc _).alloc _⟩
 case rest =>
  obtain⟨b,b',r,rfl,rfl,rfl,hb,hb',hrb,n0,n1,n2,le1,le2,hle,hx⟩:=hcut;obtain⟨c0,c1,_⟩:=hb.facts;obtain⟨e0,e1,_⟩:=hb'.facts;have HB:=bH (bI hb (bI hb' (bI hrb hx)));clear hb hb' hrb hx;go_upto_region 1 with fail;go_cut [] (fun wx=>M9 wx b b' z z'/\A1 wx r false (.slice none 0 0)/\XF w wx);case first =>
   go_region_law (first
    | (go_simp;go_at_call 99;(with_reducible refine (HF1.o _ ?_).mono ?_);(exact HB.o.2.2.2.drew);rintro r5 w5 ⟨v5,rfl,h5,hx5⟩;have hX5:=(AK.refl (fun _=>False) wc).drew.trans hx5;obtain⟨k0,k1,_⟩:=(HB.o.2.1.ext hX5 id).facts;obtain⟨s5,ao5,n5,k5,rfl⟩:=h5.shape)
    | (go_simp;go_at_call 99;(with_reducible refine (HF2.o _ ?_).mono ?_);(exact HB.o.2.2.2.trans hX5);rintro r6 w6 ⟨v6,rfl,h6,hx6⟩;have hX6:=hX5.trans hx6;obtain⟨d0,d1,d2,d3⟩:=(HB.o.1.ext hX6 id).facts;obtain⟨f0,f1,f2,f3⟩:=(HB.o.2.1.ext hX6 id).facts;obtain⟨s6,ao6,n6,k6,rfl⟩:=h6.shape))
   all_goals
    have hp1:=(HB.o.1.ext hX6 id).put (neg:=s5) (AF ao5 n5 k5)
    have hp2:=((HB.o.2.1.ext hX6 id).ext hp1.ext (fun e=>n0 e.symm)).put (neg:=s6) (AF ao6 n6 k6)
    have HR:Hid (_/\_/\_):=bH (bI (show M9 _ b b' z z' from⟨s5,ao5,n5,k5,s6,ao6,n6,k6,hp1.box.ext hp2.ext n0,hp2.box,hp2.int (hp1.int (h5.keep hx6)),hp2.int (hp1.int h6)⟩) (bI (((HB.o.2.2.1.ext hX6 id).ext hp1.ext (fun e=>n1 e.symm)).ext hp2.ext (fun e=>n2 e.symm)) (((HB.o.2.2.2.trans hX6).own hp1.ext (fun k e=>by omega)).own hp2.ext (fun k e=>by omega))))
    clear hp1 hp2 h5 h6 hx5 hx6 hX5 hX6 k0 k1 d0 d1 d2 d3 f0 f1 f2 f3
    go_wp2
    go_meet
    exact HR.o
  case rest =>
   obtain⟨⟨s,a1,m1,c1,s',a2,m2,c2,hb,hb',hi,hi'⟩,hrb,hx⟩:=hcut;obtain⟨hr,hz⟩:=hi.rds;obtain⟨hr',hz'⟩:=hi'.rds;have HA:=bH (fun W (hW:XF wc W)=>LA W _ _ _ _ (hr.keep hW) (hr'.keep hW) (by have:=HL.o;omega) (by have:=HL.o;omega));rw[At,At] at HA;obtain⟨sn0,hs⟩:=bN ((s != s'));have hs':(!(s == s'))=sn0:=hs;have hzz:sg sn0 (z.natAbs*z'.natAbs)=z*z':=(by rw[<- hs,Su,hz,hz']);have HS:=bH (fun W v (h:Ab W v (z.natAbs*z'.natAbs))=>D9 W sn0 v _ h (by have:=Bk (Nat.lt_of_lt_of_le (CP _) (An HL.o.1)) (Nat.lt_of_lt_of_le (CP _) (An HL.o.2));omega));rw[At,hzz] at HS;have hS:=FD.of hb hb';have HB:=bH (bI hb (bI hb' (bI hrb hx)));clear hb hb' hrb hx hi hi' hr hr' hz hz' hs hzz;generalize z*z'=Z at *;generalize z.natAbs*z'.natAbs=n at *;go_upto_region 2 with fail;go_region_held3 (FD b b' s s' (.slice a1 m1 c1) (.slice a2 m2 c2))
    (repeat (first|(with_reducible assumption)|(with_reducible refine FD.drew ?_)|(with_reducible refine FD.set ?_ _ _ ?_ ?_)|(dsimp only;omega)))
    (first
     | (go_at_call 185;(with_reducible refine (HA.o _ ?_).mono ?_);(exact (AK.refl _ wc).drew);rintro r5 w5 ⟨v5,rfl,h5,hx5⟩;have hX5:=(AK.refl (fun _=>False) wc).drew.trans hx5;have hS5:=HS.o w5 v5 h5;have hK5:=FD.of (HB.o.1.ext hX5 id) (HB.o.2.1.ext hX5 id);obtain⟨ao5,k5,rfl⟩:=h5.shape)
     | (go_at_call 137;(with_reducible refine hS5.mono ?_);rintro r6 w6 ⟨v6,rfl,h6,hx6⟩;have hX6:=hX5.trans hx6;have hr6:=HB.o.2.2.1.ext hX6 id;obtain⟨d0,d1,d2,d3⟩:=hr6.facts;have hK6:=FD.of (HB.o.1.ext hX6 id) (HB.o.2.1.ext hX6 id);obtain⟨neg6,so,sn,sc,rfl⟩:=h6.shape))
   all_goals
    have hp:=hr6.put (neg:=neg6) (AF so sn sc)
    have HR:=bH (bI (hp.int h6) (bI ((HB.o.2.2.2.trans hX6).own hp.ext (fun k e=>by omega)) hp.box))
    clear hp h5 h6 hX5 hX6 hr6 hx5 hx6 hS5 hK5 hK6 hS d0 d1 d2 d3
    generalize (w6.setCell ⟨r,0,none⟩ (.bool neg6)).setCell ⟨r,1,none⟩ (.slice so sn sc)=w9 at *
    obtain⟨g0,g1,_⟩:=HR.o.2.2.facts
    go_wp2
    exact bodyPost_ret (v:=.agg #[.bool neg6,.slice so sn sc]) (by simp[results,results132,go_sem,g0,g1]) rfl ⟨_,rfl,HR.o.1,HR.o.2.1⟩
theorem Qb(w:World) (v v':Value) (z z':Int) (L:Nat) (h:Bf w v z L) (h':Bf w v' z' L) (hL:L<=67108864) :
  Calls prog 131 #[v,v'] w (DK w (z+z')):=by
 have hlz:=h.len;have hlz':=h'.len;have HF1:=bH (fun W (hW:XF w W)=>EN W v z L (h.keep hW) (by omega));have HF2:=bH (fun W (hW:XF w W)=>EN W v' z' L (h'.keep hW) (by omega));have HL:=bH (bI hlz hlz');obtain⟨neg,ao,m,c,l,rfl,hr,hl,_⟩:=h.open;obtain⟨neg',ao',m',c',l',rfl,hr',hl',_⟩:=h'.open;clear hr hl hr' hl' h h' hlz hlz';go_enter func131,ntmps131;go_upto_region 0 with fail;go_cut [2,3,4] (fun v1 v2 v3 wx=>∃b b' r,v1=.pointer (some ⟨b,0,none⟩)/\v2=.pointer (some ⟨b',0,none⟩)/\v3=.pointer (some ⟨r,0,none⟩)/\A1 wx b neg (.slice ao m c)/\A1 wx b' neg' (.slice ao' m' c')/\A1 wx r false (.slice none 0 0)/\¬b=b'/\¬b=r/\¬b'=r/\w.heap.size<=b/\w.heap.size<=b'/\w.heap.size<=r/\XF w wx);case first =>
  go_wp2;go_meet;exact⟨_,_,_,rfl,rfl,rfl,((AR rfl neg ao m c).alloc _).alloc _,(AR (by simp) neg' ao' m' c').alloc _,AR (by simp) false none 0 0,(by omega),(by omega),(by omega),(by omega),(by omega),(by omega),(((AK.refl _ w).alloc _).alloc _).alloc _⟩
 case rest =>
  obtain⟨b,b',r,rfl,rfl,rfl,hb,hb',hrb,n0,n1,n2,le1,le2,hle,hx⟩:=hcut;obtain⟨c0,c1,_⟩:=hb.facts;obtain⟨e0,e1,_⟩:=hb'.facts;have HB:=bH (bI hb (bI hb' (bI hrb hx)));clear hb hb' hrb hx;go_upto_region 1 with fail;go_cut [] (fun wx=>M9 wx b b' z z'/\A1 wx r false (.slice none 0 0)/\XF w wx);case first =>
   go_region_law (first
    | (go_simp;go_at_call 99;(with_reducible refine (HF1.o _ ?_).mono ?_);(exact HB.o.2.2.2.drew);rintro r5 w5 ⟨v5,rfl,h5,hx5⟩;have hX5:=(AK.refl (fun _=>False) wc).drew.trans hx5;obtain⟨k0,k1,_⟩:=(HB.o.2.1.ext hX5 id).facts;obtain⟨s5,ao5,n5,k5,rfl⟩:=h5.shape)
    | (go_simp;go_at_call 99;(with_reducible refine (HF2.o _ ?_).mono ?_);(exact HB.o.2.2.2.trans hX5);rintro r6 w6 ⟨v6,rfl,h6,hx6⟩;have hX6:=hX5.trans hx6;obtain⟨d0,d1,d2,d3⟩:=(HB.o.1.ext hX6 id).facts;obtain⟨f0,f1,f2,f3⟩:=(HB.o.2.1.ext hX6 id).facts;obtain⟨s6,ao6,n6,k6,rfl⟩:=h6.shape))
   all_goals
    have hp1:=(HB.o.1.ext hX6 id).put (neg:=s5) (AF ao5 n5 k5)
    have hp2:=((HB.o.2.1.ext hX6 id).ext hp1.ext (fun e=>n0 e.symm)).put (neg:=s6) (AF ao6 n6 k6)
    have HR:Hid (_/\_/\_):=bH (bI (show M9 _ b b' z z' from⟨s5,ao5,n5,k5,s6,ao6,n6,k6,hp1.box.ext hp2.ext n0,hp2.box,hp2.int (hp1.int (h5.keep hx6)),hp2.int (hp1.int h6)⟩) (bI (((HB.o.2.2.1.ext hX6 id).ext hp1.ext (fun e=>n1 e.symm)).ext hp2.ext (fun e=>n2 e.symm)) (((HB.o.2.2.2.trans hX6).own hp1.ext (fun k e=>by omega)).own hp2.ext (fun k e=>by omega))))
    clear hp1 hp2 h5 h6 hx5 hx6 hX5 hX6 k0 k1 d0 d1 d2 d3 f0 f1 f2 f3
    go_wp2
    go_meet
    exact HR.o
  case rest =>
   obtain⟨⟨s,a1,m1,c1,s',a2,m2,c2,hb,hb',hi,hi'⟩,hrb,hx⟩:=hcut;obtain⟨hr,hz⟩:=hi.rds;obtain⟨hr',hz'⟩:=hi'.rds;have hlz:=HL.o.1;have hlz':=HL.o.2;have hS2:=fun n (h:n<=max z.natAbs z'.natAbs)=>Km h (Nat.lt_of_lt_of_le (CP z.natAbs) (An hlz)) (Nat.lt_of_lt_of_le (CP z'.natAbs) (An hlz'));have hln:=IP (Nat.lt_of_lt_of_le (CP z.natAbs) (An hlz)) (Nat.lt_of_lt_of_le (CP z'.natAbs) (An hlz'));have HA:=bH (fun W (hW:XF wc W)=>OP W _ _ _ _ (hr.keep hW) (hr'.keep hW) (by omega) (by omega));have HC:=bH (KT wc _ _ _ _ hr hr' (by omega) (by omega));have HD:=bH (fun W (h1:Ad W (.slice a1 m1 c1) (dg z.natAbs)) (h2:Ad W (.slice a2 m2 c2) (dg z'.natAbs)) (h:z'.natAbs<=z.natAbs)=>Kh W _ _ _ _ h1 h2 (by omega) (by omega) (by rw[At,At];exact h));have HD':=bH (fun W (h1:Ad W (.slice a1 m1 c1) (dg z.natAbs)) (h2:Ad W (.slice a2 m2 c2) (dg z'.natAbs)) (h:z.natAbs<=z'.natAbs)=>Kh W _ _ _ _ h2 h1 (by omega) (by omega) (by rw[At,At];exact h));unfold KL at HD HD';simp only[At] at HA HC HD HD';have hS0:∀W s v n (h:Ab W v n),(n<=max z.natAbs z'.natAbs∨n=z.natAbs+z'.natAbs)->Calls prog 137 #[.bool s,v] W (DK W (sg s n)):=fun W s v n h hn=>by
    have:=D9 W s v _ h (by
     rcases hn with hn|rfl
     ·have:=hS2 n hn;omega
     omega)
    rwa [At] at this
   have HS:=bH hS0;have HZ:Hid (sg s z.natAbs+sg s' z'.natAbs=z+z'):=bH (by rw[hz,hz']);have HR0:=bH (bI hr hr');have hS:=FD.of hb hb';obtain⟨c0,c1',_⟩:=hb.facts;obtain⟨e0,e1,_⟩:=hb'.facts;have HB:=bH (bI hb (bI hb' (bI hrb hx)));clear hz hz' hi hi' hln hS2 hS0 hlz hlz' hb hb' hrb hx hr hr';generalize z+z'=Z at *;generalize z.natAbs=x at *;generalize z'.natAbs=y at *;by_cases hn:s=s'
   ·subst hn;have HS1:=bH (fun W v h=>HS.o W s v (x+y) h (.inr rfl));rw[ST,HZ.o] at HS1;go_upto_region 3 with fail;go_region_held3 (FD b b' s s (.slice a1 m1 c1) (.slice a2 m2 c2))
     (repeat (first|(with_reducible assumption)|(with_reducible refine FD.drew ?_)|(with_reducible refine FD.set ?_ _ _ ?_ ?_)|(dsimp only;omega)))
     (first
      | (go_at_call 138;(with_reducible refine (HA.o _ ?_).mono ?_);(exact (AK.refl _ wc).drew);rintro r5 w5 ⟨v5,rfl,h5,hx5⟩;have hX5:=(AK.refl (fun _=>False) wc).drew.trans hx5;have hS5:=HS1.o w5 v5 h5;have hK5:=FD.of (HB.o.1.ext hX5 id) (HB.o.2.1.ext hX5 id);obtain⟨ao5,k5,rfl⟩:=h5.shape)
      | (go_at_call 137;(with_reducible refine hS5.mono ?_);rintro r6 w6 ⟨v6,rfl,h6,hx6⟩;have hX6:=hX5.trans hx6;have hr6:=HB.o.2.2.1.ext hX6 id;obtain⟨d0,d1,d2,d3⟩:=hr6.facts;have hK6:=FD.of (HB.o.1.ext hX6 id) (HB.o.2.1.ext hX6 id);obtain⟨neg6,so,sn,sc,rfl⟩:=h6.shape))
    all_goals
     have hp:=hr6.put (neg:=neg6) (AF so sn sc)
     have HR:=bH (bI (hp.int h6) (bI ((HB.o.2.2.2.trans hX6).own hp.ext (fun k e=>by omega)) hp.box))
     clear hp h5 h6 hX5 hX6 hr6 hx5 hx6 hS5 hK5 hK6 hS d0 d1 d2 d3
     generalize (w6.setCell ⟨r,0,none⟩ (.bool neg6)).setCell ⟨r,1,none⟩ (.slice so sn sc)=w9 at *
     obtain⟨g0,g1,_⟩:=HR.o.2.2.facts
     go_wp2
     exact bodyPost_ret (v:=.agg #[.bool neg6,.slice so sn sc]) (by simp[results,results131,go_sem,g0,g1]) rfl ⟨_,rfl,HR.o.1,HR.o.2.1⟩
   have hne:(s == s')=false:=(by simpa using hn);clear hS;by_cases hxy:x<y
   ·have e:CA x y = -1:=(by unfold CA;rw[if_pos hxy]);rw[e] at HC;have HS1:=bH (fun W v h=>HS.o W s' v (y-x) h (.inl (by omega)));rw[Mw s' s y x (by omega) (fun h=>hn h.symm),Int.add_comm,HZ.o] at HS1;have Hxy:=bH hxy;clear e hn hxy;go_wp2_with fail;refine HC.o.mono ?_;rintro r7 w2 ⟨rfl,hx2⟩;obtain⟨c0,c1',c2',c3⟩:=(HB.o.1.ext hx2 id).facts;obtain⟨e0,e1,e2,e3⟩:=(HB.o.2.1.ext hx2 id).facts;have HX2:=bH hx2;clear hx2 HC;go_upto_region 5 with fail;go_cut [] (fun wx=>A1 wx b s' (.slice a2 m2 c2)/\A1 wx b' s (.slice a1 m1 c1)/\A1 wx r false (.slice none 0 0)/\Ad wx (.slice a1 m1 c1) (dg x)/\Ad wx (.slice a2 m2 c2) (dg y)/\XF w wx);case first =>
     go_wp2;go_meet;have hp1:=(HB.o.1.ext HX2.o id).put (neg:=s') (AF a2 m2 c2);have hp2:=((HB.o.2.1.ext HX2.o id).ext hp1.ext (fun e=>n0 e.symm)).put (neg:=s) (AF a1 m1 c1);exact⟨hp1.box.ext hp2.ext n0,hp2.box,((HB.o.2.2.1.ext HX2.o id).ext hp1.ext (fun e=>n1 e.symm)).ext hp2.ext (fun e=>n2 e.symm),hp2.rds _ _ (hp1.rds _ _ (HR0.o.1.keep HX2.o)),hp2.rds _ _ (hp1.rds _ _ (HR0.o.2.keep HX2.o)),((HB.o.2.2.2.trans HX2.o).own hp1.ext (fun k e=>by omega)).own hp2.ext (fun k e=>by omega)⟩
    case rest =>
     obtain⟨hb,hb',hrb,hr1,hr2,hx⟩:=hcut;have HD1:=bH (HD'.o wc hr1 hr2 (Nat.le_of_lt Hxy.o));obtain⟨c0,c1',_⟩:=hb.facts;obtain⟨e0,e1,_⟩:=hb'.facts;have HB':=bH (bI hb (bI hrb hx));clear hb hb' hrb hx;go_wp2_with fail;refine HD1.o.mono ?_;rintro r7 w7 ⟨v7,rfl,h7,hx7,_⟩;have HS7:=bH (HS1.o w7 v7 h7);obtain⟨c07,c17,_⟩:=(HB'.o.1.ext hx7 id).facts;have HB7:=bH (bI (HB'.o.2.1.ext hx7 id) (HB'.o.2.2.trans hx7));obtain⟨ao7,k7,rfl⟩:=h7.shape;clear h7 hx7;go_wp2_with fail;refine HS7.o.mono ?_;rintro r8 w6 ⟨v6,rfl,h6,hx6⟩;have hr6:=HB7.o.1.ext hx6 id;obtain⟨d0,d1,d2,d3⟩:=hr6.facts;have hX6:=HB7.o.2.trans hx6;obtain⟨neg6,so,sn,sc,rfl⟩:=h6.shape;have hp:=hr6.put (neg:=neg6) (AF so sn sc);have HR:=bH (bI (hp.int h6) (bI (hX6.own hp.ext (fun k e=>by omega)) hp.box));clear hp h6 hX6 hr6 hx6;go_wp2;generalize (w6.setCell ⟨r,0,none⟩ (.bool neg6)).setCell ⟨r,1,none⟩ (.slice so sn sc)=w9 at *;obtain⟨g0,g1,_⟩:=HR.o.2.2.facts;exact bodyPost_ret (v:=.agg #[.bool neg6,.slice so sn sc]) (by simp[results,results131,go_sem,g0,g1]) rfl ⟨_,rfl,HR.o.1,HR.o.2.1⟩
   have e:¬CA x y<0:=(by unfold CA;rw[if_neg hxy];split<;>omega);have e':0<=CA x y:=(by omega);generalize hq:CA x y=cq at *;have HS1:=bH (fun W v h=>HS.o W s v (x-y) h (.inl (by omega)));rw[Mw s s' x y (by omega) hn,HZ.o] at HS1;have Hxy:=bH hxy;clear hq hn hxy e;go_wp2_with fail;refine HC.o.mono ?_;rintro r7 w2 ⟨rfl,hx2⟩;have hb:=HB.o.1.ext hx2 id;have hb':=HB.o.2.1.ext hx2 id;have hrb:=HB.o.2.2.1.ext hx2 id;have hx:=HB.o.2.2.2.trans hx2;have HD1:=bH (HD.o w2 (HR0.o.1.keep hx2) (HR0.o.2.keep hx2) (Nat.le_of_not_lt Hxy.o));clear hx2 HC;obtain⟨c0,c1',_⟩:=hb.facts;obtain⟨e0,e1,_⟩:=hb'.facts;have HB':=bH (bI hb (bI hrb hx));clear hb hb' hrb hx;go_wp2_with fail;refine HD1.o.mono ?_;rintro r7 w7 ⟨v7,rfl,h7,hx7,_⟩;have HS7:=bH (HS1.o w7 v7 h7);obtain⟨c07,c17,_⟩:=(HB'.o.1.ext hx7 id).facts;have HB7:=bH (bI (HB'.o.2.1.ext hx7 id) (HB'.o.2.2.trans hx7));obtain⟨ao7,k7,rfl⟩:=h7.shape;clear h7 hx7;go_wp2_with fail;refine HS7.o.mono ?_;rintro r8 w6 ⟨v6,rfl,h6,hx6⟩;have hr6:=HB7.o.1.ext hx6 id;obtain⟨d0,d1,d2,d3⟩:=hr6.facts;have hX6:=HB7.o.2.trans hx6;obtain⟨neg6,so,sn,sc,rfl⟩:=h6.shape;have hp:=hr6.put (neg:=neg6) (AF so sn sc);have HR:=bH (bI (hp.int h6) (bI (hX6.own hp.ext (fun k e=>by omega)) hp.box));clear hp h6 hX6 hr6 hx6;go_wp2;generalize (w6.setCell ⟨r,0,none⟩ (.bool neg6)).setCell ⟨r,1,none⟩ (.slice so sn sc)=w9 at *;obtain⟨g0,g1,_⟩:=HR.o.2.2.facts;exact bodyPost_ret (v:=.agg #[.bool neg6,.slice so sn sc]) (by simp[results,results131,go_sem,g0,g1]) rfl ⟨_,rfl,HR.o.1,HR.o.2.1⟩
theorem VD:dg 1=[1]:=by rw[EU (by omega)];simp[Bo]
theorem QB(w:World):Ad (w.alloc (.cells #[.int .u32 1] 135)) (.slice (some ⟨w.heap.size,0,none⟩) 1 1) [1]:=by
 refine⟨Bj.cons (by omega) Bj.nil,_,1,rfl,Nat.le_refl _,by unfold maxLen;omega,fun h=>(by cases h),fun _=>⟨_,0,rfl,by simp,fun i d hi=>?_⟩⟩;have:=Be (w:=w) [.int .u32 1] 135 rfl i (dv d) (by
  match i,hi with
  | 0,hi=>simp at hi ⊢;subst hi;rfl
  | i+1,hi=>simp at hi)
 rwa [Addr.add_lit] at this
theorem EK(w:World) (neg:Bool) (ao:Option Addr) (m c:Nat) (ao':Option Addr) (m' c':Nat) (d:List Nat)
  (h:Ad w (.slice ao' m' c') d) (hl:d.length<=268435455) :
  Calls prog 51 #[.agg #[.bool neg,.slice ao m c,.slice ao' m' c']] w (BO w (dn (vl d))):=by
 have HT:=bH (fun W (hW:XF w W)=>DZ W _ d (h.keep hW) (by omega));generalize vl d=n at *;clear h hl;go_enter func51,ntmps51;go_wp2_with fail;refine (HT.o _ ((AK.refl _ w).alloc _)).mono ?_;rintro r w1 ⟨v1,rfl,h1,hx1⟩;have hX:=((AK.refl (fun _=>False) w).alloc _).trans hx1;obtain⟨ao1,c1,rfl⟩:=h1.shape;by_cases h0:n=0
 ·subst h0;have HP:Hid (BO w (dn 0) (.returned (.slice (some ⟨w1.heap.size,0,none⟩) 1 1)) (w1.alloc (.cells #[.int .u32 1] 135))):=bH ⟨_,rfl,by unfold Ab;rw[show dn 0=1 from rfl,VD];exact QB w1,hX.alloc _⟩;rw[Bo] at h1 ⊢;clear h1 hx1 hX HT;simp only[List.length_nil];go_wp2;go_ret;exact HP.o
 have hk:¬((dg n).length:Int)=0:=fun h=>h0 (DN.1 (List.eq_nil_of_length_eq_zero (by omega)));have HP:Hid (BO w (dn n) (.returned (.slice ao1 (dg n).length c1)) w1):=bH ⟨_,rfl,by unfold dn;rw[if_neg h0];exact h1,hX⟩;clear h1 hx1 hX HT;generalize (dg n).length=k at *;go_wp2;go_ret;exact HP.o
theorem TX{z:Int} {y:Nat} (hy:0<y):sg (decide (z<0)) (z.natAbs/Nat.gcd z.natAbs y)=(mkRat z y).num/\y/Nat.gcd z.natAbs y=(mkRat z y).den:=by
 have hg:0<Nat.gcd z.natAbs y:=Nat.gcd_pos_of_pos_right _ hy;obtain⟨h1,h2⟩:=Mb (z:=z) hy;refine⟨?_,?_⟩
 ·rw[<- h1,<- QF,Int.natAbs_natCast];congr 1;rw[C7 hg,Int.mul_one];by_cases hz:z<0
  ·rw[Int.sign_eq_neg_one_of_neg hz];simp[hz]
  have:¬z.sign<0:=by
   rcases Int.lt_or_eq_of_le (Int.not_lt.1 hz) with h|h
   ·rw[Int.sign_eq_one_of_pos h];omega
   rw[<- h];decide
  rw[decide_eq_false hz,decide_eq_false this]
 rw[Ib] at h2;omega
theorem EO(w:World) (v:Value) (z:Int) (y L:Nat) (u:Value) (h:Bf w v z L) (hu:Ab w u y) (hy:0<y) (hL:L<=67108864) (hul:(dg y).length<=67108864) :
  Calls prog 50 #[v,u] w (Aw w (mkRat z y)):=by
 have hlz:=h.len;obtain⟨hq1,hq2⟩:=TX (z:=z) hy;have hg:0<Nat.gcd z.natAbs y:=Nat.gcd_pos_of_pos_right _ hy;have hgl:(dg (Nat.gcd z.natAbs y)).length<=67108864:=Nat.le_trans (Bu (Nat.gcd_le_right _ hy)) hul;have HF:=bH (fun W (hW:XF w W)=>EN W v z L (h.keep hW) (by omega));have HG:=bH (fun W a b (ha:Ab W a z.natAbs) (hb:Ab W b y)=>TB W a b _ _ ha hb (by omega) (by omega));have HD1:=bH (fun W a b (ha:Ab W a z.natAbs) (hb:Ab W b (Nat.gcd z.natAbs y))=>Gc W a b _ _ ha hb (by omega) (by omega) (by rw[At];omega));have HD2:=bH (fun W a b (ha:Ab W a y) (hb:Ab W b (Nat.gcd z.natAbs y))=>Gc W a b _ _ ha hb (by omega) (by omega) (by rw[At];omega));unfold LE at HD1 HD2;simp only[At] at HG HD1 HD2;have hml:(dg (z.natAbs/Nat.gcd z.natAbs y)).length<=67108864:=Nat.le_trans (Bu (Nat.div_le_self _ _)) (by omega);have hdl:(dg (y/Nat.gcd z.natAbs y)).length<=67108864:=Nat.le_trans (Bu (Nat.div_le_self _ _)) hul;have HF2:=bH (fun W a (ha:Ab W a (z.natAbs/Nat.gcd z.natAbs y))=>EN W (.agg #[.bool (decide (z<0)),a]) (sg (decide (z<0)) (z.natAbs/Nat.gcd z.natAbs y)) 67108864 ⟨_,a,_,rfl,ha,hml,by rw[At]⟩ (by omega));rw[hq1] at HF2;rw[hq2] at HD2 hdl;have HS:=bH (fun W a b (ha:Ab W a (mkRat z y).den) (hb:Ad W b [1])=>K7 W a b _ _ ha hb (by omega) (by simp));generalize Nat.gcd z.natAbs y=g at *;obtain⟨q,hq⟩:=bN (mkRat z y);rw[hq] at HF2 HD2 HS ⊢;obtain⟨neg,ao,m,c,l,rfl,_,_,_⟩:=h.open;obtain⟨uo,uc,rfl⟩:=hu.shape;have Hu:=bH hu;clear h hu hg hgl hq1 hq2 hlz hml hdl hq hul;generalize (dg y).length=ly at *;generalize hX:z.natAbs=X at *;generalize X/g=X2 at *;generalize X%g=X3 at *;generalize y%g=X4 at *;have HX:=bH hX;clear hX;obtain⟨sz,hsz⟩:=bN (decide (z<0));rw[hsz] at HF2;have Hsz:=bH hsz;clear hsz;go_enter func50,ntmps50;go_upto_region 0 with fail;go_cut [2,4] (fun v2 v4 wx=>∃b r,v2=.pointer (some ⟨b,0,none⟩)/\v4=.pointer (some ⟨r,0,none⟩)/\A1 wx b neg (.slice ao m c)/\Aj wx r false (.slice none 0 0) (.slice none 0 0)/\¬b=r/\w.heap.size<=b/\w.heap.size<=r/\XF w wx);case first =>
  go_wp2;go_meet;exact⟨_,_,rfl,rfl,(AR rfl neg ao m c).alloc _,AO (by simp) false none 0 0 none 0 0,(by omega),(by omega),(by omega),((AK.refl _ w).alloc _).alloc _⟩
 case rest =>
  obtain⟨b,r,rfl,rfl,hb,hrb,n1,le1,le2,hx⟩:=hcut;obtain⟨c0,c1,c2,c3⟩:=hb.facts;have HB:=bH (bI hb (bI hrb hx));clear hb hrb hx;go_wp2_with fail;refine (HF.o _ HB.o.2.2).mono ?_;rintro r1 w1 ⟨v1,rfl,h1,hx1⟩;have hb1:=HB.o.1.ext hx1 id;obtain⟨c0,c1,c2,c3⟩:=hb1.facts;obtain⟨mag,hv,hm⟩:=h1;obtain⟨so,sc,rfl⟩:=hm.shape;subst hv;rw[HX.o] at hm ⊢;rw[Hsz.o];have hp:=hb1.put (neg:=sz) (AF so (dg X).length sc);have HI:=bH (bI hp.box (bI ((HB.o.2.1.ext hx1 id).ext hp.ext (fun e=>n1 e.symm)) (bI ((HB.o.2.2.trans hx1).own hp.ext (fun k e=>by omega)) (bI (hp.rds _ _ hm) (hp.rds _ _ (Hu.o.keep (HB.o.2.2.trans hx1)))))));generalize (dg X).length=lX at *;clear hp hb1 hm hx1 HB;go_upto_region 2 with fail;generalize (w1.setCell ⟨b,0,none⟩ (.bool sz)).setCell ⟨b,1,none⟩ (.slice so lX sc)=w2 at *;obtain⟨c0,c1,_⟩:=HI.o.1.facts;have HG2:=bH (HG.o w2 _ _ HI.o.2.2.2.1 HI.o.2.2.2.2);go_wp2_with fail;refine HG2.o.mono ?_;rintro r3 w3 ⟨vg,rfl,hg3,hx3⟩;obtain⟨c0,c1,_⟩:=(HI.o.1.ext hx3 id).facts;have HD3:=bH (HD1.o w3 _ _ (Ad.keep HI.o.2.2.2.1 hx3) hg3);have HX3:=bH (bI hx3 hg3);obtain⟨go,gc,rfl⟩:=hg3.shape;generalize (dg g).length=lg at *;clear hx3 hg3 HG2;go_wp2_with fail;refine HD3.o.mono ?_;rintro r4 w4 ⟨vm,vr,rfl,hm4,_,hx4⟩;have hX4:=HX3.o.1.trans hx4;have HD4:=bH (HD2.o w4 _ _ (Ad.keep HI.o.2.2.2.2 hX4) (HX3.o.2.keep hx4));have HX4:=bH (bI hX4 hm4);obtain⟨mo,mc,rfl⟩:=hm4.shape;clear hX4 hx4 hm4 HD3;go_wp2_with fail;refine HD4.o.mono ?_;rintro r5 w5 ⟨vd,vs,rfl,hd5,_,hx5⟩;have hX5:=HX4.o.1.trans hx5;have hx6:XF w5 (w5.alloc (.cells #[.int .u32 1] 135)):=(AK.refl _ w5).alloc _;have HS6:=bH (HS.o _ _ _ (hd5.keep hx6) (QB w5));obtain⟨dO,dc,rfl⟩:=hd5.shape;have HX5:=bH (bI (hX5.trans hx6) (bI (hd5.keep hx6) (HX4.o.2.keep (hx5.trans hx6))));clear hX5 hx5 hx6 hd5 HD4;have hd1:(decide (dg q.den=[1]))=decide (q.den=1):=by
   by_cases h:q.den=1
   ·rw[h,VD];rfl
   rw[decide_eq_false h];exact decide_eq_false (fun e=>h (by have:=congrArg vl e;rw[At] at this;simpa[vl] using this))
  rw[hd1] at HS6;clear hd1;generalize (dg q.den).length=ld at *;generalize (dg X2).length=lm at *;by_cases hden:q.den=1
  ·rw[decide_eq_true hden] at HS6;have Hden:=bH hden;clear hden;go_wp2_with fail;refine HS6.o.mono ?_;rintro r7 w7 ⟨rfl,hx7⟩;have hX7:=HX5.o.1.trans hx7;obtain⟨c0,c1,_⟩:=(HI.o.1.ext hX7 id).facts;have HF7:=bH (HF2.o w7 _ (HX5.o.2.2.keep hx7));have HX7:=bH hX7;clear hX7 hx7 HS6;go_wp2_with fail;refine HF7.o.mono ?_;rintro r8 w8 ⟨v8,rfl,h8,hx8⟩;obtain⟨n8,ao8,l8,c8,rfl⟩:=h8.shape;have hX8:=HX7.o.trans hx8;have hr8:=HI.o.2.1.ext hX8 id;obtain⟨d0,d1,d2,d3,d4,d5⟩:=hr8.facts;have hp:=hr8.put (neg:=n8) (AF ao8 l8 c8) (AF none 0 0);have hR0:AN w8 (.agg #[.bool n8,.slice ao8 l8 c8,.slice none 0 0]) q:=AN.mk h8 (by rw[Hden.o];exact Ab.nil w8);have HR:=bH (bI (hp.rat hR0) (bI ((HI.o.2.2.1.trans hX8).own hp.ext (fun k e=>by omega)) hp.box));clear hp hR0 h8 hr8 hX8 hx8;go_wp2;generalize ((w8.setCell ⟨r,0,none⟩ (.bool n8)).setCell ⟨r,1,none⟩ (.slice ao8 l8 c8)).setCell ⟨r,2,none⟩ (.slice none 0 0)=w9 at *;obtain⟨g0,g1,g2,_⟩:=HR.o.2.2.facts;exact bodyPost_ret (v:=.agg #[.bool n8,.slice ao8 l8 c8,.slice none 0 0]) (by simp[results,results50,go_sem,g0,g1,g2]) rfl ⟨_,rfl,HR.o.1,HR.o.2.1⟩
  rw[decide_eq_false hden] at HS6;have Hden:=bH hden;clear hden;go_wp2_with fail;refine HS6.o.mono ?_;rintro r7 w7 ⟨rfl,hx7⟩;have hX7:=HX5.o.1.trans hx7;obtain⟨c0,c1,_⟩:=(HI.o.1.ext hX7 id).facts;have HF7:=bH (HF2.o w7 _ (HX5.o.2.2.keep hx7));have HX7:=bH (bI hX7 (HX5.o.2.1.keep hx7));clear hX7 hx7 HS6;go_wp2_with fail;refine HF7.o.mono ?_;rintro r8 w8 ⟨v8,rfl,h8,hx8⟩;obtain⟨n8,ao8,l8,c8,rfl⟩:=h8.shape;have hX8:=HX7.o.1.trans hx8;have hr8:=HI.o.2.1.ext hX8 id;obtain⟨d0,d1,d2,d3,d4,d5⟩:=hr8.facts;have hp:=hr8.put (neg:=n8) (AF ao8 l8 c8) (AF dO ld dc);have hR0:AN w8 (.agg #[.bool n8,.slice ao8 l8 c8,.slice dO ld dc]) q:=AN.mk h8 (by unfold dw;rw[if_neg Hden.o];exact HX7.o.2.keep hx8);have HR:=bH (bI (hp.rat hR0) (bI ((HI.o.2.2.1.trans hX8).own hp.ext (fun k e=>by omega)) hp.box));clear hp hR0 h8 hr8 hX8 hx8;go_wp2;generalize ((w8.setCell ⟨r,0,none⟩ (.bool n8)).setCell ⟨r,1,none⟩ (.slice ao8 l8 c8)).setCell ⟨r,2,none⟩ (.slice dO ld dc)=w9 at *;obtain⟨g0,g1,g2,_⟩:=HR.o.2.2.facts;exact bodyPost_ret (v:=.agg #[.bool n8,.slice ao8 l8 c8,.slice dO ld dc]) (by simp[results,results50,go_sem,g0,g1,g2]) rfl ⟨_,rfl,HR.o.1,HR.o.2.1⟩
theorem MD(w:World) (v:Value) (q:Rat) (L:Nat) (h:BA w v q L) (h0:1<=L) (hL:L<=67108864) :
  Calls prog 17 #[v] w (Aw w (q)):=by
 obtain⟨n1,a1,l1,c1,x1,y1,k1,l,d,rfl,hr,hd,hm,hdl,hq⟩:=h.open;clear hm;have HD1:=bH (fun W (hW:XF w W)=>EK W n1 a1 l1 c1 x1 y1 k1 d (hd.keep hW) (by omega));have HRd:=bH (fun W (hW:XF w W) u' (hu':Ab W u' (dn (vl d)))=>EO W _ _ _ L u' (hr.keep hW) hu' (Br _) hL (Nat.le_trans (C5 hd hdl h0) hL));rw[<- hq] at HRd;clear hr hd hdl hq h;generalize dn (vl d)=D1 at *;go_enter func17,ntmps17;go_upto_region 0 with fail;go_cut [1,2] (fun v1 v3 wx=>∃b1 r,v1=.pointer (some ⟨b1,0,none⟩)/\v3=.pointer (some ⟨r,0,none⟩)/\Aj wx b1 n1 (.slice a1 l1 c1) (.slice x1 y1 k1)/\Aj wx r false (.slice none 0 0) (.slice none 0 0)/\b1<r/\w.heap.size<=r/\XF w wx);case first =>
  go_wp2;go_meet;exact⟨_,_,rfl,rfl,(AO rfl n1 a1 l1 c1 x1 y1 k1).alloc _,AO (by simp) false none 0 0 none 0 0,(by omega),(by omega),((AK.refl _ w).alloc _).alloc _⟩
 case rest =>
  obtain⟨b1,r,rfl,rfl,hb1,hrb,i1,hle,hx⟩:=hcut;have hS:=JA.of hb1;have HB:=bH (bI hb1 (bI hrb hx));clear hb1 hrb hx;go_upto_region 1 with fail;go_region_held3 (JA b1 n1 (.slice a1 l1 c1) (.slice x1 y1 k1))
   (repeat (first|(with_reducible assumption)|(with_reducible refine JA.drew ?_)|(with_reducible refine JA.set ?_ _ _ ?_)|(dsimp only;omega)))
   (first
    | (go_at_call 51;(with_reducible refine (HD1.o _ HB.o.2.2.drew).mono ?_);rintro q2 w12 ⟨v12,rfl,h12,hx12⟩;have hX2:=(AK.refl (fun _=>False) wc).drew.trans hx12;have hK2:=JA.of (HB.o.1.ext hX2 id);have hR:=HRd.o w12 (HB.o.2.2.trans hX2) _ h12;obtain⟨ag2,cg2,rfl⟩:=h12.shape)
    | (go_at_call 50;(with_reducible refine hR.mono ?_);rintro q4 w14 ⟨v14,rfl,h14,hx14⟩;have hX4:=hX2.trans hx14;have hK4:=JA.of (HB.o.1.ext hX4 id);have hr4:=HB.o.2.1.ext hX4 id;obtain⟨d0,d1,d2,d3,d4,d5⟩:=hr4.facts;obtain⟨ng,sa,sn,sc,ta,tn,tc,rfl⟩:=h14.shape))
  have hp:=hr4.put (neg:=ng) (AF sa sn sc) (AF ta tn tc);have HR:=bH (bI (hp.rat h14) (bI ((HB.o.2.2.trans hX4).own hp.ext (fun k e=>by omega)) hp.box));clear hp hr4 h14 hX4 h12 hx12 hx14 hX2 hK2 hK4 hR hS d0 d1 d2 d3 d4 d5;generalize ((w14.setCell ⟨r,0,none⟩ (.bool ng)).setCell ⟨r,1,none⟩ (.slice sa sn sc)).setCell ⟨r,2,none⟩ (.slice ta tn tc)=w20 at *;obtain⟨g0,g1,g2,_⟩:=HR.o.2.2.facts;go_wp2;exact bodyPost_ret (v:=.agg #[.bool ng,.slice sa sn sc,.slice ta tn tc]) (by simp[results,results17,go_sem,g0,g1,g2]) rfl ⟨_,rfl,HR.o.1,HR.o.2.1⟩
theorem L6(w:World) (v:Value) (q:Rat) (L:Nat) (h:BA w v q L) (h0:1<=L) (hL:L<=67108864) :
  Calls prog 143 #[v] w (Aw w (-q)):=by
 obtain⟨n1,a1,l1,c1,x1,y1,k1,l,d,rfl,hr,hd,hm,hdl,hq⟩:=h.open;clear hm;have HN:=bH (fun W (hW:XF w W)=>OV W _ _ L (hr.keep hW) (by omega));have hnl:(dg (-sg n1 (vl l)).natAbs).length<=L:=by rw[Int.natAbs_neg];exact hr.len
 have HD1:=bH (fun W (hW:XF w W)=>EK W n1 a1 l1 c1 x1 y1 k1 d (hd.keep hW) (by omega));have HRd:=bH (fun W u u' (hu:Ay W u (-sg n1 (vl l))) (hu':Ab W u' (dn (vl d)))=>EO W u (-sg n1 (vl l)) (dn (vl d)) L u' (hu.reads hnl) hu' (Br _) hL (Nat.le_trans (C5 hd hdl h0) hL));rw[<- Rat.neg_mkRat,<- hq] at HRd;clear hnl;generalize -sg n1 (vl l)=Z at *;generalize -q=Q at *;clear hr hd hdl hq h;generalize dn (vl d)=D1 at *;go_enter func143,ntmps143;go_upto_region 0 with fail;go_cut [1,2] (fun v1 v3 wx=>∃b1 r,v1=.pointer (some ⟨b1,0,none⟩)/\v3=.pointer (some ⟨r,0,none⟩)/\Aj wx b1 n1 (.slice a1 l1 c1) (.slice x1 y1 k1)/\Aj wx r false (.slice none 0 0) (.slice none 0 0)/\b1<r/\w.heap.size<=r/\XF w wx);case first =>
  go_wp2;go_meet;exact⟨_,_,rfl,rfl,(AO rfl n1 a1 l1 c1 x1 y1 k1).alloc _,AO (by simp) false none 0 0 none 0 0,(by omega),(by omega),((AK.refl _ w).alloc _).alloc _⟩
 case rest =>
  obtain⟨b1,r,rfl,rfl,hb1,hrb,i1,hle,hx⟩:=hcut;have hS:=JA.of hb1;have HB:=bH (bI hb1 (bI hrb hx));clear hb1 hrb hx;go_upto_region 1 with fail;go_region_held3 (JA b1 n1 (.slice a1 l1 c1) (.slice x1 y1 k1))
   (repeat (first|(with_reducible assumption)|(with_reducible refine JA.drew ?_)|(with_reducible refine JA.set ?_ _ _ ?_)|(dsimp only;omega)))
   (first
    | (go_at_call 174;(with_reducible refine (HN.o _ HB.o.2.2.drew).mono ?_);rintro q1 w11 ⟨v11,rfl,h11,hx11⟩;have hX1:=(AK.refl (fun _=>False) wc).drew.trans hx11;have hK1:=JA.of (HB.o.1.ext hX1 id);obtain⟨ng1,ag1,lg1,cg1,rfl⟩:=h11.shape)
    | (go_at_call 51;(with_reducible refine (HD1.o _ (HB.o.2.2.trans hX1)).mono ?_);rintro q2 w12 ⟨v12,rfl,h12,hx12⟩;have hX2:=hX1.trans hx12;have hK2:=JA.of (HB.o.1.ext hX2 id);have hR:=HRd.o w12 _ _ (h11.keep hx12) h12;obtain⟨ag2,cg2,rfl⟩:=h12.shape)
    | (go_at_call 50;(with_reducible refine hR.mono ?_);rintro q4 w14 ⟨v14,rfl,h14,hx14⟩;have hX4:=hX2.trans hx14;have hK4:=JA.of (HB.o.1.ext hX4 id);have hr4:=HB.o.2.1.ext hX4 id;obtain⟨d0,d1,d2,d3,d4,d5⟩:=hr4.facts;obtain⟨ng,sa,sn,sc,ta,tn,tc,rfl⟩:=h14.shape))
  have hp:=hr4.put (neg:=ng) (AF sa sn sc) (AF ta tn tc);have HR:=bH (bI (hp.rat h14) (bI ((HB.o.2.2.trans hX4).own hp.ext (fun k e=>by omega)) hp.box));clear hp hr4 h14 hX4 h11 h12 hx11 hx12 hx14 hX1 hX2 hK1 hK2 hK4 hR hS d0 d1 d2 d3 d4 d5;generalize ((w14.setCell ⟨r,0,none⟩ (.bool ng)).setCell ⟨r,1,none⟩ (.slice sa sn sc)).setCell ⟨r,2,none⟩ (.slice ta tn tc)=w20 at *;obtain⟨g0,g1,g2,_⟩:=HR.o.2.2.facts;go_wp2;exact bodyPost_ret (v:=.agg #[.bool ng,.slice sa sn sc,.slice ta tn tc]) (by simp[results,results143,go_sem,g0,g1,g2]) rfl ⟨_,rfl,HR.o.1,HR.o.2.1⟩
theorem JK(w:World) (v v':Value) (q q':Rat) (L:Nat) (h:BA w v q L) (h':BA w v' q' L) (h0:1<=L) (hL:L<=16777216) :
  Calls prog 129 #[v,v'] w (Aw w (q*q')):=by
 obtain⟨n1,a1,l1,c1,x1,y1,k1,l,d,rfl,hr,hd,hm,hdl,hq⟩:=h.open;clear hm;obtain⟨n2,a2,l2,c2,x2,y2,k2,l',d',rfl,hr',hd',hm,hdl',hq'⟩:=h'.open;clear hm;have HM:=bH (fun W (hW:XF w W)=>FV W _ _ _ _ L (hr.keep hW) (hr'.keep hW) (by omega));have HD1:=bH (fun W (hW:XF w W)=>EK W n1 a1 l1 c1 x1 y1 k1 d (hd.keep hW) (by omega));have HD2:=bH (fun W (hW:XF w W)=>EK W n2 a2 l2 c2 x2 y2 k2 d' (hd'.keep hW) (by omega));have hdl1:=C5 hd hdl h0;have hdl2:=C5 hd' hdl' h0;have HN:=bH (fun W u u' (hu:Ab W u (dn (vl d))) (hu':Ab W u' (dn (vl d')))=>LA W u u' _ _ hu hu' (by omega) (by omega));simp only[At] at HN;have hYl:=Bk (Nat.lt_of_lt_of_le (CP (dn (vl d))) (An hdl1)) (Nat.lt_of_lt_of_le (CP (dn (vl d'))) (An hdl2));have hZl:=CQ hr.len hr'.len;have HRd:=bH (fun W u u' (hu:Ay W u (sg n1 (vl l)*sg n2 (vl l'))) (hu':Ab W u' (dn (vl d)*dn (vl d')))=>EO W u (sg n1 (vl l)*sg n2 (vl l')) (dn (vl d)*dn (vl d')) (L+L) u' (hu.reads hZl) hu' (Nat.mul_pos (Br _) (Br _)) (by omega) (by omega));have hres:mkRat (sg n1 (vl l)*sg n2 (vl l')) (dn (vl d)*dn (vl d'))=q*q':=by
  rw[hq,hq',Rat.mkRat_mul_mkRat]
 rw[hres] at HRd;clear hr hr' hd hd' hdl hdl' hq hq' h h' hres hZl hYl hdl1 hdl2;generalize q*q'=Q at *;generalize sg n1 (vl l)*sg n2 (vl l')=Z at *;generalize hP:dn (vl d)*dn (vl d')=Y at *;clear hP;generalize dn (vl d)=D1 at *;generalize dn (vl d')=D2 at *;go_enter func129,ntmps129;go_upto_region 0 with fail;go_cut [2,3,4] (fun v1 v2 v3 wx=>∃b1 b2 r,v1=.pointer (some ⟨b1,0,none⟩)/\v2=.pointer (some ⟨b2,0,none⟩)/\v3=.pointer (some ⟨r,0,none⟩)/\Aj wx b1 n1 (.slice a1 l1 c1) (.slice x1 y1 k1)/\Aj wx b2 n2 (.slice a2 l2 c2) (.slice x2 y2 k2)/\Aj wx r false (.slice none 0 0) (.slice none 0 0)/\b1<r/\b2<r/\w.heap.size<=r/\XF w wx);case first =>
  go_wp2;go_meet;exact⟨_,_,_,rfl,rfl,rfl,((AO rfl n1 a1 l1 c1 x1 y1 k1).alloc _).alloc _,(AO (by simp) n2 a2 l2 c2 x2 y2 k2).alloc _,AO (by simp) false none 0 0 none 0 0,(by omega),(by omega),(by omega),(((AK.refl _ w).alloc _).alloc _).alloc _⟩
 case rest =>
  obtain⟨b1,b2,r,rfl,rfl,rfl,hb1,hb2,hrb,i1,i2,hle,hx⟩:=hcut;have hS:=B5.of hb1 hb2;have HB:=bH (bI hb1 (bI hb2 (bI hrb hx)));clear hb1 hb2 hrb hx;go_upto_region 1 with fail;go_region_held3 (B5 b1 b2 n1 n2 (.slice a1 l1 c1) (.slice x1 y1 k1) (.slice a2 l2 c2) (.slice x2 y2 k2))
   (repeat (first|(with_reducible assumption)|(with_reducible refine B5.drew ?_)|(with_reducible refine B5.set ?_ _ _ ?_ ?_)|(dsimp only;omega)))
   (first
    | (go_at_call 132;(with_reducible refine (HM.o _ HB.o.2.2.2.drew).mono ?_);rintro q1 w11 ⟨v11,rfl,h11,hx11⟩;have hX1:=(AK.refl (fun _=>False) wc).drew.trans hx11;have hK1:=B5.of (HB.o.1.ext hX1 id) (HB.o.2.1.ext hX1 id);obtain⟨ng1,ag1,lg1,cg1,rfl⟩:=h11.shape)
    | (go_at_call 51;(with_reducible refine (HD1.o _ (HB.o.2.2.2.trans hX1)).mono ?_);rintro q2 w12 ⟨v12,rfl,h12,hx12⟩;have hX2:=hX1.trans hx12;have hK2:=B5.of (HB.o.1.ext hX2 id) (HB.o.2.1.ext hX2 id);obtain⟨ag2,cg2,rfl⟩:=h12.shape)
    | (go_at_call 51;(with_reducible refine (HD2.o _ (HB.o.2.2.2.trans hX2)).mono ?_);rintro q3 w13 ⟨v13,rfl,h13,hx13⟩;have hX3:=hX2.trans hx13;have hK3:=B5.of (HB.o.1.ext hX3 id) (HB.o.2.1.ext hX3 id);have hN:=HN.o w13 _ _ (h12.keep hx13) h13;obtain⟨ag3,cg3,rfl⟩:=h13.shape)
    | (go_at_call 185;(with_reducible refine hN.mono ?_);rintro q5 w15 ⟨v15,rfl,h15,hx15⟩;have hX5:=hX3.trans hx15;have hK5:=B5.of (HB.o.1.ext hX5 id) (HB.o.2.1.ext hX5 id);have hR:=HRd.o w15 _ _ (h11.keep (hx12.trans (hx13.trans hx15))) h15;obtain⟨ag5,cg5,rfl⟩:=h15.shape)
    | (go_at_call 50;(with_reducible refine hR.mono ?_);rintro q4 w14 ⟨v14,rfl,h14,hx14⟩;have hX4:=hX5.trans hx14;have hK4:=B5.of (HB.o.1.ext hX4 id) (HB.o.2.1.ext hX4 id);have hr4:=HB.o.2.2.1.ext hX4 id;obtain⟨d0,d1,d2,d3,d4,d5⟩:=hr4.facts;obtain⟨ng,sa,sn,sc,ta,tn,tc,rfl⟩:=h14.shape))
  have hp:=hr4.put (neg:=ng) (AF sa sn sc) (AF ta tn tc);have HR:=bH (bI (hp.rat h14) (bI ((HB.o.2.2.2.trans hX4).own hp.ext (fun k e=>by omega)) hp.box));clear hp hr4 h14 hX4 h11 h12 h13 h15 hx11 hx12 hx13 hx14 hx15 hX1 hX2 hX3 hX5 hK1 hK2 hK3 hK4 hK5 hN hR hS d0 d1 d2 d3 d4 d5;generalize ((w14.setCell ⟨r,0,none⟩ (.bool ng)).setCell ⟨r,1,none⟩ (.slice sa sn sc)).setCell ⟨r,2,none⟩ (.slice ta tn tc)=w20 at *;obtain⟨g0,g1,g2,_⟩:=HR.o.2.2.facts;go_wp2;exact bodyPost_ret (v:=.agg #[.bool ng,.slice sa sn sc,.slice ta tn tc]) (by simp[results,results129,go_sem,g0,g1,g2]) rfl ⟨_,rfl,HR.o.1,HR.o.2.1⟩
theorem CG(w:World) (k:Int) (h0:-9223372036854775808<=k) (h1:k<=9223372036854775807) :
  Calls prog 38 #[.int .i64 k] w (Aw w (k:Rat)):=by
 have HF:=bH (fun W=>PT W k h0 h1);obtain⟨q,hq⟩:∃q:Rat,(k:Rat)=q:=⟨_,rfl⟩;have hof:∀W neg mag,Ay W (.agg #[.bool neg,mag]) k->AN W (.agg #[.bool neg,mag,.slice none 0 0]) q:=fun W neg mag h=>by rw[<- hq];exact AN.ofInt h
 have Hof:=bH hof;rw[hq];clear hof hq h0 h1;go_enter func38,ntmps38;go_wp2_with fail;refine (HF.o _).mono ?_;rintro r w6 ⟨v6,rfl,h6,hx6⟩;have hr6:=(AO rfl false none 0 0 none 0 0 (W:=w)).ext hx6 id;obtain⟨d0,d1,d2,d3,d4,d5⟩:=hr6.facts;have hX6:=((AK.refl (fun _=>False) w).alloc _).trans hx6;obtain⟨neg6,so,sn,sc,rfl⟩:=h6.shape;have hp:=hr6.put (neg:=neg6) (AF so sn sc) (AF none 0 0);have HR:=bH (bI (hp.rat (Hof.o _ _ _ h6)) (bI (hX6.own hp.ext (fun k e=>by omega)) hp.box));clear hp h6 hX6 hr6 hx6;go_wp2;generalize ((w6.setCell ⟨w.heap.size,0,none⟩ (.bool neg6)).setCell ⟨w.heap.size,1,none⟩ (.slice so sn sc)).setCell ⟨w.heap.size,2,none⟩ (.slice none 0 0)=w9 at *;obtain⟨g0,g1,g2,_⟩:=HR.o.2.2.facts;exact bodyPost_ret (v:=.agg #[.bool neg6,.slice so sn sc,.slice none 0 0]) (by simp[results,results38,go_sem,g0,g1,g2]) rfl ⟨_,rfl,HR.o.1,HR.o.2.1⟩
theorem C4(w:World) (v:Value) (q:Rat) (L:Nat) (h:BA w v q L) (hL:L<=268435455) :
  Calls prog 78 #[v] w fun r w'=>r=.returned (.int .i64 q.num.sign)/\XF w w':=by
 obtain⟨neg,ao,m,c,ao',m',c',l,d,rfl,h1,_,_,_,rfl⟩:=h.open;rw[IL _ (Br _)];have HS:=bH (fun W (hW:XF w W)=>PV W _ _ L (h1.keep hW) hL);generalize sg neg (vl l)=z at *;clear h h1;go_enter func78,ntmps78;go_wp2_with fail;refine (HS.o _ ((AK.refl _ w).alloc _)).mono ?_;rintro r6 w6 ⟨rfl,hx6⟩;have HX6:=bH (((AK.refl (fun _=>False) w).alloc _).trans hx6);clear hx6;go_wp2;go_ret;exact⟨rfl,HX6.o⟩
theorem Hn(w:World) (v v':Value) (q q':Rat) (L:Nat) (h:AN w v q) (h':AN w v' q') (hs:Sz q L) (hs':Sz q' L) (hL:L<=268435455) :
  Calls prog 16 #[v,v'] w fun r w'=>r=.returned (.bool (decide (q=q')))/\XF w w':=by
 obtain⟨mag,e,rfl,h1,h2⟩:=h;obtain⟨mag',e',rfl,h1',h2'⟩:=h';obtain⟨ao,c,rfl⟩:=h1.shape;obtain⟨eo,ec,rfl⟩:=h2.shape;obtain⟨ao',c',rfl⟩:=h1'.shape;obtain⟨eo',ec',rfl⟩:=h2'.shape;have HI:=bH (fun W (hW:XF w W)=>Oe W (decide (q.num<0)) (decide (q'.num<0)) ao ao' _ c _ c' _ _ (Ad.keep h1 hW) (Ad.keep h1' hW) (Nat.le_trans hs.1 hL) (Nat.le_trans hs'.1 hL));have HN:=bH (fun W (hW:XF w W)=>K7 W _ _ _ _ (Ad.keep h2 hW) (Ad.keep h2' hW) (Nat.le_trans (Nat.le_trans (Bu (TM _)) hs.2) (by omega)) (Nat.le_trans (Nat.le_trans (Bu (TM _)) hs'.2) (by omega)));have hI:(decide (q.num<0) == decide (q'.num<0)&&decide (dg q.num.natAbs=dg q'.num.natAbs))=decide (q.num=q'.num):=by
  by_cases he:q.num=q'.num
  ·rw[he];simp
  rw[decide_eq_false he];by_cases hd:dg q.num.natAbs=dg q'.num.natAbs
  ·have hn:q.num.natAbs=q'.num.natAbs:=(by have:=congrArg vl hd;rwa [At,At] at this);rw[decide_eq_true hd,Bool.and_true];by_cases h1:q.num<0
   ·rw[decide_eq_true h1,decide_eq_false (by omega)];rfl
   rw[decide_eq_false h1,decide_eq_true (by omega)];rfl
  rw[decide_eq_false hd,Bool.and_false]
 have hN:(decide (dg (dw q.den)=dg (dw q'.den)))=decide (q.den=q'.den):=by
  by_cases he:q.den=q'.den
  ·rw[he];simp
  rw[decide_eq_false he];refine decide_eq_false (fun hd=>he ?_);have hn:dw q.den=dw q'.den:=(by have:=congrArg vl hd;rwa [At,At] at this);have:=q.den_nz;have:=q'.den_nz;unfold dw at hn;split at hn<;>split at hn<;>omega
 rw[hI] at HI;rw[hN] at HN;have hR:decide (q=q')=(decide (q.num=q'.num)&&decide (q.den=q'.den)):=by
  by_cases h:q=q'
  ·subst h;simp
  rw[decide_eq_false h];by_cases h1:q.num=q'.num
  ·rw[decide_eq_true h1,Bool.true_and];exact (decide_eq_false (fun h2=>h (Rat.ext h1 h2))).symm
  rw[decide_eq_false h1];rfl
 rw[hR];clear hI hN hR h1 h2 h1' h2' hs hs';generalize decide (q.den=q'.den)=B at *;obtain⟨A,hA⟩:=bN (decide (q.num=q'.num));rw[hA] at HI ⊢;clear hA;generalize (dg q.num.natAbs).length=z1 at *;generalize (dg q'.num.natAbs).length=z2 at *;generalize (dg (dw q.den)).length=z3 at *;generalize (dg (dw q'.den)).length=z4 at *;generalize decide (q.num<0)=s1 at *;generalize decide (q'.num<0)=s2 at *;obtain⟨RB,hRB⟩:=bN ((A&&B));rw[hRB];have HRB:=bH hRB;clear hRB;go_enter func16,ntmps16;go_upto_region 0 with fail;go_cut [2,3] (fun v1 v2 wx=>∃b1 b2,v1=.pointer (some ⟨b1,0,none⟩)/\v2=.pointer (some ⟨b2,0,none⟩)/\Aj wx b1 s1 (.slice ao z1 c) (.slice eo z3 ec)/\Aj wx b2 s2 (.slice ao' z2 c') (.slice eo' z4 ec')/\XF w wx);case first =>
  go_wp2;go_meet;exact⟨_,_,rfl,rfl,(AO rfl s1 ao z1 c eo z3 ec).alloc _,AO (by simp) s2 ao' z2 c' eo' z4 ec',((AK.refl _ w).alloc _).alloc _⟩
 case rest =>
  obtain⟨b1,b2,rfl,rfl,hb1,hb2,hx⟩:=hcut;obtain⟨c0,c1,c2,_⟩:=hb1.facts;obtain⟨e0,e1,e2,_⟩:=hb2.facts;have HB:=bH (bI hb1 (bI hb2 hx));have HI1:=bH (HI.o wc hx);clear hb1 hb2 hx;cases A
  ·obtain rfl:RB=false:=HRB.o.symm;go_wp2_with fail;refine HI1.o.mono ?_;rintro r1 w1 ⟨rfl,hx1⟩;have HX:=bH (HB.o.2.2.trans hx1);clear hx1;go_wp2;go_ret;exact⟨rfl,HX.o⟩
  obtain rfl:RB=B:=HRB.o.symm;go_wp2_with fail;refine HI1.o.mono ?_;rintro r1 w1 ⟨rfl,hx1⟩;obtain⟨c0,c1,c2,_⟩:=(HB.o.1.ext hx1 id).facts;obtain⟨e0,e1,e2,_⟩:=(HB.o.2.1.ext hx1 id).facts;have HX:=bH (HB.o.2.2.trans hx1);have HN1:=bH (HN.o w1 HX.o);clear hx1;go_wp2_with fail;refine HN1.o.mono ?_;rintro r2 w2 ⟨rfl,hx2⟩;have HX2:=bH (HX.o.trans hx2);clear hx2;go_wp2;go_ret;exact⟨rfl,HX2.o⟩
def Dc(w:World) (Z:Int) (v:Value) (w':World):Prop:=∃b ng sa sn sc,v=.pointer (some ⟨b,0,none⟩)/\w.heap.size<=b/\A1 w' b ng (.slice sa sn sc)/\Ay w' (.agg #[.bool ng,.slice sa sn sc]) Z/\XF w w'
theorem Dc.put{w w':World} {Z:Int} {b:Nat} {ng:Bool} {sa:Option Addr} {sn sc:Nat} (hb:w.heap.size<=b) (hr:A1 w' b false (.slice none 0 0)) (h:Ay w' (.agg #[.bool ng,.slice sa sn sc]) Z) (hx:XF w w') :
  Dc w Z (.pointer (some ⟨b,0,none⟩)) ((w'.setCell ⟨b,0,none⟩ (.bool ng)).setCell ⟨b,1,none⟩ (.slice sa sn sc)) :=
 have hp:=hr.put (neg:=ng) (AF sa sn sc)
 ⟨b,ng,sa,sn,sc,rfl,hb,hp.box,hp.int h,hx.own hp.ext (fun k e=>by omega)⟩
theorem Dc.new{w w':World} {Z:Int} {ng:Bool} {sa:Option Addr} {sn sc:Nat} (h:Ay w' (.agg #[.bool ng,.slice sa sn sc]) Z) (hx:XF w w') :
  Dc w Z (.pointer (some ⟨w'.heap.size,0,none⟩)) (w'.alloc (.cells #[.bool ng,.slice sa sn sc] 32)) :=
 ⟨_,ng,sa,sn,sc,rfl,hx.size,AR rfl ng sa sn sc,h.keep ((AK.refl _ _).alloc _),hx.alloc _⟩
theorem FY{W:World} {b i:Nat} {x:Value} (h:W.cell? ⟨b,i,none⟩=some x) (o:Obj):(W.alloc o).cell? ⟨b,i,none⟩=some x :=
 (((AK.refl (fun _=>False) W).alloc o).cell (p:=⟨b,i,none⟩) (World.block_lt_of_cell? W _ h) id).trans h
theorem B5.alloc{b1 b2:Nat} {n1 n2:Bool} {m1 e1 m2 e2:Value} {W:World} (h:B5 b1 b2 n1 n2 m1 e1 m2 e2 W) (o:Obj):B5 b1 b2 n1 n2 m1 e1 m2 e2 (W.alloc o):=by
 obtain⟨a1,a2,a3,a4,a5,a6⟩:=h;exact⟨FY a1 o,FY a2 o,FY a3 o,FY a4 o,FY a5 o,FY a6 o⟩
abbrev OX(b1 b2 p1 p2:Nat) (n1 n2:Bool) (m1 e1 m2 e2:Value) (g1 g2:Bool) (u1 u2:Value) (W:World):Prop :=
 B5 b1 b2 n1 n2 m1 e1 m2 e2 W/\W.cell? ⟨p1,0,none⟩=some (.bool g1)/\W.cell? ⟨p1,1,none⟩=some u1/\W.cell? ⟨p2,0,none⟩=some (.bool g2)/\W.cell? ⟨p2,1,none⟩=some u2
section
variable {b1 b2 p1 p2:Nat} {n1 n2:Bool} {m1 e1 m2 e2:Value} {g1 g2:Bool} {u1 u2:Value} {W:World}
theorem OX.of(h:B5 b1 b2 n1 n2 m1 e1 m2 e2 W) (h1:A1 W p1 g1 u1) (h2:A1 W p2 g2 u2):OX b1 b2 p1 p2 n1 n2 m1 e1 m2 e2 g1 g2 u1 u2 W:=⟨h,h1.facts.1,h1.facts.2.1,h2.facts.1,h2.facts.2.1⟩
theorem OX.drew(h:OX b1 b2 p1 p2 n1 n2 m1 e1 m2 e2 g1 g2 u1 u2 W):OX b1 b2 p1 p2 n1 n2 m1 e1 m2 e2 g1 g2 u1 u2 W.drew:=h
theorem OX.set(h:OX b1 b2 p1 p2 n1 n2 m1 e1 m2 e2 g1 g2 u1 u2 W) (p:Addr) (u:Value) (k1:¬b1=p.block) (k2:¬b2=p.block) (k3:¬p1=p.block) (k4:¬p2=p.block):OX b1 b2 p1 p2 n1 n2 m1 e1 m2 e2 g1 g2 u1 u2 (W.setCell p u) :=
 ⟨h.1.set p u k1 k2,AY h.2.1 k3,AY h.2.2.1 k3,AY h.2.2.2.1 k4,AY h.2.2.2.2 k4⟩
end
theorem DJ(w:World) (v v':Value) (q q':Rat) (L:Nat) (h:BA w v q L) (h':BA w v' q' L) (h0:1<=L) (hL:L<=16777216) :
  Calls prog 108 #[v,v'] w (Aw w (q+q')):=by
 obtain⟨n1,a1,l1,c1,x1,y1,k1,l,d,rfl,hr,hd,hm,hdl,hq⟩:=h.open;clear hm;obtain⟨n2,a2,l2,c2,x2,y2,k2,l',d',rfl,hr',hd',hm,hdl',hq'⟩:=h'.open;clear hm;have hdl1:=C5 hd hdl h0;have hdl2:=C5 hd' hdl' h0;have HD1:=bH (fun W (hW:XF w W)=>EK W n1 a1 l1 c1 x1 y1 k1 d (hd.keep hW) (by omega));have HD2:=bH (fun W (hW:XF w W)=>EK W n2 a2 l2 c2 x2 y2 k2 d' (hd'.keep hW) (by omega));have HM1:=bH (fun W (hW:XF w W) ao n c (hu:Ab W (.slice ao n c) (dn (vl d')))=>FV W _ (.agg #[.bool false,.slice ao n c]) (sg n1 (vl l)) ((dn (vl d'):Nat):Int) L (hr.keep hW) ⟨false,_,_,rfl,hu,hdl2,by rw[At];rfl⟩ (by omega));have HM2:=bH (fun W (hW:XF w W) ao n c (hu:Ab W (.slice ao n c) (dn (vl d)))=>FV W _ (.agg #[.bool false,.slice ao n c]) (sg n2 (vl l')) ((dn (vl d):Nat):Int) L (hr'.keep hW) ⟨false,_,_,rfl,hu,hdl1,by rw[At];rfl⟩ (by omega));have HN:=bH (fun W u u' (hu:Ab W u (dn (vl d))) (hu':Ab W u' (dn (vl d')))=>LA W u u' _ _ hu hu' (by omega) (by omega));simp only[At] at HN;have hdi1:(dg (((dn (vl d):Nat):Int)).natAbs).length<=L:=by rw[Int.natAbs_natCast];exact hdl1
 have hdi2:(dg (((dn (vl d'):Nat):Int)).natAbs).length<=L:=by rw[Int.natAbs_natCast];exact hdl2
 have hz1:=CQ hr.len hdi2;have hz2:=CQ hr'.len hdi1;have HA:=bH (fun W u u' (hu:Ay W u (sg n1 (vl l)*((dn (vl d'):Nat):Int))) (hu':Ay W u' (sg n2 (vl l')*((dn (vl d):Nat):Int)))=>Qb W u u' _ _ (L+L) (hu.reads hz1) (hu'.reads hz2) (by omega));have hYl:=Bk (Nat.lt_of_lt_of_le (CP (dn (vl d))) (An hdl1)) (Nat.lt_of_lt_of_le (CP (dn (vl d'))) (An hdl2));have hZl:=I8 hz1 hz2;have HRd:=bH (fun W u u' (hu:Ay W u (sg n1 (vl l)*((dn (vl d'):Nat):Int)+sg n2 (vl l')*((dn (vl d):Nat):Int))) (hu':Ab W u' (dn (vl d)*dn (vl d')))=>EO W u _ (dn (vl d)*dn (vl d')) (L+L+1) u' (hu.reads hZl) hu' (Nat.mul_pos (Br _) (Br _)) (by omega) (by omega));have hres:mkRat (sg n1 (vl l)*((dn (vl d'):Nat):Int)+sg n2 (vl l')*((dn (vl d):Nat):Int)) (dn (vl d)*dn (vl d'))=q+q':=by
  rw[hq,hq',Rat.mkRat_add_mkRat _ _ (Nat.ne_of_gt (Br _)) (Nat.ne_of_gt (Br _))]
 rw[hres] at HRd;clear hr hr' hd hd' hdl hdl' hq hq' h h' hres hZl hYl hdl1 hdl2 hdi1 hdi2 hz1 hz2;generalize q+q'=Q at *;generalize sg n1 (vl l)*((dn (vl d'):Nat):Int)=Z1 at *;generalize sg n2 (vl l')*((dn (vl d):Nat):Int)=Z2 at *;generalize hP:dn (vl d)*dn (vl d')=Y at *;clear hP;generalize dn (vl d)=D1 at *;generalize dn (vl d')=D2 at *;go_enter func108,ntmps108;go_upto_region 0 with fail;go_cut [2,3,4] (fun v1 v2 v3 wx=>∃b1 b2 r,v1=.pointer (some ⟨b1,0,none⟩)/\v2=.pointer (some ⟨b2,0,none⟩)/\v3=.pointer (some ⟨r,0,none⟩)/\Aj wx b1 n1 (.slice a1 l1 c1) (.slice x1 y1 k1)/\Aj wx b2 n2 (.slice a2 l2 c2) (.slice x2 y2 k2)/\Aj wx r false (.slice none 0 0) (.slice none 0 0)/\b1<r/\b2<r/\w.heap.size<=r/\r<wx.heap.size/\XF w wx);case first =>
  go_wp2;go_meet;exact⟨_,_,_,rfl,rfl,rfl,((AO rfl n1 a1 l1 c1 x1 y1 k1).alloc _).alloc _,(AO (by simp) n2 a2 l2 c2 x2 y2 k2).alloc _,AO (by simp) false none 0 0 none 0 0,(by omega),(by omega),(by omega),(by simp),(((AK.refl _ w).alloc _).alloc _).alloc _⟩
 case rest =>
  obtain⟨b1,b2,r,rfl,rfl,rfl,hb1,hb2,hrb,i1,i2,hle,hlr,hx⟩:=hcut;have hS:=B5.of hb1 hb2;have HB:=bH (bI hb1 (bI hb2 (bI hrb hx)));have HBB:=bH (bI hb1 hb2);clear hb1 hb2 hrb hx;obtain⟨wa,hwa⟩:∃wa,wa=wc:=⟨_,rfl⟩;subst hwa;go_upto_region 1 with fail;go_cut [5] (fun vx wx=>Dc wa Z1 vx wx);case first =>
   go_region_held3 (B5 b1 b2 n1 n2 (.slice a1 l1 c1) (.slice x1 y1 k1) (.slice a2 l2 c2) (.slice x2 y2 k2))
    (repeat (first|(with_reducible assumption)|(with_reducible refine B5.drew ?_)|(with_reducible refine B5.alloc ?_ _)|(with_reducible refine B5.set ?_ _ _ ?_ ?_)|(dsimp only;omega)))
    (first
     | (go_at_call 51;(with_reducible refine (HD2.o _ ?_).mono ?_);(refine AK.trans HB.o.2.2.2 ?_;(repeat (first|(with_reducible assumption)|(with_reducible exact AK.refl _ _)|(with_reducible refine AK.drew ?_)|(with_reducible refine AK.alloc ?_ _))));rintro q1 w11 ⟨v11,rfl,h11,hx11⟩;have hX1:XF wa w11:=AK.trans (by (repeat (first|(with_reducible assumption)|(with_reducible exact AK.refl _ _)|(with_reducible refine AK.drew ?_)|(with_reducible refine AK.alloc ?_ _)))) hx11;have hz1:=hX1.size;have hK1:=B5.of (HBB.o.1.ext hX1 id) (HBB.o.2.ext hX1 id);(first|(have hq1:A1 w11 wa.heap.size false (.slice none 0 0):=(AR (W:=wa) rfl false none 0 0).ext ((AK.refl (fun _=>False) _).drew.trans hx11) id;obtain⟨d0,d1,d2,d3⟩:=hq1.facts)|skip);obtain⟨ag1,cg1,rfl⟩:=h11.shape)
     | (go_at_call 132;(with_reducible refine (HM1.o _ ?_ _ _ _ ?_).mono ?_);(refine AK.trans HB.o.2.2.2 ?_;(repeat (first|(with_reducible assumption)|(with_reducible exact AK.refl _ _)|(with_reducible refine AK.drew ?_)|(with_reducible refine AK.alloc ?_ _)|(with_reducible refine Ab.keep h11 ?_))));rintro q2 w12 ⟨v12,rfl,h12,hx12⟩;have hX2:XF wa w12:=AK.trans (by (repeat (first|(with_reducible assumption)|(with_reducible exact AK.refl _ _)|(with_reducible refine AK.drew ?_)|(with_reducible refine AK.alloc ?_ _)))) hx12;have hz2:=hX2.size;have hK2:=B5.of (HBB.o.1.ext hX2 id) (HBB.o.2.ext hX2 id);(first|(have hq2:A1 w12 wa.heap.size false (.slice none 0 0):=hq1.ext hx12 id;obtain⟨d0,d1,d2,d3⟩:=hq2.facts)|(have hq2:A1 w12 w11.heap.size false (.slice none 0 0):=(AR (W:=w11) rfl false none 0 0).ext hx12 id;obtain⟨d0,d1,d2,d3⟩:=hq2.facts)|skip);obtain⟨ng,sa,sn,sc,rfl⟩:=h12.shape))
   ·have HS:=bH (Dc.new h12 hX2);clear hX1 hX2 hK1 hK2 hx11 hx12 h11 h12 hz1 hz2;go_wp2_with fail;go_meet;exact HS.o
   ·have HS:=bH (Dc.put (by omega) hq2 h12 hX2);clear hX1 hX2 hK1 hK2 hx11 hx12 h11 h12 hz1 hz2;go_wp2_with fail;go_meet;exact HS.o
   have HS:=bH (Dc.put (by omega) hq2 h12 hX2);clear hX1 hX2 hK1 hK2 hx11 hx12 h11 h12 hz1 hz2;go_wp2_with fail;go_meet;exact HS.o
  case rest =>
  obtain⟨wb,hwa⟩:∃wa,wa=wc:=⟨_,rfl⟩;subst hwa;obtain⟨p1,g1,s1,u1,t1,rfl,hp1,hbx1,hi1,hx1⟩:=hcut;have HB1:=bH (bI (HBB.o.1.ext hx1 id) (HBB.o.2.ext hx1 id));have HX1:=bH (HB.o.2.2.2.trans hx1);have HR1:=bH (bI (HB.o.2.2.1.ext hx1 id) (bI hbx1 hi1));have hlr1:r<wb.heap.size:=Nat.lt_of_lt_of_le hlr hx1.size;have hS1:=B5.of HB1.o.1 HB1.o.2;clear hS hbx1 hi1 hx1;go_upto_region 2 with fail;go_cut [6] (fun vx wx=>Dc wb Z2 vx wx);case first =>
   go_region_held3 (B5 b1 b2 n1 n2 (.slice a1 l1 c1) (.slice x1 y1 k1) (.slice a2 l2 c2) (.slice x2 y2 k2))
    (repeat (first|(with_reducible assumption)|(with_reducible refine B5.drew ?_)|(with_reducible refine B5.alloc ?_ _)|(with_reducible refine B5.set ?_ _ _ ?_ ?_)|(dsimp only;omega)))
    (first
     | (go_at_call 51;(with_reducible refine (HD1.o _ ?_).mono ?_);(refine AK.trans HX1.o ?_;(repeat (first|(with_reducible assumption)|(with_reducible exact AK.refl _ _)|(with_reducible refine AK.drew ?_)|(with_reducible refine AK.alloc ?_ _))));rintro q1 w11 ⟨v11,rfl,h11,hx11⟩;have hX1:XF wb w11:=AK.trans (by (repeat (first|(with_reducible assumption)|(with_reducible exact AK.refl _ _)|(with_reducible refine AK.drew ?_)|(with_reducible refine AK.alloc ?_ _)))) hx11;have hz1:=hX1.size;have hK1:=B5.of (HB1.o.1.ext hX1 id) (HB1.o.2.ext hX1 id);(first|(have hq1:A1 w11 wb.heap.size false (.slice none 0 0):=(AR (W:=wb) rfl false none 0 0).ext ((AK.refl (fun _=>False) _).drew.trans hx11) id;obtain⟨d0,d1,d2,d3⟩:=hq1.facts)|skip);obtain⟨ag1,cg1,rfl⟩:=h11.shape)
     | (go_at_call 132;(with_reducible refine (HM2.o _ ?_ _ _ _ ?_).mono ?_);(refine AK.trans HX1.o ?_;(repeat (first|(with_reducible assumption)|(with_reducible exact AK.refl _ _)|(with_reducible refine AK.drew ?_)|(with_reducible refine AK.alloc ?_ _)|(with_reducible refine Ab.keep h11 ?_))));rintro q2 w12 ⟨v12,rfl,h12,hx12⟩;have hX2:XF wb w12:=AK.trans (by (repeat (first|(with_reducible assumption)|(with_reducible exact AK.refl _ _)|(with_reducible refine AK.drew ?_)|(with_reducible refine AK.alloc ?_ _)))) hx12;have hz2:=hX2.size;have hK2:=B5.of (HB1.o.1.ext hX2 id) (HB1.o.2.ext hX2 id);(first|(have hq2:A1 w12 wb.heap.size false (.slice none 0 0):=hq1.ext hx12 id;obtain⟨d0,d1,d2,d3⟩:=hq2.facts)|(have hq2:A1 w12 w11.heap.size false (.slice none 0 0):=(AR (W:=w11) rfl false none 0 0).ext hx12 id;obtain⟨d0,d1,d2,d3⟩:=hq2.facts)|skip);obtain⟨ng,sa,sn,sc,rfl⟩:=h12.shape))
   ·have HS:=bH (Dc.new h12 hX2);clear hX1 hX2 hK1 hK2 hx11 hx12 h11 h12 hz1 hz2;go_wp2_with fail;go_meet;exact HS.o
   ·have HS:=bH (Dc.put (by omega) hq2 h12 hX2);clear hX1 hX2 hK1 hK2 hx11 hx12 h11 h12 hz1 hz2;go_wp2_with fail;go_meet;exact HS.o
   have HS:=bH (Dc.put (by omega) hq2 h12 hX2);clear hX1 hX2 hK1 hK2 hx11 hx12 h11 h12 hz1 hz2;go_wp2_with fail;go_meet;exact HS.o
  case rest =>
  obtain⟨w3,hwa⟩:∃wa,wa=wc:=⟨_,rfl⟩;subst hwa;obtain⟨p2,g2,s2,u2,t2,rfl,hp2,hbx2,hi2,hx2⟩:=hcut;have hX:=HX1.o.trans hx2;have HB2:=bH (bI (HB1.o.1.ext hx2 id) (bI (HB1.o.2.ext hx2 id) (bI (HR1.o.2.1.ext hx2 id) (bI hbx2 (bI (HR1.o.1.ext hx2 id) hX)))));have HA2:=bH (HA.o w3.drew _ _ (HR1.o.2.2.keep hx2.drew) (hi2.keep ((AK.refl _ _).drew)));have hS2:=OX.of (B5.of HB2.o.1 HB2.o.2.1) HB2.o.2.2.1 HB2.o.2.2.2.1;have k1r:p1≠r:=(by omega);have k2r:p2≠r:=(by omega);clear hx2 hbx2 hi2 hS1 hX;go_upto_region 3 with fail;go_region_held3 (OX b1 b2 p1 p2 n1 n2 (.slice a1 l1 c1) (.slice x1 y1 k1) (.slice a2 l2 c2) (.slice x2 y2 k2) g1 g2 (.slice s1 u1 t1) (.slice s2 u2 t2))
   (repeat (first|(with_reducible assumption)|(with_reducible refine OX.drew ?_)|(with_reducible refine OX.set ?_ _ _ ?_ ?_ ?_ ?_)|(dsimp only;omega)))
   (first
    | (go_at_call 131;(with_reducible refine HA2.o.mono ?_);rintro q1 w11 ⟨v11,rfl,h11,hx11⟩;have hX1:=(AK.refl (fun _=>False) w3).drew.trans hx11;have hK1:=OX.of (B5.of (HB2.o.1.ext hX1 id) (HB2.o.2.1.ext hX1 id)) (HB2.o.2.2.1.ext hX1 id) (HB2.o.2.2.2.1.ext hX1 id);obtain⟨ng1,ag1,lg1,cg1,rfl⟩:=h11.shape)
    | (go_at_call 51;(with_reducible refine (HD1.o _ (HB2.o.2.2.2.2.2.trans hX1)).mono ?_);rintro q2 w12 ⟨v12,rfl,h12,hx12⟩;have hX2:=hX1.trans hx12;have hK2:=OX.of (B5.of (HB2.o.1.ext hX2 id) (HB2.o.2.1.ext hX2 id)) (HB2.o.2.2.1.ext hX2 id) (HB2.o.2.2.2.1.ext hX2 id);obtain⟨ag2,cg2,rfl⟩:=h12.shape)
    | (go_at_call 51;(with_reducible refine (HD2.o _ (HB2.o.2.2.2.2.2.trans hX2)).mono ?_);rintro q3 w13 ⟨v13,rfl,h13,hx13⟩;have hX3:=hX2.trans hx13;have hK3:=OX.of (B5.of (HB2.o.1.ext hX3 id) (HB2.o.2.1.ext hX3 id)) (HB2.o.2.2.1.ext hX3 id) (HB2.o.2.2.2.1.ext hX3 id);have hN:=HN.o w13 _ _ (h12.keep hx13) h13;obtain⟨ag3,cg3,rfl⟩:=h13.shape)
    | (go_at_call 185;(with_reducible refine hN.mono ?_);rintro q5 w15 ⟨v15,rfl,h15,hx15⟩;have hX5:=hX3.trans hx15;have hK5:=OX.of (B5.of (HB2.o.1.ext hX5 id) (HB2.o.2.1.ext hX5 id)) (HB2.o.2.2.1.ext hX5 id) (HB2.o.2.2.2.1.ext hX5 id);have hR:=HRd.o w15 _ _ (h11.keep (hx12.trans (hx13.trans hx15))) h15;obtain⟨ag5,cg5,rfl⟩:=h15.shape)
    | (go_at_call 50;(with_reducible refine hR.mono ?_);rintro q4 w14 ⟨v14,rfl,h14,hx14⟩;have hX4:=hX5.trans hx14;have hK4:=OX.of (B5.of (HB2.o.1.ext hX4 id) (HB2.o.2.1.ext hX4 id)) (HB2.o.2.2.1.ext hX4 id) (HB2.o.2.2.2.1.ext hX4 id);have hr4:=HB2.o.2.2.2.2.1.ext hX4 id;obtain⟨d0,d1,d2,d3,d4,d5⟩:=hr4.facts;obtain⟨ng,sa,sn,sc,ta,tn,tc,rfl⟩:=h14.shape))
  have hp:=hr4.put (neg:=ng) (AF sa sn sc) (AF ta tn tc);have HR:=bH (bI (hp.rat h14) (bI ((HB2.o.2.2.2.2.2.trans hX4).own hp.ext (fun k e=>by omega)) hp.box));clear hp hr4 h14 hX4 h11 h12 h13 h15 hx11 hx12 hx13 hx14 hx15 hX1 hX2 hX3 hX5 hK1 hK2 hK3 hK4 hK5 hN hR hS2 d0 d1 d2 d3 d4 d5;generalize ((w14.setCell ⟨r,0,none⟩ (.bool ng)).setCell ⟨r,1,none⟩ (.slice sa sn sc)).setCell ⟨r,2,none⟩ (.slice ta tn tc)=w20 at *;obtain⟨g0,g1',g2',_⟩:=HR.o.2.2.facts;go_wp2;exact bodyPost_ret (v:=.agg #[.bool ng,.slice sa sn sc,.slice ta tn tc]) (by simp[results,results108,go_sem,g0,g1',g2']) rfl ⟨_,rfl,HR.o.1,HR.o.2.1⟩
theorem G3(w:World) (v v':Value) (q q':Rat) (L:Nat) (h:BA w v q L) (h':BA w v' q' L) (h0:1<=L) (hL:L<=16777216) :
  Calls prog 107 #[v,v'] w (Aw w (q-q')):=by
 have HN:=bH (fun W (hW:XF w W)=>L6 W v' q' L (h'.keep hW) h0 (by omega));have hsz:=(h'.sz h0).neg;have HA:=bH (fun W (hW:XF w W) u (hu:AN W u (-q'))=>DJ W v u q (-q') L (h.keep hW) (hu.reads hsz) h0 hL);rw[<- Rat.sub_eq_add_neg] at HA;obtain⟨n1,a1,l1,c1,x1,y1,k1,l,d,rfl,hr,hd,hm,hdl,hq⟩:=h.open;obtain⟨n2,a2,l2,c2,x2,y2,k2,l',d',rfl,hr',hd',hm',hdl',hq'⟩:=h'.open;clear hr hr' hd hd' hdl hdl' hq hq' h h' hm hm' hsz;go_enter func107,ntmps107;go_upto_region 0 with fail;go_cut [2,3,4] (fun v1 v2 v3 wx=>∃b1 b2 r,v1=.pointer (some ⟨b1,0,none⟩)/\v2=.pointer (some ⟨b2,0,none⟩)/\v3=.pointer (some ⟨r,0,none⟩)/\Aj wx b1 n1 (.slice a1 l1 c1) (.slice x1 y1 k1)/\Aj wx b2 n2 (.slice a2 l2 c2) (.slice x2 y2 k2)/\Aj wx r false (.slice none 0 0) (.slice none 0 0)/\b1<r/\b2<r/\w.heap.size<=r/\XF w wx);case first =>
  go_wp2;go_meet;exact⟨_,_,_,rfl,rfl,rfl,((AO rfl n1 a1 l1 c1 x1 y1 k1).alloc _).alloc _,(AO (by simp) n2 a2 l2 c2 x2 y2 k2).alloc _,AO (by simp) false none 0 0 none 0 0,(by omega),(by omega),(by omega),(((AK.refl _ w).alloc _).alloc _).alloc _⟩
 case rest =>
  obtain⟨b1,b2,r,rfl,rfl,rfl,hb1,hb2,hrb,i1,i2,hle,hx⟩:=hcut;have hS:=B5.of hb1 hb2;have HB:=bH (bI hb1 (bI hb2 (bI hrb hx)));clear hb1 hb2 hrb hx;go_upto_region 1 with fail;go_region_held3 (B5 b1 b2 n1 n2 (.slice a1 l1 c1) (.slice x1 y1 k1) (.slice a2 l2 c2) (.slice x2 y2 k2))
   (repeat (first|(with_reducible assumption)|(with_reducible refine B5.drew ?_)|(with_reducible refine B5.set ?_ _ _ ?_ ?_)|(dsimp only;omega)))
   (first
    | (go_at_call 143;(with_reducible refine (HN.o _ HB.o.2.2.2.drew).mono ?_);rintro q1 w11 ⟨v11,rfl,h11,hx11⟩;have hX1:=(AK.refl (fun _=>False) wc).drew.trans hx11;have hK1:=B5.of (HB.o.1.ext hX1 id) (HB.o.2.1.ext hX1 id);have hA:=HA.o w11 (HB.o.2.2.2.trans hX1) _ h11;obtain⟨ng1,sa1,sn1,sc1,ta1,tn1,tc1,rfl⟩:=h11.shape)
    | (go_at_call 108;(with_reducible refine hA.mono ?_);rintro q4 w14 ⟨v14,rfl,h14,hx14⟩;have hX4:=hX1.trans hx14;have hK4:=B5.of (HB.o.1.ext hX4 id) (HB.o.2.1.ext hX4 id);have hr4:=HB.o.2.2.1.ext hX4 id;obtain⟨d0,d1,d2,d3,d4,d5⟩:=hr4.facts;obtain⟨ng,sa,sn,sc,ta,tn,tc,rfl⟩:=h14.shape))
  have hp:=hr4.put (neg:=ng) (AF sa sn sc) (AF ta tn tc);have HR:=bH (bI (hp.rat h14) (bI ((HB.o.2.2.2.trans hX4).own hp.ext (fun k e=>by omega)) hp.box));clear hp hr4 h11 h14 hx11 hx14 hX1 hX4 hK1 hK4 hS hA d0 d1 d2 d3 d4 d5;generalize ((w14.setCell ⟨r,0,none⟩ (.bool ng)).setCell ⟨r,1,none⟩ (.slice sa sn sc)).setCell ⟨r,2,none⟩ (.slice ta tn tc)=w20 at *;obtain⟨g0,g1,g2,_⟩:=HR.o.2.2.facts;go_wp2;exact bodyPost_ret (v:=.agg #[.bool ng,.slice sa sn sc,.slice ta tn tc]) (by simp[results,results107,go_sem,g0,g1,g2]) rfl ⟨_,rfl,HR.o.1,HR.o.2.1⟩
theorem Uu{q q':Rat} {L M:Nat} (h:Sz q L) (h':Sz q' M):Sz (q+q') (L+M+1):=by
 have e:q+q'=mkRat (q.num*(q'.den:Int)+q'.num*(q.den:Int)) (q.den*q'.den):=by
  rw[<- Rat.mkRat_add_mkRat _ _ q.den_nz q'.den_nz,Rat.mkRat_self,Rat.mkRat_self]
 rw[e];have n1:=Nat.lt_of_lt_of_le (CP q.num.natAbs) (An h.1);have n2:=Nat.lt_of_lt_of_le (CP q'.num.natAbs) (An h'.1);have d1:=Nat.lt_of_lt_of_le (CP q.den) (An h.2);have d2:=Nat.lt_of_lt_of_le (CP q'.den) (An h'.2);have h1:(dg (q.num*(q'.den:Int)).natAbs).length<=L+M:=by
  rw[Int.natAbs_mul,Int.natAbs_natCast];exact Bk n1 d2
 have h2:(dg (q'.num*(q.den:Int)).natAbs).length<=L+M:=by
  rw[Int.natAbs_mul,Int.natAbs_natCast,Nat.add_comm L M];exact Bk n2 d1
 exact Ij (Nat.mul_pos q.den_pos q'.den_pos) (I8 h1 h2) (Nat.le_trans (Bk d1 d2) (Nat.le_succ _)) (Nat.le_refl _)
theorem FR(w:World) (v v':Value) (q q':Rat) (L:Nat) (h:BA w v q L) (h':BA w v' q' L) (h0:1<=L) (hL:L<=16777216) :
  Calls prog 56 #[v,v'] w fun r w'=>r=.returned (.int .i64 (q-q').num.sign)/\XF w w':=by
 have HS:=bH (fun W (hW:XF w W)=>G3 W v v' q q' L (h.keep hW) (h'.keep hW) h0 hL);have hsz:Sz (q-q') (L+L+1):=by rw[Rat.sub_eq_add_neg];exact Uu (h.sz h0) (h'.sz h0).neg
 have HG:=bH (fun W u (hu:AN W u (q-q'))=>C4 W u (q-q') (L+L+1) (hu.reads hsz) (by omega));obtain⟨n1,a1,l1,c1,x1,y1,k1,l,d,rfl,hr,hd,hm,hdl,hq⟩:=h.open;obtain⟨n2,a2,l2,c2,x2,y2,k2,l',d',rfl,hr',hd',hm',hdl',hq'⟩:=h'.open;clear hr hr' hd hd' hdl hdl' hq hq' h h' hm hm' hsz;generalize q-q'=Q at *;go_enter func56,ntmps56;go_upto_region 0 with fail;go_cut [2,3] (fun v1 v2 wx=>∃b1 b2,v1=.pointer (some ⟨b1,0,none⟩)/\v2=.pointer (some ⟨b2,0,none⟩)/\Aj wx b1 n1 (.slice a1 l1 c1) (.slice x1 y1 k1)/\Aj wx b2 n2 (.slice a2 l2 c2) (.slice x2 y2 k2)/\XF w wx);case first =>
  go_wp2;go_meet;exact⟨_,_,rfl,rfl,(AO rfl n1 a1 l1 c1 x1 y1 k1).alloc _,AO (by simp) n2 a2 l2 c2 x2 y2 k2,((AK.refl _ w).alloc _).alloc _⟩
 case rest =>
  obtain⟨b1,b2,rfl,rfl,hb1,hb2,hx⟩:=hcut;obtain⟨c0,c1',c2',_⟩:=hb1.facts;obtain⟨e0,e1,e2,_⟩:=hb2.facts;have HX:=bH hx;have HS1:=bH (HS.o wc hx);clear hb1 hb2 hx;go_wp2_with fail;refine HS1.o.mono ?_;rintro r1 w1 ⟨v1,rfl,h1,hx1⟩;have HG1:=bH (HG.o w1 v1 h1);have HX1:=bH (HX.o.trans hx1);obtain⟨ng,sa,sn,sc,ta,tn,tc,rfl⟩:=h1.shape;clear h1 hx1;go_wp2_with fail;refine HG1.o.mono ?_;rintro r2 w2 ⟨rfl,hx2⟩;have HX2:=bH (HX1.o.trans hx2);clear hx2;go_wp2;go_ret;exact⟨rfl,HX2.o⟩
structure Ey where
 lo:Int
 up:Int
 op:Bool
 ig:Bool
 co:Int
structure B1 where
 var:Int
 coef:Int
structure DD where
 name:ByteArray
 group:Int
 kind:Int
 terms:List B1
 bound:Int
structure AH where
 vars:List Ey
 rows:List DD
def Fs:Ey:=⟨0,0,false,false,0⟩
def AW:B1:=⟨0,0⟩
def GC:DD:=⟨.empty,0,0,[],0⟩
def AH.v(p:AH) (i:Nat):Ey:=p.vars.getD i Fs
def AH.r(p:AH) (i:Nat):DD:=p.rows.getD i GC
def DD.t(r:DD) (i:Nat):B1:=r.terms.getD i AW
def AG:Nat->(Nat->Rat)->Rat
 | 0,_=>0
 | n+1,f=>AG n f+f n
theorem AE{f g:Nat->Rat}:∀{n:Nat},(∀i,i<n->f i=g i)->AG n f=AG n g
 | 0,_=>rfl
 | n+1,h=>by
  show AG n f+f n=AG n g+g n;rw[AE (n:=n) (fun i hi=>h i (by omega)),h n (by omega)]
theorem Cg:∀n:Nat,AG n (fun _=>0)=0
 | 0=>rfl
 | n+1=>by
  show AG n (fun _=>0)+0=0;rw[Cg n];grind
theorem Af{f:Nat->Rat} {n:Nat} (h:∀i,i<n->f i=0):AG n f=0:=by
 rw[AE h,Cg]
theorem DM(f g:Nat->Rat):∀n:Nat,AG n (fun i=>f i+g i)=AG n f+AG n g
 | 0=>by unfold AG;grind
 | n+1=>by
  show AG n (fun i=>f i+g i)+(f n+g n)=(AG n f+f n)+(AG n g+g n);rw[DM f g n];grind
theorem B8(f g:Nat->Rat):∀n:Nat,AG n (fun i=>f i-g i)=AG n f-AG n g
 | 0=>by unfold AG;grind
 | n+1=>by
  show AG n (fun i=>f i-g i)+(f n-g n)=(AG n f+f n)-(AG n g+g n);rw[B8 f g n];grind
theorem A2(c:Rat) (f:Nat->Rat):∀n:Nat,AG n (fun i=>c*f i)=c*AG n f
 | 0=>by unfold AG;grind
 | n+1=>by
  show AG n (fun i=>c*f i)+c*f n=c*(AG n f+f n);rw[A2 c f n];grind
theorem Du{f g:Nat->Rat}:∀{n:Nat},(∀i,i<n->f i<=g i)->AG n f<=AG n g
 | 0,_=>Rat.le_refl
 | n+1,h=>by
  show AG n f+f n<=AG n g+g n;have h1:=Du (n:=n) (fun i hi=>h i (by omega));have h2:=h n (by omega);grind
theorem CB(f:Nat->Nat->Rat) (m:Nat):∀n:Nat,AG n (fun i=>AG m (fun j=>f i j))=AG m (fun j=>AG n (fun i=>f i j))
 | 0=>by
  show (0:Rat)=AG m (fun _=>0);rw[Cg]
 | n+1=>by
  show AG n (fun i=>AG m (fun j=>f i j))+AG m (fun j=>f n j)=AG m (fun j=>AG n (fun i=>f i j)+f n j);rw[DM,CB f m n]
theorem BK(c:Rat):∀(n j:Nat),AG n (fun i=>if i=j then c else 0)=if j<n then c else 0
 | 0,j=>by unfold AG;simp
 | n+1,j=>by
  show AG n (fun i=>if i=j then c else 0)+(if n=j then c else 0)=_;rw[BK c n j];by_cases h:n=j
  ·subst h;rw[if_neg (Nat.lt_irrefl n),if_pos rfl,if_pos (Nat.lt_succ_self n)];grind
  rw[if_neg h];by_cases h2:j<n
  ·rw[if_pos h2,if_pos (by omega)];grind
  rw[if_neg h2,if_neg (by omega)];grind
def Am(x:List Rat) (i:Int):Rat:=if i<0 then 0 else x.getD i.toNat 0
theorem Pk(x:List Rat) (i:Nat):Am x i=x.getD i 0:=by
 unfold Am;rw[if_neg (by omega)];rfl
theorem G1(x:List Rat) {i:Int} (h:i<0):Am x i=0:=if_pos h
theorem Gw(x:List Rat) {i:Int} (h:(x.length:Int)<=i):Am x i=0:=by
 unfold Am;rw[if_neg (by omega),List.getD_eq_getElem?_getD,List.getElem?_eq_none (by omega)];rfl
theorem U8(x:List Rat) {i:Nat} (h:i<x.length):Am x i=x[i]:=by
 rw[Pk,List.getD_eq_getElem?_getD,List.getElem?_eq_getElem h];rfl
def Bs(ts:List B1) (x:List Rat):Rat:=AG ts.length fun k=>((ts.getD k AW).coef:Rat)*Am x (ts.getD k AW).var
def Al(p:AH) (x:List Rat):Rat:=AG p.vars.length fun i=>((p.v i).co:Rat)*Am x i
def EM(k:Int) (d b:Rat):Bool:=if k=0 then decide (d<=b) else if k=1 then decide (b<=d) else decide (d=b)
def CC(r:DD) (x:List Rat):Bool:=EM r.kind (Bs r.terms x) r.bound
def Bg(p:AH) (x:List Rat):List Rat:=x.take p.vars.length
theorem OS(p:AH) (x:List Rat) {i:Int} (h:i<p.vars.length):Am (Bg p x) i=Am x i:=by
 unfold Am Bg;split
 ·rfl
 rw[List.getD_eq_getElem?_getD,List.getD_eq_getElem?_getD,List.getElem?_take_of_lt (by omega)]
def EG(f:Nat->Bool):Nat->List Nat
 | 0=>[]
 | n+1=>if f n then EG f n else EG f n++[n]
theorem Fg{f:Nat->Bool}:∀{n:Nat},EG f n=[]↔∀i,i<n->f i=true
 | 0=>by simp[EG]
 | n+1=>by
  unfold EG;by_cases h:f n
  ·rw[if_pos h,Fg (n:=n)];constructor
   ·intro h1 i hi;by_cases e:i=n
    ·rw[e];exact h
    exact h1 i (by omega)
   exact fun h1 i hi=>h1 i (by omega)
  rw[if_neg h];constructor
  ·intro h1;simp at h1
  intro h1;exact absurd (h1 n (by omega)) h
def Kc(p:AH) (x:List Rat):List Nat:=EG (fun i=>CC (p.r i) (Bg p x)) p.rows.length
def BY:Nat->(Nat->Bool)->Bool
 | 0,_=>true
 | n+1,f=>BY n f&&f n
theorem A5{f:Nat->Bool}:∀{n:Nat},BY n f=true↔∀i,i<n->f i=true
 | 0=>by simp[BY]
 | n+1=>by
  unfold BY;rw[Bool.and_eq_true,A5 (n:=n)];constructor
  ·rintro⟨h1,h2⟩ i hi;by_cases e:i=n
   ·rw[e];exact h2
   exact h1 i (by omega)
  exact fun h=>⟨fun i hi=>h i (by omega),h n (by omega)⟩
theorem B6{f:Nat->Bool} {n i:Nat} (hi:i<n) (h:f i=false):BY n f=false:=by
 cases hq:BY n f with
 | false=>rfl
 | true=>have:=A5.1 hq i hi;rw[h] at this;cases this
def DI(p:AH) (x:List Rat):Bool:=BY p.vars.length fun i=>decide (((p.v i).lo:Rat)<=Am x i)&&((p.v i).op||decide (Am x i<=((p.v i).up:Rat)))
def Js(k:Int) (s:Rat):Bool:=!(decide (k=1)&&decide (s<0)||decide (k=0)&&decide (0<s))
def Cw(p:AH) (y:List Rat):Bool:=BY p.rows.length fun i=>Js (p.r i).kind (Am y i)
def Ax(p:AH) (y:List Rat) (j:Nat):Rat:=AG p.rows.length fun i=>AG (p.r i).terms.length fun k=>if ((p.r i).t k).var=(j:Int) then (((p.r i).t k).coef:Rat)*Am y i else 0
def C3(p:AH) (y:List Rat):Rat:=AG p.rows.length fun i=>((p.r i).bound:Rat)*Am y i
def CS(p:AH):Bool:=!BY p.vars.length fun i=>(p.v i).op||decide ((p.v i).lo<=(p.v i).up)
def Pa(p:AH) (c:List Rat):Bool:=BY p.vars.length fun i=>!((p.v i).op&&decide (Am c i<0))
def EL(v:Ey) (c:Rat):Int:=if c<0 then v.up else v.lo
def IR(p:AH) (c:List Rat):Rat:=AG p.vars.length fun i=>(EL (p.v i) (Am c i):Rat)*Am c i
def CH(p:AH) (c:List Rat):Option Rat:=if CS p || !Pa p c then none else some (IR p c)
def CT(n:Int):Bool:=decide (-1099511627776<=n)&&decide (n<=1099511627776)
def Bq(n:Int):Int->List B1->Bool
 | _,[]=>true
 | last,t::l=>decide (last<t.var)&&decide (t.var<n) && !decide (t.coef=0)&&CT t.coef&&Bq n t.var l
def E8(s:ByteArray):Bool:=s.toList.all fun b=>decide (32<=b.toNat)&&decide (b.toNat<=126)
def Cx(n:Int) (r:DD):Bool:=decide (0<=r.kind)&&decide (r.kind<=2)&&decide (0<=r.group)&&decide (r.group<=60)&&decide (r.name.size<=80)&&CT r.bound&&E8 r.name&&Bq n (-1) r.terms
def Gk(v:Ey):Bool:=CT v.lo&&CT v.up&&CT v.co && !(v.op && !decide (v.up=0))
def AU(p:AH):Bool:=decide (p.vars.length<=400)&&decide (p.rows.length<=4000)&&p.vars.all Gk&&p.rows.all (Cx p.vars.length)
def AP(n:Nat) (f:Nat->Rat):List Rat:=(List.range n).map f
theorem A9(n:Nat) (f:Nat->Rat):(AP n f).length=n:=by simp[AP]
theorem BH{n i:Nat} (f:Nat->Rat) (h:i<n):Am (AP n f) i=f i:=by
 rw[Pk];simp[AP,List.getD_eq_getElem?_getD,h]
theorem Jn(n:Nat) (f:Nat->Rat):AP (n+1) f=AP n f++[f n]:=by simp[AP,List.range_succ]
def FF(p:AH) (y:List Rat):Option Rat :=
 if AU p&&Cw p y then (CH p (AP p.vars.length fun i=>((p.v i).co:Rat)-Ax p y i)).map (C3 p y+·) else none
def D4(p:AH) (x:List Rat):Bool:=AU p&&DI p x&&decide (Kc p x=[])
def JO(p:AH) (x y:List Rat):Bool:=D4 p x&&decide (FF p y=some (Al p x))
def JB(p:AH) (y:List Rat):Bool:=AU p&&Cw p y&&(CS p||match CH p (AP p.vars.length fun i=>-Ax p y i) with|some l=>decide (-C3 p y<l)|none=>false)
def VB(p:AH) (z:List Rat):Bool:=BY p.vars.length fun i=>!decide (Am z i<0)&&(!decide (0<Am z i)||(p.v i).op)
def UW(p:AH) (z:List Rat):Bool:=BY p.rows.length fun i=>EM (p.r i).kind (Bs (p.r i).terms (Bg p z)) 0
def Mg(p:AH) (x z:List Rat):Bool:=D4 p x&&decide (Al p z<0)&&VB p z&&UW p z
end Go.Proofs.YtglepbhkilbbcaaGreat
