/-
  Texts of the proof, part 2. Conditions: each lemma names its own.
-/
import Derived.Test.YtlbjfkdgbhkdcaaGreatDoorZ1
import Derived.Laws.BitsAllLaws
import Derived.Maps.RangeWalk
set_option linter.unusedVariables false
set_option linter.unusedSimpArgs false
set_option maxRecDepth 100000
set_option maxHeartbeats 16000000
namespace Go.Proofs.YtlbjfkdgbhkdcaaGreatDoor
open Go.RowKit Go.MapKept
open Go.ChangeMaps (setBlock)
theorem dg_two_lt {n:Nat} (h:(dg n).length<=2):n<18446744073709551616:=Nat.lt_of_lt_of_le (dg_lt n) (pow_mono h)
theorem gcd_any (w:World) (va vb:Value) (a b:List Nat) (ha:Rds w va a) (hb:Rds w vb b) (hal:a.length<=268435455) (hbl:b.length<=268435455) :
  Calls Tryz.prog 124 #[va,vb] w (NatPost w (Nat.gcd (vl a) (vl b))):=by
 have Fa:=bH (fresh_any w va a ha (by omega))
 have Fb:=bH (fun W (hW:XF w W)=>fresh_any W vb b (hb.keep hW) (by omega))
 have la:=trimL_length a ha.1
 have lb:=trimL_length b hb.1
 unfold trimL at la lb
 have hla:(dg (vl a)).length<=268435455:=by omega
 have hlb:(dg (vl b)).length<=268435455:=by omega
 generalize vl a=x0 at *
 generalize vl b=y0 at *
 have HL:=bH (bI hla hlb)
 clear ha hb hal hbl la lb hla hlb
 go_enter Tryz.func124,Tryz.ntmps124
 go_wp2_with fail
 refine Fa.out.mono ?_
 rintro r w1 ⟨v1,rfl,h1,hx1⟩
 have Fb1:=bH (Fb.out w1 hx1)
 have H1:=bH (bI h1 hx1)
 clear h1 hx1 Fa Fb
 go_wp2_with fail
 refine Fb1.out.mono ?_
 rintro r w2 ⟨v2,rfl,h2,hx2⟩
 have HI:=bH (bI (H1.out.1.keep hx2) (bI h2 (H1.out.2.trans hx2)))
 clear h2 hx2 Fb1 H1
 go_wp2_with fail
 go_loopg [0,1] y0 (fun g v0 v1 wr=>∃ x y:Nat,g=y/\IsNat wr v0 x/\IsNat wr v1 y/\(dg x).length<=268435455/\(dg y).length<=268435455/\Nat.gcd x y=Nat.gcd x0 y0/\XF w wr)
 case atStart=>exact ⟨x0,y0,rfl,HI.out.1,HI.out.2.1,HL.out.1,HL.out.2,rfl,HI.out.2.2⟩
 case round =>
  rename_i v0 v1
  obtain ⟨x,y,hg,h0,h1,hlx,hly,hgc,hx⟩:=hrel
  obtain rfl:=hg.symm
  clear HI HL
  have h0':=h0
  have h1':=h1
  obtain ⟨ao,ca,rfl,_⟩:=h0'.2
  obtain ⟨bo,cb,rfl,_⟩:=h1'.2
  by_cases hy:y=0
  ·subst hy
   rw [Nat.gcd_zero_right] at hgc
   rw [dg_zero]
   have HP:Hid (NatPost w (Nat.gcd x0 y0) (.returned (.slice ao (dg x).length ca)) wr):=bH ⟨_,rfl,by rw [<- hgc]; exact h0,hx⟩
   clear h0 h1 h0' h1' hgc hx hlx hly
   generalize (dg x).length=lx at *
   simp only [List.length_nil]
   go_wp2
   go_ret
   exact HP.out
  ·obtain ⟨m,hm⟩:∃ m,(dg x).length=m:=⟨_,rfl⟩
   obtain ⟨k,hk⟩:∃ k,(dg y).length=k:=⟨_,rfl⟩
   have hk0:0<k:=by
    rcases Nat.eq_zero_or_pos k with h | h
    ·exact absurd (dg_eq_nil.1 (List.eq_nil_of_length_eq_zero (hk.trans h))) hy
    ·exact h
   have hki:(0:Int)<(k:Int):=by omega
   have HD:=divmod_any wr _ _ _ _ h0 h1 hlx hly
   have HS:=fun h2 h3=>small_any wr _ _ _ _ h0 h1 h2 h3
   rw [vl_dg,vl_dg,hm,hk] at HD HS
   have hlx':=hlx
   have hly':=hly
   rw [hm] at hlx'
   rw [hk] at hly'
   have H0:=bH (bI h0 (bI h1 (bI hx hgc)))
   have Hm:=bH (bI hm (bI hk (bI hlx hly)))
   rw [hm,hk]
   have Hy:=bH hy
   by_cases h22:m<=2/\k<=2
   ·have HS':=bH (HS (dg_two_lt (by omega)) (dg_two_lt (by omega)))
    have m2:(m:Int)<=2:=by omega
    have k2:(k:Int)<=2:=by omega
    clear h0 h1 h0' h1' hgc hx hlx hly hm hk HD HS h22 hy
    go_wp2_with fail
    refine HS'.out.mono ?_
    rintro r w9 ⟨v9,rfl,h9,hx9⟩
    have HP:Hid (NatPost w (Nat.gcd x0 y0) (.returned v9) w9):=bH ⟨_,rfl,by rw [<- H0.out.2.2.2]; exact h9,H0.out.2.2.1.trans hx9⟩
    clear h9 hx9
    go_wp2
    go_ret
    exact HP.out
   ·have hD':DivPost wr x y=fun r w'=>∃ v1 v2,r=.returned (.tuple #[v1,v2,.int .i64 0])/\IsNat w' v1 (x / y)/\IsNat w' v2 (x % y)/\XF wr w':=by
     funext r w'; unfold DivPost; rw [if_neg hy]
    rw [hD'] at HD
    have HD':=bH HD
    have hlt:=Nat.mod_lt x (Nat.pos_of_ne_zero hy)
    have hmono:=dg_mono (Nat.le_of_lt hlt)
    have hgn:Nat.gcd y (x % y)=Nat.gcd x0 y0:=by rw [<- hgc,Nat.gcd_comm y,<- Nat.gcd_rec,Nat.gcd_comm]
    have HN:=bH (bI hlt (bI hgn (Nat.le_trans hmono hly)))
    have hcase:¬ (m:Int)<=2∨((m:Int)<=2/\¬ (k:Int)<=2):=by omega
    clear h0 h1 h0' h1' hgc hx hlx hly hm hk HD HS h22 hy hD' hlt hmono hgn
    rcases hcase with m2 | ⟨m2,k2⟩
    all_goals
     go_wp2_with fail
     refine HD'.out.mono ?_
     rintro r w9 ⟨v8,v9,rfl,_,h9,hx9⟩
     have HF:Hid (IsNat w9 (.slice bo k cb) y/\IsNat w9 v9 (x % y)/\XF w w9):=bH ⟨by have:=H0.out.2.1.keep hx9; rw [Hm.out.2.1] at this; exact this,h9,H0.out.2.2.1.trans hx9⟩
     clear h9 hx9
     go_wp2
     go_roundg (x % y)
    case measure=>exact HN.out.1
    case rel=>exact ⟨y,x % y,rfl,HF.out.1,HF.out.2.1,Hm.out.2.2.2,HN.out.2.2,HN.out.2.1,HF.out.2.2⟩
    case measure=>exact HN.out.1
    case rel=>exact ⟨y,x % y,rfl,HF.out.1,HF.out.2.1,Hm.out.2.2.2,HN.out.2.2,HN.out.2.1,HF.out.2.2⟩
def BitsPost (w:World) (n:Nat) (r:Ending) (w':World):Prop:=∃ m:Nat,r=.returned (.int .i64 m)/\w'=w/\(m=0↔n=0)
theorem bits_any (w:World) (v:Value) (l:List Nat) (h:Rds w v l) (hl:l.length<=268435455):Calls Tryz.prog 76 #[v] w (BitsPost w (vl l)):=by
 have HT:=bH (trim_any w v l h)
 have ll:=trimL_length l h.1
 unfold trimL at HT ll
 generalize vl l=n at *
 have hl2:(dg n).length<=268435455:=by omega
 clear h ll hl
 go_enter Tryz.func76,Tryz.ntmps76
 go_wp2_with fail
 refine HT.out.mono ?_
 rintro r w' ⟨hw,v1,rfl,h1⟩; obtain rfl:=hw.symm
 obtain ⟨ao,c,rfl,_⟩:=id h1.2
 obtain ⟨k,hk⟩:∃ k,(dg n).length=k:=⟨_,rfl⟩
 rw [hk] at h1 hl2 ⊢
 by_cases h0:k=0
 ·subst h0
  have hn:n=0:=dg_eq_nil.1 (List.eq_nil_of_length_eq_zero hk)
  have HP:Hid (BitsPost w n (.returned (.int .i64 0)) w):=bH ⟨0,rfl,rfl,by simp [hn]⟩
  clear hn h1 hk HT
  go_wp2
  go_ret
  exact HP.out
 ·obtain ⟨j,hj⟩:∃ j,k=j+1:=⟨k - 1,by omega⟩
  obtain ⟨bb,ob,rfl,hbb⟩:=h1.base (by omega)
  have c0:=h1.at.2 j (by omega)
  obtain ⟨hp,_,_⟩:=dg_last (n:=n) (k:=j) (by omega)
  have htl:=dgt_lt (dg_dig n) j
  generalize dgt (dg n) j=t at *
  have HL:=bH (Tryz.bits_Len32 (t:Int) w (by omega) (by omega))
  rw [Int.toNat_natCast] at HL
  have hbl:=bitLen_lt htl
  have hb32:=Any.bitLen_le32 t (by omega) (by omega)
  rw [Int.toNat_natCast] at hb32
  generalize Lib.bitLen t=q at *
  have hq0:0<q:=by
   rcases Nat.eq_zero_or_pos q with rfl | h
   ·simp at hbl; omega
   ·exact h
  have hne:¬ n=0:=fun h=>h0 (by rw [<- hk,h,dg_zero]; rfl)
  obtain ⟨S,hS⟩:∃ S,32*j+q=S:=⟨_,rfl⟩
  have HP:Hid (BitsPost w n (.returned (.int .i64 S)) w):=bH ⟨S,rfl,rfl,by constructor <;> intro h <;> omega⟩
  have i0:(k:Int) - 1=j:=by omega
  have i1:(j:Int)<(k:Int):=by omega
  have i2:(32:Int)*j+q=S:=by omega
  have i3:¬ (k:Int)=0:=by omega
  clear h1 hk HT hj hp hbl hS hne
  go_wp2_with fail
  refine HL.out.mono ?_
  rintro r w' ⟨rfl,hw⟩; obtain rfl:=hw.symm
  clear hw HL c0
  go_wp2
  go_ret
  exact HP.out
def sg (neg:Bool) (n:Nat):Int:=if neg then -(n:Int) else n
theorem sg_natAbs (neg:Bool) (n:Nat):(sg neg n).natAbs=n:=by unfold sg; split <;> omega
theorem sg_neg (neg:Bool) (n:Nat):decide (sg neg n<0)=(neg && decide (0<n)):=by
 unfold sg
 cases neg
 ·simp
 ·simp
def Rint (w:World) (v:Value) (z:Int) (L:Nat):Prop:=∃ neg mag l,v=.agg #[.bool neg,mag]/\Rds w mag l/\l.length<=L/\z=sg neg (vl l)
def IsInt (w:World) (v:Value) (z:Int):Prop:=∃ mag,v=.agg #[.bool (decide (z<0)),mag]/\IsNat w mag z.natAbs
def IntPost (w:World) (z:Int) (r:Ending) (w':World):Prop:=∃ v,r=.returned v/\IsInt w' v z/\XF w w'
theorem IsNat.keep {w w':World} {v:Value} {n:Nat} (h:IsNat w v n) (hx:XF w w'):IsNat w' v n:=Rds.keep h hx
theorem Rint.keep {w w':World} {v:Value} {z:Int} {L:Nat} (h:Rint w v z L) (hx:XF w w'):Rint w' v z L:=by
 obtain ⟨neg,mag,l,h1,h2,h3⟩:=h
 exact ⟨neg,mag,l,h1,h2.keep hx,h3⟩
theorem IsInt.keep {w w':World} {v:Value} {z:Int} (h:IsInt w v z) (hx:XF w w'):IsInt w' v z:=by
 obtain ⟨mag,h1,h2⟩:=h
 exact ⟨mag,h1,h2.keep hx⟩
theorem IsInt.reads {w:World} {v:Value} {z:Int} {L:Nat} (h:IsInt w v z) (hl:(dg z.natAbs).length<=L):Rint w v z L:=by
 obtain ⟨mag,h1,h2⟩:=h
 refine ⟨_,mag,_,h1,h2,hl,?_⟩
 rw [vl_dg]
 unfold sg
 split
 ·rename_i h; have:=of_decide_eq_true h; omega
 ·rename_i h; have:¬ z<0:=fun h'=>h (decide_eq_true h'); omega
theorem IsInt.mk {w:World} {mag:Value} {n:Nat} (neg:Bool) (h:IsNat w mag n):IsInt w (.agg #[.bool (neg && decide (0<n)),mag]) (sg neg n) :=
 ⟨mag,by rw [sg_neg],by rw [sg_natAbs]; exact h⟩
theorem IsNat.shape {w:World} {v:Value} {n:Nat} (h:IsNat w v n):∃ ao c,v=.slice ao (dg n).length c:=by
 obtain ⟨ao,c,h,_⟩:=h.2
 exact ⟨ao,c,h⟩
theorem signed_any (w:World) (neg:Bool) (mag:Value) (n:Nat) (h:IsNat w mag n) (hl:(dg n).length<=268435455) :
  Calls Tryz.prog 74 #[.bool neg,mag] w (IntPost w (sg neg n)):=by
 have HB:=bH (fun W (hW:XF w W)=>bits_any W mag _ (h.keep hW) hl)
 rw [vl_dg] at HB
 have HI:=bH (IsInt.mk neg h)
 obtain ⟨ao,c,rfl⟩:=h.shape
 clear h
 generalize (dg n).length=m at *
 go_enter Tryz.func74,Tryz.ntmps74
 cases neg
 ·go_wp2
  refine bodyPost_ret (v:=.agg #[.bool false,.slice ao m c]) (by simp [results,Tryz.results74,go_sem]) rfl ⟨_,rfl,?_,?_⟩
  ·have:=HI.out.keep ((Ext.refl _ w).alloc (.cells #[.bool false,.slice ao m c] 47))
   rwa [Bool.false_and] at this
  ·exact (Ext.refl _ w).alloc _
 ·go_wp2_with fail
  refine (HB.out _ ((Ext.refl _ w).alloc _)).mono ?_
  rintro r w' ⟨q,rfl,hw,hq⟩
  subst hw
  have hd:decide (0<n)=decide ((0:Int)<(q:Int)):=by
   by_cases h0:n=0
   ·rw [h0,hq.2 h0]; rfl
   ·have:¬ q=0:=fun h=>h0 (hq.1 h)
    rw [decide_eq_true (by omega:0<n),decide_eq_true (by omega:(0:Int)<(q:Int))]
  have HI':=bH HI.out
  rw [hd,Bool.true_and] at HI'
  clear hd hq HI HB
  go_wp2
  refine bodyPost_ret (v:=.agg #[.bool (decide ((0:Int)<(q:Int))),.slice ao m c]) (by simp [results,Tryz.results74,go_sem]) rfl ⟨_,rfl,?_,?_⟩
  ·exact HI'.out.keep (by repeat (first | exact Ext.refl _ _ | apply Ext.alloc))
  ·repeat (first | exact Ext.refl _ _ | apply Ext.alloc)
def NoDig (w:World) (k:Nat):Prop:=∀ i d,w.cell? ⟨k,i,none⟩≠some (.int .u32 d)
theorem Rds.past {S:Nat->Prop} {w w':World} {v:Value} {l:List Nat} (h:Rds w v l) (hx:Ext S w w') (hS:∀ k,k<w.heap.size->S k->NoDig w k):Rds w' v l:=by
 obtain ⟨h0,ao,c,rfl,h1,h2,h3,h4⟩:=h
 refine ⟨h0,_,_,rfl,h1,h2,h3,fun hp=>?_⟩
 obtain ⟨b,off,e,hbl,hc⟩:=h4 hp
 have hn:¬ S b:=fun hs=>hS b hbl hs (off+0) _ (hc 0 l[0] (List.getElem?_eq_getElem hp))
 exact ⟨b,off,e,Nat.lt_of_lt_of_le hbl hx.size,fun i d hi=>(hx.cell (p:=⟨b,off+i,none⟩) hbl hn).trans (hc i d hi)⟩
def BoxI (w:World) (b:Nat) (neg:Bool) (mag:Value):Prop:=blk w b=some (.cells #[.bool neg,mag] 47 (0,0))/\∀ k d,mag≠.int k d
theorem Rds.noInt {w:World} {v:Value} {l:List Nat} (h:Rds w v l) (k:IntKind) (d:Int):v≠.int k d:=by
 obtain ⟨_,ao,c,rfl,_⟩:=h
 intro e; cases e
theorem BoxI.lt {w:World} {b:Nat} {neg:Bool} {mag:Value} (h:BoxI w b neg mag):b<w.heap.size:=blk_lt h.1
theorem BoxI.facts {w:World} {b:Nat} {neg:Bool} {mag:Value} (h:BoxI w b neg mag):w.cell? ⟨b,0,none⟩=some (.bool neg)/\w.cell? ⟨b,1,none⟩=some mag/\w.frozen? ⟨b,0,none⟩=false/\w.frozen? ⟨b,1,none⟩=false :=
 ⟨by simpa using cell_of_cells h.1 0,by simpa using cell_of_cells h.1 1,free_of_cells h.1 0,free_of_cells h.1 1⟩
theorem BoxI.noDig {w:World} {b:Nat} {neg:Bool} {mag:Value} (h:BoxI w b neg mag):NoDig w b:=fun i d=>by
 rw [cell_of_cells h.1 i]
 match i with
 | 0=>simp
 | 1=>simpa using h.2 .u32 d
 | i+2=>simp
theorem BoxI.ext {S:Nat->Prop} {w w':World} {b:Nat} {neg:Bool} {mag:Value} (h:BoxI w b neg mag) (hx:Ext S w w') (hn:¬ S b):BoxI w' b neg mag:=⟨(hx.blk h.lt hn).trans h.1,h.2⟩
structure Put (w w':World) (r:Nat) (neg:Bool) (mag:Value):Prop where
 box:BoxI w' r neg mag
 ext:Ext (fun k=>k=r) w w'
 rds:∀ v l,Rds w v l->Rds w' v l
theorem BoxI.put {w:World} {r:Nat} {n0 neg:Bool} {m0 mag:Value} (h:BoxI w r n0 m0) (hm:∀ k d,mag≠.int k d):Put w ((w.setCell ⟨r,0,none⟩ (.bool neg)).setCell ⟨r,1,none⟩ mag) r neg mag:=by
 have hx:Ext (fun k=>k=r) w ((w.setCell ⟨r,0,none⟩ (.bool neg)).setCell ⟨r,1,none⟩ mag):=((Ext.refl (fun k=>k=r) w).setCell (p:=⟨r,0,none⟩) _ (fun _=>rfl)).setCell (p:=⟨r,1,none⟩) _ (fun _=>rfl)
 refine ⟨⟨?_,hm⟩,hx,fun v l hr=>hr.past hx (fun k _ e=>by subst e; exact h.noDig)⟩
 have h1:=blk_setCell_same h.1 0 (.bool neg)
 have h2:=blk_setCell_same h1 1 mag
 simpa using h2
theorem Put.int {w w':World} {r:Nat} {neg:Bool} {mag v:Value} {z:Int} (h:Put w w' r neg mag) (hi:IsInt w v z):IsInt w' v z:=by
 obtain ⟨m,h1,h2⟩:=hi
 exact ⟨m,h1,h.rds _ _ h2⟩
theorem IsInt.shape {w:World} {v:Value} {z:Int} (h:IsInt w v z):∃ neg ao n c,v=.agg #[.bool neg,.slice ao n c]:=by
 obtain ⟨m,h1,h2⟩:=h
 obtain ⟨ao,c,rfl⟩:=h2.shape
 exact ⟨_,_,_,_,h1⟩
theorem no_int (ao:Option Addr) (n c:Nat):∀ k d,Value.slice ao n c≠.int k d:=fun _ _ h=>by cases h
theorem isign_any (w:World) (v:Value) (z:Int) (L:Nat) (h:Rint w v z L) (hL:L<=268435455) :
  Calls Tryz.prog 72 #[v] w fun r w'=>r=.returned (.int .i64 z.sign)/\XF w w':=by
 obtain ⟨neg,mag,l,rfl,hr,hl,rfl⟩:=h
 have HB:=bH (fun W (hW:XF w W)=>bits_any W mag l (hr.keep hW) (by omega))
 have hs:(sg neg (vl l)).sign=if vl l=0 then 0 else if neg then -1 else 1:=by
  unfold sg
  by_cases h0:vl l=0
  ·rw [h0]; cases neg <;> rfl
  ·rw [if_neg h0]
   cases neg
   ·simp; omega
   ·simp; omega
 rw [hs]
 generalize vl l=n at *
 clear hs hr hl
 by_cases h0:n=0
 ·rw [if_pos h0]
  have H0:=bH h0
  clear h0
  go_enter Tryz.func72,Tryz.ntmps72
  go_wp2_with fail
  refine (HB.out _ ((Ext.refl _ w).alloc _)).mono ?_
  rintro r w' ⟨q,rfl,hw,hq⟩
  subst hw
  obtain rfl:=hq.2 H0.out
  clear HB hq
  go_wp2
  go_ret
  exact ⟨rfl,(Ext.refl _ w).alloc _⟩
 ·rw [if_neg h0]
  have H0:=bH h0
  clear h0
  go_enter Tryz.func72,Tryz.ntmps72
  go_wp2_with fail
  refine (HB.out _ ((Ext.refl _ w).alloc _)).mono ?_
  rintro r w' ⟨q,rfl,hw,hq⟩
  subst hw
  have hq0:¬ (q:Int)=0:=fun h=>H0.out (hq.1 (by omega))
  clear hq HB
  cases neg
  ·go_wp2
   go_ret
   exact ⟨rfl,(Ext.refl _ w).alloc _⟩
  ·go_wp2
   go_ret
   exact ⟨rfl,(Ext.refl _ w).alloc _⟩
theorem ifrom_any (w:World) (k:Int) (h0:-9223372036854775808<=k) (h1:k<=9223372036854775807) :
  Calls Tryz.prog 57 #[.int .i64 k] w (IntPost w k):=by
 by_cases hk:k<0
 ·obtain ⟨n,hn⟩:∃ n:Nat,k = -(n:Int):=⟨k.natAbs,by omega⟩
  have HF:=bH (fun W=>from_any W n (by omega))
  have HS:=bH (fun W v h=>signed_any W true v n h (Nat.le_trans (dg_two (n:=n) (by omega)).1 (by omega)))
  have hz:sg true n=k:=by unfold sg; simp [hn]
  rw [hz] at HS
  have q1:IntKind.u64.wrap (-IntKind.u64.wrap (-(n:Int)))=n:=by rw [wrapU,wrapU]; omega
  subst hn
  clear hz
  go_enter Tryz.func57,Tryz.ntmps57
  go_wp2_with fail
  refine (HF.out _).mono ?_
  rintro r w1 ⟨v1,rfl,h1,hx1⟩
  have HS1:=bH (HS.out w1 v1 h1)
  obtain ⟨ao,c,rfl⟩:=h1.shape
  have hb0:BoxI (w.alloc (.cells #[.bool false,.slice none 0 0] 47)) w.heap.size false (.slice none 0 0):=⟨blk_alloc_at _ _,fun _ _ h=>(by cases h)⟩
  have HB1:=bH (hb0.ext hx1 id)
  have HX1:=bH (((Ext.refl (fun _=>False) w).alloc _).trans hx1)
  clear hb0 h1 hx1
  go_wp2_with fail
  refine HS1.out.mono ?_
  rintro r w2 ⟨v2,rfl,h2,hx2⟩
  have hb2:=HB1.out.ext hx2 id
  obtain ⟨f0,f1,f2,f3⟩:=hb2.facts
  obtain ⟨neg,so,sn,sc,rfl⟩:=h2.shape
  have hp:=hb2.put (neg:=neg) (no_int so sn sc)
  have HR:Hid (IsInt _ _ (-(n:Int))/\XF w _):=bH ⟨hp.int h2,(HX1.out.trans hx2).own hp.ext (fun k e=>by omega)⟩
  have hg:=hp.box.facts
  have HG:=bH hg
  clear hb2 h2 hx2 hp hg
  go_wp2
  generalize (w2.setCell ⟨w.heap.size,0,none⟩ (.bool neg)).setCell ⟨w.heap.size,1,none⟩ (.slice so sn sc)=w9 at *
  obtain ⟨g0,g1,_⟩:=HG.out
  exact bodyPost_ret (v:=.agg #[.bool neg,.slice so sn sc]) (by simp [results,Tryz.results57,go_sem,g0,g1]) rfl ⟨_,rfl,HR.out.1,HR.out.2⟩
 ·obtain ⟨n,hn⟩:∃ n:Nat,k=(n:Int):=⟨k.natAbs,by omega⟩
  have HF:=bH (fun W=>from_any W n (by omega))
  have HS:=bH (fun W v h=>signed_any W false v n h (Nat.le_trans (dg_two (n:=n) (by omega)).1 (by omega)))
  have hz:sg false n=k:=by unfold sg; simp [hn]
  rw [hz] at HS
  have q1:IntKind.u64.wrap (n:Int)=n:=by rw [wrapU]; omega
  subst hn
  clear hz
  go_enter Tryz.func57,Tryz.ntmps57
  go_wp2_with fail
  refine (HF.out _).mono ?_
  rintro r w1 ⟨v1,rfl,h1,hx1⟩
  have HS1:=bH (HS.out w1 v1 h1)
  obtain ⟨ao,c,rfl⟩:=h1.shape
  have hb0:BoxI (w.alloc (.cells #[.bool false,.slice none 0 0] 47)) w.heap.size false (.slice none 0 0):=⟨blk_alloc_at _ _,fun _ _ h=>(by cases h)⟩
  have HB1:=bH (hb0.ext hx1 id)
  have HX1:=bH (((Ext.refl (fun _=>False) w).alloc _).trans hx1)
  clear hb0 h1 hx1
  go_wp2_with fail
  refine HS1.out.mono ?_
  rintro r w2 ⟨v2,rfl,h2,hx2⟩
  have hb2:=HB1.out.ext hx2 id
  obtain ⟨f0,f1,f2,f3⟩:=hb2.facts
  obtain ⟨neg,so,sn,sc,rfl⟩:=h2.shape
  have hp:=hb2.put (neg:=neg) (no_int so sn sc)
  have HR:Hid (IsInt _ _ (n:Int)/\XF w _):=bH ⟨hp.int h2,(HX1.out.trans hx2).own hp.ext (fun k e=>by omega)⟩
  have hg:=hp.box.facts
  have HG:=bH hg
  clear hb2 h2 hx2 hp hg
  go_wp2
  generalize (w2.setCell ⟨w.heap.size,0,none⟩ (.bool neg)).setCell ⟨w.heap.size,1,none⟩ (.slice so sn sc)=w9 at *
  obtain ⟨g0,g1,_⟩:=HG.out
  exact bodyPost_ret (v:=.agg #[.bool neg,.slice so sn sc]) (by simp [results,Tryz.results57,go_sem,g0,g1]) rfl ⟨_,rfl,HR.out.1,HR.out.2⟩
theorem boxI_new {W:World} {k:Nat} (hk:k=W.heap.size) (neg:Bool) (ao:Option Addr) (n c:Nat):BoxI (W.alloc (.cells #[.bool neg,.slice ao n c] 47)) k neg (.slice ao n c):=by
 subst hk; exact ⟨blk_alloc_at _ _,no_int ao n c⟩
theorem BoxI.alloc {W:World} {k:Nat} {neg:Bool} {mag:Value} (h:BoxI W k neg mag) (o:Obj):BoxI (W.alloc o) k neg mag:=h.ext ((Ext.refl (fun _=>False) W).alloc o) id
theorem sg_not (neg:Bool) (n:Nat):sg (!neg) n = -sg neg n:=by cases neg <;> simp [sg]
theorem dg_len_add {x y a b:Nat} (hx:x<4294967296 ^ a) (hy:y<4294967296 ^ b):(dg (x+y)).length<=max a b+1:=by
 refine dg_length_le ?_
 have h1:=pow_mono (Nat.le_max_left a b)
 have h2:=pow_mono (Nat.le_max_right a b)
 rw [pow_next]
 omega
theorem dg_len_mul {x y a b:Nat} (hx:x<4294967296 ^ a) (hy:y<4294967296 ^ b):(dg (x*y)).length<=a+b:=by
 refine dg_length_le ?_
 rw [Nat.pow_add]
 exact Nat.mul_lt_mul'' hx hy
theorem ineg_any (w:World) (v:Value) (z:Int) (L:Nat) (h:Rint w v z L) (hL:L<=134217728) :
  Calls Tryz.prog 100 #[v] w (IntPost w (-z)):=by
 obtain ⟨neg,mag,l,rfl,hr,hl,rfl⟩:=h
 have HA:=bH (fun W (hW:XF w W)=>add_any W mag (.slice none 0 0) l [] (hr.keep hW) (Rds.nil W) (by omega) (by simp))
 have hln:(dg (vl l)).length<=134217728:=Nat.le_trans (dg_length_le (vl_lt hr.1)) (Nat.le_trans hl hL)
 rw [show vl l+vl []=vl l from rfl] at HA
 have HS:=bH (fun W v h=>signed_any W (!neg) v (vl l) h (by omega))
 rw [sg_not] at HS
 have hmi:=hr.noInt
 obtain ⟨ao,c,rfl,_⟩:=hr.2
 generalize l.length=m at *
 generalize vl l=n at *
 clear hr hl hln
 go_enter Tryz.func100,Tryz.ntmps100
 go_upto_region 0 with fail
 go_cut [1,2] (fun v1 v2 wx=>∃ b r,v1=.pointer (some ⟨b,0,none⟩)/\v2=.pointer (some ⟨r,0,none⟩)/\BoxI wx b neg (.slice ao m c)/\BoxI wx r false (.slice none 0 0)/\w.heap.size<=r/\XF w wx)
 case first =>
  go_wp2
  go_meet
  exact ⟨_,_,rfl,rfl,(boxI_new rfl neg ao m c).alloc _,boxI_new (by simp) false none 0 0,(by omega),((Ext.refl _ w).alloc _).alloc _⟩
 case rest =>
  obtain ⟨b,r,rfl,rfl,hb,hrb,hle,hx⟩:=hcut
  obtain ⟨c0,c1,_⟩:=hb.facts
  have HB:=bH (bI hb (bI hrb hx))
  clear hb hrb hx
  go_upto_region 1 with fail
  go_region_law (first
   | (go_simp; go_at_call 103; (with_reducible refine (HA.out _ ?_).mono ?_); (exact HB.out.2.2.drew); rintro r5 w5 ⟨v5,rfl,h5,hx5⟩; have hS5:=HS.out w5 v5 h5; obtain ⟨c05,c15,_⟩:=((HB.out.1.ext (Ext.refl (fun _=>False) wc).drew id).ext hx5 id).facts; have hr5:=(HB.out.2.1.ext (Ext.refl (fun _=>False) wc).drew id).ext hx5 id; have hX5:=HB.out.2.2.drew.trans hx5; obtain ⟨ao5,k5,rfl⟩:=h5.shape)
   | (go_simp; go_at_call 74; (with_reducible refine hS5.mono ?_); rintro r6 w6 ⟨v6,rfl,h6,hx6⟩; have hr6:=hr5.ext hx6 id; obtain ⟨d0,d1,d2,d3⟩:=hr6.facts; have hX6:=hX5.trans hx6; obtain ⟨neg6,so,sn,sc,rfl⟩:=h6.shape))
  all_goals
   have hp:=hr6.put (neg:=neg6) (no_int so sn sc)
   have HR:=bH (bI (hp.int h6) (bI (hX6.own hp.ext (fun k e=>by omega)) hp.box))
   clear hp h6 hX6 hr6 hx6 d0 d1 d2 d3
   generalize (w6.setCell ⟨r,0,none⟩ (.bool neg6)).setCell ⟨r,1,none⟩ (.slice so sn sc)=w9 at *
   obtain ⟨g0,g1,_⟩:=HR.out.2.2.facts
   go_wp2
   exact bodyPost_ret (v:=.agg #[.bool neg6,.slice so sn sc]) (by simp [results,Tryz.results100,go_sem,g0,g1]) rfl ⟨_,rfl,HR.out.1,HR.out.2.1⟩
abbrev SI2 (b b':Nat) (n n':Bool) (m m':Value) (W:World):Prop :=
 W.cell? ⟨b,0,none⟩=some (.bool n)/\W.cell? ⟨b,1,none⟩=some m/\W.cell? ⟨b',0,none⟩=some (.bool n')/\W.cell? ⟨b',1,none⟩=some m'
theorem SI2.of {b b':Nat} {n n':Bool} {m m':Value} {W:World} (h:BoxI W b n m) (h':BoxI W b' n' m'):SI2 b b' n n' m m' W:=⟨h.facts.1,h.facts.2.1,h'.facts.1,h'.facts.2.1⟩
theorem SI2.drew {b b':Nat} {n n':Bool} {m m':Value} {W:World} (h:SI2 b b' n n' m m' W):SI2 b b' n n' m m' W.drew:=h
theorem SI2.set {b b':Nat} {n n':Bool} {m m':Value} {W:World} (h:SI2 b b' n n' m m' W) (p:Addr) (u:Value) (h1:¬ b=p.block) (h2:¬ b'=p.block):SI2 b b' n n' m m' (W.setCell p u):=by
 obtain ⟨a,b,c,d⟩:=h
 exact ⟨(World.cell?_setCell_other _ _ _ _ (fun e=>h1 (by rw [e]))).trans a,(World.cell?_setCell_other _ _ _ _ (fun e=>h1 (by rw [e]))).trans b,(World.cell?_setCell_other _ _ _ _ (fun e=>h2 (by rw [e]))).trans c,(World.cell?_setCell_other _ _ _ _ (fun e=>h2 (by rw [e]))).trans d⟩
theorem sg_mul (a b:Bool) (x y:Nat):sg (a != b) (x*y)=sg a x*sg b y:=by
 cases a <;> cases b <;> simp [sg,Int.neg_mul,Int.mul_neg]
theorem Rint.open {w:World} {v:Value} {z:Int} {L:Nat} (h:Rint w v z L):∃ neg ao m c l,v=.agg #[.bool neg,.slice ao m c]/\Rds w (.slice ao m c) l/\l.length<=L/\z=sg neg (vl l):=by
 obtain ⟨neg,mag,l,rfl,hr,hl,rfl⟩:=h
 obtain ⟨ao,c,rfl,_⟩:=id hr.2
 exact ⟨neg,ao,_,c,l,rfl,hr,hl,rfl⟩
theorem imul_any (w:World) (v v':Value) (z z':Int) (L:Nat) (h:Rint w v z L) (h':Rint w v' z' L) (hL:L<=67108864) :
  Calls Tryz.prog 55 #[v,v'] w (IntPost w (z*z')):=by
 obtain ⟨neg,ao,m,c,l,rfl,hr,hl,rfl⟩:=h.open
 obtain ⟨neg',ao',m',c',l',rfl,hr',hl',rfl⟩:=h'.open
 have HA:=bH (fun W (hW:XF w W)=>mul_any W _ _ l l' (hr.keep hW) (hr'.keep hW) (by omega) (by omega))
 have hln:=dg_len_mul (vl_lt hr.1) (vl_lt hr'.1)
 rw [<- sg_mul]
 obtain ⟨s,hs⟩:∃ s,(neg != neg')=s:=⟨_,rfl⟩
 rw [hs]
 have hs':(!(neg == neg'))=s:=hs
 have HS:=bH (fun W v h=>signed_any W s v (vl l*vl l') h (by omega))
 generalize vl l*vl l'=n at *
 clear hr hl hln hr' hl' h h' hs
 go_enter Tryz.func55,Tryz.ntmps55
 go_upto_region 0 with fail
 go_cut [2,3,4] (fun v1 v2 v3 wx=>∃ b b' r,v1=.pointer (some ⟨b,0,none⟩)/\v2=.pointer (some ⟨b',0,none⟩)/\v3=.pointer (some ⟨r,0,none⟩)/\BoxI wx b neg (.slice ao m c)/\BoxI wx b' neg' (.slice ao' m' c')/\BoxI wx r false (.slice none 0 0)/\¬ b=r/\¬ b'=r/\w.heap.size<=r/\XF w wx)
 case first =>
  go_wp2
  go_meet
  exact ⟨_,_,_,rfl,rfl,rfl,((boxI_new rfl neg ao m c).alloc _).alloc _,(boxI_new (by simp) neg' ao' m' c').alloc _,boxI_new (by simp) false none 0 0,(by omega),(by omega),(by omega),(((Ext.refl _ w).alloc _).alloc _).alloc _⟩
 case rest =>
  obtain ⟨b,b',r,rfl,rfl,rfl,hb,hb',hrb,n1,n2,hle,hx⟩:=hcut
  have hS:=SI2.of hb hb'
  have HB:=bH (bI hb (bI hb' (bI hrb hx)))
  clear hb hb' hrb hx
  go_upto_region 1 with fail
  go_region_held3 (SI2 b b' neg neg' (.slice ao m c) (.slice ao' m' c'))
   (repeat (first | (with_reducible assumption) | (with_reducible refine SI2.drew ?_) | (with_reducible refine SI2.set ?_ _ _ ?_ ?_) | (dsimp only; omega)))
   (first
    | (go_at_call 75; (with_reducible refine (HA.out _ ?_).mono ?_); (exact HB.out.2.2.2.drew); rintro r5 w5 ⟨v5,rfl,h5,hx5⟩; have hS5:=HS.out w5 v5 h5; have hK5:=SI2.of ((HB.out.1.ext (Ext.refl (fun _=>False) wc).drew id).ext hx5 id) ((HB.out.2.1.ext (Ext.refl (fun _=>False) wc).drew id).ext hx5 id); have hr5:=(HB.out.2.2.1.ext (Ext.refl (fun _=>False) wc).drew id).ext hx5 id; have hX5:=HB.out.2.2.2.drew.trans hx5; obtain ⟨ao5,k5,rfl⟩:=h5.shape)
    | (go_at_call 74; (with_reducible refine hS5.mono ?_); rintro r6 w6 ⟨v6,rfl,h6,hx6⟩; have hr6:=hr5.ext hx6 id; obtain ⟨d0,d1,d2,d3⟩:=hr6.facts; have hX6:=hX5.trans hx6; have hK6:=SI2.of (((HB.out.1.ext (Ext.refl (fun _=>False) wc).drew id).ext hx5 id).ext hx6 id) (((HB.out.2.1.ext (Ext.refl (fun _=>False) wc).drew id).ext hx5 id).ext hx6 id); obtain ⟨neg6,so,sn,sc,rfl⟩:=h6.shape))
  all_goals
   have hp:=hr6.put (neg:=neg6) (no_int so sn sc)
   have HR:=bH (bI (hp.int h6) (bI (hX6.own hp.ext (fun k e=>by omega)) hp.box))
   clear hp h6 hX6 hr6 hx6 d0 d1 d2 d3
   generalize (w6.setCell ⟨r,0,none⟩ (.bool neg6)).setCell ⟨r,1,none⟩ (.slice so sn sc)=w9 at *
   obtain ⟨g0,g1,_⟩:=HR.out.2.2.facts
   go_wp2
   exact bodyPost_ret (v:=.agg #[.bool neg6,.slice so sn sc]) (by simp [results,Tryz.results55,go_sem,g0,g1]) rfl ⟨_,rfl,HR.out.1,HR.out.2.1⟩
theorem sg_add (a:Bool) (x y:Nat):sg a (x+y)=sg a x+sg a y:=by cases a <;> simp [sg] <;> omega
theorem sg_sub (a b:Bool) (x y:Nat) (h:y<=x) (hab:¬ a=b):sg a (x - y)=sg a x+sg b y:=by
 cases a <;> cases b <;> simp [sg] at*<;> omega
theorem dg_len_max {n x y a b:Nat} (h:n<=max x y) (hx:x<4294967296 ^ a) (hy:y<4294967296 ^ b):(dg n).length<=max a b:=by
 refine dg_length_le ?_
 have h1:=pow_mono (Nat.le_max_left a b)
 have h2:=pow_mono (Nat.le_max_right a b)
 omega
theorem iadd_any (w:World) (v v':Value) (z z':Int) (L:Nat) (h:Rint w v z L) (h':Rint w v' z' L) (hL:L<=134217728) :
  Calls Tryz.prog 78 #[v,v'] w (IntPost w (z+z')):=by
 obtain ⟨neg,ao,m,c,l,rfl,hr,hl,rfl⟩:=h.open
 obtain ⟨neg',ao',m',c',l',rfl,hr',hl',rfl⟩:=h'.open
 have HA:=bH (fun W (hW:XF w W)=>add_any W _ _ l l' (hr.keep hW) (hr'.keep hW) (by omega) (by omega))
 have HC:=bH (fun W (hW:XF w W)=>cmp_any W _ _ l l' (hr.keep hW) (hr'.keep hW) (by omega) (by omega))
 have HD:=bH (fun W (h1:Rds W (.slice ao m c) l) (h2:Rds W (.slice ao' m' c') l')=>sub_any W _ _ l l' h1 h2 (by omega) (by omega))
 have HD':=bH (fun W (h1:Rds W (.slice ao m c) l) (h2:Rds W (.slice ao' m' c') l')=>sub_any W _ _ l' l h2 h1 (by omega) (by omega))
 have hln:=dg_len_add (vl_lt hr.1) (vl_lt hr'.1)
 have hS2:=fun n (h:n<=max (vl l) (vl l'))=>dg_len_max h (vl_lt hr.1) (vl_lt hr'.1)
 have HS:=bH (fun W s v n (h:IsNat W v n) (hn:n<=max (vl l) (vl l')∨n=vl l+vl l')=>signed_any W s v n h (by
  rcases hn with hn | rfl
  ·have:=hS2 n hn; omega
  ·omega))
 have HR0:=bH (bI hr hr')
 generalize vl l=x at *
 generalize vl l'=y at *
 clear hr hl hln hr' hl' h h' hS2
 obtain ⟨Z,hZ⟩:∃ Z,sg neg x+sg neg' y=Z:=⟨_,rfl⟩
 rw [hZ]
 have HZ:=bH hZ
 clear hZ
 go_enter Tryz.func78,Tryz.ntmps78
 go_upto_region 0 with fail
 go_cut [2,3,4] (fun v1 v2 v3 wx=>∃ b b' r,v1=.pointer (some ⟨b,0,none⟩)/\v2=.pointer (some ⟨b',0,none⟩)/\v3=.pointer (some ⟨r,0,none⟩)/\BoxI wx b neg (.slice ao m c)/\BoxI wx b' neg' (.slice ao' m' c')/\BoxI wx r false (.slice none 0 0)/\¬ b=b'/\¬ b=r/\¬ b'=r/\w.heap.size<=b/\w.heap.size<=b'/\w.heap.size<=r/\XF w wx)
 case first =>
  go_wp2
  go_meet
  exact ⟨_,_,_,rfl,rfl,rfl,((boxI_new rfl neg ao m c).alloc _).alloc _,(boxI_new (by simp) neg' ao' m' c').alloc _,boxI_new (by simp) false none 0 0,(by omega),(by omega),(by omega),(by omega),(by omega),(by omega),(((Ext.refl _ w).alloc _).alloc _).alloc _⟩
 case rest =>
  obtain ⟨b,b',r,rfl,rfl,rfl,hb,hb',hrb,n0,n1,n2,le1,le2,hle,hx⟩:=hcut
  have hS:=SI2.of hb hb'
  obtain ⟨c0,c1,c2,c3⟩:=hb.facts
  obtain ⟨e0,e1,e2,e3⟩:=hb'.facts
  have HB:=bH (bI hb (bI hb' (bI hrb hx)))
  clear hb hb' hrb hx
  by_cases hn:neg=neg'
  ·subst hn
   have HS1:=bH (fun W v h=>HS.out W neg v (x+y) h (.inr rfl))
   rw [sg_add,HZ.out] at HS1
   clear c2 c3 e2 e3
   go_upto_region 2 with fail
   go_region_held3 (SI2 b b' neg neg (.slice ao m c) (.slice ao' m' c'))
    (repeat (first | (with_reducible assumption) | (with_reducible refine SI2.drew ?_) | (with_reducible refine SI2.set ?_ _ _ ?_ ?_) | (dsimp only; omega)))
    (first
     | (go_at_call 103; (with_reducible refine (HA.out _ ?_).mono ?_); (exact HB.out.2.2.2.drew); rintro r5 w5 ⟨v5,rfl,h5,hx5⟩; have hS5:=HS1.out w5 v5 h5; have hK5:=SI2.of ((HB.out.1.ext (Ext.refl (fun _=>False) wc).drew id).ext hx5 id) ((HB.out.2.1.ext (Ext.refl (fun _=>False) wc).drew id).ext hx5 id); have hr5:=(HB.out.2.2.1.ext (Ext.refl (fun _=>False) wc).drew id).ext hx5 id; have hX5:=HB.out.2.2.2.drew.trans hx5; obtain ⟨ao5,k5,rfl⟩:=h5.shape)
     | (go_at_call 74; (with_reducible refine hS5.mono ?_); rintro r6 w6 ⟨v6,rfl,h6,hx6⟩; have hr6:=hr5.ext hx6 id; obtain ⟨d0,d1,d2,d3⟩:=hr6.facts; have hX6:=hX5.trans hx6; have hK6:=SI2.of (((HB.out.1.ext (Ext.refl (fun _=>False) wc).drew id).ext hx5 id).ext hx6 id) (((HB.out.2.1.ext (Ext.refl (fun _=>False) wc).drew id).ext hx5 id).ext hx6 id); obtain ⟨neg6,so,sn,sc,rfl⟩:=h6.shape))
   all_goals
    have hp:=hr6.put (neg:=neg6) (no_int so sn sc)
    have HR:=bH (bI (hp.int h6) (bI (hX6.own hp.ext (fun k e=>by omega)) hp.box))
    clear hp h6 hX6 hr6 hx6 d0 d1 d2 d3
    generalize (w6.setCell ⟨r,0,none⟩ (.bool neg6)).setCell ⟨r,1,none⟩ (.slice so sn sc)=w9 at *
    obtain ⟨g0,g1,_⟩:=HR.out.2.2.facts
    go_wp2
    exact bodyPost_ret (v:=.agg #[.bool neg6,.slice so sn sc]) (by simp [results,Tryz.results78,go_sem,g0,g1]) rfl ⟨_,rfl,HR.out.1,HR.out.2.1⟩
  ·have hne:(neg == neg')=false:=by simpa using hn
   have HC1:=bH (HC.out wc HB.out.2.2.2)
   by_cases hxy:x<y
   ·have e:cmpN x y = -1:=by unfold cmpN; rw [if_pos hxy]
    rw [e] at HC1
    have HS1:=bH (fun W v h=>HS.out W neg' v (y - x) h (.inl (by omega)))
    rw [sg_sub neg' neg y x (by omega) (fun h=>hn h.symm),Int.add_comm,HZ.out] at HS1
    have Hxy:=bH hxy
    clear e hn hxy
    go_wp2_with fail
    refine HC1.out.mono ?_
    rintro r7 w' ⟨rfl,hw⟩; obtain rfl:=hw.symm
    clear hw HC1
    go_upto_region 4 with fail
    go_cut [] (fun wx=>BoxI wx b neg' (.slice ao' m' c')/\BoxI wx b' neg (.slice ao m c)/\BoxI wx r false (.slice none 0 0)/\Rds wx (.slice ao m c) l/\Rds wx (.slice ao' m' c') l'/\XF w wx)
    case first =>
     go_wp2
     go_meet
     have hp1:=HB.out.1.put (neg:=neg') (no_int ao' m' c')
     have hp2:=(HB.out.2.1.ext hp1.ext (fun e=>n0 e.symm)).put (neg:=neg) (no_int ao m c)
     exact ⟨hp1.box.ext hp2.ext n0,hp2.box,(HB.out.2.2.1.ext hp1.ext (fun e=>n1 e.symm)).ext hp2.ext (fun e=>n2 e.symm),hp2.rds _ _ (hp1.rds _ _ (HR0.out.1.keep HB.out.2.2.2)),hp2.rds _ _ (hp1.rds _ _ (HR0.out.2.keep HB.out.2.2.2)),(HB.out.2.2.2.own hp1.ext (fun k e=>by omega)).own hp2.ext (fun k e=>by omega)⟩
    case rest =>
     obtain ⟨hb,hb',hrb,hr1,hr2,hx⟩:=hcut
     have HD1:=bH (HD'.out wc hr1 hr2)
     have hnl:¬ y<x:=by have:=Hxy.out; omega
     obtain ⟨c0,c1,_⟩:=hb.facts
     obtain ⟨e0,e1,_⟩:=hb'.facts
     have HB':=bH (bI hb (bI hrb hx))
     have Hnl:=bH hnl
     clear hb hb' hrb hx hnl
     go_wp2_with fail
     refine HD1.out.mono ?_
     intro r7 w7 hp7
     unfold SubPost at hp7
     rw [if_neg Hnl.out] at hp7
     obtain ⟨v7,rfl,h7,hx7⟩:=hp7
     have HS7:=bH (HS1.out w7 v7 h7)
     obtain ⟨c07,c17,_⟩:=(HB'.out.1.ext hx7 id).facts
     have HB7:=bH (bI (HB'.out.2.1.ext hx7 id) (HB'.out.2.2.trans hx7))
     obtain ⟨ao7,k7,rfl⟩:=h7.shape
     clear h7 hx7
     go_wp2_with fail
     refine HS7.out.mono ?_
     rintro r8 w6 ⟨v6,rfl,h6,hx6⟩
     have hr6:=HB7.out.1.ext hx6 id
     obtain ⟨d0,d1,d2,d3⟩:=hr6.facts
     have hX6:=HB7.out.2.trans hx6
     obtain ⟨neg6,so,sn,sc,rfl⟩:=h6.shape
     have hp:=hr6.put (neg:=neg6) (no_int so sn sc)
     have HR:=bH (bI (hp.int h6) (bI (hX6.own hp.ext (fun k e=>by omega)) hp.box))
     clear hp h6 hX6 hr6 hx6
     go_wp2
     generalize (w6.setCell ⟨r,0,none⟩ (.bool neg6)).setCell ⟨r,1,none⟩ (.slice so sn sc)=w9 at *
     obtain ⟨g0,g1,_⟩:=HR.out.2.2.facts
     exact bodyPost_ret (v:=.agg #[.bool neg6,.slice so sn sc]) (by simp [results,Tryz.results78,go_sem,g0,g1]) rfl ⟨_,rfl,HR.out.1,HR.out.2.1⟩
   ·have e:¬ cmpN x y<0:=by unfold cmpN; rw [if_neg hxy]; split <;> omega
    generalize hq:cmpN x y=cq at *
    have HS1:=bH (fun W v h=>HS.out W neg v (x - y) h (.inl (by omega)))
    rw [sg_sub neg neg' x y (by omega) hn,HZ.out] at HS1
    have Hxy:=bH hxy
    clear hq hn hxy
    go_wp2_with fail
    refine HC1.out.mono ?_
    rintro r7 w' ⟨rfl,hw⟩; obtain rfl:=hw.symm
    clear hw HC1
    obtain ⟨hb,hb',hrb,hx⟩:=HB.out
    have HD1:=bH (HD.out wc (HR0.out.1.keep hx) (HR0.out.2.keep hx))
    have hnl:¬ x<y:=Hxy.out
    obtain ⟨c0,c1,_⟩:=hb.facts
    obtain ⟨e0,e1,_⟩:=hb'.facts
    have HB':=bH (bI hb (bI hrb hx))
    have Hnl:=bH hnl
    clear hb hb' hrb hx hnl
    go_wp2_with fail
    refine HD1.out.mono ?_
    intro r7 w7 hp7
    unfold SubPost at hp7
    rw [if_neg Hnl.out] at hp7
    obtain ⟨v7,rfl,h7,hx7⟩:=hp7
    have HS7:=bH (HS1.out w7 v7 h7)
    obtain ⟨c07,c17,_⟩:=(HB'.out.1.ext hx7 id).facts
    have HB7:=bH (bI (HB'.out.2.1.ext hx7 id) (HB'.out.2.2.trans hx7))
    obtain ⟨ao7,k7,rfl⟩:=h7.shape
    clear h7 hx7
    go_wp2_with fail
    refine HS7.out.mono ?_
    rintro r8 w6 ⟨v6,rfl,h6,hx6⟩
    have hr6:=HB7.out.1.ext hx6 id
    obtain ⟨d0,d1,d2,d3⟩:=hr6.facts
    have hX6:=HB7.out.2.trans hx6
    obtain ⟨neg6,so,sn,sc,rfl⟩:=h6.shape
    have hp:=hr6.put (neg:=neg6) (no_int so sn sc)
    have HR:=bH (bI (hp.int h6) (bI (hX6.own hp.ext (fun k e=>by omega)) hp.box))
    clear hp h6 hX6 hr6 hx6
    go_wp2
    generalize (w6.setCell ⟨r,0,none⟩ (.bool neg6)).setCell ⟨r,1,none⟩ (.slice so sn sc)=w9 at *
    obtain ⟨g0,g1,_⟩:=HR.out.2.2.facts
    exact bodyPost_ret (v:=.agg #[.bool neg6,.slice so sn sc]) (by simp [results,Tryz.results78,go_sem,g0,g1]) rfl ⟨_,rfl,HR.out.1,HR.out.2.1⟩
theorem Rint.len {w:World} {v:Value} {z:Int} {L:Nat} (h:Rint w v z L):(dg z.natAbs).length<=L:=by
 obtain ⟨neg,mag,l,rfl,hr,hl,rfl⟩:=h
 rw [sg_natAbs]
 exact Nat.le_trans (dg_length_le (vl_lt hr.1)) hl
theorem Rint.mono {w:World} {v:Value} {z:Int} {L M:Nat} (h:Rint w v z L) (hl:L<=M):Rint w v z M:=by
 obtain ⟨neg,mag,l,h1,hr,h2,h3⟩:=h
 exact ⟨neg,mag,l,h1,hr,Nat.le_trans h2 hl,h3⟩
theorem len_add {x y:Int} {L:Nat} (hx:(dg x.natAbs).length<=L) (hy:(dg y.natAbs).length<=L):(dg (x+y).natAbs).length<=L+1:=by
 have h1:=dg_lt x.natAbs
 have h2:=dg_lt y.natAbs
 have h3:=Nat.lt_of_lt_of_le h1 (pow_mono hx)
 have h4:=Nat.lt_of_lt_of_le h2 (pow_mono hy)
 refine dg_length_le ?_
 rw [pow_next]
 omega
theorem len_mul {x y:Int} {L M:Nat} (hx:(dg x.natAbs).length<=L) (hy:(dg y.natAbs).length<=M):(dg (x*y).natAbs).length<=L+M:=by
 have h3:=Nat.lt_of_lt_of_le (dg_lt x.natAbs) (pow_mono hx)
 have h4:=Nat.lt_of_lt_of_le (dg_lt y.natAbs) (pow_mono hy)
 rw [Int.natAbs_mul]
 exact dg_len_mul h3 h4
theorem isub_any (w:World) (v v':Value) (z z':Int) (L:Nat) (h:Rint w v z L) (h':Rint w v' z' L) (hL:L<=134217728) :
  Calls Tryz.prog 73 #[v,v'] w (IntPost w (z - z')):=by
 have HN:=bH (fun W (hW:XF w W)=>ineg_any W v' z' L (h'.keep hW) hL)
 have hl':(dg (-z').natAbs).length<=L:=by rw [Int.natAbs_neg]; exact h'.len
 have HA:=bH (fun W (hW:XF w W) u (hu:IsInt W u (-z'))=>iadd_any W v u z (-z') L (h.keep hW) (hu.reads hl') hL)
 rw [<- Int.sub_eq_add_neg] at HA
 obtain ⟨neg,ao,m,c,l,rfl,_,_,_⟩:=h.open
 obtain ⟨neg',ao',m',c',l',rfl,_,_,_⟩:=h'.open
 clear h h' hl'
 go_enter Tryz.func73,Tryz.ntmps73
 go_upto_region 0 with fail
 go_cut [2,3,4] (fun v1 v2 v3 wx=>∃ b b' r,v1=.pointer (some ⟨b,0,none⟩)/\v2=.pointer (some ⟨b',0,none⟩)/\v3=.pointer (some ⟨r,0,none⟩)/\BoxI wx b neg (.slice ao m c)/\BoxI wx b' neg' (.slice ao' m' c')/\BoxI wx r false (.slice none 0 0)/\¬ b=r/\¬ b'=r/\w.heap.size<=r/\XF w wx)
 case first =>
  go_wp2
  go_meet
  exact ⟨_,_,_,rfl,rfl,rfl,((boxI_new rfl neg ao m c).alloc _).alloc _,(boxI_new (by simp) neg' ao' m' c').alloc _,boxI_new (by simp) false none 0 0,(by omega),(by omega),(by omega),(((Ext.refl _ w).alloc _).alloc _).alloc _⟩
 case rest =>
  obtain ⟨b,b',r,rfl,rfl,rfl,hb,hb',hrb,n1,n2,hle,hx⟩:=hcut
  have hS:=SI2.of hb hb'
  have HB:=bH (bI hb (bI hb' (bI hrb hx)))
  clear hb hb' hrb hx
  go_upto_region 1 with fail
  go_region_held3 (SI2 b b' neg neg' (.slice ao m c) (.slice ao' m' c'))
   (repeat (first | (with_reducible assumption) | (with_reducible refine SI2.drew ?_) | (with_reducible refine SI2.set ?_ _ _ ?_ ?_) | (dsimp only; omega)))
   (first
    | (go_at_call 100; (with_reducible refine (HN.out _ ?_).mono ?_); (exact HB.out.2.2.2.drew); rintro r5 w5 ⟨v5,rfl,h5,hx5⟩; have hX5:=HB.out.2.2.2.drew.trans hx5; have hA5:=HA.out w5 hX5 v5 h5; have hK5:=SI2.of ((HB.out.1.ext (Ext.refl (fun _=>False) wc).drew id).ext hx5 id) ((HB.out.2.1.ext (Ext.refl (fun _=>False) wc).drew id).ext hx5 id); have hr5:=(HB.out.2.2.1.ext (Ext.refl (fun _=>False) wc).drew id).ext hx5 id; obtain ⟨neg5,ao5,n5,k5,rfl⟩:=h5.shape)
    | (go_at_call 78; (with_reducible refine hA5.mono ?_); rintro r6 w6 ⟨v6,rfl,h6,hx6⟩; have hr6:=hr5.ext hx6 id; obtain ⟨d0,d1,d2,d3⟩:=hr6.facts; have hX6:=hX5.trans hx6; have hK6:=SI2.of (((HB.out.1.ext (Ext.refl (fun _=>False) wc).drew id).ext hx5 id).ext hx6 id) (((HB.out.2.1.ext (Ext.refl (fun _=>False) wc).drew id).ext hx5 id).ext hx6 id); obtain ⟨neg6,so,sn,sc,rfl⟩:=h6.shape))
  all_goals
   have hp:=hr6.put (neg:=neg6) (no_int so sn sc)
   have HR:=bH (bI (hp.int h6) (bI (hX6.own hp.ext (fun k e=>by omega)) hp.box))
   clear hp h6 hX6 hr6 hx6 d0 d1 d2 d3
   generalize (w6.setCell ⟨r,0,none⟩ (.bool neg6)).setCell ⟨r,1,none⟩ (.slice so sn sc)=w9 at *
   obtain ⟨g0,g1,_⟩:=HR.out.2.2.facts
   go_wp2
   exact bodyPost_ret (v:=.agg #[.bool neg6,.slice so sn sc]) (by simp [results,Tryz.results73,go_sem,g0,g1]) rfl ⟨_,rfl,HR.out.1,HR.out.2.1⟩
theorem icmp_any (w:World) (v v':Value) (z z':Int) (L:Nat) (h:Rint w v z L) (h':Rint w v' z' L) (hL:L<=134217728) :
  Calls Tryz.prog 54 #[v,v'] w fun r w'=>r=.returned (.int .i64 (z - z').sign)/\XF w w':=by
 have HN:=bH (fun W (hW:XF w W)=>isub_any W v v' z z' L (h.keep hW) (h'.keep hW) hL)
 have hl':(dg (z - z').natAbs).length<=L+1:=by
  rw [Int.sub_eq_add_neg]
  exact len_add h.len (by rw [Int.natAbs_neg]; exact h'.len)
 have HA:=bH (fun W u (hu:IsInt W u (z - z'))=>isign_any W u (z - z') (L+1) (hu.reads hl') (by omega))
 obtain ⟨neg,ao,m,c,l,rfl,_,_,_⟩:=h.open
 obtain ⟨neg',ao',m',c',l',rfl,_,_,_⟩:=h'.open
 clear h h' hl'
 generalize z - z'=d at *
 go_enter Tryz.func54,Tryz.ntmps54
 go_wp2_with fail
 refine (HN.out _ (((Ext.refl _ w).alloc _).alloc _)).mono ?_
 rintro r5 w5 ⟨v5,rfl,h5,hx5⟩
 have hA5:=bH (HA.out w5 v5 h5)
 have HX:=bH ((((Ext.refl (fun _=>False) w).alloc _).alloc _).trans hx5)
 clear h5 hx5
 go_wp2_with fail
 refine hA5.out.mono ?_
 rintro r6 w6 ⟨rfl,hx6⟩
 have HX6:=bH (HX.out.trans hx6)
 clear hx6
 go_wp2
 go_ret
 exact ⟨rfl,HX6.out⟩
abbrev SI3 (b b' b2:Nat) (n n' n2:Bool) (m m' m2:Value) (W:World):Prop :=
 W.cell? ⟨b,0,none⟩=some (.bool n)/\W.cell? ⟨b,1,none⟩=some m/\W.cell? ⟨b',0,none⟩=some (.bool n')/\W.cell? ⟨b',1,none⟩=some m'/\W.cell? ⟨b2,0,none⟩=some (.bool n2)/\W.cell? ⟨b2,1,none⟩=some m2
theorem SI3.of {b b' b2:Nat} {n n' n2:Bool} {m m' m2:Value} {W:World} (h:BoxI W b n m) (h':BoxI W b' n' m') (h2:BoxI W b2 n2 m2):SI3 b b' b2 n n' n2 m m' m2 W:=⟨h.facts.1,h.facts.2.1,h'.facts.1,h'.facts.2.1,h2.facts.1,h2.facts.2.1⟩
theorem SI3.drew {b b' b2:Nat} {n n' n2:Bool} {m m' m2:Value} {W:World} (h:SI3 b b' b2 n n' n2 m m' m2 W):SI3 b b' b2 n n' n2 m m' m2 W.drew:=h
theorem cell_other {W:World} {b i:Nat} {p:Addr} {u:Value} {x:Option Value} (h:W.cell? ⟨b,i,none⟩=x) (hn:¬ b=p.block):(W.setCell p u).cell? ⟨b,i,none⟩=x :=
 (World.cell?_setCell_other _ _ _ _ (fun e=>hn (by rw [e]))).trans h
theorem SI3.set {b b' b2:Nat} {n n' n2:Bool} {m m' m2:Value} {W:World} (h:SI3 b b' b2 n n' n2 m m' m2 W) (p:Addr) (u:Value) (h1:¬ b=p.block) (h2:¬ b'=p.block) (h3:¬ b2=p.block):SI3 b b' b2 n n' n2 m m' m2 (W.setCell p u):=by
 obtain ⟨a1,a2,a3,a4,a5,a6⟩:=h
 exact ⟨cell_other a1 h1,cell_other a2 h1,cell_other a3 h2,cell_other a4 h2,cell_other a5 h3,cell_other a6 h3⟩
theorem sg_zero (b:Bool):sg b 0=0:=by cases b <;> rfl
theorem tdiv_nat (x y:Nat):(x:Int).tdiv (y:Int)=((x / y:Nat):Int):=rfl
theorem sign_pos {x:Nat} (h:0<x):(x:Int).sign=1:=Int.sign_eq_one_of_pos (by omega)
theorem sg_tdiv (z z':Int):sg (decide (z.sign*z'.sign<0)) (z.natAbs / z'.natAbs)=z.tdiv z':=by
 by_cases hq:z.natAbs / z'.natAbs=0
 ·rw [hq,sg_zero]
  have:(z.tdiv z').natAbs=0:=by rw [Int.natAbs_tdiv]; exact hq
  omega
 ·have hy:0<z'.natAbs:=Nat.pos_of_ne_zero (fun h=>hq (by rw [h,Nat.div_zero]))
  have hx:0<z.natAbs:=Nat.pos_of_ne_zero (fun h=>hq (by rw [h,Nat.zero_div]))
  rcases Int.natAbs_eq z with h | h <;> rcases Int.natAbs_eq z' with h' | h' <;> generalize z.natAbs=x at*<;> generalize z'.natAbs=y at*<;> subst h <;> subst h'
  ·rw [sign_pos hx,sign_pos hy]; rfl
  ·rw [Int.sign_neg,sign_pos hx,sign_pos hy,Int.tdiv_neg]; rfl
  ·rw [Int.sign_neg,sign_pos hx,sign_pos hy,Int.neg_tdiv]; rfl
  ·rw [Int.sign_neg,Int.sign_neg,sign_pos hx,sign_pos hy,Int.neg_tdiv,Int.tdiv_neg,Int.neg_neg]; rfl
theorem quof_any (w:World) (a b:Bool):Calls Tryz.prog 136 #[.bool a,.bool b] w fun r w'=>r=.returned (.bool false)/\w'=w:=by
 go_enter Tryz.func136,Tryz.ntmps136
 go_wp2
 go_ret
 exact ⟨rfl,rfl⟩
def QuoPost (w:World) (z z':Int) (r:Ending) (w':World):Prop :=
 ∃ q s,r=.returned (.tuple #[q,s,.int .i64 0])/\IsInt w' q (z.tdiv z')/\IsInt w' s (z - z.tdiv z'*z')/\XF w w'
theorem divide_any (w:World) (v v':Value) (z z':Int) (L:Nat) (h:Rint w v z L) (h':Rint w v' z' L) (h0:¬ z'=0) (hL:L<=33554432) :
  Calls Tryz.prog 135 #[v,v',.func (.func 136) #[] #[]] w (QuoPost w z z'):=by
 have HG1:=bH (fun W (hW:XF w W)=>isign_any W v z L (h.keep hW) (by omega))
 have HG2:=bH (fun W (hW:XF w W)=>isign_any W v' z' L (h'.keep hW) (by omega))
 have hlq:(dg (z.tdiv z').natAbs).length<=L:=by
  rw [Int.natAbs_tdiv]
  exact Nat.le_trans (dg_mono (Nat.div_le_self _ _)) h.len
 have HM:=bH (fun W (hW:XF w W) u (hu:IsInt W u (z.tdiv z'))=>imul_any W u v' (z.tdiv z') z' L (hu.reads hlq) (h'.keep hW) (by omega))
 have HU:=bH (fun W (hW:XF w W) u (hu:IsInt W u (z.tdiv z'*z'))=>isub_any W v u z (z.tdiv z'*z') (L+L) ((h.keep hW).mono (by omega)) (hu.reads (len_mul hlq h'.len)) (by omega))
 have hsg:=sg_tdiv z z'
 have hlz:=h.len
 obtain ⟨neg,ao,m,c,l,rfl,hr,hl,hz⟩:=h.open
 obtain ⟨neg',ao',m',c',l',rfl,hr',hl',hz'⟩:=h'.open
 have HD:=bH (fun W (hW:XF w W)=>divmod_any W _ _ l l' (hr.keep hW) (hr'.keep hW) (by omega) (by omega))
 have e1:vl l=z.natAbs:=by rw [hz,sg_natAbs]
 have e2:vl l'=z'.natAbs:=by rw [hz',sg_natAbs]
 rw [e1,e2] at HD
 have hy0:¬ z'.natAbs=0:=by omega
 have hDP:∀ W,DivPost W z.natAbs z'.natAbs=fun r w'=>∃ v1 v2,r=.returned (.tuple #[v1,v2,.int .i64 0])/\IsNat w' v1 (z.natAbs / z'.natAbs)/\IsNat w' v2 (z.natAbs % z'.natAbs)/\XF W w':=fun W=>by
  funext r w'; unfold DivPost; rw [if_neg hy0]
 simp only [hDP] at HD
 have HS:=bH (fun W v n (hn:IsNat W v (z.natAbs / z'.natAbs))=>signed_any W n v _ hn (Nat.le_trans (Nat.le_trans (dg_mono (Nat.div_le_self _ _)) hlz) (by omega)))
 have hPb:-1<=z.sign*z'.sign/\z.sign*z'.sign<=1:=by
  rcases Int.sign_trichotomy z with h | h | h <;> rcases Int.sign_trichotomy z' with h' | h' | h' <;> rw [h,h'] <;> decide
 have hPw:IntKind.i64.wrap (z.sign*z'.sign)=z.sign*z'.sign:=IntWalk.i64_in _ (by omega)
 obtain ⟨PP,hPP⟩:∃ PP,z.sign*z'.sign=PP:=⟨_,rfl⟩
 rw [hPP] at hPw hPb hsg
 obtain ⟨P,hP⟩:∃ P,decide (PP<0)=P:=⟨_,rfl⟩
 rw [hP] at hsg
 have Hsg:=bH hsg
 generalize z.natAbs / z'.natAbs=x at *
 generalize z.natAbs % z'.natAbs=y at *
 unfold QuoPost
 have hq:∀ t t':Int,t=t->t'=t'->True:=fun _ _ _ _=>trivial
 clear hr hr' hl hl' h h' hz hz' e1 e2 hy0 hDP hlq hlz hsg hq
 generalize z.tdiv z'=q at *
 generalize z - q*z'=s at *
 generalize q*z'=qz at *
 generalize z.sign=sz at *
 generalize z'.sign=sz' at *
 go_enter Tryz.func135,Tryz.ntmps135
 go_upto_region 0 with fail
 go_cut [3,4,6,7,8] (fun v1 v2 v3 v4 v8 wx=>∃ b b' r r',v1=.pointer (some ⟨b,0,none⟩)/\v2=.pointer (some ⟨b',0,none⟩)/\v3=.pointer (some ⟨r,0,none⟩)/\v4=.pointer (some ⟨r',0,none⟩)/\v8=.int .i64 0/\BoxI wx b neg (.slice ao m c)/\BoxI wx b' neg' (.slice ao' m' c')/\BoxI wx r false (.slice none 0 0)/\BoxI wx r' false (.slice none 0 0)/\¬ b=r/\¬ b'=r/\¬ b=r'/\¬ b'=r'/\¬ r=r'/\w.heap.size<=r/\w.heap.size<=r'/\XF w wx)
 case first =>
  go_wp2
  go_meet
  exact ⟨_,_,_,_,rfl,rfl,rfl,rfl,rfl,(((boxI_new rfl neg ao m c).alloc _).alloc _).alloc _,((boxI_new (by simp) neg' ao' m' c').alloc _).alloc _,(boxI_new (by simp) false none 0 0).alloc _,boxI_new (by simp) false none 0 0,(by omega),(by omega),(by omega),(by omega),(by omega),(by omega),(by omega),((((Ext.refl _ w).alloc _).alloc _).alloc _).alloc _⟩
 case rest =>
  obtain ⟨b,b',r,r',rfl,rfl,rfl,rfl,rfl,hb,hb',hrb,hrb',n1,n2,n3,n4,n5,hle,hle',hx⟩:=hcut
  obtain ⟨c0,c1,_⟩:=hb.facts
  obtain ⟨e0,e1,_⟩:=hb'.facts
  have HD1:=bH (HD.out wc hx)
  have HB:=bH (bI hb (bI hb' (bI hrb (bI hrb' hx))))
  clear hb hb' hrb hrb' hx
  go_wp2_with fail
  refine HD1.out.mono ?_
  rintro r1 w1 ⟨v1,v2,rfl,h1,h2,hx1⟩
  have hS:=SI2.of (HB.out.1.ext hx1 id) (HB.out.2.1.ext hx1 id)
  have HX1:=bH (bI hx1 h1)
  obtain ⟨ao2,c2,rfl⟩:=h2.shape
  obtain ⟨ao1,c1',rfl⟩:=h1.shape
  clear h1 h2 hx1 c0 c1 e0 e1
  generalize (dg y).length=ly at *
  generalize (dg x).length=lx at *
  go_upto_region 4 with fail
  go_region_held3 (SI2 b b' neg neg' (.slice ao m c) (.slice ao' m' c'))
   (repeat (first | (with_reducible assumption) | (with_reducible refine SI2.drew ?_) | (with_reducible refine SI2.set ?_ _ _ ?_ ?_) | (dsimp only; omega)))
   (first
    | (go_at_call 72; (with_reducible refine (HG1.out _ ?_).mono ?_); (exact (HB.out.2.2.2.2.trans HX1.out.1).drew); rintro r2 w2 ⟨rfl,hx2⟩; have hX2:=HX1.out.1.drew.trans hx2; have hK2:=SI2.of (HB.out.1.ext hX2 id) (HB.out.2.1.ext hX2 id))
    | (go_at_call 72; (with_reducible refine (HG2.out _ ?_).mono ?_); (exact HB.out.2.2.2.2.trans hX2); rintro r3 w3 ⟨rfl,hx3⟩; have hX3:=hX2.trans hx3; have hK3:=SI2.of (HB.out.1.ext hX3 id) (HB.out.2.1.ext hX3 id)))
  have h13:XF w1 w3:=(Ext.refl _ w1).drew.trans (hx2.trans hx3)
  have HX3:=bH (bI (HX1.out.2.keep h13) hX3)
  clear hK2 hK3 hX2 hX3 hx2 hx3 h13 hS hPw hPP hPb
  go_wp2_with fail
  refine (quof_any _ _ _).mono ?_
  rintro r4 w4 ⟨rfl,hw⟩; obtain rfl:=hw.symm
  clear hw
  have HS3:=bH (HS.out w3 _ P HX3.out.1)
  rw [Hsg.out] at HS3
  go_wp2_with fail
  refine HS3.out.mono ?_
  rintro r5 w5 ⟨v5,rfl,h5,hx5⟩
  have HX5:=bH (bI h5 (HX3.out.2.trans hx5))
  obtain ⟨neg5,ao5,n6,k5,rfl⟩:=h5.shape
  clear h5 hx5 HS3
  go_upto_region 8 with fail
  obtain ⟨bq,hbq⟩:∃ bq,w5.heap.size=bq:=⟨_,rfl⟩
  have hbox:=boxI_new hbq.symm neg5 ao5 n6 k5
  have hx57:=(Ext.refl (fun _=>False) w5).alloc (.cells #[.bool neg5,.slice ao5 n6 k5] 47)
  rw [hbq]
  generalize w5.alloc (.cells #[.bool neg5,.slice ao5 n6 k5] 47)=w7 at *
  have hX7:=HX5.out.2.trans hx57
  have hI7:=HX5.out.1.keep hx57
  have HM7:=bH (HM.out w7.drew (HB.out.2.2.2.2.trans hX7).drew _ (hI7.keep (Ext.refl _ w7).drew))
  have hS:=SI3.of (HB.out.1.ext hX7 id) (HB.out.2.1.ext hX7 id) hbox
  have HX7:=bH (bI hX7 (bI hI7 hbox))
  have hq1:¬ bq=r:=fun e=>by
   have h1:=HB.out.2.2.1.lt
   have h2:=HX5.out.2.size
   omega
  have hq2:¬ bq=r':=fun e=>by
   have h1:=HB.out.2.2.2.1.lt
   have h2:=HX5.out.2.size
   omega
  clear hX7 hI7 hbox hx57 hbq HX5 HX3 HX1 hP
  go_region_held3 (SI3 b b' bq neg neg' neg5 (.slice ao m c) (.slice ao' m' c') (.slice ao5 n6 k5))
   (repeat (first | (with_reducible assumption) | (with_reducible refine SI3.drew ?_) | (with_reducible refine SI3.set ?_ _ _ ?_ ?_ ?_) | (dsimp only; omega)))
   (first
    | (go_at_call 55; (with_reducible refine HM7.out.mono ?_); rintro r8 w8 ⟨v8,rfl,h8,hx8⟩; have hx78:=(Ext.refl (fun _=>False) w7).drew.trans hx8; have hX8:=HX7.out.1.trans hx78; have hU8:=HU.out w8 (HB.out.2.2.2.2.trans hX8) v8 h8; have hK8:=SI3.of (HB.out.1.ext hX8 id) (HB.out.2.1.ext hX8 id) (HX7.out.2.2.ext hx78 id); obtain ⟨neg8,ao8,n8,k8,rfl⟩:=h8.shape)
    | (go_at_call 73; (with_reducible refine hU8.mono ?_); rintro r9 w9 ⟨v9,rfl,h9,hx9⟩; have hx79:=hx78.trans hx9; have hX9:=HX7.out.1.trans hx79; have hK9:=SI3.of (HB.out.1.ext hX9 id) (HB.out.2.1.ext hX9 id) (HX7.out.2.2.ext hx79 id); have hr9:=HB.out.2.2.1.ext hX9 id; have hr9':=HB.out.2.2.2.1.ext hX9 id; obtain ⟨d0,d1,d2,d3⟩:=hr9.facts; obtain ⟨f0,f1,f2,f3⟩:=hr9'.facts; obtain ⟨neg9,ao9,n9,k9,rfl⟩:=h9.shape))
  have hp1:=hr9.put (neg:=neg5) (no_int ao5 n6 k5)
  have hp2:=(hr9'.ext hp1.ext (fun e=>n5 e.symm)).put (neg:=neg9) (no_int ao9 n9 k9)
  have HR:=bH (bI (hp2.int (hp1.int (HX7.out.2.1.keep hx79))) (bI (hp2.int (hp1.int h9)) (bI (((HB.out.2.2.2.2.trans hX9).own hp1.ext (fun k e=>by omega)).own hp2.ext (fun k e=>by omega)) (bI (hp1.box.ext hp2.ext n5) hp2.box))))
  clear hp1 hp2 h8 h9 hx8 hx9 hx78 hx79 hX8 hX9 hK8 hK9 hU8 d0 d1 d2 d3 f0 f1 f2 f3 hr9 hr9' hS
  generalize (((w9.setCell ⟨r,0,none⟩ (.bool neg5)).setCell ⟨r,1,none⟩ (.slice ao5 n6 k5)).setCell ⟨r',0,none⟩ (.bool neg9)).setCell ⟨r',1,none⟩ (.slice ao9 n9 k9)=w10 at *
  obtain ⟨g0,g1,_⟩:=HR.out.2.2.2.1.facts
  obtain ⟨g2,g3,_⟩:=HR.out.2.2.2.2.facts
  go_wp2
  exact bodyPost_ret (v:=.tuple #[.agg #[.bool neg5,.slice ao5 n6 k5],.agg #[.bool neg9,.slice ao9 n9 k9],.int .i64 0]) (by simp [results,Tryz.results135,go_sem,g0,g1,g2,g3]) rfl ⟨_,_,rfl,HR.out.1,HR.out.2.1,HR.out.2.2.1⟩
theorem quo_any (w:World) (v v':Value) (z z':Int) (L:Nat) (h:Rint w v z L) (h':Rint w v' z' L) (h0:¬ z'=0) (hL:L<=33554432) :
  Calls Tryz.prog 125 #[v,v'] w (QuoPost w z z'):=by
 have HD:=bH (fun W (hW:XF w W)=>divide_any W v v' z z' L (h.keep hW) (h'.keep hW) h0 hL)
 obtain ⟨neg,ao,m,c,l,rfl,_,_,_⟩:=h.open
 obtain ⟨neg',ao',m',c',l',rfl,_,_,_⟩:=h'.open
 clear h h'
 unfold QuoPost at *
 generalize z.tdiv z'=q at *
 generalize z - q*z'=s at *
 go_enter Tryz.func125,Tryz.ntmps125
 go_upto_region 0 with fail
 go_cut [2,3,4,5,6] (fun v1 v2 v3 v4 v8 wx=>∃ b b' r r',v1=.pointer (some ⟨b,0,none⟩)/\v2=.pointer (some ⟨b',0,none⟩)/\v3=.pointer (some ⟨r,0,none⟩)/\v4=.pointer (some ⟨r',0,none⟩)/\v8=.int .i64 0/\BoxI wx b neg (.slice ao m c)/\BoxI wx b' neg' (.slice ao' m' c')/\BoxI wx r false (.slice none 0 0)/\BoxI wx r' false (.slice none 0 0)/\¬ r=r'/\w.heap.size<=r/\w.heap.size<=r'/\XF w wx)
 case first =>
  go_wp2
  go_meet
  exact ⟨_,_,_,_,rfl,rfl,rfl,rfl,rfl,(((boxI_new rfl neg ao m c).alloc _).alloc _).alloc _,((boxI_new (by simp) neg' ao' m' c').alloc _).alloc _,(boxI_new (by simp) false none 0 0).alloc _,boxI_new (by simp) false none 0 0,(by omega),(by omega),(by omega),((((Ext.refl _ w).alloc _).alloc _).alloc _).alloc _⟩
 case rest =>
  obtain ⟨b,b',r,r',rfl,rfl,rfl,rfl,rfl,hb,hb',hrb,hrb',n5,hle,hle',hx⟩:=hcut
  obtain ⟨c0,c1,_⟩:=hb.facts
  obtain ⟨e0,e1,_⟩:=hb'.facts
  have HD1:=bH (HD.out wc hx)
  have HB:=bH (bI hrb (bI hrb' hx))
  clear hb hb' hrb hrb' hx
  go_wp2_with fail
  refine HD1.out.mono ?_
  rintro r1 w9 ⟨v1,v2,rfl,h1,h2,hx1⟩
  have hr9:=HB.out.1.ext hx1 id
  have hr9':=HB.out.2.1.ext hx1 id
  obtain ⟨d0,d1,d2,d3⟩:=hr9.facts
  obtain ⟨f0,f1,f2,f3⟩:=hr9'.facts
  obtain ⟨neg5,ao5,n6,k5,rfl⟩:=h1.shape
  obtain ⟨neg9,ao9,n9,k9,rfl⟩:=h2.shape
  have hp1:=hr9.put (neg:=neg5) (no_int ao5 n6 k5)
  have hp2:=(hr9'.ext hp1.ext (fun e=>n5 e.symm)).put (neg:=neg9) (no_int ao9 n9 k9)
  have HR:=bH (bI (hp2.int (hp1.int h1)) (bI (hp2.int (hp1.int h2)) (bI (((HB.out.2.2.trans hx1).own hp1.ext (fun k e=>by omega)).own hp2.ext (fun k e=>by omega)) (bI (hp1.box.ext hp2.ext n5) hp2.box))))
  clear hp1 hp2 h1 h2 hx1 hr9 hr9' c0 c1 e0 e1
  go_wp2
  generalize (((w9.setCell ⟨r,0,none⟩ (.bool neg5)).setCell ⟨r,1,none⟩ (.slice ao5 n6 k5)).setCell ⟨r',0,none⟩ (.bool neg9)).setCell ⟨r',1,none⟩ (.slice ao9 n9 k9)=w10 at *
  obtain ⟨g0,g1,_⟩:=HR.out.2.2.2.1.facts
  obtain ⟨g2,g3,_⟩:=HR.out.2.2.2.2.facts
  exact bodyPost_ret (v:=.tuple #[.agg #[.bool neg5,.slice ao5 n6 k5],.agg #[.bool neg9,.slice ao9 n9 k9],.int .i64 0]) (by simp [results,Tryz.results125,go_sem,g0,g1,g2,g3]) rfl ⟨_,_,rfl,HR.out.1,HR.out.2.1,HR.out.2.2.1⟩
def dn (d:Nat):Nat:=if d=0 then 1 else d
theorem dn_pos (d:Nat):0<dn d:=by unfold dn; split <;> omega
def Rrat (w:World) (v:Value) (q:Rat) (L:Nat):Prop:=∃ neg mag dv' l d,v=.agg #[.bool neg,mag,dv']/\Rds w mag l/\l.length<=L/\Rds w dv' d/\d.length<=L/\q=mkRat (sg neg (vl l)) (dn (vl d))
def dw (d:Nat):Nat:=if d=1 then 0 else d
def IsRat (w:World) (v:Value) (q:Rat):Prop:=∃ mag dv',v=.agg #[.bool (decide (q.num<0)),mag,dv']/\IsNat w mag q.num.natAbs/\IsNat w dv' (dw q.den)
def RatPost (w:World) (q:Rat) (r:Ending) (w':World):Prop:=∃ v,r=.returned v/\IsRat w' v q/\XF w w'
def RintPost (w:World) (z:Int) (L:Nat) (r:Ending) (w':World):Prop:=∃ v,r=.returned v/\Rint w' v z L/\XF w w'
def Sz (q:Rat) (L:Nat):Prop:=(dg q.num.natAbs).length<=L/\(dg q.den).length<=L
theorem Rrat.keep {w w':World} {v:Value} {q:Rat} {L:Nat} (h:Rrat w v q L) (hx:XF w w'):Rrat w' v q L:=by
 obtain ⟨neg,mag,dv',l,d,h1,h2,h3,h4,h5⟩:=h
 exact ⟨neg,mag,dv',l,d,h1,h2.keep hx,h3,h4.keep hx,h5⟩
theorem IsRat.keep {w w':World} {v:Value} {q:Rat} (h:IsRat w v q) (hx:XF w w'):IsRat w' v q:=by
 obtain ⟨mag,dv',h1,h2,h3⟩:=h
 exact ⟨mag,dv',h1,h2.keep hx,h3.keep hx⟩
theorem dn_dw (q:Rat):dn (dw q.den)=q.den:=by
 have:=q.den_nz
 unfold dn dw
 by_cases h:q.den=1
 ·rw [if_pos h,if_pos rfl,h]
 ·rw [if_neg h,if_neg this]
theorem dw_le (d:Nat):dw d<=d:=by unfold dw; split <;> omega
theorem sg_self (z:Int):sg (decide (z<0)) z.natAbs=z:=by
 unfold sg
 split
 ·rename_i h; have:=of_decide_eq_true h; omega
 ·rename_i h; have:¬ z<0:=fun h'=>h (decide_eq_true h'); omega
theorem IsRat.reads {w:World} {v:Value} {q:Rat} {L:Nat} (h:IsRat w v q) (hl:Sz q L):Rrat w v q L:=by
 obtain ⟨mag,dv',h1,h2,h3⟩:=h
 exact ⟨_,mag,dv',_,_,h1,h2,hl.1,h3,Nat.le_trans (dg_mono (dw_le _)) hl.2,by rw [vl_dg,vl_dg,dn_dw,sg_self,Rat.mkRat_self]⟩
theorem Rrat.open {w:World} {v:Value} {q:Rat} {L:Nat} (h:Rrat w v q L):∃ neg ao m c ao' m' c' l d,v=.agg #[.bool neg,.slice ao m c,.slice ao' m' c']/\Rint w (.agg #[.bool neg,.slice ao m c]) (sg neg (vl l)) L/\Rds w (.slice ao' m' c') d/\m'=d.length/\d.length<=L/\q=mkRat (sg neg (vl l)) (dn (vl d)):=by
 obtain ⟨neg,mag,dv',l,d,rfl,h1,h2,h3,h4,h5⟩:=h
 obtain ⟨ao,c,rfl,_⟩:=id h1.2
 obtain ⟨ao',c',rfl,_⟩:=id h3.2
 exact ⟨neg,ao,_,c,ao',_,c',l,d,rfl,⟨neg,_,l,rfl,h1,h2,rfl⟩,h3,rfl,h4,h5⟩
def BoxR (w:World) (b:Nat) (neg:Bool) (mag den:Value):Prop:=blk w b=some (.cells #[.bool neg,mag,den] 49 (0,0))/\(∀ k d,mag≠.int k d)/\∀ k d,den≠.int k d
theorem BoxR.lt {w:World} {b:Nat} {neg:Bool} {mag den:Value} (h:BoxR w b neg mag den):b<w.heap.size:=blk_lt h.1
theorem BoxR.facts {w:World} {b:Nat} {neg:Bool} {mag den:Value} (h:BoxR w b neg mag den):w.cell? ⟨b,0,none⟩=some (.bool neg)/\w.cell? ⟨b,1,none⟩=some mag/\w.cell? ⟨b,2,none⟩=some den/\w.frozen? ⟨b,0,none⟩=false/\w.frozen? ⟨b,1,none⟩=false/\w.frozen? ⟨b,2,none⟩=false :=
 ⟨by simpa using cell_of_cells h.1 0,by simpa using cell_of_cells h.1 1,by simpa using cell_of_cells h.1 2,free_of_cells h.1 0,free_of_cells h.1 1,free_of_cells h.1 2⟩
theorem BoxR.noDig {w:World} {b:Nat} {neg:Bool} {mag den:Value} (h:BoxR w b neg mag den):NoDig w b:=fun i d=>by
 rw [cell_of_cells h.1 i]
 match i with
 | 0=>simp
 | 1=>simpa using h.2.1 .u32 d
 | 2=>simpa using h.2.2 .u32 d
 | i+3=>simp
theorem BoxR.ext {S:Nat->Prop} {w w':World} {b:Nat} {neg:Bool} {mag den:Value} (h:BoxR w b neg mag den) (hx:Ext S w w') (hn:¬ S b):BoxR w' b neg mag den:=⟨(hx.blk h.lt hn).trans h.1,h.2⟩
theorem boxR_new {W:World} {k:Nat} (hk:k=W.heap.size) (neg:Bool) (ao:Option Addr) (n c:Nat) (ao':Option Addr) (n' c':Nat):BoxR (W.alloc (.cells #[.bool neg,.slice ao n c,.slice ao' n' c'] 49)) k neg (.slice ao n c) (.slice ao' n' c'):=by
 subst hk; exact ⟨blk_alloc_at _ _,no_int ao n c,no_int ao' n' c'⟩
theorem BoxR.alloc {W:World} {k:Nat} {neg:Bool} {mag den:Value} (h:BoxR W k neg mag den) (o:Obj):BoxR (W.alloc o) k neg mag den:=h.ext ((Ext.refl (fun _=>False) W).alloc o) id
structure PutR (w w':World) (r:Nat) (neg:Bool) (mag den:Value):Prop where
 box:BoxR w' r neg mag den
 ext:Ext (fun k=>k=r) w w'
 rds:∀ v l,Rds w v l->Rds w' v l
theorem BoxR.put {w:World} {r:Nat} {n0 neg:Bool} {m0 mag d0 den:Value} (h:BoxR w r n0 m0 d0) (hm:∀ k d,mag≠.int k d) (hd:∀ k d,den≠.int k d):PutR w (((w.setCell ⟨r,0,none⟩ (.bool neg)).setCell ⟨r,1,none⟩ mag).setCell ⟨r,2,none⟩ den) r neg mag den:=by
 have hx:Ext (fun k=>k=r) w (((w.setCell ⟨r,0,none⟩ (.bool neg)).setCell ⟨r,1,none⟩ mag).setCell ⟨r,2,none⟩ den):=(((Ext.refl (fun k=>k=r) w).setCell (p:=⟨r,0,none⟩) _ (fun _=>rfl)).setCell (p:=⟨r,1,none⟩) _ (fun _=>rfl)).setCell (p:=⟨r,2,none⟩) _ (fun _=>rfl)
 refine ⟨⟨?_,hm,hd⟩,hx,fun v l hr=>hr.past hx (fun k _ e=>by subst e; exact h.noDig)⟩
 have h1:=blk_setCell_same h.1 0 (.bool neg)
 have h2:=blk_setCell_same h1 1 mag
 have h3:=blk_setCell_same h2 2 den
 simpa using h3
theorem PutR.rat {w w':World} {r:Nat} {neg:Bool} {mag den v:Value} {q:Rat} (h:PutR w w' r neg mag den) (hi:IsRat w v q):IsRat w' v q:=by
 obtain ⟨mag,dv',h1,h2,h3⟩:=hi
 exact ⟨mag,dv',h1,h.rds _ _ h2,h.rds _ _ h3⟩
theorem IsRat.shape {w:World} {v:Value} {q:Rat} (h:IsRat w v q):∃ neg ao n c ao' n' c',v=.agg #[.bool neg,.slice ao n c,.slice ao' n' c']:=by
 obtain ⟨mag,dv',rfl,h2,h3⟩:=h
 obtain ⟨ao,c,rfl⟩:=h2.shape
 obtain ⟨ao',c',rfl⟩:=h3.shape
 exact ⟨_,ao,_,c,ao',_,c',rfl⟩
theorem IsRat.mk {w:World} {neg:Bool} {mag dv':Value} {q:Rat} (h:IsInt w (.agg #[.bool neg,mag]) q.num) (hd:IsNat w dv' (dw q.den)):IsRat w (.agg #[.bool neg,mag,dv']) q:=by
 obtain ⟨m,h1,h2⟩:=h
 injection h1 with h1
 simp at h1
 obtain ⟨rfl,rfl⟩:=h1
 exact ⟨mag,dv',rfl,h2,hd⟩
theorem IsRat.ofInt {w:World} {neg:Bool} {mag:Value} {z:Int} (h:IsInt w (.agg #[.bool neg,mag]) z):IsRat w (.agg #[.bool neg,mag,.slice none 0 0]) (z:Rat) :=
 IsRat.mk (by rw [Rat.num_intCast]; exact h) (by rw [Rat.den_intCast]; exact IsNat.nil w)
theorem Rint.shape {w:World} {v:Value} {z:Int} {L:Nat} (h:Rint w v z L):∃ neg ao n c,v=.agg #[.bool neg,.slice ao n c]:=by
 obtain ⟨neg,ao,m,c,l,h1,_⟩:=h.open
 exact ⟨neg,ao,m,c,h1⟩
theorem div_gcd {z:Int} {g:Nat} (hg:0<g) (h:g∣z.natAbs):∃ k:Int,z=g*k/\z / (g:Int)=k/\z.tdiv g=k:=by
 obtain ⟨k,hk⟩:=Int.ofNat_dvd_left.2 h
 have hg0:(g:Int)≠0:=by omega
 exact ⟨k,hk,by rw [hk,Int.mul_ediv_cancel_left _ hg0],by rw [hk,Int.mul_tdiv_cancel_left _ hg0]⟩
theorem sign_mkRat (z:Int) {d:Nat} (hd:0<d):(mkRat z d).num.sign=z.sign:=by
 have hg:0<d.gcd z.natAbs:=Nat.gcd_pos_of_pos_left _ hd
 obtain ⟨k,h1,h2,_⟩:=div_gcd hg (Nat.gcd_dvd_right d z.natAbs)
 rw [Rat.num_mkRat,if_neg (by omega),h2]
 generalize d.gcd z.natAbs=g at *
 rw [h1,Int.sign_mul,sign_pos hg,Int.one_mul]
theorem den_any (w:World) (v:Value) (neg:Bool) (ao:Option Addr) (m c:Nat) (ao':Option Addr) (m' c':Nat) (d:List Nat) (L:Nat) (hv:v=.agg #[.bool neg,.slice ao m c,.slice ao' m' c'])
  (h:Rds w (.slice ao' m' c') d) (hl:d.length<=L) (hL:L<=268435455) (h1:1<=L) :
  Calls Tryz.prog 56 #[v] w (RintPost w (dn (vl d):Nat) L):=by
 subst hv
 have HB:=bH (fun W (hW:XF w W)=>bits_any W _ d (h.keep hW) (by omega))
 have HF:=bH (fun W=>ifrom_any W 1 (by omega) (by omega))
 have HR:=bH (bI h hl)
 clear h hl
 obtain ⟨Z,hZ⟩:∃ Z:Int,(dn (vl d):Int)=Z:=⟨_,rfl⟩
 rw [hZ]
 by_cases h0:vl d=0
 ·have hz:Z=1:=by rw [<- hZ]; unfold dn; rw [if_pos h0]; rfl
  subst hz
  have H0:=bH h0
  clear h0 hZ
  go_enter Tryz.func56,Tryz.ntmps56
  go_wp2_with fail
  refine (HB.out _ (((Ext.refl _ w).alloc _).alloc _)).mono ?_
  rintro r w' ⟨q,rfl,hw,hq⟩
  subst hw
  obtain rfl:=hq.2 H0.out
  clear HB hq
  obtain ⟨rb,hrb⟩:∃ rb,w.heap.size+1=rb:=⟨_,rfl⟩
  have hb0:=boxI_new (W:=w.alloc (.cells #[.bool neg,.slice ao m c,.slice ao' m' c'] 49)) (k:=rb) (by simp; omega) false none 0 0
  have hx0:XF w ((w.alloc (.cells #[.bool neg,.slice ao m c,.slice ao' m' c'] 49)).alloc (.cells #[.bool false,.slice none 0 0] 47)):=((Ext.refl _ w).alloc _).alloc _
  rw [hrb]
  generalize (w.alloc (.cells #[.bool neg,.slice ao m c,.slice ao' m' c'] 49)).alloc (.cells #[.bool false,.slice none 0 0] 47)=w1 at *
  have HB0:=bH (bI hb0 hx0)
  clear hb0 hx0
  go_wp2_with fail
  refine (HF.out _).mono ?_
  rintro r6 w6 ⟨v6,rfl,h6,hx6⟩
  have hr6:=HB0.out.1.ext hx6 id
  obtain ⟨d0,d1,d2,d3⟩:=hr6.facts
  have hX6:=HB0.out.2.trans hx6
  obtain ⟨neg6,so,sn,sc,rfl⟩:=h6.shape
  have hp:=hr6.put (neg:=neg6) (no_int so sn sc)
  have HR:=bH (bI ((hp.int h6).reads (L:=L) (Nat.le_trans (dg_length_le (k:=1) (by decide)) h1)) (bI (hX6.own hp.ext (fun k e=>by omega)) hp.box))
  clear hp h6 hX6 hr6 hx6
  go_wp2
  generalize (w6.setCell ⟨rb,0,none⟩ (.bool neg6)).setCell ⟨rb,1,none⟩ (.slice so sn sc)=w9 at *
  obtain ⟨g0,g1,_⟩:=HR.out.2.2.facts
  exact bodyPost_ret (v:=.agg #[.bool neg6,.slice so sn sc]) (by simp [results,Tryz.results56,go_sem,g0,g1]) rfl ⟨_,rfl,HR.out.1,HR.out.2.1⟩
 ·have hz:Z=(vl d:Int):=by rw [<- hZ]; unfold dn; rw [if_neg h0]
  have HZ:=bH hz
  have H0:=bH h0
  clear h0 hZ hz
  go_enter Tryz.func56,Tryz.ntmps56
  go_wp2_with fail
  refine (HB.out _ (((Ext.refl _ w).alloc _).alloc _)).mono ?_
  rintro r w' ⟨q,rfl,hw,hq⟩
  subst hw
  have hq0:¬ (q:Int)=0:=fun h=>H0.out (hq.1 (by omega))
  clear HB hq
  have hx0:XF w ((w.alloc (.cells #[.bool neg,.slice ao m c,.slice ao' m' c'] 49)).alloc (.cells #[.bool false,.slice ao' m' c'] 47)):=((Ext.refl _ w).alloc _).alloc _
  have HX0:=bH hx0
  clear hx0
  go_wp2
  exact bodyPost_ret (v:=.agg #[.bool false,.slice ao' m' c']) (by simp [results,Tryz.results56,go_sem]) rfl ⟨_,rfl,⟨false,_,d,rfl,HR.out.1.keep HX0.out,HR.out.2,by rw [HZ.out]; rfl⟩,HX0.out⟩
theorem rfrom_any (w:World) (k:Int) (h0:-9223372036854775808<=k) (h1:k<=9223372036854775807) :
  Calls Tryz.prog 35 #[.int .i64 k] w (RatPost w (k:Rat)):=by
 have HF:=bH (fun W=>ifrom_any W k h0 h1)
 obtain ⟨q,hq⟩:∃ q:Rat,(k:Rat)=q:=⟨_,rfl⟩
 have hof:∀ W neg mag,IsInt W (.agg #[.bool neg,mag]) k->IsRat W (.agg #[.bool neg,mag,.slice none 0 0]) q:=fun W neg mag h=>by rw [<- hq]; exact IsRat.ofInt h
 have Hof:=bH hof
 rw [hq]
 clear hof hq h0 h1
 go_enter Tryz.func35,Tryz.ntmps35
 go_wp2_with fail
 refine (HF.out _).mono ?_
 rintro r6 w6 ⟨v6,rfl,h6,hx6⟩
 have hr6:=(boxR_new rfl false none 0 0 none 0 0 (W:=w)).ext hx6 id
 obtain ⟨d0,d1,d2,d3,d4,d5⟩:=hr6.facts
 have hX6:=((Ext.refl (fun _=>False) w).alloc _).trans hx6
 obtain ⟨neg6,so,sn,sc,rfl⟩:=h6.shape
 have hp:=hr6.put (neg:=neg6) (no_int so sn sc) (no_int none 0 0)
 have HR:=bH (bI (hp.rat (Hof.out _ _ _ h6)) (bI (hX6.own hp.ext (fun k e=>by omega)) hp.box))
 clear hp h6 hX6 hr6 hx6
 go_wp2
 generalize ((w6.setCell ⟨w.heap.size,0,none⟩ (.bool neg6)).setCell ⟨w.heap.size,1,none⟩ (.slice so sn sc)).setCell ⟨w.heap.size,2,none⟩ (.slice none 0 0)=w9 at *
 obtain ⟨g0,g1,g2,_⟩:=HR.out.2.2.facts
 exact bodyPost_ret (v:=.agg #[.bool neg6,.slice so sn sc,.slice none 0 0]) (by simp [results,Tryz.results35,go_sem,g0,g1,g2]) rfl ⟨_,rfl,HR.out.1,HR.out.2.1⟩
theorem rsign_any (w:World) (v:Value) (q:Rat) (L:Nat) (h:Rrat w v q L) (hL:L<=268435455) :
  Calls Tryz.prog 58 #[v] w fun r w'=>r=.returned (.int .i64 q.num.sign)/\XF w w':=by
 obtain ⟨neg,ao,m,c,ao',m',c',l,d,rfl,h1,_,_,_,rfl⟩:=h.open
 rw [sign_mkRat _ (dn_pos _)]
 have HS:=bH (fun W (hW:XF w W)=>isign_any W _ _ L (h1.keep hW) hL)
 generalize sg neg (vl l)=z at *
 clear h h1
 go_enter Tryz.func58,Tryz.ntmps58
 go_wp2_with fail
 refine (HS.out _ ((Ext.refl _ w).alloc _)).mono ?_
 rintro r6 w6 ⟨rfl,hx6⟩
 have HX6:=bH (((Ext.refl (fun _=>False) w).alloc _).trans hx6)
 clear hx6
 go_wp2
 go_ret
 exact ⟨rfl,HX6.out⟩
theorem red_num {z:Int} {y:Nat} (hy:0<y):z.tdiv ((Nat.gcd z.natAbs y:Nat):Int)=(mkRat z y).num/\(y:Int).tdiv ((Nat.gcd z.natAbs y:Nat):Int)=((mkRat z y).den:Int):=by
 have hg:0<Nat.gcd z.natAbs y:=Nat.gcd_pos_of_pos_right _ hy
 have hc:y.gcd z.natAbs=Nat.gcd z.natAbs y:=Nat.gcd_comm _ _
 obtain ⟨k,h1,h2,h3⟩:=div_gcd hg (Nat.gcd_dvd_left z.natAbs y)
 rw [Rat.num_mkRat,Rat.den_mkRat,if_neg (by omega),if_neg (by omega),hc,h2,h3]
 exact ⟨rfl,tdiv_nat _ _⟩
theorem cmpN_one (d:Nat):cmpN d 1=0↔d=1:=by unfold cmpN; split <;> (try split) <;> omega
abbrev S1 (b:Nat) (m:Value) (W:World):Prop:=W.cell? ⟨b,1,none⟩=some m
theorem S1.drew {b:Nat} {m:Value} {W:World} (h:S1 b m W):S1 b m W.drew:=h
theorem reduced_any (w:World) (v v':Value) (z:Int) (y L:Nat) (h:Rint w v z L) (h':Rint w v' (y:Int) L) (hy:0<y) (hL:L<=33554432) :
  Calls Tryz.prog 106 #[v,v'] w (RatPost w (mkRat z y)):=by
 have HSg:=bH (fun W (hW:XF w W)=>isign_any W v' y L (h'.keep hW) (by omega))
 rw [sign_pos hy] at HSg
 obtain ⟨hq1,hq2⟩:=red_num (z:=z) hy
 have hg:0<Nat.gcd z.natAbs y:=Nat.gcd_pos_of_pos_right _ hy
 have hgl:(dg (Nat.gcd z.natAbs y)).length<=L:=Nat.le_trans (dg_mono (Nat.gcd_le_right _ hy)) h'.len
 have HQ1:=bH (fun W (hW:XF w W) ao n c (hu:IsNat W (.slice ao n c) (Nat.gcd z.natAbs y))=>quo_any W v (.agg #[.bool false,.slice ao n c]) z ((Nat.gcd z.natAbs y:Nat):Int) L (h.keep hW) ⟨false,_,_,rfl,hu,hgl,by rw [vl_dg]; rfl⟩ (by omega) hL)
 have HQ2:=bH (fun W (hW:XF w W) ao n c (hu:IsNat W (.slice ao n c) (Nat.gcd z.natAbs y))=>quo_any W v' (.agg #[.bool false,.slice ao n c]) y ((Nat.gcd z.natAbs y:Nat):Int) L (h'.keep hW) ⟨false,_,_,rfl,hu,hgl,by rw [vl_dg]; rfl⟩ (by omega) hL)
 unfold QuoPost at HQ1 HQ2
 simp only [hq1,hq2] at HQ1 HQ2
 have hdl:(dg (mkRat z y).den).length<=L:=by
  have:(mkRat z y).den<=y:=by
   have e:=hq2
   rw [tdiv_nat] at e
   have:=Nat.div_le_self y (Nat.gcd z.natAbs y)
   omega
  exact Nat.le_trans (dg_mono this) h'.len
 have HC:=bH (fun W u u' (h1:IsNat W u (mkRat z y).den) (h2:IsNat W u' 1)=>cmp_any W u u' _ _ h1 h2 (by omega) (Nat.le_trans (dg_two (n:=1) (by decide)).1 (by decide)))
 simp only [vl_dg] at HC
 have hF:∀ W,Calls Tryz.prog 77 #[.int .u64 1] W (NatPost W 1):=fun W=>from_any W 1 (by decide)
 have HF:=bH hF
 clear hF
 obtain ⟨neg,ao,m,c,l,rfl,hr,hl,hz⟩:=h.open
 obtain ⟨neg',ao',m',c',l',rfl,hr',hl',hz'⟩:=h'.open
 have HG:=bH (fun W (hW:XF w W)=>gcd_any W _ _ l l' (hr.keep hW) (hr'.keep hW) (by omega) (by omega))
 have e1:vl l=z.natAbs:=by rw [hz,sg_natAbs]
 have e2:vl l'=y:=by have:=congrArg Int.natAbs hz'; rw [sg_natAbs] at this; simpa using this.symm
 rw [e1,e2] at HG
 clear hq1 hq2 hg hgl hdl hr hr' hl hl' hz hz' e1 e2 h h'
 generalize Nat.gcd z.natAbs y=g at *
 generalize mkRat z y=q at *
 go_enter Tryz.func106,Tryz.ntmps106
 go_upto_region 0 with fail
 go_cut [2,3,4] (fun v1 v2 v3 wx=>∃ b b' r,v1=.pointer (some ⟨b,0,none⟩)/\v2=.pointer (some ⟨b',0,none⟩)/\v3=.pointer (some ⟨r,0,none⟩)/\BoxI wx b neg (.slice ao m c)/\BoxI wx b' neg' (.slice ao' m' c')/\BoxR wx r false (.slice none 0 0) (.slice none 0 0)/\w.heap.size<=r/\XF w wx)
 case first =>
  go_wp2
  go_meet
  exact ⟨_,_,_,rfl,rfl,rfl,((boxI_new rfl neg ao m c).alloc _).alloc _,(boxI_new (by simp) neg' ao' m' c').alloc _,boxR_new (by simp) false none 0 0 none 0 0,(by omega),(((Ext.refl _ w).alloc _).alloc _).alloc _⟩
 case rest =>
  obtain ⟨b,b',r,rfl,rfl,rfl,hb,hb',hrb,hle,hx⟩:=hcut
  obtain ⟨e0,e1,_⟩:=hb'.facts
  have HB:=bH (bI hb (bI hb' (bI hrb hx)))
  clear hb hb' hrb hx
  go_wp2_with fail
  refine (HSg.out _ HB.out.2.2.2).mono ?_
  rintro r1 w1 ⟨rfl,hx1⟩
  have HX1:=bH hx1
  obtain ⟨c10,c11,_⟩:=(HB.out.1.ext hx1 id).facts
  obtain ⟨e10,e11,_⟩:=(HB.out.2.1.ext hx1 id).facts
  have HG1:=bH (HG.out w1 (HB.out.2.2.2.trans hx1))
  clear hx1 e0 e1
  go_wp2_with fail
  refine HG1.out.mono ?_
  rintro r2 w2 ⟨vg,rfl,hg2,hx2⟩
  obtain ⟨aog,cg,rfl⟩:=hg2.shape
  generalize (dg g).length=ng at *
  clear c10 c11 e10 e11 HG1
  have hbg:=boxI_new (W:=w2) rfl false aog ng cg
  have hx23:=(Ext.refl (fun _=>False) w2).alloc (.cells #[.bool false,.slice aog ng cg] 47)
  have hX3:=(HX1.out.trans hx2).trans hx23
  go_upto_region 4 with fail
  obtain ⟨bg,hbge⟩:∃ bg,w2.heap.size=bg:=⟨_,rfl⟩
  rw [hbge] at hbg ⊢
  generalize w2.alloc (.cells #[.bool false,.slice aog ng cg] 47)=w3 at *
  obtain ⟨c0,c1,_⟩:=(HB.out.1.ext hX3 id).facts
  obtain ⟨g0,g1,_⟩:=hbg.facts
  have HQ13:=bH (HQ1.out w3 (HB.out.2.2.2.trans hX3) aog ng cg (hg2.keep hx23))
  have HX3:=bH (bI hX3 (bI hbg (hg2.keep hx23)))
  clear hg2 hx2 hX3 hbg hx23 hbge HX1
  go_wp2_with fail
  refine HQ13.out.mono ?_
  rintro r4 w4 ⟨vn,vs,rfl,hn4,hs4,hx4⟩
  obtain ⟨nn,aon,mn,cn,rfl⟩:=hn4.shape
  obtain ⟨ns,aos,ms,cs,rfl⟩:=hs4.shape
  have hX4:=HX3.out.1.trans hx4
  clear c0 c1 g0 g1
  go_upto_region 5 with fail
  obtain ⟨bn,hbne⟩:∃ bn,w4.heap.size=bn:=⟨_,rfl⟩
  have hbn:=(boxI_new (W:=w4) rfl nn aon mn cn).alloc (.cells #[.bool ns,.slice aos ms cs] 47)
  have hx45:=((Ext.refl (fun _=>False) w4).alloc (.cells #[.bool nn,.slice aon mn cn] 47)).alloc (.cells #[.bool ns,.slice aos ms cs] 47)
  rw [hbne] at hbn ⊢
  generalize (w4.alloc (.cells #[.bool nn,.slice aon mn cn] 47)).alloc (.cells #[.bool ns,.slice aos ms cs] 47)=w5 at *
  have hX5:=hX4.trans hx45
  obtain ⟨e0,e1,_⟩:=(HB.out.2.1.ext hX5 id).facts
  obtain ⟨g0,g1,_⟩:=(HX3.out.2.1.ext (hx4.trans hx45) id).facts
  have HQ25:=bH (HQ2.out w5 (HB.out.2.2.2.trans hX5) aog ng cg (HX3.out.2.2.keep (hx4.trans hx45)))
  have HX5:=bH (bI hX5 (bI (hn4.keep hx45) hbn))
  clear hX4 hx4 hX5 hx45 hbn hn4 hs4 hbne
  go_wp2_with fail
  refine HQ25.out.mono ?_
  rintro r6 w6 ⟨vd,vt,rfl,hd6,ht6,hx6⟩
  obtain ⟨nd,aod,md,cd,rfl⟩:=hd6.shape
  obtain ⟨nt,aot,mt,ct,rfl⟩:=ht6.shape
  have hX6:=HX5.out.1.trans hx6
  clear e0 e1 g0 g1
  go_upto_region 6 with fail
  obtain ⟨bd,hbde⟩:∃ bd,w6.heap.size=bd:=⟨_,rfl⟩
  have hbd:=(boxI_new (W:=w6) rfl nd aod md cd).alloc (.cells #[.bool nt,.slice aot mt ct] 47)
  have hx67:=((Ext.refl (fun _=>False) w6).alloc (.cells #[.bool nd,.slice aod md cd] 47)).alloc (.cells #[.bool nt,.slice aot mt ct] 47)
  rw [hbde] at hbd ⊢
  generalize (w6.alloc (.cells #[.bool nd,.slice aod md cd] 47)).alloc (.cells #[.bool nt,.slice aot mt ct] 47)=w7 at *
  have hX7:=hX6.trans hx67
  have hnd:IsNat w7 (.slice aod md cd) q.den:=by
   obtain ⟨m0,h1,h2⟩:=hd6.keep hx67
   cases h1
   rw [Int.natAbs_natCast] at h2
   exact h2
  have hS:S1 bd (.slice aod md cd) w7:=hbd.facts.2.1
  have HX7:=bH (bI hX7 (bI (HX5.out.2.1.keep (hx6.trans hx67)) (bI (HX5.out.2.2.ext (hx6.trans hx67) id) (bI hbd hnd))))
  clear hX6 hx6 hX7 hx67 hbd hd6 ht6 hbde hnd
  go_region_held3 (S1 bd (.slice aod md cd))
   (repeat (first | (with_reducible assumption) | (with_reducible refine S1.drew ?_)))
   (first
    | (go_at_call 77; (with_reducible refine (HF.out _).mono ?_); rintro r8 w8 ⟨v8,rfl,h8,hx8⟩; have hx78:=(Ext.refl (fun _=>False) w7).drew.trans hx8; have hK8:S1 bd (.slice aod md cd) w8:=(HX7.out.2.2.2.1.ext hx78 id).facts.2.1; have hC8:=HC.out w8 _ _ (HX7.out.2.2.2.2.keep hx78) h8)
    | (go_at_call 104; (with_reducible refine hC8.mono ?_); rintro r9 w' ⟨rfl,hw⟩; obtain rfl:=hw.symm))
  have hX8:=HX7.out.1.trans hx78
  have hr8:=HB.out.2.2.1.ext hX8 id
  obtain ⟨d0,d1,d2,d3,d4,d5⟩:=hr8.facts
  obtain ⟨c0,c1,_⟩:=(HX7.out.2.2.1.ext hx78 id).facts
  have hn8:=HX7.out.2.1.keep hx78
  have hd8:=HX7.out.2.2.2.2.keep hx78
  have hXw:=HB.out.2.2.2.trans hX8
  have hc1:=cmpN_one q.den
  generalize cmpN q.den 1=cq at *
  by_cases h1:q.den=1
  ·have hcq:=hc1.2 h1
   subst hcq
   have hp:=hr8.put (neg:=nn) (no_int aon mn cn) (no_int none 0 0)
   have hR0:IsRat w8 (.agg #[.bool nn,.slice aon mn cn,.slice none 0 0]) q:=IsRat.mk hn8 (by rw [h1]; exact IsNat.nil w8)
   have HR:=bH (bI (hp.rat hR0) (bI (hXw.own hp.ext (fun k e=>by omega)) hp.box))
   clear hp hR0 hn8 hd8 hr8 hXw hX8 hx8 hx78 h8 hC8 hK8 hS hc1 h1
   go_wp2
   generalize ((w8.setCell ⟨r,0,none⟩ (.bool nn)).setCell ⟨r,1,none⟩ (.slice aon mn cn)).setCell ⟨r,2,none⟩ (.slice none 0 0)=w9 at *
   obtain ⟨g0,g1,g2,_⟩:=HR.out.2.2.facts
   exact bodyPost_ret (v:=.agg #[.bool nn,.slice aon mn cn,.slice none 0 0]) (by simp [results,Tryz.results106,go_sem,g0,g1,g2]) rfl ⟨_,rfl,HR.out.1,HR.out.2.1⟩
  ·have hcq:¬ cq=0:=fun e=>h1 (hc1.1 e)
   have hp:=hr8.put (neg:=nn) (no_int aon mn cn) (no_int aod md cd)
   have hR0:IsRat w8 (.agg #[.bool nn,.slice aon mn cn,.slice aod md cd]) q:=IsRat.mk hn8 (by unfold dw; rw [if_neg h1]; exact hd8)
   have HR:=bH (bI (hp.rat hR0) (bI (hXw.own hp.ext (fun k e=>by omega)) hp.box))
   clear hp hR0 hn8 hd8 hr8 hXw hX8 hx8 hx78 h8 hC8 hS hc1 h1
   have hcb:(cq == 0)=false:=by simpa using hcq
   go_wp2
   generalize ((w8.setCell ⟨r,0,none⟩ (.bool nn)).setCell ⟨r,1,none⟩ (.slice aon mn cn)).setCell ⟨r,2,none⟩ (.slice aod md cd)=w9 at *
   obtain ⟨g0,g1,g2,_⟩:=HR.out.2.2.facts
   exact bodyPost_ret (v:=.agg #[.bool nn,.slice aon mn cn,.slice aod md cd]) (by simp [results,Tryz.results106,go_sem,g0,g1,g2]) rfl ⟨_,rfl,HR.out.1,HR.out.2.1⟩
abbrev SI4 (b1 b2 b3 b4:Nat) (n1 n2 n3 n4:Bool) (m1 m2 m3 m4:Value) (W:World):Prop :=
 W.cell? ⟨b1,0,none⟩=some (.bool n1)/\W.cell? ⟨b1,1,none⟩=some m1/\W.cell? ⟨b2,0,none⟩=some (.bool n2)/\W.cell? ⟨b2,1,none⟩=some m2/\W.cell? ⟨b3,0,none⟩=some (.bool n3)/\W.cell? ⟨b3,1,none⟩=some m3/\W.cell? ⟨b4,0,none⟩=some (.bool n4)/\W.cell? ⟨b4,1,none⟩=some m4
section
variable {b1 b2 b3 b4:Nat} {n1 n2 n3 n4:Bool} {m1 m2 m3 m4:Value} {W:World}
def Box4 (W:World) (b1 b2 b3 b4:Nat) (n1 n2 n3 n4:Bool) (m1 m2 m3 m4:Value):Prop:=BoxI W b1 n1 m1/\BoxI W b2 n2 m2/\BoxI W b3 n3 m3/\BoxI W b4 n4 m4
theorem Box4.s (h:Box4 W b1 b2 b3 b4 n1 n2 n3 n4 m1 m2 m3 m4):SI4 b1 b2 b3 b4 n1 n2 n3 n4 m1 m2 m3 m4 W:=⟨h.1.facts.1,h.1.facts.2.1,h.2.1.facts.1,h.2.1.facts.2.1,h.2.2.1.facts.1,h.2.2.1.facts.2.1,h.2.2.2.facts.1,h.2.2.2.facts.2.1⟩
theorem Box4.keep {W':World} (h:Box4 W b1 b2 b3 b4 n1 n2 n3 n4 m1 m2 m3 m4) (hx:XF W W'):Box4 W' b1 b2 b3 b4 n1 n2 n3 n4 m1 m2 m3 m4:=⟨h.1.ext hx id,h.2.1.ext hx id,h.2.2.1.ext hx id,h.2.2.2.ext hx id⟩
theorem SI4.drew (h:SI4 b1 b2 b3 b4 n1 n2 n3 n4 m1 m2 m3 m4 W):SI4 b1 b2 b3 b4 n1 n2 n3 n4 m1 m2 m3 m4 W.drew:=h
theorem SI4.set (h:SI4 b1 b2 b3 b4 n1 n2 n3 n4 m1 m2 m3 m4 W) (p:Addr) (u:Value) (h1:¬ b1=p.block) (h2:¬ b2=p.block) (h3:¬ b3=p.block) (h4:¬ b4=p.block):SI4 b1 b2 b3 b4 n1 n2 n3 n4 m1 m2 m3 m4 (W.setCell p u):=by
 obtain ⟨a1,a2,a3,a4,a5,a6,a7,a8⟩:=h
 exact ⟨cell_other a1 h1,cell_other a2 h1,cell_other a3 h2,cell_other a4 h2,cell_other a5 h3,cell_other a6 h3,cell_other a7 h4,cell_other a8 h4⟩
end
def TwoInt (w:World) (Z Y:Int) (r:Ending) (w':World):Prop:=∃ a b,r=.returned (.tuple #[a,b])/\IsInt w' a Z/\IsInt w' b Y/\XF w w'
theorem mulf_any (w:World) (p q r s:Value) (zp zq zr zs:Int) (L:Nat) (hp:Rint w p zp L) (hq:Rint w q zq L) (hr:Rint w r zr L) (hs:Rint w s zs L) (hL:L<=4194304) :
  Calls Tryz.prog 81 #[p,q,r,s] w (TwoInt w (zp*zr) (zq*zs)):=by
 have H1:=bH (fun W (hW:XF w W)=>imul_any W p r zp zr L (hp.keep hW) (hr.keep hW) (by omega))
 have H2:=bH (fun W (hW:XF w W)=>imul_any W q s zq zs L (hq.keep hW) (hs.keep hW) (by omega))
 obtain ⟨n1,a1,l1,c1,_,rfl,_,_,_⟩:=hp.open
 obtain ⟨n2,a2,l2,c2,_,rfl,_,_,_⟩:=hq.open
 obtain ⟨n3,a3,l3,c3,_,rfl,_,_,_⟩:=hr.open
 obtain ⟨n4,a4,l4,c4,_,rfl,_,_,_⟩:=hs.open
 clear hp hq hr hs
 unfold TwoInt
 generalize zp*zr=Z at *
 generalize zq*zs=Y at *
 go_enter Tryz.func81,Tryz.ntmps81
 go_upto_region 0 with fail
 go_cut [4,5,6,7,8,9] (fun v1 v2 v3 v4 v5 v6 wx=>∃ b1 b2 b3 b4 r1 r2,v1=.pointer (some ⟨b1,0,none⟩)/\v2=.pointer (some ⟨b2,0,none⟩)/\v3=.pointer (some ⟨b3,0,none⟩)/\v4=.pointer (some ⟨b4,0,none⟩)/\v5=.pointer (some ⟨r1,0,none⟩)/\v6=.pointer (some ⟨r2,0,none⟩)/\Box4 wx b1 b2 b3 b4 n1 n2 n3 n4 (.slice a1 l1 c1) (.slice a2 l2 c2) (.slice a3 l3 c3) (.slice a4 l4 c4)/\BoxI wx r1 false (.slice none 0 0)/\BoxI wx r2 false (.slice none 0 0)/\b1<r1/\b2<r1/\b3<r1/\b4<r1/\r1<r2/\w.heap.size<=r1/\XF w wx)
 case first =>
  go_wp2
  go_meet
  exact ⟨_,_,_,_,_,_,rfl,rfl,rfl,rfl,rfl,rfl,⟨(((((boxI_new rfl n1 a1 l1 c1).alloc _).alloc _).alloc _).alloc _).alloc _,((((boxI_new (by simp) n2 a2 l2 c2).alloc _).alloc _).alloc _).alloc _,(((boxI_new (by simp) n3 a3 l3 c3).alloc _).alloc _).alloc _,((boxI_new (by simp) n4 a4 l4 c4).alloc _).alloc _⟩,(boxI_new (by simp) false none 0 0).alloc _,boxI_new (by simp) false none 0 0,(by omega),(by omega),(by omega),(by omega),(by omega),(by omega),((((((Ext.refl _ w).alloc _).alloc _).alloc _).alloc _).alloc _).alloc _⟩
 case rest =>
  obtain ⟨b1,b2,b3,b4,r1,r2,rfl,rfl,rfl,rfl,rfl,rfl,hb,hr1,hr2,i1,i2,i3,i4,i5,hle,hx⟩:=hcut
  have hS:=hb.s
  have HB:=bH (bI hb (bI hr1 (bI hr2 hx)))
  clear hb hr1 hr2 hx
  go_upto_region 1 with fail
  go_region_held3 (SI4 b1 b2 b3 b4 n1 n2 n3 n4 (.slice a1 l1 c1) (.slice a2 l2 c2) (.slice a3 l3 c3) (.slice a4 l4 c4))
   (repeat (first | (with_reducible assumption) | (with_reducible refine SI4.drew ?_) | (with_reducible refine SI4.set ?_ _ _ ?_ ?_ ?_ ?_) | (dsimp only; omega)))
   (first
    | (go_at_call 55; (with_reducible refine (H1.out _ (HB.out.2.2.2.drew)).mono ?_); rintro q1 w11 ⟨v11,rfl,h11,hx11⟩; have hX1:=(Ext.refl (fun _=>False) wc).drew.trans hx11; have hK1:=(HB.out.1.keep hX1).s; obtain ⟨ng1,ag1,lg1,cg1,rfl⟩:=h11.shape)
    | (go_at_call 55; (with_reducible refine (H2.out _ (HB.out.2.2.2.trans hX1)).mono ?_); rintro q2 w12 ⟨v12,rfl,h12,hx12⟩; have hX2:=hX1.trans hx12; have hK2:=(HB.out.1.keep hX2).s; have hR1:=HB.out.2.1.ext hX2 id; have hR2:=HB.out.2.2.1.ext hX2 id; obtain ⟨d0,d1,d2,d3⟩:=hR1.facts; obtain ⟨f0,f1,f2,f3⟩:=hR2.facts; obtain ⟨ng2,ag2,lg2,cg2,rfl⟩:=h12.shape))
  have hp1:=hR1.put (neg:=ng1) (no_int ag1 lg1 cg1)
  have hp2:=(hR2.ext hp1.ext (fun e=>by omega)).put (neg:=ng2) (no_int ag2 lg2 cg2)
  have HR:=bH (bI (hp2.int (hp1.int (h11.keep hx12))) (bI (hp2.int (hp1.int h12)) (bI (((HB.out.2.2.2.trans hX2).own hp1.ext (fun k e=>by omega)).own hp2.ext (fun k e=>by omega)) (bI (hp1.box.ext hp2.ext (fun e=>by omega)) hp2.box))))
  clear hp1 hp2 hR1 hR2 hS d0 d1 d2 d3 f0 f1 f2 f3 h11 hx11 hX1 hK1 h12 hx12 hX2 hK2
  generalize (((w12.setCell ⟨r1,0,none⟩ (.bool ng1)).setCell ⟨r1,1,none⟩ (.slice ag1 lg1 cg1)).setCell ⟨r2,0,none⟩ (.bool ng2)).setCell ⟨r2,1,none⟩ (.slice ag2 lg2 cg2)=w20 at *
  obtain ⟨g0,g1,_⟩:=HR.out.2.2.2.1.facts
  obtain ⟨g2,g3,_⟩:=HR.out.2.2.2.2.facts
  go_wp2
  exact bodyPost_ret (v:=.tuple #[.agg #[.bool ng1,.slice ag1 lg1 cg1],.agg #[.bool ng2,.slice ag2 lg2 cg2]]) (by simp [results,Tryz.results81,go_sem,g0,g1,g2,g3]) rfl ⟨_,_,rfl,HR.out.1,HR.out.2.1,HR.out.2.2.1⟩
theorem addf_any (w:World) (p q r s:Value) (zp zq zr zs:Int) (L:Nat) (hp:Rint w p zp L) (hq:Rint w q zq L) (hr:Rint w r zr L) (hs:Rint w s zs L) (hL:L<=4194304) :
  Calls Tryz.prog 80 #[p,q,r,s] w (TwoInt w (zp*zs+zr*zq) (zq*zs)):=by
 have H1:=bH (fun W (hW:XF w W)=>imul_any W p s zp zs L (hp.keep hW) (hs.keep hW) (by omega))
 have H2:=bH (fun W (hW:XF w W)=>imul_any W r q zr zq L (hr.keep hW) (hq.keep hW) (by omega))
 have H4:=bH (fun W (hW:XF w W)=>imul_any W q s zq zs L (hq.keep hW) (hs.keep hW) (by omega))
 have hl1:=len_mul hp.len hs.len
 have hl2:=len_mul hr.len hq.len
 have H3:=bH (fun W u u' (hu:IsInt W u (zp*zs)) (hu':IsInt W u' (zr*zq))=>iadd_any W u u' _ _ (L+L) (hu.reads hl1) (hu'.reads hl2) (by omega))
 clear hl1 hl2
 obtain ⟨n1,a1,l1,c1,_,rfl,_,_,_⟩:=hp.open
 obtain ⟨n2,a2,l2,c2,_,rfl,_,_,_⟩:=hq.open
 obtain ⟨n3,a3,l3,c3,_,rfl,_,_,_⟩:=hr.open
 obtain ⟨n4,a4,l4,c4,_,rfl,_,_,_⟩:=hs.open
 clear hp hq hr hs
 unfold TwoInt
 generalize zp*zs=Z1 at *
 generalize zr*zq=Z2 at *
 generalize zq*zs=Y at *
 go_enter Tryz.func80,Tryz.ntmps80
 go_upto_region 0 with fail
 go_cut [4,5,6,7,8,9] (fun v1 v2 v3 v4 v5 v6 wx=>∃ b1 b2 b3 b4 r1 r2,v1=.pointer (some ⟨b1,0,none⟩)/\v2=.pointer (some ⟨b2,0,none⟩)/\v3=.pointer (some ⟨b3,0,none⟩)/\v4=.pointer (some ⟨b4,0,none⟩)/\v5=.pointer (some ⟨r1,0,none⟩)/\v6=.pointer (some ⟨r2,0,none⟩)/\Box4 wx b1 b2 b3 b4 n1 n2 n3 n4 (.slice a1 l1 c1) (.slice a2 l2 c2) (.slice a3 l3 c3) (.slice a4 l4 c4)/\BoxI wx r1 false (.slice none 0 0)/\BoxI wx r2 false (.slice none 0 0)/\b1<r1/\b2<r1/\b3<r1/\b4<r1/\r1<r2/\w.heap.size<=r1/\XF w wx)
 case first =>
  go_wp2
  go_meet
  exact ⟨_,_,_,_,_,_,rfl,rfl,rfl,rfl,rfl,rfl,⟨(((((boxI_new rfl n1 a1 l1 c1).alloc _).alloc _).alloc _).alloc _).alloc _,((((boxI_new (by simp) n2 a2 l2 c2).alloc _).alloc _).alloc _).alloc _,(((boxI_new (by simp) n3 a3 l3 c3).alloc _).alloc _).alloc _,((boxI_new (by simp) n4 a4 l4 c4).alloc _).alloc _⟩,(boxI_new (by simp) false none 0 0).alloc _,boxI_new (by simp) false none 0 0,(by omega),(by omega),(by omega),(by omega),(by omega),(by omega),((((((Ext.refl _ w).alloc _).alloc _).alloc _).alloc _).alloc _).alloc _⟩
 case rest =>
  obtain ⟨b1,b2,b3,b4,r1,r2,rfl,rfl,rfl,rfl,rfl,rfl,hb,hr1,hr2,i1,i2,i3,i4,i5,hle,hx⟩:=hcut
  have hS:=hb.s
  have HB:=bH (bI hb (bI hr1 (bI hr2 hx)))
  clear hb hr1 hr2 hx
  go_upto_region 1 with fail
  go_region_held3 (SI4 b1 b2 b3 b4 n1 n2 n3 n4 (.slice a1 l1 c1) (.slice a2 l2 c2) (.slice a3 l3 c3) (.slice a4 l4 c4))
   (repeat (first | (with_reducible assumption) | (with_reducible refine SI4.drew ?_) | (with_reducible refine SI4.set ?_ _ _ ?_ ?_ ?_ ?_) | (dsimp only; omega)))
   (first
    | (go_at_call 55; (with_reducible refine (H1.out _ (HB.out.2.2.2.drew)).mono ?_); rintro q1 w11 ⟨v11,rfl,h11,hx11⟩; have hX1:=(Ext.refl (fun _=>False) wc).drew.trans hx11; have hK1:=(HB.out.1.keep hX1).s; obtain ⟨ng1,ag1,lg1,cg1,rfl⟩:=h11.shape)
    | (go_at_call 55; (with_reducible refine (H2.out _ (HB.out.2.2.2.trans hX1)).mono ?_); rintro q2 w12 ⟨v12,rfl,h12,hx12⟩; have hX2:=hX1.trans hx12; have hK2:=(HB.out.1.keep hX2).s; have hA:=H3.out _ _ _ (h11.keep hx12) h12; obtain ⟨ng2,ag2,lg2,cg2,rfl⟩:=h12.shape)
    | (go_at_call 78; (with_reducible refine hA.mono ?_); rintro q3 w13 ⟨v13,rfl,h13,hx13⟩; have hX3:=hX2.trans hx13; have hK3:=(HB.out.1.keep hX3).s; obtain ⟨ng3,ag3,lg3,cg3,rfl⟩:=h13.shape)
    | (go_at_call 55; (with_reducible refine (H4.out _ (HB.out.2.2.2.trans hX3)).mono ?_); rintro q4 w14 ⟨v14,rfl,h14,hx14⟩; have hX4:=hX3.trans hx14; have hK4:=(HB.out.1.keep hX4).s; have hR1:=HB.out.2.1.ext hX4 id; have hR2:=HB.out.2.2.1.ext hX4 id; obtain ⟨d0,d1,d2,d3⟩:=hR1.facts; obtain ⟨f0,f1,f2,f3⟩:=hR2.facts; obtain ⟨ng4,ag4,lg4,cg4,rfl⟩:=h14.shape))
  have hp1:=hR1.put (neg:=ng3) (no_int ag3 lg3 cg3)
  have hp2:=(hR2.ext hp1.ext (fun e=>by omega)).put (neg:=ng4) (no_int ag4 lg4 cg4)
  have HR:=bH (bI (hp2.int (hp1.int (h13.keep hx14))) (bI (hp2.int (hp1.int h14)) (bI (((HB.out.2.2.2.trans hX4).own hp1.ext (fun k e=>by omega)).own hp2.ext (fun k e=>by omega)) (bI (hp1.box.ext hp2.ext (fun e=>by omega)) hp2.box))))
  clear hp1 hp2 hR1 hR2 hS d0 d1 d2 d3 f0 f1 f2 f3 h11 hx11 hX1 hK1 h12 hx12 hX2 hK2 h13 hx13 hX3 hK3 h14 hx14 hX4 hK4
  generalize (((w14.setCell ⟨r1,0,none⟩ (.bool ng3)).setCell ⟨r1,1,none⟩ (.slice ag3 lg3 cg3)).setCell ⟨r2,0,none⟩ (.bool ng4)).setCell ⟨r2,1,none⟩ (.slice ag4 lg4 cg4)=w20 at *
  obtain ⟨g0,g1,_⟩:=HR.out.2.2.2.1.facts
  obtain ⟨g2,g3,_⟩:=HR.out.2.2.2.2.facts
  go_wp2
  exact bodyPost_ret (v:=.tuple #[.agg #[.bool ng3,.slice ag3 lg3 cg3],.agg #[.bool ng4,.slice ag4 lg4 cg4]]) (by simp [results,Tryz.results80,go_sem,g0,g1,g2,g3]) rfl ⟨_,_,rfl,HR.out.1,HR.out.2.1,HR.out.2.2.1⟩
abbrev SR2 (b1 b2:Nat) (n1 n2:Bool) (m1 e1 m2 e2:Value) (W:World):Prop :=
 W.cell? ⟨b1,0,none⟩=some (.bool n1)/\W.cell? ⟨b1,1,none⟩=some m1/\W.cell? ⟨b1,2,none⟩=some e1/\W.cell? ⟨b2,0,none⟩=some (.bool n2)/\W.cell? ⟨b2,1,none⟩=some m2/\W.cell? ⟨b2,2,none⟩=some e2
section
variable {b1 b2:Nat} {n1 n2:Bool} {m1 e1 m2 e2:Value} {W:World}
theorem SR2.of (h:BoxR W b1 n1 m1 e1) (h':BoxR W b2 n2 m2 e2):SR2 b1 b2 n1 n2 m1 e1 m2 e2 W:=⟨h.facts.1,h.facts.2.1,h.facts.2.2.1,h'.facts.1,h'.facts.2.1,h'.facts.2.2.1⟩
theorem SR2.drew (h:SR2 b1 b2 n1 n2 m1 e1 m2 e2 W):SR2 b1 b2 n1 n2 m1 e1 m2 e2 W.drew:=h
theorem SR2.set (h:SR2 b1 b2 n1 n2 m1 e1 m2 e2 W) (p:Addr) (u:Value) (h1:¬ b1=p.block) (h2:¬ b2=p.block):SR2 b1 b2 n1 n2 m1 e1 m2 e2 (W.setCell p u):=by
 obtain ⟨a1,a2,a3,a4,a5,a6⟩:=h
 exact ⟨cell_other a1 h1,cell_other a2 h1,cell_other a3 h1,cell_other a4 h2,cell_other a5 h2,cell_other a6 h2⟩
end
section
variable {b1:Nat} {n1:Bool} {m1 e1:Value} {W:World}
end
theorem dn_len {w:World} {v:Value} {d:List Nat} {L:Nat} (h:Rds w v d) (hl:d.length<=L) (h0:1<=L):(dg (dn (vl d))).length<=L:=by
 unfold dn
 split
 ·exact Nat.le_trans (dg_length_le (k:=1) (by decide)) h0
 ·exact Nat.le_trans (dg_length_le (vl_lt h.1)) hl
theorem cross_add (w:World) (v v':Value) (q q':Rat) (L:Nat) (h:Rrat w v q L) (h':Rrat w v' q' L) (h0:1<=L) (hL:L<=4194304) :
  Calls Tryz.prog 79 #[v,v',.func (.func 80) #[] #[]] w (RatPost w (q+q')):=by
 obtain ⟨n1,a1,l1,c1,x1,y1,k1,l,d,rfl,hr,hd,hm,hdl,hq⟩:=h.open
 clear hm
 obtain ⟨n2,a2,l2,c2,x2,y2,k2,l',d',rfl,hr',hd',hm,hdl',hq'⟩:=h'.open
 clear hm
 have HD1:=bH (fun W (hW:XF w W)=>den_any W _ n1 a1 l1 c1 x1 y1 k1 d L rfl (hd.keep hW) hdl (by omega) h0)
 have HD2:=bH (fun W (hW:XF w W)=>den_any W _ n2 a2 l2 c2 x2 y2 k2 d' L rfl (hd'.keep hW) hdl' (by omega) h0)
 have HF:=bH (fun W (hW:XF w W) u u' hu hu'=>addf_any W _ u _ u' _ (dn (vl d):Nat) _ (dn (vl d'):Nat) L (hr.keep hW) hu (hr'.keep hW) hu' hL)
 have hY:((dn (vl d):Nat):Int)*((dn (vl d'):Nat):Int)=((dn (vl d)*dn (vl d'):Nat):Int):=by simp
 have hdl1:(dg (((dn (vl d):Nat):Int)).natAbs).length<=L:=by rw [Int.natAbs_natCast]; exact dn_len hd hdl h0
 have hdl2:(dg (((dn (vl d'):Nat):Int)).natAbs).length<=L:=by rw [Int.natAbs_natCast]; exact dn_len hd' hdl' h0
 have hYl:=len_mul hdl1 hdl2
 have hZl:(dg (sg n1 (vl l)*((dn (vl d'):Nat):Int)+sg n2 (vl l')*((dn (vl d):Nat):Int)).natAbs).length<=L+L+1:=len_add (len_mul hr.len hdl2) (len_mul hr'.len hdl1)
 clear hdl1 hdl2
 have HRd:=bH (fun W u u' (hu:IsInt W u (sg n1 (vl l)*((dn (vl d'):Nat):Int)+sg n2 (vl l')*((dn (vl d):Nat):Int))) (hu':IsInt W u' (((dn (vl d):Nat):Int)*((dn (vl d'):Nat):Int)))=>reduced_any W u u' (sg n1 (vl l)*((dn (vl d'):Nat):Int)+sg n2 (vl l')*((dn (vl d):Nat):Int)) (dn (vl d)*dn (vl d')) (L+L+1) (hu.reads hZl) (by rw [<- hY]; exact hu'.reads (by have:=hYl; omega)) (Nat.mul_pos (dn_pos _) (dn_pos _)) (by omega))
 have hres:mkRat (sg n1 (vl l)*((dn (vl d'):Nat):Int)+sg n2 (vl l')*((dn (vl d):Nat):Int)) (dn (vl d)*dn (vl d'))=q+q':=by
  rw [hq,hq']
  rw [Rat.mkRat_add_mkRat _ _ (Nat.ne_of_gt (dn_pos _)) (Nat.ne_of_gt (dn_pos _))]
 rw [hres] at HRd
 clear hr hr' hd hd' hdl hdl' hq hq' h h' hY hres hZl hYl
 generalize q+q'=Q at *
 unfold TwoInt at HF
 generalize sg n1 (vl l)*((dn (vl d'):Nat):Int)+sg n2 (vl l')*((dn (vl d):Nat):Int)=Z at *
 generalize ((dn (vl d):Nat):Int)*((dn (vl d'):Nat):Int)=Y at *
 generalize ((dn (vl d):Nat):Int)=D1 at *
 generalize ((dn (vl d'):Nat):Int)=D2 at *
 go_enter Tryz.func79,Tryz.ntmps79
 go_upto_region 0 with fail
 go_cut [3,4,6] (fun v1 v2 v3 wx=>∃ b1 b2 r,v1=.pointer (some ⟨b1,0,none⟩)/\v2=.pointer (some ⟨b2,0,none⟩)/\v3=.pointer (some ⟨r,0,none⟩)/\BoxR wx b1 n1 (.slice a1 l1 c1) (.slice x1 y1 k1)/\BoxR wx b2 n2 (.slice a2 l2 c2) (.slice x2 y2 k2)/\BoxR wx r false (.slice none 0 0) (.slice none 0 0)/\b1<r/\b2<r/\w.heap.size<=r/\XF w wx)
 case first =>
  go_wp2
  go_meet
  exact ⟨_,_,_,rfl,rfl,rfl,((boxR_new rfl n1 a1 l1 c1 x1 y1 k1).alloc _).alloc _,(boxR_new (by simp) n2 a2 l2 c2 x2 y2 k2).alloc _,boxR_new (by simp) false none 0 0 none 0 0,(by omega),(by omega),(by omega),(((Ext.refl _ w).alloc _).alloc _).alloc _⟩
 case rest =>
  obtain ⟨b1,b2,r,rfl,rfl,rfl,hb1,hb2,hrb,i1,i2,hle,hx⟩:=hcut
  have hS:=SR2.of hb1 hb2
  have HB:=bH (bI hb1 (bI hb2 (bI hrb hx)))
  clear hb1 hb2 hrb hx
  go_upto_region 1 with fail
  go_region_held3 (SR2 b1 b2 n1 n2 (.slice a1 l1 c1) (.slice x1 y1 k1) (.slice a2 l2 c2) (.slice x2 y2 k2))
   (repeat (first | (with_reducible assumption) | (with_reducible refine SR2.drew ?_) | (with_reducible refine SR2.set ?_ _ _ ?_ ?_) | (dsimp only; omega)))
   (first
    | (go_at_call 56; (with_reducible refine (HD1.out _ HB.out.2.2.2.drew).mono ?_); rintro q1 w11 ⟨v11,rfl,h11,hx11⟩; have hX1:=(Ext.refl (fun _=>False) wc).drew.trans hx11; have hK1:=SR2.of (HB.out.1.ext hX1 id) (HB.out.2.1.ext hX1 id); obtain ⟨ng1,ag1,lg1,cg1,rfl⟩:=h11.shape)
    | (go_at_call 56; (with_reducible refine (HD2.out _ (HB.out.2.2.2.trans hX1)).mono ?_); rintro q2 w12 ⟨v12,rfl,h12,hx12⟩; have hX2:=hX1.trans hx12; have hK2:=SR2.of (HB.out.1.ext hX2 id) (HB.out.2.1.ext hX2 id); have hF:=HF.out w12 (HB.out.2.2.2.trans hX2) _ _ (h11.keep hx12) h12; obtain ⟨ng2,ag2,lg2,cg2,rfl⟩:=h12.shape)
    | (go_at_call 80; (with_reducible refine hF.mono ?_); rintro q3 w13 ⟨va,vb,rfl,ha,hb,hx13⟩; have hX3:=hX2.trans hx13; have hK3:=SR2.of (HB.out.1.ext hX3 id) (HB.out.2.1.ext hX3 id); have hR:=HRd.out w13 _ _ ha hb; obtain ⟨ng3,ag3,lg3,cg3,rfl⟩:=ha.shape; obtain ⟨ng4,ag4,lg4,cg4,rfl⟩:=hb.shape)
    | (go_at_call 106; (with_reducible refine hR.mono ?_); rintro q4 w14 ⟨v14,rfl,h14,hx14⟩; have hX4:=hX3.trans hx14; have hK4:=SR2.of (HB.out.1.ext hX4 id) (HB.out.2.1.ext hX4 id); have hr4:=HB.out.2.2.1.ext hX4 id; obtain ⟨d0,d1,d2,d3,d4,d5⟩:=hr4.facts; obtain ⟨ng,sa,sn,sc,ta,tn,tc,rfl⟩:=h14.shape))
  have hp:=hr4.put (neg:=ng) (no_int sa sn sc) (no_int ta tn tc)
  have HR:=bH (bI (hp.rat h14) (bI ((HB.out.2.2.2.trans hX4).own hp.ext (fun k e=>by omega)) hp.box))
  clear hp hr4 h11 h12 ha hb h14 hx11 hx12 hx13 hx14 hX1 hX2 hX3 hX4 hK1 hK2 hK3 hK4 hS hF hR d0 d1 d2 d3 d4 d5
  generalize ((w14.setCell ⟨r,0,none⟩ (.bool ng)).setCell ⟨r,1,none⟩ (.slice sa sn sc)).setCell ⟨r,2,none⟩ (.slice ta tn tc)=w20 at *
  obtain ⟨g0,g1,g2,_⟩:=HR.out.2.2.facts
  go_wp2
  exact bodyPost_ret (v:=.agg #[.bool ng,.slice sa sn sc,.slice ta tn tc]) (by simp [results,Tryz.results79,go_sem,g0,g1,g2]) rfl ⟨_,rfl,HR.out.1,HR.out.2.1⟩
theorem cross_mul (w:World) (v v':Value) (q q':Rat) (L:Nat) (h:Rrat w v q L) (h':Rrat w v' q' L) (h0:1<=L) (hL:L<=4194304) :
  Calls Tryz.prog 79 #[v,v',.func (.func 81) #[] #[]] w (RatPost w (q*q')):=by
 obtain ⟨n1,a1,l1,c1,x1,y1,k1,l,d,rfl,hr,hd,hm,hdl,hq⟩:=h.open
 clear hm
 obtain ⟨n2,a2,l2,c2,x2,y2,k2,l',d',rfl,hr',hd',hm,hdl',hq'⟩:=h'.open
 clear hm
 have HD1:=bH (fun W (hW:XF w W)=>den_any W _ n1 a1 l1 c1 x1 y1 k1 d L rfl (hd.keep hW) hdl (by omega) h0)
 have HD2:=bH (fun W (hW:XF w W)=>den_any W _ n2 a2 l2 c2 x2 y2 k2 d' L rfl (hd'.keep hW) hdl' (by omega) h0)
 have HF:=bH (fun W (hW:XF w W) u u' hu hu'=>mulf_any W _ u _ u' _ (dn (vl d):Nat) _ (dn (vl d'):Nat) L (hr.keep hW) hu (hr'.keep hW) hu' hL)
 have hY:((dn (vl d):Nat):Int)*((dn (vl d'):Nat):Int)=((dn (vl d)*dn (vl d'):Nat):Int):=by simp
 have hdl1:(dg (((dn (vl d):Nat):Int)).natAbs).length<=L:=by rw [Int.natAbs_natCast]; exact dn_len hd hdl h0
 have hdl2:(dg (((dn (vl d'):Nat):Int)).natAbs).length<=L:=by rw [Int.natAbs_natCast]; exact dn_len hd' hdl' h0
 have hYl:=len_mul hdl1 hdl2
 have hZl:(dg (sg n1 (vl l)*sg n2 (vl l')).natAbs).length<=L+L+1:=Nat.le_trans (len_mul hr.len hr'.len) (by omega)
 clear hdl1 hdl2
 have HRd:=bH (fun W u u' (hu:IsInt W u (sg n1 (vl l)*sg n2 (vl l'))) (hu':IsInt W u' (((dn (vl d):Nat):Int)*((dn (vl d'):Nat):Int)))=>reduced_any W u u' (sg n1 (vl l)*sg n2 (vl l')) (dn (vl d)*dn (vl d')) (L+L+1) (hu.reads hZl) (by rw [<- hY]; exact hu'.reads (by have:=hYl; omega)) (Nat.mul_pos (dn_pos _) (dn_pos _)) (by omega))
 have hres:mkRat (sg n1 (vl l)*sg n2 (vl l')) (dn (vl d)*dn (vl d'))=q*q':=by
  rw [hq,hq']
  rw [Rat.mkRat_mul_mkRat]
 rw [hres] at HRd
 clear hr hr' hd hd' hdl hdl' hq hq' h h' hY hres hZl hYl
 generalize q*q'=Q at *
 unfold TwoInt at HF
 generalize sg n1 (vl l)*sg n2 (vl l')=Z at *
 generalize ((dn (vl d):Nat):Int)*((dn (vl d'):Nat):Int)=Y at *
 generalize ((dn (vl d):Nat):Int)=D1 at *
 generalize ((dn (vl d'):Nat):Int)=D2 at *
 go_enter Tryz.func79,Tryz.ntmps79
 go_upto_region 0 with fail
 go_cut [3,4,6] (fun v1 v2 v3 wx=>∃ b1 b2 r,v1=.pointer (some ⟨b1,0,none⟩)/\v2=.pointer (some ⟨b2,0,none⟩)/\v3=.pointer (some ⟨r,0,none⟩)/\BoxR wx b1 n1 (.slice a1 l1 c1) (.slice x1 y1 k1)/\BoxR wx b2 n2 (.slice a2 l2 c2) (.slice x2 y2 k2)/\BoxR wx r false (.slice none 0 0) (.slice none 0 0)/\b1<r/\b2<r/\w.heap.size<=r/\XF w wx)
 case first =>
  go_wp2
  go_meet
  exact ⟨_,_,_,rfl,rfl,rfl,((boxR_new rfl n1 a1 l1 c1 x1 y1 k1).alloc _).alloc _,(boxR_new (by simp) n2 a2 l2 c2 x2 y2 k2).alloc _,boxR_new (by simp) false none 0 0 none 0 0,(by omega),(by omega),(by omega),(((Ext.refl _ w).alloc _).alloc _).alloc _⟩
 case rest =>
  obtain ⟨b1,b2,r,rfl,rfl,rfl,hb1,hb2,hrb,i1,i2,hle,hx⟩:=hcut
  have hS:=SR2.of hb1 hb2
  have HB:=bH (bI hb1 (bI hb2 (bI hrb hx)))
  clear hb1 hb2 hrb hx
  go_upto_region 1 with fail
  go_region_held3 (SR2 b1 b2 n1 n2 (.slice a1 l1 c1) (.slice x1 y1 k1) (.slice a2 l2 c2) (.slice x2 y2 k2))
   (repeat (first | (with_reducible assumption) | (with_reducible refine SR2.drew ?_) | (with_reducible refine SR2.set ?_ _ _ ?_ ?_) | (dsimp only; omega)))
   (first
    | (go_at_call 56; (with_reducible refine (HD1.out _ HB.out.2.2.2.drew).mono ?_); rintro q1 w11 ⟨v11,rfl,h11,hx11⟩; have hX1:=(Ext.refl (fun _=>False) wc).drew.trans hx11; have hK1:=SR2.of (HB.out.1.ext hX1 id) (HB.out.2.1.ext hX1 id); obtain ⟨ng1,ag1,lg1,cg1,rfl⟩:=h11.shape)
    | (go_at_call 56; (with_reducible refine (HD2.out _ (HB.out.2.2.2.trans hX1)).mono ?_); rintro q2 w12 ⟨v12,rfl,h12,hx12⟩; have hX2:=hX1.trans hx12; have hK2:=SR2.of (HB.out.1.ext hX2 id) (HB.out.2.1.ext hX2 id); have hF:=HF.out w12 (HB.out.2.2.2.trans hX2) _ _ (h11.keep hx12) h12; obtain ⟨ng2,ag2,lg2,cg2,rfl⟩:=h12.shape)
    | (go_at_call 81; (with_reducible refine hF.mono ?_); rintro q3 w13 ⟨va,vb,rfl,ha,hb,hx13⟩; have hX3:=hX2.trans hx13; have hK3:=SR2.of (HB.out.1.ext hX3 id) (HB.out.2.1.ext hX3 id); have hR:=HRd.out w13 _ _ ha hb; obtain ⟨ng3,ag3,lg3,cg3,rfl⟩:=ha.shape; obtain ⟨ng4,ag4,lg4,cg4,rfl⟩:=hb.shape)
    | (go_at_call 106; (with_reducible refine hR.mono ?_); rintro q4 w14 ⟨v14,rfl,h14,hx14⟩; have hX4:=hX3.trans hx14; have hK4:=SR2.of (HB.out.1.ext hX4 id) (HB.out.2.1.ext hX4 id); have hr4:=HB.out.2.2.1.ext hX4 id; obtain ⟨d0,d1,d2,d3,d4,d5⟩:=hr4.facts; obtain ⟨ng,sa,sn,sc,ta,tn,tc,rfl⟩:=h14.shape))
  have hp:=hr4.put (neg:=ng) (no_int sa sn sc) (no_int ta tn tc)
  have HR:=bH (bI (hp.rat h14) (bI ((HB.out.2.2.2.trans hX4).own hp.ext (fun k e=>by omega)) hp.box))
  clear hp hr4 h11 h12 ha hb h14 hx11 hx12 hx13 hx14 hX1 hX2 hX3 hX4 hK1 hK2 hK3 hK4 hS hF hR d0 d1 d2 d3 d4 d5
  generalize ((w14.setCell ⟨r,0,none⟩ (.bool ng)).setCell ⟨r,1,none⟩ (.slice sa sn sc)).setCell ⟨r,2,none⟩ (.slice ta tn tc)=w20 at *
  obtain ⟨g0,g1,g2,_⟩:=HR.out.2.2.facts
  go_wp2
  exact bodyPost_ret (v:=.agg #[.bool ng,.slice sa sn sc,.slice ta tn tc]) (by simp [results,Tryz.results79,go_sem,g0,g1,g2]) rfl ⟨_,rfl,HR.out.1,HR.out.2.1⟩
theorem mkRat_one (z:Int):mkRat z 1=(z:Rat):=by
 have h:=Rat.mkRat_self (z:Rat)
 rwa [Rat.num_intCast,Rat.den_intCast] at h
theorem rat_int {neg:Bool} {l d:List Nat} (h:d.length=0):mkRat (sg neg (vl l)) (dn (vl d))=((sg neg (vl l):Int):Rat):=by
 rw [List.eq_nil_of_length_eq_zero h]; exact mkRat_one _
theorem radd_any (w:World) (v v':Value) (q q':Rat) (L:Nat) (h:Rrat w v q L) (h':Rrat w v' q' L) (h0:1<=L) (hL:L<=4194304) :
  Calls Tryz.prog 59 #[v,v'] w (RatPost w (q+q')):=by
 have HC:=bH (fun W (hW:XF w W)=>cross_add W v v' q q' L (h.keep hW) (h'.keep hW) h0 hL)
 obtain ⟨n1,a1,l1,c1,x1,y1,k1,l,d,rfl,hr,hd,hm,hdl,hq⟩:=h.open
 obtain ⟨n2,a2,l2,c2,x2,y2,k2,l',d',rfl,hr',hd',hm',hdl',hq'⟩:=h'.open
 have HI:=bH (fun W (hW:XF w W)=>iadd_any W _ _ _ _ L (hr.keep hW) (hr'.keep hW) (by omega))
 have hof:=fun W neg mag (hz:y1=0/\y2=0) (h:IsInt W (.agg #[.bool neg,mag]) (sg n1 (vl l)+sg n2 (vl l')))=>IsRat.ofInt h
 have he:y1=0/\y2=0->((sg n1 (vl l)+sg n2 (vl l'):Int):Rat)=q+q':=fun hz=>by
  rw [hq,hq',rat_int (by omega),rat_int (by omega),Rat.intCast_add]
 have Hof:=bH (fun W neg mag (hz:y1=0/\y2=0) (h:IsInt W (.agg #[.bool neg,mag]) (sg n1 (vl l)+sg n2 (vl l')))=>(he hz) ▸ IsRat.ofInt h)
 have b1l:y1<=4194304:=by omega
 have b2l:y2<=4194304:=by omega
 clear hr hr' hd hd' hdl hdl' hq hq' h h' hof he hm hm'
 generalize q+q'=Q at *
 generalize sg n1 (vl l)+sg n2 (vl l')=Z at *
 go_enter Tryz.func59,Tryz.ntmps59
 go_upto_region 0 with fail
 go_cut [2,3,4] (fun v1 v2 v3 wx=>∃ b1 b2 r,v1=.pointer (some ⟨b1,0,none⟩)/\v2=.pointer (some ⟨b2,0,none⟩)/\v3=.pointer (some ⟨r,0,none⟩)/\BoxR wx b1 n1 (.slice a1 l1 c1) (.slice x1 y1 k1)/\BoxR wx b2 n2 (.slice a2 l2 c2) (.slice x2 y2 k2)/\BoxR wx r false (.slice none 0 0) (.slice none 0 0)/\b1<r/\b2<r/\w.heap.size<=r/\XF w wx)
 case first =>
  go_wp2
  go_meet
  exact ⟨_,_,_,rfl,rfl,rfl,((boxR_new rfl n1 a1 l1 c1 x1 y1 k1).alloc _).alloc _,(boxR_new (by simp) n2 a2 l2 c2 x2 y2 k2).alloc _,boxR_new (by simp) false none 0 0 none 0 0,(by omega),(by omega),(by omega),(((Ext.refl _ w).alloc _).alloc _).alloc _⟩
 case rest =>
  obtain ⟨b1,b2,r,rfl,rfl,rfl,hb1,hb2,hrb,i1,i2,hle,hx⟩:=hcut
  obtain ⟨c0,c1',c2',_⟩:=hb1.facts
  obtain ⟨e0,e1,e2,_⟩:=hb2.facts
  have HB:=bH (bI hrb hx)
  clear hb1 hb2 hrb hx
  by_cases hz:y1=0/\y2=0
  ·obtain ⟨rfl,rfl⟩:=hz
   have HI1:=bH (HI.out wc HB.out.2)
   go_wp2_with fail
   refine HI1.out.mono ?_
   rintro q4 w14 ⟨v14,rfl,h14,hx14⟩
   obtain ⟨ng,sa,sn,sc,rfl⟩:=h14.shape
   have hr4:=HB.out.1.ext hx14 id
   obtain ⟨d0,d1,d2,d3,d4,d5⟩:=hr4.facts
   have hp:=hr4.put (neg:=ng) (no_int sa sn sc) (no_int none 0 0)
   have HR:=bH (bI (hp.rat (Hof.out _ _ _ (by simp) h14)) (bI ((HB.out.2.trans hx14).own hp.ext (fun k e=>by omega)) hp.box))
   clear hp hr4 h14 hx14
   go_wp2
   generalize ((w14.setCell ⟨r,0,none⟩ (.bool ng)).setCell ⟨r,1,none⟩ (.slice sa sn sc)).setCell ⟨r,2,none⟩ (.slice none 0 0)=w20 at *
   obtain ⟨g0,g1,g2,_⟩:=HR.out.2.2.facts
   exact bodyPost_ret (v:=.agg #[.bool ng,.slice sa sn sc,.slice none 0 0]) (by simp [results,Tryz.results59,go_sem,g0,g1,g2]) rfl ⟨_,rfl,HR.out.1,HR.out.2.1⟩
  ·have hzi:¬ (y1:Int)+y2=0:=by omega
   have hzb:((y1:Int)+y2 == 0)=false:=by simpa using hzi
   have hCC:=bH (HC.out wc HB.out.2)
   have Hz:=bH hz
   clear hz
   go_wp2_with fail
   refine hCC.out.mono ?_
   rintro q4 w14 ⟨v14,rfl,h14,hx14⟩
   obtain ⟨ng,sa,sn,sc,ta,tn,tc,rfl⟩:=h14.shape
   have hr4:=HB.out.1.ext hx14 id
   obtain ⟨d0,d1,d2,d3,d4,d5⟩:=hr4.facts
   have hp:=hr4.put (neg:=ng) (no_int sa sn sc) (no_int ta tn tc)
   have HR:=bH (bI (hp.rat h14) (bI ((HB.out.2.trans hx14).own hp.ext (fun k e=>by omega)) hp.box))
   clear hp hr4 h14 hx14
   go_wp2
   generalize ((w14.setCell ⟨r,0,none⟩ (.bool ng)).setCell ⟨r,1,none⟩ (.slice sa sn sc)).setCell ⟨r,2,none⟩ (.slice ta tn tc)=w20 at *
   obtain ⟨g0,g1,g2,_⟩:=HR.out.2.2.facts
   exact bodyPost_ret (v:=.agg #[.bool ng,.slice sa sn sc,.slice ta tn tc]) (by simp [results,Tryz.results59,go_sem,g0,g1,g2]) rfl ⟨_,rfl,HR.out.1,HR.out.2.1⟩
theorem rmul_any (w:World) (v v':Value) (q q':Rat) (L:Nat) (h:Rrat w v q L) (h':Rrat w v' q' L) (h0:1<=L) (hL:L<=4194304) :
  Calls Tryz.prog 60 #[v,v'] w (RatPost w (q*q')):=by
 have HC:=bH (fun W (hW:XF w W)=>cross_mul W v v' q q' L (h.keep hW) (h'.keep hW) h0 hL)
 obtain ⟨n1,a1,l1,c1,x1,y1,k1,l,d,rfl,hr,hd,hm,hdl,hq⟩:=h.open
 obtain ⟨n2,a2,l2,c2,x2,y2,k2,l',d',rfl,hr',hd',hm',hdl',hq'⟩:=h'.open
 have HI:=bH (fun W (hW:XF w W)=>imul_any W _ _ _ _ L (hr.keep hW) (hr'.keep hW) (by omega))
 have hof:=fun W neg mag (hz:y1=0/\y2=0) (h:IsInt W (.agg #[.bool neg,mag]) (sg n1 (vl l)*sg n2 (vl l')))=>IsRat.ofInt h
 have he:y1=0/\y2=0->((sg n1 (vl l)*sg n2 (vl l'):Int):Rat)=q*q':=fun hz=>by
  rw [hq,hq',rat_int (by omega),rat_int (by omega),Rat.intCast_mul]
 have Hof:=bH (fun W neg mag (hz:y1=0/\y2=0) (h:IsInt W (.agg #[.bool neg,mag]) (sg n1 (vl l)*sg n2 (vl l')))=>(he hz) ▸ IsRat.ofInt h)
 have b1l:y1<=4194304:=by omega
 have b2l:y2<=4194304:=by omega
 clear hr hr' hd hd' hdl hdl' hq hq' h h' hof he hm hm'
 generalize q*q'=Q at *
 generalize sg n1 (vl l)*sg n2 (vl l')=Z at *
 go_enter Tryz.func60,Tryz.ntmps60
 go_upto_region 0 with fail
 go_cut [2,3,4] (fun v1 v2 v3 wx=>∃ b1 b2 r,v1=.pointer (some ⟨b1,0,none⟩)/\v2=.pointer (some ⟨b2,0,none⟩)/\v3=.pointer (some ⟨r,0,none⟩)/\BoxR wx b1 n1 (.slice a1 l1 c1) (.slice x1 y1 k1)/\BoxR wx b2 n2 (.slice a2 l2 c2) (.slice x2 y2 k2)/\BoxR wx r false (.slice none 0 0) (.slice none 0 0)/\b1<r/\b2<r/\w.heap.size<=r/\XF w wx)
 case first =>
  go_wp2
  go_meet
  exact ⟨_,_,_,rfl,rfl,rfl,((boxR_new rfl n1 a1 l1 c1 x1 y1 k1).alloc _).alloc _,(boxR_new (by simp) n2 a2 l2 c2 x2 y2 k2).alloc _,boxR_new (by simp) false none 0 0 none 0 0,(by omega),(by omega),(by omega),(((Ext.refl _ w).alloc _).alloc _).alloc _⟩
 case rest =>
  obtain ⟨b1,b2,r,rfl,rfl,rfl,hb1,hb2,hrb,i1,i2,hle,hx⟩:=hcut
  obtain ⟨c0,c1',c2',_⟩:=hb1.facts
  obtain ⟨e0,e1,e2,_⟩:=hb2.facts
  have HB:=bH (bI hrb hx)
  clear hb1 hb2 hrb hx
  by_cases hz:y1=0/\y2=0
  ·obtain ⟨rfl,rfl⟩:=hz
   have HI1:=bH (HI.out wc HB.out.2)
   go_wp2_with fail
   refine HI1.out.mono ?_
   rintro q4 w14 ⟨v14,rfl,h14,hx14⟩
   obtain ⟨ng,sa,sn,sc,rfl⟩:=h14.shape
   have hr4:=HB.out.1.ext hx14 id
   obtain ⟨d0,d1,d2,d3,d4,d5⟩:=hr4.facts
   have hp:=hr4.put (neg:=ng) (no_int sa sn sc) (no_int none 0 0)
   have HR:=bH (bI (hp.rat (Hof.out _ _ _ (by simp) h14)) (bI ((HB.out.2.trans hx14).own hp.ext (fun k e=>by omega)) hp.box))
   clear hp hr4 h14 hx14
   go_wp2
   generalize ((w14.setCell ⟨r,0,none⟩ (.bool ng)).setCell ⟨r,1,none⟩ (.slice sa sn sc)).setCell ⟨r,2,none⟩ (.slice none 0 0)=w20 at *
   obtain ⟨g0,g1,g2,_⟩:=HR.out.2.2.facts
   exact bodyPost_ret (v:=.agg #[.bool ng,.slice sa sn sc,.slice none 0 0]) (by simp [results,Tryz.results60,go_sem,g0,g1,g2]) rfl ⟨_,rfl,HR.out.1,HR.out.2.1⟩
  ·have hzi:¬ (y1:Int)+y2=0:=by omega
   have hzb:((y1:Int)+y2 == 0)=false:=by simpa using hzi
   have hCC:=bH (HC.out wc HB.out.2)
   have Hz:=bH hz
   clear hz
   go_wp2_with fail
   refine hCC.out.mono ?_
   rintro q4 w14 ⟨v14,rfl,h14,hx14⟩
   obtain ⟨ng,sa,sn,sc,ta,tn,tc,rfl⟩:=h14.shape
   have hr4:=HB.out.1.ext hx14 id
   obtain ⟨d0,d1,d2,d3,d4,d5⟩:=hr4.facts
   have hp:=hr4.put (neg:=ng) (no_int sa sn sc) (no_int ta tn tc)
   have HR:=bH (bI (hp.rat h14) (bI ((HB.out.2.trans hx14).own hp.ext (fun k e=>by omega)) hp.box))
   clear hp hr4 h14 hx14
   go_wp2
   generalize ((w14.setCell ⟨r,0,none⟩ (.bool ng)).setCell ⟨r,1,none⟩ (.slice sa sn sc)).setCell ⟨r,2,none⟩ (.slice ta tn tc)=w20 at *
   obtain ⟨g0,g1,g2,_⟩:=HR.out.2.2.facts
   exact bodyPost_ret (v:=.agg #[.bool ng,.slice sa sn sc,.slice ta tn tc]) (by simp [results,Tryz.results60,go_sem,g0,g1,g2]) rfl ⟨_,rfl,HR.out.1,HR.out.2.1⟩
theorem sz_mkRat {z:Int} {y L M:Nat} (hy:0<y) (hz:(dg z.natAbs).length<=L) (hd:(dg y).length<=L) (hM:L<=M):Sz (mkRat z y) M:=by
 have hg:0<y.gcd z.natAbs:=Nat.gcd_pos_of_pos_left _ hy
 obtain ⟨k,h1,h2,_⟩:=div_gcd hg (Nat.gcd_dvd_right y z.natAbs)
 constructor
 ·rw [Rat.num_mkRat,if_neg (by omega),h2]
  refine Nat.le_trans (dg_mono ?_) (Nat.le_trans hz hM)
  rw [h1,Int.natAbs_mul,Int.natAbs_natCast]
  exact Nat.le_mul_of_pos_left _ hg
 ·rw [Rat.den_mkRat,if_neg (by omega)]
  exact Nat.le_trans (dg_mono (Nat.div_le_self _ _)) (Nat.le_trans hd hM)
theorem Rrat.sz {w:World} {v:Value} {q:Rat} {L:Nat} (h:Rrat w v q L) (h0:1<=L):Sz q L:=by
 obtain ⟨n1,a1,l1,c1,x1,y1,k1,l,d,rfl,hr,hd,hm,hdl,hq⟩:=h.open
 rw [hq]
 exact sz_mkRat (dn_pos _) hr.len (dn_len hd hdl h0) (Nat.le_refl _)
theorem Rrat.mono {w:World} {v:Value} {q:Rat} {L M:Nat} (h:Rrat w v q L) (hl:L<=M):Rrat w v q M:=by
 obtain ⟨neg,mag,dv',l,d,h1,h2,h3,h4,h5,h6⟩:=h
 exact ⟨neg,mag,dv',l,d,h1,h2,Nat.le_trans h3 hl,h4,Nat.le_trans h5 hl,h6⟩
theorem rcmp_any (w:World) (v v':Value) (q q':Rat) (L:Nat) (h:Rrat w v q L) (h':Rrat w v' q' L) (h0:1<=L) (hL:L<=4194304) :
  Calls Tryz.prog 34 #[v,v'] w fun r w'=>r=.returned (.int .i64 (q - q').num.sign)/\XF w w':=by
 obtain ⟨n1,a1,l1,c1,x1,y1,k1,l,d,rfl,hr,hd,hm,hdl,hq⟩:=h.open
 obtain ⟨n2,a2,l2,c2,x2,y2,k2,l',d',rfl,hr',hd',hm',hdl',hq'⟩:=h'.open
 clear hm hm'
 have HD1:=bH (fun W (hW:XF w W)=>den_any W _ n1 a1 l1 c1 x1 y1 k1 d L rfl (hd.keep hW) hdl (by omega) h0)
 have HD2:=bH (fun W (hW:XF w W)=>den_any W _ n2 a2 l2 c2 x2 y2 k2 d' L rfl (hd'.keep hW) hdl' (by omega) h0)
 have HM1:=bH (fun W (hW:XF w W) u hu=>imul_any W _ u _ (dn (vl d'):Nat) L (hr.keep hW) hu (by omega))
 have HM2:=bH (fun W (hW:XF w W) u hu=>imul_any W _ u _ (dn (vl d):Nat) L (hr'.keep hW) hu (by omega))
 have hdl1:(dg (((dn (vl d):Nat):Int)).natAbs).length<=L:=by rw [Int.natAbs_natCast]; exact dn_len hd hdl h0
 have hdl2:(dg (((dn (vl d'):Nat):Int)).natAbs).length<=L:=by rw [Int.natAbs_natCast]; exact dn_len hd' hdl' h0
 have hz1:=len_mul hr.len hdl2
 have hz2:=len_mul hr'.len hdl1
 have HC:=bH (fun W u u' (hu:IsInt W u (sg n1 (vl l)*((dn (vl d'):Nat):Int))) (hu':IsInt W u' (sg n2 (vl l')*((dn (vl d):Nat):Int)))=>icmp_any W u u' _ _ (L+L) (hu.reads hz1) (hu'.reads hz2) (by omega))
 have hres:(q - q').num.sign=(sg n1 (vl l)*((dn (vl d'):Nat):Int) - sg n2 (vl l')*((dn (vl d):Nat):Int)).sign:=by
  rw [hq,hq',Rat.sub_eq_add_neg,Rat.neg_mkRat,Rat.mkRat_add_mkRat _ _ (Nat.ne_of_gt (dn_pos _)) (Nat.ne_of_gt (dn_pos _)),sign_mkRat _ (Nat.mul_pos (dn_pos _) (dn_pos _)),Int.neg_mul,<- Int.sub_eq_add_neg]
 rw [hres]
 clear hr hr' hd hd' hdl hdl' hq hq' h h' hres hdl1 hdl2 hz1 hz2
 generalize sg n1 (vl l)*((dn (vl d'):Nat):Int)=Z1 at *
 generalize sg n2 (vl l')*((dn (vl d):Nat):Int)=Z2 at *
 generalize ((dn (vl d):Nat):Int)=D1 at *
 generalize ((dn (vl d'):Nat):Int)=D2 at *
 generalize (Z1 - Z2).sign=S at *
 go_enter Tryz.func34,Tryz.ntmps34
 go_upto_region 0 with fail
 go_cut [2,3] (fun v1 v2 wx=>∃ b1 b2,v1=.pointer (some ⟨b1,0,none⟩)/\v2=.pointer (some ⟨b2,0,none⟩)/\BoxR wx b1 n1 (.slice a1 l1 c1) (.slice x1 y1 k1)/\BoxR wx b2 n2 (.slice a2 l2 c2) (.slice x2 y2 k2)/\XF w wx)
 case first =>
  go_wp2
  go_meet
  exact ⟨_,_,rfl,rfl,(boxR_new rfl n1 a1 l1 c1 x1 y1 k1).alloc _,boxR_new (by simp) n2 a2 l2 c2 x2 y2 k2,((Ext.refl _ w).alloc _).alloc _⟩
 case rest =>
  obtain ⟨b1,b2,rfl,rfl,hb1,hb2,hx⟩:=hcut
  have hS:=SR2.of hb1 hb2
  have HB:=bH (bI hb1 (bI hb2 hx))
  clear hb1 hb2 hx
  go_upto_region 1 with fail
  go_region_held3 (SR2 b1 b2 n1 n2 (.slice a1 l1 c1) (.slice x1 y1 k1) (.slice a2 l2 c2) (.slice x2 y2 k2))
   (repeat (first | (with_reducible assumption) | (with_reducible refine SR2.drew ?_)))
   (first
    | (go_at_call 56; (with_reducible refine (HD2.out _ HB.out.2.2.drew).mono ?_); rintro q1 w11 ⟨v11,rfl,h11,hx11⟩; have hX1:=(Ext.refl (fun _=>False) wc).drew.trans hx11; have hK1:=SR2.of (HB.out.1.ext hX1 id) (HB.out.2.1.ext hX1 id); have hM1:=HM1.out w11 (HB.out.2.2.trans hX1) _ h11; obtain ⟨ng1,ag1,lg1,cg1,rfl⟩:=h11.shape)
    | (go_at_call 55; (with_reducible refine hM1.mono ?_); rintro q2 w12 ⟨v12,rfl,h12,hx12⟩; have hX2:=hX1.trans hx12; have hK2:=SR2.of (HB.out.1.ext hX2 id) (HB.out.2.1.ext hX2 id); obtain ⟨ng2,ag2,lg2,cg2,rfl⟩:=h12.shape)
    | (go_at_call 56; (with_reducible refine (HD1.out _ (HB.out.2.2.trans hX2)).mono ?_); rintro q3 w13 ⟨v13,rfl,h13,hx13⟩; have hX3:=hX2.trans hx13; have hK3:=SR2.of (HB.out.1.ext hX3 id) (HB.out.2.1.ext hX3 id); have hM2:=HM2.out w13 (HB.out.2.2.trans hX3) _ h13; obtain ⟨ng3,ag3,lg3,cg3,rfl⟩:=h13.shape)
    | (go_at_call 55; (with_reducible refine hM2.mono ?_); rintro q4 w14 ⟨v14,rfl,h14,hx14⟩; have hX4:=hX3.trans hx14; have hK4:=SR2.of (HB.out.1.ext hX4 id) (HB.out.2.1.ext hX4 id); have hC:=HC.out w14 _ _ (h12.keep (hx13.trans hx14)) h14; obtain ⟨ng4,ag4,lg4,cg4,rfl⟩:=h14.shape)
    | (go_at_call 54; (with_reducible refine hC.mono ?_); rintro q5 w15 ⟨rfl,hx15⟩; have hX5:=hX4.trans hx15; have hK5:=SR2.of (HB.out.1.ext hX5 id) (HB.out.2.1.ext hX5 id)))
  have HX:=bH (HB.out.2.2.trans hX5)
  clear h11 h12 h13 h14 hx11 hx12 hx13 hx14 hx15 hX1 hX2 hX3 hX4 hX5 hK1 hK2 hK3 hK4 hK5 hS hM1 hM2 hC
  go_wp2
  go_ret
  exact ⟨rfl,HX.out⟩
theorem Rdigit_any (w:World) (v:Value) (l:List Nat) (h:Rds w v l) (i:Nat) (hi:i<=9223372036854775807):Calls Tryz.prog 83 #[v,.int .i64 i] w fun r w'=>r=.returned (.int .u64 (dgt l i))/\w'=w:=by
 have h':=h
 obtain ⟨hd,ao,c,rfl,h1,h2,h3,h4⟩:=h'
 obtain ⟨m,hm⟩:∃ m,l.length=m:=⟨_,rfl⟩
 have hmx:m<=9223372036854775807:=by unfold maxLen at h2; omega
 by_cases hlt:i<l.length
 ·obtain ⟨b,off,rfl,hb,hc⟩:=h4 (by omega)
  have c0:=hc i l[i] (List.getElem?_eq_getElem hlt)
  unfold dv at c0
  rw [dgt_in hlt]
  have hdi:=hd.get i hlt
  rw [hm] at hlt ⊢
  clear hc h h3 h4
  generalize l[i]=d at *
  have i0:(0:Int)<=(i:Int):=by omega
  have i1:(i:Int)<(m:Int):=by omega
  have hw:IntKind.u64.wrap (d:Int)=d:=IntWalk.u64_in _ (by omega)
  go_enter Tryz.func83,Tryz.ntmps83
  go_wp2
  go_ret
  exact ⟨ret_int (by omega),rfl⟩
 ·rw [dgt_out (by omega)]
  rw [hm] at hlt ⊢
  have i1:(m:Int)<=(i:Int):=by omega
  clear h h3 h4
  go_enter Tryz.func83,Tryz.ntmps83
  go_wp2
  go_ret
  exact ⟨rfl,rfl⟩
def NatNew (w:World) (n:Nat) (r:Ending) (w':World):Prop:=∃ v,r=.returned v/\IsNat w' v n/\XF w w'/\∀ g,v.ownBlock=some g->w.heap.size<=g
theorem NatNew.post {w w':World} {n:Nat} {r:Ending} (h:NatNew w n r w'):NatPost w n r w':=h.imp fun _ h=>⟨h.1,h.2.1,h.2.2.1⟩
theorem Trim_new (w:World) (v:Value) (l:List Nat) (h:Rds w v l) (hl:l.length<=1073741824):Calls Tryz.prog 82 #[v] w (NatNew w (vl l)):=by
 have h':=h
 obtain ⟨hd,ao,c,rfl,h1,h2,h3,h4⟩:=h'
 obtain ⟨m,hm⟩:∃ m,l.length=m:=⟨_,rfl⟩
 have hmx:m<=1073741824:=by omega
 rw [hm] at h h1 h4 ⊢
 obtain ⟨i0,hi,hz0,hz1,hz2⟩:=info_parts Tryz.infoU32
 have Hi:=bH (bI hi (bI hz0 (bI hz1 hz2)))
 have H:=bH h
 have H4:=bH h4
 have Hm:=bH hm
 have Hd:=bH hd
 clear h h4 hm hd hi hz0 hz1 hz2 hl
 go_enter Tryz.func82,Tryz.ntmps82
 go_wp2_with fail
 go_loopg [3] m (fun g v3 wr=>∃ n:Nat,n<=m/\g=n/\v3=.int .i64 n/\wr=w/\∀ i,n<=i->(hi:i<l.length)->l[i]=0)
 case atStart=>exact ⟨m,Nat.le_refl _,rfl,rfl,rfl,fun i hi hl=>by have:=Hm.out; omega⟩
 case round =>
  obtain ⟨n,hn,hg,rfl,hwr,hz⟩:=hrel
  obtain rfl:=hg.symm
  obtain rfl:=hwr.symm
  by_cases h0:n=0∨∃ hlt:n - 1<l.length,l[n - 1]≠0
  ·have hT:=trim_take Hd.out (by have:=Hm.out; omega) hz h0
   have hx1:XF w (w.alloc (.cells #[] 96)):=(Ext.refl _ w).alloc _
   have hb1:blk (w.alloc (.cells #[] 96)) w.heap.size=some (.cells #[] 96 (0,0)):=blk_alloc_at _ _
   have HR:=bH ((H.out.head n hn).keep hx1).lies
   have HT:=bH hT
   have HX1:=bH hx1
   have HB1:=bH hb1
   have hlen:(l.take n).length=n:=by rw [List.length_take]; have:=Hm.out; omega
   have HL:=bH hlen
   have HV:Hid (∀ W,IsNat W=IsNat W):=bH (fun _=>rfl)
   have hni:(n:Int)<=(m:Int):=by omega
   have hnc:(n:Int)<=(c:Int):=by omega
   have H0:=bH h0
   clear hz hT hx1 hb1 hlen h0
   have hcase:n=0∨(0<n/\∃ b off dj,ao=some ⟨b,off,none⟩/\w.cell? ⟨b,off+(n - 1),none⟩=some (.int .u32 (dj:Nat))/\¬ dj=0):=by
    rcases H0.out with h | ⟨hlt,hne⟩
    ·exact .inl h
    ·rcases Nat.eq_zero_or_pos n with h | h
     ·exact .inl h
     ·obtain ⟨b,off,rfl,hb,hc⟩:=H4.out (by omega)
      exact .inr ⟨h,b,off,l[n - 1],rfl,hc (n - 1) _ (List.getElem?_eq_getElem hlt),hne⟩
   clear H0
   rcases hcase with rfl | ⟨hn0,b,off,dj,rfl,cj,hdj⟩
   ·cases ao with
    | none =>
     obtain rfl:=h3 rfl
     go_wp2_with (at_builtin; refine wpList_append_any rfl (.tmp 18) (.tmp 21) 45 rfl w.heap.size 96 i0 _ 1 4 Tryz.underlying45 Hi.out.1 Hi.out.2.1 Hi.out.2.2.1 Hi.out.2.2.2 rfl (by decide) _ 0 [] rfl (ownsRow_empty 1 (Nat.le_refl _) HB1.out) _ _ _ (fun _=>rfl) _ rfl (by rw [List.length_map,HL.out,Nat.mul_one]) HR.out (dv_one _) (by simp only [maxLen]; omega) (by omega) (by simp) ?_; intro v5 w5 hown5 hgrow5 hat5; have HO:Hid (NatNew w (vl l) (.returned v5) w5):=bH (by
      have ho:Own w5 w.heap.size v5 (l.take 0):=by unfold Own; rw [HL.out]; simpa using hown5
      have hr:=ho.rds (Hd.out.take _)
      rw [HT.out] at hr
      exact ⟨v5,rfl,hr,HX1.out.own ((Ext.refl (fun k=>w.heap.size=k) _).grown hgrow5 (fun k e _=>Option.some.inj e)) (fun k e=>Nat.le_of_eq e),ho.ge⟩); clear hown5 hgrow5 hat5)
     go_wp2
     go_ret
     exact HO.out
    | some ad =>
     go_wp2_with (at_builtin; refine wpList_append_any rfl (.tmp 18) (.tmp 21) 45 rfl w.heap.size 96 i0 _ 1 4 Tryz.underlying45 Hi.out.1 Hi.out.2.1 Hi.out.2.2.1 Hi.out.2.2.2 rfl (by decide) _ 0 [] rfl (ownsRow_empty 1 (Nat.le_refl _) HB1.out) _ _ _ (fun e=>by cases e) _ rfl (by rw [List.length_map,HL.out,Nat.mul_one]) HR.out (dv_one _) (by simp only [maxLen]; omega) (by omega) (by simp) ?_; intro v5 w5 hown5 hgrow5 hat5; have HO:Hid (NatNew w (vl l) (.returned v5) w5):=bH (by
      have ho:Own w5 w.heap.size v5 (l.take 0):=by unfold Own; rw [HL.out]; simpa using hown5
      have hr:=ho.rds (Hd.out.take _)
      rw [HT.out] at hr
      exact ⟨v5,rfl,hr,HX1.out.own ((Ext.refl (fun k=>w.heap.size=k) _).grown hgrow5 (fun k e _=>Option.some.inj e)) (fun k e=>Nat.le_of_eq e),ho.ge⟩); clear hown5 hgrow5 hat5)
     go_wp2
     go_ret
     exact HO.out
   ·obtain ⟨j,rfl⟩:∃ j,n=j+1:=⟨n - 1,by omega⟩
    rw [Nat.add_sub_cancel] at cj
    have hjm:(j:Int)<(m:Int):=by omega
    have p0:(0:Int)<((j+1:Nat):Int):=by omega
    have p1:((j+1:Nat):Int) - 1=j:=by omega
    have hz1:¬ (dj:Int)=0:=by omega
    go_wp2_with (at_builtin; refine wpList_append_any rfl (.tmp 18) (.tmp 21) 45 rfl w.heap.size 96 i0 _ 1 4 Tryz.underlying45 Hi.out.1 Hi.out.2.1 Hi.out.2.2.1 Hi.out.2.2.2 rfl (by decide) _ 0 [] rfl (ownsRow_empty 1 (Nat.le_refl _) HB1.out) _ _ _ (fun e=>by cases e) _ rfl (by rw [List.length_map,HL.out,Nat.mul_one]) HR.out (dv_one _) (by simp only [maxLen]; omega) (by omega) (by simp) ?_; intro v5 w5 hown5 hgrow5 hat5; have HO:Hid (NatNew w (vl l) (.returned v5) w5):=bH (by
     have ho:Own w5 w.heap.size v5 (l.take (j+1)):=by unfold Own; rw [HL.out]; simpa using hown5
     have hr:=ho.rds (Hd.out.take _)
     rw [HT.out] at hr
     exact ⟨v5,rfl,hr,HX1.out.own ((Ext.refl (fun k=>w.heap.size=k) _).grown hgrow5 (fun k e _=>Option.some.inj e)) (fun k e=>Nat.le_of_eq e),ho.ge⟩); clear hown5 hgrow5 hat5)
    go_wp2
    go_ret
    exact HO.out
  ·obtain ⟨j,rfl⟩:∃ j,n=j+1:=⟨n - 1,by
    rcases Nat.eq_zero_or_pos n with h | h
    ·exact absurd (.inl h) h0
    ·omega⟩
   have hj:j<l.length:=by have:=Hm.out; omega
   have hz0:l[j]=0:=by
    by_cases h:l[j]=0
    ·exact h
    ·exact absurd (.inr ⟨by omega,by simpa using h⟩) h0
   obtain ⟨b,off,rfl,hb,hc⟩:=H4.out (by omega)
   have c0:=hc j l[j] (List.getElem?_eq_getElem hj)
   unfold dv at c0
   rw [hz0] at c0
   have p0:(0:Int)<((j+1:Nat):Int):=by omega
   have p1:((j+1:Nat):Int) - 1=j:=by omega
   have Hz:=bH hz
   have Hz0:=bH hz0
   clear hc hz hz0 h0
   go_wp2
   go_roundg j
   case measure=>omega
   case rel=>exact ⟨j,by omega,rfl,by go_num,rfl,fun i hi hl=>by
    by_cases e:i=j
    ·subst e; exact Hz0.out
    ·exact Hz.out i (by omega) hl⟩
theorem Trim_any (w:World) (v:Value) (l:List Nat) (h:Rds w v l) (hl:l.length<=1073741824):Calls Tryz.prog 82 #[v] w (NatPost w (vl l)):=(Trim_new w v l h hl).mono fun _ _ h=>h.post
theorem Rfrom_any (w:World) (n:Nat) (hn:n<18446744073709551616):Calls Tryz.prog 63 #[.int .u64 n] w (NatPost w n):=by
 have hx1:XF w (w.alloc (.cells #[.int .u32 ((n:Int) % 4294967296),.int .u32 ((n:Int) / 4294967296)] 96)):=(Ext.refl _ w).alloc _
 have hr:Rds (w.alloc (.cells #[.int .u32 ((n:Int) % 4294967296),.int .u32 ((n:Int) / 4294967296)] 96)) (.slice (some ⟨w.heap.size,0,none⟩) 2 2) [n % 4294967296,n / 4294967296]:=by
  refine ⟨Dig.cons (by omega) (Dig.cons (by omega) Dig.nil),_,2,rfl,Nat.le_refl _,by unfold maxLen; omega,fun h=>(by cases h),fun _=>⟨_,0,rfl,by simp,fun i d hi=>?_⟩⟩
  have:=cells_new (w:=w) [.int .u32 ((n:Int) % 4294967296),.int .u32 ((n:Int) / 4294967296)] 96 rfl i (dv d) (by
   match i,hi with
   | 0,hi=>simp at hi ⊢; subst hi; simp [dv]
   | 1,hi=>simp at hi ⊢; subst hi; simp [dv]
   | i+2,hi=>simp at hi)
  rwa [Addr.add_lit] at this
 have hf:=Trim_any _ _ _ hr (by simp)
 rw [show vl [n % 4294967296,n / 4294967296]=n by simp [vl]; omega] at hf
 have H:=bH hf
 have HX:=bH hx1
 clear hf hr hx1
 go_enter Tryz.func63,Tryz.ntmps63
 go_wp2_with fail
 refine H.out.mono ?_
 rintro r w' ⟨v,rfl,h1,h2⟩
 have HP:Hid (NatPost w n (.returned v) w'):=bH ⟨v,rfl,h1,HX.out.trans h2⟩
 clear h1 h2
 go_wp2
 go_ret
 exact HP.out
theorem list_ext_dgt {a b:List Nat} (hl:a.length=b.length) (h:∀ j,j<a.length->dgt a j=dgt b j):a=b:=by
 apply List.ext_getElem hl
 intro i h1 h2
 have:=h i h1
 rwa [dgt_in h1,dgt_in h2] at this
theorem Same_any (w:World) (va vb:Value) (a b:List Nat) (ha:Rds w va a) (hb:Rds w vb b) (hal:a.length<=1073741824) (hbl:b.length<=1073741824) :
  Calls Tryz.prog 38 #[va,vb] w fun r w'=>r=.returned (.bool (decide (a=b)))/\XF w w':=by
 obtain ⟨ao,ac,rfl,_⟩:=id ha.2
 obtain ⟨bo,bc,rfl,_⟩:=id hb.2
 by_cases hl:a.length=b.length
 ·obtain ⟨m,hm⟩:∃ m,a.length=m:=⟨_,rfl⟩
  rw [<- hl,hm]
  have Ha:=bH ha
  have Hb:=bH hb
  have Hm:=bH (bI hm hl)
  have hml:m<=1073741824:=by omega
  clear ha hb hl hm hal hbl
  rw [Hm.out.1] at Ha
  rw [<- Hm.out.2,Hm.out.1] at Hb
  obtain ⟨D,hD⟩:∃ D,decide (a=b)=D:=⟨_,rfl⟩
  rw [hD]
  have HD:=bH hD
  clear hD
  go_enter Tryz.func38,Tryz.ntmps38
  go_wp2_with fail
  go_loopg [5] m (fun g v5 wr=>∃ i:Nat,i<=m/\g=m - i/\v5=.int .i64 i/\(∀ j,j<i->dgt a j=dgt b j)/\XF w wr)
  case atStart=>exact ⟨0,Nat.zero_le _,rfl,rfl,fun j hj=>absurd hj (Nat.not_lt_zero _),Ext.refl _ _⟩
  case round =>
   obtain ⟨i,hi,rfl,rfl,hs,hx⟩:=hrel
   by_cases him:i<m
   ·have hia:i<a.length:=by have:=Hm.out.1; omega
    have hib:i<b.length:=by have:=Hm.out.2; omega
    obtain ⟨b1,o1,rfl,_⟩:=Ha.out.base (by have:=Hm.out.1; omega)
    obtain ⟨b2,o2,rfl,_⟩:=Hb.out.base (by have:=Hm.out; omega)
    have c0:=(Ha.out.keep hx).at.2 i hia
    have c1:=(Hb.out.keep hx).at.2 i hib
    have Hs:=bH hs
    have HX:=bH hx
    have HXN:=bH (fun N=>hx.drewN N)
    obtain ⟨x,hxe⟩:∃ x,dgt a i=x:=⟨_,rfl⟩
    obtain ⟨y,hye⟩:∃ y,dgt b i=y:=⟨_,rfl⟩
    rw [hxe] at c0
    rw [hye] at c1
    have Hxy:=bH (bI hxe hye)
    have e0:(0:Int)<=(i:Int):=by omega
    have e1:(i:Int)<(m:Int):=by omega
    clear hs hx hxe hye hia hib
    by_cases hxy:x=y
    ·subst hxy
     go_upto_region 6 with fail
     go_quiet (fail)
     go_wp2
     go_roundg (m - (i+1))
     case measure=>omega
     case rel=>exact ⟨i+1,by omega,rfl,by go_num,fun j hj=>by
      by_cases e:j=i
      ·subst e; rw [Hxy.out.1,Hxy.out.2]
      ·exact Hs.out j (by omega),HXN.out _⟩
    ·have hne:¬ (x:Int)=y:=by omega
     have hbe:((x:Int) == y)=false:=by simpa using hne
     have hDf:D=false:=by
      rw [<- HD.out]
      refine decide_eq_false (fun h=>hxy ?_)
      rw [<- Hxy.out.1,<- Hxy.out.2,h]
     subst hDf
     go_upto_region 6 with fail
     go_quiet (fail)
     go_wp2
     go_ret
     exact ⟨rfl,HXN.out _⟩
   ·obtain rfl:i=m:=by omega
    have hDt:D=true:=by
     rw [<- HD.out]
     refine decide_eq_true (list_ext_dgt Hm.out.2 (fun j hj=>hs j (by have:=Hm.out.1; omega)))
    subst hDt
    have HX:=bH hx
    clear hs hx
    go_wp2
    go_ret
    exact ⟨rfl,HX.out⟩
 ·have hne:¬ (a.length:Int)=b.length:=by omega
  have hbe:((a.length:Int) == b.length)=false:=by simpa using hne
  rw [decide_eq_false (fun h=>hl (by rw [h]))]
  clear ha hb
  generalize a.length=la at *
  generalize b.length=lb at *
  go_enter Tryz.func38,Tryz.ntmps38
  go_wp2
  go_ret
  exact ⟨rfl,Ext.refl _ _⟩
theorem one_one (d:Int):∀ u ∈ [Value.int .u32 d],u.oneCell'=true:=fun u hu=>by
 rw [List.mem_singleton.1 hu]; rfl
theorem own_empty {w:World} {g:Nat} (h:blk w g=some (.cells #[] 96 (0,0))) (base:Nat) (hb:base<=g):Own w base (.slice (some ⟨g,0,none⟩) 0 0) []:=ownsRow_empty 1 hb h
theorem AddSt.all {a b:List Nat} {i:Nat} {o:List Nat} {c:Nat} (h:AddSt a b i o c) (ha:a.length<=i) (hb:b.length<=i):vl (o++[c])=vl a+vl b/\Dig (o++[c]):=by
 have h4:=h.val
 rw [vl_take_all ha,vl_take_all hb] at h4
 refine ⟨by rw [vl_snoc,h.len,h4],h.dig.snoc (by have:=h.car; omega)⟩
theorem Radd_new (w:World) (va vb:Value) (a b:List Nat) (ha:Rds w va a) (hb:Rds w vb b) (hal:a.length<=536870911) (hbl:b.length<=536870911) :
  Calls Tryz.prog 62 #[va,vb] w (NatNew w (vl a+vl b)):=by
 obtain ⟨aao,ac,rfl,_⟩:=id ha.2
 obtain ⟨bbo,bc,rfl,_⟩:=id hb.2
 obtain ⟨m,hm⟩:∃ m,max a.length b.length=m:=⟨_,rfl⟩
 have hma:a.length<=m:=by omega
 have hmb:b.length<=m:=by omega
 have hmx:m<=536870911:=by omega
 have hcs:a.length=m∨b.length=m:=by omega
 obtain ⟨i0,hi,hz0,hz1,hz2⟩:=info_parts Tryz.infoU32
 have Hi:=bH (bI hi (bI hz0 (bI hz1 hz2)))
 have Ha:=bH ha
 have Hb:=bH hb
 have HM:=bH (bI hma hmb)
 clear hi hz0 hz1 hz2 ha hb hal hbl hm
 generalize hna:a.length=na at *
 generalize hnb:b.length=nb at *
 have HN:=bH (bI hna hnb)
 clear hna hnb
 have hb0:blk (w.alloc (.cells #[] 96)) w.heap.size=some (.cells #[] 96 (0,0)):=blk_alloc_at _ _
 have HI:=bH (bI (own_empty hb0 w.heap.size (Nat.le_refl _)) ((Ext.refl (fun _=>False) w).alloc (.cells #[] 96)))
 clear hb0
 go_enter Tryz.func62,Tryz.ntmps62
 go_wp2_with fail
 go_loopg [5,6,7] m (fun g v5 v6 v7 wr=>∃ (i:Nat) (o:List Nat) (c:Nat),i<=m/\g=m - i/\v7=.int .i64 i/\v6=.int .u64 c/\AddSt a b i o c/\Own wr w.heap.size v5 o/\XF w wr)
 case atStart=>exact ⟨0,[],0,Nat.zero_le _,rfl,rfl,rfl,AddSt.zero a b,HI.out.1,HI.out.2⟩
 case round =>
  obtain ⟨i,o,c,hi,rfl,rfl,rfl,hst,ho,hx⟩:=hrel
  clear HI
  by_cases hia:i<na
  ·have hlti:i<m:=by omega
   have hia':(i:Int)<(na:Int):=by omega
   obtain ⟨S,hS⟩:∃ S,dgt a i+dgt b i+c=S:=⟨_,rfl⟩
   have Hda:=bH (Rdigit_any wr _ a (Ha.out.keep hx) i (by omega))
   have Hdb:=bH (Rdigit_any wr _ b (Hb.out.keep hx) i (by omega))
   have hst2:=hst.step Ha.out.1 Hb.out.1
   have hlen:=hst.len
   have l1:=dgt_lt Ha.out.1 i
   have l2:=dgt_lt Hb.out.1 i
   have l3:=hst.car
   rw [hS] at hst2
   obtain ⟨D,hD⟩:∃ D,S % 4294967296=D:=⟨_,rfl⟩
   obtain ⟨E,hE⟩:∃ E,S / 4294967296=E:=⟨_,rfl⟩
   rw [hD,hE] at hst2
   obtain ⟨ao,cap,rfl⟩:=ho.shape
   generalize hX:dgt a i=X at *
   generalize hY:dgt b i=Y at *
   obtain ⟨S1,hS1⟩:∃ S1,c+X=S1:=⟨_,rfl⟩
   have q1:(c:Int)+X=S1:=by omega
   have q2:(S1:Int)+Y=S:=by omega
   have q3:(S:Int) % 4294967296=D:=by omega
   have q4:(S:Int) / 4294967296=E:=by omega
   have hS1l:S1<18446744073709551616:=by omega
   have hSl:S<18446744073709551616:=by omega
   have Hst:=bH hst2
   have Ho:=bH ho
   have Hx:=bH hx
   rw [hlen]
   have Hlen:=bH hlen
   clear hst hst2 ho hx hX hY hS hD hE hS1
   go_wp2_with fail
   refine Hda.out.mono ?_
   rintro r w' ⟨rfl,hw⟩; obtain rfl:=hw.symm
   go_wp2_with fail
   refine Hdb.out.mono ?_
   rintro r w' ⟨rfl,hw⟩; obtain rfl:=hw.symm
   have hx1:XF wr (wr.alloc (.cells #[.int .u32 (D:Int)] 96)):=(Ext.refl _ wr).alloc _
   have HX1:=bH hx1
   have HO1:Hid ((wr.alloc (.cells #[.int .u32 (D:Int)] 96)).ownsRow w.heap.size 96 1 (.slice ao i cap) i (o.map dv)):=bH (by have:=Ho.out.keep hx1; unfold Own at this; rw [hlen] at this; exact this)
   have HG:=bH (row_ge HO1.out)
   clear hx1 Hda Hdb hw hlen
   go_wp2_with (at_builtin; refine wpList_append_any rfl (.tmp 30) (.tmp 33) 45 rfl w.heap.size 96 i0 _ 1 4 Tryz.underlying45 Hi.out.1 Hi.out.2.1 Hi.out.2.2.1 Hi.out.2.2.2 rfl (by decide) _ _ _ rfl HO1.out _ 1 1 (fun e=>by cases e) [.int .u32 (D:Int)] rfl rfl (.inr ⟨_,rfl,cells_new [.int .u32 (D:Int)] _ rfl⟩) (one_one _) (by simp only [maxLen]; omega) (by omega) (Nat.le_trans Hx.out.size HX1.out.size) ?_; intro v5 w5 hown5 hgrow5 hat5; have HO:Hid (Own w5 w.heap.size v5 (o++[D])):=bH (own_app Hlen.out hown5); have HX:Hid (XF w w5):=bH ((Hx.out.trans HX1.out).grown hgrow5 (fun k e h=>absurd (HG.out k e) (by omega))); clear hown5 hgrow5 hat5)
   go_wp2
   go_roundg (m - (i+1))
   case measure=>omega
   case rel=>exact ⟨i+1,_,_,by omega,rfl,by go_num,rfl,Hst.out,HO.out,HX.out⟩
  ·by_cases hib:i<nb
   ·have hlti:i<m:=by omega
    have hib':(i:Int)<(nb:Int):=by omega
    have hia':¬ (i:Int)<(na:Int):=by omega
    obtain ⟨S,hS⟩:∃ S,dgt a i+dgt b i+c=S:=⟨_,rfl⟩
    have Hda:=bH (Rdigit_any wr _ a (Ha.out.keep hx) i (by omega))
    have Hdb:=bH (Rdigit_any wr _ b (Hb.out.keep hx) i (by omega))
    have hst2:=hst.step Ha.out.1 Hb.out.1
    have hlen:=hst.len
    have l1:=dgt_lt Ha.out.1 i
    have l2:=dgt_lt Hb.out.1 i
    have l3:=hst.car
    rw [hS] at hst2
    obtain ⟨D,hD⟩:∃ D,S % 4294967296=D:=⟨_,rfl⟩
    obtain ⟨E,hE⟩:∃ E,S / 4294967296=E:=⟨_,rfl⟩
    rw [hD,hE] at hst2
    obtain ⟨ao,cap,rfl⟩:=ho.shape
    generalize hX:dgt a i=X at *
    generalize hY:dgt b i=Y at *
    obtain ⟨S1,hS1⟩:∃ S1,c+X=S1:=⟨_,rfl⟩
    have q1:(c:Int)+X=S1:=by omega
    have q2:(S1:Int)+Y=S:=by omega
    have q3:(S:Int) % 4294967296=D:=by omega
    have q4:(S:Int) / 4294967296=E:=by omega
    have hS1l:S1<18446744073709551616:=by omega
    have hSl:S<18446744073709551616:=by omega
    have Hst:=bH hst2
    have Ho:=bH ho
    have Hx:=bH hx
    rw [hlen]
    have Hlen:=bH hlen
    clear hst hst2 ho hx hX hY hS hD hE hS1
    go_wp2_with fail
    refine Hda.out.mono ?_
    rintro r w' ⟨rfl,hw⟩; obtain rfl:=hw.symm
    go_wp2_with fail
    refine Hdb.out.mono ?_
    rintro r w' ⟨rfl,hw⟩; obtain rfl:=hw.symm
    have hx1:XF wr (wr.alloc (.cells #[.int .u32 (D:Int)] 96)):=(Ext.refl _ wr).alloc _
    have HX1:=bH hx1
    have HO1:Hid ((wr.alloc (.cells #[.int .u32 (D:Int)] 96)).ownsRow w.heap.size 96 1 (.slice ao i cap) i (o.map dv)):=bH (by have:=Ho.out.keep hx1; unfold Own at this; rw [hlen] at this; exact this)
    have HG:=bH (row_ge HO1.out)
    clear hx1 Hda Hdb hw hlen
    go_wp2_with (at_builtin; refine wpList_append_any rfl (.tmp 30) (.tmp 33) 45 rfl w.heap.size 96 i0 _ 1 4 Tryz.underlying45 Hi.out.1 Hi.out.2.1 Hi.out.2.2.1 Hi.out.2.2.2 rfl (by decide) _ _ _ rfl HO1.out _ 1 1 (fun e=>by cases e) [.int .u32 (D:Int)] rfl rfl (.inr ⟨_,rfl,cells_new [.int .u32 (D:Int)] _ rfl⟩) (one_one _) (by simp only [maxLen]; omega) (by omega) (Nat.le_trans Hx.out.size HX1.out.size) ?_; intro v5 w5 hown5 hgrow5 hat5; have HO:Hid (Own w5 w.heap.size v5 (o++[D])):=bH (own_app Hlen.out hown5); have HX:Hid (XF w w5):=bH ((Hx.out.trans HX1.out).grown hgrow5 (fun k e h=>absurd (HG.out k e) (by omega))); clear hown5 hgrow5 hat5)
    go_wp2
    go_roundg (m - (i+1))
    case measure=>omega
    case rel=>exact ⟨i+1,_,_,by omega,rfl,by go_num,rfl,Hst.out,HO.out,HX.out⟩
   ·have hia':¬ (i:Int)<(na:Int):=by omega
    have hib':¬ (i:Int)<(nb:Int):=by omega
    have hall:=hst.all (by have:=HN.out; omega) (by have:=HN.out; omega)
    have hlen:=hst.len
    have l3:=hst.car
    obtain ⟨ao,cap,rfl⟩:=ho.shape
    have Hall:=bH hall
    have Ho:=bH ho
    have Hx:=bH hx
    rw [hlen]
    obtain ⟨D,hD⟩:∃ D,c=D:=⟨_,rfl⟩
    subst hD
    have q3:(c:Int) % 4294967296=c:=by omega
    have hlo:(o++[c]).length=i+1:=by simp [hlen]
    have Hlo:=bH hlo
    clear hst hall ho hx hlo
    have hx1:XF wr (wr.alloc (.cells #[.int .u32 (c:Int)] 96)):=(Ext.refl _ wr).alloc _
    have HX1:=bH hx1
    have HO1:Hid ((wr.alloc (.cells #[.int .u32 (c:Int)] 96)).ownsRow w.heap.size 96 1 (.slice ao i cap) i (o.map dv)):=bH (by have:=Ho.out.keep hx1; unfold Own at this; rw [hlen] at this; exact this)
    have HG:=bH (row_ge HO1.out)
    clear hx1
    have Hlen:=bH hlen
    clear hlen
    go_wp2_with (at_builtin; refine wpList_append_any rfl (.tmp 37) (.tmp 40) 45 rfl w.heap.size 96 i0 _ 1 4 Tryz.underlying45 Hi.out.1 Hi.out.2.1 Hi.out.2.2.1 Hi.out.2.2.2 rfl (by decide) _ _ _ rfl HO1.out _ 1 1 (fun e=>by cases e) [.int .u32 (c:Int)] rfl rfl (.inr ⟨_,rfl,cells_new [.int .u32 (c:Int)] _ rfl⟩) (one_one _) (by simp only [maxLen]; omega) (by omega) (Nat.le_trans Hx.out.size HX1.out.size) ?_; intro v5 w5 hown5 hgrow5 hat5; have HO:Hid (Own w5 w.heap.size v5 (o++[c])):=bH (own_app Hlen.out hown5); have HX:Hid (XF w w5):=bH ((Hx.out.trans HX1.out).grown hgrow5 (fun k e h=>absurd (HG.out k e) (by omega))); clear hown5 hgrow5 hat5)
    obtain ⟨ao5,cap5,rfl⟩:=HO.out.shape
    rw [Hlo.out] at HO ⊢
    have HT:=bH (Trim_new w5 _ _ (HO.out.rds Hall.out.2) (by rw [Hlo.out]; omega))
    go_wp2_with fail
    refine HT.out.mono ?_
    rintro r6 w6 ⟨v6,rfl,h6,hx6,hg6⟩
    rw [Hall.out.1] at h6
    have HP:Hid (NatNew w (vl a+vl b) (.returned v6) w6):=bH ⟨v6,rfl,h6,HX.out.trans hx6,fun g e=>Nat.le_trans HX.out.size (hg6 g e)⟩
    clear h6 hx6 hg6
    go_wp2
    go_ret
    exact HP.out
theorem Radd_any (w:World) (va vb:Value) (a b:List Nat) (ha:Rds w va a) (hb:Rds w vb b) (hal:a.length<=536870911) (hbl:b.length<=536870911) :
  Calls Tryz.prog 62 #[va,vb] w (NatPost w (vl a+vl b)):=(Radd_new w va vb a b ha hb hal hbl).mono fun _ _ h=>h.post
theorem dg_pos_len (n:Nat):decide (0<(dg n).length)=decide (0<n):=by
 by_cases h:n=0
 ·subst h; rw [dg_zero]; rfl
 ·have h1:¬ (dg n).length=0:=fun e=>h (dg_eq_nil.1 (List.eq_nil_of_length_eq_zero e))
  rw [decide_eq_true (by omega:0<n),decide_eq_true (by omega:0<(dg n).length)]
theorem Rbuild_any (w:World) (neg:Bool) (v:Value) (l:List Nat) (h:Rds w v l) (hl:l.length<=268435455) :
  Calls Tryz.prog 61 #[.bool neg,v] w (IntPost w (sg neg (vl l))):=by
 have HT:=bH (fun W (hW:XF w W)=>Trim_any W v l (h.keep hW) (by omega))
 generalize vl l=n at *
 clear h hl
 go_enter Tryz.func61,Tryz.ntmps61
 go_wp2_with fail
 refine (HT.out _ ((Ext.refl _ w).alloc _)).mono ?_
 rintro r w1 ⟨v1,rfl,h1,hx1⟩
 have hb1:=(boxI_new (W:=w) rfl false none 0 0).ext hx1 id
 have hX1:=((Ext.refl (fun _=>False) w).alloc (.cells #[.bool false,.slice none 0 0] 47)).trans hx1
 have hi:=IsInt.mk neg h1
 rw [<- dg_pos_len] at hi
 obtain ⟨ao,c,rfl⟩:=h1.shape
 obtain ⟨f0,f1,f2,f3⟩:=hb1.facts
 obtain ⟨m,hm⟩:∃ m,(dg n).length=m:=⟨_,rfl⟩
 rw [hm] at hi h1 ⊢
 obtain ⟨s,hs⟩:∃ s,(neg && decide (0<m))=s:=⟨_,rfl⟩
 rw [hs] at hi
 have hp:=hb1.put (neg:=s) (no_int ao m c)
 have HR:=bH (bI (hp.int hi) (bI (hX1.own hp.ext (fun k e=>by omega)) hp.box))
 have Hs:=bH hs
 clear hp hi h1 hx1 hX1 hb1 HT hm hs
 cases neg
 ·have hs:=Hs.out
  rw [Bool.false_and] at hs
  subst hs
  go_wp2
  generalize (w1.setCell ⟨w.heap.size,0,none⟩ (.bool false)).setCell ⟨w.heap.size,1,none⟩ (.slice ao m c)=w9 at *
  obtain ⟨g0,g1,_⟩:=HR.out.2.2.facts
  exact bodyPost_ret (v:=.agg #[.bool false,.slice ao m c]) (by simp [results,Tryz.results61,go_sem,g0,g1]) rfl ⟨_,rfl,HR.out.1,HR.out.2.1⟩
 ·have hs:=Hs.out
  rw [Bool.true_and] at hs
  subst hs
  go_wp2
  generalize (w1.setCell ⟨w.heap.size,0,none⟩ (.bool (decide (0<m)))).setCell ⟨w.heap.size,1,none⟩ (.slice ao m c)=w9 at *
  obtain ⟨g0,g1,_⟩:=HR.out.2.2.facts
  exact bodyPost_ret (v:=.agg #[.bool (decide (0<m)),.slice ao m c]) (by simp [results,Tryz.results61,go_sem,g0,g1]) rfl ⟨_,rfl,HR.out.1,HR.out.2.1⟩
theorem Risame_any (w:World) (neg neg':Bool) (ao ao':Option Addr) (m c m' c':Nat) (l l':List Nat) (h:Rds w (.slice ao m c) l) (h':Rds w (.slice ao' m' c') l') (hl:l.length<=268435455) (hl':l'.length<=268435455) :
  Calls Tryz.prog 37 #[.agg #[.bool neg,.slice ao m c],.agg #[.bool neg',.slice ao' m' c']] w fun r w'=>r=.returned (.bool (neg == neg' && decide (l=l')))/\XF w w':=by
 have HS:=bH (fun W (hW:XF w W)=>Same_any W _ _ l l' (h.keep hW) (h'.keep hW) (by omega) (by omega))
 generalize decide (l=l')=D at *
 clear h h' hl hl'
 by_cases hn:neg=neg'
 ·subst hn
  rw [beq_self_eq_true,Bool.true_and]
  go_enter Tryz.func37,Tryz.ntmps37
  go_wp2_with fail
  refine (HS.out _ (((Ext.refl _ w).alloc _).alloc _)).mono ?_
  rintro r w1 ⟨rfl,hx1⟩
  have HX:=bH ((((Ext.refl (fun _=>False) w).alloc _).alloc _).trans hx1)
  clear hx1 HS
  go_wp2
  go_ret
  exact ⟨rfl,HX.out⟩
 ·have hb:(neg == neg')=false:=by simpa using hn
  rw [hb,Bool.false_and]
  clear hn HS
  go_enter Tryz.func37,Tryz.ntmps37
  go_wp2
  go_ret
  exact ⟨rfl,((Ext.refl _ w).alloc _).alloc _⟩
theorem Rifrom_any (w:World) (k:Int) (h0:-9223372036854775808<=k) (h1:k<=9223372036854775807) :
  Calls Tryz.prog 41 #[.int .i64 k] w (IntPost w k):=by
 by_cases hk:k<0
 ·obtain ⟨n,hn⟩:∃ n:Nat,k = -((n:Int)+1):=⟨k.natAbs - 1,by omega⟩
  have hnl:n<9223372036854775808:=by omega
  have HF:=bH (fun W=>Rfrom_any W n (by omega))
  have HA:=bH (fun W u u' h h'=>Radd_any W u u' (dg n) [1] h h' (Nat.le_trans (dg_two (n:=n) (by omega)).1 (by decide)) (by simp))
  rw [vl_dg,show vl [1]=1 from rfl] at HA
  have HS:=bH (fun W v h=>Rbuild_any W true v (dg (n+1)) h (Nat.le_trans (dg_two (n:=n+1) (by omega)).1 (by decide)))
  have hz:sg true (n+1)=k:=by unfold sg; simp; omega
  rw [vl_dg,hz] at HS
  have q0:k+1 = -(n:Int):=by omega
  have q1:-(-(n:Int))=n:=by omega
  have q2:IntKind.u64.wrap (n:Int)=n:=by rw [wrapU]; omega
  have q3:IntKind.i64.wrap (-(n:Int)) = -n:=IntWalk.i64_in _ (by omega)
  have q4:IntKind.i64.wrap (n:Int)=n:=IntWalk.i64_in _ (by omega)
  clear hz hn
  go_enter Tryz.func41,Tryz.ntmps41
  go_wp2_with fail
  refine (HF.out _).mono ?_
  rintro r w1 ⟨v1,rfl,h1,hx1⟩
  have hx2:XF w1 (w1.alloc (.cells #[.int .u32 1] 96)):=(Ext.refl _ w1).alloc _
  have hr2:Rds (w1.alloc (.cells #[.int .u32 1] 96)) (.slice (some ⟨w1.heap.size,0,none⟩) 1 1) [1]:=by
   refine ⟨Dig.cons (by omega) Dig.nil,_,1,rfl,Nat.le_refl _,by unfold maxLen; omega,fun h=>(by cases h),fun _=>⟨_,0,rfl,by simp,fun i d hi=>?_⟩⟩
   have:=cells_new (w:=w1) [.int .u32 1] 96 rfl i (dv d) (by
    match i,hi with
    | 0,hi=>simp at hi ⊢; subst hi; rfl
    | i+1,hi=>simp at hi)
   rwa [Addr.add_lit] at this
  have HA1:=bH (HA.out _ _ _ (h1.keep hx2) hr2)
  obtain ⟨ao,c,rfl⟩:=h1.shape
  have hb0:=(boxI_new (W:=w) rfl false none 0 0).ext (hx1.trans hx2) id
  have HB0:=bH (bI hb0 (((Ext.refl (fun _=>False) w).alloc (.cells #[.bool false,.slice none 0 0] 47)).trans (hx1.trans hx2)))
  clear hb0 h1 hx1 hx2 hr2 HF HA
  go_wp2_with fail
  refine HA1.out.mono ?_
  rintro r w2 ⟨v2,rfl,h2,hx2⟩
  have HS1:=bH (HS.out w2 v2 h2)
  obtain ⟨ao2,c2,rfl⟩:=h2.shape
  have HB1:=bH (bI (HB0.out.1.ext hx2 id) (HB0.out.2.trans hx2))
  clear h2 hx2 HS HB0 HA1
  go_wp2_with fail
  refine HS1.out.mono ?_
  rintro r w3 ⟨v3,rfl,h3,hx3⟩
  have hb3:=HB1.out.1.ext hx3 id
  obtain ⟨f0,f1,f2,f3⟩:=hb3.facts
  obtain ⟨neg,so,sn,sc,rfl⟩:=h3.shape
  have hp:=hb3.put (neg:=neg) (no_int so sn sc)
  have HR:=bH (bI (hp.int h3) (bI ((HB1.out.2.trans hx3).own hp.ext (fun k e=>by omega)) hp.box))
  clear hb3 h3 hx3 hp HS1 HB1
  go_wp2
  generalize (w3.setCell ⟨w.heap.size,0,none⟩ (.bool neg)).setCell ⟨w.heap.size,1,none⟩ (.slice so sn sc)=w9 at *
  obtain ⟨g0,g1,_⟩:=HR.out.2.2.facts
  exact bodyPost_ret (v:=.agg #[.bool neg,.slice so sn sc]) (by simp [results,Tryz.results41,go_sem,g0,g1]) rfl ⟨_,rfl,HR.out.1,HR.out.2.1⟩
 ·obtain ⟨n,hn⟩:∃ n:Nat,k=(n:Int):=⟨k.natAbs,by omega⟩
  have hnl:n<9223372036854775808:=by omega
  have HF:=bH (fun W=>Rfrom_any W n (by omega))
  have HS:=bH (fun W v h=>Rbuild_any W false v (dg n) h (Nat.le_trans (dg_two (n:=n) (by omega)).1 (by decide)))
  have hz:sg false n=k:=by unfold sg; simp [hn]
  rw [vl_dg,hz] at HS
  have q2:IntKind.u64.wrap (n:Int)=n:=by rw [wrapU]; omega
  subst hn
  clear hz
  go_enter Tryz.func41,Tryz.ntmps41
  go_wp2_with fail
  refine (HF.out _).mono ?_
  rintro r w1 ⟨v1,rfl,h1,hx1⟩
  have HS1:=bH (HS.out w1 v1 h1)
  obtain ⟨ao,c,rfl⟩:=h1.shape
  have HB1:=bH (bI ((boxI_new (W:=w) rfl false none 0 0).ext hx1 id) (((Ext.refl (fun _=>False) w).alloc (.cells #[.bool false,.slice none 0 0] 47)).trans hx1))
  clear h1 hx1 HF HS
  go_wp2_with fail
  refine HS1.out.mono ?_
  rintro r w3 ⟨v3,rfl,h3,hx3⟩
  have hb3:=HB1.out.1.ext hx3 id
  obtain ⟨f0,f1,f2,f3⟩:=hb3.facts
  obtain ⟨neg,so,sn,sc,rfl⟩:=h3.shape
  have hp:=hb3.put (neg:=neg) (no_int so sn sc)
  have HR:=bH (bI (hp.int h3) (bI ((HB1.out.2.trans hx3).own hp.ext (fun k e=>by omega)) hp.box))
  clear hb3 h3 hx3 hp HS1 HB1
  go_wp2
  generalize (w3.setCell ⟨w.heap.size,0,none⟩ (.bool neg)).setCell ⟨w.heap.size,1,none⟩ (.slice so sn sc)=w9 at *
  obtain ⟨g0,g1,_⟩:=HR.out.2.2.facts
  exact bodyPost_ret (v:=.agg #[.bool neg,.slice so sn sc]) (by simp [results,Tryz.results41,go_sem,g0,g1]) rfl ⟨_,rfl,HR.out.1,HR.out.2.1⟩
end Go.Proofs.YtlbjfkdgbhkdcaaGreatDoor
