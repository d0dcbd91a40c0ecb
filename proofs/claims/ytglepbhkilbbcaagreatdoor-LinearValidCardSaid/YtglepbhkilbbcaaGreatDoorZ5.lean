/-
  Texts of the proof, part 5. Conditions: each lemma names its own.
-/
import Derived.Test.YtglepbhkilbbcaaGreatDoorZ3
import Derived.Test.YtglepbhkilbbcaaGreatDoorZ4
import Derived.OpenShut
import Derived.ShutString
import Derived.ChangeOld
import Derived.Deep.Slices
import Derived.Lib.SmallJoins
import Derived.Test.YtglepbhkilbbcaaGreatDoorRows
import Derived.Test.YtglepbhkilbbcaaGreatDoorTie
import Derived.Stop.LaidErr
import Derived.LaidMore
import Derived.MakeChecks
import Derived.Stop.Joined
import Derived.SevenTiedAt
import Derived.Maps.RangeWalk
set_option linter.unusedVariables false
set_option linter.unusedSimpArgs false
set_option maxRecDepth 100000
set_option maxHeartbeats 16000000
namespace Go.Proofs.YtglepbhkilbbcaaGreatDoor
open Go.RowKit Go.MapKept
open Go.ChangeMaps (setBlock)
theorem join_snoc (l:List (List UInt8)) (x sep:List UInt8):Lib.join (l++[x]) sep=if l=[] then x else Lib.join l sep++sep++x:=by
 cases l with
 | nil=>rw [if_pos rfl,List.nil_append,Lib.join_one]
 | cons y r =>
  rw [if_neg (by simp),List.cons_append,Lib.join_cons,Lib.join_cons]
  unfold Lib.joinTail
  simp
def sumR (ts:List TermV) (k:Nat):ByteArray:=⟨(Lib.join ((partsT ts k).map (·.data.toList)) [32]).toArray⟩
theorem sumR_next (ts:List TermV) (k:Nat):sumR ts (k+1)=if k=0 then termT k (ts.getD k term0) else sumR ts k++⟨#[32]⟩++termT k (ts.getD k term0):=by
 unfold sumR
 rw [partsT_next,List.map_append,List.map_singleton,join_snoc]
 by_cases h:k=0
 ·subst h
  rw [if_pos rfl,if_pos (by rfl)]
 ·rw [if_neg h,if_neg (fun e=>by
   have:=congrArg List.length e
   rw [List.length_map,partsT_len] at this
   exact h this)]
  apply ByteArray.ext
  simp
theorem sum4_any (w:World) (tv:Value) (ts:List TermV) (h:Tms w tv ts) (hl:ts.length<=1000) (hc:∀ t ∈ ts,limB t.coef=true) (hv:∀ t ∈ ts,0<=t.var/\t.var<=1000000):Calls Tryz.prog 53 #[tv] w (StrPost w (termsT ts)):=by
 obtain ⟨ao,c,rfl,-⟩:=id h.1
 rw [List.length_map] at h ⊢
 have HT:=bH (bI h (bI hc hv))
 obtain ⟨n,hn⟩:∃ n,ts.length=n:=⟨_,rfl⟩
 have HN:=bH hn
 rw [hn] at HT hl ⊢
 clear h hc hv hn
 have HNu:=bH (fun W m (h0:-9223372036854775807<=m) (h1:m<=9223372036854775807)=>Number4_any W m h0 h1)
 go_enter Tryz.func53,Tryz.ntmps53
 go_wp2_with fail
 go_loopg [3,4,5] n (fun gg v3 v4 v5 wr=>∃ (k:Nat) (s:ByteArray),k<=n/\gg=n - k/\v3=.string s/\v4=.int .i64 k/\s=sumR ts k/\s.size<=k*60/\(0<k->0<s.size)/\XF w wr)
 case atStart=>exact ⟨0,⟨#[]⟩,Nat.zero_le _,rfl,rfl,rfl,rfl,Nat.le_refl _,fun e=>absurd e (by decide),Ext.refl _ _⟩
 case round =>
  obtain ⟨k,s,hk,rfl,rfl,rfl,hs,hz,hp,hx⟩:=hrel
  have HR:=bH (bI hs hx)
  clear hs hx
  by_cases hkn:k<n
  ·have k0:(k:Int)<(n:Int):=by omega
   have k1:(0:Int)<=(k:Int):=by omega
   clear hp
   obtain ⟨b,off,rfl,hlt,e0,e1,hok⟩:=(HT.out.1.keep HR.out.2).at k (by rw [HN.out]; exact hkn)
   have hmem:ts.getD k term0 ∈ ts:=by rw [getD_lt (by rw [HN.out]; exact hkn) term0]; exact List.getElem_mem _
   have hlb:=HT.out.2.1 _ hmem
   unfold limB at hlb
   simp only [Bool.and_eq_true,decide_eq_true_eq] at hlb
   have hvb:=HT.out.2.2 _ hmem
   have HSn:=bH (sumR_next ts k)
   obtain ⟨t,htt⟩:∃ t,ts.getD k term0=t:=⟨_,rfl⟩
   rw [htt] at e0 e1 hlb hvb HSn
   obtain ⟨tv,htv⟩:∃ x,t.var=x:=⟨_,rfl⟩
   obtain ⟨tc,htc⟩:∃ x,t.coef=x:=⟨_,rfl⟩
   rw [htv] at e0 hvb
   rw [htc] at e1 hlb
   have HV:=bH (bI htv htc)
   obtain ⟨hb1,hb2⟩:=hlb
   obtain ⟨hv1,hv2⟩:=hvb
   have hs1:=numT_size (n:=tv) (by unfold InR; omega)
   clear hok hmem htt htv htc hlt
   by_cases hk0:k=0
   ·subst hk0
    have HS0:=bH (show s=⟨#[]⟩ from HR.out.1)
    replace HSn:=bH (HSn.out.trans (if_pos rfl))
    (try simp only [Nat.zero_mul,Nat.mul_zero,Nat.add_zero,Nat.zero_add] at e0)
    (try simp only [Nat.zero_mul,Nat.mul_zero,Nat.add_zero,Nat.zero_add] at e1)
    by_cases hc:tc<0
    ·by_cases h1:absI tc=1
     ·have hab:absI tc = -tc:=if_pos hc
      rw [hab] at h1
      obtain rfl:tc = -1:=by omega
      have hq0:¬ 9223372036854775807<1+1:=by omega
      have hq1:¬ 9223372036854775807<1+1+(numT tv).size:=by omega
      have HZ:=bH (show termT 0 t=⟨#[45]⟩++((⟨#[120]⟩++numT tv)) from by unfold termT yT xT; rw [HV.out.1,HV.out.2]; rw [if_pos rfl]; rw [if_pos (by decide)]; rw [if_pos (by decide)])
      go_wp2_with (go_at_call 52; (first | ((with_reducible refine (HNu.out _ tv (by omega) (by omega)).mono ?_); rintro q2 w12 ⟨rfl,hx12⟩)))
      go_roundg (n - (0+1))
      case measure=>omega
      case rel=>exact ⟨0+1,(⟨#[45]⟩:ByteArray)++⟨#[120]⟩++numT tv,by omega,rfl,rfl,by go_num,by rw [HSn.out,HZ.out]; apply ByteArray.ext; apply Array.ext'; simp,by simp only [ByteArray.size_append]; skip; have hl3:(⟨#[45]⟩:ByteArray).size=1:=rfl; have hl4:(⟨#[32]⟩:ByteArray).size=1:=rfl; have hl5:(⟨#[120]⟩:ByteArray).size=1:=rfl; have hl6:(⟨#[32,45,32]⟩:ByteArray).size=3:=rfl; have hl7:(⟨#[32,43,32]⟩:ByteArray).size=3:=rfl; omega,fun _=>by simp only [ByteArray.size_append]; have hl5:(⟨#[120]⟩:ByteArray).size=1:=rfl; omega,HR.out.2.trans hx12⟩
     ·have hab:absI tc = -tc:=if_pos hc
      rw [hab] at h1
      have hs2:=numT_size (n:=-tc) (by unfold InR; omega)
      have hq0:¬ 9223372036854775807<1+(numT (-tc)).size:=by omega
      have hq1:¬ 9223372036854775807<1+(numT (-tc)).size+1:=by omega
      have hq2:¬ 9223372036854775807<1+(numT (-tc)).size+1+1:=by omega
      have hq3:¬ 9223372036854775807<1+(numT (-tc)).size+1+1+(numT tv).size:=by omega
      have HZ:=bH (show termT 0 t=⟨#[45]⟩++(numT (-tc)++⟨#[32]⟩++(⟨#[120]⟩++numT tv)) from by unfold termT yT xT; rw [HV.out.1,HV.out.2]; rw [if_pos rfl]; rw [if_pos (by omega)]; rw [if_neg (by rw [hab]; exact h1)]; rw [hab])
      go_wp2_with (go_at_call 52; (first | ((with_reducible refine (HNu.out wr (-tc) (by omega) (by omega)).mono ?_); rintro q1 w11 ⟨rfl,hx11⟩; replace e0:=cell_keep e0 hx11) | ((with_reducible refine (HNu.out _ tv (by omega) (by omega)).mono ?_); rintro q2 w12 ⟨rfl,hx12⟩)))
      go_roundg (n - (0+1))
      case measure=>omega
      case rel=>exact ⟨0+1,(⟨#[45]⟩:ByteArray)++numT (-tc)++⟨#[32]⟩++⟨#[120]⟩++numT tv,by omega,rfl,rfl,by go_num,by rw [HSn.out,HZ.out]; apply ByteArray.ext; apply Array.ext'; simp,by simp only [ByteArray.size_append]; skip; have hl3:(⟨#[45]⟩:ByteArray).size=1:=rfl; have hl4:(⟨#[32]⟩:ByteArray).size=1:=rfl; have hl5:(⟨#[120]⟩:ByteArray).size=1:=rfl; have hl6:(⟨#[32,45,32]⟩:ByteArray).size=3:=rfl; have hl7:(⟨#[32,43,32]⟩:ByteArray).size=3:=rfl; omega,fun _=>by simp only [ByteArray.size_append]; have hl5:(⟨#[120]⟩:ByteArray).size=1:=rfl; omega,(HR.out.2.trans hx11).trans hx12⟩
    ·by_cases h1:absI tc=1
     ·have hab:absI tc=tc:=if_neg hc
      rw [hab] at h1
      subst h1
      have hq0:¬ 9223372036854775807<s.size+1:=by omega
      have hq1:¬ 9223372036854775807<s.size+1+(numT tv).size:=by omega
      have HZ:=bH (show termT 0 t=((⟨#[120]⟩++numT tv)) from by unfold termT yT xT; rw [HV.out.1,HV.out.2]; rw [if_pos rfl]; rw [if_neg (by decide)]; rw [if_pos (by decide)])
      go_wp2_with (go_at_call 52; (first | ((with_reducible refine (HNu.out _ tv (by omega) (by omega)).mono ?_); rintro q2 w12 ⟨rfl,hx12⟩)))
      go_roundg (n - (0+1))
      case measure=>omega
      case rel=>exact ⟨0+1,s++⟨#[120]⟩++numT tv,by omega,rfl,rfl,by go_num,by rw [HSn.out,HZ.out]; apply ByteArray.ext; apply Array.ext'; simp [HS0.out],by simp only [ByteArray.size_append]; have hs0:s.size=0:=(by rw [HS0.out]; rfl); have hl3:(⟨#[45]⟩:ByteArray).size=1:=rfl; have hl4:(⟨#[32]⟩:ByteArray).size=1:=rfl; have hl5:(⟨#[120]⟩:ByteArray).size=1:=rfl; have hl6:(⟨#[32,45,32]⟩:ByteArray).size=3:=rfl; have hl7:(⟨#[32,43,32]⟩:ByteArray).size=3:=rfl; omega,fun _=>by simp only [ByteArray.size_append]; have hl5:(⟨#[120]⟩:ByteArray).size=1:=rfl; omega,HR.out.2.trans hx12⟩
     ·have hab:absI tc=tc:=if_neg hc
      rw [hab] at h1
      have hs2:=numT_size (n:=tc) (by unfold InR; omega)
      have hq0:¬ 9223372036854775807<s.size+(numT (tc)).size:=by omega
      have hq1:¬ 9223372036854775807<s.size+(numT (tc)).size+1:=by omega
      have hq2:¬ 9223372036854775807<s.size+(numT (tc)).size+1+1:=by omega
      have hq3:¬ 9223372036854775807<s.size+(numT (tc)).size+1+1+(numT tv).size:=by omega
      have HZ:=bH (show termT 0 t=(numT (tc)++⟨#[32]⟩++(⟨#[120]⟩++numT tv)) from by unfold termT yT xT; rw [HV.out.1,HV.out.2]; rw [if_pos rfl]; rw [if_neg (by omega)]; rw [if_neg (by rw [hab]; exact h1)]; rw [hab])
      go_wp2_with (go_at_call 52; (first | ((with_reducible refine (HNu.out wr (tc) (by omega) (by omega)).mono ?_); rintro q1 w11 ⟨rfl,hx11⟩; replace e0:=cell_keep e0 hx11) | ((with_reducible refine (HNu.out _ tv (by omega) (by omega)).mono ?_); rintro q2 w12 ⟨rfl,hx12⟩)))
      go_roundg (n - (0+1))
      case measure=>omega
      case rel=>exact ⟨0+1,s++numT (tc)++⟨#[32]⟩++⟨#[120]⟩++numT tv,by omega,rfl,rfl,by go_num,by rw [HSn.out,HZ.out]; apply ByteArray.ext; apply Array.ext'; simp [HS0.out],by simp only [ByteArray.size_append]; have hs0:s.size=0:=(by rw [HS0.out]; rfl); have hl3:(⟨#[45]⟩:ByteArray).size=1:=rfl; have hl4:(⟨#[32]⟩:ByteArray).size=1:=rfl; have hl5:(⟨#[120]⟩:ByteArray).size=1:=rfl; have hl6:(⟨#[32,45,32]⟩:ByteArray).size=3:=rfl; have hl7:(⟨#[32,43,32]⟩:ByteArray).size=3:=rfl; omega,fun _=>by simp only [ByteArray.size_append]; have hl5:(⟨#[120]⟩:ByteArray).size=1:=rfl; omega,(HR.out.2.trans hx11).trans hx12⟩
   ·have k2:(0:Int)<(k:Int):=by omega
    replace HSn:=bH (HSn.out.trans (if_neg hk0))
    by_cases hc:tc<0
    ·by_cases h1:absI tc=1
     ·have hab:absI tc = -tc:=if_pos hc
      rw [hab] at h1
      obtain rfl:tc = -1:=by omega
      have hq0:¬ 9223372036854775807<s.size+3:=by omega
      have hq1:¬ 9223372036854775807<s.size+3+1:=by omega
      have hq2:¬ 9223372036854775807<s.size+3+1+(numT tv).size:=by omega
      have HZ:=bH (show termT k t=⟨#[45,32]⟩++((⟨#[120]⟩++numT tv)) from by unfold termT yT xT; rw [HV.out.1,HV.out.2]; rw [if_neg hk0]; rw [if_pos (by decide)]; rw [if_pos (by decide)])
      go_wp2_with (go_at_call 52; (first | ((with_reducible refine (HNu.out _ tv (by omega) (by omega)).mono ?_); rintro q2 w12 ⟨rfl,hx12⟩)))
      go_roundg (n - (k+1))
      case measure=>omega
      case rel=>exact ⟨k+1,(s++⟨#[32,45,32]⟩)++⟨#[120]⟩++numT tv,by omega,rfl,rfl,by go_num,by rw [HSn.out,HZ.out,<- HR.out.1]; apply ByteArray.ext; apply Array.ext'; simp,by simp only [ByteArray.size_append]; skip; have hl3:(⟨#[45]⟩:ByteArray).size=1:=rfl; have hl4:(⟨#[32]⟩:ByteArray).size=1:=rfl; have hl5:(⟨#[120]⟩:ByteArray).size=1:=rfl; have hl6:(⟨#[32,45,32]⟩:ByteArray).size=3:=rfl; have hl7:(⟨#[32,43,32]⟩:ByteArray).size=3:=rfl; omega,fun _=>by simp only [ByteArray.size_append]; have hl5:(⟨#[120]⟩:ByteArray).size=1:=rfl; omega,HR.out.2.trans hx12⟩
     ·have hab:absI tc = -tc:=if_pos hc
      rw [hab] at h1
      have hs2:=numT_size (n:=-tc) (by unfold InR; omega)
      have hq0:¬ 9223372036854775807<s.size+3:=by omega
      have hq1:¬ 9223372036854775807<s.size+3+(numT (-tc)).size:=by omega
      have hq2:¬ 9223372036854775807<s.size+3+(numT (-tc)).size+1:=by omega
      have hq3:¬ 9223372036854775807<s.size+3+(numT (-tc)).size+1+1:=by omega
      have hq4:¬ 9223372036854775807<s.size+3+(numT (-tc)).size+1+1+(numT tv).size:=by omega
      have HZ:=bH (show termT k t=⟨#[45,32]⟩++(numT (-tc)++⟨#[32]⟩++(⟨#[120]⟩++numT tv)) from by unfold termT yT xT; rw [HV.out.1,HV.out.2]; rw [if_neg hk0]; rw [if_pos (by omega)]; rw [if_neg (by rw [hab]; exact h1)]; rw [hab])
      go_wp2_with (go_at_call 52; (first | ((with_reducible refine (HNu.out wr (-tc) (by omega) (by omega)).mono ?_); rintro q1 w11 ⟨rfl,hx11⟩; replace e0:=cell_keep e0 hx11) | ((with_reducible refine (HNu.out _ tv (by omega) (by omega)).mono ?_); rintro q2 w12 ⟨rfl,hx12⟩)))
      go_roundg (n - (k+1))
      case measure=>omega
      case rel=>exact ⟨k+1,(s++⟨#[32,45,32]⟩)++numT (-tc)++⟨#[32]⟩++⟨#[120]⟩++numT tv,by omega,rfl,rfl,by go_num,by rw [HSn.out,HZ.out,<- HR.out.1]; apply ByteArray.ext; apply Array.ext'; simp,by simp only [ByteArray.size_append]; skip; have hl3:(⟨#[45]⟩:ByteArray).size=1:=rfl; have hl4:(⟨#[32]⟩:ByteArray).size=1:=rfl; have hl5:(⟨#[120]⟩:ByteArray).size=1:=rfl; have hl6:(⟨#[32,45,32]⟩:ByteArray).size=3:=rfl; have hl7:(⟨#[32,43,32]⟩:ByteArray).size=3:=rfl; omega,fun _=>by simp only [ByteArray.size_append]; have hl5:(⟨#[120]⟩:ByteArray).size=1:=rfl; omega,(HR.out.2.trans hx11).trans hx12⟩
    ·by_cases h1:absI tc=1
     ·have hab:absI tc=tc:=if_neg hc
      rw [hab] at h1
      subst h1
      have hq0:¬ 9223372036854775807<s.size+3:=by omega
      have hq1:¬ 9223372036854775807<s.size+3+1:=by omega
      have hq2:¬ 9223372036854775807<s.size+3+1+(numT tv).size:=by omega
      have HZ:=bH (show termT k t=⟨#[43,32]⟩++((⟨#[120]⟩++numT tv)) from by unfold termT yT xT; rw [HV.out.1,HV.out.2]; rw [if_neg hk0]; rw [if_neg (by decide)]; rw [if_pos (by decide)])
      go_wp2_with (go_at_call 52; (first | ((with_reducible refine (HNu.out _ tv (by omega) (by omega)).mono ?_); rintro q2 w12 ⟨rfl,hx12⟩)))
      go_roundg (n - (k+1))
      case measure=>omega
      case rel=>exact ⟨k+1,(s++⟨#[32,43,32]⟩)++⟨#[120]⟩++numT tv,by omega,rfl,rfl,by go_num,by rw [HSn.out,HZ.out,<- HR.out.1]; apply ByteArray.ext; apply Array.ext'; simp,by simp only [ByteArray.size_append]; skip; have hl3:(⟨#[45]⟩:ByteArray).size=1:=rfl; have hl4:(⟨#[32]⟩:ByteArray).size=1:=rfl; have hl5:(⟨#[120]⟩:ByteArray).size=1:=rfl; have hl6:(⟨#[32,45,32]⟩:ByteArray).size=3:=rfl; have hl7:(⟨#[32,43,32]⟩:ByteArray).size=3:=rfl; omega,fun _=>by simp only [ByteArray.size_append]; have hl5:(⟨#[120]⟩:ByteArray).size=1:=rfl; omega,HR.out.2.trans hx12⟩
     ·have hab:absI tc=tc:=if_neg hc
      rw [hab] at h1
      have hs2:=numT_size (n:=tc) (by unfold InR; omega)
      have hq0:¬ 9223372036854775807<s.size+3:=by omega
      have hq1:¬ 9223372036854775807<s.size+3+(numT (tc)).size:=by omega
      have hq2:¬ 9223372036854775807<s.size+3+(numT (tc)).size+1:=by omega
      have hq3:¬ 9223372036854775807<s.size+3+(numT (tc)).size+1+1:=by omega
      have hq4:¬ 9223372036854775807<s.size+3+(numT (tc)).size+1+1+(numT tv).size:=by omega
      have HZ:=bH (show termT k t=⟨#[43,32]⟩++(numT (tc)++⟨#[32]⟩++(⟨#[120]⟩++numT tv)) from by unfold termT yT xT; rw [HV.out.1,HV.out.2]; rw [if_neg hk0]; rw [if_neg (by omega)]; rw [if_neg (by rw [hab]; exact h1)]; rw [hab])
      go_wp2_with (go_at_call 52; (first | ((with_reducible refine (HNu.out wr (tc) (by omega) (by omega)).mono ?_); rintro q1 w11 ⟨rfl,hx11⟩; replace e0:=cell_keep e0 hx11) | ((with_reducible refine (HNu.out _ tv (by omega) (by omega)).mono ?_); rintro q2 w12 ⟨rfl,hx12⟩)))
      go_roundg (n - (k+1))
      case measure=>omega
      case rel=>exact ⟨k+1,(s++⟨#[32,43,32]⟩)++numT (tc)++⟨#[32]⟩++⟨#[120]⟩++numT tv,by omega,rfl,rfl,by go_num,by rw [HSn.out,HZ.out,<- HR.out.1]; apply ByteArray.ext; apply Array.ext'; simp,by simp only [ByteArray.size_append]; skip; have hl3:(⟨#[45]⟩:ByteArray).size=1:=rfl; have hl4:(⟨#[32]⟩:ByteArray).size=1:=rfl; have hl5:(⟨#[120]⟩:ByteArray).size=1:=rfl; have hl6:(⟨#[32,45,32]⟩:ByteArray).size=3:=rfl; have hl7:(⟨#[32,43,32]⟩:ByteArray).size=3:=rfl; omega,fun _=>by simp only [ByteArray.size_append]; have hl5:(⟨#[120]⟩:ByteArray).size=1:=rfl; omega,(HR.out.2.trans hx11).trans hx12⟩
  ·obtain rfl:n=k:=by omega
   by_cases h0:n=0
   ·subst h0
    have hts:ts=[]:=List.eq_nil_of_length_eq_zero HN.out
    obtain rfl:s=⟨#[]⟩:=HR.out.1
    clear hp hz
    go_wp2
    go_ret
    exact ⟨by rw [hts]; rfl,HR.out.2⟩
   ·have hne:¬ s=⟨#[]⟩:=fun e=>by
     have h:=hp (by omega)
     rw [e] at h
     exact absurd h (by decide)
    have he2:s.toList.isEmpty=false:=by
     have h:=(Lib.bytes_beq_false_iff s ⟨#[]⟩).2 hne
     rcases hh:s.toList with _ | ⟨a,l⟩
     ·exact absurd h (by simp [hh])
     ·rfl
    clear hp hz hne
    go_wp2
    go_ret
    exact ⟨by unfold termsT; rw [if_neg (fun e=>h0 (by rw [<- HN.out,e]; rfl)),HN.out]; show Ending.returned (.string s)=_; rw [HR.out.1]; rfl,HR.out.2⟩
theorem Valid4_any (w:World) (pv:Value) (p:ProgV) (hp:IsPrg w pv p) :
  Calls Tryz.prog 11 #[pv] w (BoolPost w (validB p)):=by
 obtain ⟨vv,rv,rfl,hv,hr⟩:=hp
 obtain ⟨vo,vc,rfl,-,hnv,-⟩:=hv.shape
 obtain ⟨ro,rc,rfl,-,hnr,-⟩:=hr.shape
 have HV:=bH (bI hv hr)
 clear hv hr
 obtain ⟨n,hn'⟩:∃ n,p.vars.length=n:=⟨_,rfl⟩
 obtain ⟨m,hm'⟩:∃ m,p.rows.length=m:=⟨_,rfl⟩
 have HN:=bH (bI hn' hm')
 have HR:=bH (show validB p=(decide (n<=400) && decide (m<=4000) && p.vars.all varB && p.rows.all (rowB n)) from by unfold validB; rw [hn',hm'])
 rw [hn'] at hnv ⊢ HV
 rw [hm'] at hnr ⊢ HV
 clear hn' hm'
 have HB:=bH (bI (blk_alloc_at w (.cells #[.slice vo n vc,.slice ro m rc] 25)) ((Ext.refl (fun _=>False) w).alloc (.cells #[.slice vo n vc,.slice ro m rc] 25)))
 go_enter Tryz.func11,Tryz.ntmps11
 go_upto_region 1 with fail
 generalize hw1:w.alloc (.cells #[.slice vo n vc,.slice ro m rc] 25)=w1 at *
 clear hw1
 obtain ⟨pb,hpb⟩:∃ pb,w.heap.size=pb:=⟨_,rfl⟩
 rw [hpb] at HB ⊢
 clear hpb
 have z0:=cellq HB.out.1 0 rfl
 have z1:=cellq HB.out.1 1 rfl
 by_cases c1:400<n
 ·have c1':(400:Int)<(n:Int):=by omega
  go_wp2
  go_ret
  exact ⟨ret_bool (by rw [HR.out,decide_eq_false (p:=(n<=400)) (by omega)]; simp),HB.out.2⟩
 have c1':¬ (400:Int)<(n:Int):=by omega
 by_cases c2:4000<m
 ·have c2':(4000:Int)<(m:Int):=by omega
  go_wp2
  go_ret
  exact ⟨ret_bool (by rw [HR.out,decide_eq_false (p:=(m<=4000)) (by omega)]; simp),HB.out.2⟩
 have c2':¬ (4000:Int)<(m:Int):=by omega
 have HR2:Hid (validB p=(p.vars.all varB && p.rows.all (rowB n))):=bH (by rw [HR.out,decide_eq_true (p:=(n<=400)) (by omega),decide_eq_true (p:=(m<=4000)) (by omega)]; simp)
 clear HR
 go_wp2_with fail
 go_loopg [3,4] n (fun gg v3 v4 wr=>∃ i:Nat,i<=n/\gg=n - i/\v3=.int .i64 i/\(p.vars.take i).all varB=true/\(wr.cell? ⟨pb,0,none⟩=some (.slice vo n vc)/\wr.cell? ⟨pb,1,none⟩=some (.slice ro m rc))/\XF w wr)
 case atStart=>exact ⟨0,Nat.zero_le _,rfl,rfl,rfl,⟨z0,z1⟩,HB.out.2⟩
 case round =>
  clear z0 z1
  obtain ⟨i,hi,rfl,rfl,hall,⟨z0,z1⟩,hx⟩:=hrel
  have HX:=bH (bI hall (bI hx (bI z0 z1)))
  clear hall
  by_cases hin:i<n
  ·have i0:(i:Int)<(n:Int):=by omega
   have i1:(0:Int)<=(i:Int):=by omega
   have HI:Hid (i<p.vars.length):=bH (by rw [HN.out.1]; exact hin)
   obtain ⟨b,off,rfl,-,e0,e1,e2,e3,e4,-⟩:=(HV.out.1.keep HX.out.2.1).atp i HI.out
   have hb1:=BoxV.new wr (p.v i)
   have hx1:=(Ext.refl (fun _=>False) wr).alloc (.cells #[.int .i64 (p.v i).lo,.int .i64 (p.v i).up,.bool (p.v i).op,.bool (p.v i).ig,.int .i64 (p.v i).co] 57)
   have HB1:=bH (bI hb1 hx1)
   have HVB:=bH (show varB (p.vars.getD i var0)=(limB (p.v i).lo && limB (p.v i).up && limB (p.v i).co && !((p.v i).op && !decide ((p.v i).up=0))) from rfl)
   clear hb1 hx1 hx
   go_upto_region 7 with fail
   generalize hw2:wr.alloc (.cells #[.int .i64 (p.v i).lo,.int .i64 (p.v i).up,.bool (p.v i).op,.bool (p.v i).ig,.int .i64 (p.v i).co] 57)=w2 at *
   clear hw2 e0 e1 e2 e3 e4 z0 z1
   obtain ⟨vb,hvb⟩:∃ vb,wr.heap.size=vb:=⟨_,rfl⟩
   rw [hvb] at HB1 ⊢
   clear hvb
   generalize p.v i=vv at *
   obtain ⟨lo,up,o,ig,co⟩:=vv
   dsimp only at HVB
   have f0:w2.cell? ⟨vb,0,none⟩=some (.int .i64 lo):=HB1.out.1.facts.1
   go_wp2_with fail
   refine (inn_any _ _).mono ?_
   rintro r3 w3 ⟨rfl,hx3⟩
   have HB3:=bH (bI (HB1.out.1.keep hx3) (HB1.out.2.trans hx3))
   clear hx3 HB1 f0
   cases hl:limB lo with
   | false =>
    rw [hl] at HVB
    go_wp2
    go_ret
    exact ⟨ret_bool (by rw [HR2.out,all_fails (d:=var0) HI.out (HVB.out.trans rfl)]; rfl),HX.out.2.1.trans HB3.out.2⟩
   | true =>
   rw [hl] at HVB
   clear hl
   have f1:w3.cell? ⟨vb,1,none⟩=some (.int .i64 up):=HB3.out.1.facts.2.1
   go_wp2_with fail
   refine (inn_any _ _).mono ?_
   rintro r4 w4 ⟨rfl,hx4⟩
   have HB4:=bH (bI (HB3.out.1.keep hx4) (HB3.out.2.trans hx4))
   clear hx4 HB3 f1
   cases hl:limB up with
   | false =>
    rw [hl] at HVB
    go_wp2
    go_ret
    exact ⟨ret_bool (by rw [HR2.out,all_fails (d:=var0) HI.out (HVB.out.trans rfl)]; rfl),HX.out.2.1.trans HB4.out.2⟩
   | true =>
   rw [hl] at HVB
   clear hl
   have f4:w4.cell? ⟨vb,4,none⟩=some (.int .i64 co):=HB4.out.1.facts.2.2.2.2
   go_wp2_with fail
   refine (inn_any _ _).mono ?_
   rintro r5 w5 ⟨rfl,hx5⟩
   have HB5:=bH (bI (HB4.out.1.keep hx5) (HB4.out.2.trans hx5))
   clear hx5 HB4 f4
   cases hl:limB co with
   | false =>
    rw [hl] at HVB
    go_wp2
    go_ret
    exact ⟨ret_bool (by rw [HR2.out,all_fails (d:=var0) HI.out (HVB.out.trans rfl)]; rfl),HX.out.2.1.trans HB5.out.2⟩
   | true =>
   rw [hl] at HVB
   clear hl
   have f1:w5.cell? ⟨vb,1,none⟩=some (.int .i64 up):=HB5.out.1.facts.2.1
   have f2:w5.cell? ⟨vb,2,none⟩=some (.bool o):=HB5.out.1.facts.2.2.1
   have HZ:=bH (bI (cell_keep HX.out.2.2.1 HB5.out.2) (cell_keep HX.out.2.2.2 HB5.out.2))
   cases o with
   | false =>
    go_wp2
    go_roundg (n - (i+1))
    case measure=>omega
    case rel=>exact ⟨i+1,by omega,rfl,by go_num,all_next (d:=var0) HI.out HX.out.1 (HVB.out.trans rfl),HZ.out,HX.out.2.1.trans HB5.out.2⟩
   | true =>
    by_cases hu:up=0
    ·have HVB':=bH (HVB.out.trans (show _=true by rw [decide_eq_true hu]; rfl))
     clear HVB
     subst hu
     go_wp2
     go_roundg (n - (i+1))
     case measure=>omega
     case rel=>exact ⟨i+1,by omega,rfl,by go_num,all_next (d:=var0) HI.out HX.out.1 HVB'.out,HZ.out,HX.out.2.1.trans HB5.out.2⟩
    ·have hu':(up == 0)=false:=by simpa using hu
     have hu2:(up != 0)=true:=by simpa using hu
     have HVB':=bH (HVB.out.trans (show _=false by rw [decide_eq_false hu]; rfl))
     clear HVB
     go_wp2
     go_ret
     exact ⟨ret_bool (by rw [HR2.out,all_fails (d:=var0) HI.out HVB'.out]; rfl),HX.out.2.1.trans HB5.out.2⟩
  ·obtain rfl:n=i:=by omega
   have HF:Hid (validB p=p.rows.all (rowB n)):=bH (by
    have:=HX.out.1
    rw [List.take_of_length_le (by rw [HN.out.1]; exact Nat.le_refl _)] at this
    rw [HR2.out,this]; rfl)
   clear HR2 hi hin hx
   have HVr:=bH (HV.out.2.keep HX.out.2.1)
   have HRow:=bH (fun W (hW:XF w W) (i:Nat) (hi:i<p.rows.length) ta tc (hok:RowOk (p.r i)) (ht:Tms w (.slice ta (p.r i).terms.length tc) (p.r i).terms)=>ValidRow_any W n (by omega) (p.r i) ta tc hok (ht.keep hW))
   go_wp2_with fail
   go_loopg [5] m (fun gg v5 wr=>∃ i:Nat,i<=m/\gg=m - i/\v5=.int .i64 i/\(p.rows.take i).all (rowB n)=true/\(wr.cell? ⟨pb,0,none⟩=some (.slice vo n vc)/\wr.cell? ⟨pb,1,none⟩=some (.slice ro m rc))/\XF w wr)
   case atStart=>exact ⟨0,Nat.zero_le _,rfl,rfl,rfl,HX.out.2.2,HX.out.2.1⟩
   case round =>
    clear z0 z1 HX HVr
    obtain ⟨i,hi,rfl,rfl,hall,⟨z0,z1⟩,hx⟩:=hrel
    have HX:=bH (bI hall (bI hx (bI z0 z1)))
    clear hall
    by_cases hin:i<m
    ·have i0:(i:Int)<(m:Int):=by omega
     have i1:(0:Int)<=(i:Int):=by omega
     have HI:Hid (i<p.rows.length):=bH (by rw [HN.out.2]; exact hin)
     obtain ⟨b,off,ta,tc,rfl,-,e0,e1,e2,e3,e4,hrok,htm⟩:=HV.out.2.atp i HI.out
     replace e0:=cell_keep e0 hx
     replace e1:=cell_keep e1 hx
     replace e2:=cell_keep e2 hx
     replace e3:=cell_keep e3 hx
     replace e4:=cell_keep e4 hx
     have HH:=bH (fun W (hW:XF w W)=>HRow.out W hW i HI.out ta tc hrok htm)
     clear hrok htm
     obtain ⟨hb,hhb⟩:∃ hb,rowB n (p.r i)=hb:=⟨_,rfl⟩
     have HHB:=bH hhb
     rw [hhb] at HH
     clear hhb
     generalize (p.r i).terms.length=tl at *
     generalize (p.r i).name=nm at *
     generalize (p.r i).group=gr at *
     generalize (p.r i).kind=k at *
     generalize (p.r i).bound=bd at *
     have hS:S7 pb pb b b b b b 0 1 (off+i*5) (off+i*5+1) (off+i*5+2) (off+i*5+3) (off+i*5+4) (.slice vo n vc) (.slice (some ⟨b,off,none⟩) m rc) (.string nm) (.int .i64 gr) (.int .i64 k) (.slice ta tl tc) (.int .i64 bd) wr:=⟨z0,z1,e0,e1,e2,e3,e4⟩
     have hxw:=hx
     clear z0 z1 e0 e1 e2 e3 e4 hx
     go_upto_region 12 with fail
     refine wp_region_held_drew (S:=(S7 pb pb b b b b b 0 1 (off+i*5) (off+i*5+1) (off+i*5+2) (off+i*5+3) (off+i*5+4) (.slice vo n vc) (.slice (some ⟨b,off,none⟩) m rc) (.string nm) (.int .i64 gr) (.int .i64 k) (.slice ta tl tc) (.int .i64 bd))) (by kernel_rfl) (hS.drew) (fun hHeld=>?_)
     refine ht 0 (h:=?_)
     (try go_frame)
     refine ht 1 (h:=?_)
     (try go_frame)
     refine ht 2 (h:=?_)
     (try go_frame)
     refine ht 3 (h:=?_)
     (try go_frame)
     refine ht 4 (h:=?_)
     (try go_frame)
     refine ht 5 (h:=?_)
     (try go_frame)
     refine ht 6 (h:=?_)
     (try go_frame)
     refine ht 7 (h:=?_)
     (try go_frame)
     refine held_step 8 rfl (by kernel_rfl) (fun K hK=>?_)
     (go_simp; go_at_call 48; (with_reducible refine (HH.out _ (hxw.drew)).mono ?_); rintro q1 w11 ⟨rfl,hx11⟩; have hX1:=(Ext.refl (fun _=>False) wr).drew.trans hx11; have hK1:=hS.keep hX1)
     refine hK.out _ _ (hK1) (fun hHeld=>?_)
     clear hK K
     (try go_frame)
     refine ht 9 (h:=?_)
     (try go_frame)
     refine wpAnyH_done (by kernel_rfl) ?_ _
     have y0:=hK1.1
     have y1:=hK1.2.1
     have HXa:=bH (bI (HX.out.2.1.trans hX1) (bI y0 y1))
     clear hX1 hK1 hS hx11 hxw hHeld y0 y1
     cases hb with
     | true =>
      go_wp2
      go_roundg (m - (i+1))
      case measure=>omega
      case rel=>exact ⟨i+1,by omega,rfl,by go_num,all_next (d:=row0) HI.out HX.out.1 HHB.out,HXa.out.2,HXa.out.1⟩
     | false =>
      go_wp2
      go_ret
      exact ⟨ret_bool (by rw [HF.out,all_fails (d:=row0) HI.out HHB.out]),HXa.out.1⟩
    ·obtain rfl:i=m:=by omega
     have HG:Hid (validB p=true):=bH (by
      have:=HX.out.1
      rw [List.take_of_length_le (by rw [HN.out.2]; exact Nat.le_refl _)] at this
      rw [HF.out,this])
     go_wp2
     go_ret
     exact ⟨ret_bool (by rw [HG.out]),HX.out.2.1⟩
theorem termsB_var {n:Int}:∀ {l:List TermV} {last:Int},termsB n last l=true->∀ t ∈ l,last<t.var/\t.var<n
 | [],_,_,t,ht=>by cases ht
 | u :: l,last,h,t,ht=>by
  unfold termsB at h
  simp only [Bool.and_eq_true,decide_eq_true_eq] at h
  rcases List.mem_cons.1 ht with rfl | ht
  ·exact ⟨h.1.1.1.1,h.1.1.1.2⟩
  ·have h2:=termsB_var h.2 t ht
   have h3:=h.1.1.1.1
   exact ⟨by omega,h2.2⟩
theorem limB_in {n:Int} (h:limB n=true):-1099511627776<=n/\n<=1099511627776:=by
 unfold limB at h
 simpa using h
theorem Format4_any (w:World) (pv:Value) (p:ProgV) (hp:IsPrg w pv p) (hT:∀ i,i<p.rows.length->(p.r i).terms.length<=1000):Calls Tryz.prog 14 #[pv] w (StrsPost w (fmtT p)):=by
 obtain ⟨vo,vn,vc,ro,rn,rc,rfl⟩:=hp.slices5
 have HLn:=bH (show p.vars.length=vn/\p.rows.length=rn from by
  obtain ⟨vv,rv,e,h,h2⟩:=hp
  cases e
  obtain ⟨_,_,e,_⟩:=h.shape
  obtain ⟨_,_,e2,_⟩:=h2.shape
  cases e; cases e2
  exact ⟨rfl,rfl⟩)
 have hxa:=(Ext.refl (fun _=>False) w).alloc (.cells #[.slice vo vn vc,.slice ro rn rc] 25)
 have hxb:=(Ext.refl (fun _=>False) (w.alloc (.cells #[.slice vo vn vc,.slice ro rn rc] 25))).alloc (.cells #[] 9)
 have hob:blk ((w.alloc (.cells #[.slice vo vn vc,.slice ro rn rc] 25)).alloc (.cells #[] 9)) (w.heap.size+1)=some (.cells #[] 9 (0,0)):=by
  have h:=blk_alloc_at (w.alloc (.cells #[.slice vo vn vc,.slice ro rn rc] 25)) (.cells #[] 9)
  rwa [World.size_alloc] at h
 have HB:=bH (bI (blk_keep (blk_alloc_at w (.cells #[.slice vo vn vc,.slice ro rn rc] 25)) hxb) (bI (show SRow _ (w.heap.size+1) (.slice (some ⟨w.heap.size+1,0,none⟩) 0 0) [] from ownsRow_empty 1 (Nat.le_refl _) hob) (hxa.trans hxb)))
 have HTm:=bH hT
 have HPw:=bH (fun W (hW:XF w W)=>hp.keep hW)
 clear hp hxa hxb hob hT
 go_enter Tryz.func14,Tryz.ntmps14
 go_upto_region 2 with fail
 generalize (w.alloc (.cells #[.slice vo vn vc,.slice ro rn rc] 25)).alloc (.cells #[] 9)=w1 at *
 obtain ⟨pb,hpb⟩:∃ q,w.heap.size=q:=⟨_,rfl⟩
 rw [hpb] at HB ⊢
 have HPb:=bH hpb
 clear hpb
 have p0:=cellq HB.out.1 0 rfl
 have p1:=cellq HB.out.1 1 rfl
 have HVa:=bH (Valid4_any w1 (.agg #[.slice vo vn vc,.slice ro rn rc]) p (HPw.out _ HB.out.2.2))
 obtain ⟨vb,hvb⟩:∃ vb,validB p=vb:=⟨_,rfl⟩
 rw [hvb] at HVa
 have HVb:=bH hvb
 clear hvb
 cases vb with
 | false =>
  go_wp2_with (go_at_call 11; refine HVa.out.mono ?_; rintro q2 w2 ⟨rfl,hx2⟩)
  go_ret
  exact ⟨_,rfl,by unfold fmtT; rw [HVb.out]; exact (HB.out.2.1.keep hx2).strs,HB.out.2.2.trans hx2⟩
 | true =>
 have HFm:=bH (show fmtT p=varsT p vn++rowsT p rn from by unfold fmtT; rw [HVb.out,HLn.out.1,HLn.out.2]; rfl)
 have hnm:=HVb.out
 unfold validB at hnm
 simp only [Bool.and_eq_true,decide_eq_true_eq] at hnm
 have hn4:vn<=400:=by have:=hnm.1.1.1; have:=HLn.out.1; omega
 have hm4:rn<=4000:=by have:=hnm.1.1.2; have:=HLn.out.2; omega
 clear hnm
 rw [HFm.out]
 go_upto_region 5 with (go_at_call 11; refine HVa.out.mono ?_; rintro q2 w2 ⟨rfl,hx2⟩; replace p0:=cell_keep p0 hx2; replace p1:=cell_keep p1 hx2)
 have HM:=bH (bI (blk_keep HB.out.1 hx2) (bI (HB.out.2.1.keep hx2) (HB.out.2.2.trans hx2)))
 clear hx2 HVa HB
 go_wp2_with fail
 go_loopg [3,4,5,6,7] vn (fun gg v3 v4 v5 v6 v7 wr=>∃ (k:Nat) (v:Value),k<=vn/\gg=vn - k/\v4=.int .i64 k/\v=v3/\SRow wr (w.heap.size+1) v (varsT p k)/\XF w wr/\blk wr pb=some (.cells #[.slice vo vn vc,.slice ro rn rc] 25 (0,0)))
 case atStart=>exact ⟨0,_,Nat.zero_le _,rfl,rfl,rfl,by rw [HPb.out]; exact HM.out.2.1,HM.out.2.2,HM.out.1⟩
 case round =>
  clear p0 p1 HM
  obtain ⟨i,v,hi,rfl,rfl,rfl,hs,hx,hpk⟩:=hrel
  have HM0:=bH (bI hs (bI hx hpk))
  have p0:=cellq hpk 0 rfl
  have p1:=cellq hpk 1 rfl
  clear hs hx hpk
  by_cases hin:i<vn
  ·have i0:(i:Int)<(vn:Int):=by omega
   have i1:(0:Int)<=(i:Int):=by omega
   have hVs:Vrs wr (.slice vo vn vc) p.vars:=by
    obtain ⟨vv,rv,e,h,h2⟩:=HPw.out _ HM0.out.2.1
    cases e
    exact h
   have hil:i<p.vars.length:=by rw [HLn.out.1]; exact hin
   obtain ⟨b,off,rfl,-,e0,e1,e2,e3,e4,-⟩:=hVs.atp i hil
   clear hVs
   have hvB:=valid_var HVb.out hil
   obtain ⟨x,hxv⟩:∃ x,p.v i=x:=⟨_,rfl⟩
   have HNx:=bH (varsT_next p i)
   rw [hxv] at e0 e1 e2 e3 e4 hvB HNx
   clear hxv hil
   obtain ⟨lo,up,op,ig,co⟩:=x
   dsimp only at e0 e1 e2 e3 e4
   unfold varB at hvB
   simp only [Bool.and_eq_true] at hvB
   have hl1:=limB_in hvB.1.1.1
   have hl2:=limB_in hvB.1.1.2
   have hl3:=limB_in hvB.1.2
   (try dsimp only at hl1 hl2 hl3)
   clear hvB
   have hxa:=(Ext.refl (fun _=>False) wr).alloc (.cells #[.int .i64 lo,.int .i64 up,.bool op,.bool ig,.int .i64 co] 57)
   have HA:=bH (bI (blk_alloc_at wr (.cells #[.int .i64 lo,.int .i64 up,.bool op,.bool ig,.int .i64 co] 57)) (bI (HM0.out.1.keep hxa) (bI (HM0.out.2.1.trans hxa) (blk_keep HM0.out.2.2 hxa))))
   clear hxa
   go_upto_region 8 with fail
   generalize wr.alloc (.cells #[.int .i64 lo,.int .i64 up,.bool op,.bool ig,.int .i64 co] 57)=w4 at *
   generalize wr.heap.size=xb at *
   clear e0 e1 e2 e3 e4 HM0 p0 p1
   have e0:=cqo (S:=fun _=>False) (cellq HA.out.1 0 rfl) id
   have ha1:=numT_size (n:=(i:Int)) (by unfold InR; omega)
   have ha2:=numT_size (n:=lo) (by unfold InR; omega)
   have ha3:=numT_size (n:=up) (by unfold InR; omega)
   have ha4:=numT_size (n:=co) (by unfold InR; omega)
   have hz0:¬ 9223372036854775807<1+(numT i).size:=by omega
   have hz1:¬ 9223372036854775807<1+(numT i).size+5:=by omega
   have hz2:¬ 9223372036854775807<1+(numT i).size+5+(numT lo).size:=by omega
   have hz3:¬ 9223372036854775807<1+(numT i).size+5+(numT lo).size+2:=by omega
   have HNi:=bH (fun W=>Number4_any W (i:Int) (by omega) (by omega))
   have HNl:=bH (fun W=>Number4_any W lo (by omega) (by omega))
   have HNu:=bH (fun W=>Number4_any W up (by omega) (by omega))
   have HNc:=bH (fun W=>Number4_any W co (by omega) (by omega))
   refine wp_region_held_drew (S:=(XF w4)) (by kernel_rfl) ((Ext.refl _ w4).drew) (fun hHeld=>?_)
   refine ht 0 (h:=(ht 4 (h:=(ht 5 (h:=?_)))))
   (try go_frame)
   refine hst 1 (h:=fun K hK=>?_)
   (go_simp; go_at_call 52; (with_reducible refine (HNi.out _).mono ?_); rintro q1 w11 ⟨rfl,hx11⟩; have hX11:=hHeld.trans hx11)
   refine hK.out _ _ (hX11) (fun hHeld=>?_)
   clear hK K
   (try go_frame)
   refine ht 2 (h:=(ht 3 (h:=?_)))
   (try go_frame)
   refine hst 6 (h:=fun K hK=>?_)
   (go_simp; go_at_call 52; (with_reducible refine (HNl.out _).mono ?_); rintro q2 w12 ⟨rfl,hx12⟩; have hX12:=hX11.trans hx12)
   refine hK.out _ _ (hX12) (fun hHeld=>?_)
   clear hK K
   (try go_frame)
   refine ht 7 (h:=(ht 8 (h:=(ht 9 (h:=?_)))))
   (try go_frame)
   refine wpAnyH_done (by kernel_rfl) ?_ _
   have HA2:=bH (bI (blk_keep HA.out.1 hX12) (bI (HA.out.2.1.keep hX12) (bI (HA.out.2.2.1.trans hX12) (blk_keep HA.out.2.2.2 hX12))))
   clear hz0 hz1 hz2 hz3 e0 hx11 hX11 hx12 hX12 hHeld HA
   obtain ⟨s1,hs1⟩:∃ s,(⟨#[120]⟩++numT i++⟨#[32,105,110,32,91]⟩++numT lo++⟨#[44,32]⟩:ByteArray)=s:=⟨_,rfl⟩
   have hq1:s1.size<=60:=by rw [<- hs1]; simp only [ByteArray.size_append]; have g1:(⟨#[120]⟩:ByteArray).size=1:=rfl; have g2:(⟨#[32,105,110,32,91]⟩:ByteArray).size=5:=rfl; have g3:(⟨#[44,32]⟩:ByteArray).size=2:=rfl; omega
   rw [hs1]
   have HS1:=bH hs1
   clear hs1
   have e1:=cellq HA2.out.1 1 rfl
   have e2:=cellq HA2.out.1 2 rfl
   have hz0:¬ 9223372036854775807<s1.size+5:=by omega
   have hz1:¬ 9223372036854775807<s1.size+(numT up).size:=by omega
   have hz2:¬ 9223372036854775807<s1.size+(numT up).size+1:=by omega
   go_upto_if 37 with fail
   go_cut [6] (fun v6 wx=>v6=.string (s1++upT ⟨lo,up,op,ig,co⟩)/\XF w12 wx)
   case first =>
    cases op
    ·have HC:=bH (show s1++numT up++⟨#[93]⟩=s1++upT ⟨lo,up,false,ig,co⟩ from by show _=s1++(numT up++⟨#[93]⟩); apply ByteArray.ext; apply Array.ext'; simp)
     go_wp2_with (go_at_call 52; refine (HNu.out _).mono ?_; rintro q3 w13 ⟨rfl,hx13⟩)
     go_meet
     exact ⟨by rw [<- HC.out],hx13⟩
    ·have HC:=bH (show s1++⟨#[111,112,101,110,41]⟩=s1++upT ⟨lo,up,true,ig,co⟩ from rfl)
     go_wp2
     go_meet
     exact ⟨by rw [<- HC.out],Ext.refl _ _⟩
   case rest =>
   obtain ⟨rfl,hcx⟩:=hcut
   have HA3:=bH (bI (blk_keep HA2.out.1 hcx) (bI (HA2.out.2.1.keep hcx) (bI (HA2.out.2.2.1.trans hcx) (blk_keep HA2.out.2.2.2 hcx))))
   clear hcx e1 e2 hz0 hz1 hz2 HA2
   have hu1:=upT_size (v:=⟨lo,up,op,ig,co⟩) (by unfold InR; dsimp only; omega)
   have hk1:=kindT_size ⟨lo,up,op,ig,co⟩
   obtain ⟨us,hus⟩:∃ s,upT ⟨lo,up,op,ig,co⟩=s:=⟨_,rfl⟩
   rw [hus] at hu1 ⊢
   have e3:=cellq HA3.out.1 3 rfl
   obtain ⟨wd,rfl⟩:∃ x,x=wc:=⟨_,rfl⟩
   go_upto_if 47 with fail
   go_cut [7] (fun v7 wx=>v7=.string (⟨#[32]⟩++kindT ⟨lo,up,op,ig,co⟩)/\wx=wd)
   case first =>
    cases ig
    ·go_wp2
     go_meet
     exact ⟨rfl,rfl⟩
    ·go_wp2
     go_meet
     exact ⟨rfl,rfl⟩
   case rest =>
   obtain ⟨rfl,rfl⟩:=hcut
   obtain ⟨ks,hks⟩:∃ s,kindT ⟨lo,up,op,ig,co⟩=s:=⟨_,rfl⟩
   have HU:=bH (show varT i ⟨lo,up,op,ig,co⟩=s1++us++(⟨#[32]⟩++ks)++⟨#[32,99,111,115,116,32]⟩++numT co from by unfold varT; rw [hus,hks,<- HS1.out]; apply ByteArray.ext; apply Array.ext'; simp)
   rw [hks] at hk1 ⊢
   clear hus hks e3
   obtain ⟨k2,hk2⟩:∃ s,(⟨#[32]⟩++ks:ByteArray)=s:=⟨_,rfl⟩
   obtain ⟨s2,hs2⟩:∃ s,s1++us=s:=⟨_,rfl⟩
   rw [hk2,hs2] at HU
   have hq2:k2.size<=8:=by rw [<- hk2,ByteArray.size_append]; have g1:(⟨#[32]⟩:ByteArray).size=1:=rfl; omega
   have hq3:s2.size<=90:=by rw [<- hs2,ByteArray.size_append]; omega
   rw [hk2,hs2]
   clear hk2 hs2 hk1 hu1
   have hz0:¬ 9223372036854775807<s2.size+k2.size:=by omega
   have hz1:¬ 9223372036854775807<s2.size+k2.size+6:=by omega
   have hz2:¬ 9223372036854775807<s2.size+k2.size+6+(numT co).size:=by omega
   have e4:=cellq HA3.out.1 4 rfl
   have HLw:=bH HA3.out.2.2.1.size
   have HLo:=bH (fun k (hk:v.ownBlock=some k)=>(World.ownsRow.lt HA3.out.2.1 k hk).1)
   go_wp2_with (first | (go_at_call 52; (with_reducible refine (HNc.out _).mono ?_); rintro q4 w14 ⟨rfl,hx14⟩; have hs14:=hx14.size) | (at_builtin; refine wpList_appS rfl (.tmp 48) (.tmp 57) rfl (w.heap.size+1) v (varsT p i) rfl (HA3.out.2.1.keep (hx14.trans ((Ext.refl (fun _=>False) w14).alloc _))) (s2++k2++⟨#[32,99,111,115,116,32]⟩++numT co) rfl (cellq (blk_alloc_at w14 _) 0 rfl) (by rw [varsT_len]; omega) (by rw [World.size_alloc]; have:=HLw.out; omega) ?_; intro v9 w9 hs9 hx9))
   have hxb:=hx14.trans ((Ext.refl (fun _=>False) w14).alloc (.cells #[.string (s2++k2++⟨#[32,99,111,115,116,32]⟩++numT co)] 9))
   have HF:=bH (bI ((HA3.out.2.2.1.trans hxb).own hx9 (fun k hk=>Nat.le_trans (Nat.le_succ _) (HLo.out k hk))) ((hx9.blk (blk_lt (blk_keep HA3.out.2.2.2 hxb)) (fun e=>by have h1:=HLo.out _ e; have h2:=HPb.out; omega)).trans (blk_keep HA3.out.2.2.2 hxb)))
   rw [<- HU.out,<- HNx.out] at hs9
   clear hx9 hxb hx14
   go_wp2
   go_roundg (vn - (i+1))
   case measure=>omega
   case rel=>exact ⟨i+1,_,by omega,rfl,by go_num,rfl,hs9,HF.out.1,HF.out.2⟩
  ·obtain rfl:vn=i:=by omega
   obtain ⟨wo,rfl⟩:∃ x,x=wr:=⟨_,rfl⟩
   go_upto_region 17 with fail
   go_wp2_with fail
   go_loopg [3,8,9] rn (fun gg v3 v8 v9 wr=>∃ (k:Nat) (v:Value),k<=rn/\gg=rn - k/\v8=.int .i64 k/\v=v3/\SRow wr (w.heap.size+1) v (varsT p vn++rowsT p k)/\XF w wr/\blk wr pb=some (.cells #[.slice vo vn vc,.slice ro rn rc] 25 (0,0)))
   case atStart=>exact ⟨0,_,Nat.zero_le _,rfl,rfl,rfl,by show SRow wo _ _ (varsT p vn++[]); rw [List.append_nil]; exact HM0.out.1,HM0.out.2.1,HM0.out.2.2⟩
   case round =>
    clear p0 p1 HM0 v
    obtain ⟨i,v,hi,rfl,rfl,rfl,hs,hx,hpk⟩:=hrel
    have HM0:=bH (bI hs (bI hx hpk))
    have p0:=cellq hpk 0 rfl
    have p1:=cellq hpk 1 rfl
    clear hs hx hpk
    by_cases hin:i<rn
    ·have i0:(i:Int)<(rn:Int):=by omega
     have i1:(0:Int)<=(i:Int):=by omega
     have hRs:Rws wr (.slice ro rn rc) p.rows:=by
      obtain ⟨vv,rv,e,h,h2⟩:=HPw.out _ HM0.out.2.1
      cases e
      exact h2
     have hil:i<p.rows.length:=by rw [HLn.out.2]; exact hin
     obtain ⟨b,off,ta,tc,rfl,-,e0,e1,e2,e3,e4,-,hT⟩:=hRs.atp i hil
     clear hRs
     have hrB:=valid_row HVb.out hil
     have htl:=HTm.out i hil
     obtain ⟨r,hrv⟩:∃ r,p.r i=r:=⟨_,rfl⟩
     have HNx:=bH (rowsT_next p i)
     rw [hrv] at e0 e1 e2 e3 e4 HNx hT hrB htl
     clear hrv
     obtain ⟨nm,gr,kd,tms,bd⟩:=r
     dsimp only at e0 e1 e2 e3 e4 hT htl
     unfold rowB at hrB
     simp only [Bool.and_eq_true,decide_eq_true_eq] at hrB
     have hnm:nm.size<=80:=hrB.1.1.1.2
     have hg1:0<=gr/\gr<=60:=⟨hrB.1.1.1.1.1.2,hrB.1.1.1.1.2⟩
     have hbd:=limB_in hrB.1.1.2
     (try dsimp only at hbd)
     obtain ⟨k,rfl⟩:∃ k:Nat,kd=k:=⟨kd.toNat,by omega⟩
     have hk2:k<=2:=by omega
     have hcf:∀ t ∈ tms,limB t.coef=true:=fun t ht=>by
      obtain ⟨q,hq,rfl⟩:=List.getElem_of_mem ht
      have:=((termsB_coef hrB.2) q hq)
      rwa [getD_lt hq term0] at this
     have hvf:∀ t ∈ tms,0<=t.var/\t.var<=1000000:=fun t ht=>by
      have h1:=termsB_var hrB.2 t ht
      have h2:=HLn.out.1
      omega
     have hts1:=termsT_size (fun t ht=>(hT.2 t ht).var) hcf
     have htl2:=htl
     obtain ⟨tl,htl'⟩:∃ n,tms.length=n:=⟨_,rfl⟩
     rw [htl'] at e3 hts1 htl hT
     have HTT:=bH (bI hT (bI htl2 (bI hcf hvf)))
     clear htl2
     have hxa:=(Ext.refl (fun _=>False) wr).alloc (.cells #[.string nm,.int .i64 gr,.int .i64 k,.slice ta tl tc,.int .i64 bd] 75)
     have HA:=bH (bI (blk_alloc_at wr (.cells #[.string nm,.int .i64 gr,.int .i64 k,.slice ta tl tc,.int .i64 bd] 75)) (bI (HM0.out.1.keep hxa) (bI (HM0.out.2.1.trans hxa) (bI (fun k hk=>Nat.ne_of_lt (World.ownsRow.lt HM0.out.1 k hk).2:∀ k,v.ownBlock=some k->k≠wr.heap.size) (blk_keep HM0.out.2.2 hxa)))))
     have HTk:=bH (HTT.out.1.keep hxa)
     clear hxa hrB hT hcf hvf
     go_upto_region 20 with fail
     generalize wr.alloc (.cells #[.string nm,.int .i64 gr,.int .i64 k,.slice ta tl tc,.int .i64 bd] 75)=w5 at *
     generalize wr.heap.size=xb at *
     clear e0 e1 e2 e3 e4 HM0 p0 p1
     obtain ⟨sg,hsg⟩:∃ s,signT k=s:=⟨_,rfl⟩
     have hsz:sg.size<=2:=by rw [<- hsg]; exact signT_size k
     obtain ⟨ts,hts⟩:∃ s,termsT tms=s:=⟨_,rfl⟩
     have HU:=bH (show rowT ⟨nm,gr,k,tms,bd⟩=nm++⟨#[32,40]⟩++numT gr++⟨#[41,58,32]⟩++ts++⟨#[32]⟩++sg++⟨#[32]⟩++numT bd from by unfold rowT; rw [hsg,hts])
     rw [hts] at hts1
     have ha1:=numT_size (n:=gr) (by unfold InR; omega)
     have ha3:=numT_size (n:=bd) (by unfold InR; omega)
     have hz0:¬ 9223372036854775807<nm.size+2:=by omega
     have hz1:¬ 9223372036854775807<nm.size+2+(numT gr).size:=by omega
     have hz2:¬ 9223372036854775807<nm.size+2+(numT gr).size+3:=by omega
     have hz3:¬ 9223372036854775807<nm.size+2+(numT gr).size+3+ts.size:=by omega
     have hz4:¬ 9223372036854775807<nm.size+2+(numT gr).size+3+ts.size+1:=by omega
     have hz5:¬ 9223372036854775807<nm.size+2+(numT gr).size+3+ts.size+1+sg.size:=by omega
     have hz6:¬ 9223372036854775807<nm.size+2+(numT gr).size+3+ts.size+1+sg.size+1:=by omega
     have hz7:¬ 9223372036854775807<nm.size+2+(numT gr).size+3+ts.size+1+sg.size+1+(numT bd).size:=by omega
     clear ha1 ha3 hsz hnm hts1
     have HLo:=bH (fun k (hk:v.ownBlock=some k)=>(World.ownsRow.lt HA.out.2.1 k hk).1)
     have HEx:=bH (fun W (hW:Ext (fun k=>v.ownBlock=some k) w5 W)=>(HA.out.2.2.1.own hW (fun k hk=>Nat.le_trans (Nat.le_succ _) (HLo.out k hk)):XF w W))
     have HPx:=bH (fun W (hW:Ext (fun k=>v.ownBlock=some k) w5 W)=>(hW.blk (blk_lt HA.out.2.2.2.2) (fun e=>by have h1:=HLo.out _ e; have h2:=HPb.out; omega)).trans HA.out.2.2.2.2)
     have HNg:=bH (fun W=>Number4_any W gr (by omega) (by omega))
     have HNb:=bH (fun W=>Number4_any W bd (by omega) (by omega))
     have HTs:=bH (fun W (hW:XF w5 W)=>hts ▸ sum4_any W (.slice ta tl tc) tms (HTk.out.keep hW) HTT.out.2.1 HTT.out.2.2.1 HTT.out.2.2.2)
     have HLw:=bH HA.out.2.2.1.size
     have HLw2:=bH (blk_lt HA.out.2.2.2.2)
     have HLl:=bH (show (varsT p vn++rowsT p i).length<=100000 from by rw [List.length_append,varsT_len,rowsT_len]; omega)
     have e0:=cqo (S:=fun k=>v.ownBlock=some k) (cellq HA.out.1 0 rfl) (fun e=>HA.out.2.2.2.1 _ e rfl)
     have e1:=cqo (S:=fun k=>v.ownBlock=some k) (cellq HA.out.1 1 rfl) (fun e=>HA.out.2.2.2.1 _ e rfl)
     have e2:=cqo (S:=fun k=>v.ownBlock=some k) (cellq HA.out.1 2 rfl) (fun e=>HA.out.2.2.2.1 _ e rfl)
     have e3:=cqo (S:=fun k=>v.ownBlock=some k) (cellq HA.out.1 3 rfl) (fun e=>HA.out.2.2.2.1 _ e rfl)
     have e4:=cqo (S:=fun k=>v.ownBlock=some k) (cellq HA.out.1 4 rfl) (fun e=>HA.out.2.2.2.1 _ e rfl)
     simp only [List.getElem_toArray,List.getElem_cons_zero,List.getElem_cons_succ] at e0 e1 e2 e3 e4
     have k3:(k:Int)<3:=by omega
     have k4:(0:Int)<=(k:Int):=by omega
     clear hts
     refine wp_region_held_drew (S:=(Ext (fun k=>v.ownBlock=some k) w5)) (by kernel_rfl) ((Ext.refl _ w5).drew) (fun hHeld=>?_)
     refine ht 0 (h:=(ht 1 (h:=(ht 2 (h:=(ht 3 (h:=(ht 4 (h:=(ht 5 (h:=(ht 9 (h:=(ht 10 (h:=(ht 15 (h:=(ht 16 (h:=(ht 21 (h:=(ht 22 (h:=?_)))))))))))))))))))))))
     (try go_frame)
     refine held_two 6 14 rfl rfl (by kernel_rfl) (fun K hK=>?_) (fun K hK=>?_)
     ·go_simp
      go_at_call 52; (with_reducible refine (HNg.out _).mono ?_); rintro q1 w11 ⟨rfl,hx1⟩
      have hE1:=((Ext.refl (fun _=>False) w5).drew).trans hx1
      have hX1:Ext (fun k=>v.ownBlock=some k) w5 w11:=ext_any hE1 _
      refine hK.out _ _ (hX1) (fun hHeld=>?_)
      clear hK K
      (try go_frame)
      refine ht 7 (h:=(ht 8 (h:=?_)))
      (try go_frame)
      refine held_two 11 14 rfl rfl (by kernel_rfl) (fun K hK=>?_) (fun K hK=>?_)
      ·go_simp
       go_at_call 53; (with_reducible refine (HTs.out _ (hE1)).mono ?_); rintro q2 w12 ⟨rfl,hx2⟩
       have hE2:=(hE1).trans hx2
       have hX2:Ext (fun k=>v.ownBlock=some k) w5 w12:=ext_any hE2 _
       refine hK.out _ _ (hX2) (fun hHeld=>?_)
       clear hK K
       (try go_frame)
       refine ht 12 (h:=(ht 13 (h:=?_)))
       (try go_frame)
       refine held_two 14 23 rfl rfl (by kernel_rfl) (fun K hK=>?_) (fun K hK=>?_)
       ·go_simp
        have hE3:=(hE2).trans ((Ext.refl (fun _=>False) w12).alloc (.cells #[.string ⟨#[60,61]⟩,.string ⟨#[62,61]⟩,.string ⟨#[61]⟩] 9))
        have hBk:=blk_alloc_at w12 (.cells #[.string ⟨#[60,61]⟩,.string ⟨#[62,61]⟩,.string ⟨#[61]⟩] 9)
        generalize w12.alloc (.cells #[.string ⟨#[60,61]⟩,.string ⟨#[62,61]⟩,.string ⟨#[61]⟩] 9)=w13 at *
        generalize w12.heap.size=sb at *
        have hX3:Ext (fun k=>v.ownBlock=some k) w5 w13:=ext_any hE3 _
        refine hK.out _ _ (hX3) (fun hHeld=>?_)
        clear hK K
        (try go_frame)
        refine ht 17 (h:=?_)
        (try go_frame)
        refine held_two 18 23 rfl rfl (by kernel_rfl) (fun K hK=>?_) (fun K hK=>?_)
        ·have e5:=sb_at hBk hk2
         rw [hsg] at e5
         go_simp
         refine hK.out _ _ (hX3) (fun hHeld=>?_)
         clear hK K
         (try go_frame)
         refine ht 19 (h:=(ht 20 (h:=?_)))
         (try go_frame)
         refine hst 23 (h:=fun K hK=>?_)
         go_simp
         go_at_call 52; (with_reducible refine (HNb.out _).mono ?_); rintro q4 w14 ⟨rfl,hx4⟩
         have hE4:=(hE3).trans hx4
         have hX4:Ext (fun k=>v.ownBlock=some k) w5 w14:=ext_any hE4 _
         replace hBk:=blk_keep hBk hx4
         refine hK.out _ _ (hX4) (fun hHeld=>?_)
         clear hK K
         (try go_frame)
         refine ht 24 (h:=?_)
         (try go_frame)
         refine hst 25 (h:=fun K hK=>?_)
         go_simp
         obtain ⟨S,hS⟩:∃ S,nm++⟨#[32,40]⟩++numT gr++⟨#[41,58,32]⟩++ts++⟨#[32]⟩++sg++⟨#[32]⟩++numT bd=S:=⟨_,rfl⟩; rw [hS]; have HSx:=bH hS; clear hS; have hxa:=(Ext.refl (fun _=>False) w14).alloc (.cells #[.string S] 9); have HAl:=bH (blk_alloc_at w14 (.cells #[.string S] 9)); have hE5:=(hE4).trans hxa; have HS:=bH (HA.out.2.1.keep hE5); have hX5:Ext (fun k=>v.ownBlock=some k) w5 (w14.alloc (.cells #[.string S] 9)):=ext_any hE5 _; have HLs:=bH hE5.size; have HLe:=bH (show w.heap.size+1<=(w14.alloc (.cells #[.string S] 9)).heap.size from by have h1:=HLw2.out; have h2:=HPb.out; have h3:=hE5.size; omega); clear hxa
         refine hK.out _ _ (hX5) (fun hHeld=>?_)
         clear hK K
         (try go_frame)
         refine hst 26 (h:=fun K hK=>?_)
         refine step_appS rfl (.tmp 71) (.tmp 96) rfl (w.heap.size+1) v (varsT p vn++rowsT p i) rfl HS.out S rfl (cellq HAl.out 0 rfl) HLl.out HLe.out (fun v9 w9 hs9 hx9 hl9=>?_)
         have hX6:=hX5.trans hx9
         refine hK.out _ _ (hX6) (fun hHeld=>?_)
         clear hK K
         (try go_frame)
         refine ht 27 (h:=?_)
         (try go_frame)
         refine wpAnyH_done (by kernel_rfl) ?_ _
         have HN:=bH (bI hs9 hX6)
         have HF:=bH (HEx.out _ HN.out.2)
         have HPk:=bH (HPx.out _ HN.out.2)
         go_wp2
         go_roundg (rn - (i+1))
         case measure=>omega
         case rel=>exact ⟨i+1,_,by omega,rfl,by go_num,rfl,by rw [HNx.out,HU.out,HSx.out,<- List.append_assoc]; exact HN.out.1,HF.out,HPk.out⟩
        ·go_simp
         go_at_call 52; (with_reducible refine (HNb.out _).mono ?_); rintro q4 w14 ⟨rfl,hx4⟩
         have hE4:=(hE3).trans hx4
         have hX4:Ext (fun k=>v.ownBlock=some k) w5 w14:=ext_any hE4 _
         replace hBk:=blk_keep hBk hx4
         refine hK.out _ _ (hX4) (fun hHeld=>?_)
         clear hK K
         (try go_frame)
         refine hst 18 (h:=fun K hK=>?_)
         have e5:=sb_at hBk hk2
         rw [hsg] at e5
         go_simp
         refine hK.out _ _ (hX4) (fun hHeld=>?_)
         clear hK K
         (try go_frame)
         refine ht 19 (h:=(ht 20 (h:=(ht 24 (h:=?_)))))
         (try go_frame)
         refine hst 25 (h:=fun K hK=>?_)
         go_simp
         obtain ⟨S,hS⟩:∃ S,nm++⟨#[32,40]⟩++numT gr++⟨#[41,58,32]⟩++ts++⟨#[32]⟩++sg++⟨#[32]⟩++numT bd=S:=⟨_,rfl⟩; rw [hS]; have HSx:=bH hS; clear hS; have hxa:=(Ext.refl (fun _=>False) w14).alloc (.cells #[.string S] 9); have HAl:=bH (blk_alloc_at w14 (.cells #[.string S] 9)); have hE5:=(hE4).trans hxa; have HS:=bH (HA.out.2.1.keep hE5); have hX5:Ext (fun k=>v.ownBlock=some k) w5 (w14.alloc (.cells #[.string S] 9)):=ext_any hE5 _; have HLs:=bH hE5.size; have HLe:=bH (show w.heap.size+1<=(w14.alloc (.cells #[.string S] 9)).heap.size from by have h1:=HLw2.out; have h2:=HPb.out; have h3:=hE5.size; omega); clear hxa
         refine hK.out _ _ (hX5) (fun hHeld=>?_)
         clear hK K
         (try go_frame)
         refine hst 26 (h:=fun K hK=>?_)
         refine step_appS rfl (.tmp 71) (.tmp 96) rfl (w.heap.size+1) v (varsT p vn++rowsT p i) rfl HS.out S rfl (cellq HAl.out 0 rfl) HLl.out HLe.out (fun v9 w9 hs9 hx9 hl9=>?_)
         have hX6:=hX5.trans hx9
         refine hK.out _ _ (hX6) (fun hHeld=>?_)
         clear hK K
         (try go_frame)
         refine ht 27 (h:=?_)
         (try go_frame)
         refine wpAnyH_done (by kernel_rfl) ?_ _
         have HN:=bH (bI hs9 hX6)
         have HF:=bH (HEx.out _ HN.out.2)
         have HPk:=bH (HPx.out _ HN.out.2)
         go_wp2
         go_roundg (rn - (i+1))
         case measure=>omega
         case rel=>exact ⟨i+1,_,by omega,rfl,by go_num,rfl,by rw [HNx.out,HU.out,HSx.out,<- List.append_assoc]; exact HN.out.1,HF.out,HPk.out⟩
       ·go_simp
        go_at_call 52; (with_reducible refine (HNb.out _).mono ?_); rintro q3 w13 ⟨rfl,hx3⟩
        have hE3:=(hE2).trans hx3
        have hX3:Ext (fun k=>v.ownBlock=some k) w5 w13:=ext_any hE3 _
        refine hK.out _ _ (hX3) (fun hHeld=>?_)
        clear hK K
        (try go_frame)
        refine hst 14 (h:=fun K hK=>?_)
        go_simp
        have hE4:=(hE3).trans ((Ext.refl (fun _=>False) w13).alloc (.cells #[.string ⟨#[60,61]⟩,.string ⟨#[62,61]⟩,.string ⟨#[61]⟩] 9))
        have hBk:=blk_alloc_at w13 (.cells #[.string ⟨#[60,61]⟩,.string ⟨#[62,61]⟩,.string ⟨#[61]⟩] 9)
        generalize w13.alloc (.cells #[.string ⟨#[60,61]⟩,.string ⟨#[62,61]⟩,.string ⟨#[61]⟩] 9)=w14 at *
        generalize w13.heap.size=sb at *
        have hX4:Ext (fun k=>v.ownBlock=some k) w5 w14:=ext_any hE4 _
        refine hK.out _ _ (hX4) (fun hHeld=>?_)
        clear hK K
        (try go_frame)
        refine ht 17 (h:=?_)
        (try go_frame)
        refine hst 18 (h:=fun K hK=>?_)
        have e5:=sb_at hBk hk2
        rw [hsg] at e5
        go_simp
        refine hK.out _ _ (hX4) (fun hHeld=>?_)
        clear hK K
        (try go_frame)
        refine ht 19 (h:=(ht 20 (h:=(ht 24 (h:=?_)))))
        (try go_frame)
        refine hst 25 (h:=fun K hK=>?_)
        go_simp
        obtain ⟨S,hS⟩:∃ S,nm++⟨#[32,40]⟩++numT gr++⟨#[41,58,32]⟩++ts++⟨#[32]⟩++sg++⟨#[32]⟩++numT bd=S:=⟨_,rfl⟩; rw [hS]; have HSx:=bH hS; clear hS; have hxa:=(Ext.refl (fun _=>False) w14).alloc (.cells #[.string S] 9); have HAl:=bH (blk_alloc_at w14 (.cells #[.string S] 9)); have hE5:=(hE4).trans hxa; have HS:=bH (HA.out.2.1.keep hE5); have hX5:Ext (fun k=>v.ownBlock=some k) w5 (w14.alloc (.cells #[.string S] 9)):=ext_any hE5 _; have HLs:=bH hE5.size; have HLe:=bH (show w.heap.size+1<=(w14.alloc (.cells #[.string S] 9)).heap.size from by have h1:=HLw2.out; have h2:=HPb.out; have h3:=hE5.size; omega); clear hxa
        refine hK.out _ _ (hX5) (fun hHeld=>?_)
        clear hK K
        (try go_frame)
        refine hst 26 (h:=fun K hK=>?_)
        refine step_appS rfl (.tmp 71) (.tmp 96) rfl (w.heap.size+1) v (varsT p vn++rowsT p i) rfl HS.out S rfl (cellq HAl.out 0 rfl) HLl.out HLe.out (fun v9 w9 hs9 hx9 hl9=>?_)
        have hX6:=hX5.trans hx9
        refine hK.out _ _ (hX6) (fun hHeld=>?_)
        clear hK K
        (try go_frame)
        refine ht 27 (h:=?_)
        (try go_frame)
        refine wpAnyH_done (by kernel_rfl) ?_ _
        have HN:=bH (bI hs9 hX6)
        have HF:=bH (HEx.out _ HN.out.2)
        have HPk:=bH (HPx.out _ HN.out.2)
        go_wp2
        go_roundg (rn - (i+1))
        case measure=>omega
        case rel=>exact ⟨i+1,_,by omega,rfl,by go_num,rfl,by rw [HNx.out,HU.out,HSx.out,<- List.append_assoc]; exact HN.out.1,HF.out,HPk.out⟩
      ·go_simp
       have hE2:=(hE1).trans ((Ext.refl (fun _=>False) w11).alloc (.cells #[.string ⟨#[60,61]⟩,.string ⟨#[62,61]⟩,.string ⟨#[61]⟩] 9))
       have hBk:=blk_alloc_at w11 (.cells #[.string ⟨#[60,61]⟩,.string ⟨#[62,61]⟩,.string ⟨#[61]⟩] 9)
       generalize w11.alloc (.cells #[.string ⟨#[60,61]⟩,.string ⟨#[62,61]⟩,.string ⟨#[61]⟩] 9)=w12 at *
       generalize w11.heap.size=sb at *
       have hX2:Ext (fun k=>v.ownBlock=some k) w5 w12:=ext_any hE2 _
       refine hK.out _ _ (hX2) (fun hHeld=>?_)
       clear hK K
       (try go_frame)
       refine ht 17 (h:=?_)
       (try go_frame)
       refine held_two 11 18 rfl rfl (by kernel_rfl) (fun K hK=>?_) (fun K hK=>?_)
       ·go_simp
        go_at_call 53; (with_reducible refine (HTs.out _ (hE2)).mono ?_); rintro q3 w13 ⟨rfl,hx3⟩
        have hE3:=(hE2).trans hx3
        have hX3:Ext (fun k=>v.ownBlock=some k) w5 w13:=ext_any hE3 _
        replace hBk:=blk_keep hBk hx3
        refine hK.out _ _ (hX3) (fun hHeld=>?_)
        clear hK K
        (try go_frame)
        refine ht 12 (h:=(ht 13 (h:=?_)))
        (try go_frame)
        refine held_two 18 23 rfl rfl (by kernel_rfl) (fun K hK=>?_) (fun K hK=>?_)
        ·have e5:=sb_at hBk hk2
         rw [hsg] at e5
         go_simp
         refine hK.out _ _ (hX3) (fun hHeld=>?_)
         clear hK K
         (try go_frame)
         refine ht 19 (h:=(ht 20 (h:=?_)))
         (try go_frame)
         refine hst 23 (h:=fun K hK=>?_)
         go_simp
         go_at_call 52; (with_reducible refine (HNb.out _).mono ?_); rintro q4 w14 ⟨rfl,hx4⟩
         have hE4:=(hE3).trans hx4
         have hX4:Ext (fun k=>v.ownBlock=some k) w5 w14:=ext_any hE4 _
         replace hBk:=blk_keep hBk hx4
         refine hK.out _ _ (hX4) (fun hHeld=>?_)
         clear hK K
         (try go_frame)
         refine ht 24 (h:=?_)
         (try go_frame)
         refine hst 25 (h:=fun K hK=>?_)
         go_simp
         obtain ⟨S,hS⟩:∃ S,nm++⟨#[32,40]⟩++numT gr++⟨#[41,58,32]⟩++ts++⟨#[32]⟩++sg++⟨#[32]⟩++numT bd=S:=⟨_,rfl⟩; rw [hS]; have HSx:=bH hS; clear hS; have hxa:=(Ext.refl (fun _=>False) w14).alloc (.cells #[.string S] 9); have HAl:=bH (blk_alloc_at w14 (.cells #[.string S] 9)); have hE5:=(hE4).trans hxa; have HS:=bH (HA.out.2.1.keep hE5); have hX5:Ext (fun k=>v.ownBlock=some k) w5 (w14.alloc (.cells #[.string S] 9)):=ext_any hE5 _; have HLs:=bH hE5.size; have HLe:=bH (show w.heap.size+1<=(w14.alloc (.cells #[.string S] 9)).heap.size from by have h1:=HLw2.out; have h2:=HPb.out; have h3:=hE5.size; omega); clear hxa
         refine hK.out _ _ (hX5) (fun hHeld=>?_)
         clear hK K
         (try go_frame)
         refine hst 26 (h:=fun K hK=>?_)
         refine step_appS rfl (.tmp 71) (.tmp 96) rfl (w.heap.size+1) v (varsT p vn++rowsT p i) rfl HS.out S rfl (cellq HAl.out 0 rfl) HLl.out HLe.out (fun v9 w9 hs9 hx9 hl9=>?_)
         have hX6:=hX5.trans hx9
         refine hK.out _ _ (hX6) (fun hHeld=>?_)
         clear hK K
         (try go_frame)
         refine ht 27 (h:=?_)
         (try go_frame)
         refine wpAnyH_done (by kernel_rfl) ?_ _
         have HN:=bH (bI hs9 hX6)
         have HF:=bH (HEx.out _ HN.out.2)
         have HPk:=bH (HPx.out _ HN.out.2)
         go_wp2
         go_roundg (rn - (i+1))
         case measure=>omega
         case rel=>exact ⟨i+1,_,by omega,rfl,by go_num,rfl,by rw [HNx.out,HU.out,HSx.out,<- List.append_assoc]; exact HN.out.1,HF.out,HPk.out⟩
        ·go_simp
         go_at_call 52; (with_reducible refine (HNb.out _).mono ?_); rintro q4 w14 ⟨rfl,hx4⟩
         have hE4:=(hE3).trans hx4
         have hX4:Ext (fun k=>v.ownBlock=some k) w5 w14:=ext_any hE4 _
         replace hBk:=blk_keep hBk hx4
         refine hK.out _ _ (hX4) (fun hHeld=>?_)
         clear hK K
         (try go_frame)
         refine hst 18 (h:=fun K hK=>?_)
         have e5:=sb_at hBk hk2
         rw [hsg] at e5
         go_simp
         refine hK.out _ _ (hX4) (fun hHeld=>?_)
         clear hK K
         (try go_frame)
         refine ht 19 (h:=(ht 20 (h:=(ht 24 (h:=?_)))))
         (try go_frame)
         refine hst 25 (h:=fun K hK=>?_)
         go_simp
         obtain ⟨S,hS⟩:∃ S,nm++⟨#[32,40]⟩++numT gr++⟨#[41,58,32]⟩++ts++⟨#[32]⟩++sg++⟨#[32]⟩++numT bd=S:=⟨_,rfl⟩; rw [hS]; have HSx:=bH hS; clear hS; have hxa:=(Ext.refl (fun _=>False) w14).alloc (.cells #[.string S] 9); have HAl:=bH (blk_alloc_at w14 (.cells #[.string S] 9)); have hE5:=(hE4).trans hxa; have HS:=bH (HA.out.2.1.keep hE5); have hX5:Ext (fun k=>v.ownBlock=some k) w5 (w14.alloc (.cells #[.string S] 9)):=ext_any hE5 _; have HLs:=bH hE5.size; have HLe:=bH (show w.heap.size+1<=(w14.alloc (.cells #[.string S] 9)).heap.size from by have h1:=HLw2.out; have h2:=HPb.out; have h3:=hE5.size; omega); clear hxa
         refine hK.out _ _ (hX5) (fun hHeld=>?_)
         clear hK K
         (try go_frame)
         refine hst 26 (h:=fun K hK=>?_)
         refine step_appS rfl (.tmp 71) (.tmp 96) rfl (w.heap.size+1) v (varsT p vn++rowsT p i) rfl HS.out S rfl (cellq HAl.out 0 rfl) HLl.out HLe.out (fun v9 w9 hs9 hx9 hl9=>?_)
         have hX6:=hX5.trans hx9
         refine hK.out _ _ (hX6) (fun hHeld=>?_)
         clear hK K
         (try go_frame)
         refine ht 27 (h:=?_)
         (try go_frame)
         refine wpAnyH_done (by kernel_rfl) ?_ _
         have HN:=bH (bI hs9 hX6)
         have HF:=bH (HEx.out _ HN.out.2)
         have HPk:=bH (HPx.out _ HN.out.2)
         go_wp2
         go_roundg (rn - (i+1))
         case measure=>omega
         case rel=>exact ⟨i+1,_,by omega,rfl,by go_num,rfl,by rw [HNx.out,HU.out,HSx.out,<- List.append_assoc]; exact HN.out.1,HF.out,HPk.out⟩
       ·have e5:=sb_at hBk hk2
        rw [hsg] at e5
        go_simp
        refine hK.out _ _ (hX2) (fun hHeld=>?_)
        clear hK K
        (try go_frame)
        refine hst 11 (h:=fun K hK=>?_)
        go_simp
        go_at_call 53; (with_reducible refine (HTs.out _ (hE2)).mono ?_); rintro q3 w13 ⟨rfl,hx3⟩
        have hE3:=(hE2).trans hx3
        have hX3:Ext (fun k=>v.ownBlock=some k) w5 w13:=ext_any hE3 _
        replace hBk:=blk_keep hBk hx3
        refine hK.out _ _ (hX3) (fun hHeld=>?_)
        clear hK K
        (try go_frame)
        refine ht 12 (h:=(ht 13 (h:=(ht 19 (h:=(ht 20 (h:=?_)))))))
        (try go_frame)
        refine hst 23 (h:=fun K hK=>?_)
        go_simp
        go_at_call 52; (with_reducible refine (HNb.out _).mono ?_); rintro q4 w14 ⟨rfl,hx4⟩
        have hE4:=(hE3).trans hx4
        have hX4:Ext (fun k=>v.ownBlock=some k) w5 w14:=ext_any hE4 _
        replace hBk:=blk_keep hBk hx4
        refine hK.out _ _ (hX4) (fun hHeld=>?_)
        clear hK K
        (try go_frame)
        refine ht 24 (h:=?_)
        (try go_frame)
        refine hst 25 (h:=fun K hK=>?_)
        go_simp
        obtain ⟨S,hS⟩:∃ S,nm++⟨#[32,40]⟩++numT gr++⟨#[41,58,32]⟩++ts++⟨#[32]⟩++sg++⟨#[32]⟩++numT bd=S:=⟨_,rfl⟩; rw [hS]; have HSx:=bH hS; clear hS; have hxa:=(Ext.refl (fun _=>False) w14).alloc (.cells #[.string S] 9); have HAl:=bH (blk_alloc_at w14 (.cells #[.string S] 9)); have hE5:=(hE4).trans hxa; have HS:=bH (HA.out.2.1.keep hE5); have hX5:Ext (fun k=>v.ownBlock=some k) w5 (w14.alloc (.cells #[.string S] 9)):=ext_any hE5 _; have HLs:=bH hE5.size; have HLe:=bH (show w.heap.size+1<=(w14.alloc (.cells #[.string S] 9)).heap.size from by have h1:=HLw2.out; have h2:=HPb.out; have h3:=hE5.size; omega); clear hxa
        refine hK.out _ _ (hX5) (fun hHeld=>?_)
        clear hK K
        (try go_frame)
        refine hst 26 (h:=fun K hK=>?_)
        refine step_appS rfl (.tmp 71) (.tmp 96) rfl (w.heap.size+1) v (varsT p vn++rowsT p i) rfl HS.out S rfl (cellq HAl.out 0 rfl) HLl.out HLe.out (fun v9 w9 hs9 hx9 hl9=>?_)
        have hX6:=hX5.trans hx9
        refine hK.out _ _ (hX6) (fun hHeld=>?_)
        clear hK K
        (try go_frame)
        refine ht 27 (h:=?_)
        (try go_frame)
        refine wpAnyH_done (by kernel_rfl) ?_ _
        have HN:=bH (bI hs9 hX6)
        have HF:=bH (HEx.out _ HN.out.2)
        have HPk:=bH (HPx.out _ HN.out.2)
        go_wp2
        go_roundg (rn - (i+1))
        case measure=>omega
        case rel=>exact ⟨i+1,_,by omega,rfl,by go_num,rfl,by rw [HNx.out,HU.out,HSx.out,<- List.append_assoc]; exact HN.out.1,HF.out,HPk.out⟩
     ·go_simp
      have hE1:XF w5 (w5.alloc (.cells #[.string ⟨#[60,61]⟩,.string ⟨#[62,61]⟩,.string ⟨#[61]⟩] 9)).drew:=((Ext.refl (fun _=>False) w5).alloc (.cells #[.string ⟨#[60,61]⟩,.string ⟨#[62,61]⟩,.string ⟨#[61]⟩] 9)).drew
      have hBk:blk (w5.alloc (.cells #[.string ⟨#[60,61]⟩,.string ⟨#[62,61]⟩,.string ⟨#[61]⟩] 9)).drew w5.heap.size=some (.cells #[.string ⟨#[60,61]⟩,.string ⟨#[62,61]⟩,.string ⟨#[61]⟩] 9 (0,0)):=blk_alloc_at w5 (.cells #[.string ⟨#[60,61]⟩,.string ⟨#[62,61]⟩,.string ⟨#[61]⟩] 9)
      generalize (w5.alloc (.cells #[.string ⟨#[60,61]⟩,.string ⟨#[62,61]⟩,.string ⟨#[61]⟩] 9)).drew=w11 at *
      generalize hsb:w5.heap.size=sb at *
      have hX1:Ext (fun k=>v.ownBlock=some k) w5 w11:=ext_any hE1 _
      refine hK.out _ _ (hX1) (fun hHeld=>?_)
      clear hK K
      (try go_frame)
      refine ht 17 (h:=?_)
      (try go_frame)
      refine held_two 6 18 rfl rfl (by kernel_rfl) (fun K hK=>?_) (fun K hK=>?_)
      ·go_simp
       go_at_call 52; (with_reducible refine (HNg.out _).mono ?_); rintro q2 w12 ⟨rfl,hx2⟩
       have hE2:=(hE1).trans hx2
       have hX2:Ext (fun k=>v.ownBlock=some k) w5 w12:=ext_any hE2 _
       replace hBk:=blk_keep hBk hx2
       refine hK.out _ _ (hX2) (fun hHeld=>?_)
       clear hK K
       (try go_frame)
       refine ht 7 (h:=(ht 8 (h:=?_)))
       (try go_frame)
       refine held_two 11 18 rfl rfl (by kernel_rfl) (fun K hK=>?_) (fun K hK=>?_)
       ·go_simp
        go_at_call 53; (with_reducible refine (HTs.out _ (hE2)).mono ?_); rintro q3 w13 ⟨rfl,hx3⟩
        have hE3:=(hE2).trans hx3
        have hX3:Ext (fun k=>v.ownBlock=some k) w5 w13:=ext_any hE3 _
        replace hBk:=blk_keep hBk hx3
        refine hK.out _ _ (hX3) (fun hHeld=>?_)
        clear hK K
        (try go_frame)
        refine ht 12 (h:=(ht 13 (h:=?_)))
        (try go_frame)
        refine held_two 18 23 rfl rfl (by kernel_rfl) (fun K hK=>?_) (fun K hK=>?_)
        ·have e5:=sb_at hBk hk2
         rw [hsg] at e5
         go_simp
         refine hK.out _ _ (hX3) (fun hHeld=>?_)
         clear hK K
         (try go_frame)
         refine ht 19 (h:=(ht 20 (h:=?_)))
         (try go_frame)
         refine hst 23 (h:=fun K hK=>?_)
         go_simp
         go_at_call 52; (with_reducible refine (HNb.out _).mono ?_); rintro q4 w14 ⟨rfl,hx4⟩
         have hE4:=(hE3).trans hx4
         have hX4:Ext (fun k=>v.ownBlock=some k) w5 w14:=ext_any hE4 _
         replace hBk:=blk_keep hBk hx4
         refine hK.out _ _ (hX4) (fun hHeld=>?_)
         clear hK K
         (try go_frame)
         refine ht 24 (h:=?_)
         (try go_frame)
         refine hst 25 (h:=fun K hK=>?_)
         go_simp
         obtain ⟨S,hS⟩:∃ S,nm++⟨#[32,40]⟩++numT gr++⟨#[41,58,32]⟩++ts++⟨#[32]⟩++sg++⟨#[32]⟩++numT bd=S:=⟨_,rfl⟩; rw [hS]; have HSx:=bH hS; clear hS; have hxa:=(Ext.refl (fun _=>False) w14).alloc (.cells #[.string S] 9); have HAl:=bH (blk_alloc_at w14 (.cells #[.string S] 9)); have hE5:=(hE4).trans hxa; have HS:=bH (HA.out.2.1.keep hE5); have hX5:Ext (fun k=>v.ownBlock=some k) w5 (w14.alloc (.cells #[.string S] 9)):=ext_any hE5 _; have HLs:=bH hE5.size; have HLe:=bH (show w.heap.size+1<=(w14.alloc (.cells #[.string S] 9)).heap.size from by have h1:=HLw2.out; have h2:=HPb.out; have h3:=hE5.size; omega); clear hxa
         refine hK.out _ _ (hX5) (fun hHeld=>?_)
         clear hK K
         (try go_frame)
         refine hst 26 (h:=fun K hK=>?_)
         refine step_appS rfl (.tmp 71) (.tmp 96) rfl (w.heap.size+1) v (varsT p vn++rowsT p i) rfl HS.out S rfl (cellq HAl.out 0 rfl) HLl.out HLe.out (fun v9 w9 hs9 hx9 hl9=>?_)
         have hX6:=hX5.trans hx9
         refine hK.out _ _ (hX6) (fun hHeld=>?_)
         clear hK K
         (try go_frame)
         refine ht 27 (h:=?_)
         (try go_frame)
         refine wpAnyH_done (by kernel_rfl) ?_ _
         have HN:=bH (bI hs9 hX6)
         have HF:=bH (HEx.out _ HN.out.2)
         have HPk:=bH (HPx.out _ HN.out.2)
         go_wp2
         go_roundg (rn - (i+1))
         case measure=>omega
         case rel=>exact ⟨i+1,_,by omega,rfl,by go_num,rfl,by rw [HNx.out,HU.out,HSx.out,<- List.append_assoc]; exact HN.out.1,HF.out,HPk.out⟩
        ·go_simp
         go_at_call 52; (with_reducible refine (HNb.out _).mono ?_); rintro q4 w14 ⟨rfl,hx4⟩
         have hE4:=(hE3).trans hx4
         have hX4:Ext (fun k=>v.ownBlock=some k) w5 w14:=ext_any hE4 _
         replace hBk:=blk_keep hBk hx4
         refine hK.out _ _ (hX4) (fun hHeld=>?_)
         clear hK K
         (try go_frame)
         refine hst 18 (h:=fun K hK=>?_)
         have e5:=sb_at hBk hk2
         rw [hsg] at e5
         go_simp
         refine hK.out _ _ (hX4) (fun hHeld=>?_)
         clear hK K
         (try go_frame)
         refine ht 19 (h:=(ht 20 (h:=(ht 24 (h:=?_)))))
         (try go_frame)
         refine hst 25 (h:=fun K hK=>?_)
         go_simp
         obtain ⟨S,hS⟩:∃ S,nm++⟨#[32,40]⟩++numT gr++⟨#[41,58,32]⟩++ts++⟨#[32]⟩++sg++⟨#[32]⟩++numT bd=S:=⟨_,rfl⟩; rw [hS]; have HSx:=bH hS; clear hS; have hxa:=(Ext.refl (fun _=>False) w14).alloc (.cells #[.string S] 9); have HAl:=bH (blk_alloc_at w14 (.cells #[.string S] 9)); have hE5:=(hE4).trans hxa; have HS:=bH (HA.out.2.1.keep hE5); have hX5:Ext (fun k=>v.ownBlock=some k) w5 (w14.alloc (.cells #[.string S] 9)):=ext_any hE5 _; have HLs:=bH hE5.size; have HLe:=bH (show w.heap.size+1<=(w14.alloc (.cells #[.string S] 9)).heap.size from by have h1:=HLw2.out; have h2:=HPb.out; have h3:=hE5.size; omega); clear hxa
         refine hK.out _ _ (hX5) (fun hHeld=>?_)
         clear hK K
         (try go_frame)
         refine hst 26 (h:=fun K hK=>?_)
         refine step_appS rfl (.tmp 71) (.tmp 96) rfl (w.heap.size+1) v (varsT p vn++rowsT p i) rfl HS.out S rfl (cellq HAl.out 0 rfl) HLl.out HLe.out (fun v9 w9 hs9 hx9 hl9=>?_)
         have hX6:=hX5.trans hx9
         refine hK.out _ _ (hX6) (fun hHeld=>?_)
         clear hK K
         (try go_frame)
         refine ht 27 (h:=?_)
         (try go_frame)
         refine wpAnyH_done (by kernel_rfl) ?_ _
         have HN:=bH (bI hs9 hX6)
         have HF:=bH (HEx.out _ HN.out.2)
         have HPk:=bH (HPx.out _ HN.out.2)
         go_wp2
         go_roundg (rn - (i+1))
         case measure=>omega
         case rel=>exact ⟨i+1,_,by omega,rfl,by go_num,rfl,by rw [HNx.out,HU.out,HSx.out,<- List.append_assoc]; exact HN.out.1,HF.out,HPk.out⟩
       ·have e5:=sb_at hBk hk2
        rw [hsg] at e5
        go_simp
        refine hK.out _ _ (hX2) (fun hHeld=>?_)
        clear hK K
        (try go_frame)
        refine hst 11 (h:=fun K hK=>?_)
        go_simp
        go_at_call 53; (with_reducible refine (HTs.out _ (hE2)).mono ?_); rintro q3 w13 ⟨rfl,hx3⟩
        have hE3:=(hE2).trans hx3
        have hX3:Ext (fun k=>v.ownBlock=some k) w5 w13:=ext_any hE3 _
        replace hBk:=blk_keep hBk hx3
        refine hK.out _ _ (hX3) (fun hHeld=>?_)
        clear hK K
        (try go_frame)
        refine ht 12 (h:=(ht 13 (h:=(ht 19 (h:=(ht 20 (h:=?_)))))))
        (try go_frame)
        refine hst 23 (h:=fun K hK=>?_)
        go_simp
        go_at_call 52; (with_reducible refine (HNb.out _).mono ?_); rintro q4 w14 ⟨rfl,hx4⟩
        have hE4:=(hE3).trans hx4
        have hX4:Ext (fun k=>v.ownBlock=some k) w5 w14:=ext_any hE4 _
        replace hBk:=blk_keep hBk hx4
        refine hK.out _ _ (hX4) (fun hHeld=>?_)
        clear hK K
        (try go_frame)
        refine ht 24 (h:=?_)
        (try go_frame)
        refine hst 25 (h:=fun K hK=>?_)
        go_simp
        obtain ⟨S,hS⟩:∃ S,nm++⟨#[32,40]⟩++numT gr++⟨#[41,58,32]⟩++ts++⟨#[32]⟩++sg++⟨#[32]⟩++numT bd=S:=⟨_,rfl⟩; rw [hS]; have HSx:=bH hS; clear hS; have hxa:=(Ext.refl (fun _=>False) w14).alloc (.cells #[.string S] 9); have HAl:=bH (blk_alloc_at w14 (.cells #[.string S] 9)); have hE5:=(hE4).trans hxa; have HS:=bH (HA.out.2.1.keep hE5); have hX5:Ext (fun k=>v.ownBlock=some k) w5 (w14.alloc (.cells #[.string S] 9)):=ext_any hE5 _; have HLs:=bH hE5.size; have HLe:=bH (show w.heap.size+1<=(w14.alloc (.cells #[.string S] 9)).heap.size from by have h1:=HLw2.out; have h2:=HPb.out; have h3:=hE5.size; omega); clear hxa
        refine hK.out _ _ (hX5) (fun hHeld=>?_)
        clear hK K
        (try go_frame)
        refine hst 26 (h:=fun K hK=>?_)
        refine step_appS rfl (.tmp 71) (.tmp 96) rfl (w.heap.size+1) v (varsT p vn++rowsT p i) rfl HS.out S rfl (cellq HAl.out 0 rfl) HLl.out HLe.out (fun v9 w9 hs9 hx9 hl9=>?_)
        have hX6:=hX5.trans hx9
        refine hK.out _ _ (hX6) (fun hHeld=>?_)
        clear hK K
        (try go_frame)
        refine ht 27 (h:=?_)
        (try go_frame)
        refine wpAnyH_done (by kernel_rfl) ?_ _
        have HN:=bH (bI hs9 hX6)
        have HF:=bH (HEx.out _ HN.out.2)
        have HPk:=bH (HPx.out _ HN.out.2)
        go_wp2
        go_roundg (rn - (i+1))
        case measure=>omega
        case rel=>exact ⟨i+1,_,by omega,rfl,by go_num,rfl,by rw [HNx.out,HU.out,HSx.out,<- List.append_assoc]; exact HN.out.1,HF.out,HPk.out⟩
      ·have e5:=sb_at hBk hk2
       rw [hsg] at e5
       go_simp
       refine hK.out _ _ (hX1) (fun hHeld=>?_)
       clear hK K
       (try go_frame)
       refine hst 6 (h:=fun K hK=>?_)
       go_simp
       go_at_call 52; (with_reducible refine (HNg.out _).mono ?_); rintro q2 w12 ⟨rfl,hx2⟩
       have hE2:=(hE1).trans hx2
       have hX2:Ext (fun k=>v.ownBlock=some k) w5 w12:=ext_any hE2 _
       replace hBk:=blk_keep hBk hx2
       refine hK.out _ _ (hX2) (fun hHeld=>?_)
       clear hK K
       (try go_frame)
       refine ht 7 (h:=(ht 8 (h:=?_)))
       (try go_frame)
       refine hst 11 (h:=fun K hK=>?_)
       go_simp
       go_at_call 53; (with_reducible refine (HTs.out _ (hE2)).mono ?_); rintro q3 w13 ⟨rfl,hx3⟩
       have hE3:=(hE2).trans hx3
       have hX3:Ext (fun k=>v.ownBlock=some k) w5 w13:=ext_any hE3 _
       replace hBk:=blk_keep hBk hx3
       refine hK.out _ _ (hX3) (fun hHeld=>?_)
       clear hK K
       (try go_frame)
       refine ht 12 (h:=(ht 13 (h:=(ht 19 (h:=(ht 20 (h:=?_)))))))
       (try go_frame)
       refine hst 23 (h:=fun K hK=>?_)
       go_simp
       go_at_call 52; (with_reducible refine (HNb.out _).mono ?_); rintro q4 w14 ⟨rfl,hx4⟩
       have hE4:=(hE3).trans hx4
       have hX4:Ext (fun k=>v.ownBlock=some k) w5 w14:=ext_any hE4 _
       replace hBk:=blk_keep hBk hx4
       refine hK.out _ _ (hX4) (fun hHeld=>?_)
       clear hK K
       (try go_frame)
       refine ht 24 (h:=?_)
       (try go_frame)
       refine hst 25 (h:=fun K hK=>?_)
       go_simp
       obtain ⟨S,hS⟩:∃ S,nm++⟨#[32,40]⟩++numT gr++⟨#[41,58,32]⟩++ts++⟨#[32]⟩++sg++⟨#[32]⟩++numT bd=S:=⟨_,rfl⟩; rw [hS]; have HSx:=bH hS; clear hS; have hxa:=(Ext.refl (fun _=>False) w14).alloc (.cells #[.string S] 9); have HAl:=bH (blk_alloc_at w14 (.cells #[.string S] 9)); have hE5:=(hE4).trans hxa; have HS:=bH (HA.out.2.1.keep hE5); have hX5:Ext (fun k=>v.ownBlock=some k) w5 (w14.alloc (.cells #[.string S] 9)):=ext_any hE5 _; have HLs:=bH hE5.size; have HLe:=bH (show w.heap.size+1<=(w14.alloc (.cells #[.string S] 9)).heap.size from by have h1:=HLw2.out; have h2:=HPb.out; have h3:=hE5.size; omega); clear hxa
       refine hK.out _ _ (hX5) (fun hHeld=>?_)
       clear hK K
       (try go_frame)
       refine hst 26 (h:=fun K hK=>?_)
       refine step_appS rfl (.tmp 71) (.tmp 96) rfl (w.heap.size+1) v (varsT p vn++rowsT p i) rfl HS.out S rfl (cellq HAl.out 0 rfl) HLl.out HLe.out (fun v9 w9 hs9 hx9 hl9=>?_)
       have hX6:=hX5.trans hx9
       refine hK.out _ _ (hX6) (fun hHeld=>?_)
       clear hK K
       (try go_frame)
       refine ht 27 (h:=?_)
       (try go_frame)
       refine wpAnyH_done (by kernel_rfl) ?_ _
       have HN:=bH (bI hs9 hX6)
       have HF:=bH (HEx.out _ HN.out.2)
       have HPk:=bH (HPx.out _ HN.out.2)
       go_wp2
       go_roundg (rn - (i+1))
       case measure=>omega
       case rel=>exact ⟨i+1,_,by omega,rfl,by go_num,rfl,by rw [HNx.out,HU.out,HSx.out,<- List.append_assoc]; exact HN.out.1,HF.out,HPk.out⟩
    ·obtain rfl:rn=i:=by omega
     go_wp2
     go_ret
     exact ⟨_,rfl,by rw [HFm.out]; exact HM0.out.1.strs,HM0.out.2.1⟩
theorem linvalid_core (w:World) (pv:Value) (p:ProgV) (hp:IsPrg w pv p) (ht:Tab10 w):Calls Tryz.prog 3 #[pv] w (BoolPost w true):=by
 obtain ⟨vo,vn,vc,ro,rn,rc,rfl⟩:=hp.slices5
 have HLn:=bH (show p.vars.length=vn/\p.rows.length=rn from by
  obtain ⟨vv,rv,e,h,h2⟩:=hp
  cases e
  obtain ⟨_,_,e,_⟩:=h.shape
  obtain ⟨_,_,e2,_⟩:=h2.shape
  cases e; cases e2
  exact ⟨rfl,rfl⟩)
 have hxa:=(Ext.refl (fun _=>False) w).alloc (.cells #[.slice vo vn vc,.slice ro rn rc] 25)
 have HB:=bH (bI (hp.keep hxa) (bI (blk_alloc_at w (.cells #[.slice vo vn vc,.slice ro rn rc] 25)) hxa))
 have HTb:=bH (fun W (hW:XF w W)=>ht.keep hW)
 clear hp hxa ht
 go_enter Tryz.func3,Tryz.ntmps3
 go_upto_region 1 with fail
 generalize w.alloc (.cells #[.slice vo vn vc,.slice ro rn rc] 25)=w1 at *
 obtain ⟨pb,hpb⟩:∃ q,w.heap.size=q:=⟨_,rfl⟩
 rw [hpb] at HB ⊢
 have HPb:=bH (Nat.le_of_eq hpb)
 clear hpb
 have p0:w1.cell? ⟨pb,0,none⟩=some (.slice vo vn vc):=cellq HB.out.2.1 0 rfl
 have p1:w1.cell? ⟨pb,1,none⟩=some (.slice ro rn rc):=cellq HB.out.2.1 1 rfl
 have HC0:=bH (fun W (hW:XF w1 W)=>show Calls Tryz.prog 9 #[(.agg #[.slice vo vn vc,.slice ro rn rc]),.int .i64 6,.int .i64 6] W (BoolPost W (fewP p 6 6)) from FewP_any W (.agg #[.slice vo vn vc,.slice ro rn rc]) p 6 6 (by decide) (by decide) (HB.out.1.keep hW))
 obtain ⟨b0,hb0⟩:∃ b,fewP p 6 6=b:=⟨_,rfl⟩
 rw [hb0] at HC0
 have HG0:=bH hb0
 clear hb0
 cases b0 with
 | false =>
  go_upto_region 2 with (first | (go_at_call 8; refine (awake4_any _ (HTb.out _ HB.out.2.2)).mono ?_; rintro q2 w2 ⟨rfl,hx2⟩; replace p0:=cell_keep p0 hx2; replace p1:=cell_keep p1 hx2) | (go_at_call 9; (with_reducible refine (HC0.out _ (hx2)).mono ?_); rintro q3 w3 ⟨rfl,hx3⟩; replace p0:=cell_keep p0 hx3; replace p1:=cell_keep p1 hx3))
  go_wp2_with (go_at_call 8; refine (awake4_any _ (HTb.out _ (HB.out.2.2.trans (hx2.trans hx3)))).mono ?_; rintro r8 w8 ⟨rfl,hx8⟩)
  go_ret
  exact ⟨rfl,(HB.out.2.2.trans (hx2.trans hx3)).trans hx8⟩
 | true =>
 go_upto_region 3 with (first | (go_at_call 8; refine (awake4_any _ (HTb.out _ HB.out.2.2)).mono ?_; rintro q2 w2 ⟨rfl,hx2⟩; replace p0:=cell_keep p0 hx2; replace p1:=cell_keep p1 hx2) | (go_at_call 9; (with_reducible refine (HC0.out _ (hx2)).mono ?_); rintro q3 w3 ⟨rfl,hx3⟩; replace p0:=cell_keep p0 hx3; replace p1:=cell_keep p1 hx3))
 have HX:=bH (hx2.trans hx3)
 clear hx2 hx3 HC0
 obtain ⟨hT,hn6,hm6⟩:=few_parts6 HG0.out
 have HV1:=bH (fun W (hW:XF w3 W)=>Valid_any W (.agg #[.slice vo vn vc,.slice ro rn rc]) p (HB.out.1.keep (HX.out.trans hW)))
 have HV2:=bH (fun W (hW:XF w3 W)=>Valid4_any W (.agg #[.slice vo vn vc,.slice ro rn rc]) p (HB.out.1.keep (HX.out.trans hW)))
 have HF1:=bH (fun W (hW:XF w3 W)=>Format_any W (.agg #[.slice vo vn vc,.slice ro rn rc]) p (HB.out.1.keep (HX.out.trans hW)) (HTb.out _ (HB.out.2.2.trans (HX.out.trans hW))) (fun i hi=>Nat.le_trans (hT i hi) (by decide)))
 have HF2:=bH (fun W (hW:XF w3 W)=>Format4_any W (.agg #[.slice vo vn vc,.slice ro rn rc]) p (HB.out.1.keep (HX.out.trans hW)) (fun i hi=>Nat.le_trans (hT i hi) (by decide)))
 have HLi:=bH (fun W a b (ha:Strs W a (fmtT p)) (hb:Strs W b (fmtT p))=>show Calls Tryz.prog 12 #[a,b] W (BoolPost W true) from by have h:=Lines_any W a b (fmtT p) (fmtT p) ha hb; rwa [decide_eq_true rfl] at h)
 obtain ⟨vb,hvb⟩:∃ b,validB p=b:=⟨_,rfl⟩
 rw [hvb] at HV1 HV2
 clear hvb hT hn6 hm6
 replace p0:=cqo (S:=fun _=>False) p0 id
 replace p1:=cqo (S:=fun _=>False) p1 id
 cases vb with
 | false =>
  refine wp_region_held_drew (S:=(XF w3)) (by kernel_rfl) ((Ext.refl _ w3).drew) (fun hHeld=>?_)
  refine ht 0 (h:=(ht 2 (h:=?_)))
  (try go_frame)
  refine hst 1 (h:=fun K hK=>?_)
  (go_simp; go_at_call 10; (with_reducible refine (HV1.out _ hHeld).mono ?_); rintro q11 w11 ⟨rfl,hx11⟩; have hX1:=hHeld.trans hx11)
  refine hK.out _ _ (hX1) (fun hHeld=>?_)
  clear hK K
  (try go_frame)
  refine hst 3 (h:=fun K hK=>?_)
  (go_simp; go_at_call 11; (with_reducible refine (HV2.out _ hX1).mono ?_); rintro q12 w12 ⟨rfl,hx12⟩; have hX2:=hX1.trans hx12)
  refine hK.out _ _ (hX2) (fun hHeld=>?_)
  clear hK K
  (try go_frame)
  refine ht 4 (h:=(ht 5 (h:=?_)))
  (try go_frame)
  refine ht 6 (h:=?_)
  (try go_frame)
  refine ht 8 (h:=?_)
  (try go_frame)
  refine hst 7 (h:=fun K hK=>?_)
  (go_simp; go_at_call 13; (with_reducible refine (HF1.out _ hX2).mono ?_); rintro q13 w13 ⟨v13,rfl,h13,hx13⟩; have hX3:=hX2.trans hx13; obtain ⟨f13,c13,rfl,-⟩:=h13.shape)
  refine hK.out _ _ (hX3) (fun hHeld=>?_)
  clear hK K
  (try go_frame)
  refine hst 9 (h:=fun K hK=>?_)
  (go_simp; go_at_call 14; (with_reducible refine (HF2.out _ hX3).mono ?_); rintro q14 w14 ⟨v14,rfl,h14,hx14⟩; have hX4:=hX3.trans hx14; obtain ⟨f14,c14,rfl,-⟩:=h14.shape)
  refine hK.out _ _ (hX4) (fun hHeld=>?_)
  clear hK K
  (try go_frame)
  refine hst 10 (h:=fun K hK=>?_)
  (go_simp; go_at_call 12; (with_reducible refine (HLi.out _ _ _ (h13.keep hx14) h14).mono ?_); rintro q15 w15 ⟨rfl,hx15⟩; have hX5:=hX4.trans hx15)
  refine hK.out _ _ (hX5) (fun hHeld=>?_)
  clear hK K
  (try go_frame)
  refine ht 11 (h:=(ht 12 (h:=?_)))
  (try go_frame)
  refine wpAnyH_done (by kernel_rfl) ?_ _
  go_wp2
  go_ret
  exact ⟨rfl,(HB.out.2.2.trans HX.out).trans hX5⟩
 | true =>
  refine wp_region_held_drew (S:=(XF w3)) (by kernel_rfl) ((Ext.refl _ w3).drew) (fun hHeld=>?_)
  refine ht 0 (h:=(ht 2 (h:=?_)))
  (try go_frame)
  refine hst 1 (h:=fun K hK=>?_)
  (go_simp; go_at_call 10; (with_reducible refine (HV1.out _ hHeld).mono ?_); rintro q11 w11 ⟨rfl,hx11⟩; have hX1:=hHeld.trans hx11)
  refine hK.out _ _ (hX1) (fun hHeld=>?_)
  clear hK K
  (try go_frame)
  refine hst 3 (h:=fun K hK=>?_)
  (go_simp; go_at_call 11; (with_reducible refine (HV2.out _ hX1).mono ?_); rintro q12 w12 ⟨rfl,hx12⟩; have hX2:=hX1.trans hx12)
  refine hK.out _ _ (hX2) (fun hHeld=>?_)
  clear hK K
  (try go_frame)
  refine ht 4 (h:=(ht 5 (h:=?_)))
  (try go_frame)
  refine ht 6 (h:=?_)
  (try go_frame)
  refine ht 8 (h:=?_)
  (try go_frame)
  refine hst 7 (h:=fun K hK=>?_)
  (go_simp; go_at_call 13; (with_reducible refine (HF1.out _ hX2).mono ?_); rintro q13 w13 ⟨v13,rfl,h13,hx13⟩; have hX3:=hX2.trans hx13; obtain ⟨f13,c13,rfl,-⟩:=h13.shape)
  refine hK.out _ _ (hX3) (fun hHeld=>?_)
  clear hK K
  (try go_frame)
  refine hst 9 (h:=fun K hK=>?_)
  (go_simp; go_at_call 14; (with_reducible refine (HF2.out _ hX3).mono ?_); rintro q14 w14 ⟨v14,rfl,h14,hx14⟩; have hX4:=hX3.trans hx14; obtain ⟨f14,c14,rfl,-⟩:=h14.shape)
  refine hK.out _ _ (hX4) (fun hHeld=>?_)
  clear hK K
  (try go_frame)
  refine hst 10 (h:=fun K hK=>?_)
  (go_simp; go_at_call 12; (with_reducible refine (HLi.out _ _ _ (h13.keep hx14) h14).mono ?_); rintro q15 w15 ⟨rfl,hx15⟩; have hX5:=hX4.trans hx15)
  refine hK.out _ _ (hX5) (fun hHeld=>?_)
  clear hK K
  (try go_frame)
  refine ht 11 (h:=(ht 12 (h:=?_)))
  (try go_frame)
  refine wpAnyH_done (by kernel_rfl) ?_ _
  go_wp2
  go_ret
  exact ⟨rfl,(HB.out.2.2.trans HX.out).trans hX5⟩
open Go.ChangeShapes Go.WideShapes Go.ChangeAt Go.RowKit Go.Deep
set_option linter.unusedVariables false
theorem own:ownKnob Tryz.prog.godebug=none:=by kernel_rfl
theorem laidOut:laidOutB Tryz.prog=true:=by kernel_rfl
section
variable {H:Type} {enc:TypeId × Value->H} {w:World} {base:Nat} {spare:Nat->Bool} {held:Bool}
theorem struct_field {P:Program} {t:TypeId} {fs:Array Field} {fuel:Nat} {cs:List Value} {x:DataW H × List MemPlace} (ht:P.underlying t=some (.struct fs)) (h:DataW.trod enc P w base spare held fuel t cs=some x)
  (i:Nat) {f:Field} (hi:fs[i]?=some f) {ty off n:Nat} (h1:f.type=ty) (h2:f.offset=off) (h3:P.cellsOf ty=n):∃ m y,DataW.trod enc P w base spare held m ty ((cs.drop off).take n)=some y:=by
 obtain ⟨xs,m,_,_,hl,hxl,hf⟩:=DataW.trod_struct ht h
 subst h1 h2 h3
 have hlt:i<xs.length:=by rw [hxl]; exact (Array.getElem?_eq_some_iff.1 hi).1
 exact ⟨m,_,(hf i f hi).trans (List.getElem?_eq_getElem hlt)⟩
theorem struct_length {P:Program} {t:TypeId} {fs:Array Field} {fuel:Nat} {cs:List Value} {x:DataW H × List MemPlace} (ht:P.underlying t=some (.struct fs)) (h:DataW.trod enc P w base spare held fuel t cs=some x) {n:Nat} (h3:P.cellsOf t=n):cs.length=n:=by
 obtain ⟨xs,m,_,_,hl,hxl,hf⟩:=DataW.trod_struct ht h
 rw [hl,h3]
theorem list_of {α:Type} {R:List Value->α->Prop}:∀ {css:List (List Value)},(∀ c ∈ css,∃ x,R c x)->∃ l:List α,l.length=css.length/\∀ (i:Nat) c x,css[i]?=some c->l[i]?=some x->R c x
 | [],_=>⟨[],rfl,fun i c x h=>by simp at h⟩
 | c :: css,h=>by
  obtain ⟨x,hx⟩:=h c (by simp)
  obtain ⟨l,h1,h2⟩:=list_of (css:=css) (fun c hc=>h c (by simp [hc]))
  refine ⟨x :: l,by simp [h1],fun i c' x' hc hx'=>?_⟩
  cases i with
  | zero=>simp at hc hx'; subst hc hx'; exact hx
  | succ i=>simp at hc hx'; exact h2 i c' x' hc hx'
theorem map_of {α:Type} {f:α->List Value} {Q:α->Prop} {css:List (List Value)} (h:∀ c ∈ css,∃ x,c=f x/\Q x):∃ l:List α,css=l.map f/\∀ x ∈ l,Q x:=by
 obtain ⟨l,h1,h2⟩:=list_of (R:=fun c x=>c=f x/\Q x) h
 refine ⟨l,List.ext_getElem? fun i=>?_,fun x hx=>?_⟩
 ·rw [List.getElem?_map]
  by_cases hi:i<l.length
  ·rw [List.getElem?_eq_getElem hi,List.getElem?_eq_getElem (by omega:i<css.length)]
   simp only [Option.map_some]
   exact congrArg some (h2 i _ _ (List.getElem?_eq_getElem (by omega)) (List.getElem?_eq_getElem hi)).1
  ·rw [List.getElem?_eq_none (by omega),List.getElem?_eq_none (by omega)]; rfl
 ·obtain ⟨i,hi,rfl⟩:=List.getElem_of_mem hx
  exact (h2 i _ _ (List.getElem?_eq_getElem (by omega)) (List.getElem?_eq_getElem hi)).2
theorem open_sl {t e:TypeId} {m:Nat} {fuel:Nat} {cs:List Value} {x:DataW H × List MemPlace} (ht:Tryz.prog.underlying t=some (.slice e)) (hc:Tryz.prog.cellsOf e=m) (hm:0<m) {R:List Value->Prop}
  (he:∀ fuel cs x,DataW.trod enc Tryz.prog w base spare held fuel e cs=some x->R cs) (h:DataW.trod enc Tryz.prog w base spare held fuel t cs=some x) :
  ∃ v css,cs=[v]/\Sl w v m css/\∀ c ∈ css,R c:=by
 rcases open_slice ht h with ⟨hcs,_⟩ | ⟨a,l,c,k,n',D,Pl,hcs,_,hlc,hcm,hk,_,hel⟩
 ·exact ⟨_,[],hcs,Sl.nil w m,by simp⟩
 ·have hlk:l<=k:=by rw [hk]; split <;> omega
  have hel':∀ i,i<l->∃ c':List Value,c'.length=m/\R c'/\∀ j u,c'[j]?=some u->w.cell? ((a.add (i*m)).add j)=some u:=fun i hi=>by
   obtain ⟨cs',h1,h2⟩:=hel i (by omega)
   rw [hc] at h1
   obtain ⟨_,hlen,hat⟩:=World.cells?_some h1
   exact ⟨cs',hlen,he _ _ _ h2,fun j u hu=>(hat j (by have:=(List.getElem?_eq_some_iff.1 hu).1; omega)).trans hu⟩
  obtain ⟨css,h1,h2⟩:∃ css:List (List Value),css.length=l/\∀ i (h:i<css.length),css[i].length=m/\R css[i]/\∀ j u,css[i][j]?=some u->w.cell? ((a.add (i*m)).add j)=some u:=by
   refine ⟨List.ofFn fun i:Fin l=>Classical.choose (hel' i i.2),by simp,fun i hi=>?_⟩
   simp at hi
   have:=Classical.choose_spec (hel' i hi)
   simpa using this
  subst h1
  refine ⟨_,css,hcs,⟨some a,c,rfl,hlc,hcm,(fun e=>by cases e),fun hp=>?_⟩,fun c' hc'=>?_⟩
  ·obtain ⟨b,off,spot⟩:=a
   obtain ⟨e1,_,e3⟩:=h2 0 hp
   have e4:=e3 0 _ (List.getElem?_eq_getElem (by omega))
   have hspot:spot=none:=by simpa [Addr.add] using World.cell?_spot e4
   subst hspot
   refine ⟨b,off,rfl,by have:=World.block_lt_of_cell? w _ e4; simpa [Addr.add_lit] using this,fun i r hi j u hu=>?_⟩
   obtain ⟨hi',rfl⟩:=List.getElem?_eq_some_iff.1 hi
   have:=(h2 i hi').2.2 j u hu
   simpa [Addr.add_lit,Nat.add_assoc] using this
  ·obtain ⟨i,hi,rfl⟩:=List.getElem_of_mem hc'
   exact (h2 i hi).2.1
theorem cellsInt:Tryz.prog.cellsOf 3=1:=by kernel_rfl
theorem cellsI64:Tryz.prog.cellsOf 2=1:=by kernel_rfl
theorem cellsBool:Tryz.prog.cellsOf 4=1:=by kernel_rfl
theorem cellsStr:Tryz.prog.cellsOf 9=1:=by kernel_rfl
theorem cellsTerm:Tryz.prog.cellsOf 99=2:=by kernel_rfl
theorem cellsTerms:Tryz.prog.cellsOf 73=1:=by kernel_rfl
theorem cellsVar:Tryz.prog.cellsOf 57=5:=by kernel_rfl
theorem cellsVars:Tryz.prog.cellsOf 22=1:=by kernel_rfl
theorem cellsRow:Tryz.prog.cellsOf 75=5:=by kernel_rfl
theorem cellsRows:Tryz.prog.cellsOf 23=1:=by kernel_rfl
theorem cellsProgram:Tryz.prog.cellsOf 25=2:=by kernel_rfl
theorem inR_of {k:IntKind} {a:Int} (hk:k=.i64) (h:(Lit.int k a).wf=true):InR a:=by
 subst hk
 simp [Lit.wf,IntKind.min,IntKind.max,IntKind.signed,IntKind.bits] at h
 unfold InR
 omega
theorem open_var {fuel:Nat} {cs:List Value} {x:DataW H × List MemPlace} (h:DataW.trod enc Tryz.prog w base spare held fuel 57 cs=some x):∃ v:VarV,cs=cV v/\VarOk v:=by
 have hl:=struct_length Tryz.underlying57 h cellsVar
 obtain ⟨_,_,f0⟩:=struct_field Tryz.underlying57 h 0 rfl rfl rfl cellsI64
 obtain ⟨_,_,f1⟩:=struct_field Tryz.underlying57 h 1 rfl rfl rfl cellsI64
 obtain ⟨_,_,f2⟩:=struct_field Tryz.underlying57 h 2 rfl rfl rfl cellsBool
 obtain ⟨_,_,f3⟩:=struct_field Tryz.underlying57 h 3 rfl rfl rfl cellsBool
 obtain ⟨_,_,f4⟩:=struct_field Tryz.underlying57 h 4 rfl rfl rfl cellsI64
 clear h
 obtain ⟨a0,h0,_,b0⟩:=DataW.trod_int Tryz.underlying2 f0
 obtain ⟨a1,h1,_,b1⟩:=DataW.trod_int Tryz.underlying2 f1
 obtain ⟨a2,h2,_⟩:=DataW.trod_bool Tryz.underlying4 f2
 obtain ⟨a3,h3,_⟩:=DataW.trod_bool Tryz.underlying4 f3
 obtain ⟨a4,h4,_,b4⟩:=DataW.trod_int Tryz.underlying2 f4
 clear f0 f1 f2 f3 f4
 match cs,hl with
 | [c0,c1,c2,c3,c4],_ =>
  simp at h0 h1 h2 h3 h4
  exact ⟨⟨a0,a1,a2,a3,a4⟩,by rw [h0,h1,h2,h3,h4]; rfl,inR_of rfl b0,inR_of rfl b1,inR_of rfl b4⟩
theorem open_term {fuel:Nat} {cs:List Value} {x:DataW H × List MemPlace} (h:DataW.trod enc Tryz.prog w base spare held fuel 99 cs=some x):∃ t:TermV,cs=cT t/\TermOk t:=by
 have hl:=struct_length Tryz.underlying99 h cellsTerm
 obtain ⟨_,_,f0⟩:=struct_field Tryz.underlying99 h 0 rfl rfl rfl cellsInt
 obtain ⟨_,_,f1⟩:=struct_field Tryz.underlying99 h 1 rfl rfl rfl cellsI64
 clear h
 obtain ⟨a0,h0,_,b0⟩:=DataW.trod_int Tryz.underlying3 f0
 obtain ⟨a1,h1,_,b1⟩:=DataW.trod_int Tryz.underlying2 f1
 clear f0 f1
 match cs,hl with
 | [c0,c1],_ =>
  simp at h0 h1
  exact ⟨⟨a0,a1⟩,by rw [h0,h1]; rfl,inR_of rfl b0,inR_of rfl b1⟩
theorem open_terms {fuel:Nat} {cs:List Value} {x:DataW H × List MemPlace} (h:DataW.trod enc Tryz.prog w base spare held fuel 73 cs=some x):∃ v l,cs=[v]/\Tms w v l:=by
 obtain ⟨v,css,rfl,hs,hc⟩:=open_sl Tryz.underlying73 cellsTerm (by decide) (fun _ _ _ h=>open_term h) h
 obtain ⟨l,rfl,hl⟩:=map_of hc
 exact ⟨v,l,rfl,hs,hl⟩
theorem open_row {fuel:Nat} {cs:List Value} {x:DataW H × List MemPlace} (h:DataW.trod enc Tryz.prog w base spare held fuel 75 cs=some x):∃ y:RowV × Value,cs=cR y.1 y.2/\Tms w y.2 y.1.terms/\RowOk y.1:=by
 have hl:=struct_length Tryz.underlying75 h cellsRow
 obtain ⟨_,_,f0⟩:=struct_field Tryz.underlying75 h 0 rfl rfl rfl cellsStr
 obtain ⟨_,_,f1⟩:=struct_field Tryz.underlying75 h 1 rfl rfl rfl cellsInt
 obtain ⟨_,_,f2⟩:=struct_field Tryz.underlying75 h 2 rfl rfl rfl cellsInt
 obtain ⟨_,_,f3⟩:=struct_field Tryz.underlying75 h 3 rfl rfl rfl cellsTerms
 obtain ⟨_,_,f4⟩:=struct_field Tryz.underlying75 h 4 rfl rfl rfl cellsI64
 clear h
 obtain ⟨a0,h0,_,b0⟩:=DataW.trod_string Tryz.underlying9 f0
 obtain ⟨a1,h1,_,b1⟩:=DataW.trod_int Tryz.underlying3 f1
 obtain ⟨a2,h2,_,b2⟩:=DataW.trod_int Tryz.underlying3 f2
 obtain ⟨v3,l3,h3,b3⟩:=open_terms f3
 obtain ⟨a4,h4,_,b4⟩:=DataW.trod_int Tryz.underlying2 f4
 clear f0 f1 f2 f3 f4
 match cs,hl with
 | [c0,c1,c2,c3,c4],_ =>
  simp at h0 h1 h2 h3 h4
  exact ⟨⟨⟨a0,a1,a2,l3,a4⟩,v3⟩,by rw [h0,h1,h2,h3,h4]; rfl,b3,b0,inR_of rfl b1,inR_of rfl b2,inR_of rfl b4⟩
theorem open_prog {fuel:Nat} {cs:List Value} {x:DataW H × List MemPlace} (h:DataW.trod enc Tryz.prog w base spare held fuel 25 cs=some x):∃ p:ProgV,IsPrg w (.agg cs.toArray) p:=by
 have hl:=struct_length Tryz.underlying25 h cellsProgram
 obtain ⟨_,_,f0⟩:=struct_field Tryz.underlying25 h 0 rfl rfl rfl cellsVars
 obtain ⟨_,_,f1⟩:=struct_field Tryz.underlying25 h 1 rfl rfl rfl cellsRows
 clear h
 obtain ⟨v0,c0,e0,s0,k0⟩:=open_sl Tryz.underlying22 cellsVar (by decide) (fun _ _ _ h=>open_var h) f0
 obtain ⟨v1,c1,e1,s1,k1⟩:=open_sl Tryz.underlying23 cellsRow (by decide) (fun _ _ _ h=>open_row h) f1
 clear f0 f1
 obtain ⟨l0,rfl,g0⟩:=map_of k0
 obtain ⟨l1,n1,g1⟩:=list_of (R:=fun c (y:RowV × Value)=>c=cR y.1 y.2/\Tms w y.2 y.1.terms/\RowOk y.1) k1
 have hz:c1=List.zipWith cR (l1.map (·.1)) (l1.map (·.2)):=by
  apply List.ext_getElem?
  intro i
  rw [List.getElem?_zipWith,List.getElem?_map,List.getElem?_map]
  by_cases hi:i<l1.length
  ·rw [List.getElem?_eq_getElem hi,List.getElem?_eq_getElem (by omega:i<c1.length)]
   simp only [Option.map_some]
   exact congrArg some (g1 i _ _ (List.getElem?_eq_getElem (by omega)) (List.getElem?_eq_getElem hi)).1
  ·rw [List.getElem?_eq_none (by omega),List.getElem?_eq_none (by omega)]; rfl
 rw [hz] at s1
 match cs,hl with
 | [d0,d1],_ =>
  simp at e0 e1
  subst e0 e1
  refine ⟨⟨l0,l1.map (·.1)⟩,_,_,rfl,⟨s0,g0⟩,l1.map (·.2),by simp,s1,fun i r tv hr ht=>?_⟩
  rw [List.getElem?_map] at hr ht
  obtain ⟨y,hy,rfl⟩:=Option.map_eq_some_iff.1 hr
  rw [hy] at ht
  cases ht
  have hi:=(List.getElem?_eq_some_iff.1 hy).1
  exact (g1 i _ _ (List.getElem?_eq_getElem (by omega)) hy).2
end
open Go.Joins in
theorem open_prog_value {H:Type} {enc:TypeId × Value->H} {w:World} {base:Nat} {spare:Nat->Bool} {held:Bool} {r:Reach} {b0:Nat} {v:Value} {d:DataW H} {p:List MemPlace} (hv:Value.okWide Tryz.prog w r b0 25 v) (h:DataW.Trod enc Tryz.prog w base spare held 25 v d p) :
  ∃ y:ProgV,IsPrg w v y:=by
 obtain ⟨cs,rfl,hsz⟩:=okWide_struct Tryz.underlying25 hv
 obtain ⟨fuel,hf⟩:=h
 obtain ⟨y,hy⟩:=open_prog hf
 refine ⟨y,?_⟩
 simpa [Value.cells] using hy
open Go.ChangeShapes Go.WideShapes Go.ChangeAt Go.RowKit Go.Deep
def laid3:List (String × DataW Unit):=[("math/bits.deBruijn32tab", Rows.laid_math_bits_deBruijn32tab),("math/bits.deBruijn64tab", Rows.laid_math_bits_deBruijn64tab),("internal/strconv.uint64pow10", Rows.laid_internal_strconv_uint64pow10)]
theorem pow10_data:(Rows.laid_internal_strconv_uint64pow10:DataW Unit)=Lib.tabData .u64 Lib.pow10Tab:=by kernel_rfl
theorem tab_laid {W:World} (h:laidMetH Tryz.prog laid3 W):Tab10 W:=by
 rw [MakeChecks.laidMetH_plain _ _ _ (by kernel_rfl)] at h
 unfold laid3 at h
 rw [pow10_data] at h
 exact Lib.tabIs_of_head (g:=0) (t:=178) (e:=116) (n:=20) (by kernel_rfl) (by kernel_rfl) Tryz.underlying178 Tryz.underlying116 (by kernel_rfl) (by kernel_rfl) (laidMet.tail (laidMet.tail h))
theorem door_met (os:Os) (args:Array Value):laidMetH Tryz.prog laid3 ((World.doorLaid Tryz.prog 24 os).forCall (fun _ _=>0) ⟨#[],args,[]⟩).memory :=
 laidMetH_of_parts3 (fuel:=8) (laidMet_of_run' 8 (by kernel_rfl) (by kernel_rfl)) (by kernel_rfl) (by kernel_rfl)
end Go.Proofs.YtglepbhkilbbcaaGreatDoor
