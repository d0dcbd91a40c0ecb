/-
  Texts of the proof, part 1. Conditions: each lemma names its own.
-/
import Derived.Test.YtlbjfkdgbhkdcaaGreatDoorZ4
import Derived.Test.YtlbjfkdgbhkdcaaGreatDoorZ5
import Derived.Maps.RangeWalk
set_option linter.unusedVariables false
set_option linter.unusedSimpArgs false
set_option maxRecDepth 100000
set_option maxHeartbeats 16000000
namespace Go.Proofs.YtlbjfkdgbhkdcaaGreatDoor
open Go.RowKit Go.MapKept
open Go.ChangeMaps (setBlock)
open Go.ChangeShapes Go.WideShapes Go.ChangeAt Go.RowKit Go.Deep
section
variable {H:Type} {enc:TypeId × Value->H} {w:World} {base:Nat} {spare:Nat->Bool} {held:Bool}
theorem open_intz {fuel:Nat} {cs:List Value} {x:DataW H × List MemPlace} (h:DataW.trod enc Tryz.prog w base spare held fuel 26 cs=some x):∃ v l,cs=[v]/\Inz w v l:=by
 obtain ⟨v,css,rfl,hs,hc⟩:=open_sl (R:=fun c=>∃ n:Int,c=cI n) Tryz.underlying26 cellsInt (by decide) (fun _ _ _ h=>by
  obtain ⟨a,e,_,_⟩:=DataW.trod_int Tryz.underlying3 h
  exact ⟨a,e⟩) h
 obtain ⟨l,rfl⟩:∃ l:List Int,css=l.map cI:=by
  clear hs h
  induction css with
  | nil=>exact ⟨[],rfl⟩
  | cons c cs ih =>
   obtain ⟨n,hn⟩:=hc c (List.mem_cons_self ..)
   obtain ⟨l,hl⟩:=ih (fun x hx=>hc x (List.mem_cons_of_mem _ hx))
   exact ⟨n :: l,by rw [hn,hl]; rfl⟩
 exact ⟨v,l,rfl,hs⟩
end
theorem open_ints_value {H:Type} {enc:TypeId × Value->H} {w:World} {base:Nat} {spare:Nat->Bool} {held:Bool} {r:Reach} {b0:Nat} {v:Value} {d:DataW H} {p:List MemPlace} (hv:Value.okWide Tryz.prog w r b0 26 v) (h:DataW.Trod enc Tryz.prog w base spare held 26 v d p) :
  ∃ l:List Int,Inz w v l:=by
 obtain ⟨a0,len0,cap0,rfl⟩:=okWide_slice Tryz.underlying26 hv
 obtain ⟨fuel,hf⟩:=h
 obtain ⟨v,l,e,hr⟩:=open_intz hf
 simp [Value.cells] at e
 subst e
 exact ⟨l,hr⟩
end Go.Proofs.YtlbjfkdgbhkdcaaGreatDoor
