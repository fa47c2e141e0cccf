/- Contracts of functions of the seat, proved in a logic on data over the model (part S15). -/
import Derived.Test.YtlphpbcafplnbaaGreatN45
import Derived.Test.YtlphpbcafplnbaaGreatN46
set_option linter.unusedSimpArgs false
set_option linter.unusedVariables false
namespace Go.Proofs.YtlphpbcafplnbaaGreat
open Go.VL Go.RowKit
set_option maxRecDepth 100000 in
theorem open_intsN (R n:Nat) (s:S) (h:FitsS Tryz.prog R n 53 s):∃ (nl:Bool) (l:List Int),s = .c (.sl nl (ints l))∧l.length*8≤R:=by
  unfold FitsS at h
  rw [Tryz.underlying53] at h
  obtain ⟨x,rfl,h2⟩:=h
  obtain ⟨nl,l,e,h3⟩:=open_ints R _ _ h2
  cases e
  exact ⟨nl,l,rfl,h3⟩
set_option maxRecDepth 100000 in
theorem sorts_con (ss:List S) (h:FitsAllR Tryz.prog 4294967296 [22,53] ss):Con Tryz.prog 6 ss [.c (.v (.bool true))]:=by
  obtain ⟨s1,_,n1,rfl,h1,s2,_,n2,rfl,h2,rfl⟩:=h
  obtain ⟨nl,l,rfl,hl,hr⟩:=open_factsN _ n1 s1 h1
  obtain ⟨nc,cs,rfl,hcl⟩:=open_intsN _ n2 s2 h2
  exact sorts_spec sorts_ok sortsI_ok sortsF_ok nl nc l cs (by omega) (fun f hf=>by have:=(hr f hf).1;omega) (by omega)
end Go.Proofs.YtlphpbcafplnbaaGreat
