/- Contracts of functions of the seat, proved in a logic on data over the model (part N46). -/
import Derived.Test.YtlphpbcafplnbaaGreatN45
import Derived.Test.YtlphpbcafplnbaaGreatQS
import Derived.Test.YtlphpbcafplnbaaGreatXO
set_option linter.unusedSimpArgs false
set_option linter.unusedVariables false
namespace Go.Proofs.YtlphpbcafplnbaaGreat
open Go.VL Go.RowKit
set_option maxRecDepth 100000 in
theorem open_factN (R n:Nat) (xs:List C) (h:Fits Tryz.prog R n 40 xs):∃ f:Fact,xs=f.cells∧(f.row.length*32≤R∧VFit f.row∧(f.nl=true→f.row=[])):=by
  obtain ⟨n,rfl⟩:=fits_pos h
  obtain ⟨a1,_,rfl,h1,a2,_,rfl,h2,rfl⟩:=fits_struct Tryz.underlying40 h
  obtain ⟨n,rfl⟩:=fits_pos h1
  obtain ⟨nl,ys,rfl,hn,hl,hys⟩:=fits_slice Tryz.underlying36 h1
  obtain ⟨row,rfl,hq⟩:=fits_list Val.cells (fun v=>fits64 v.int=true) (open_val R n) hys
  obtain ⟨p,rfl,_⟩:=open_per R _ _ h2
  rw [bytes58] at hl
  exact ⟨⟨nl,row,p⟩,rfl,by simpa using hl,hq,fun e=>by simpa using hn e⟩
set_option maxRecDepth 100000 in
theorem open_factsN (R n:Nat) (s:S) (h:FitsS Tryz.prog R n 22 s):∃ (nl:Bool) (l:List Fact),s = .c (.sl nl (facts l))∧l.length*40≤R∧∀ f∈l,f.row.length*32≤R∧VFit f.row∧(f.nl=true→f.row=[]):=by
  unfold FitsS at h
  rw [Tryz.underlying22] at h
  obtain ⟨x,rfl,h2⟩:=h
  obtain ⟨n,rfl⟩:=fits_pos h2
  obtain ⟨nl,ys,e,hn,hl,hys⟩:=fits_slice Tryz.underlying22 h2
  cases e
  obtain ⟨l,rfl,hq⟩:=fits_list Fact.cells (fun f=>f.row.length*32≤R∧VFit f.row∧(f.nl=true→f.row=[])) (open_factN R n) hys
  rw [bytes34] at hl
  exact ⟨nl,l,rfl,by simpa using hl,hq⟩
end Go.Proofs.YtlphpbcafplnbaaGreat
