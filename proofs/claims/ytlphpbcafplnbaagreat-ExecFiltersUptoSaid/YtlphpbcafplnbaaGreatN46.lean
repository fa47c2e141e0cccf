/- Contracts of functions of the seat, proved in a logic on data over the model (part N46). -/
import Derived.Test.YtlphpbcafplnbaaGreatBS2
import Derived.Test.YtlphpbcafplnbaaGreatN30
import Derived.Test.YtlphpbcafplnbaaGreatXO
set_option linter.unusedSimpArgs false
set_option linter.unusedVariables false
namespace Go.Proofs.YtlphpbcafplnbaaGreat
open Go.VL Go.RowKit
set_option maxRecDepth 100000 in
theorem open_factN (R n:Nat) (xs:List C) (h:Fits Tryz.prog R n 40 xs):∃ f:Fact,xs=f.cells∧(f.row.length*32≤R∧VFit f.row∧(f.nl=true→f.row=[])):=by
  obtain ⟨n,rfl⟩:=fits_pos h
  obtain ⟨a1,_,rfl,h1,a2,_,rfl,h2,rfl⟩:=fits_struct Tryz.underlying40 h
  obtain ⟨n,rfl⟩:=fits_pos h1
  obtain ⟨nl,ys,rfl,hn,hl,hys⟩:=fits_slice Tryz.underlying36 h1
  obtain ⟨row,rfl,hq⟩:=fits_list Val.cells (fun v=>fits64 v.int=true) (open_val R n) hys
  obtain ⟨p,rfl,_⟩:=open_per R _ _ h2
  rw [bytes58] at hl
  exact ⟨⟨nl,row,p⟩,rfl,by simpa using hl,hq,fun e=>by simpa using hn e⟩
set_option maxRecDepth 100000 in
theorem open_factsN (R n:Nat) (s:S) (h:FitsS Tryz.prog R n 22 s):∃ (nl:Bool) (l:List Fact),s = .c (.sl nl (facts l))∧l.length*40≤R∧∀ f∈l,f.row.length*32≤R∧VFit f.row∧(f.nl=true→f.row=[]):=by
  unfold FitsS at h
  rw [Tryz.underlying22] at h
  obtain ⟨x,rfl,h2⟩:=h
  obtain ⟨n,rfl⟩:=fits_pos h2
  obtain ⟨nl,ys,e,hn,hl,hys⟩:=fits_slice Tryz.underlying22 h2
  cases e
  obtain ⟨l,rfl,hq⟩:=fits_list Fact.cells (fun f=>f.row.length*32≤R∧VFit f.row∧(f.nl=true→f.row=[])) (open_factN R n) hys
  rw [bytes34] at hl
  exact ⟨nl,l,rfl,by simpa using hl,hq⟩
set_option maxRecDepth 100000 in
theorem open_exsN (R n:Nat) (hR:R≤80000000000) (s:S) (h:FitsS Tryz.prog R n 60 s):∃ (nl:Bool) (l:List Ex),s = .c (.sl nl (exprs l))∧Ex.fits l∧l.length*80≤R:=by
  unfold FitsS at h
  rw [Tryz.underlying60] at h
  obtain ⟨x,rfl,h2⟩:=h
  obtain ⟨nl,l,e,h3⟩:=open_exs R hR _ _ h2
  cases e
  exact ⟨nl,l,rfl,h3⟩
set_option maxRecDepth 100000 in
theorem open_cut (R n:Nat) (s:S) (h:FitsS Tryz.prog R n 62 s):∃ (p:Per) (first:Int),s = .agg [i64 p.f,i64 p.t,i64 first]:=by
  obtain ⟨xs,rfl,h0⟩:=FitsS.struct Tryz.underlying62 h
  obtain ⟨n,rfl⟩:=fits_pos h0
  obtain ⟨a1,_,rfl,h1,a2,_,rfl,h2,rfl⟩:=fits_struct Tryz.underlying62 h0
  obtain ⟨p,rfl,_⟩:=open_per R _ _ h1
  obtain ⟨f,rfl,_⟩:=fit_i64 Tryz.underlying3 h2
  exact ⟨p,f,rfl⟩
set_option maxRecDepth 100000 in
theorem filters_con (ss:List S) (h:FitsAllR Tryz.prog 4294967296 [22,60,62] ss):Con Tryz.prog 8 ss [.c (.v (.bool true))]:=by
  obtain ⟨s1,_,n1,rfl,h1,s2,_,n2,rfl,h2,s3,_,n3,rfl,h3,rfl⟩:=h
  obtain ⟨nl,l,rfl,hl,hr⟩:=open_factsN _ n1 s1 h1
  obtain ⟨nc,cs,rfl,hcf,hcl⟩:=open_exsN _ n2 (by decide) s2 h2
  obtain ⟨p,first,rfl⟩:=open_cut _ n3 s3 h3
  exact filters_spec sorts_ok sortsI_ok sortsF_ok nl nc l cs p first (by omega) (fun f hf=>by have:=(hr f hf).1;omega) (fun f hf=>⟨(hr f hf).2.2,by have:=(hr f hf).1;omega⟩) (fun f hf=>(hr f hf).2.1) (by omega) ((Ex.fits_iff cs).1 hcf)
end Go.Proofs.YtlphpbcafplnbaaGreat
