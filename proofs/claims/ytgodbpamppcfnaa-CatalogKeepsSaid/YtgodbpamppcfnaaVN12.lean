/- Calls by hand in regions that draw their order. -/
import Derived.Test.YtgodbpamppcfnaaVN11
set_option linter.unusedSimpArgs false
set_option linter.unusedVariables false
namespace Go.VL
open Go.RowKit
section
variable {P : Program} {w0 : World} {K0 : K0T} {nt : Nat} {OPS : Array Oper} {st : St}
theorem VOp.callK {OPS : Array Oper} {dst : Option Nat} {f : Operand} {args : Array Operand} {ats : Array TypeId} {ty : TypeId} {p : String} {af : Array Edge} {n : Nat} {done : Array Bool} {k : Nat} {K : St → Prop} {fid : FuncId} (b b' : List (Nat × Res)) (as0 rs as1 : List S) (τ : Nat → Nat) (C : List Nat)
    (ho : OPS[k]? = some ⟨dst, .call ⟨.value f, args, ats⟩, ty, p, af, none⟩) (hok : opOk nt ⟨dst, .call ⟨.value f, args, ats⟩, ty, p, af, none⟩ = true) (hf : st.ev f = .c (.fn fid [])) (L : LendK P st fid (args.toList.map st.ev) b b' as0 rs as1 τ C)
    (h : VA P w0 K0 nt OPS n (done.setIfInBounds k true) ((lendSt st τ C b').putd dst (retS τ rs)) K) :
    VOp P w0 K0 nt OPS n done k st K := by
  refine VOp.step ho fun a w g hT next Q' hn => wanted_step hT rfl ?_
  have hef := hT.ev f
  rw [hf, SR, CR] at hef
  obtain ⟨us0, hfv, hv0⟩ := hef
  rw [VR] at hv0
  subst hv0
  have hargs : SRs g w st.rs (args.toList.map st.ev) (args.toList.map a.eval ++ []) := by rw [List.append_nil]; exact SRs_map _ _ _ (fun x _ => hT.ev x)
  have hexec := run_call (o := ⟨dst, .call ⟨.value f, args, ats⟩, ty, p, af, none⟩) (a := a) (w := w) (us := []) L.con.1 rfl rfl hfv
  unfold Oper.wp
  rw [hexec, Oper.upon_enter]
  refine (L.calls hT hargs).mono fun en w' ⟨vs, g', he, k1, k2⟩ => ?_
  subst he
  refine hn _ _ _ g' h (k1.putd (opOk_dst hok) ?_)
  cases rs with
  | nil =>
    rw [renSs, SRs] at k2
    subst k2
    show SR g' w' _ (.tup (renSs τ [])) (.tuple [].toArray)
    rw [SR, renSs]
    exact ⟨[], rfl, by rw [SRs]⟩
  | cons r rest =>
    cases rest with
    | nil =>
      rw [renSs, renSs, SRs] at k2
      obtain ⟨v, us', rfl, q1, q2⟩ := k2
      rw [SRs] at q2
      subst q2
      exact q1
    | cons r2 rest =>
      have k2' := k2
      rw [renSs, renSs, SRs] at k2
      obtain ⟨v, us', rfl, q1, q2⟩ := k2
      rw [SRs] at q2
      obtain ⟨v2, us2, rfl, q3, q4⟩ := q2
      show SR g' w' _ (.tup (renSs τ (r :: r2 :: rest))) (.tuple (v :: v2 :: us2).toArray)
      rw [SR]
      exact ⟨_, rfl, k2'⟩
/-- every order ends in what one state tells -/
theorem VL.anyTo {id : Nat} {ops : List Oper} {st : St} {Q : Exit → St → Prop} {m1 : Keep (Code.region id ops.toArray true)} {m2 : Keep Q} (stC : St) (hm : P.follows .mixedOrders = true)
    (h : VA P w0 K0 nt ops.toArray ops.length (Array.replicate ops.length false) st (fun st' => st'.le stC)) (hk : Q .normal stC) : VL P w0 K0 nt (.region id ops.toArray true) st Q m1 m2 := fun a w g hT => by
  refine wp_region_any hm ?_
  have hT' : T w0 K0 nt st a { w with drawn := w.drawn + 1 } g :=
    hT.world (w' := { w with drawn := w.drawn + 1 }) (K' := g.K) ⟨rfl, rfl, rfl, Nat.le_refl _, fun _ _ => rfl, Nat.le_succ _⟩ ⟨fun _ _ h => h, fun _ _ _ => rfl⟩ hT.kold hT.klt (fun _ _ _ _ _ => ⟨rfl, fun _ h => h⟩)
  exact h a _ g hT' _ fun st' a' w' g' h1 h2 => ⟨stC, g', hk, h2.weaken h1⟩
end
end Go.VL
