/- Contracts of functions of the seat, proved in a logic on data over the model (part XO). -/
import Derived.Test.YtlphpbcafplnbaaGreatRows
import Derived.Test.YtlphpbcafplnbaaGreatV24
import Derived.Test.YtlphpbcafplnbaaGreatQ5
import Derived.Test.YtlphpbcafplnbaaGreatR4
import Derived.Test.YtlphpbcafplnbaaGreatV37
set_option linter.unusedSimpArgs false
set_option linter.unusedVariables false
namespace Go.Proofs.YtlphpbcafplnbaaGreat
open Go.VL Go.RowKit
def bT (P:Program) (M:Nat):Nat→TypeId→Bool
  | 0,_=>false
  | n+1,t=>match P.underlying t with
    | some (.slice e)=>decide (P.bytesOf e≤M) && bT P M n e
    | some (.pointer e)=>bT P M n e
    | some (.struct fs)=>fs.toList.all fun f=>bT P M n f.type
    | some (.map _ _)=>false
    | some (.array _ _)=>false
    | _=>true
mutual
theorem w_le {H:Type} {P:Program} {M:Nat} (h1:1≤M):∀ (d:DataW H) (n:Nat) (t:TypeId),bT P M n t=true→∀ m∈d.weights P t,m≤Rows.uptoBulk d*M
  | .lit (.string bytes),n,t,hb,m,hm=>by
    simp only [DataW.weights,List.mem_singleton] at hm
    subst hm
    simp only [Rows.uptoBulk]
    exact Nat.le_trans (Nat.le_succ _) (Nat.le_mul_of_pos_right _ h1)
  | .lit (.bool _),n,t,hb,m,hm=>by simp [DataW.weights] at hm
  | .lit (.int _ _),n,t,hb,m,hm=>by simp [DataW.weights] at hm
  | .lit (.float _ _),n,t,hb,m,hm=>by simp [DataW.weights] at hm
  | .lit .nil,n,t,hb,m,hm=>by simp [DataW.weights] at hm
  | .nil,n,t,hb,m,hm=>by simp [DataW.weights] at hm
  | .held _,n,t,hb,m,hm=>by simp [DataW.weights] at hm
  | .iface _ _,n,t,hb,m,hm=>by simp [DataW.weights] at hm
  | .ptr d,0,t,hb,m,hm=>by cases hb
  | .ptr d,n+1,t,hb,m,hm=>by
    rw [DataW.weights] at hm
    rw [Rows.uptoBulk]
    rw [bT] at hb
    split at hm
    · rename_i e hu
      rw [hu] at hb
      exact Nat.le_trans (w_le h1 d n _ hb m hm) (Nat.mul_le_mul_right _ (Nat.le_succ _))
    · simp at hm
  | .slice elems spare,0,t,hb,m,hm=>by cases hb
  | .slice elems spare,n+1,t,hb,m,hm=>by
    rw [DataW.weights] at hm
    rw [Rows.uptoBulk]
    rw [bT] at hb
    split at hm
    · rename_i e hu
      rw [hu] at hb
      simp only [Bool.and_eq_true,decide_eq_true_eq] at hb
      simp only [List.mem_cons,List.mem_append] at hm
      rcases hm with rfl | hm | hm
      · refine Nat.mul_le_mul ?_ hb.1
        have:=len_le elems
        have:=len_le spare
        omega
      · exact Nat.le_trans (ws_le h1 elems n _ hb.2 m hm) (Nat.mul_le_mul_right _ (by omega))
      · exact Nat.le_trans (ws_le h1 spare n _ hb.2 m hm) (Nat.mul_le_mul_right _ (by omega))
    · simp at hm
  | .agg parts,0,t,hb,m,hm=>by cases hb
  | .agg parts,n+1,t,hb,m,hm=>by
    rw [DataW.weights] at hm
    rw [Rows.uptoBulk]
    rw [bT] at hb
    split at hm
    · rename_i fs hu
      rw [hu] at hb
      simp only [List.all_eq_true] at hb
      refine Nat.le_trans (we_le h1 parts n _ (fun t ht=>?_) m hm) (Nat.mul_le_mul_right _ (by omega))
      obtain ⟨f,hf,rfl⟩:=List.mem_map.1 ht
      exact hb f hf
    · rename_i hu;rw [hu] at hb;cases hb
    · simp at hm
  | .map entries,0,t,hb,m,hm=>by cases hb
  | .map entries,n+1,t,hb,m,hm=>by
    rw [DataW.weights] at hm
    rw [bT] at hb
    split at hm
    · rename_i hu;rw [hu] at hb;cases hb
    · simp at hm
theorem ws_le {H:Type} {P:Program} {M:Nat} (h1:1≤M):∀ (l:List (DataW H)) (n:Nat) (t:TypeId),bT P M n t=true→∀ m∈DataW.weightsAll P t l,m≤Rows.uptoBulkAll l*M
  | [],n,t,hb,m,hm=>by simp [DataW.weightsAll] at hm
  | d::r,n,t,hb,m,hm=>by
    simp only [DataW.weightsAll,List.mem_append] at hm
    rw [Rows.uptoBulkAll]
    rcases hm with hm | hm
    · exact Nat.le_trans (w_le h1 d n _ hb m hm) (Nat.mul_le_mul_right _ (by omega))
    · exact Nat.le_trans (ws_le h1 r n _ hb m hm) (Nat.mul_le_mul_right _ (by omega))
theorem we_le {H:Type} {P:Program} {M:Nat} (h1:1≤M):∀ (l:List (DataW H)) (n:Nat) (ts:List TypeId),(∀ t∈ts,bT P M n t=true)→∀ m∈DataW.weightsEach P ts l,m≤Rows.uptoBulkAll l*M
  | [],n,[],hb,m,hm=>by simp [DataW.weightsEach] at hm
  | [],n,_::_,hb,m,hm=>by simp [DataW.weightsEach] at hm
  | _::_,n,[],hb,m,hm=>by simp [DataW.weightsEach] at hm
  | d::r,n,t::ts,hb,m,hm=>by
    simp only [DataW.weightsEach,List.mem_append] at hm
    rw [Rows.uptoBulkAll]
    rcases hm with hm | hm
    · exact Nat.le_trans (w_le h1 d n _ (hb t (by simp)) m hm) (Nat.mul_le_mul_right _ (by omega))
    · exact Nat.le_trans (we_le h1 r n _ (fun t ht=>hb t (by simp [ht])) m hm) (Nat.mul_le_mul_right _ (by omega))
theorem len_le {H:Type} : ∀ (l:List (DataW H)),l.length≤Rows.uptoBulkAll l
  | []=>by simp
  | d::r=>by
    have:=len_le r
    have:=pos_le d
    simp only [List.length_cons,Rows.uptoBulkAll]
    omega
theorem pos_le {H:Type} : ∀ (d:DataW H),1≤Rows.uptoBulk d
  | .lit l=>by cases l <;> simp [Rows.uptoBulk]
  | .nil=>by simp [Rows.uptoBulk]
  | .held _=>by simp [Rows.uptoBulk]
  | .iface _ _=>by simp [Rows.uptoBulk]
  | .ptr _=>by simp [Rows.uptoBulk]
  | .slice _ _=>by simp [Rows.uptoBulk]
  | .agg _=>by simp [Rows.uptoBulk]
  | .map _=>by simp [Rows.uptoBulk]
end
def bG (P:Program) (M:Nat) (G:List TypeId) (t:TypeId):Bool :=
  match P.underlying t with
  | some (.slice e)=>decide (P.bytesOf e≤M) && G.contains e
  | some (.pointer e)=>G.contains e
  | some (.struct fs)=>fs.toList.all fun f=>G.contains f.type
  | some (.map _ _)=>false
  | some (.array _ e)=>G.contains e
  | _=>true
def closedB (P:Program) (M:Nat) (G:List TypeId):Bool:=G.all (bG P M G)
mutual
theorem w_leR {H:Type} {P:Program} {M:Nat} {G:List TypeId} (hG:closedB P M G=true) (h1:1≤M):∀ (d:DataW H) (t:TypeId),t∈G→∀ m∈d.weights P t,m≤Rows.uptoBulk d*M
  | .lit (.string bytes),t,hb,m,hm=>by
    simp only [DataW.weights,List.mem_singleton] at hm
    subst hm
    simp only [Rows.uptoBulk]
    exact Nat.le_trans (Nat.le_succ _) (Nat.le_mul_of_pos_right _ h1)
  | .lit (.bool _),t,hb,m,hm=>by simp [DataW.weights] at hm
  | .lit (.int _ _),t,hb,m,hm=>by simp [DataW.weights] at hm
  | .lit (.float _ _),t,hb,m,hm=>by simp [DataW.weights] at hm
  | .lit .nil,t,hb,m,hm=>by simp [DataW.weights] at hm
  | .nil,t,hb,m,hm=>by simp [DataW.weights] at hm
  | .held _,t,hb,m,hm=>by simp [DataW.weights] at hm
  | .iface _ _,t,hb,m,hm=>by simp [DataW.weights] at hm
  | .ptr d,t,hb,m,hm=>by
    have hb:=List.all_eq_true.1 hG t hb
    rw [DataW.weights] at hm
    rw [Rows.uptoBulk]
    unfold bG at hb
    split at hm
    · rename_i e hu
      rw [hu] at hb
      simp only [List.contains_iff_mem] at hb
      exact Nat.le_trans (w_leR hG h1 d _ hb m hm) (Nat.mul_le_mul_right _ (Nat.le_succ _))
    · simp at hm
  | .slice elems spare,t,hb,m,hm=>by
    have hb:=List.all_eq_true.1 hG t hb
    rw [DataW.weights] at hm
    rw [Rows.uptoBulk]
    unfold bG at hb
    split at hm
    · rename_i e hu
      rw [hu] at hb
      simp only [Bool.and_eq_true,decide_eq_true_eq,List.contains_iff_mem] at hb
      simp only [List.mem_cons,List.mem_append] at hm
      rcases hm with rfl | hm | hm
      · refine Nat.mul_le_mul ?_ hb.1
        have:=len_le elems
        have:=len_le spare
        omega
      · exact Nat.le_trans (ws_leR hG h1 elems _ hb.2 m hm) (Nat.mul_le_mul_right _ (by omega))
      · exact Nat.le_trans (ws_leR hG h1 spare _ hb.2 m hm) (Nat.mul_le_mul_right _ (by omega))
    · simp at hm
  | .agg parts,t,hb,m,hm=>by
    have hb:=List.all_eq_true.1 hG t hb
    rw [DataW.weights] at hm
    rw [Rows.uptoBulk]
    unfold bG at hb
    split at hm
    · rename_i fs hu
      rw [hu] at hb
      simp only [List.all_eq_true,List.contains_iff_mem] at hb
      refine Nat.le_trans (we_leR hG h1 parts _ (fun t ht=>?_) m hm) (Nat.mul_le_mul_right _ (by omega))
      obtain ⟨f,hf,rfl⟩:=List.mem_map.1 ht
      exact hb f hf
    · rename_i hu
      rw [hu] at hb
      simp only [List.contains_iff_mem] at hb
      exact Nat.le_trans (ws_leR hG h1 parts _ hb m hm) (Nat.mul_le_mul_right _ (by omega))
    · simp at hm
  | .map entries,t,hb,m,hm=>by
    have hb:=List.all_eq_true.1 hG t hb
    rw [DataW.weights] at hm
    unfold bG at hb
    split at hm
    · rename_i hu;rw [hu] at hb;cases hb
    · simp at hm
theorem ws_leR {H:Type} {P:Program} {M:Nat} {G:List TypeId} (hG:closedB P M G=true) (h1:1≤M):∀ (l:List (DataW H)) (t:TypeId),t∈G→∀ m∈DataW.weightsAll P t l,m≤Rows.uptoBulkAll l*M
  | [],t,hb,m,hm=>by simp [DataW.weightsAll] at hm
  | d::r,t,hb,m,hm=>by
    simp only [DataW.weightsAll,List.mem_append] at hm
    rw [Rows.uptoBulkAll]
    rcases hm with hm | hm
    · exact Nat.le_trans (w_leR hG h1 d _ hb m hm) (Nat.mul_le_mul_right _ (by omega))
    · exact Nat.le_trans (ws_leR hG h1 r _ hb m hm) (Nat.mul_le_mul_right _ (by omega))
theorem we_leR {H:Type} {P:Program} {M:Nat} {G:List TypeId} (hG:closedB P M G=true) (h1:1≤M):∀ (l:List (DataW H)) (ts:List TypeId),(∀ t∈ts,t∈G)→∀ m∈DataW.weightsEach P ts l,m≤Rows.uptoBulkAll l*M
  | [],[],hb,m,hm=>by simp [DataW.weightsEach] at hm
  | [],_::_,hb,m,hm=>by simp [DataW.weightsEach] at hm
  | _::_,[],hb,m,hm=>by simp [DataW.weightsEach] at hm
  | d::r,t::ts,hb,m,hm=>by
    simp only [DataW.weightsEach,List.mem_append] at hm
    rw [Rows.uptoBulkAll]
    rcases hm with hm | hm
    · exact Nat.le_trans (w_leR hG h1 d _ (hb t (by simp)) m hm) (Nat.mul_le_mul_right _ (by omega))
    · exact Nat.le_trans (we_leR hG h1 r _ (fun t ht=>hb t (by simp [ht])) m hm) (Nat.mul_le_mul_right _ (by omega))
end
theorem upto_weightsR {H:Type} {P:Program} (G:List TypeId) (hG:closedB P 4096 G=true) {ts:List TypeId} (hb:ts.all (G.contains ·)=true) {l:List (DataW H)} (hk:Rows.uptoSmall H l=true):(DataW.weightsEach P ts l).all (· ≤ 4294967296)=true:=by
  have hl:Rows.uptoBulkAll l≤1048576:=of_decide_eq_true hk
  rw [List.all_eq_true] at hb ⊢
  intro m hm
  have:=we_leR (M:=4096) hG (by decide) l ts (fun t ht=>by simpa using hb t ht) m hm
  have h2:=Nat.mul_le_mul_right 4096 hl
  simp only [decide_eq_true_eq]
  omega
set_option maxRecDepth 100000 in
theorem own:ownKnob Tryz.prog.godebug=none:=by kernel_rfl
set_option maxRecDepth 100000 in
theorem laid:laidOutB Tryz.prog=true:=by kernel_rfl
set_option maxRecDepth 100000 in
theorem bytes34:Tryz.prog.bytesOf 40=40:=by kernel_rfl
set_option maxRecDepth 100000 in
theorem bytes58:Tryz.prog.bytesOf 58=32:=by kernel_rfl
set_option maxRecDepth 100000 in
theorem bytes107:Tryz.prog.bytesOf 65=80:=by kernel_rfl
set_option maxRecDepth 100000 in
theorem fits_pos {P:Program} {R n:Nat} {t:TypeId} {xs:List C} (h:Fits P R n t xs):∃ m,n=m+1:=by
  cases n with
  | zero=>unfold Fits at h;exact h.elim
  | succ m=>exact ⟨m,rfl⟩
set_option maxRecDepth 100000 in
theorem fit_i64 {n:Nat} {R:Nat} {t:TypeId} {xs:List C} (hu:Tryz.prog.underlying t=some (.int .i64)) (h:Fits Tryz.prog R n t xs):∃ m:Int,xs=[i64 m]∧fits64 m=true:=by
  obtain ⟨n,rfl⟩:=fits_pos h
  obtain ⟨m,rfl,h1,h2⟩:=fits_i64 hu h
  exact ⟨m,rfl,(fits64_iff m).2 ⟨h1,h2⟩⟩
set_option maxRecDepth 100000 in
theorem fit_str {n R:Nat} {xs:List C} (h:Fits Tryz.prog R n 9 xs):∃ l:List UInt8,xs=[str l]∧l.length≤R:=by
  obtain ⟨n,rfl⟩:=fits_pos h
  exact fits_string Tryz.underlying9 h
set_option maxRecDepth 100000 in
theorem open_per (R n:Nat) (xs:List C) (h:Fits Tryz.prog R n 38 xs):∃ p:Per,xs=p.cells∧True:=by
  obtain ⟨n,rfl⟩:=fits_pos h
  obtain ⟨a1,_,rfl,h1,a2,_,rfl,h2,rfl⟩:=fits_struct Tryz.underlying38 h
  obtain ⟨f,rfl,_⟩:=fit_i64 Tryz.underlying2 h1
  obtain ⟨t,rfl,_⟩:=fit_i64 Tryz.underlying2 h2
  exact ⟨⟨f,t⟩,rfl,trivial⟩
set_option maxRecDepth 100000 in
theorem open_val (R n:Nat) (xs:List C) (h:Fits Tryz.prog R n 58 xs):∃ v:Val,xs=v.cells∧fits64 v.int=true:=by
  obtain ⟨n,rfl⟩:=fits_pos h
  obtain ⟨a1,_,rfl,h1,a2,_,rfl,h2,a3,_,rfl,h3,rfl⟩:=fits_struct Tryz.underlying58 h
  obtain ⟨k,rfl,_⟩:=fit_i64 Tryz.underlying3 h1
  obtain ⟨i,rfl,hi⟩:=fit_i64 Tryz.underlying2 h2
  obtain ⟨s,rfl,_⟩:=fit_str h3
  exact ⟨⟨k,i,s⟩,rfl,hi⟩
set_option maxRecDepth 100000 in
theorem open_ex (R:Nat) (hR:R≤80000000000):∀ (n:Nat) (xs:List C),Fits Tryz.prog R n 65 xs→∃ e:Ex,xs=e.cells∧e.fit:=by
  intro n
  induction n using Nat.strongRecOn with
  | _ n ih =>
    intro xs h
    obtain ⟨n,rfl⟩:=fits_pos h
    obtain ⟨a1,_,rfl,h1,a2,_,rfl,h2,a3,_,rfl,h3,a4,_,rfl,h4,a5,_,rfl,h5,rfl⟩:=fits_struct Tryz.underlying65 h
    obtain ⟨op,rfl,_⟩:=fit_str h1
    obtain ⟨int,rfl,hi⟩:=fit_i64 Tryz.underlying2 h2
    obtain ⟨text,rfl,_⟩:=fit_str h3
    obtain ⟨of,rfl,_⟩:=fit_str h4
    obtain ⟨m,rfl⟩:=fits_pos h5
    obtain ⟨nl,ys,rfl,hn,hl,hys⟩:=fits_slice Tryz.underlying60 h5
    obtain ⟨args,rfl,hq⟩:=fits_list Ex.cells Ex.fit (fun y hy=>ih m (by omega) y hy) hys
    rw [bytes107] at hl
    simp at hl
    refine ⟨.mk op int text of nl args,?_,?_⟩
    · rw [Ex.cells_mk];rfl
    · rw [Ex.fit]
      exact ⟨hi,by omega,(Ex.fits_iff args).2 hq⟩
set_option maxRecDepth 100000 in
theorem open_exs (R:Nat) (hR:R≤80000000000) (n:Nat) (xs:List C) (h:Fits Tryz.prog R n 60 xs):∃ (nl:Bool) (l:List Ex),xs=[.sl nl (exprs l)]∧Ex.fits l∧l.length*80≤R:=by
  obtain ⟨n,rfl⟩:=fits_pos h
  obtain ⟨nl,ys,rfl,hn,hl,hys⟩:=fits_slice Tryz.underlying60 h
  obtain ⟨l,rfl,hq⟩:=fits_list Ex.cells Ex.fit (open_ex R hR n) hys
  rw [bytes107] at hl
  exact ⟨nl,l,rfl,(Ex.fits_iff l).2 hq,by simpa using hl⟩
end Go.Proofs.YtlphpbcafplnbaaGreat
