/- Contracts of functions of the seat, proved in a logic on data over the model (part VY3). -/
import Derived.OrdersIn
import Derived.Test.YtlphpbcafplnbaaGreatVY2
import Derived.Test.YtlphpbcafplnbaaGreatVN17
set_option linter.unusedSimpArgs false
set_option linter.unusedVariables false
namespace Go.VL
open Go.RowKit
section
variable {P:Program} {w0:World} {K0:K0T} {nt:Nat} {ops:Array Oper} {mk:Nat→Nat} {bar:Nat→Bool} {Q:Exit→Act→World→Prop} {Kc:Nat→Nat→Prop} {J:Oth} {pre:List (List S)}
theorem wpOpIn_of {i:Nat} {o:Oper} (ho:ops[i]? = some o) {K:Act→World→Prop} {a:Act} {w:World} (h:stepWI none 0 P ops o a w K Q):wpOpIn (FR none) 0 P ops Q i K a w:=by
  unfold wpOpIn
  rw [ho]
  unfold stepWI at h
  simp only
  split
  · rename_i hw;rw [if_pos hw] at h;exact h
  · rename_i hw;rw [if_neg hw] at h;exact ⟨fun _ _=>trivial,h⟩
theorem stretchI {lo:Nat} {st0:St} {l:List Rec} (hS:Static nt ops mk bar) (hnd:∀ (i:Nat) (o:Oper),ops[i]? = some o→noDefer o=true) (hg:Good P w0 K0 nt ops mk lo st0 l) (hle:lo+l.length≤ops.size) (hbar:lo+l.length<ops.size→bar (lo+l.length)=true)
    (F:∀ fuel listed a w g,Lst ops.size listed (below (lo+l.length))→rem ops.size (below (lo+l.length))≤fuel→T w0 K0 nt (appA st0 l) a w g→wpAnyIn (FR none) 0 P .any ops Q fuel listed a w) :
    ∀ (fuel:Nat) (p:Nat→Bool) (listed:Array Bool) (a:Act) (w:World) (g:G),Lst ops.size listed p→rem ops.size p≤fuel→(∀ i,i<lo→p i=true)→(∀ i,lo+l.length≤i→i<ops.size→p i=false)→Down ops.size mk p →
      T w0 K0 nt (appF p st0 l) a w g→wpAnyIn (FR none) 0 P .any ops Q fuel listed a w:=by
  intro fuel
  induction fuel with
  | zero =>
    intro p listed a w g hL hr h1 h2 hd hT
    have all:∀ i,i<ops.size→p i=true:=by
      intro i hi
      unfold rem at hr
      have:=List.countP_eq_zero.1 (Nat.le_zero.1 hr) i (by simpa using hi)
      simpa using this
    have hn:lo+l.length=ops.size:=by
      by_cases q:lo+l.length<ops.size
      · have:=h2 _ (Nat.le_refl _) q
        rw [all _ q] at this;cases this
      · omega
    have hc:∀ i,i<ops.size→p i=below (lo+l.length) i:=fun i hi=>by rw [all i hi];simp [below];omega
    refine F 0 listed a w g ⟨hL.size,fun i hi=>by rw [hL.at_ i hi];exact hc i hi⟩ ?_ ?_
    · have:rem ops.size (below (lo+l.length))=rem ops.size p:=by
        unfold rem
        exact List.countP_congr (fun i hi=>by rw [hc i (by simpa using hi)])
      rw [this];exact hr
    · rw [← appF_true,← appF_congr (p:=p) (q:=fun _=>true) l st0 (fun y hy=>all y.j (by have:=(hg.idx y hy).2.1;omega))]
      exact hT
  | succ fuel ih =>
    intro p listed a w g hL hr h1 h2 hd hT
    by_cases hall:∀ i,lo≤i→i<lo+l.length→p i=true
    · have hc:∀ i,i<ops.size→p i=below (lo+l.length) i:=fun i hi=>by
        by_cases q:i<lo+l.length
        · have:p i=true:=by
            by_cases q2:i<lo
            · exact h1 i q2
            · exact hall i (by omega) q
          rw [this];simp [below,q]
        · rw [h2 i (by omega) hi];simp [below];omega
      refine F _ listed a w g ⟨hL.size,fun i hi=>by rw [hL.at_ i hi];exact hc i hi⟩ ?_ ?_
      · have:rem ops.size (below (lo+l.length))=rem ops.size p:=by
          unfold rem
          exact List.countP_congr (fun i hi=>by rw [hc i (by simpa using hi)])
        rw [this];exact hr
      · rw [← appF_true,← appF_congr (p:=p) (q:=fun _=>true) l st0 (fun y hy=>by
          have:=hg.idx y hy
          exact hall y.j this.1 this.2.1)]
        exact hT
    · have hex:∃ i,lo≤i∧i<lo+l.length∧p i=false∧∀ k,k<i→p k=true:=by
        have hne:∃ i,lo≤i∧i<lo+l.length∧p i=false:=by
          refine Classical.byContradiction fun hh=>hall fun i q1 q2=>?_
          cases hp:p i with
          | true=>rfl
          | false=>exact absurd ⟨i,q1,q2,hp⟩ hh
        have:∀ n i,i≤n→lo≤i→i<lo+l.length→p i=false→∃ i,lo≤i∧i<lo+l.length∧p i=false∧∀ k,k<i→p k=true:=by
          intro n
          induction n with
          | zero=>intro i hi q1 q2 q3;exact ⟨i,q1,q2,q3,fun k hk=>by omega⟩
          | succ n ihn =>
            intro i hi q1 q2 q3
            by_cases hk:∃ k,k<i∧p k=false
            · obtain ⟨k,k1,k2⟩:=hk
              refine ihn k (by omega) ?_ (by omega) k2
              by_cases q:k<lo
              · rw [h1 k q] at k2;cases k2
              · omega
            · refine ⟨i,q1,q2,q3,fun k hk'=>?_⟩
              cases hp:p k with
              | true=>rfl
              | false=>exact absurd ⟨k,hk',hp⟩ hk
        obtain ⟨i,q1,q2,q3⟩:=hne
        exact this i i (Nat.le_refl _) q1 q2 q3
      obtain ⟨i,q1,q2,q3,q4⟩:=hex
      have hready:=ready_of hS hL (by omega) q3 q4
      refine ⟨fun he=>by rw [he] at hready;simp at hready,fun j hj=>?_⟩
      obtain ⟨s1,s2,_⟩:=ready_spec hL hj
      have hdn:=ready_down hS hL hd hj
      have j1:lo≤j:=by
        by_cases q:j<lo
        · rw [h1 j q] at s2;cases s2
        · omega
      have j2:j<lo+l.length:=by
        by_cases q:j<lo+l.length
        · exact q
        · exfalso
          have hb:=hbar (by omega)
          by_cases q5:j=lo+l.length
          · have:=hdn i (by omega) (hS.b1 j i s1 (by rw [q5];exact hb) (by omega))
            rw [q3] at this;cases this
          · have:=hdn (lo+l.length) (by omega) (hS.b2 _ j s1 hb (by omega))
            rw [h2 _ (Nat.le_refl _) (by omega)] at this;cases this
      have hst:=good_stepS (Q:=Q) (next:=wpAnyIn (FR none) 0 P .any ops Q fuel (listed.setIfInBounds j true)) hS hg hd s1 j1 j2 s2 hdn hT (fun a' w' g' hT'=>by
        refine ih (ins p j) _ a' w' g' (hL.set s1) (by have:=rem_ins s1 s2;omega) (fun k hk=>by simp [ins,h1 k hk]) (fun k k1 k2=>?_) (hd.ins hdn) hT'
        have:(k == j)=false:=by simp;omega
        simp [ins,this,h2 k k1 k2])
      obtain ⟨o,ho,hst⟩:=hst
      exact wpOpIn_of ho (stepWI_of (hnd j o ho) hst)
def BarJ (P:Program) (w0:World) (K0:K0T) (nt:Nat) (Kc:Nat→Nat→Prop) (J:Oth) (ops:Array Oper) (o:Oper) (cur:St) (pre:List (List S)) (k:St→List (List S)→Prop) (_:Keep k):Prop :=
  ∀ a w g Fo,TJ w0 K0 nt Kc J cur a w g pre Fo→opOk nt o=true→noDefer o=true→∀ (next:Act→World→Prop) (Q:Exit→Act→World→Prop),(∀ st' pre' a' w' g' Fo',k st' pre'→TJ w0 K0 nt Kc J st' a' w' g' pre' Fo'→next a' w')→stepWI none 0 P ops o a w next Q
theorem BarJ.run (hJ:J.Ab Kc) {o:Oper} {cur:St} {k:St→List (List S)→Prop} {m:Keep k} (h:vstepL P ops cur o fun st'=>k st' pre):BarJ P w0 K0 nt Kc J ops o cur pre k m :=
  fun a w g Fo hT hok hnd next Q hn=>stepWI_of hnd (vstepL_ok hT.t.reroot hok h next Q fun st' a' w' g' h1 h2=>hn st' pre a' w' g' Fo h1 (hT.reroot hJ h2))
def vdJ (P:Program) (w0:World) (K0:K0T) (nt:Nat) (Kc:Nat→Nat→Prop) (J:Oth) (ops:Array Oper):List Oper→List (Nat × Bool)→Nat→St→List Rec→St→List (List S)→(St→List (List S)→Prop)→Prop
  | [],_,_,_,_,cur,pre,K=>K cur pre
  | _::_,[],_,_,_,_,_,_=>False
  | o::r,(m,b)::pl,j,st0,l,cur,pre,K =>
    bif b then BarJ P w0 K0 nt Kc J ops o cur pre (fun st' pre'=>vdJ P w0 K0 nt Kc J ops r pl (j+1) st' [] st' pre' K) .mk
    else veff P ops (restr cur (rdOf cur o)) o fun e=>chk m st0 l e (rdOf cur o)=true∧vdJ P w0 K0 nt Kc J ops r pl (j+1) st0 (l++[⟨j,e,rdOf cur o⟩]) (cur.app e) pre K
theorem vdJ_ok (hJ:J.Ab Kc) {K:St→List (List S)→Prop} (hS:Static nt ops mk bar) (hnd:∀ (i:Nat) (o:Oper),ops[i]? = some o→noDefer o=true) (hK:∀ st pre a w g Fo,K st pre→TJ w0 K0 nt Kc J st a w g pre Fo→Q .normal a w):∀ (r:List Oper) (pl:List (Nat × Bool)) (j lo:Nat) (st0:St) (l:List Rec) (cur:St) (pre:List (List S)) (a:Act) (w:World) (g:G) (Fo:Nat→Prop),TJ w0 K0 nt Kc J st0 a w g pre Fo →
    (∀ k,r[k]? = ops[j+k]?)→j+r.length=ops.size→(∀ k,k<r.length→∃ x,pl[k]? = some x∧mk (j+k)=x.1∧bar (j+k)=x.2)→Good P w ⟨g.K,ownL g st0.rs,a.defers⟩ nt ops mk lo st0 l→j=lo+l.length→cur=appA st0 l→vdJ P w0 K0 nt Kc J ops r pl j st0 l cur pre K →
    ∀ fuel listed,Lst ops.size listed (below lo)→rem ops.size (below lo)≤fuel→wpAnyIn (FR none) 0 P .any ops Q fuel listed a w
  | [],pl,j,lo,st0,l,cur,pre,a,w,g,Fo,hT,hr,hn,_,hg,hj,hcur,hv=>by
    intro fuel listed hL hrem
    simp at hn
    refine stretchI hS hnd hg (by omega) (fun h=>by omega) (fun fuel listed a w g hL hrem hT2=>?_) fuel (below lo) listed a w g hL hrem (fun i hi=>by simp [below,hi]) (fun i h1 h2=>by simp [below];omega) (below_down hS lo) (by rw [below_none hg];exact hT.t.reroot)
    have hQ:=hK cur pre _ _ _ Fo hv (by rw [hcur];exact hT.reroot hJ hT2)
    have none:∀ i,i ∉ Region.ready .any ops listed:=fun i hi=>by
      obtain ⟨h1,h2,_⟩:=ready_spec hL hi
      simp [below] at h2
      omega
    cases fuel with
    | zero=>exact ⟨List.eq_nil_iff_forall_not_mem.2 none,hQ⟩
    | succ fuel=>exact ⟨fun _=>hQ,fun i hi=>absurd hi (none i)⟩
  | o::r,pl,j,lo,st0,l,cur,pre,a,w,g,Fo,hT,hr,hn,hpl,hg,hj,hcur,hv=>by
    intro fuel listed hL hrem
    have ho:ops[j]? = some o:=by have:=hr 0;simpa using this.symm
    have hjn:j<ops.size:=by simp at hn;omega
    obtain ⟨x,hx,hm,hb⟩:=hpl 0 (by simp)
    simp only [Nat.add_zero] at hm hb
    have hok:=hS.ok j o ho
    cases pl with
    | nil=>simp at hx
    | cons mb pl =>
      simp at hx
      subst hx
      obtain ⟨m,b⟩:=mb
      simp only at hm hb
      have hr':∀ k,r[k]? = ops[j+1+k]? := fun k=>by
        have:=hr (k+1)
        rw [show j+1+k=j+(k+1) from by omega]
        simpa using this
      have hpl':∀ k,k<r.length→∃ x,pl[k]? = some x∧mk (j+1+k)=x.1∧bar (j+1+k)=x.2:=fun k hk=>by
        obtain ⟨x,h1,h2,h3⟩:=hpl (k+1) (by simpa using hk)
        exact ⟨x,by simpa using h1,by rw [show j+1+k=j+(k+1) from by omega];exact h2,by rw [show j+1+k=j+(k+1) from by omega];exact h3⟩
      have hn':j+1+r.length=ops.size:=by simp at hn;omega
      cases b with
      | true =>
        rw [vdJ] at hv
        simp only [cond_true] at hv
        refine stretchI hS hnd hg (by omega) (fun h=>by rw [← hj];exact hb) (fun fuel listed a w g hL hrem hT2=>?_) fuel (below lo) listed a w g hL hrem (fun i hi=>by simp [below,hi]) (fun i h1 h2=>by simp [below];omega) (below_down hS lo) (by rw [below_none hg];exact hT.t.reroot)
        rw [← hj] at hL hrem
        have hready:=ready_of hS hL hjn (by simp [below]) (fun k hk=>by simp [below,hk])
        cases fuel with
        | zero =>
          exfalso
          unfold rem at hrem
          have:=List.countP_eq_zero.1 (Nat.le_zero.1 hrem) j (by simpa using hjn)
          simp [below] at this
        | succ fuel =>
          refine ⟨fun he=>by rw [he] at hready;simp at hready,fun i hi=>?_⟩
          obtain ⟨s1,s2,_⟩:=ready_spec hL hi
          have hdn:=ready_down hS hL (below_down hS j) hi
          have hij:i=j:=by
            simp [below] at s2
            by_cases q:i=j
            · exact q
            · have:=hdn j hjn (hS.b2 j i s1 hb (by omega))
              simp [below] at this
          subst hij
          refine wpOpIn_of ho (hv _ _ _ Fo (by rw [hcur];exact hT.reroot hJ hT2) hok (hnd i o ho) _ _ (fun st' pre' a' w' g' Fo' hv' hT'=>?_))
          refine vdJ_ok hJ hS hnd hK r pl (i+1) (i+1) st' [] st' pre' a' w' g' Fo' hT' hr' hn' hpl' .nil rfl rfl hv' fuel _ ?_ ?_
          · have:=hL.set s1
            refine ⟨this.size,fun k hk=>by
              rw [this.at_ k hk]
              by_cases q:k=i
              · subst q;simp [ins,below]
              · have:(k == i)=false:=by simpa using q
                simp only [ins,below,this,Bool.false_or]
                by_cases q2:k<i
                · have:k<i+1:=by omega
                  simp [q2,this]
                · have:¬ k<i+1:=by omega
                  simp [q2,this]⟩
          · have h1:=rem_ins (p:=below i) s1 s2
            have h2:rem ops.size (below (i+1))=rem ops.size (ins (below i) i):=by
              unfold rem
              refine List.countP_congr (fun k hk=>?_)
              by_cases q:k=i
              · subst q;simp [ins,below]
              · have:(k == i)=false:=by simpa using q
                simp only [ins,below,this,Bool.false_or]
                by_cases q2:k<i
                · have:k<i+1:=by omega
                  simp [q2,this]
                · have:¬ k<i+1:=by omega
                  simp [q2,this]
            omega
      | false =>
        rw [vdJ] at hv
        simp only [cond_false] at hv
        obtain ⟨e,⟨hc,hv'⟩,hd,hstep⟩:=veff_ok (w0:=w) (K0:=⟨g.K,ownL g st0.rs,a.defers⟩) hok hv
        obtain ⟨c1,c2⟩:=chk_ok (x:=⟨j,e,rdOf cur o⟩) hg hm hc
        have hrec:RecOK P w ⟨g.K,ownL g st0.rs,a.defers⟩ nt ops mk st0 l ⟨j,e,rdOf cur o⟩:=⟨⟨o,ho,hd,by rw [← hcur];exact hstep⟩,c1,c2⟩
        exact vdJ_ok hJ hS hnd hK r pl (j+1) lo st0 (l++[⟨j,e,rdOf cur o⟩]) (cur.app e) pre a w g Fo hT hr' hn' hpl' (.snoc hg hj hrec) (by rw [List.length_append];simp;omega) (by rw [appA_snoc,hcur]) hv' fuel listed hL hrem
theorem VWJ.draw (hJ:J.Ab Kc) {id:Nat} {l:List Oper} {st:St} {Q:Exit→St→List (List S)→Prop} (hm:P.follows .mixedOrders=true) (pl:List (Nat × Bool)) (hS:(staticB nt l.toArray (pmask pl) (pbar pl) && pl.length == l.toArray.size)=true) (hnd:(l.all noDefer)=true)
    (hv:vdJ P w0 K0 nt Kc J l.toArray l pl 0 st [] st pre (Q .normal)):VWJ P w0 K0 nt Kc J (.region id l.toArray true) st pre Q:=by
  intro a w g Fo hT
  rw [Bool.and_eq_true,beq_iff_eq] at hS
  refine (wpIn_wide (n:=0)).1 (wpIn_region_any (F:=FR none) hm ?_)
  have hT':T w ⟨g.K,ownL g st.rs,a.defers⟩ nt st a { w with drawn:=w.drawn+1 } g :=
    hT.t.reroot.world (w':={ w with drawn:=w.drawn+1 }) (K':=g.K) ⟨rfl,rfl,rfl,Nat.le_refl _,fun _ _=>rfl,Nat.le_succ _⟩ ⟨fun _ _ h=>h,fun _ _ _=>rfl⟩ hT.t.reroot.kold hT.t.klt (fun _ _ _ _ _=>⟨rfl,fun _ h=>h⟩)
  refine vdJ_ok (mk:=pmask pl) (bar:=pbar pl) hJ (static_of hS.1) (fun i o ho=>?_) (fun st pre a w g Fo h1 h2=>⟨st,g,pre,Fo,h1,h2⟩) l pl 0 0 st [] st pre a _ g Fo (hT.reroot hJ hT') (fun k=>by simp) (by simp) (fun k hk=>?_) .nil rfl rfl hv _ _ ⟨by simp,fun i hi=>?_⟩ ?_
  · exact List.all_eq_true.1 hnd o (by simpa using List.mem_of_getElem? (l:=l) (i:=i) (by simpa using ho))
  · have hlt:k<pl.length:=by rw [hS.2];simpa using hk
    refine ⟨pl[k],by simp [hlt],?_,?_⟩ <;> simp [pmask,pbar,hlt]
  · rw [Array.getD_eq_getD_getElem?];simp [below] at hi ⊢
    simp [hi]
  · unfold rem
    exact Nat.le_trans List.countP_le_length (by simp)
end
def ConY (P:Program) (f:FuncId) (args:List S) (b:List (Nat × Res)) (N:Nat) (Ty:List S→Prop) (Qy:List (List S)→Prop):Prop :=
  callable P f=true∧∀ (l:Nat) (Kc:Nat→Nat→Prop) (J:Oth),J.Ab Kc→YStep Kc P l N Ty J→∀ (w:World) (g:G) (us:List Value) (Fo:Nat→Prop),
    M w ⟨g.K,fun k=>lent g b k∨Fo k,[]⟩ (lk b) w g→SRs g w (lk b) (.c (.v (.func (.yield l) #[] #[]))::args) us→J [] w Fo→(∀ i r k,lk b i=some r→blk (g.loc i)=some k→¬ Fo k) →
    (∀ k o,g.K k o→Fo k→Kc k o)→(∀ k o,Kc k o→g.K k o) →
    Calls P f us.toArray w fun e w'=>(∃ v,e = .returned v)∧∃ ys Fo',Qy ys∧J ys w' Fo'∧Bel w ⟨g.K,fun k=>lent g b k∨Fo k,[]⟩ w w'∧(∀ k o,g.K k o→w'.cell? ⟨k,o,none⟩=w.cell? ⟨k,o,none⟩) ∧
      (∀ k,Fo' k→¬ Old w ⟨g.K,fun k=>lent g b k∨Fo k,[]⟩ k)
def initY (args:List S) (b:List (Nat × Res)):St:=⟨initEnv 0 args,b.map fun p=>(p.1,some p.2)⟩
section
variable {P:Program}
theorem M.init0 {w0:World} {K0:K0T} {nt:Nat} {args:List S} {b:List (Nat × Res)} {us:List Value} {w:World} {g:G} (hM:M w0 K0 (lk b) w g) (hdf:K0.df=[]) (hargs:SRs g w (lk b) args us) (hn:args.length≤nt) :
    T w0 K0 nt (initY args b) { tmps:=us.toArray++Array.replicate (nt-us.toArray.size) undef,defers:=[] } w g:=by
  obtain ⟨hl,hs⟩:=(SRs_iff _ _).1 hargs
  refine ⟨hM.below,hM.k0,hM.kold,hM.klt,hM.res,hM.dis,fun t=>?_,(by simp;omega),hdf.symm,hM.keep⟩
  have hg:(initY args b).get t=(args[t]?).getD .un:=by
    unfold St.get initY
    rw [vlook_init];simp
  show SR g w (lk b) ((initY args b).get t) _
  rw [hg]
  cases e:args[t]? with
  | none=>simp [SR]
  | some s =>
    have hlt:=(List.getElem?_eq_some_iff.1 e).1
    refine hs t s _ e ?_
    simp [Array.getD,hl,hlt]
    omega
end
end Go.VL
