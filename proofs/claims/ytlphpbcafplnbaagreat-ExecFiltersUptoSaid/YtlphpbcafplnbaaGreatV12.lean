/- Contracts of functions of the seat, proved in a logic on data over the model (part V12). -/
import Derived.Test.YtlphpbcafplnbaaGreatV10
set_option linter.unusedSimpArgs false
set_option linter.unusedVariables false
namespace Go.VL
open Go.RowKit
section
variable {P:Program} {w0:World} {K0:K0T} {nt:Nat} {st:St} {a:Act} {w:World} {g:G}
theorem cellsH_ok (h:T w0 K0 nt st a w g) {s:S} {cs:List S} {u:Value} (hc:cellsH st s=some cs) (hs:SR g w st.rs s u):SRs g w st.rs cs u.cells.toList∧∀ v∈u.cells.toList,v.oneCell'=true:=by
  have one:u.oneCell'=true→u.cells = #[u]:=fun h=>by cases u <;> first | rfl | cases h
  have fin:∀ s,SR g w st.rs s u→u.oneCell'=true→SRs g w st.rs [s] u.cells.toList∧∀ v∈u.cells.toList,v.oneCell'=true:=fun s hs h1=>by
    rw [one h1]
    refine ⟨by simp only [SRs];exact ⟨u,[],rfl,hs,rfl⟩,fun v hv=>?_⟩
    simp at hv;subst hv;exact h1
  unfold cellsH at hc
  split at hc
  · cases hc
    have hs':=hs
    rw [SR] at hs'
    exact fin _ hs (CR.one hs')
  · rename_i cs'
    cases hc
    rw [SR] at hs
    obtain ⟨us,rfl,hv⟩:=hs
    have hv':=(VR_iff _ _).1 hv
    show SRs g w st.rs (cs'.map .c) us∧∀ v∈us,v.oneCell'=true
    refine ⟨?_,fun v hm=>?_⟩
    · rw [SRs_iff]
      refine ⟨by simp [hv'.1],fun k s u e1 e2=>?_⟩
      simp only [List.getElem?_map,Option.map_eq_some_iff] at e1
      obtain ⟨c,e1,rfl⟩:=e1
      rw [SR]
      exact hv'.2 k c u e1 e2
    · obtain ⟨k,hk,rfl⟩:=List.mem_iff_getElem.1 hm
      have hk':k<cs'.length:=by have:=hv'.1;omega
      exact CR.one (hv'.2 k cs'[k] _ (by simp [hk']) (by simp))
  · rename_i ss
    cases hc
    rw [SR] at hs
    obtain ⟨us,rfl,h1,h2⟩:=hs
    exact ⟨by simpa [Value.cells] using h1,by simpa [Value.cells] using h2⟩
  · rename_i i o
    split at hc
    · rename_i fz ss hr
      cases hc
      have hs':=hs
      rw [SR] at hs'
      obtain ⟨b,_,rfl⟩:=hs' fz ss hr
      exact fin _ hs rfl
    · cases hc
  · rename_i i n
    split at hc
    · rename_i nil sz xs fx hr
      split at hc
      · rename_i hn
        cases hc
        have hs':=hs
        rw [SR] at hs'
        have hu:=hs' nil sz xs fx hr hn
        refine fin _ hs ?_
        rcases h.res i _ hr with ⟨_,_,e,_⟩ | ⟨_,b,cap,cur,E,e,_⟩ <;> rw [hu,e] <;> rfl
      · cases hc
    · cases hc
  · cases hc
theorem SR.nilown (g:G) (w:World) {R:Nat→Option Res} {N:Nat} (hl:g.loc N = .slice none 0 0):SR g w R (.own N 0) (.slice none 0 0):=by
  rw [SR];intro _ _ _ _ _ _;exact hl.symm
theorem SR.keep {g g':G} {R R':Nat→Option Res} {N:Nat} (hk:g'.K=g.K) (hl:∀ j,j≠N→g'.loc j=g.loc j) (hR:∀ j,j≠N→R' j=(R j).map (Res.clr N)) {w':World} (hw:Keeps g.K w g.K w') {s:S} {u:Value} (hm:s.men N=false) (h:SR g w R s u):SR g' w' R' s u:=by
  refine SR.mono (by rw [hk];exact hw) s u (fun j hj=>?_) h
  have hji:j≠N:=fun e=>by subst e;rw [hj] at hm;cases hm
  refine ⟨fun fz ss' e=>?_,fun nil sz xs fx e=>?_,fun kvs e=>?_⟩
  · rw [hR j hji] at e
    cases hs:R j with
    | none=>simp [hs] at e
    | some r=>cases r with
      | box fz0 ss0=>exact ⟨⟨fz0,ss0,rfl⟩,hl j hji⟩
      | arr _ _ _ _=>simp [hs,Res.clr] at e
      | pin _ _=>simp [hs,Res.clr] at e
      | map _=>simp [hs,Res.clr] at e
  · rw [hR j hji] at e
    cases hs:R j with
    | none=>simp [hs] at e
    | some r=>cases r with
      | box fz0 ss0=>simp [hs,Res.clr] at e
      | arr nil0 sz0 xs0 fx0 =>
        simp [hs,Res.clr] at e
        obtain ⟨rfl,rfl,rfl,rfl⟩:=e
        exact ⟨⟨_,_,_,rfl,rfl⟩,hl j hji⟩
      | pin _ _=>simp [hs,Res.clr] at e
      | map _=>simp [hs,Res.clr] at e
  · rw [hR j hji] at e
    cases hs:R j with
    | none=>simp [hs] at e
    | some r=>cases r with
      | box fz0 ss0=>simp [hs,Res.clr] at e
      | arr _ _ _ _=>simp [hs,Res.clr] at e
      | pin _ _=>simp [hs,Res.clr] at e
      | map k0 =>
        simp [hs,Res.clr] at e
        exact ⟨⟨k0,rfl,by rw [← e,MB.sh_clr]⟩,hl j hji⟩
theorem rs_make (st:St) (N j:Nat) (r:Option Res) (h:j≠N):((st.clr N).setR N r).rs j=(st.rs j).map (Res.clr N):=by
  rw [St.rs_setR,if_neg (Ne.symm h),St.rs_clr]
theorem znils_ok (N:Nat):∀ (vs:List Value) (k:Nat) (st:St) (g:G),T w0 K0 nt st a w g→(∀ v∈vs,v.oneCell'=true) →
    ∃ g',T w0 K0 nt (znils N k vs st) a w g'∧SRs g' w (znils N k vs st).rs (zcells N k vs) vs∧g'.K=g.K∧(∀ s u,(∀ j,k≤j→s.men (N+j+1)=false)→SR g w st.rs s u→SR g' w (znils N k vs st).rs s u)
  | [],k,st,g,h,_=>⟨g,h,by simp [zcells,SRs],rfl,fun _ _ _ h=>h⟩
  | v::r,k,st,g,h,h1=>by
    by_cases hv:v = .slice none 0 0
    · subst hv
      obtain ⟨g1,k1,k2,k3,k4⟩:=h.nilR (N+k+1)
      obtain ⟨g',m1,m2,m3,m4⟩:=znils_ok N r (k+1) _ g1 k1 (fun v hv=>h1 v (by simp [hv]))
      have e1:znils N k (.slice none 0 0::r) st=znils N (k+1) r ((st.clr (N+k+1)).setR (N+k+1) (some (.arr true 0 [] 0))):=by rw [znils]
      have e2:zcells N k (.slice none 0 0::r) = .own (N+k+1) 0::zcells N (k+1) r:=by rw [zcells]
      rw [e1,e2]
      refine ⟨g',m1,?_,m3.trans k4,fun s u hm hs=>m4 s u (fun j hj=>hm j (by omega)) ?_⟩
      · rw [SRs]
        refine ⟨_,_,rfl,m4 _ _ (fun j hj=>by simp [S.men];omega) (SR.nilown g1 w k2),m2⟩
      · exact SR.keep k4 k3 (fun j hj=>rs_make st _ j _ hj) (Keeps.refl _ _) (hm k (Nat.le_refl _)) hs
    · obtain ⟨g',m1,m2,m3,m4⟩:=znils_ok N r (k+1) st g h (fun v hv=>h1 v (by simp [hv]))
      have e1:znils N k (v::r) st=znils N (k+1) r st:=by
        rw [znils];exact hv
      have e2:zcells N k (v::r) = .c (ofVal v)::zcells N (k+1) r:=by
        rw [zcells];exact hv
      rw [e1,e2]
      refine ⟨g',m1,?_,m3,fun s u hm hs=>m4 s u (fun j hj=>hm j (by omega)) hs⟩
      rw [SRs]
      refine ⟨_,_,rfl,?_,m2⟩
      rw [SR]
      exact CR_ofVal _ _ _ (h1 v (by simp))
theorem zcells_men (N:Nat):∀ (vs:List Value) (k:Nat),S.mens N (zcells N k vs)=false
  | [],k=>by simp [zcells,S.mens]
  | v::r,k=>by
    by_cases hv:v = .slice none 0 0
    · subst hv
      have e2:zcells N k (.slice none 0 0::r) = .own (N+k+1) 0::zcells N (k+1) r:=by rw [zcells]
      rw [e2,S.mens,zcells_men N r (k+1)]
      simp [S.men]
      omega
    · have e2:zcells N k (v::r) = .c (ofVal v)::zcells N (k+1) r:=by
        rw [zcells];exact hv
      rw [e2,S.mens,zcells_men N r (k+1)]
      simp [S.men]
theorem T.putp (h:T w0 K0 nt st a w g) {N t b:Nat} (ht:t<nt) (hl:g.loc N = .pointer (some ⟨b,0,none⟩)):T w0 K0 nt (st.put t (.ptr N 0)) (a.put (some t) (.pointer (some ⟨b,0,none⟩))) w g :=
  h.put ht (by rw [SR];intro _ _ _;exact ⟨b,hl,rfl⟩)
theorem T.puto (h:T w0 K0 nt st a w g) {N t n:Nat} {v:Value} (ht:t<nt) (hl:g.loc N=v):T w0 K0 nt (st.put t (.own N n)) (a.put (some t) v) w g :=
  h.put ht (by rw [SR];intro _ _ _ _ _ _;exact hl.symm)
variable {o:Oper} {K:St→Prop} {e:Operand→S} {next:Act→World→Prop} {Q:Exit→Act→World→Prop}
theorem valloc_ok (h:T w0 K0 nt st a w g) (hd:∀ t,o.dst=some t→t<nt) {t:TypeId} (ho:o.op = .alloc t) (hv:valloc P o.dst st t K) (hn:∀ st' a' w' g',K st'→T w0 K0 nt st' a' w' g'→next a' w'):o.wp P a w next Q:=by
  unfold valloc at hv
  split at hv
  · rename_i x z hx hz
    obtain ⟨h1,hK⟩:=hv
    have h1':∀ v∈z.cells.toList,v.oneCell'=true:=fun v hv=>Array.all_eq_true_iff_forall_mem.1 h1 v (by simpa using hv)
    obtain ⟨g1,k1,k2,k3,k4⟩:=znils_ok (64*x) z.cells.toList 0 st g h h1'
    obtain ⟨g2,m1,m2,m3,m4⟩:=k1.newbox (64*x) _ _ t k2 h1' (zcells_men _ _ _)
    have hr:(execOp a.eval o).run P w = .ok (.value (.pointer (some ⟨w.heap.size,0,none⟩))) (w.alloc (.cells z.cells.toList.toArray t)):=by
      simp [execOp,ho,Instr.alloc,run_zero hz,newVar,newRow]
    refine ow_value hr (hn _ _ _ g2 hK ?_)
    rw [hx]
    exact m1.putp (hd x hx) m2
  · exact hv.elim
theorem vbox_ok (h:T w0 K0 nt st a w g) (hd:∀ t,o.dst=some t→t<nt) {t:TypeId} {x:Operand} (ho:o.op = .box t x) (he:SR g w st.rs (e x) (a.eval x)) (hv:vbox o.dst st (e x) K) (hn:∀ st' a' w' g',K st'→T w0 K0 nt st' a' w' g'→next a' w'):o.wp P a w next Q:=by
  unfold vbox at hv
  split at hv
  · rename_i y hy
    obtain ⟨s',st',g',k1,k2,k3,k4,k5,k6⟩:=vsnap_ok h he hv
    split at k1
    · rename_i cs hcs
      obtain ⟨hm,hK⟩:=k1
      obtain ⟨c1,c2⟩:=cellsH_ok k2 hcs k3
      obtain ⟨g2,m1,m2,m3,m4⟩:=k2.newbox (64*y) _ _ t c1 c2 hm
      have hr:(execOp a.eval o).run P w = .ok (.value (.pointer (some ⟨w.heap.size,0,none⟩))) (w.alloc (.cells (a.eval x).cells.toList.toArray t)):=by
        simp [execOp,ho,Instr.box,newVar,newRow]
      refine ow_value hr (hn _ _ _ g2 hK ?_)
      rw [hy]
      exact m1.putp (hd y hy) m2
    · exact k1.elim
  · exact hv.elim
theorem vstore_ok (h:T w0 K0 nt st a w g) (hdst:o.dst=none) {t:TypeId} {ad x:Operand} (ho:o.op = .store t ad x) (ha:SR g w st.rs (e ad) (a.eval ad)) (he:SR g w st.rs (e x) (a.eval x)) (hv:vstore P st t (e ad) (e x) K) (hn:∀ st' a' w' g',K st'→T w0 K0 nt st' a' w' g'→next a' w'):o.wp P a w next Q:=by
  have hrun:∀ w',(Instr.storeAt t (a.eval ad) (a.eval x)).run P w = .ok () w'→(execOp a.eval o).run P w = .ok .skip w':=fun w' hr=>by simp [execOp,ho,hr]
  unfold vstore at hv
  split at hv
  · rename_i i off hea
    split at hv
    · rename_i ss agg n cs hr ht hcs
      obtain ⟨h1,h2,hK⟩:=hv
      obtain ⟨c1,c2⟩:=cellsH_ok h hcs he
      rw [hea] at ha
      obtain ⟨w',r1,r2⟩:=h.store_box (P:=P) hr ht ha c1 c2 h1 h2
      refine ow_skip (hrun w' r1) ?_
      rw [hdst]
      exact hn _ _ _ _ hK r2
    · exact hv.elim
  · rename_i i m j off hea
    obtain ⟨s',st',g',k1,k2,k3,k4,k5,k6⟩:=vsnap_ok h he hv
    split at k1
    · rename_i nil sz xs fx agg n cs hr ht hcs
      obtain ⟨h1,h2,h3,h4,h5,hK⟩:=k1
      rw [hea] at ha
      obtain ⟨w',r1,r2⟩:=k2.store_arr (P:=P) hr ht (k4 _ _ ha) h2 h3 (cellsS_VR hcs k3) (cellsS_one hcs k3) h1 h4 h5
      refine ow_skip (hrun w' r1) ?_
      rw [hdst]
      exact hn _ _ _ _ hK r2
    · exact k1.elim
  · exact hv.elim
theorem vpure_ok (h:T w0 K0 nt st a w g) (hd:∀ t,o.dst=some t→t<nt) (he:∀ x∈o.op.operands.toList,SR g w st.rs (e x) (a.eval x)) (hv:vpure P o.dst st e o.op K) (hn:∀ st' a' w' g',K st'→T w0 K0 nt st' a' w' g'→next a' w'):o.wp P a w next Q:=by
  obtain ⟨h1,h2⟩:=hv
  obtain ⟨u,r1,r2⟩:=pev_ok h o e he h1
  exact ow_value r1 (hn _ _ _ _ h2 (h.putd hd r2))
end
section
variable {P:Program} {w0:World} {K0:K0T} {nt:Nat} {st:St} {a:Act} {w:World} {g:G}
variable {o:Oper} {K:St→Prop} {e:Operand→S} {next:Act→World→Prop} {Q:Exit→Act→World→Prop}
theorem append_run {t xt:TypeId} {d x:Operand} (ho:o.op = .call { callee:=.builtin .append,args:=#[d,x],argTypes:=#[t,xt] }) {v:Value} {w':World} (h:(Builtin.append_ #[t,xt] o.type #[a.eval d,a.eval x]).run P w = .ok v w') :
    (execOp a.eval o).run P w = .ok (.value v) w':=by
  simp [execOp,ho,resolve,invoke,builtin,h]
theorem vappend_ok (h:T w0 K0 nt st a w g) (hd:∀ t,o.dst=some t→t<nt) {t xt:TypeId} {d x:Operand} (ho:o.op = .call { callee:=.builtin .append,args:=#[d,x],argTypes:=#[t,xt] })
    (hed:SR g w st.rs (e d) (a.eval d)) (hex:SR g w st.rs (e x) (a.eval x)) (hv:vappend P o.dst st t xt (e d) (e x) K) (hn:∀ st' a' w' g',K st'→T w0 K0 nt st' a' w' g'→next a' w'):o.wp P a w next Q:=by
  unfold vappend at hv
  split at hv
  · rename_i y s B el hy ht hxt
    obtain ⟨x',st',g',k1,k2,k3,k4,k5,k6⟩:=vsnap_ok h hex hv
    split at k1
    · rename_i nilx ys
      rw [SR] at k3
      have hed':=k4 _ _ hed
      split at k1
      · rename_i hed2
        obtain ⟨hs,hB0,hB,hK⟩:=k1
        obtain ⟨news,src,hh⟩:=src_of_CR (P:=P) k3 hs
        have hed3:a.eval d = .slice none 0 0:=by
          rw [hed2] at hed'
          simp only [SR,CR] at hed'
          rcases hed' with ⟨_,_,q⟩ | ⟨q,_⟩
          · exact q
          · cases q
        obtain ⟨el',ti,z,t1,t2,t3,t4,t5,rfl,rfl⟩:=slT_some ht
        by_cases hyn:ys=[]
        · subst hyn
          have hr:=run_app_none (ty:=o.type) (P:=P) t1 hxt (fun k=>by simp) t2 src
          obtain ⟨g1,m1,m2,m3,m4⟩:=k2.nilR (64*y)
          refine ow_value (append_run ho (by rw [hed3];exact hr)) (hn _ _ _ g1 hK ?_)
          rw [hy]
          refine T.puto ?_ (hd y hy) m2
          exact T.make k2 (Bel.refl _ _ _) (by rw [m4];exact Keeps.refl _ _) (by rw [m4];exact k2.kold) (by rw [m4];exact k2.klt) m3 (fun _ _ _ _ _ _=>⟨rfl,fun _ k=>by rw [m4] at k;exact k⟩) (fun j r hj hrj b hb=>by rw [m2] at hb;simp [blk] at hb) (.inl ⟨rfl,rfl,m2,rfl⟩)
        · have h63:ys.length≤maxLen:=by
            have:ys.length*1≤ys.length*ti.bytes:=Nat.mul_le_mul_left _ hB0
            simp only [maxLen];omega
          have hpos:0<ys.length:=List.length_pos_iff.2 hyn
          have hr:=run_app_grow (base:=none) (n:=0) (cap:=0) (olds:=[]) (ty:=o.type) t1 hxt (fun k=>by simp) t2 t3 src (by simp [Builtin.firstCells]) (by omega) (by simpa using h63) (by simpa using hB)
          have hge:=grownCap_ge w (0+ys.length) 0 el'
          have hle:=grownCap_le_maxLen w (0+ys.length) 0 el' (by simpa using h63)
          have hcur:Holds g'.K w ti.size ys (([]:List Value).toArray++news.toArray++Builtin.zeroCells z.cells (grownCap w (0+ys.length) 0 el' - (0+ys.length))):=by
            have:=Holds.append (K:=g'.K) (w:=w) (sz:=ti.size) (xs:=[]) (cur:=#[]) (ys:=ys) (news:=news) (rest:=(Builtin.zeroCells z.cells (grownCap w (0+ys.length) 0 el' - (0+ys.length))).toList) (fun j e h=>by simp at h) (by simp) hh
            have e2:(news++(Builtin.zeroCells z.cells (grownCap w (0+ys.length) 0 el' - (0+ys.length))).toList).toArray=news.toArray++Builtin.zeroCells z.cells (grownCap w (0+ys.length) 0 el' - (0+ys.length)):=by
              apply Array.ext';simp
            simp only [List.length_nil,Nat.zero_mul,List.take_nil,List.nil_append,Array.empty_append,e2] at this ⊢
            exact this
          obtain ⟨g1,m1,m2,m3,m4⟩:=k2.newarr (64*y) ti.size ys _ el' (grownCap w (0+ys.length) 0 el') _ (.inr rfl) hcur (by omega) hle (by
            have q1:=Nat.sub_mul (grownCap w (0+ys.length) 0 el') (0+ys.length) ti.size
            have q2:(0+ys.length)*ti.size≤grownCap w (0+ys.length) 0 el' * ti.size:=Nat.mul_le_mul_right _ hge
            simp only [Array.size_append,List.size_toArray,size_zeroCells,t4,src.size,List.length_nil,q1]
            simp only [Nat.zero_add] at q2 ⊢
            omega)
          refine ow_value (append_run ho (by rw [hed3];exact hr)) (hn _ _ _ g1 hK ?_)
          rw [hy]
          have he:ys.isEmpty=false:=by simpa using hyn
          rw [he]
          refine T.puto m1 (hd y hy) ?_
          rw [m2,Nat.zero_add]
      · rename_i i n hed2
        split at k1
        · rename_i nil sz xs fx hr
          obtain ⟨hn1,hsz,hs,hB0,hB,hK⟩:=k1
          obtain ⟨news,src,hh⟩:=src_of_CR (P:=P) k3 hs
          rw [hed2,SR] at hed'
          have hu:=hed' nil sz xs fx hr hn1
          obtain ⟨v,w',g1,r1,r2,r3,r4,r5⟩:=k2.append (ty:=o.type) ht hxt (fun k=>by simp) hr hsz src hh hB0 hB
          refine ow_value (append_run ho (by rw [hu];exact r1)) (hn _ _ _ g1 hK ?_)
          rw [hy]
          exact T.puto r2 (hd y hy) r3
        · exact k1.elim
      · exact k1.elim
    · exact k1.elim
  · exact hv.elim
theorem PartsR_zip:∀ (l:List Nat) (ss:List S) (us:List Value) {R:Nat→Option Res},l.length=ss.length→SRs g w R ss us→PartsR g w R (l.zip ss) (l.zip us)
  | [],ss,us,R,hl,h=>by simp [PartsR]
  | i::l,ss,us,R,hl,h=>by
    cases ss with
    | nil=>simp at hl
    | cons s r =>
      rw [SRs] at h
      obtain ⟨u,us',rfl,h1,h2⟩:=h
      simp only [List.zip_cons_cons,PartsR]
      exact ⟨u,_,rfl,h1,PartsR_zip l r us' (by simpa using hl) h2⟩
theorem vsnaps_length:∀ (ss:List S) (st:St) (k:List S→St→Prop),vsnaps st ss k→vsnaps st ss fun ss' st'=>ss'.length=ss.length∧k ss' st'
  | [],st,k,h=>⟨rfl,h⟩
  | s::r,st,k,h=>by
    rw [vsnaps] at h ⊢
    have mono:∀ (k1 k2:S→St→Prop),(∀ s st,k1 s st→k2 s st)→vsnap st s k1→vsnap st s k2:=by
      intro k1 k2 hk hv
      unfold vsnap at hv ⊢
      split at hv
      · split at hv
        · exact ⟨hv.1,hk _ _ hv.2⟩
        · exact hv.elim
      · exact hk _ _ hv
    have monos:∀ (ss:List S) (st:St) (k1 k2:List S→St→Prop),(∀ s st,k1 s st→k2 s st)→vsnaps st ss k1→vsnaps st ss k2:=by
      intro ss
      induction ss with
      | nil=>intro st k1 k2 hk hv;exact hk _ _ hv
      | cons s r ih =>
        intro st k1 k2 hk hv
        rw [vsnaps] at hv ⊢
        unfold vsnap at hv ⊢
        split at hv
        · split at hv
          · exact ⟨hv.1,ih _ _ _ (fun _ _ h=>hk _ _ h) hv.2⟩
          · exact hv.elim
        · exact ih _ _ _ (fun _ _ h=>hk _ _ h) hv
    refine mono _ _ (fun s' st' hs=>?_) h
    exact monos _ _ _ _ (fun ss' st'' hh=>⟨by simp [hh.1],hh.2⟩) (vsnaps_length r st' _ hs)
theorem flat_rep (zc:List C) (us:List Value) {K1:Nat→Nat→Prop} (h:VR K1 w zc us):∀ n,VR K1 w (List.replicate n zc).flatten (List.replicate n us).flatten
  | 0=>by simp [VR]
  | n+1=>by
    simp only [List.replicate_succ,List.flatten_cons]
    exact VR_append h (flat_rep zc us h n)
theorem range_map_flat (us:List Value) (hs:0<us.length):∀ n,((List.range (n*us.length)).map fun i=>us.toArray[i % us.length]!)=(List.replicate n us).flatten:=by
  intro n
  apply List.ext_getElem?
  intro i
  by_cases hi:i<n*us.length
  · have e1:(List.range (n*us.length))[i]? = some i:=by simp [hi]
    rw [List.getElem?_map,e1]
    have hm:i % us.length<us.length:=Nat.mod_lt _ hs
    simp only [Option.map_some]
    have key:∀ (n i:Nat),i<n*us.length→(List.replicate n us).flatten[i]? = us[i % us.length]? := by
      intro n
      induction n with
      | zero=>intro i h;simp at h
      | succ n ih =>
        intro i h
        simp only [List.replicate_succ,List.flatten_cons]
        by_cases hlt:i<us.length
        · rw [List.getElem?_append_left hlt,Nat.mod_eq_of_lt hlt]
        · rw [List.getElem?_append_right (by omega),ih (i-us.length) (by rw [Nat.add_mul] at h;omega)]
          congr 1
          exact (Nat.mod_eq_sub_mod (by omega)).symm
    rw [key n i hi]
    rw [List.getElem?_eq_getElem hm]
    simp [hm]
  · have:n*us.length≤i:=by omega
    rw [List.getElem?_eq_none (by simp;omega),List.getElem?_eq_none (by simp;omega)]
theorem chunks_len (s:Nat):∀ (n:Nat) (l:List C),(chunks s n l).length=n
  | 0,_=>rfl
  | n+1,l=>by simp [chunks,chunks_len s n]
theorem chunks_get (s:Nat):∀ (n:Nat) (l:List C) (j:Nat),j<n→(chunks s n l)[j]? = some ((l.drop (j*s)).take s)
  | 0,_,j,h=>by omega
  | n+1,l,j,h=>by
    rw [chunks]
    cases j with
    | zero=>simp
    | succ j =>
      rw [List.getElem?_cons_succ,chunks_get s n _ j (by omega),List.drop_drop]
      congr 3
      rw [Nat.add_mul];omega
theorem chunks_holds {K1:Nat→Nat→Prop} {s n:Nat} {out:List C} {us:List Value} (h:VR K1 w out us) (hl:out.length=n*s):Holds K1 w s (chunks s n out) us.toArray:=by
  obtain ⟨h1,h2⟩:=(VR_iff _ _).1 h
  intro j e hj
  have hjn:j<n:=by have:=(List.getElem?_eq_some_iff.1 hj).1;rwa [chunks_len] at this
  rw [chunks_get s n out j hjn] at hj
  cases hj
  have hb:(j+1)*s≤n*s:=Nat.mul_le_mul_right _ (by omega)
  rw [Nat.add_mul] at hb
  refine ⟨by simp;omega,fun k c hk=>?_⟩
  rw [List.getElem?_take] at hk
  split at hk
  · rw [List.getElem?_drop] at hk
    have hlt:j*s+k<us.length:=by omega
    exact ⟨us[j*s+k],by simp [hlt],h2 _ c _ hk (by simp [hlt])⟩
  · cases hk
theorem pfill_len (pl:List (Nat × Nat) ⊕ Nat):∀ (parts:List (Nat × S)) (cells out:List C),pfill pl cells parts=some out→out.length=cells.length
  | [],cells,out,h=>by simp [pfill] at h;rw [h]
  | (i,s)::r,cells,out,h=>by
    rw [pfill] at h
    split at h
    · split at h
      · rename_i h3
        rw [pfill_len pl r _ out h]
        simp [splice]
        omega
      · cases h
    · cases h
theorem vbuildSlice_ok (h:T w0 K0 nt st a w g) (hd:∀ t,o.dst=some t→t<nt) {t:TypeId} {len:Nat} {parts:Array (Nat × Operand)} (ho:o.op = .buildSlice t len parts)
    (he:∀ x∈o.op.operands.toList,SR g w st.rs (e x) (a.eval x)) (hv:vbuildSlice P o.dst st t len (parts.toList.map fun p=>(p.1,e p.2)) K) (hn:∀ st' a' w' g',K st'→T w0 K0 nt st' a' w' g'→next a' w'):o.wp P a w next Q:=by
  unfold vbuildSlice at hv
  split at hv
  · rename_i y el hy ht
    split at hv
    · rename_i ag s z hs hz
      split at hv
      · rename_i zc hzc
        have hss:SRs g w st.rs ((parts.toList.map fun p=>(p.1,e p.2)).map (·.2)) (parts.toList.map fun p=>a.eval p.2):=by
          rw [List.map_map]
          exact SRs_map _ _ _ (fun p hp=>he p.2 (by rw [ho];simp [Op.operands];exact ⟨p.1,by simpa using hp⟩))
        obtain ⟨ss',st',g',⟨hlen,k1⟩,k2,k3,k4,k5,k6⟩:=vsnaps_ok _ _ st g _ h hss (vsnaps_length _ _ _ hv)
        split at k1
        · rename_i out hout
          obtain ⟨h1,h2,h3,h4,hK⟩:=k1
          have hzv:=cellsS_VR (st:=st') hzc (SR_ofConst g' w st'.rs z)
          have hzl:z.cells.toList.length=s:=by rw [((VR_iff _ _).1 hzv).1,h1]
          have hfl:=flat_rep zc z.cells.toList hzv len
          have hparts:PartsR g' w st'.rs (((parts.toList.map fun p=>(p.1,e p.2)).map (·.1)).zip ss') (parts.map fun p=>(p.1,a.eval p.2)).toList:=by
            have:=PartsR_zip (g:=g') (w:=w) ((parts.toList.map fun p=>(p.1,e p.2)).map (·.1)) ss' _ (R:=st'.rs) (by simpa using hlen.symm) k3
            have e1:((parts.toList.map fun p=>(p.1,e p.2)).map (·.1)).zip (parts.toList.map fun p=>a.eval p.2)=(parts.map fun p=>(p.1,a.eval p.2)).toList:=by
              simp only [List.map_map,Array.toList_map]
              generalize parts.toList=l
              induction l with
              | nil=>rfl
              | cons p r ih=>simp only [List.map_cons,List.zip_cons_cons,ih];rfl
            rw [e1] at this
            exact this
          obtain ⟨vs,f1,f2⟩:=pfill_ok (st:=st') (.inr s) (fun i=>some (i*s,s)) (fun i=>rfl) _ _ _ _ out hparts hfl hout
          have hol:out.length=len*s:=by rw [pfill_len _ _ _ _ hout];simp [h1]
          have hvl:vs.length=len*s:=by rw [((VR_iff _ _).1 f2).1,hol]
          have hcells:(Array.map (fun x=>z.cells[x % z.cells.size]!) (Array.range (len*s)))=(List.replicate len z.cells.toList).flatten.toArray:=by
            apply Array.ext'
            have:=range_map_flat z.cells.toList (by omega) len
            simp only [Array.toList_map,Array.toList_range]
            rw [← hzl]
            simpa using this
          have hrun:(execOp a.eval o).run P w = .ok (.value (.slice (some ⟨w.heap.size,0,none⟩) len len)) (w.alloc (.cells vs.toArray el)):=by
            have hle:¬ (len*s > 2 ^ 24):=by omega
            by_cases hz0:len*s=0
            · have:len=0:=by
                rcases Nat.mul_eq_zero.1 hz0 with q | q
                · exact q
                · omega
              subst this
              simp only [List.replicate_zero,List.flatten_nil,Array.toList_map] at f1
              simp [execOp,ho,Instr.buildSlice,run_underlying ht,run_sizeOf hs,f1,newRow,Array.range_zero']
            · simp only [execOp,ho,Instr.buildSlice,Sem.run_bind,run_underlying ht,Result.andThen_ok,run_sizeOf hs]
              rw [if_neg hle,if_neg hz0]
              simp only [Sem.run_bind,run_zero hz,Result.andThen_ok,Sem.run_pure,hcells,f1,newRow,run_newObj,World.alloc_eq]
          obtain ⟨g1,m1,m2,m3,m4⟩:=k2.newarr (64*y) s (chunks s len out) vs.toArray el len _ (.inl rfl) (chunks_holds f2 hol) (by rw [chunks_len];exact Nat.le_refl _) h4 (by simpa using hvl)
          refine ow_value hrun (hn _ _ _ g1 hK ?_)
          rw [hy]
          refine T.puto m1 (hd y hy) ?_
          rw [m2,chunks_len]
        · exact k1.elim
      · exact hv.elim
    · exact hv.elim
  · exact hv.elim
end
end Go.VL
