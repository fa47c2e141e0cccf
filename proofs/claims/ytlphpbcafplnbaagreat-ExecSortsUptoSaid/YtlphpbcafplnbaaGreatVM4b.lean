/- Contracts of functions of the seat, proved in a logic on data over the model (part VM4b). -/
import Derived.Test.YtlphpbcafplnbaaGreatV11
import Derived.Maps.RangeRun
set_option linter.unusedSimpArgs false
set_option linter.unusedVariables false
namespace Go.VL
open Go.RowKit
section
variable {P:Program} {w0:World} {K0:K0T} {nt:Nat} {st:St} {a:Act} {w:World} {g:G}
variable {o:Oper} {K:St→Prop} {e:Operand→S} {next:Act→World→Prop} {Q:Exit→Act→World→Prop}
theorem append_run {t xt:TypeId} {d x:Operand} (ho:o.op = .call { callee:=.builtin .append,args:=#[d,x],argTypes:=#[t,xt] }) {v:Value} {w':World} (h:(Builtin.append_ #[t,xt] o.type #[a.eval d,a.eval x]).run P w = .ok v w') :
    (execOp a.eval o).run P w = .ok (.value v) w':=by
  simp [execOp,ho,resolve,invoke,builtin,h]
theorem vappend_ok (h:T w0 K0 nt st a w g) (hd:∀ t,o.dst=some t→t<nt) {t xt:TypeId} {d x:Operand} (ho:o.op = .call { callee:=.builtin .append,args:=#[d,x],argTypes:=#[t,xt] })
    (hed:SR g w st.rs (e d) (a.eval d)) (hex:SR g w st.rs (e x) (a.eval x)) (hv:vappend P o.dst st t xt (e d) (e x) K) (hn:∀ st' a' w' g',K st'→T w0 K0 nt st' a' w' g'→next a' w'):o.wp P a w next Q:=by
  unfold vappend at hv
  split at hv
  · rename_i y s B el hy ht hxt
    obtain ⟨x',st',g',k1,k2,k3,k4,k5,k6⟩:=vsnap_ok h hex hv
    split at k1
    · rename_i nilx ys
      rw [SR] at k3
      have hed':=k4 _ _ hed
      split at k1
      · rename_i hed2
        obtain ⟨hs,hB0,hB,hK⟩:=k1
        obtain ⟨news,src,hh⟩:=src_of_CR (P:=P) k3 hs
        have hed3:a.eval d = .slice none 0 0:=by
          rw [hed2] at hed'
          simp only [SR,CR] at hed'
          rcases hed' with ⟨_,_,q⟩ | ⟨q,_⟩
          · exact q
          · cases q
        obtain ⟨el',ti,z,t1,t2,t3,t4,t5,rfl,rfl⟩:=slT_some ht
        by_cases hyn:ys=[]
        · subst hyn
          have hr:=run_app_none (ty:=o.type) (P:=P) t1 hxt (fun k=>by simp) t2 src
          obtain ⟨g1,m1,m2,m3,m4⟩:=k2.nilR (64*y)
          refine ow_value (append_run ho (by rw [hed3];exact hr)) (hn _ _ _ g1 hK ?_)
          rw [hy]
          refine T.puto ?_ (hd y hy) m2
          exact T.make k2 (Bel.refl _ _ _) (by rw [m4];exact Keeps.refl _ _) (by rw [m4];exact k2.kold) (by rw [m4];exact k2.klt) m3 (fun _ _ _ _ _ _=>⟨rfl,fun _ k=>by rw [m4] at k;exact k⟩) (fun j r hj hrj b hb=>by rw [m2] at hb;simp [blk] at hb) (.inl ⟨rfl,rfl,m2,rfl⟩)
        · have h63:ys.length≤maxLen:=by
            have:ys.length*1≤ys.length*ti.bytes:=Nat.mul_le_mul_left _ hB0
            simp only [maxLen];omega
          have hpos:0<ys.length:=List.length_pos_iff.2 hyn
          have hr:=run_app_grow (base:=none) (n:=0) (cap:=0) (olds:=[]) (ty:=o.type) t1 hxt (fun k=>by simp) t2 t3 src (by simp [Builtin.firstCells]) (by omega) (by simpa using h63) (by simpa using hB)
          have hge:=grownCap_ge w (0+ys.length) 0 el'
          have hle:=grownCap_le_maxLen w (0+ys.length) 0 el' (by simpa using h63)
          have hcur:Holds g'.K w ti.size ys (([]:List Value).toArray++news.toArray++Builtin.zeroCells z.cells (grownCap w (0+ys.length) 0 el' - (0+ys.length))):=by
            have:=Holds.append (K:=g'.K) (w:=w) (sz:=ti.size) (xs:=[]) (cur:=#[]) (ys:=ys) (news:=news) (rest:=(Builtin.zeroCells z.cells (grownCap w (0+ys.length) 0 el' - (0+ys.length))).toList) (fun j e h=>by simp at h) (by simp) hh
            have e2:(news++(Builtin.zeroCells z.cells (grownCap w (0+ys.length) 0 el' - (0+ys.length))).toList).toArray=news.toArray++Builtin.zeroCells z.cells (grownCap w (0+ys.length) 0 el' - (0+ys.length)):=by
              apply Array.ext';simp
            simp only [List.length_nil,Nat.zero_mul,List.take_nil,List.nil_append,Array.empty_append,e2] at this ⊢
            exact this
          obtain ⟨g1,m1,m2,m3,m4⟩:=k2.newarr (64*y) ti.size ys _ el' (grownCap w (0+ys.length) 0 el') _ (.inr rfl) hcur (by omega) hle (by
            have q1:=Nat.sub_mul (grownCap w (0+ys.length) 0 el') (0+ys.length) ti.size
            have q2:(0+ys.length)*ti.size≤grownCap w (0+ys.length) 0 el' * ti.size:=Nat.mul_le_mul_right _ hge
            simp only [Array.size_append,List.size_toArray,size_zeroCells,t4,src.size,List.length_nil,q1]
            simp only [Nat.zero_add] at q2 ⊢
            omega)
          refine ow_value (append_run ho (by rw [hed3];exact hr)) (hn _ _ _ g1 hK ?_)
          rw [hy]
          have he:ys.isEmpty=false:=by simpa using hyn
          rw [he]
          refine T.puto m1 (hd y hy) ?_
          rw [m2,Nat.zero_add]
      · rename_i i n hed2
        split at k1
        · rename_i nil sz xs fx hr
          obtain ⟨hn1,hsz,hs,hB0,hB,hK⟩:=k1
          obtain ⟨news,src,hh⟩:=src_of_CR (P:=P) k3 hs
          rw [hed2,SR] at hed'
          have hu:=hed' nil sz xs fx hr hn1
          obtain ⟨v,w',g1,r1,r2,r3,r4,r5⟩:=k2.append (ty:=o.type) ht hxt (fun k=>by simp) hr hsz src hh hB0 hB
          refine ow_value (append_run ho (by rw [hu];exact r1)) (hn _ _ _ g1 hK ?_)
          rw [hy]
          exact T.puto r2 (hd y hy) r3
        · exact k1.elim
      · exact k1.elim
    · exact k1.elim
  · exact hv.elim
theorem PartsR_zip:∀ (l:List Nat) (ss:List S) (us:List Value) {R:Nat→Option Res},l.length=ss.length→SRs g w R ss us→PartsR g w R (l.zip ss) (l.zip us)
  | [],ss,us,R,hl,h=>by simp [PartsR]
  | i::l,ss,us,R,hl,h=>by
    cases ss with
    | nil=>simp at hl
    | cons s r =>
      rw [SRs] at h
      obtain ⟨u,us',rfl,h1,h2⟩:=h
      simp only [List.zip_cons_cons,PartsR]
      exact ⟨u,_,rfl,h1,PartsR_zip l r us' (by simpa using hl) h2⟩
theorem vsnaps_length:∀ (ss:List S) (st:St) (k:List S→St→Prop),vsnaps st ss k→vsnaps st ss fun ss' st'=>ss'.length=ss.length∧k ss' st'
  | [],st,k,h=>⟨rfl,h⟩
  | s::r,st,k,h=>by
    rw [vsnaps] at h ⊢
    have mono:∀ (k1 k2:S→St→Prop),(∀ s st,k1 s st→k2 s st)→vsnap st s k1→vsnap st s k2:=by
      intro k1 k2 hk hv
      unfold vsnap at hv ⊢
      split at hv
      · split at hv
        · exact ⟨hv.1,hk _ _ hv.2⟩
        · exact hv.elim
      · exact hk _ _ hv
    have monos:∀ (ss:List S) (st:St) (k1 k2:List S→St→Prop),(∀ s st,k1 s st→k2 s st)→vsnaps st ss k1→vsnaps st ss k2:=by
      intro ss
      induction ss with
      | nil=>intro st k1 k2 hk hv;exact hk _ _ hv
      | cons s r ih =>
        intro st k1 k2 hk hv
        rw [vsnaps] at hv ⊢
        unfold vsnap at hv ⊢
        split at hv
        · split at hv
          · exact ⟨hv.1,ih _ _ _ (fun _ _ h=>hk _ _ h) hv.2⟩
          · exact hv.elim
        · exact ih _ _ _ (fun _ _ h=>hk _ _ h) hv
    refine mono _ _ (fun s' st' hs=>?_) h
    exact monos _ _ _ _ (fun ss' st'' hh=>⟨by simp [hh.1],hh.2⟩) (vsnaps_length r st' _ hs)
theorem flat_rep (zc:List C) (us:List Value) {K1:Nat→Nat→Prop} (h:VR K1 w zc us):∀ n,VR K1 w (List.replicate n zc).flatten (List.replicate n us).flatten
  | 0=>by simp [VR]
  | n+1=>by
    simp only [List.replicate_succ,List.flatten_cons]
    exact VR_append h (flat_rep zc us h n)
theorem range_map_flat (us:List Value) (hs:0<us.length):∀ n,((List.range (n*us.length)).map fun i=>us.toArray[i % us.length]!)=(List.replicate n us).flatten:=by
  intro n
  apply List.ext_getElem?
  intro i
  by_cases hi:i<n*us.length
  · have e1:(List.range (n*us.length))[i]? = some i:=by simp [hi]
    rw [List.getElem?_map,e1]
    have hm:i % us.length<us.length:=Nat.mod_lt _ hs
    simp only [Option.map_some]
    have key:∀ (n i:Nat),i<n*us.length→(List.replicate n us).flatten[i]? = us[i % us.length]? := by
      intro n
      induction n with
      | zero=>intro i h;simp at h
      | succ n ih =>
        intro i h
        simp only [List.replicate_succ,List.flatten_cons]
        by_cases hlt:i<us.length
        · rw [List.getElem?_append_left hlt,Nat.mod_eq_of_lt hlt]
        · rw [List.getElem?_append_right (by omega),ih (i-us.length) (by rw [Nat.add_mul] at h;omega)]
          congr 1
          exact (Nat.mod_eq_sub_mod (by omega)).symm
    rw [key n i hi]
    rw [List.getElem?_eq_getElem hm]
    simp [hm]
  · have:n*us.length≤i:=by omega
    rw [List.getElem?_eq_none (by simp;omega),List.getElem?_eq_none (by simp;omega)]
theorem chunks_len (s:Nat):∀ (n:Nat) (l:List C),(chunks s n l).length=n
  | 0,_=>rfl
  | n+1,l=>by simp [chunks,chunks_len s n]
theorem chunks_get (s:Nat):∀ (n:Nat) (l:List C) (j:Nat),j<n→(chunks s n l)[j]? = some ((l.drop (j*s)).take s)
  | 0,_,j,h=>by omega
  | n+1,l,j,h=>by
    rw [chunks]
    cases j with
    | zero=>simp
    | succ j =>
      rw [List.getElem?_cons_succ,chunks_get s n _ j (by omega),List.drop_drop]
      congr 3
      rw [Nat.add_mul];omega
theorem chunks_holds {K1:Nat→Nat→Prop} {s n:Nat} {out:List C} {us:List Value} (h:VR K1 w out us) (hl:out.length=n*s):Holds K1 w s (chunks s n out) us.toArray:=by
  obtain ⟨h1,h2⟩:=(VR_iff _ _).1 h
  intro j e hj
  have hjn:j<n:=by have:=(List.getElem?_eq_some_iff.1 hj).1;rwa [chunks_len] at this
  rw [chunks_get s n out j hjn] at hj
  cases hj
  have hb:(j+1)*s≤n*s:=Nat.mul_le_mul_right _ (by omega)
  rw [Nat.add_mul] at hb
  refine ⟨by simp;omega,fun k c hk=>?_⟩
  rw [List.getElem?_take] at hk
  split at hk
  · rw [List.getElem?_drop] at hk
    have hlt:j*s+k<us.length:=by omega
    exact ⟨us[j*s+k],by simp [hlt],h2 _ c _ hk (by simp [hlt])⟩
  · cases hk
theorem pfill_len (pl:List (Nat × Nat) ⊕ Nat):∀ (parts:List (Nat × S)) (cells out:List C),pfill pl cells parts=some out→out.length=cells.length
  | [],cells,out,h=>by simp [pfill] at h;rw [h]
  | (i,s)::r,cells,out,h=>by
    rw [pfill] at h
    split at h
    · split at h
      · rename_i h3
        rw [pfill_len pl r _ out h]
        simp [splice]
        omega
      · cases h
    · cases h
theorem vbuildSlice_ok (h:T w0 K0 nt st a w g) (hd:∀ t,o.dst=some t→t<nt) {t:TypeId} {len:Nat} {parts:Array (Nat × Operand)} (ho:o.op = .buildSlice t len parts)
    (he:∀ x∈o.op.operands.toList,SR g w st.rs (e x) (a.eval x)) (hv:vbuildSlice P o.dst st t len (parts.toList.map fun p=>(p.1,e p.2)) K) (hn:∀ st' a' w' g',K st'→T w0 K0 nt st' a' w' g'→next a' w'):o.wp P a w next Q:=by
  unfold vbuildSlice at hv
  split at hv
  · rename_i y el hy ht
    split at hv
    · rename_i ag s z hs hz
      split at hv
      · rename_i zc hzc
        have hss:SRs g w st.rs ((parts.toList.map fun p=>(p.1,e p.2)).map (·.2)) (parts.toList.map fun p=>a.eval p.2):=by
          rw [List.map_map]
          exact SRs_map _ _ _ (fun p hp=>he p.2 (by rw [ho];simp [Op.operands];exact ⟨p.1,by simpa using hp⟩))
        obtain ⟨ss',st',g',⟨hlen,k1⟩,k2,k3,k4,k5,k6⟩:=vsnaps_ok _ _ st g _ h hss (vsnaps_length _ _ _ hv)
        split at k1
        · rename_i out hout
          obtain ⟨h1,h2,h3,h4,hK⟩:=k1
          have hzv:=cellsS_VR (st:=st') hzc (SR_ofConst g' w st'.rs z)
          have hzl:z.cells.toList.length=s:=by rw [((VR_iff _ _).1 hzv).1,h1]
          have hfl:=flat_rep zc z.cells.toList hzv len
          have hparts:PartsR g' w st'.rs (((parts.toList.map fun p=>(p.1,e p.2)).map (·.1)).zip ss') (parts.map fun p=>(p.1,a.eval p.2)).toList:=by
            have:=PartsR_zip (g:=g') (w:=w) ((parts.toList.map fun p=>(p.1,e p.2)).map (·.1)) ss' _ (R:=st'.rs) (by simpa using hlen.symm) k3
            have e1:((parts.toList.map fun p=>(p.1,e p.2)).map (·.1)).zip (parts.toList.map fun p=>a.eval p.2)=(parts.map fun p=>(p.1,a.eval p.2)).toList:=by
              simp only [List.map_map,Array.toList_map]
              generalize parts.toList=l
              induction l with
              | nil=>rfl
              | cons p r ih=>simp only [List.map_cons,List.zip_cons_cons,ih];rfl
            rw [e1] at this
            exact this
          obtain ⟨vs,f1,f2⟩:=pfill_ok (st:=st') (.inr s) (fun i=>some (i*s,s)) (fun i=>rfl) _ _ _ _ out hparts hfl hout
          have hol:out.length=len*s:=by rw [pfill_len _ _ _ _ hout];simp [h1]
          have hvl:vs.length=len*s:=by rw [((VR_iff _ _).1 f2).1,hol]
          have hcells:(Array.map (fun x=>z.cells[x % z.cells.size]!) (Array.range (len*s)))=(List.replicate len z.cells.toList).flatten.toArray:=by
            apply Array.ext'
            have:=range_map_flat z.cells.toList (by omega) len
            simp only [Array.toList_map,Array.toList_range]
            rw [← hzl]
            simpa using this
          have hrun:(execOp a.eval o).run P w = .ok (.value (.slice (some ⟨w.heap.size,0,none⟩) len len)) (w.alloc (.cells vs.toArray el)):=by
            have hle:¬ (len*s > 2 ^ 24):=by omega
            by_cases hz0:len*s=0
            · have:len=0:=by
                rcases Nat.mul_eq_zero.1 hz0 with q | q
                · exact q
                · omega
              subst this
              simp only [List.replicate_zero,List.flatten_nil,Array.toList_map] at f1
              simp [execOp,ho,Instr.buildSlice,run_underlying ht,run_sizeOf hs,f1,newRow,Array.range_zero']
            · simp only [execOp,ho,Instr.buildSlice,Sem.run_bind,run_underlying ht,Result.andThen_ok,run_sizeOf hs]
              rw [if_neg hle,if_neg hz0]
              simp only [Sem.run_bind,run_zero hz,Result.andThen_ok,Sem.run_pure,hcells,f1,newRow,run_newObj,World.alloc_eq]
          obtain ⟨g1,m1,m2,m3,m4⟩:=k2.newarr (64*y) s (chunks s len out) vs.toArray el len _ (.inl rfl) (chunks_holds f2 hol) (by rw [chunks_len];exact Nat.le_refl _) h4 (by simpa using hvl)
          refine ow_value hrun (hn _ _ _ g1 hK ?_)
          rw [hy]
          refine T.puto m1 (hd y hy) ?_
          rw [m2,chunks_len]
        · exact k1.elim
      · exact hv.elim
    · exact hv.elim
  · exact hv.elim
end
end Go.VL
namespace Go.VL
open Go.RowKit Go.ChangeMaps
theorem allCs_eq:∀ (ss:List S) (cs:List C),allCs ss=some cs→ss=cs.map .c
  | [],cs,h=>by simp [allCs] at h;subst h;rfl
  | s::r,cs,h=>by
    unfold allCs at h
    split at h
    · rename_i e;cases e
    · rename_i x r' e
      cases e
      simp only [Option.map_eq_some_iff] at h
      obtain ⟨l,h1,rfl⟩:=h
      rw [List.map_cons,allCs_eq r l h1]
    · cases h
theorem SRs_c {g:G} {w:World} {R:Nat→Option Res} : ∀ (cs:List C) (us:List Value),SRs g w R (cs.map .c) us→VR g.K w cs us
  | [],us,h=>by rw [List.map_nil,SRs] at h;rw [VR];exact h
  | c::r,us,h=>by
    rw [List.map_cons,SRs] at h
    obtain ⟨u,us',rfl,h1,h2⟩:=h
    rw [SR] at h1
    rw [VR]
    exact ⟨u,us',rfl,h1,SRs_c r us' h2⟩
theorem SR_entS {g:G} {w:World} {R:Nat→Option Res} {cs:List S} {u:Value} (h:EntR g w R cs u):SR g w R (entS cs) u:=by
  unfold EntR at h
  unfold entS
  split at h
  · exact h.1
  · rename_i hne
    split
    · rename_i c;exact absurd rfl (hne c)
    · obtain ⟨us,h1,h2,h3⟩:=h
      split
      · rename_i l hl
        rw [SR]
        exact ⟨us,h1,SRs_c l us (by rw [← allCs_eq _ _ hl];exact h2)⟩
      · rw [SR];exact ⟨us,h1,h2,h3⟩
theorem MapR.set {g:G} {w:World} {R:Nat→Option Res} {k:Value} {cs:List S} {v:Value} (hv:EntR g w R cs v):∀ (kvs:List (Value × List S)) (es:List MapEntry) (j:Nat),MapR g w R kvs es→MapR g w R (kvs.set j (k,cs)) (es.modify j fun e=>{ e with key:=k,val:=v })
  | [],es,j,h=>by have:es=[]:=h;subst this;cases j <;> simp [MapR]
  | x::r,es,0,h=>by
    obtain ⟨e,es',rfl,h2,h3,h4⟩:=h
    exact ⟨{ e with key:=k,val:=v },es',by simp,rfl,hv,h4⟩
  | x::r,es,j+1,h=>by
    obtain ⟨e,es',rfl,h2,h3,h4⟩:=h
    exact ⟨e,_,by simp,h2,h3,MapR.set hv r es' j h4⟩
theorem MapR.push {g:G} {w:World} {R:Nat→Option Res} {k:Value} {cs:List S} {v:Value} {ck:Nat} (hv:EntR g w R cs v):∀ (kvs:List (Value × List S)) (es:List MapEntry),MapR g w R kvs es→MapR g w R (kvs++[(k,cs)]) (es++[{ key:=k,val:=v,born:=ck }])
  | [],es,h=>by have:es=[]:=h;subst this;exact ⟨_,[],rfl,rfl,hv,rfl⟩
  | x::r,es,h=>by
    obtain ⟨e,es',rfl,h2,h3,h4⟩:=h
    exact ⟨e,_,rfl,h2,h3,MapR.push hv r es' h4⟩
section
variable {P:Program} {w0:World} {K0:K0T} {nt:Nat} {st:St} {a:Act} {w:World} {g:G} {o:Oper} {e:Operand→S} {K:St→Prop} {next:Act→World→Prop} {Q:Exit→Act→World→Prop}
theorem EntR_entC (h:T w0 K0 nt st a w g) {s:S} {cs:List S} {u:Value} (hc:entC st s=some cs) (hs:SR g w st.rs s u):EntR g w st.rs cs u:=by
  have agg:∀ ss:List S,ss.length≠1→(∃ us:List Value,u = .agg us.toArray∧SRs g w st.rs ss us∧∀ v∈us,v.oneCell'=true)→EntR g w st.rs ss u:=fun ss hl hh=>by
    unfold EntR
    split
    · simp at hl
    · exact hh
  unfold entC at hc
  split at hc
  · rename_i cs'
    split at hc
    · cases hc
    · rename_i hl
      cases hc
      have h2:=cellsH_ok h (s:=.agg cs') (cs:=cs'.map .c) rfl hs
      rw [SR] at hs
      obtain ⟨us,rfl,hv⟩:=hs
      exact agg _ (by simpa using hl) ⟨us,rfl,by simpa [Value.cells] using h2.1,by simpa [Value.cells] using h2.2⟩
  · rename_i ss
    split at hc
    · cases hc
    · rename_i hl
      cases hc
      rw [SR] at hs
      obtain ⟨us,rfl,h1,h2⟩:=hs
      exact agg _ hl ⟨us,rfl,h1,h2⟩
  · rename_i n1 n2
    have h2:=(cellsH_ok h hc hs).2
    have one:u.oneCell'=true→EntR g w st.rs [s] u:=fun hu=>⟨hs,hu⟩
    unfold cellsH at hc
    split at hc
    · cases hc
      rw [SR] at hs
      exact one (CR.one hs)
    · rename_i cs';exact absurd rfl (n1 cs')
    · rename_i ss;exact absurd rfl (n2 ss)
    · split at hc
      · rename_i fz ss hr
        cases hc
        have hs':=hs
        rw [SR] at hs'
        obtain ⟨b,_,rfl⟩:=hs' fz ss hr
        exact one rfl
      · cases hc
    · split at hc
      · rename_i nil sz xs fx hr
        split at hc
        · rename_i hl
          cases hc
          have hs':=hs
          rw [SR] at hs'
          have hu:=hs' nil sz xs fx hr hl
          refine one ?_
          rw [hu]
          rcases h.res _ _ hr with ⟨_,_,q,_⟩ | ⟨_,b,cap,cur,E,q,_⟩
          · rw [q];rfl
          · rw [q];rfl
        · cases hc
      · cases hc
    · cases hc
theorem vlkup_ok (h:T w0 K0 nt st a w g) (hd:∀ t,o.dst=some t→t<nt) {t:TypeId} {m k:Operand} {ok:Bool} (hm:SR g w st.rs (e m) (a.eval m)) (hk:SR g w st.rs (e k) (a.eval k))
    (hv:vlkup P o.dst st t (e m) (e k) ok K) (hn:∀ st' a' w' g',K st'→T w0 K0 nt st' a' w' g'→next a' w'):∃ u,(Instr.lookup t (a.eval m) (a.eval k) ok).run P w = .ok u w∧next (a.put o.dst u) w:=by
  unfold vlkup at hv
  split at hv
  · rename_i i kv e1 e2
    split at hv
    · rename_i kvs kt d et h1 h2
      split at hv
      · rename_i z hz
        obtain ⟨q1,q2,q3⟩:=hv
        rw [e1,SR] at hm
        rw [e2,SR,CR] at hk
        have hm':=hm _ h1
        rw [hk.1]
        obtain ⟨b,es,b1,b2,b3,b4,b5⟩:=h.res i _ h1
        rw [hm',b1]
        rcases findNow_ok q1 kvs es.toList 0 b4 q2 with ⟨f1,f2⟩ | ⟨j,cs,en,f1,f2,f3,f4,f5,f6⟩
        · refine ⟨_,run_lookup ok h2 b3 f1 hz,hn _ _ _ g q3 (h.putd hd ?_)⟩
          rw [f2]
          unfold lkS
          cases ok
          · exact SR_ofConst g w st.rs z
          · simp only [if_true]
            rw [SR]
            refine ⟨[z,.bool false],rfl,?_⟩
            simp only [SRs]
            exact ⟨z,_,rfl,SR_ofConst g w st.rs z,_,_,rfl,by rw [SR,CR];exact ⟨rfl,rfl⟩,rfl⟩
        · refine ⟨_,run_lookup ok h2 b3 f1 hz,hn _ _ _ g q3 (h.putd hd ?_)⟩
          rw [f2]
          unfold lkS
          cases ok
          · exact SR_entS f6
          · simp only [if_true]
            rw [SR]
            refine ⟨[en.val,.bool true],rfl,?_⟩
            simp only [SRs]
            exact ⟨_,_,rfl,SR_entS f6,_,_,rfl,by rw [SR,CR];exact ⟨rfl,rfl⟩,rfl⟩
      · exact hv.elim
    · exact hv.elim
  · exact hv.elim
theorem vmapUp_ok (h:T w0 K0 nt st a w g) (hd:∀ t,o.dst=some t→t<nt) {t:TypeId} {m k x:Operand} (hm:SR g w st.rs (e m) (a.eval m)) (hk:SR g w st.rs (e k) (a.eval k)) (hx:SR g w st.rs (e x) (a.eval x))
    (hv:vmapUp P o.dst st t (e m) (e k) (e x) K) (hn:∀ st' a' w' g',K st'→T w0 K0 nt st' a' w' g'→next a' w'):∃ w',(Instr.mapUpdate t (a.eval m) (a.eval k) (a.eval x)).run P w = .ok () w'∧next (a.put o.dst undef) w':=by
  unfold vmapUp at hv
  split at hv
  · rename_i i kv cs e1 e2 e3
    split at hv
    · rename_i kvs kt d et h1 h2
      obtain ⟨q1,q2,q3⟩:=hv
      rw [e1,SR] at hm
      rw [e2,SR,CR] at hk
      have hm':=hm _ h1
      have hx':=EntR_entC h e3 hx
      rw [hk.1]
      obtain ⟨b,es,b1,b2,b3,b4,b5⟩:=h.res i _ h1
      rw [hm',b1]
      rcases findNow_ok q1 kvs es.toList 0 b4 q2 with ⟨f1,f2⟩ | ⟨j,cs',en,f1,f2,f3,f4,f5,f6⟩
      · have hT:=h.setmap (kvs':=putK kv cs kvs) (es':=es.push { key:=kv,val:=a.eval x,born:=es.size }) h1 b1 b3 (by
          unfold putK
          rw [f2]
          simpa using MapR.push hx' kvs es.toList b4) (fun j en hj=>by
          rw [Array.getElem?_push] at hj
          split at hj
          · rename_i e;cases hj;exact e.symm
          · exact b5 j en hj)
        rw [Array.size_push] at hT
        exact ⟨_,run_mapNew h2 b3 f1,hn _ _ _ g q3 (T.putd (s:=.un) (u:=undef) hT hd (by rw [SR];trivial))⟩
      · simp only [Nat.zero_add] at f1
        have hT:=h.setmap (kvs':=putK kv cs kvs) (es':=es.modify j fun e=>{ e with key:=kv,val:=a.eval x }) h1 b1 b3 (by
          unfold putK
          rw [f2]
          simpa using MapR.set (k:=kv) hx' kvs es.toList j b4) (fun i en hi=>by
          rw [Array.getElem?_modify] at hi
          split at hi
          · rename_i e
            subst e
            simp only [Option.map_eq_some_iff] at hi
            obtain ⟨e0,h0,rfl⟩:=hi
            exact b5 _ e0 h0
          · exact b5 i en hi)
        rw [Array.size_modify] at hT
        exact ⟨_,run_mapPut h2 b3 f1 (by simpa using f3) f5,hn _ _ _ g q3 (T.putd (s:=.un) (u:=undef) hT hd (by rw [SR];trivial))⟩
    · exact hv.elim
  · exact hv.elim
theorem vmkMap_ok (h:T w0 K0 nt st a w g) (hd:∀ t,o.dst=some t→t<nt) {t:TypeId} (hv:vmkMap o.dst st K) (hn:∀ st' a' w' g',K st'→T w0 K0 nt st' a' w' g'→next a' w') :
    ∃ u w',(Instr.makeMap t none).run P w = .ok u w'∧next (a.put o.dst u) w':=by
  unfold vmkMap at hv
  split at hv
  · rename_i x hx
    obtain ⟨g',k1,k2,k3,k4⟩:=h.newmap (64*x)
    refine ⟨_,_,run_makeMap,hn _ _ _ g' hv ?_⟩
    rw [hx]
    refine k1.put (hd x hx) ?_
    rw [SR]
    intro m _
    exact k2.symm
  · exact hv.elim
theorem T.pinS (h:T w0 K0 nt st a w g) (N:Nat) {s:S} {u:Value} (hs:SR g w st.rs s u) :
    ∃ g',T w0 K0 nt ((st.clr N).setR N (some (.pin u (s.clr N)))) a w g'∧g'.loc N=undef∧(∀ j,j≠N→g'.loc j=g.loc j)∧g'.K=g.K:=by
  let g':G:=⟨g.K,fun j=>if j=N then undef else g.loc j⟩
  have hl:∀ j,j≠N→g'.loc j=g.loc j:=fun j hj=>by show (if j=N then undef else g.loc j)=_;rw [if_neg hj]
  refine ⟨g',?_,by show (if N=N then undef else _)=_;rw [if_pos rfl],hl,rfl⟩
  refine T.make h (g':=g') (Bel.refl _ _ _) (Keeps.refl _ _) h.kold h.klt hl (fun j r b hj hr hb=>⟨rfl,fun _ k=>k⟩) (fun j r hj hr b hb=>?_) ?_
  · rw [show g'.loc N=undef from by show (if N=N then undef else _)=_;rw [if_pos rfl]] at hb
    cases hb
  · refine ⟨by show (if N=N then undef else _)=_;rw [if_pos rfl],?_⟩
    refine SR.mono (g:=g) (g':=g') (R:=st.rs) (R':=((st.clr N).setR N (some (.pin u (s.clr N)))).rs) (w:=w) (w':=w) (Keeps.refl _ _) _ _ (fun j hj=>?_) (SR.clr N s u hs)
    obtain ⟨hjN,_⟩:=S.men_clr N j s hj
    have hR:((st.clr N).setR N (some (.pin u (s.clr N)))).rs j=(st.rs j).map (Res.clr N):=by rw [St.rs_setR,if_neg (Ne.symm hjN),St.rs_clr]
    refine ⟨fun fz ss e=>?_,fun nil sz xs fx e=>?_,fun m e=>?_⟩
    all_goals
      rw [hR] at e
      cases hs':st.rs j with
      | none=>rw [hs'] at e;simp at e
      | some r0 =>
        rw [hs'] at e
        cases r0 <;> simp [Res.clr] at e
        first
          | exact ⟨⟨_,_,rfl⟩,hl j hjN⟩
          | exact ⟨⟨_,_,_,by rw [e.1,e.2.1],by rw [e.2.2.1]⟩,hl j hjN⟩
          | exact ⟨⟨_,rfl,by rw [← e,MB.sh_clr]⟩,hl j hjN⟩
theorem run_range {t k et:TypeId} {d:TypeDesc} {b:Nat} {es:Array MapEntry} {ck:Nat} (h:mpT P t=some (k,d,et)) (hb:w.heap[b]? = some (.map es ck)) :
    (Instr.range t (.map (some b))).run P w = .ok (.pointer (some ⟨w.heap.size,0,none⟩)) (w.alloc (.mapIter (some b) ck #[] ck)):=by
  obtain ⟨h1,_,_⟩:=mpT_ok h
  have hg:(getObj b).run P w = .ok (.map es ck) w:=by simp [getObj,Sem.run,hb]
  simp [Instr.range,run_underlying h1,hg,run_newObj]
theorem T.newiter (h:T w0 K0 nt st a w g) (i bm n:Nat) :
    ∃ g',T w0 K0 nt ((st.clr i).setR i (some (.map (.iter bm n [])))) a (w.alloc (.mapIter (some bm) n #[] n)) g'∧g'.loc i = .pointer (some ⟨w.heap.size,0,none⟩)∧(∀ j,j≠i→g'.loc j=g.loc j)∧g'.K=g.K:=by
  refine ⟨{ g with loc:=fun j=>if j=i then .pointer (some ⟨w.heap.size,0,none⟩) else g.loc j },?_,by simp,fun j hj=>by simp [hj],rfl⟩
  have hB:w0.heap.size≤w.heap.size:=h.below.size
  refine T.make h (g':={ g with loc:=fun j=>if j=i then .pointer (some ⟨w.heap.size,0,none⟩) else g.loc j }) (Bel.of ((BelowD.refl _ _).alloc hB _)) ⟨fun _ _ k=>k,fun b o k=>World.cell?_alloc_lt _ _ _ (h.klt b o k)⟩ h.kold (fun b o k=>by
      have:=h.klt b o k;simp;omega) (fun j hj=>by simp [hj]) (fun j r b hj hr hb=>⟨Below.heap_alloc _ _ _ ((h.res j r hr).lt hb),fun _ k=>k⟩) (fun j r hj hr b hb hb2=>?_) ?_
  · simp [blk] at hb
    have:=(h.res j r hr).lt hb2
    omega
  · exact ⟨w.heap.size,by simp,(fun e=>absurd e.1 (by omega)),heap_alloc_new w _⟩
theorem vrange_ok (h:T w0 K0 nt st a w g) (hd:∀ t,o.dst=some t→t<nt) {t:TypeId} {m:Operand} (hm:SR g w st.rs (e m) (a.eval m))
    (hv:vrange P o.dst st t (e m) K) (hn:∀ st' a' w' g',K st'→T w0 K0 nt st' a' w' g'→next a' w'):∃ u w',(Instr.range t (a.eval m)).run P w = .ok u w'∧next (a.put o.dst u) w':=by
  unfold vrange at hv
  split at hv
  · rename_i x i hx e1
    split at hv
    · rename_i kvs m3 h1 h2
      rw [e1] at hm
      have hm':=hm
      rw [SR] at hm'
      have hm1:=hm' _ h1
      obtain ⟨b,es,b1,b2,b3,b4,b5⟩:=h.res i _ h1
      have hlen:es.size=kvs.length:=by have:=MapR.len _ _ b4;simpa using this
      obtain ⟨kt,d,et⟩:=m3
      have hrun:=run_range h2 b3
      refine ⟨_,_,by rw [hm1,b1];exact hrun,?_⟩
      obtain ⟨g1,p1,p2,p3,p4⟩:=h.pinS (64*x+1) hm
      obtain ⟨g2,r1,r2,r3,r4⟩:=p1.newiter (64*x) b es.size
      rw [hm1,b1] at r1
      rw [hx]
      refine hn _ _ _ g2 (hv b) ?_
      rw [hlen] at r1 ⊢
      refine r1.put (hd x hx) ?_
      rw [SR]
      intro mm _
      exact r2.symm
    · exact hv.elim
  · exact hv.elim
theorem T.setiter (h:T w0 K0 nt st a w g) {i b bm n:Nat} {seen seen':List Nat} {w1:World} (hi:st.rs i=some (.map (.iter bm n seen))) (hl:g.loc i = .pointer (some ⟨b,0,none⟩)) (hb:w.heap[b]? = some (.mapIter (some bm) n seen.toArray n)) (hw:w1=w∨w1=w.drew) :
    T w0 K0 nt (st.setR i (some (.map (.iter bm n seen')))) a (setBlock w1 b (.mapIter (some bm) n seen'.toArray n)) g:=by
  have hB:=((h.res i _ hi).block (b:=b) (by rw [hl];rfl)).1
  have hblt:b<w.heap.size:=(Array.getElem?_eq_some_iff.1 hb).1
  have hh:(setBlock w1 b (.mapIter (some bm) n seen'.toArray n)).heap=w.heap.setIfInBounds b (.mapIter (some bm) n seen'.toArray n):=by rcases hw with rfl | rfl <;> rfl
  have hoth:∀ k,k≠b→(setBlock w1 b (.mapIter (some bm) n seen'.toArray n)).heap[k]? = w.heap[k]? := fun k hk=>by
    rw [hh,Array.getElem?_setIfInBounds_ne (Ne.symm hk)]
  have hsame:(setBlock w1 b (.mapIter (some bm) n seen'.toArray n)).heap[b]? = some (.mapIter (some bm) n seen'.toArray n):=by rw [hh];simp [hblt]
  have hk:Keeps g.K w g.K (setBlock w1 b (.mapIter (some bm) n seen'.toArray n)):=⟨fun _ _ k=>k,fun b' o k=>by
    by_cases e:b'=b
    · subst e
      simp only [World.cell?]
      rw [hsame,hb]
    · simp only [World.cell?];rw [hoth b' e]⟩
  have hbel:Bel w0 K0 w (setBlock w1 b (.mapIter (some bm) n seen'.toArray n)):=by
    refine ⟨?_,?_,?_,by rw [hh];simp,fun k hk'=>hoth k (fun e=>hB (e ▸ hk')),?_⟩
    · rcases hw with rfl | rfl <;> rfl
    · rcases hw with rfl | rfl <;> rfl
    · rcases hw with rfl | rfl <;> rfl
    · rcases hw with rfl | rfl
      · exact Nat.le_refl _
      · exact Nat.le_succ _
  refine T.mod h hi hbel hk h.kold (fun b' o k=>by rw [hh];simpa using h.klt b' o k) rfl (fun j r' b' hj hrj hbj=>⟨hoth b' (fun e=>?_),fun _ k=>k⟩) (.inr (.inr ⟨_,_,rfl,rfl,rfl⟩)) (fun _=>?_)
  · subst e
    exact h.dis i j _ r' hi hrj (Ne.symm hj) b' (by rw [hl];rfl) hbj
  · exact ⟨b,hl,hB,hsame⟩
theorem todoK_mem {n:Nat} {seen:List Nat} {j:Nat} : j∈todoK n seen↔j<n∧j ∉ seen:=by
  simp [todoK]
theorem leftOf_mem {es:Array MapEntry} {seen:List Nat} {en:MapEntry} : en∈(leftOf es seen.toArray).toList↔en∈es.toList∧en.born ∉ seen:=by
  unfold leftOf
  simp
theorem vnext_ok (h:T w0 K0 nt st a w g) (hd:∀ t,o.dst=some t→t<nt) {ty:TypeId} {m:Operand} (hm:SR g w st.rs (e m) (a.eval m))
    (hv:vnext o.dst st (e m) K) (hn:∀ st' a' w' g',K st'→T w0 K0 nt st' a' w' g'→next a' w'):∃ u w',(Instr.next (a.eval m) false ty).run P w = .ok u w'∧next (a.put o.dst u) w':=by
  unfold vnext at hv
  split at hv
  · rename_i y e1
    split at hv
    · rename_i bm n seen bm' i h1 h2
      split at hv
      · rename_i kvs h3
        obtain ⟨rfl,hnl,hkeys,hover,hgo⟩:=hv
        rw [e1,SR] at hm
        have hm':=hm _ h1
        obtain ⟨bi,i1,i2,i3⟩:=h.res y _ h1
        obtain ⟨b,es,b1,b2,b3,b4,b5⟩:=h.res i _ h3
        have hp:=(h.res (y+1) _ h2).2
        rw [SR] at hp
        have hp':=hp _ h3
        rw [b1] at hp'
        simp at hp'
        subst hp'
        have hlen:es.size=kvs.length:=by have:=MapR.len _ _ b4;simpa using this
        rw [← hlen] at hnl
        subst hnl
        have hbo:∀ x∈es.toList,x.born<es.size∧es[x.born]? = some x:=fun x hx=>by
          obtain ⟨j,hj,rfl⟩:=List.mem_iff_getElem.1 hx
          have hj':j<es.size:=by simpa using hj
          have:=b5 j es[j] (by simp [hj'])
          simp only [Array.getElem_toList]
          rw [this]
          exact ⟨hj',by simp [hj']⟩
        rw [hm',i1]
        rcases run_next_at (P:=P) w ty bi bm es.size es.size seen.toArray es es.size i3 b3 (fun x hx=>(hbo x hx).1) (Nat.le_refl _) with ⟨q1,q2⟩ | ⟨en,q1,w1,q2,q3⟩
        · refine ⟨_,_,q2,hn _ _ _ g (hover ?_) (h.putd hd ?_)⟩
          · rw [List.eq_nil_iff_forall_not_mem]
            intro j hj
            obtain ⟨j1,j2⟩:=todoK_mem.1 hj
            have hmem:es[j]∈(leftOf es seen.toArray).toList:=leftOf_mem.2 ⟨by simp,by rw [b5 j es[j] (by simp [j1])];exact j2⟩
            rw [Array.eq_empty_of_size_eq_zero q1] at hmem
            simp at hmem
          · rw [SR]
            refine ⟨[.bool false],rfl,?_⟩
            simp only [SRs]
            exact ⟨_,_,rfl,by rw [SR,CR];exact ⟨rfl,rfl⟩,rfl⟩
        · obtain ⟨m1,m2⟩:=leftOf_mem.1 q1
          obtain ⟨n1,n2⟩:=hbo en m1
          obtain ⟨cs,c1,c2⟩:=MapR.at kvs es.toList en.born en b4 (by simpa using n2)
          have hT:=h.setiter (seen':=seen++[en.born]) h1 i1 i3 q2
          refine ⟨_,_,q3,hn _ _ _ g (hgo en.born en.key cs (todoK_mem.2 ⟨n1,m2⟩) c1) ?_⟩
          have e2:seen.toArray.push en.born=(seen++[en.born]).toArray:=by simp
          rw [e2]
          refine hT.putd hd ?_
          have hk1:en.key.oneCell'=true:=by
            have:=List.all_eq_true.1 hkeys (en.key,cs) (List.mem_of_getElem? c1)
            exact this
          have c2':EntR g (setBlock w1 bi (.mapIter (some bm) es.size (seen++[en.born]).toArray es.size)) (st.setR y (some (.map (.iter bm es.size (seen++[en.born]))))).rs cs en.val:=by
            obtain ⟨b',es',r1,r2,r3,r4,r5⟩:=hT.res i (.map (.ents kvs)) (by
              rw [St.rs_setR]
              by_cases e3:y=i
              · subst e3;rw [h1] at h3;cases h3
              · rw [if_neg e3];exact h3)
            rw [b1] at r1
            simp at r1
            subst r1
            have hne:bm≠bi:=fun e3=>by subst e3;rw [b3] at i3;cases i3
            have hhb:(setBlock w1 bi (.mapIter (some bm) es.size (seen++[en.born]).toArray es.size)).heap[bm]? = w.heap[bm]? := by
              rcases q2 with rfl | rfl
              · exact Array.getElem?_setIfInBounds_ne (Ne.symm hne)
              · exact Array.getElem?_setIfInBounds_ne (Ne.symm hne)
            rw [hhb,b3] at r3
            cases r3
            obtain ⟨cs',d1,d2⟩:=MapR.at kvs es.toList en.born en r4 (by simpa using n2)
            rw [c1] at d1
            simp at d1
            subst d1
            exact d2
          rw [SR]
          refine ⟨[.bool true,en.key,en.val],rfl,?_⟩
          simp only [SRs]
          exact ⟨_,_,rfl,by rw [SR,CR];exact ⟨rfl,rfl⟩,_,_,rfl,by rw [SR,CR];exact ⟨rfl,hk1⟩,_,_,rfl,SR_entS c2',rfl⟩
      · exact hv.elim
    · exact hv.elim
  · exact hv.elim
theorem ventry_ok (h:T w0 K0 nt st a w g) (hd:∀ t,o.dst=some t→t<nt) {m:Operand} (hm:SR g w st.rs (e m) (a.eval m))
    (hv:ventry o.dst st (e m) K) (hn:∀ st' a' w' g',K st'→T w0 K0 nt st' a' w' g'→next a' w'):∃ u,(Instr.entry (a.eval m)).run P w = .ok u w∧next (a.put o.dst u) w:=by
  unfold ventry at hv
  split at hv
  · rename_i y e1
    split at hv
    · rename_i bm n seen bm' i h1 h2
      split at hv
      · rename_i kvs j h3 h4
        split at hv
        · rename_i k cs h5
          obtain ⟨rfl,hnl,hk1,hK⟩:=hv
          rw [e1,SR] at hm
          have hm':=hm _ h1
          obtain ⟨bi,i1,i2,i3⟩:=h.res y _ h1
          obtain ⟨b,es,b1,b2,b3,b4,b5⟩:=h.res i _ h3
          have hp:=(h.res (y+1) _ h2).2
          rw [SR] at hp
          have hp':=hp _ h3
          rw [b1] at hp'
          simp at hp'
          subst hp'
          have hlen:es.size=kvs.length:=by have:=MapR.len _ _ b4;simpa using this
          rw [← hlen] at hnl
          subst hnl
          have hj:j<es.size:=by rw [hlen];exact (List.getElem?_eq_some_iff.1 h5).1
          have hbj:=b5 j es[j] (by simp [hj])
          obtain ⟨cs',d1,d2⟩:=MapR.at kvs es.toList j es[j] b4 (by simp [hj])
          rw [h5] at d1
          simp at d1
          obtain ⟨rfl,rfl⟩:=d1
          obtain ⟨sn,hsn⟩:∃ sn,seen=sn++[j]:=by
            rw [List.getLast?_eq_some_iff] at h4
            exact h4
          have i3':w.heap[bi]? = some (.mapIter (some bm) es.size (sn.toArray.push es[j].born) es.size):=by rw [i3,hsn,hbj];simp
          rw [hm',i1]
          refine ⟨_,run_entry_at w bi bm es.size sn.toArray es es.size es[j] i3' b3 (by simp) ?_,hn _ _ _ g hK (h.putd hd ?_)⟩
          · rw [List.nodup_iff_pairwise_ne,List.pairwise_iff_getElem]
            intro x y hx hy hxy
            simp at hx hy
            have ex:=b5 x es[x] (by simp [hx])
            have ey:=b5 y es[y] (by simp [hy])
            simp only [List.getElem_map,Array.getElem_toList,ex,ey]
            omega
          · rw [SR]
            refine ⟨[es[j].key,es[j].val],rfl,?_⟩
            simp only [SRs]
            exact ⟨_,_,rfl,by rw [SR,CR];exact ⟨rfl,hk1⟩,_,_,rfl,SR_entS d2,rfl⟩
        · exact hv.elim
      · exact hv.elim
    · exact hv.elim
  · exact hv.elim
end
end Go.VL
