/- Contracts of functions of the seat, proved in a logic on data over the model (part V13). -/
import Derived.Test.YtlphpbcafplnbaaGreatVM4b
set_option linter.unusedSimpArgs false
set_option linter.unusedVariables false
namespace Go.VL
open Go.RowKit
section
variable {P:Program} {w0:World} {K0:K0T} {nt:Nat} {st:St} {a:Act} {w:World} {g:G}
variable {o:Oper} {K:St→Prop} {e:Operand→S} {next:Act→World→Prop} {Q:Exit→Act→World→Prop}
theorem wrap_small {n:Int} (h0:0≤n) (h1:n≤9223372036854775807):IntKind.i64.wrap n=n:=IntWalk.i64_in n (by omega)
theorem run_make {t el:TypeId} {i:TypeInfo} {z:Value} {k k':IntKind} {n m:Int} (ht:P.underlying t=some (.slice el)) (hi:P.info? el=some i) (hz:i.zero=some z) (h0:0≤n) (h1:n≤m) (hB0:0<i.bytes) (hB:m.toNat*i.bytes≤140737488355328) (hs:0<i.size) (hzs:z.cells.size=i.size) :
    (Instr.makeSlice t (.int k n) (.int k' m)).run P w = .ok (.slice (some ⟨w.heap.size,0,none⟩) n.toNat m.toNat) (w.alloc (.cells (List.replicate m.toNat z.cells.toList).flatten.toArray el)):=by
  have hm:(m.toNat:Int)=m:=Int.toNat_of_nonneg (by omega)
  have hmB:m.toNat*1≤m.toNat*i.bytes:=Nat.mul_le_mul_left _ hB0
  have hw1:IntKind.i64.wrap n=n:=wrap_small h0 (by omega)
  have hw2:IntKind.i64.wrap m=m:=wrap_small (by omega) (by omega)
  have hb:(i.bytes:Int)*m=((m.toNat*i.bytes:Nat):Int):=by
    rw [Int.natCast_mul,hm,Int.mul_comm]
  have c1:¬ (m<0):=by omega
  have c2:¬ ((i.bytes:Int)*m > 2 ^ 48):=by rw [hb];omega
  have c3:¬ (n<0):=by omega
  have c4:¬ (n > m):=by omega
  have hcells:(Array.map (fun x=>z.cells[x % z.cells.size]!) (Array.range (m.toNat*i.size)))=(List.replicate m.toNat z.cells.toList).flatten.toArray:=by
    apply Array.ext'
    have hl:z.cells.toList.length=i.size:=by simpa using hzs
    have:=range_map_flat z.cells.toList (by omega) m.toNat
    simp only [Array.toList_map,Array.toList_range]
    rw [← hl]
    simpa using this
  simp only [Instr.makeSlice,Sem.run_bind,run_underlying ht,Result.andThen_ok,asInt,asIntOf,pure_bind,Sem.run_pure,typeInfo,run_program,hi,hw1,hw2,sizeOf]
  have hcond:((decide (m<0) || decide ((i.bytes:Int)*m > 2 ^ 48)) || decide (n<0) || decide (n > m))=false:=by
    simp only [c1,c2,c3,c4,decide_false,Bool.or_false]
  rw [hcond]
  have hsz:(sizeOf el).run P w = .ok i.size w:=by simp [sizeOf,typeInfo,hi]
  have hsz':∀ f:Nat→Sem Value,((sizeOf el) >>= f).run P w=(f i.size).run P w:=fun f=>by rw [Sem.run_bind,hsz,Result.andThen_ok]
  simp only [sizeOf,typeInfo] at hsz'
  simp only [Bool.false_eq_true,if_false,Sem.run_bind,run_askRoom,Result.andThen_ok,run_program,hi,Sem.run_pure]
  by_cases hz0:m.toNat*i.size=0
  · have hm0:m.toNat=0:=by
      rcases Nat.mul_eq_zero.1 hz0 with q | q
      · exact q
      · omega
    simp [hm0,newRow,Array.range_zero']
  · simp only [hz0,if_false,zeroValue,Sem.run_bind,typeInfo,run_program,hi,hz,Result.andThen_ok,Sem.run_pure,hcells,newRow,run_newObj,World.alloc_eq]
theorem vmake_ok (h:T w0 K0 nt st a w g) (hd:∀ t,o.dst=some t→t<nt) {t:TypeId} {l c:Operand} (ho:o.op = .makeSlice t l c) (hl:SR g w st.rs (e l) (a.eval l)) (hc:SR g w st.rs (e c) (a.eval c))
    (hv:vmake P o.dst st t (e l) (e c) K) (hn:∀ st' a' w' g',K st'→T w0 K0 nt st' a' w' g'→next a' w'):o.wp P a w next Q:=by
  unfold vmake at hv
  split at hv
  · rename_i y s B n m hy ht hln hcm
    split at hv
    · rename_i el hel
      split at hv
      · rename_i z hz
        split at hv
        · rename_i zc hzc
          obtain ⟨h0,h1,hB0,hB,hs0,hK⟩:=hv
          obtain ⟨el',i,z',t1,t2,t3,t4,t5,rfl,rfl⟩:=slT_some ht
          rw [hel] at t1
          simp at t1
          subst t1
          have hzz:z=z':=by
            unfold zeroOf at hz
            rw [t2] at hz
            simp only [Option.bind_some,t3] at hz
            cases hz;rfl
          subst hzz
          obtain ⟨k,hk⟩:=sint_eq hln hl
          obtain ⟨k',hk'⟩:=sint_eq hcm hc
          have hrun:=run_make (P:=P) (w:=w) (k:=k) (k':=k') hel t2 t3 h0 h1 hB0 hB hs0 t4
          have hzv:=cellsS_VR (st:=st) hzc (SR_ofConst g w st.rs z)
          have hzl:zc.length=i.size:=by have:=((VR_iff _ _).1 hzv).1;simp at this;omega
          have hcap:m.toNat≤maxLen:=by
            have:m.toNat*1≤m.toNat*i.bytes:=Nat.mul_le_mul_left _ hB0
            simp only [maxLen];omega
          have hhold:Holds g.K w i.size (List.replicate n.toNat zc) (List.replicate m.toNat z.cells.toList).flatten.toArray:=by
            have hfl:=flat_rep zc z.cells.toList hzv m.toNat
            have hch:=chunks_holds (s:=i.size) (n:=m.toNat) hfl (by simp [hzl])
            intro j d hj
            have hjn:j<n.toNat:=by have:=(List.getElem?_eq_some_iff.1 hj).1;simpa using this
            have e1:d=zc:=by simp [hjn] at hj;exact hj.symm
            subst e1
            refine hch j d ?_
            rw [chunks_get _ _ _ _ (by omega)]
            congr 1
            have:∀ (p:Nat) (q:Nat),q<p→(((List.replicate p d).flatten.drop (q*i.size)).take i.size)=d:=by
              intro p
              induction p with
              | zero=>intro q h;omega
              | succ p ih =>
                intro q hq
                simp only [List.replicate_succ,List.flatten_cons]
                cases q with
                | zero=>simp [← hzl]
                | succ q =>
                  have:(q+1)*i.size=d.length+q*i.size:=by rw [Nat.add_mul,hzl];omega
                  rw [this,List.drop_append]
                  have hz1:d.length+q*i.size-d.length=q*i.size:=by omega
                  rw [hz1,List.drop_of_length_le (by omega),List.nil_append]
                  exact ih q (by omega)
            exact this _ _ (by omega)
          obtain ⟨g1,m1,m2,m3,m4⟩:=h.newarr (64*y) i.size (List.replicate n.toNat zc) _ el m.toNat _ (.inl rfl) hhold (by simp;omega) hcap (by simp [t4])
          refine ow_value (o:=o) (u:=.slice (some ⟨w.heap.size,0,none⟩) n.toNat m.toNat) (w':=w.alloc (.cells (List.replicate m.toNat z.cells.toList).flatten.toArray el)) (by simp [execOp,ho,hk,hk',hrun]) (hn _ _ _ g1 hK ?_)
          rw [hy]
          refine T.puto m1 (hd y hy) ?_
          rw [m2];simp
        · exact hv.elim
      · exact hv.elim
    · exact hv.elim
  · exact hv.elim
theorem rep_holds {K:Nat→Nat→Prop} {zc:List C} {zv:List Value} (hzv:VR K w zc zv) (h0:0<zc.length) {n m:Nat} (hnm:n≤m):Holds K w zc.length (List.replicate n zc) (List.replicate m zv).flatten.toArray:=by
  have hfl:=flat_rep zc zv hzv m
  have hch:=chunks_holds (s:=zc.length) (n:=m) hfl (by simp)
  intro j d hj
  have hjn:j<n:=by have:=(List.getElem?_eq_some_iff.1 hj).1;simpa using this
  have e1:d=zc:=by simp [hjn] at hj;exact hj.symm
  subst e1
  refine hch j d ?_
  rw [chunks_get _ _ _ _ (by omega)]
  congr 1
  have:∀ (p:Nat) (q:Nat),q<p→(((List.replicate p d).flatten.drop (q*d.length)).take d.length)=d:=by
    intro p
    induction p with
    | zero=>intro q h;omega
    | succ p ih =>
      intro q hq
      simp only [List.replicate_succ,List.flatten_cons]
      cases q with
      | zero=>simp
      | succ q =>
        have:(q+1)*d.length=d.length+q*d.length:=by rw [Nat.add_mul];omega
        rw [this,List.drop_append]
        have hz1:d.length+q*d.length-d.length=q*d.length:=by omega
        rw [hz1,List.drop_of_length_le (by omega),List.nil_append]
        exact ih q (by omega)
  exact this _ _ (by omega)
theorem vsliceO_ok (h:T w0 K0 nt st a w g) (hd:∀ t,o.dst=some t→t<nt) {t:TypeId} {x:Operand} {lo hi mx:Option Operand} (ho:o.op = .slice t x lo hi mx) (he:∀ x∈o.op.operands.toList,SR g w st.rs (e x) (a.eval x)) (hmx:mx=none)
    (hv:vsliceO P o.dst st t (e x) (lo.map e) (hi.map e) K) (hn:∀ st' a' w' g',K st'→T w0 K0 nt st' a' w' g'→next a' w'):o.wp P a w next Q:=by
  subst hmx
  have hex:=he x (by rw [ho];simp [Op.operands])
  unfold vsliceO at hv
  split at hv
  · rename_i y i n s hy hx hlo hhi
    have hlo':lo=none:=by cases lo <;> simp at hlo;rfl
    subst hlo'
    obtain ⟨hi',rfl⟩:∃ x,hi=some x:=by cases hi <;> simp at hhi;exact ⟨_,rfl⟩
    simp only [Option.map_some,Option.some.injEq] at hhi
    split at hv
    · rename_i m nil sz xs fx hm hr
      obtain ⟨h0,h1,hxn,hfx,hes,hK⟩:=hv
      have hehi:=he hi' (by rw [ho];simp [Op.operands])
      rw [hhi] at hehi
      obtain ⟨k,hk⟩:=sint_eq hm hehi
      rw [hx,SR] at hex
      have hu:=hex nil sz xs fx hr hxn
      obtain ⟨sz',hes'⟩:=Option.isSome_iff_exists.1 hes
      obtain ⟨el,inf,h4,h5,_⟩:=esz_some hes'
      have hmn:m.toNat≤n:=by omega
      rcases h.res i _ hr with ⟨rfl,rfl,hl,rfl⟩ | ⟨rfl,b,cap,cur,E,hl,q2,q3,q4,q5,q6,q7,q8,q9⟩
      · have hn0:n=0:=by simpa using hxn.symm
        obtain rfl:m=0:=by omega
        have eb:=run_bounds (P:=P) (w:=w) (len:=0) (cap:=0) (lo:=none) (hi:=some (.int k 0)) (l:=0) (h:=0) (.inl ⟨rfl,rfl⟩) (.inr ⟨k,rfl⟩) (by omega) (by omega) (by omega) true
        refine ow_value (o:=o) (u:=.slice none 0 0) (w':=w) ?_ (hn _ _ w g hK ?_)
        · simp [execOp,ho,hu,hl,hk,Instr.sliceAt,run_underlying h4,Instr.slice,eb,sizeOf,typeInfo,h5]
        · have hT:T w0 K0 nt ((st.clr i).setR i (some (.arr true sz [] 0))) a w g:=T.make h (Bel.refl _ _ _) (Keeps.refl _ _) h.kold h.klt (fun _ _=>rfl) (fun _ _ _ _ _ _=>⟨rfl,fun _ k=>k⟩) (fun j r hj hrj b hb=>by rw [hl] at hb;simp [blk] at hb) (.inl ⟨rfl,rfl,hl,rfl⟩)
          rw [hy]
          simp only [List.take_nil]
          exact T.puto hT (hd y hy) hl
      · have hcap:m.toNat≤cap:=by omega
        have eb:=run_bounds (P:=P) (w:=w) (len:=xs.length) (cap:=cap) (lo:=none) (hi:=some (.int k m)) (l:=0) (h:=m) (.inl ⟨rfl,rfl⟩) (.inr ⟨k,rfl⟩) (by omega) h0 (by omega) true
        let g1:G:=⟨g.K,fun j=>if j=i then .slice (some ⟨b,0,none⟩) m.toNat cap else g.loc j⟩
        have hg1:g1.loc i = .slice (some ⟨b,0,none⟩) m.toNat cap:=if_pos rfl
        have hlen:(xs.take m.toNat).length=m.toNat:=by simp;omega
        refine ow_value (o:=o) (u:=.slice (some ⟨b,0,none⟩) m.toNat cap) (w':=w) ?_ (hn _ _ w g1 hK ?_)
        · simp only [Int.toNat_zero] at eb
          simp [execOp,ho,hu,hl,hk,Instr.sliceAt,run_underlying h4,Instr.slice,eb,sizeOf,typeInfo,h5,add_lit']
        · have hT:T w0 K0 nt ((st.clr i).setR i (some (.arr false sz (xs.take m.toNat) fx))) a w g1:=by
            refine T.make h (Bel.refl _ _ _) (Keeps.refl _ _) h.kold h.klt (fun j hj=>if_neg hj) (fun _ _ _ _ _ _=>⟨rfl,fun _ k=>k⟩) (fun j r hj hrj b' hb=>?_) (.inr ⟨rfl,b,cap,cur,E,by rw [hg1,hlen],q2,q3,by rw [hlen];omega,q5,q6,by rw [hlen];omega,?_,q9⟩)
            · rw [hg1] at hb
              exact h.dis i j _ _ hr hrj (Ne.symm hj) b' (by rw [hl];exact hb)
            · intro j e hj
              rw [List.getElem?_take] at hj
              split at hj
              · exact q8 j e hj
              · cases hj
          rw [hy]
          exact T.puto hT (hd y hy) hg1
    · exact hv.elim
  · rename_i y i n s hy hx hlo hhi
    have hhi':hi=none:=by cases hi <;> simp at hhi;rfl
    subst hhi'
    obtain ⟨lo',rfl⟩:∃ x,lo=some x:=by cases lo <;> simp at hlo;exact ⟨_,rfl⟩
    simp only [Option.map_some,Option.some.injEq] at hlo
    split at hv
    · rename_i m nil sz xs fx hm hr
      obtain ⟨h0,h1,hxn,hesz,hes,hK⟩:=hv
      have helo:=he lo' (by rw [ho];simp [Op.operands])
      rw [hlo] at helo
      obtain ⟨k,hk⟩:=sint_eq hm helo
      rw [hx,SR] at hex
      have hu:=hex nil sz xs fx hr hxn
      obtain ⟨sz',hes'⟩:=Option.isSome_iff_exists.1 hes
      obtain ⟨el,inf,h4,h5,h6⟩:=esz_some hes'
      rcases h.res i _ hr with ⟨rfl,rfl,hl,_⟩ | ⟨rfl,b,cap,cur,E,hl,q2,q3,q4,q5,q6,q7,q8,q9⟩
      · have hn0:n=0:=by simpa using hxn.symm
        obtain rfl:m=0:=by omega
        have eb:=run_bounds (P:=P) (w:=w) (len:=0) (cap:=0) (lo:=some (.int k 0)) (hi:=none) (l:=0) (h:=0) (.inr ⟨k,rfl⟩) (.inl ⟨rfl,rfl⟩) (by omega) (by omega) (by omega) true
        refine ow_value (o:=o) (u:=.slice none 0 0) (w':=w) ?_ (hn _ _ w g hK ?_)
        · simp [execOp,ho,hu,hl,hk,Instr.sliceAt,run_underlying h4,Instr.slice,eb,sizeOf,typeInfo,h5]
        · rw [hy]
          refine h.put (hd y hy) ?_
          rw [SR]
          intro _ _ _ _ _ _
          exact ⟨none,0,by simp [hn0],.inl (by omega)⟩
      · have eb:=run_bounds (P:=P) (w:=w) (len:=xs.length) (cap:=cap) (lo:=some (.int k m)) (hi:=none) (l:=m) (h:=xs.length) (.inr ⟨k,rfl⟩) (.inl ⟨rfl,rfl⟩) h0 (by omega) (by omega) true
        have hsz:inf.size=sz:=by
          have:=hesz rfl
          rw [hes'] at this
          simp at this
          omega
        refine ow_value (o:=o) (u:=.slice (if cap=m.toNat then some ⟨b,0,none⟩ else some ⟨b,m.toNat*inf.size,none⟩) (xs.length-m.toNat) (cap-m.toNat)) (w':=w) ?_ (hn _ _ w g hK ?_)
        · simp only [Int.toNat_natCast] at eb
          simp [execOp,ho,hu,hl,hk,Instr.sliceAt,run_underlying h4,Instr.slice,eb,sizeOf,typeInfo,h5,add_lit']
        · rw [hy]
          refine h.put (hd y hy) ?_
          rw [SR]
          intro nil' sz2 xs' fx' e1 e2
          rw [hr] at e1
          cases e1
          by_cases hc:cap=m.toNat
          · refine ⟨_,_,by rw [hxn],.inl (by omega)⟩
          · refine ⟨_,_,by rw [hxn],.inr ⟨b,cap,by rw [hl,hxn],by rw [if_neg hc,hsz]⟩⟩
    · exact hv.elim
  · exact hv.elim
theorem vclear_ok (h:T w0 K0 nt st a w g) {t:TypeId} {x:Operand} (ho:o.op = .call { callee:=.builtin .clear,args:=#[x],argTypes:=#[t] }) (hex:SR g w st.rs (e x) (a.eval x))
    (hv:vclear P o.dst st t (e x) K) (hn:∀ st' a' w' g',K st'→T w0 K0 nt st' a' w' g'→next a' w'):o.wp P a w next Q:=by
  unfold vclear at hv
  split at hv
  · rename_i i n j el hy hx ht
    split at hv
    · rename_i nil sz xs fx b' s z hr hty hz
      split at hv
      · rename_i zc hzc
        obtain ⟨hxn,hfx,hjn,rfl,hzl,hs0,hK⟩:=hv
        rw [hx,SR] at hex
        obtain ⟨ad,c,hu,hcase⟩:=hex nil s xs fx hr hxn
        have fin:∀ w' g',T w0 K0 nt (st.setR i (some (.arr nil s (xs.take j++List.replicate (n-j) zc) fx))) a w' g'→(Builtin.clear_ #[t] o.type #[a.eval x]).run P w = .ok (.tuple #[]) w'→o.wp P a w next Q:=by
          intro w' g' hT hrun
          refine ow_value (o:=o) (u:=.tuple #[]) (w':=w') (by simp [execOp,ho,resolve,invoke,builtin,hrun]) ?_
          rw [hy]
          exact hn _ _ w' g' hK hT
        by_cases h0:n-j=0
        · have hjn':j=n:=by omega
          refine fin w g ?_ ?_
          · have e1:xs.take j++List.replicate (n-j) zc=xs:=by rw [h0,hjn',← hxn];simp
            rw [e1]
            exact h.congr rfl (by funext q;rw [St.rs_setR];split <;> simp_all)
          · rw [hu,h0]
            cases ad <;> simp [Builtin.clear_,run_underlying ht]
        · rcases hcase with hcase | ⟨b,cap,hl,rfl⟩
          · exact absurd hcase h0
          rcases h.res i _ hr with ⟨rfl,rfl,hl',_⟩ | ⟨rfl,b1,cap1,cur,E,hl',q2,q3,q4,q5,q6,q7,q8,q9⟩
          · rw [hl] at hl';cases hl'
          rw [hl] at hl'
          simp only [Value.slice.injEq,Option.some.injEq,Addr.mk.injEq] at hl'
          obtain ⟨⟨rfl,_⟩,_,rfl⟩:=hl'
          have hzv:=cellsS_VR (st:=st) hzc (SR_ofConst g w st.rs z)
          have hzs:z.cells.size=s:=by have:=((VR_iff _ _).1 hzv).1;simp at this;omega
          have hnews:(Builtin.zeroCells z.cells (n-j)).toList=(List.replicate (n-j) z.cells.toList).flatten:=by
            have:=range_map_flat z.cells.toList (by simp;omega) (n-j)
            simp only [Builtin.zeroCells,Array.toList_map,Array.toList_range]
            have hl2:z.cells.toList.length=z.cells.size:=by simp
            rw [← hl2]
            simpa using this
          have hflat:(List.replicate (n-j) z.cells.toList).flatten.length=(n-j)*s:=by simp [hzs]
          have hone:∀ v∈(List.replicate (n-j) z.cells.toList).flatten,v.oneCell'=true:=by
            intro v hv'
            rw [List.mem_flatten] at hv'
            obtain ⟨l,hl1,hl2⟩:=hv'
            rw [List.eq_of_mem_replicate hl1] at hl2
            obtain ⟨p,hp,rfl⟩:=List.mem_iff_getElem.1 hl2
            have hp':p<zc.length:=by have:z.cells.toList.length=z.cells.size:=by simp
                                     omega
            exact CR.one (((VR_iff _ _).1 hzv).2 p zc[p] _ (by simp [hp']) (by simp))
          have hjs:j*s+(n-j)*s=n*s:=by rw [← Nat.add_mul];congr 1;omega
          have hns:n*s≤cap*s:=Nat.mul_le_mul_right _ (by omega)
          have hfit:j*s+(List.replicate (n-j) z.cells.toList).flatten.length≤cur.size:=by omega
          have hst:=run_storeCells_at P b (j*s) E (List.replicate (n-j) z.cells.toList).flatten 0 cur w q3 (by simpa using hfit) hone
          simp only [Nat.add_zero] at hst
          have hsp:j*s+(List.replicate (n-j) z.cells.toList).flatten.length≤cur.toList.length:=by simpa using hfit
          have hT:=T.rewrite h (i:=i) (r:=.arr false s (xs.take j++List.replicate (n-j) zc) fx) (cs:=spl cur.toList (j*s) (List.replicate (n-j) z.cells.toList).flatten) hr (by rw [hl];rfl) q3 (fun o' k=>by
              have:=(q9 o').1 k
              have hfs:fx*s≤j*s:=Nat.mul_le_mul_right _ hfx
              rw [spl_getElem hsp,if_pos (by omega)]
              simp) (.inr ⟨false,s,xs,fx,false,_,fx,rfl,rfl,by simp;omega⟩) (fun hcmp hk hh=>by
              have hlen:(xs.take j++List.replicate (n-j) zc).length=n:=by simp;omega
              refine .inr ⟨rfl,b,cap,_,E,by rw [hlen];exact hl,q2,hh,by rw [hlen];omega,q5,?_,by rw [hlen];omega,?_,q9⟩
              · simp only [List.size_toArray]
                rw [spl_length hsp]
                simpa using q6
              · have hr1:Holds g.K (w.setRow b (spl cur.toList (j*s) (List.replicate (n-j) z.cells.toList).flatten).toArray) s (List.replicate (n-j) zc) (List.replicate (n-j) z.cells.toList).flatten.toArray:=by
                  have:=(rep_holds (K:=g.K) (w:=w) hzv (by omega) (Nat.le_refl (n-j))).mono hk
                  rw [hzl] at this
                  exact this
                have hr2:Holds g.K (w.setRow b (spl cur.toList (j*s) (List.replicate (n-j) z.cells.toList).flatten).toArray) s (xs.take j) cur:=by
                  intro p d hp
                  rw [List.getElem?_take] at hp
                  split at hp
                  · obtain ⟨k1,k2⟩:=q8 p d hp
                    exact ⟨k1,fun k c hc=>let ⟨u,m1,m2⟩:=k2 k c hc; ⟨u,m1,CR.mono hk c u m2⟩⟩
                  · cases hp
                have hjl:(xs.take j).length=j:=by simp;omega
                have:=Holds.append (rest:=cur.toList.drop (j*s+(List.replicate (n-j) z.cells.toList).flatten.length)) hr2 (by rw [hjl];omega) hr1
                rw [hjl] at this
                exact this)
          refine fin _ g hT ?_
          rw [hu]
          obtain ⟨p,hp⟩:∃ p,n-j=p+1:=⟨n-j-1,by omega⟩
          have hrz:=run_zero (P:=P) (w:=w) hz
          rw [hp] at hst hnews ⊢
          simp only [Builtin.clear_]
          simp [run_underlying ht,hrz,hnews,spl]
          rw [hst]
          simp [List.append_assoc]
      · exact hv.elim
    · exact hv.elim
  · exact hv.elim
theorem run_call {c:Call} {f:Operand} {fid:FuncId} {us:List Value} (hcall:callable P fid=true) (ho:o.op = .call c) (hc:c.callee = .value f) (hfv:a.eval f = .func (.func fid) #[] us.toArray) :
    (execOp a.eval o).run P w = .ok (.enter fid ((c.args.toList.map a.eval++us).toArray)) w:=by
  unfold callable at hcall
  split at hcall
  · rename_i fn hfn
    simp only [Bool.and_eq_true,bne_iff_ne,ne_eq] at hcall
    obtain ⟨c1,c2⟩:=hcall
    have c3:(fn.name == "runtime.NumGoroutine")=false:=by simpa using c1
    have c4:fn.body.isNone=false:=by
      cases hb:fn.body with
      | none=>rw [hb] at c2;simp at c2
      | some b=>rfl
    obtain ⟨cal,args,ats⟩:=c
    simp only at hc
    subst hc
    have harr:(args.map a.eval)++us.toArray=(args.toList.map a.eval++us).toArray:=by
      apply Array.ext';simp
    simp only [execOp,ho,resolve,Deferred.ofValue,hfv,Sem.run_bind,Sem.run_pure,Result.andThen_ok,invoke,callFunc,run_program,hfn,c3,c4,Bool.false_eq_true,if_false,Array.empty_append]
    rw [harr]
  · cases hcall
theorem vlend_ok (h:T w0 K0 nt st a w g) (hd:∀ t,o.dst=some t→t<nt) {c:Call} {f:Operand} {fid:FuncId} {us:List Value} (ho:o.op = .call c) (hc:c.callee = .value f) (hfv:a.eval f = .func (.func fid) #[] us.toArray)
    {args:List S} (hargs:SRs g w st.rs args (c.args.toList.map a.eval++us)) (hv:vlend P o.dst st fid args K) (hn:∀ st' a' w' g',K st'→T w0 K0 nt st' a' w' g'→next a' w'):o.wp P a w next Q:=by
  obtain ⟨m,hm⟩:=hv
  obtain ⟨args',st1,g1,⟨b,b',as0,rs,as1,τ,C,L,hK⟩,h,hargs,_⟩:=vsnapm_ok m _ _ st g _ h hargs hm
  have hexec:=run_call (o:=o) (a:=a) (w:=w) L.con.1 ho hc hfv
  unfold Oper.wp
  rw [hexec,Oper.upon_enter]
  refine (L.calls h hargs).mono fun en w' ⟨vs,g',he,k1,k2⟩=>?_
  subst he
  have hres:SR g' w' (lendSt st1 τ C b').rs (retS τ rs) (retV vs):=by
    cases rs with
    | nil =>
      rw [renSs,SRs] at k2
      subst k2
      show SR g' w' (lendSt st1 τ C b').rs (.tup (renSs τ [])) (.tuple [].toArray)
      rw [SR,renSs]
      exact ⟨[],rfl,by rw [SRs]⟩
    | cons r rest =>
      cases rest with
      | nil =>
        rw [renSs,renSs,SRs] at k2
        obtain ⟨v,us',rfl,q1,q2⟩:=k2
        rw [SRs] at q2
        subst q2
        exact q1
      | cons r2 rest =>
        have k2':=k2
        rw [renSs,renSs,SRs] at k2
        obtain ⟨v,us',rfl,q1,q2⟩:=k2
        rw [SRs] at q2
        obtain ⟨v2,us2,rfl,q3,q4⟩:=q2
        show SR g' w' (lendSt st1 τ C b').rs (.tup (renSs τ (r::r2::rest))) (.tuple (v::v2::us2).toArray)
        rw [SR]
        exact ⟨_,rfl,k2'⟩
  exact hn _ _ _ g' hK (k1.putd hd hres)
theorem vcon_ok {st':St} {g':G} (h:T w0 K0 nt st a w g) (k2:T w0 K0 nt st' a w g') (hd:∀ t,o.dst=some t→t<nt) {fid:FuncId} {us:List Value} {args:List S} {rs:List Rt}
    (hwp:∀ {R:Ending→World→Prop},Runs P fid us.toArray w R→(∀ e w',R e w'→∃ v,e = .returned v∧next (a.put o.dst v) w')→o.wp P a w next Q)
    (hall:SRs g' w st'.rs args us) (hsp:Con P fid args rs) (hK:K (vret st' o.dst rs)) (hn:∀ st' a' w' g',K st'→T w0 K0 nt st' a' w' g'→next a' w'):o.wp P a w next Q:=by
    refine hwp (hsp w g'.K _ k2.klt (DRs_of hall)) fun en w' hpost=>?_
    obtain ⟨vs,rfl,hbel,K',p1,p2,p3,p4⟩:=hpost
    refine ⟨_,rfl,?_⟩
    have hB:w0.heap.size≤w.heap.size:=h.below.size
    have hkeep:Keeps g'.K w K' w':=⟨p1,fun b o k=>by
      have:=k2.klt b o k
      simp only [World.cell?];rw [hbel.block b this]⟩
    have hT1:=k2.world (Bel.of (hbel.mono hB)) hkeep (fun b o k hlt=>k2.kold b o (p2 b o k (by have:=hlt.1;omega)) hlt) p3 (fun i r b hi hb=>by
      have hlt:=(k2.res i r hi).lt hb
      exact ⟨hbel.block b hlt,fun o k=>p2 b o k hlt⟩)
    have hlow:∀ i r b,st'.rs i=some r→blk (g'.loc i)=some b→b<w.heap.size∨∃ v∈([]:List Value),blk v=some b:=fun i r b hi hb=>.inl ((k2.res i r hi).lt hb)
    have hB':w0.heap.size≤w'.heap.size:=Nat.le_trans hB hbel.size
    cases hdst:o.dst with
    | none =>
      rw [hdst] at hK
      exact hn _ _ _ _ hK hT1
    | some y =>
      rw [hdst] at hK
      have hlen:=p4.1
      have hy:=hd y hdst
      cases rs with
      | nil =>
        cases vs with
        | cons v vs=>simp at hlen
        | nil =>
          obtain ⟨g2,m1,m2,m3,m4,m5⟩:=T.rets hB' [] [] st' _ (64*y+1) w.heap.size [] hT1 hlow p4 hB (by simp)
          exact hn _ _ _ g2 hK (m1.put hy (by rw [SR];exact ⟨[],rfl,m2⟩))
      | cons r rest =>
        cases vs with
        | nil=>simp at hlen
        | cons v vs =>
          cases rest with
          | nil =>
            cases vs with
            | cons v' vs=>simp at hlen
            | nil =>
              obtain ⟨g2,m1,m2,m3,m4,m5⟩:=T.rets hB' [r] [v] st' _ (64*y) w.heap.size [] hT1 hlow p4 hB (by simp)
              refine hn _ _ _ g2 hK (m1.put hy ?_)
              have e1:(vrets st' (64*y) [r]).1=[(vret1 st' (64*y) r).1]:=rfl
              rw [e1,SRs] at m2
              obtain ⟨u,us',q1,q2,_⟩:=m2
              simp at q1
              rw [q1.1]
              exact q2
          | cons r2 rest =>
            cases vs with
            | nil=>simp at hlen
            | cons v2 vs =>
              obtain ⟨g2,m1,m2,m3,m4,m5⟩:=T.rets hB' (r::r2::rest) (v::v2::vs) st' _ (64*y+1) w.heap.size [] hT1 hlow p4 hB (by simp)
              exact hn _ _ _ g2 hK (m1.put hy (by rw [SR];exact ⟨_,rfl,m2⟩))
theorem vcall_ok (h:T w0 K0 nt st a w g) (hd:∀ t,o.dst=some t→t<nt) {c:Call} {f:Operand} (ho:o.op = .call c) (hc:c.callee = .value f) (he:∀ x∈o.op.operands.toList,SR g w st.rs (e x) (a.eval x))
    (hv:vcall P o.dst st (e f) (c.args.toList.map e) K) (hn:∀ st' a' w' g',K st'→T w0 K0 nt st' a' w' g'→next a' w'):o.wp P a w next Q:=by
  have hef:SR g w st.rs (e f) (a.eval f):=he f (by rw [ho];simp [Op.operands,Call.operands,hc])
  have hargs:SRs g w st.rs (c.args.toList.map e) (c.args.toList.map a.eval):=SRs_map _ _ _ (fun x hx=>he x (by rw [ho];simp [Op.operands,Call.operands,hc];exact .inr (by simpa using hx)))
  unfold vcall at hv
  split at hv
  · rename_i fid caps hf
    rw [hf] at hef
    have hv':vcallA P o.dst st fid caps (c.args.toList.map e) K∨(caps=[]∧vlend P o.dst st fid (c.args.toList.map e) K):=by
      unfold vcallQ at hv
      split at hv
      · exact hv
      · exact .inl hv
    clear hv
    rcases hv' with hv | ⟨rfl,hv⟩
    case inr =>
      simp only [SR,CR,VR] at hef
      obtain ⟨us,hfv,rfl⟩:=hef
      exact vlend_ok h hd ho hc hfv (by rw [List.append_nil];exact hargs) hv hn
    unfold vcallA at hv
    obtain ⟨ss',st',g',k1,k2,k3,k4,k5,k6⟩:=vsnaps_ok _ _ st g _ h hargs hv
    have hef':=k4 _ _ hef
    simp only [SR,CR] at hef'
    obtain ⟨us,hfv,hcv⟩:=hef'
    have hcaps:SRs g' w st'.rs (caps.map .c) us:=by
      rw [SRs_iff]
      obtain ⟨q1,q2⟩:=(VR_iff _ _).1 hcv
      refine ⟨by simp [q1],fun k s u e1 e2=>?_⟩
      simp only [List.getElem?_map,Option.map_eq_some_iff] at e1
      obtain ⟨d,e1,rfl⟩:=e1
      rw [SR];exact q2 k d u e1 e2
    have hall:SRs g' w st'.rs (ss'++caps.map .c) (c.args.toList.map a.eval++us):=by
      rw [SRs_iff] at k3 hcaps ⊢
      refine ⟨by simp [k3.1,hcaps.1],fun k s u e1 e2=>?_⟩
      by_cases hlt:k<ss'.length
      · rw [List.getElem?_append_left hlt] at e1
        rw [List.getElem?_append_left (by rw [k3.1];exact hlt)] at e2
        exact k3.2 k s u e1 e2
      · rw [List.getElem?_append_right (by omega)] at e1
        rw [List.getElem?_append_right (by rw [k3.1];omega),k3.1] at e2
        exact hcaps.2 _ s u e1 e2
    rcases k1 with ⟨rs,hsp,hK⟩ | hvl
    case inr=>exact vlend_ok k2 hd ho hc hfv hall hvl hn
    exact vcon_ok h k2 hd (fun hr hR=>wp_runs ho hc hfv hr hR) hall hsp hK hn
  · rename_i fid ss hf
    rw [hf,SR] at hef
    obtain ⟨us,hfv,hcs⟩:=hef
    refine vlend_ok h hd ho hc hfv ?_ hv hn
    rw [SRs_iff] at hargs hcs ⊢
    refine ⟨by simp [hargs.1,hcs.1],fun k s u e1 e2=>?_⟩
    by_cases hlt:k<(c.args.toList.map e).length
    · rw [List.getElem?_append_left hlt] at e1
      rw [List.getElem?_append_left (by rw [hargs.1];exact hlt)] at e2
      exact hargs.2 k s u e1 e2
    · rw [List.getElem?_append_right (by omega)] at e1
      rw [List.getElem?_append_right (by rw [hargs.1];omega),hargs.1] at e2
      exact hcs.2 _ s u e1 e2
  · exact hv.elim
theorem methOf_run {d:TypeId} {name:String} {f:FuncId} (h:methOf P d name=some f) (v:Value) (n:Nat):(Go.method (n+1) d v name).run P w = .ok (f,v) w:=by
  unfold methOf at h
  split at h
  · rename_i i hi
    split at h
    · rename_i m hm
      split at h
      · cases h
      · rename_i f' u hnp hp hf hu
        cases h
        have hfo:(follow m.path.toList d (.val v)).run P w = .ok (d,.val v) w:=by rw [hp];rfl
        have hr:∀ o,(receiverAt d (.val v) false o).run P w = .ok v w:=by
          intro o
          unfold receiverAt
          simp only [Sem.run_bind,run_underlying hu,Result.andThen_ok]
          cases u <;> first
            | exact absurd rfl (fun e=>hnp _ e)
            | rfl
        simp only [Go.method,typeInfo,run_program,Sem.run_bind,Result.andThen_ok,hi,Sem.run_pure,hm,hfo,hf,hr]
      · cases h
    · cases h
  · cases h
theorem vinv_ok (h:T w0 K0 nt st a w g) (hd:∀ t,o.dst=some t→t<nt) {c:Call} {r:Operand} {name:String} (ho:o.op = .call c) (hc:c.callee = .invoke r name) (he:∀ x∈o.op.operands.toList,SR g w st.rs (e x) (a.eval x))
    (hv:vinv P o.dst st (e r) name (c.args.toList.map e) K) (hn:∀ st' a' w' g',K st'→T w0 K0 nt st' a' w' g'→next a' w'):o.wp P a w next Q:=by
  have her:SR g w st.rs (e r) (a.eval r):=he r (by rw [ho];simp [Op.operands,Call.operands,hc])
  have hargs:SRs g w st.rs (c.args.toList.map e) (c.args.toList.map a.eval):=SRs_map _ _ _ (fun x hx=>he x (by rw [ho];simp [Op.operands,Call.operands,hc];exact .inr (by simpa using hx)))
  obtain ⟨d,s,f,hr,hm,hv⟩:=hv
  obtain ⟨ss',st',g',⟨rs,hcon,hK⟩,k2,k3,k4,k5,k6⟩:=vsnaps_ok _ _ st g _ h hargs hv
  obtain ⟨v,hev,hs⟩:∃ v,a.eval r = .iface d v∧SR g w st.rs s v:=by
    unfold recvS at hr
    split at hr
    · rename_i d' cs hrs
      cases hr
      rw [hrs,SR,CR] at her
      obtain ⟨us,e1,e2⟩:=her
      exact ⟨_,e1,by rw [SR];exact ⟨us,rfl,e2⟩⟩
    · rename_i d' c' hrs
      cases hr
      rw [hrs,SR,CR] at her
      obtain ⟨x,e1,e2⟩:=her
      exact ⟨x,e1,by rw [SR];exact e2⟩
    · cases hr
  obtain ⟨cal,args,ats⟩:=c
  simp only at hc
  subst hc
  have harr:#[v]++(args.map a.eval)=(v::args.toList.map a.eval).toArray:=by
    apply Array.ext';simp
  have hex:(execOp a.eval o).run P w=(callFunc f ((v::args.toList.map a.eval).toArray)).run P w:=by
    have e1:(#[Value.iface d v]++args.map a.eval)[0]? = some (Value.iface d v):=by rw [← Array.getElem?_toList];simp
    have e2:(#[Value.iface d v]++args.map a.eval).extract 1 (#[Value.iface d v]++args.map a.eval).size=args.map a.eval:=by
      apply Array.ext'
      have e3:(#[Value.iface d v]++args.map a.eval).toList=Value.iface d v::args.toList.map a.eval:=by
        rw [Array.toList_append,Array.toList_map];rfl
      rw [Array.toList_extract,e3,← Array.length_toList,e3,List.extract_eq_take_drop,Array.toList_map,List.drop_succ_cons,List.drop_zero]
      exact List.take_of_length_le (by simp)
    have hmm:(Go.method (P.types.size+Made.depth) d v name).run P w = .ok (f,v) w:=by
      have:P.types.size+Made.depth=(P.types.size+(Made.depth-1))+1:=by unfold Made.depth;omega
      rw [this];exact methOf_run hm v _
    simp only [execOp,ho,resolve,hev,Sem.run_bind,Sem.run_pure,Result.andThen_ok,invoke,e1,e2,callMethod,run_program,hmm,harr]
  refine vcon_ok (us:=v::args.toList.map a.eval) h k2 hd (fun {R} hr hR=>?_) (by rw [SRs];exact ⟨_,_,rfl,k4 _ _ hs,k3⟩) hcon hK hn
  unfold Oper.wp
  rw [hex]
  rcases hr with ⟨h1,h2⟩ | ⟨v,w',h1,h2⟩
  · rw [run_callable h1,Oper.upon_enter]
    refine h2.mono fun e w' hr=>?_
    obtain ⟨v,rfl,hn⟩:=hR _ _ hr
    exact hn
  · rw [h1,Oper.upon_value]
    obtain ⟨v',e1,hn⟩:=hR _ _ h2
    cases e1
    exact hn
theorem vmkI_ok (h:T w0 K0 nt st a w g) (hd:∀ t,o.dst=some t→t<nt) {t:TypeId} {x:Operand} (ho:o.op = .makeInterface t x) (hx:SR g w st.rs (e x) (a.eval x))
    (hv:vmkI P o.dst st t (e x) K) (hn:∀ st' a' w' g',K st'→T w0 K0 nt st' a' w' g'→next a' w'):o.wp P a w next Q:=by
  unfold vmkI at hv
  split at hv
  · rename_i ss hs
    rw [hs,SR] at hx
    obtain ⟨us,hu,h1,h2⟩:=hx
    obtain ⟨ss',st',g',hk,k2,k3,k4,k5,k6⟩:=vsnaps_ok _ _ st g _ h h1 hv
    split at hk
    · rename_i cs hcs
      refine ow_value (run_mkIface hk.1 ho hu) (hn _ _ _ g' hk.2 (k2.putd hd ?_))
      rw [SR,CR]
      exact ⟨us,rfl,allC_VR (st:=st') ss' cs _ hcs ((SRs_iff _ _).1 k3).1 ((SRs_iff _ _).1 k3).2⟩
    · exact hk.elim
  · obtain ⟨s',st',g',⟨hk1,hk2⟩,k2,k3,k4,k5,k6⟩:=vsnap_ok h hx hv
    refine ow_value (u:=.iface t (a.eval x)) (w':=w) ?_ (hn _ _ _ g' hk2 (k2.putd hd ?_))
    · unfold pmkI at hk1
      split at hk1
      · exact run_mkIface hk1 ho rfl
      · exact run_mkIface hk1 ho rfl
      · exact hk1.elim
    · unfold pmkI at hk1 ⊢
      split at hk1
      · rw [SR] at k3
        simp only [SR,CR];exact ⟨_,rfl,k3⟩
      · rw [SR] at k3
        obtain ⟨us,hu,hv⟩:=k3
        simp only [SR,CR];exact ⟨us,by rw [hu],hv⟩
      · exact hk1.elim
theorem vloadb_ok (h:T w0 K0 nt st a w g) {t:TypeId} {s:S} {u:Value} {k:S→St→Prop} (hs:SR g w st.rs s u) (hv:vloadb P st t s k) :
    ∃ r s' st' g',(Instr.loadAt t u).run P w = .ok r w∧k s' st'∧T w0 K0 nt st' a w g'∧SR g' w st'.rs s' r∧(∀ s u,SR g w st.rs s u→SR g' w st'.rs s u)∧g'.loc=g.loc:=by
  unfold vloadb at hv
  split at hv
  · rename_i m i off ht
    split at hv
    · rename_i fz ss hr
      rw [SR] at hs
      obtain ⟨b,hb,rfl⟩:=hs fz ss hr
      obtain ⟨b',cur,E,h1,h2,h3,h4,h5,h6⟩:=h.res i _ hr
      rw [hb] at h1
      simp at h1;subst h1
      have hcells:SRs g w st.rs ((ss.drop off).take m) ((cur.toList.drop off).take m):=by
        rw [SRs_iff]
        refine ⟨by simp;omega,fun k s' v e1 e2=>?_⟩
        rw [List.getElem?_take] at e1 e2
        split at e1
        · rename_i hlt
          rw [if_pos hlt] at e2
          rw [List.getElem?_drop] at e1 e2
          obtain ⟨v',k1,k2,k3⟩:=h5 _ _ e1
          have:v'=v:=by simp at e2;rw [k1] at e2;exact Option.some.inj e2
          subst this;exact k2
        · cases e1
      obtain ⟨ss',st',g',⟨hlen,hk⟩,k2,k3,k4,k5,k6⟩:=vsnaps_ok _ _ st g _ h hcells (vsnaps_length _ _ _ hv)
      split at hk
      · rename_i cs hcs
        obtain ⟨hm,hk⟩:=hk
        have hl3:=((SRs_iff _ _).1 k3).1
        have hv:=allC_VR (st:=st') ss' cs _ hcs hl3 ((SRs_iff _ _).1 k3).2
        have hvl:=((VR_iff _ _).1 hv).1
        refine ⟨.agg ((cur.toList.drop off).take m).toArray,.agg cs,st',g',?_,hk,k2,by rw [SR];exact ⟨_,rfl,hv⟩,k4,k5⟩
        have hl:(Instr.loadAt t (.pointer (some ⟨b,off,none⟩))).run P w=(loadVar t ⟨b,off,none⟩).run P w:=by simp [Instr.loadAt,Instr.sureAddr]
        rw [hl]
        refine run_loadVar_agg ht (by rw [hvl,hm]) (fun j v hj=>?_)
        rw [add_lit,cell_of_heap h3]
        rw [List.getElem?_take] at hj
        split at hj
        · rw [List.getElem?_drop] at hj;simpa using hj
        · cases hj
      · exact hk.elim
    · exact hv.elim
  · obtain ⟨h1,h2⟩:=hv
    obtain ⟨r,e1,e2⟩:=pload_ok h hs h1
    exact ⟨r,_,st,g,e1,h2,h,e2,fun _ _ h=>h,rfl⟩
theorem vcap_ok (h:T w0 K0 nt st a w g) {s:S} {u:Value} {k:C→St→Prop} (hs:SR g w st.rs s u) (hv:vcap st s k) :
    ∃ c st' g',k c st'∧T w0 K0 nt st' a w g'∧CR g'.K w c u∧(∀ s u,SR g w st.rs s u→SR g' w st'.rs s u)∧Keeps g.K w g'.K w:=by
  unfold vcap at hv
  split at hv
  · rw [SR] at hs
    exact ⟨_,st,g,hv,h,hs,fun _ _ q=>q,Keeps.refl _ _⟩
  · rename_i i
    split at hv
    · rename_i fz ss hi
      obtain ⟨b,cur,E,h1,h2,h3,h4,h5,h6⟩:=h.res i _ hi
      have hss:SRs g w st.rs ss cur.toList:=by
        rw [SRs_iff]
        refine ⟨by simpa using h4,fun k s u e1 e2=>?_⟩
        obtain ⟨u',q1,q2,_⟩:=h5 k s e1
        rw [← Array.getElem?_toList,e2] at q1
        cases q1
        exact q2
      obtain ⟨ss',st1,g1,k1,k2,k3,k4,k5,k6⟩:=vsnaps_ok _ _ st g _ h hss hv
      split at k1
      · rename_i cs fz2 ss2 hcs hi2
        have hvr:∀ b' cur' E',g1.loc i = .pointer (some ⟨b',0,none⟩)→w.heap[b']? = some (.cells cur' E' (0,0))→VR g1.K w cs cur'.toList:=by
          intro b' cur' E' e1 e2
          rw [k5,h1] at e1
          simp at e1
          subst e1
          rw [h3] at e2
          simp at e2
          obtain ⟨rfl,_⟩:=e2
          exact allC_VR (st:=st1) ss' cs _ hcs ((SRs_iff _ _).1 k3).1 ((SRs_iff _ _).1 k3).2
        obtain ⟨g2,m1,m2,m3,m4,m5⟩:=k2.fixbox hi2 hvr
        refine ⟨_,_,g2,k1,m1,?_,fun s u q=>m2 s u (k4 s u q),k6.trans m5⟩
        rw [SR] at hs
        obtain ⟨b',q1,rfl⟩:=hs fz ss hi
        rw [CR]
        exact ⟨b',0,rfl,m3 b' (by rw [k5];exact q1)⟩
      · exact k1.elim
    · exact hv.elim
  · exact hv.elim
theorem vcaps_ok:∀ (ss:List S) (us:List Value) (st:St) (g:G) (k:List C→St→Prop),T w0 K0 nt st a w g→SRs g w st.rs ss us→vcaps st ss k →
    ∃ cs st' g',k cs st'∧T w0 K0 nt st' a w g'∧VR g'.K w cs us∧(∀ s u,SR g w st.rs s u→SR g' w st'.rs s u)∧Keeps g.K w g'.K w
  | [],us,st,g,k,h,hs,hv=>by
    rw [SRs] at hs
    subst hs
    exact ⟨[],st,g,hv,h,by rw [VR],fun _ _ q=>q,Keeps.refl _ _⟩
  | s::r,us,st,g,k,h,hs,hv=>by
    rw [SRs] at hs
    obtain ⟨u,us',rfl,h1,h2⟩:=hs
    rw [vcaps] at hv
    obtain ⟨c,st1,g1,k1,k2,k3,k4,k5⟩:=vcap_ok h h1 hv
    have h2':SRs g1 w st1.rs r us':=by
      rw [SRs_iff] at h2 ⊢
      exact ⟨h2.1,fun n s u e1 e2=>k4 s u (h2.2 n s u e1 e2)⟩
    obtain ⟨cs,st2,g2,m1,m2,m3,m4,m5⟩:=vcaps_ok r us' st1 g1 _ k2 h2' k1
    refine ⟨c::cs,st2,g2,m1,m2,?_,fun s u q=>m4 s u (k4 s u q),k5.trans m5⟩
    rw [VR]
    exact ⟨u,us',rfl,CR.mono m5 c u k3,m3⟩
theorem vop_ok (h:T w0 K0 nt st a w g) (hd:∀ t,o.dst=some t→t<nt) (hst:∀ t x y,o.op = .store t x y→o.dst=none) (he:∀ x∈o.op.operands.toList,SR g w st.rs (e x) (a.eval x))
    (hv:vop P o.dst st e o.op K) (hn:∀ st' a' w' g',K st'→T w0 K0 nt st' a' w' g'→next a' w'):o.wp P a w next Q:=by
  have pure_case:vpure P o.dst st e o.op K→o.wp P a w next Q:=fun hv=>vpure_ok h hd he hv hn
  unfold vop at hv
  split at hv
  · rename_i ho
    split at hv
    · rename_i x hx
      obtain ⟨g1,m1,m2,m3,m4⟩:=h.nilR (64*x)
      refine ow_value (o:=o) (u:=.slice none 0 0) (w':=w) (by simp [execOp,ho,Act.eval]) (hn _ _ _ g1 hv ?_)
      rw [hx]
      exact T.puto m1 (hd x hx) m2
    · exact hv.elim
  · rename_i t ho
    exact valloc_ok h hd ho hv hn
  · rename_i t x ho
    exact vbox_ok h hd ho (he x (by rw [ho];simp [Op.operands])) hv hn
  · rename_i t ad x ho
    exact vstore_ok h (hst t ad x ho) ho (he ad (by rw [ho];simp [Op.operands])) (he x (by rw [ho];simp [Op.operands])) hv hn
  · rename_i t x ho
    obtain ⟨r,s',st',g',e1,k1,k2,k3,k4,k5⟩:=vloadb_ok h (he x (by rw [ho];simp [Op.operands])) hv
    exact ow_value (o:=o) (u:=r) (w':=w) (by simp [execOp,ho,e1]) (hn _ _ _ g' k1 (k2.putd hd k3))
  · rename_i t len parts ho
    exact vbuildSlice_ok h hd ho he hv hn
  · rename_i t l c ho
    exact vmake_ok h hd ho (he l (by rw [ho];simp [Op.operands])) (he c (by rw [ho];simp [Op.operands])) hv hn
  · rename_i t x lo hi mx ho
    rcases hv with hv | ⟨hmx,hv⟩
    case inr=>exact vsliceO_ok h hd ho he hmx hv hn
    have key:∀ (g':G) (st':St),(∀ s u,SR g w st.rs s u→SR g' w st'.rs s u)→∀ (z:Option Operand),(∀ y,z=some y→y∈(Op.slice t x lo hi mx).operands.toList)→(∀ s,z.map e=some s→∃ v,z.map a.eval=some v∧SR g' w st'.rs s v):=by
      intro g' st' hk z hz s hs
      cases z with
      | none=>simp at hs
      | some y=>simp at hs;subst hs;exact ⟨_,rfl,hk _ _ (he y (by rw [ho];exact hz y rfl))⟩
    obtain ⟨s',st',g',⟨k1,hK⟩,k2,k3,k4,k5,k6⟩:=vsnap_ok h (he x (by rw [ho];simp [Op.operands])) hv
    obtain ⟨r,h1,h2⟩:=pslice_ok (P:=P) (vlo:=lo.map a.eval) (vhi:=hi.map a.eval) (vmx:=mx.map a.eval) k3 (key g' st' k4 lo (fun y hy=>by simp [Op.operands,hy])) (by cases lo <;> simp)
      (key g' st' k4 hi (fun y hy=>by simp [Op.operands,hy])) (by cases hi <;> simp) (by cases mx <;> simp) k1
    exact ow_value (o:=o) (u:=r) (w':=w) (by simp [execOp,ho,h1]) (hn _ _ _ g' hK (k2.putd hd h2))
  · rename_i f first cap ho
    obtain ⟨h1,hv⟩:=hv
    have hss:SRs g w st.rs (cap.toList.map e) (cap.toList.map a.eval):=SRs_map _ _ _ (fun x hx=>he x (by rw [ho];simp [Op.operands];right;simpa using hx))
    have e1:first = #[]:=by simpa using h1
    subst e1
    unfold vmf at hv
    split at hv
    · refine ow_value (o:=o) (u:=.func (.func f) #[] (cap.map a.eval)) (w':=w) (by simp [execOp,ho,Instr.makeFunc]) (hn _ _ _ g hv (h.putd hd ?_))
      rw [SR]
      refine ⟨cap.toList.map a.eval,?_,hss⟩
      congr 1
      apply Array.ext';simp
    obtain ⟨cs,st',g',hK,k2,k3,k4,k5⟩:=vcaps_ok _ _ st g _ h hss hv
    refine ow_value (o:=o) (u:=.func (.func f) #[] (cap.map a.eval)) (w':=w) (by simp [execOp,ho,Instr.makeFunc]) (hn _ _ _ g' hK (k2.putd hd ?_))
    rw [SR,CR]
    refine ⟨cap.toList.map a.eval,?_,k3⟩
    congr 1
    apply Array.ext';simp
  · rename_i t parts ho
    split at hv
    · rename_i i n ho1
      split at hv
      · rename_i nil sz xs fx hr
        obtain ⟨hB,hxn,hK⟩:=hv
        have hparts:∃ x,parts.toList=[(0,x)]∧e x = .own i n:=by
          unfold oneOwn at ho1
          cases hq:isOne (tySz P t) with
          | false=>rw [hq] at ho1;cases ho1
          | true =>
            rw [hq,cond_true] at ho1
            split at ho1
            · rename_i h1 h2
              simp at ho1
              obtain ⟨rfl,rfl⟩:=ho1
              match hp:parts.toList,h1,h2 with
              | [(k,x)],h1,h2 =>
                simp at h1 h2
                exact ⟨x,by rw [h1],h2⟩
            · cases ho1
        obtain ⟨x,hpx,hex⟩:=hparts
        have hsx:=he x (by rw [ho];simp [Op.operands];exact ⟨0,by rw [← Array.mem_toList_iff,hpx];simp⟩)
        have hsx0:=hsx
        rw [hex,SR] at hsx0
        have hu:=hsx0 nil sz xs fx hr hxn
        have h1c:(a.eval x).oneCell'=true:=by
          rcases h.res i _ hr with ⟨_,_,q,_⟩ | ⟨_,b,cap,cur,E,q,_⟩ <;> rw [hu,q] <;> rfl
        have hd1:PartsR g w st.rs [(0,.c (.v (a.eval x)))] (parts.map fun p=>(p.1,a.eval p.2)).toList:=by
          rw [Array.toList_map,hpx]
          simp only [List.map_cons,List.map_nil,PartsR,SR,CR]
          exact ⟨_,_,rfl,⟨rfl,h1c⟩,rfl⟩
        obtain ⟨r,h1,h2⟩:=pbuild_ok (P:=P) (t:=t) hd1 (by rw [hB];trivial)
        rw [hB,SR] at h2
        obtain ⟨us,rfl,h2⟩:=h2
        rw [VR] at h2
        obtain ⟨u,us',rfl,h3,h4⟩:=h2
        rw [VR] at h4
        subst h4
        rw [CR] at h3
        obtain ⟨rfl,_⟩:=h3
        refine ow_value (o:=o) (u:=.agg [a.eval x].toArray) (w':=w) (by simp [execOp,ho,h1]) (hn _ _ _ g hK (h.putd hd ?_))
        rw [SR]
        refine ⟨[a.eval x],rfl,?_,by simpa using h1c⟩
        rw [SRs]
        exact ⟨_,_,rfl,by rw [← hex];exact hsx,by rw [SRs]⟩
      · exact hv.elim
    have hss:SRs g w st.rs (parts.toList.map fun p=>e p.2) (parts.toList.map fun p=>a.eval p.2):=SRs_map _ _ _ (fun p hp=>he p.2 (by rw [ho];simp [Op.operands];exact ⟨p.1,by simpa using hp⟩))
    obtain ⟨ss',st',g',⟨hlen,k1,hK⟩,k2,k3,k4,k5,k6⟩:=vsnaps_ok _ _ st g _ h hss (vsnaps_length _ _ _ hv)
    have hparts:PartsR g' w st'.rs ((parts.toList.map (·.1)).zip ss') (parts.map fun p=>(p.1,a.eval p.2)).toList:=by
      have:=PartsR_zip (g:=g') (w:=w) (parts.toList.map (·.1)) ss' _ (R:=st'.rs) (by simpa using hlen.symm) k3
      have e1:(parts.toList.map (·.1)).zip (parts.toList.map fun p=>a.eval p.2)=(parts.map fun p=>(p.1,a.eval p.2)).toList:=by
        simp only [Array.toList_map]
        generalize parts.toList=l
        induction l with
        | nil=>rfl
        | cons p r ih=>simp only [List.map_cons,List.zip_cons_cons,ih]
      rw [e1] at this
      exact this
    obtain ⟨r,h1,h2⟩:=pbuild_ok (P:=P) (t:=t) hparts k1
    exact ow_value (o:=o) (u:=r) (w':=w) (by simp [execOp,ho,h1]) (hn _ _ _ g' hK (k2.putd hd h2))
  · rename_i t x ho
    exact vmkI_ok h hd ho (he x (by rw [ho];simp [Op.operands])) hv hn
  · rename_i t ho
    obtain ⟨u,w',r1,r2⟩:=vmkMap_ok (P:=P) (t:=t) h hd hv hn
    exact ow_value (o:=o) (u:=u) (w':=w') (by simp [execOp,ho,r1]) r2
  · rename_i t m k ok ho
    obtain ⟨u,r1,r2⟩:=vlkup_ok h hd (he m (by rw [ho];simp [Op.operands])) (he k (by rw [ho];simp [Op.operands])) hv hn
    exact ow_value (o:=o) (u:=u) (w':=w) (by simp [execOp,ho,r1]) r2
  · rename_i t m k x ho
    obtain ⟨w',r1,r2⟩:=vmapUp_ok h hd (he m (by rw [ho];simp [Op.operands])) (he k (by rw [ho];simp [Op.operands])) (he x (by rw [ho];simp [Op.operands])) hv hn
    exact ow_skip (o:=o) (w':=w') (by simp [execOp,ho,r1]) r2
  · rename_i t m ho
    obtain ⟨u,w',r1,r2⟩:=vrange_ok (t:=t) h hd (he m (by rw [ho];simp [Op.operands])) hv hn
    exact ow_value (o:=o) (u:=u) (w':=w') (by simp [execOp,ho,r1]) r2
  · rename_i it ho
    obtain ⟨u,w',r1,r2⟩:=vnext_ok (P:=P) (ty:=o.type) h hd (he it (by rw [ho];simp [Op.operands])) hv hn
    exact ow_value (o:=o) (u:=u) (w':=w') (by simp [execOp,ho,r1]) r2
  · rename_i it ho
    obtain ⟨u,r1,r2⟩:=ventry_ok (P:=P) h hd (he it (by rw [ho];simp [Op.operands])) hv hn
    exact ow_value (o:=o) (u:=u) (w':=w) (by simp [execOp,ho,r1]) r2
  · rename_i c ho
    split at hv
    · rename_i hcal
      split at hv
      · rename_i t xt d x hts hargs
        obtain ⟨cal,args,ats⟩:=c
        simp only at hcal hts hargs
        subst hcal
        have a1:ats = #[t,xt]:=by rw [← Array.toArray_toList (xs:=ats),hts]
        have a2:args = #[d,x]:=by rw [← Array.toArray_toList (xs:=args),hargs]
        subst a1;subst a2
        exact vappend_ok h hd ho (he d (by rw [ho];simp [Op.operands,Call.operands])) (he x (by rw [ho];simp [Op.operands,Call.operands])) hv hn
      · exact hv.elim
    · rename_i f hcal
      exact vcall_ok h hd ho hcal he hv hn
    · rename_i r name hcal
      exact vinv_ok h hd ho hcal he hv hn
    · rename_i hcal
      split at hv
      · rename_i t x hts hargs
        obtain ⟨cal,args,ats⟩:=c
        simp only at hcal hts hargs
        subst hcal
        have a1:ats = #[t]:=by rw [← Array.toArray_toList (xs:=ats),hts]
        have a2:args = #[x]:=by rw [← Array.toArray_toList (xs:=args),hargs]
        subst a1;subst a2
        exact vclear_ok h ho (he x (by rw [ho];simp [Op.operands,Call.operands])) hv hn
      · exact hv.elim
    · exact pure_case hv
  · exact pure_case hv
end
end Go.VL
