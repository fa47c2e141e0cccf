/- Contracts of functions of the seat, proved in a logic on data over the model (part V37). -/
import Derived.Test.YtlphpbcafplnbaaGreatV24
set_option linter.unusedSimpArgs false
set_option linter.unusedVariables false
namespace Go.VL
open Go.RowKit Go.ChangeShapes Go.WideShapes
def okT (P:Program) (G:List TypeId) (t:TypeId):Bool :=
  match P.underlying t with
  | some .bool | some (.int _) | some .string=>true
  | some (.slice e)=>P.cellsOf e != 0 && G.contains e
  | some (.pointer e)=>P.cellsOf e != 0 && G.contains e
  | some (.struct fs)=>contig P 0 fs.toList == some (P.cellsOf t) && fs.toList.all fun f=>G.contains f.type
  | some (.array len e)=>P.cellsOf t == len*P.cellsOf e && G.contains e
  | _=>false
def closedT (P:Program) (G:List TypeId):Bool:=G.all (okT P G)
def FitsAllR (P:Program) (R:Nat):List TypeId→List S→Prop
  | [],ss=>ss=[]
  | t::ts,ss=>∃ s r n,ss=s::r∧FitsS P R n t s∧FitsAllR P R ts r
section
variable {H:Type} {enc:TypeId × Value→H} {P:Program} {w:World} {base:Nat} {spare:Nat→Bool} {held:Bool}
theorem trod_okR {R:Nat} {G:List TypeId} (hG:closedT P G=true):∀ (n:Nat) (t:TypeId) (cs:List Value) (x:DataW H × List MemPlace),t∈G→DataW.trod enc P w base spare held n t cs=some x→(∀ m∈x.1.weights P t,m≤R) →
    ∃ xs,VR (Kw w) w xs cs∧Fits P R n t xs:=by
  intro n
  induction n with
  | zero=>intro t cs x _ h;simp [DataW.trod] at h
  | succ n ih =>
    intro t cs x hm h hwt
    have hw:=List.all_eq_true.1 hG t hm
    unfold okT at hw
    unfold Fits
    split at hw
    · rename_i hu
      simp only [hu]
      obtain ⟨b,rfl,_⟩:=DataW.trod_bool hu h
      exact ⟨_,VR_one (by rw [CR];exact ⟨rfl,rfl⟩),⟨b,rfl⟩⟩
    · rename_i k hu
      simp only [hu]
      obtain ⟨m,rfl,_,hm⟩:=DataW.trod_int hu h
      exact ⟨_,VR_one (by rw [CR];exact ⟨rfl,rfl⟩),⟨m,rfl,hm⟩⟩
    · rename_i hu
      simp only [hu]
      obtain ⟨s,rfl,rfl,hm⟩:=DataW.trod_string hu h
      exact ⟨_,VR_one (by rw [CR];exact ⟨rfl,rfl⟩),⟨s,rfl,hm,hwt _ (by simp [DataW.weights])⟩⟩
    · rename_i e hu
      simp only [hu]
      simp only [Bool.and_eq_true,bne_iff_ne,ne_eq,List.contains_iff_mem] at hw
      rcases DataW.trod_slice hu h with ⟨rfl,_⟩ | ⟨a,len,cap,elems,rest,m,hnm,rfl,rfl,_,hl,hm,hlen,hel,_⟩
      · exact ⟨[.sl true []],VR_one (by rw [CR];exact .inl ⟨rfl,rfl,rfl⟩),true,[],rfl,fun _=>rfl,by simp,by simp,by simp⟩
      · have each:∀ i,i<len→∃ us ys,w.cells? base (a.add (i*P.cellsOf e)) (P.cellsOf e)=some us∧VR (Kw w) w ys us∧Fits P R n e ys:=by
          intro i hi
          have h1:=hel i hi
          rw [List.getElem?_eq_getElem (by omega)] at h1
          simp only [Option.bind_eq_some_iff] at h1
          obtain ⟨us,h2,h3⟩:=h1
          obtain rfl:n=m:=by omega
          obtain ⟨ys,h4,h5⟩:=ih _ _ _ hw.2 h3 (fun m hm=>hwt m (by
            simp only [DataW.weights,hu,List.mem_cons,List.mem_append]
            exact .inr (.inl (mem_weightsAll (d:=elems[i].1) (List.mem_map.2 ⟨elems[i],by simp,rfl⟩) hm))))
          exact ⟨us,ys,h2,h4,h5⟩
        have hex:∃ yss:List (List C),yss.length=len∧∀ i,(hi:i<len)→∃ ys,yss[i]? = some ys∧∃ us,w.cells? base (a.add (i*P.cellsOf e)) (P.cellsOf e)=some us∧VR (Kw w) w ys us∧Fits P R n e ys:=by
          clear hel hl
          generalize hL:len=L at each
          clear hL
          induction L with
          | zero=>exact ⟨[],rfl,fun i hi=>by omega⟩
          | succ L ihL =>
            obtain ⟨yss,e1,e2⟩:=ihL (fun i hi=>each i (by omega))
            obtain ⟨us,ys,e3,e4,e5⟩:=each L (by omega)
            refine ⟨yss++[ys],by simp [e1],fun i hi=>?_⟩
            by_cases hlt:i<L
            · obtain ⟨ys',g1,g2⟩:=e2 i hlt
              exact ⟨ys',by rw [List.getElem?_append_left (by omega)];exact g1,g2⟩
            · obtain rfl:i=L:=by omega
              exact ⟨ys,by rw [List.getElem?_append_right (by omega)];simp [e1],us,e3,e4,e5⟩
        obtain ⟨yss,hy1,hy2⟩:=hex
        refine ⟨[.sl false yss],VR_one ?_,false,yss,rfl,by simp,by omega,?_,fun y hy=>?_⟩
        · rw [CR]
          refine .inr ⟨rfl,a.block,a.off,a.spot,cap,P.cellsOf e,by rw [hy1],by omega,hm,?_,?_⟩
          · by_cases h0:len=0
            · left;exact List.eq_nil_of_length_eq_zero (by omega)
            · right
              obtain ⟨ys,_,us,g2,g3,_⟩:=hy2 0 (by omega)
              rw [Nat.zero_mul] at g2
              exact (LR_of_cells g2 g3 (by omega) _ rfl).2.2
          · rw [ER_iff]
            intro j y hj
            have hjl:j<len:=by have:=(List.getElem?_eq_some_iff.1 hj).1;omega
            obtain ⟨ys,g1,us,g2,g3,_⟩:=hy2 j hjl
            rw [hj] at g1
            cases g1
            obtain ⟨k1,k2,k3⟩:=LR_of_cells g2 g3 (by omega) _ rfl
            refine ⟨k1,?_⟩
            have e1:(a.add (j*P.cellsOf e)).block=a.block:=by unfold Addr.add;split <;> rfl
            have e2:(a.add (j*P.cellsOf e)).off=a.off+j*P.cellsOf e:=by
              unfold Addr.add
              split
              · rename_i h0;rw [h0];rfl
              · rfl
            rw [e1,e2] at k2
            exact k2
        · refine Nat.le_trans (Nat.mul_le_mul_right _ ?_) (hwt ((elems.length+rest.length)*P.bytesOf e) (by simp [DataW.weights,hu]))
          omega
        · obtain ⟨i,hi,rfl⟩:=List.mem_iff_getElem.1 hy
          obtain ⟨ys,g1,us,g2,g3,g4⟩:=hy2 i (by omega)
          rw [List.getElem?_eq_getElem hi] at g1
          cases g1
          exact g4
    · rename_i e hu
      simp only [hu]
      simp only [Bool.and_eq_true,bne_iff_ne,ne_eq,List.contains_iff_mem] at hw
      rcases DataW.trod_pointer hu h with ⟨rfl,_⟩ | ⟨a,us,y,m,hnm,rfl,rfl,hc,hy⟩
      · exact ⟨[.v (.pointer none)],VR_one (by rw [CR];exact ⟨rfl,rfl⟩),.inl rfl⟩
      · obtain rfl:n=m:=by omega
        obtain ⟨ys,h4,h5⟩:=ih _ _ _ hw.2 hy (fun m hm=>hwt m (by simpa [DataW.weights,hu] using hm))
        obtain ⟨k1,k2,k3⟩:=LR_of_cells hc h4 (by omega) _ rfl
        refine ⟨[.dp ys],VR_one ?_,.inr ⟨ys,rfl,h5⟩⟩
        rw [CR]
        refine ⟨a.block,a.off,?_,k2⟩
        obtain ⟨b,o,s⟩:=a
        simp only at k3
        subst k3
        rfl
    · rename_i fs hu
      simp only [hu]
      simp only [Bool.and_eq_true,beq_iff_eq,List.all_eq_true,List.contains_iff_mem] at hw
      obtain ⟨xs,m,hnm,rfl,hlen,hfs,hx⟩:=DataW.trod_struct hu h
      obtain rfl:n=m:=by omega
      obtain ⟨ys,h1,h2⟩:=cat_ok (F:=Fits P R n) (w:=w) cs fs.toList 0 (by rw [hw.1,hlen]) (fun f hf=>by
        obtain ⟨i,hi,rfl⟩:=List.mem_iff_getElem.1 hf
        have hi':i<fs.size:=by simpa using hi
        have:=hx i fs[i] (by simp [hi'])
        rw [List.getElem?_eq_getElem (by omega)] at this
        exact ih _ _ _ (hw.2 _ (by simp)) (by simpa using this) (fun m hm=>hwt m (by
          simp only [DataW.weights,hu]
          exact mem_weightsEach (i:=i) (by simp [hi']) (by simp [List.getElem?_eq_getElem (show i<xs.length by omega)]) hm)))
      exact ⟨ys,h1,h2⟩
    · rename_i len e hu
      simp only [hu]
      simp only [Bool.and_eq_true,beq_iff_eq,List.contains_iff_mem] at hw
      obtain ⟨xs,m,hnm,rfl,hlen,hxl,hx⟩:=DataW.trod_array hu h
      obtain rfl:n=m:=by omega
      obtain ⟨ys,h1,h2⟩:=catA_ok (F:=Fits P R n e) (w:=w) cs (P.cellsOf e) len 0 (by rw [hlen,hw.1];omega) (fun i hi=>by
        have:=hx i hi
        rw [List.getElem?_eq_getElem (by omega)] at this
        exact ih _ _ _ hw.2 (by simpa using this) (fun m hm=>hwt m (by
          simp only [DataW.weights,hu]
          exact mem_weightsAll (d:=xs[i].1) (List.mem_map.2 ⟨xs[i],by simp,rfl⟩) hm)))
      exact ⟨ys,by simpa using h1,h2⟩
    · cases hw
theorem arg_okR {R:Nat} {G:List TypeId} (hG:closedT P G=true) {t:TypeId} {b0:Nat} {v:Value} {d:DataW H} {ps:List MemPlace} (hval:Value.okWide P w .any b0 t v) (h:DataW.Trod enc P w base spare held t v d ps) (hw:t∈G) (hwt:∀ m∈d.weights P t,m≤R) :
    ∃ s n,SR ⟨Kw w,fun _=>undef⟩ w (fun _=>none) s v∧FitsS P R n t s:=by
  obtain ⟨n,hf⟩:=h
  obtain ⟨xs,h1,h2⟩:=trod_okR hG n t _ _ hw hf hwt
  suffices hh:∃ s,SR ⟨Kw w,fun _=>undef⟩ w (fun _=>none) s v∧FitsS P R n t s from hh.elim fun s e=>⟨s,n,e⟩
  have hw:=List.all_eq_true.1 hG t hw
  have one:(∀ u,v.cells = #[u]→v=u)→(∃ u,v.cells = #[u])→(∀ fs,P.underlying t≠some (.struct fs))→(∀ l' e',P.underlying t≠some (.array l' e'))→∃ s,SR ⟨Kw w,fun _=>undef⟩ w (fun _=>none) s v∧FitsS P R n t s:=by
    intro e1 ⟨u,e2⟩ hns hna
    obtain rfl:=e1 u e2
    rw [e2] at h1
    obtain ⟨x,rfl,h3⟩:=VR_cells h1
    refine ⟨.c x,by rw [SR];exact h3,?_⟩
    unfold FitsS
    split
    · rename_i fs hu;exact absurd hu (hns fs)
    · rename_i len e hu;exact absurd hu (hna len e)
    · exact ⟨x,rfl,h2⟩
  cases n with
  | zero=>simp [DataW.trod] at hf
  | succ n =>
    unfold okT at hw
    split at hw
    · rename_i hu
      obtain ⟨b,rfl⟩:=okWide_bool hu hval
      exact one (fun u e=>by simpa [Value.cells] using e) ⟨_,rfl⟩ (fun fs e=>by rw [hu] at e;cases e) (fun l' e' e=>by rw [hu] at e;cases e)
    · rename_i k hu
      obtain ⟨b,rfl⟩:=okWide_int hu hval
      exact one (fun u e=>by simpa [Value.cells] using e) ⟨_,rfl⟩ (fun fs e=>by rw [hu] at e;cases e) (fun l' e' e=>by rw [hu] at e;cases e)
    · rename_i hu
      obtain ⟨b,rfl⟩:=okWide_string hu hval
      exact one (fun u e=>by simpa [Value.cells] using e) ⟨_,rfl⟩ (fun fs e=>by rw [hu] at e;cases e) (fun l' e' e=>by rw [hu] at e;cases e)
    · rename_i e hu
      have:∃ a l c,v = .slice a l c:=by
        simp only [Value.okWide,hu,Cell.okWide] at hval
        cases v <;> simp_all [Cell.ok]
      obtain ⟨a,l,c,rfl⟩:=this
      exact one (fun u e=>by simpa [Value.cells] using e) ⟨_,rfl⟩ (fun fs e=>by rw [hu] at e;cases e) (fun l' e' e=>by rw [hu] at e;cases e)
    · rename_i e hu
      have:∃ a,v = .pointer a:=by
        simp only [Value.okWide,hu,Cell.okWide] at hval
        cases v <;> simp_all [Cell.ok]
      obtain ⟨a,rfl⟩:=this
      exact one (fun u e=>by simpa [Value.cells] using e) ⟨_,rfl⟩ (fun fs e=>by rw [hu] at e;cases e) (fun l' e' e=>by rw [hu] at e;cases e)
    · rename_i fs hu
      obtain ⟨cs,rfl,_⟩:=okWide_struct hu hval
      refine ⟨.agg xs,by rw [SR];exact ⟨cs.toList,by simp,h1⟩,?_⟩
      unfold FitsS
      rw [hu]
      exact ⟨xs,rfl,h2⟩
    · rename_i len e hu
      simp only [Value.okWide,hu] at hval
      obtain ⟨cs,rfl,_⟩:=hval
      refine ⟨.agg xs,by rw [SR];exact ⟨cs.toList,by simp,h1⟩,?_⟩
      unfold FitsS
      rw [hu]
      exact ⟨xs,rfl,h2⟩
    · cases hw
theorem args_okR {R b0:Nat} {G:List TypeId} (hG:closedT P G=true):∀ (ts:List TypeId) (vs:List Value) (ds:List (DataW H)) (ps:List MemPlace),(∀ (j:Nat) t v,ts[j]? = some t→vs[j]? = some v→Value.okWide P w .any b0 t v) →
    DataW.TrodAll enc P w base spare held ts vs ds ps→(∀ t∈ts,t∈G)→(∀ m∈DataW.weightsEach P ts ds,m≤R)→∃ ss,DRs (Kw w) w ss vs∧FitsAllR P R ts ss
  | [],vs,ds,ps,_,h,_,_=>by
    obtain ⟨rfl,_,_⟩:=trodAll_nil h
    exact ⟨[],by unfold DRs;rw [SRs],rfl⟩
  | t::ts,vs,ds,ps,hv,h,hw,hwt=>by
    obtain ⟨v,vs',d,ds',p,q,rfl,rfl,rfl,h1,h2⟩:=trodAll_cons h
    obtain ⟨s,n,e1,e2⟩:=arg_okR hG (hv 0 t v rfl rfl) h1 (hw t (by simp)) (fun m hm=>hwt m (by simp only [DataW.weightsEach,List.mem_append];exact .inl hm))
    obtain ⟨ss,e3,e4⟩:=args_okR hG ts vs' ds' q (fun j t v h1 h2=>hv (j+1) t v (by simpa using h1) (by simpa using h2)) h2 (fun t ht=>hw t (by simp [ht])) (fun m hm=>hwt m (by simp only [DataW.weightsEach,List.mem_append];exact .inr hm))
    refine ⟨s::ss,?_,s,ss,n,rfl,e2,e4⟩
    unfold DRs at e3 ⊢
    rw [SRs]
    exact ⟨v,vs',rfl,e1,e3⟩
theorem law_callsR {f:FuncId} {fn:Func} {s:ChangeSpec} {tb:TypeId} {R:Nat} (G:List TypeId) (hG:closedT P G=true) (hl:laidOutB P=true) (ht:fn.params.toList.all (fun t=>P.readableRec t && decide (t<P.types.size) && G.contains t)=true) (hvars:s.vars=[])
    (hfn:∀ ds:List (DataW H),ds.length=fn.params.toList.length→s.fn H ds = { results:=[.lit (.bool true)],args:=ds }) (hres:fn.resultTypes = #[tb]) (htb:P.underlying tb=some .bool)
    {W:World} {args:Array Value} {ds gs:List (DataW H)} {before:List MemPlace} {b0:Nat} {apart fresh handsOn again:Bool}
    (con:∀ ss,FitsAllR P R fn.params.toList ss→DRs (Kw W) W ss args.toList→Con P f ss [.c (.v (.bool true))])
    (hval:∀ (j:Nat) t v,fn.params[j]? = some t→args[j]? = some v→Value.okWide P W .any b0 t v)
    (hW:DataW.Whole enc P fn.params.toList s.vars apart W args.toList ds gs before) (hwt0:(DataW.weightsEach P (fn.params.toList++s.plain.varTypes P) (ds++gs)).all (· ≤ R)=true) (hcb:callable P f=true:=by kernel_rfl) :
    Calls P f args W fun e W'=>∃ v,e = .returned v∧s.post enc P fn apart fresh handsOn again W args v W':=by
  simp only [List.all_eq_true,Bool.and_eq_true,decide_eq_true_eq,List.contains_iff_mem] at ht
  have hW':=hW
  obtain ⟨p,q,hA,hV,rfl,hfz,hnd⟩:=hW
  rw [hvars] at hV
  have hgs:gs=[]∧q=[]:=by
    cases gs with
    | nil=>exact ⟨rfl,hV⟩
    | cons g gs=>exact hV.elim
  obtain ⟨rfl,rfl⟩:=hgs
  have hwt:∀ m∈DataW.weightsEach P fn.params.toList ds,m≤R:=by
    have e:s.plain.varTypes P=[]:=by simp [DataSpec.varTypes,ChangeSpec.plain,hvars]
    rw [e,List.append_nil,List.append_nil] at hwt0
    simpa using hwt0
  obtain ⟨ss,e1,e2⟩:=args_okR hG fn.params.toList args.toList ds p (fun j t v h1 h2=>hval j t v (by simpa using h1) (by simpa using h2)) hA (fun t h=>(ht t h).2) hwt
  have hc:=(con ss e2 e1 W (Kw W) args.toList (fun b o h=>h) e1).calls hcb
  rw [Array.toArray_toList] at hc
  have hlen:ds.length=fn.params.toList.length:=by
    clear hW' hV hfz hnd e1 e2 hc con hval hfn hwt hwt0
    generalize fn.params.toList=ts at hA ht
    generalize args.toList=vs at hA
    induction ts generalizing vs ds p with
    | nil=>obtain ⟨_,rfl,_⟩:=trodAll_nil hA;rfl
    | cons t ts ih =>
      obtain ⟨v,vs',d,ds',p',q',rfl,rfl,rfl,h1,h2⟩:=trodAll_cons hA
      simp only [List.length_cons]
      rw [ih q' (fun t h=>ht t (by simp [h])) _ h2]
  have hf:=hfn ds hlen
  refine hc.mono fun e W' ⟨vs,he,hbl,K',_,_,_,hr⟩=>?_
  obtain ⟨hv1,hv2,_⟩:=hr
  obtain ⟨v,rfl⟩:∃ v,vs=[v]:=by
    cases vs with
    | nil=>simp at hv1
    | cons v r=>cases r with
      | nil=>exact ⟨v,rfl⟩
      | cons _ _=>simp at hv1
  have hvv:=hv2 0 _ v rfl rfl
  rw [RtR,CR] at hvv
  obtain ⟨rfl,_⟩:=hvv
  have hlt:∀ x∈p,x.block<W.heap.size:=fun x hx=>by simpa using hW'.lt x (by simpa using hx)
  have hb:Below W.heap.size W W':=hbl.toBelow
  have hr1:∀ (b:Nat) (sp:Nat→Bool) (hd:Bool),DataW.TrodAll enc P W' b sp hd fn.resultTypes.toList ((retV [Value.bool true]).resultList fn.resultTypes.size) (s.fn H (ds++[])).results []:=by
    intro b sp hd
    rw [List.append_nil,hf,hres]
    exact trodAll_cons_mk (shut_bool htb _) trodAll_mk0
  have ha1:∀ sp:Nat→Bool,(∀ x∈p,sp x.block=true)→DataW.TrodAll enc P W' 0 sp true fn.params.toList args.toList (s.fn H (ds++[])).args p:=by
    intro sp hs
    rw [List.append_nil,hf]
    exact args_back hl hb _ _ _ _ (fun t h=>(ht t h).1) hA hlt hs
  have hv1:∀ sp:Nat→Bool,DataW.TrodVars enc P W' sp s.vars (s.fn H (ds++[])).vars []:=by
    intro sp
    rw [List.append_nil,hf,hvars]
    rfl
  refine ⟨_,he,ds,[],p++[],[],p,[],hW',hr1 _ _ _,ha1 _ (fun x hx=>by simpa using hlt x hx),hv1 _,World.keptBut_mono (fun x hx=>⟨hx,?_⟩) (hb.frame (· ∈ p++[])),fun _=>?_⟩
  · simpa using hx
  · refine ⟨ok_one hres (by rfl) (okWide_bool_mk htb _),_,_,([]++p)++[],⟨[]++p,[],trodAll_append (ha1 _ (fun _ _=>rfl)) (hr1 _ _ _),hv1 _,rfl,?_,?_⟩,?_⟩
    · intro b off hp
      have hp':MemPlace.cell b off∈p:=by simpa using hp
      rw [hb.frozen (p:=⟨b,off,none⟩) (hlt _ hp')]
      exact hfz b off (by simpa using hp')
    · intro ha
      have:=hnd ha
      simpa using this
    · intro x hx _
      simpa using hx
end
end Go.VL
