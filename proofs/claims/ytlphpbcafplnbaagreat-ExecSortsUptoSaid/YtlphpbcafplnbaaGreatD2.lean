/- Contracts of functions of the seat, proved in a logic on data over the model (part D2). -/
import Derived.Test.YtlphpbcafplnbaaGreatQ7
import Derived.Test.YtlphpbcafplnbaaGreatVN17
set_option linter.unusedSimpArgs false
set_option linter.unusedVariables false
namespace Go.Proofs.YtlphpbcafplnbaaGreat
open Go.VL Go.RowKit
structure Canon (l:List Per):Prop where
  ok:∀ p∈l,right p=true
  apart:l.Pairwise fun p q=>p.t<q.f
def inL (l:List Per) (t:Int):Bool:=l.any fun p=>has p t
theorem inL_iff (l:List Per) (t:Int):inL l t=true↔∃ p∈l,p.f≤t∧t<p.t:=by
  unfold inL;rw [List.any_eq_true]
  constructor
  · rintro ⟨p,h1,h2⟩;exact ⟨p,h1,(has_iff p t).1 h2⟩
  · rintro ⟨p,h1,h2⟩;exact ⟨p,h1,(has_iff p t).2 h2⟩
theorem inL_nil (t:Int):inL [] t=false:=rfl
theorem inL_cons (p:Per) (l:List Per) (t:Int):inL (p::l) t=(has p t || inL l t):=rfl
theorem inL_append (l m:List Per) (t:Int):inL (l++m) t=(inL l t || inL m t):=by unfold inL;rw [List.any_append]
theorem Canon.nil:Canon []:=⟨by simp,by simp⟩
theorem Canon.tail {p:Per} {l:List Per} (h:Canon (p::l)):Canon l:=⟨fun q hq=>h.ok q (by simp [hq]),(List.pairwise_cons.1 h.apart).2⟩
theorem Canon.head {p:Per} {l:List Per} (h:Canon (p::l)) {t:Int} (ht:inL l t=true):p.t<t:=by
  obtain ⟨q,hq,h1,_⟩:=(inL_iff l t).1 ht
  have:=(List.pairwise_cons.1 h.apart).1 q hq
  omega
theorem Canon.ext:∀ {l m:List Per},Canon l→Canon m→(∀ t,inL l t=inL m t)→l=m
  | [],[],_,_,_=>rfl
  | [],q::m,_,hm,h=>by
    have h1:=h q.f
    have hq:=(right_iff q).1 (hm.ok q (by simp))
    rw [inL_cons,(has_iff q q.f).2 ⟨by omega,by omega⟩,inL_nil] at h1
    simp at h1
  | p::l,[],hl,_,h=>by
    have h1:=h p.f
    have hp:=(right_iff p).1 (hl.ok p (by simp))
    rw [inL_cons,(has_iff p p.f).2 ⟨by omega,by omega⟩,inL_nil] at h1
    simp at h1
  | p::l,q::m,hl,hm,h=>by
    have hp:=(right_iff p).1 (hl.ok p (by simp))
    have hq:=(right_iff q).1 (hm.ok q (by simp))
    have low:∀ {p:Per} {l:List Per} {t:Int},Canon (p::l)→inL (p::l) t=true→p.f≤t:=by
      intro p l t hc ht
      have hp:=(right_iff p).1 (hc.ok p (by simp))
      rw [inL_cons,Bool.or_eq_true,has_iff] at ht
      rcases ht with ht | ht
      · exact ht.1
      · have:=hc.head ht;omega
    have first:∀ {p:Per} {l:List Per},Canon (p::l)→inL (p::l) p.f=true:=by
      intro p l hc
      have hp:=(right_iff p).1 (hc.ok p (by simp))
      rw [inL_cons,(has_iff p p.f).2 ⟨by omega,by omega⟩];rfl
    have e1:p.f=q.f:=by
      have a:=low hm (by rw [← h];exact first hl)
      have b:=low hl (by rw [h];exact first hm)
      omega
    have stop:∀ {p:Per} {l:List Per},Canon (p::l)→inL (p::l) p.t=false:=by
      intro p l hc
      rw [Bool.eq_false_iff]
      intro ht
      rw [inL_cons,Bool.or_eq_true,has_iff] at ht
      rcases ht with ht | ht
      · omega
      · have:=hc.head ht;omega
    have e2:p.t=q.t:=by
      rcases Int.lt_trichotomy p.t q.t with hlt | heq | hgt
      · have a:=stop hl
        rw [h,inL_cons,(has_iff q p.t).2 ⟨by omega,hlt⟩] at a
        simp at a
      · exact heq
      · have a:=stop hm
        rw [← h,inL_cons,(has_iff p q.t).2 ⟨by omega,hgt⟩] at a
        simp at a
    have e:p=q:=by cases p;cases q;simp at e1 e2;simp [e1,e2]
    subst e
    refine congrArg (p :: ·) (Canon.ext hl.tail hm.tail fun t=>?_)
    have ht:=h t
    rw [inL_cons,inL_cons] at ht
    cases hh:has p t with
    | false=>simpa [hh] using ht
    | true =>
      have hht:=(has_iff p t).1 hh
      have a:inL l t=false:=by
        rw [Bool.eq_false_iff];intro hx;have:=hl.head hx;omega
      have b:inL m t=false:=by
        rw [Bool.eq_false_iff];intro hx;have:=hm.head hx;omega
      rw [a,b]
theorem Canon.snoc {l:List Per} {p:Per} (h:Canon l) (hp:right p=true) (hb:∀ q∈l,q.t<p.f):Canon (l++[p]):=by
  refine ⟨fun q hq=>?_,?_⟩
  · rcases List.mem_append.1 hq with h1 | h1
    · exact h.ok q h1
    · simp at h1;subst h1;exact hp
  · rw [List.pairwise_append]
    exact ⟨h.apart,by simp,fun q hq r hr=>by simp at hr;subst hr;exact hb q hq⟩
theorem Canon.init {l:List Per} {p:Per} (h:Canon (l++[p])):Canon l∧right p=true∧∀ q∈l,q.t<p.f:=by
  refine ⟨⟨fun q hq=>h.ok q (by simp [hq]),(List.pairwise_append.1 h.apart).1⟩,h.ok p (by simp),fun q hq=>(List.pairwise_append.1 h.apart).2.2 q hq p (by simp)⟩
theorem addP_nil (p:Per):addP [] p=[p]:=by simp [addP]
theorem addP_snoc (l:List Per) (q p:Per):addP (l++[q]) p=if p.f≤q.t then l++[⟨q.f,max q.t p.t⟩] else l++[q]++[p]:=by
  have e:(l++[q])[(l++[q]).length-1]! = q:=by simp
  unfold addP
  rw [e]
  by_cases h:p.f≤q.t
  · rw [if_pos ⟨by simp,h⟩,if_pos h]
    simp [List.set_append]
  · rw [if_neg (fun x=>h x.2),if_neg h]
theorem addP_ok {out:List Per} {p:Per} (h:Canon out) (hp:right p=true) (hf:∀ q∈out,q.f≤p.f) :
    Canon (addP out p)∧(∀ t,inL (addP out p) t=(inL out t || has p t))∧∀ q∈addP out p,q.f≤p.f:=by
  rcases List.eq_nil_or_concat out with rfl | ⟨l,q,rfl⟩
  · rw [addP_nil]
    refine ⟨⟨by simpa using hp,by simp⟩,fun t=>by simp [inL],by simp⟩
  · rw [List.concat_eq_append] at *
    obtain ⟨h1,h2,h3⟩:=h.init
    have hqf:=hf q (by simp)
    have hq:=(right_iff q).1 h2
    have hpp:=(right_iff p).1 hp
    rw [addP_snoc]
    by_cases hle:p.f≤q.t
    · rw [if_pos hle]
      refine ⟨h1.snoc ?_ h3,fun t=>?_,fun r hr=>?_⟩
      · rw [right_iff];simp only;omega
      · rw [inL_append,inL_append,Bool.or_assoc]
        congr 1
        rw [Bool.eq_iff_iff]
        simp only [inL_cons,inL_nil,Bool.or_false,Bool.or_eq_true,has_iff]
        omega
      · rcases List.mem_append.1 hr with h4 | h4
        · exact hf r (by simp [h4])
        · simp at h4;subst h4;exact hqf
    · rw [if_neg hle]
      refine ⟨h.snoc hp fun r hr=>?_,fun t=>?_,fun r hr=>?_⟩
      · rcases List.mem_append.1 hr with h4 | h4
        · have:=h3 r h4;omega
        · simp at h4;subst h4;omega
      · rw [inL_append];simp [inL]
      · rcases List.mem_append.1 hr with h4 | h4
        · exact hf r h4
        · simp at h4;subst h4;omega
theorem sumP_ok (s:List Per) (hs:s.Pairwise fun x y=>x.f≤y.f) (hr:∀ p∈s,right p=true):∀ k,k≤s.length →
    Canon (sumP (s.take k))∧(∀ t,inL (sumP (s.take k)) t=inL (s.take k) t)∧∀ q∈sumP (s.take k),∀ p∈s.drop k,q.f≤p.f
  | 0,_=>⟨by simp [sumP,Canon.nil],fun t=>by simp [sumP],by simp [sumP]⟩
  | k+1,h=>by
    obtain ⟨h1,h2,h3⟩:=sumP_ok s hs hr k (by omega)
    have hk:k<s.length:=by omega
    rw [sumP_snoc s hk]
    have hd:s.drop k=s[k]::s.drop (k+1):=List.drop_eq_getElem_cons hk
    obtain ⟨a1,a2,a3⟩:=addP_ok h1 (hr _ (List.getElem_mem hk)) (fun q hq=>h3 q hq s[k] (hd ▸ List.mem_cons_self))
    refine ⟨a1,fun t=>?_,fun q hq p hp=>?_⟩
    · rw [a2,h2,take_snoc hk,inL_append];simp [inL]
    · have b1:=a3 q hq
      have b2:(s.drop k).Pairwise fun x y=>x.f≤y.f:=hs.sublist (List.drop_sublist _ _)
      rw [hd] at b2
      have:=(List.pairwise_cons.1 b2).1 p hp
      omega
theorem unionL_ok {sortP:List Per→List Per} (hs:Sorts sortP) (l:List Per):Canon (unionL sortP l)∧∀ t,inL (unionL sortP l) t=someP l t:=by
  have hp:=hs.perm (l.filter right)
  have h:=sumP_ok (sortP (l.filter right)) (hs.sorted _) (fun p hx=>by have:=hp.mem_iff.1 hx;simp at this;exact this.2) (sortP (l.filter right)).length (Nat.le_refl _)
  rw [List.take_length] at h
  refine ⟨h.1,fun t=>?_⟩
  unfold unionL
  rw [h.2.1 t]
  unfold inL someP
  rw [Bool.eq_iff_iff,List.any_eq_true,List.any_eq_true]
  constructor
  · rintro ⟨p,h1,h2⟩
    have:=hp.mem_iff.1 h1
    simp at this
    exact ⟨p,this.1,by simp [this.2,h2]⟩
  · rintro ⟨p,h1,h2⟩
    simp at h2
    exact ⟨p,hp.mem_iff.2 (by simp [h1,h2.1]),h2.2⟩
structure Cmp {α:Type} (c:α→α→Int):Prop where
  anti:∀ a b,c b a = - c a b
  trans:∀ a b d,c a b≤0→c b d≤0→c a d≤0
theorem Cmp.self {α:Type} {c:α→α→Int} (h:Cmp c) (a:α):c a a=0:=by have:=h.anti a a;omega
theorem Cmp.lt {α:Type} {c:α→α→Int} (h:Cmp c) {a b d:α} (h1:c a b<0) (h2:c b d≤0):c a d<0:=by
  have h3:=h.trans a b d (by omega) h2
  rcases Int.lt_or_eq_of_le h3 with h4 | h4
  · exact h4
  · have e:=h.anti a d
    have:=h.trans b d a h2 (by omega)
    have:=h.anti a b
    omega
theorem Cmp.lt' {α:Type} {c:α→α→Int} (h:Cmp c) {a b d:α} (h1:c a b≤0) (h2:c b d<0):c a d<0:=by
  have h3:=h.trans a b d h1 (by omega)
  rcases Int.lt_or_eq_of_le h3 with h4 | h4
  · exact h4
  · have e:=h.anti a d
    have:=h.trans d a b (by omega) h1
    have:=h.anti b d
    omega
theorem Cmp.eq {α:Type} {c:α→α→Int} (h:Cmp c) {a b d:α} (h1:c a b=0) (h2:c b d=0):c a d=0:=by
  have h3:=h.trans a b d (by omega) (by omega)
  have e1:=h.anti a b
  have e2:=h.anti b d
  have e3:=h.anti a d
  have:=h.trans d b a (by omega) (by omega)
  omega
theorem Cmp.on {α β:Type} {c:α→α→Int} (h:Cmp c) (f:β→α):Cmp fun x y=>c (f x) (f y):=⟨fun a b=>h.anti _ _,fun a b d=>h.trans _ _ _⟩
def lexC {α:Type} (c d:α→α→Int) (a b:α):Int:=if c a b=0 then d a b else c a b
theorem Cmp.lex {α:Type} {c d:α→α→Int} (h:Cmp c) (k:Cmp d):Cmp (lexC c d):=by
  constructor
  · intro a b
    have:=h.anti a b
    unfold lexC
    by_cases e:c a b=0
    · rw [if_pos e,if_pos (by omega)];exact k.anti a b
    · rw [if_neg e,if_neg (by omega)];exact this
  · intro x y z h1 h2
    unfold lexC at *
    by_cases e1:c x y=0
    · rw [if_pos e1] at h1
      by_cases e2:c y z=0
      · rw [if_pos e2] at h2
        rw [if_pos (h.eq e1 e2)]
        exact k.trans x y z h1 h2
      · rw [if_neg e2] at h2
        have:=h.lt' (a:=x) (b:=y) (d:=z) (by omega) (by omega)
        rw [if_neg (by omega)];omega
    · rw [if_neg e1] at h1
      by_cases e2:c y z=0
      · have:=h.lt (a:=x) (b:=y) (d:=z) (by omega) (by omega)
        rw [if_neg (by omega)];omega
      · rw [if_neg e2] at h2
        have:=h.lt (a:=x) (b:=y) (d:=z) (by omega) (by omega)
        rw [if_neg (by omega)];omega
theorem Cmp.int:Cmp cmpI:=by
  constructor
  · intro a b;unfold cmpI
    by_cases h1:a<b <;> by_cases h2:b<a <;> simp [h1,h2] <;> omega
  · intro a b d h1 h2
    have e1:a≤b:=by unfold cmpI at h1;split at h1 <;> first | omega | (split at h1 <;> omega)
    have e2:b≤d:=by unfold cmpI at h2;split at h2 <;> first | omega | (split at h2 <;> omega)
    unfold cmpI
    split
    · omega
    · rw [if_neg (by omega)];omega
def listC {α:Type} (c:α→α→Int):List α→List α→Int
  | [],[]=>0
  | [],_::_=>-1
  | _::_,[]=>1
  | a::l,b::m=>if c a b=0 then listC c l m else c a b
theorem listC_anti {α:Type} {c:α→α→Int} (h:Cmp c):∀ a b:List α,listC c b a = - listC c a b
  | [],[]=>rfl
  | [],_::_=>rfl
  | _::_,[]=>rfl
  | a::l,b::m=>by
    have:=h.anti a b
    rw [listC,listC]
    by_cases e:c a b=0
    · rw [if_pos e,if_pos (by omega)];exact listC_anti h l m
    · rw [if_neg e,if_neg (by omega)];exact this
theorem listC_trans {α:Type} {c:α→α→Int} (h:Cmp c):∀ a b d:List α,listC c a b≤0→listC c b d≤0→listC c a d≤0
  | [],_,[],_,_=>by simp [listC]
  | [],_,_::_,_,_=>by simp [listC]
  | _::_,[],_,h1,_=>by simp [listC] at h1
  | _::_,_::_,[],_,h2=>by simp [listC] at h2
  | a::l,b::m,d::n,h1,h2=>by
    rw [listC] at h1 h2 ⊢
    by_cases e1:c a b=0
    · rw [if_pos e1] at h1
      by_cases e2:c b d=0
      · rw [if_pos e2] at h2
        rw [if_pos (h.eq e1 e2)]
        exact listC_trans h l m n h1 h2
      · rw [if_neg e2] at h2
        have:=h.lt' (a:=a) (b:=b) (d:=d) (by omega) (by omega)
        rw [if_neg (by omega)];omega
    · rw [if_neg e1] at h1
      by_cases e2:c b d=0
      · have:=h.lt (a:=a) (b:=b) (d:=d) (by omega) (by omega)
        rw [if_neg (by omega)];omega
      · rw [if_neg e2] at h2
        have:=h.lt (a:=a) (b:=b) (d:=d) (by omega) (by omega)
        rw [if_neg (by omega)];omega
theorem Cmp.list {α:Type} {c:α→α→Int} (h:Cmp c):Cmp (listC c):=⟨listC_anti h,listC_trans h⟩
def cmp8 (a b:UInt8):Int:=cmpI a.toNat b.toNat
theorem Cmp.u8:Cmp cmp8:=Cmp.int.on fun a:UInt8=>(a.toNat:Int)
theorem cmpI_or (x y:Int):cmpI x y = -1∨cmpI x y=0∨cmpI x y=1:=by unfold cmpI;split <;> first | omega | (split <;> omega)
theorem cmpI_0 (x y:Int):cmpI x y=0↔x=y:=by unfold cmpI;split <;> first | omega | (split <;> omega)
theorem cmpI_neg (x y:Int):cmpI x y = -1↔x<y:=by unfold cmpI;split <;> first | omega | (split <;> omega)
theorem cmpB_list:∀ a b:List UInt8,cmpB a b=listC cmp8 a b
  | [],[]=>by simp [cmpB,listC,Op.bytesLess]
  | [],b::m=>by simp [cmpB,listC,Op.bytesLess]
  | a::l,[]=>by simp [cmpB,listC,Op.bytesLess]
  | a::l,b::m=>by
    have ih:=cmpB_list l m
    rw [listC]
    unfold cmpB at ih ⊢
    rw [Op.bytesLess]
    by_cases e:a=b
    · subst e
      have e0:cmp8 a a=0:=Cmp.u8.self a
      rw [if_pos e0,← ih]
      have:¬ a<a:=UInt8.lt_irrefl a
      simp [this]
    · have e1:cmp8 a b≠0:=by
        unfold cmp8;rw [Ne,cmpI_0]
        intro h;exact e (UInt8.toNat.inj (by omega))
      rw [if_neg e1]
      have hne:(a == b)=false:=by simpa using e
      by_cases hl:a<b
      · have:cmp8 a b = -1:=by unfold cmp8;rw [cmpI_neg];have:=UInt8.lt_iff_toNat_lt.1 hl;omega
        simp [hl,this]
      · have h1:cmp8 a b=1:=by
          unfold cmp8 at e1 ⊢
          rcases cmpI_or (a.toNat:Int) b.toNat with h | h | h
          · rw [cmpI_neg] at h;exact absurd (UInt8.lt_iff_toNat_lt.2 (by omega)) hl
          · exact absurd h e1
          · exact h
        simp [hl,hne,e,h1]
theorem Cmp.bytes:Cmp cmpB:=by rw [show cmpB=listC cmp8 from funext fun a=>funext (cmpB_list a)];exact Cmp.u8.list
theorem cmpV_eq (a b:Val):cmpV a b=lexC (fun x y:Val=>cmpI x.kind y.kind) (lexC (fun x y:Val=>cmpI x.int y.int) fun x y=>cmpB x.text y.text) a b:=by
  unfold lexC cmpV ltV
  by_cases h1:a.kind=b.kind
  · rw [if_pos ((cmpI_0 _ _).2 h1)]
    by_cases h2:a.int=b.int
    · rw [if_pos ((cmpI_0 _ _).2 h2)]
      have e:(a=b)↔(a.text=b.text):=by cases a;cases b;simp at h1 h2;simp [h1,h2]
      simp [h1,h2,cmpB,e]
    · have hne:¬ cmpI a.int b.int=0:=fun h=>h2 ((cmpI_0 _ _).1 h)
      rw [if_neg hne]
      have e:¬ a=b:=by rintro rfl;exact h2 rfl
      by_cases h3:a.int<b.int
      · simp [h1,h3,(cmpI_neg _ _).2 h3]
      · have:cmpI a.int b.int=1:=by
          rcases cmpI_or a.int b.int with h | h | h
          · rw [cmpI_neg] at h;omega
          · exact absurd h hne
          · exact h
        simp [h1,h2,h3,e,this]
  · have hne:¬ cmpI a.kind b.kind=0:=fun h=>h1 ((cmpI_0 _ _).1 h)
    rw [if_neg hne]
    have e:¬ a=b:=by rintro rfl;exact h1 rfl
    by_cases h3:a.kind<b.kind
    · simp [h3,(cmpI_neg _ _).2 h3]
    · have:cmpI a.kind b.kind=1:=by
        rcases cmpI_or a.kind b.kind with h | h | h
        · rw [cmpI_neg] at h;omega
        · exact absurd h hne
        · exact h
      simp [h1,h3,e,this]
theorem Cmp.val:Cmp cmpV:=by
  rw [show cmpV=_ from funext fun a=>funext (cmpV_eq a)]
  exact (Cmp.int.on fun x:Val=>x.kind).lex ((Cmp.int.on fun x:Val=>x.int).lex (Cmp.bytes.on fun x:Val=>x.text))
theorem cmpR_list:∀ a b:List Val,cmpR a b=listC cmpV a b
  | [],[]=>rfl
  | [],_::_=>rfl
  | _::_,[]=>rfl
  | a::l,b::m=>by rw [cmpR,listC,cmpR_list l m]
theorem Cmp.row:Cmp cmpR:=by rw [show cmpR=listC cmpV from funext fun a=>funext (cmpR_list a)];exact Cmp.val.list
def ordF:Fact→Fact→Int:=lexC (fun f g=>cmpR f.row g.row) (lexC (fun f g=>cmpI f.p.f g.p.f) fun f g=>cmpI f.p.t g.p.t)
theorem Cmp.fact:Cmp ordF:=(Cmp.row.on Fact.row).lex ((Cmp.int.on fun f:Fact=>f.p.f).lex (Cmp.int.on fun f:Fact=>f.p.t))
theorem ordF_0 {f g:Fact} : ordF f g=0↔f.row=g.row∧f.p=g.p:=by
  unfold ordF lexC
  constructor
  · intro h
    split at h
    · rename_i h1
      split at h
      · rename_i h2
        rw [cmpR_0] at h1;rw [cmpI_0] at h2 h
        exact ⟨h1,by cases hf:f.p;cases hg:g.p;rw [hf,hg] at h2 h;simp at h2 h;simp [h2,h]⟩
      · rename_i h2;exact absurd h h2
    · rename_i h1;exact absurd h h1
  · rintro ⟨h1,h2⟩
    rw [if_pos ((cmpR_0 _ _).2 h1),if_pos ((cmpI_0 _ _).2 (by rw [h2]))]
    exact (cmpI_0 _ _).2 (by rw [h2])
theorem uniq_sorted {α:Type} {le:α→α→Prop} : ∀ {l m:List α},l.Perm m→l.Pairwise le→m.Pairwise le→(∀ a,a∈l→∀ b,b∈l→le a b→le b a→a=b)→l=m
  | [],m,h,_,_,_=>(List.perm_nil.1 h.symm).symm
  | a::l,[],h,_,_,_=>absurd h.length_eq (by simp)
  | a::l,b::m,h,hl,hm,hanti=>by
    obtain ⟨l1,l2⟩:=List.pairwise_cons.1 hl
    obtain ⟨m1,m2⟩:=List.pairwise_cons.1 hm
    have hb:b∈a::l:=h.mem_iff.2 (by simp)
    have ha:a∈b::m:=h.mem_iff.1 (by simp)
    have e:a=b:=by
      rcases List.mem_cons.1 hb with e | hb'
      · exact e.symm
      · rcases List.mem_cons.1 ha with e | ha'
        · exact e
        · exact hanti a (by simp) b hb (l1 b hb') (m1 a ha')
    subst e
    congr 1
    exact uniq_sorted ((List.perm_cons a).1 h) l2 m2 fun x hx y hy=>hanti x (by simp [hx]) y (by simp [hy])
def norm (f:Fact):Fact:=⟨f.row.isEmpty,f.row,f.p⟩
def Normed (f:Fact):Prop:=f.nl=f.row.isEmpty
theorem normed_norm (f:Fact):Normed (norm f):=rfl
theorem Normed.ext {f g:Fact} (hf:Normed f) (hg:Normed g) (h:ordF f g=0):f=g:=by
  obtain ⟨h1,h2⟩:=ordF_0.1 h
  unfold Normed at hf hg
  cases f;cases g;simp at h1 h2 hf hg;subst h1 h2;simp [hf,hg]
def sortF (l:List Fact):List Fact:=l.mergeSort fun f g=>decide (ordF f g≤0)
theorem sortF_perm (l:List Fact):(sortF l).Perm l:=List.mergeSort_perm _ _
theorem sortF_len (l:List Fact):(sortF l).length=l.length:=(sortF_perm l).length_eq
theorem sortF_sorted (l:List Fact):(sortF l).Pairwise fun f g=>ordF f g≤0:=by
  have:=List.pairwise_mergeSort (le:=fun f g:Fact=>decide (ordF f g≤0)) (fun a b c h1 h2=>by
    simp only [decide_eq_true_eq] at *;exact Cmp.fact.trans a b c h1 h2) (fun a b=>by
    simp only [Bool.or_eq_true,decide_eq_true_eq]
    have:=Cmp.fact.anti a b
    omega) l
  exact this.imp (by simp)
theorem sortF_uniq {l m:List Fact} (hn:∀ f∈l,Normed f) (hp:m.Perm l) (hs:m.Pairwise fun f g=>ordF f g≤0):m=sortF l:=by
  refine uniq_sorted (hp.trans (sortF_perm l).symm) hs (sortF_sorted l) fun a ha b hb h1 h2=>?_
  have ha':=hn a (hp.mem_iff.1 ha)
  have hb':=hn b (hp.mem_iff.1 hb)
  exact ha'.ext hb' (by have:=Cmp.fact.anti a b;omega)
end Go.Proofs.YtlphpbcafplnbaaGreat
namespace Go.Proofs.YtlphpbcafplnbaaGreat
section
variable {α:Type} (cf:α→α→Int)
abbrev UpS (l:List α):Prop:=l.Pairwise fun x y=>cf x y≤0
def leC (x y:α):Bool:=decide (cf x y≤0)
def stIns (x:α):List α→List α
  | []=>[x]
  | y::r=>if cf x y<0 then y::stIns x r else x::y::r
def stSort (l:List α):List α:=(l.foldl (fun r x=>stIns cf x r) []).reverse
def stMerge (a b:List α):List α:=List.merge a b (leC cf)
def stBlocks (l:List α):List α:=if l.length<20 then stSort cf l else stSort cf (l.take 20)++stBlocks (l.drop 20)
termination_by l.length
decreasing_by simp;omega
def stPass (bs:Nat) (l:List α):List α:=if l.length≤bs∨bs=0 then l else stMerge cf (l.take bs) ((l.drop bs).take bs)++stPass bs (l.drop (2*bs))
termination_by l.length
decreasing_by simp;omega
def stPasses (n bs:Nat) (l:List α):List α:=if n≤bs∨bs=0 then l else stPasses n (2*bs) (stPass cf bs l)
termination_by n-bs
decreasing_by omega
def stab (l:List α):List α:=stPasses cf l.length 20 (stBlocks cf l)
end
theorem swap_split {α:Type} (P Q T:List α) (x y:α):(((P++x::(Q++y::T)).set P.length y).set (P.length+(Q.length+1)) x)=P++y::(Q++x::T):=by
  rw [List.set_append_right _ _ (Nat.le_refl _),Nat.sub_self,List.set_cons_zero,List.set_append_right _ _ (by omega)]
  congr 1
  rw [show P.length+(Q.length+1)-P.length=Q.length+1 by omega,List.set_cons_succ,List.set_append_right _ _ (Nat.le_refl _),Nat.sub_self,List.set_cons_zero]
section
variable {α:Type} {cf:α→α→Int}
theorem stIns_perm (x:α):∀ (r:List α),(stIns cf x r).Perm (x::r)
  | []=>.refl _
  | y::r=>by
    rw [stIns]
    split
    · exact ((stIns_perm x r).cons y).trans (.swap x y r)
    · exact .refl _
abbrev Dn (cf:α→α→Int) (l:List α):Prop:=l.Pairwise fun x y=>cf y x≤0
theorem stIns_dn (hc:Cmp cf) (x:α):∀ (r:List α),Dn cf r→Dn cf (stIns cf x r)
  | [],_=>by simp [stIns]
  | y::r,h=>by
    obtain ⟨h1,h2⟩:=List.pairwise_cons.1 h
    rw [stIns]
    split
    · rename_i hlt
      refine List.pairwise_cons.2 ⟨fun z hz=>?_,stIns_dn hc x r h2⟩
      rcases List.mem_cons.1 ((stIns_perm x r).mem_iff.1 hz) with rfl | hz
      · omega
      · exact h1 z hz
    · rename_i hge
      have:=hc.anti x y
      refine List.pairwise_cons.2 ⟨fun z hz=>?_,h⟩
      rcases List.mem_cons.1 hz with rfl | hz
      · omega
      · exact hc.trans z y x (h1 z hz) (by omega)
theorem stFold_perm:∀ (l r:List α),(l.foldl (fun r x=>stIns cf x r) r).Perm (l++r)
  | [],r=>.refl _
  | x::l,r=>by
    rw [List.foldl_cons]
    refine (stFold_perm l _).trans ?_
    refine ((stIns_perm x r).append_left l).trans ?_
    exact List.perm_middle
theorem stFold_dn (hc:Cmp cf):∀ (l r:List α),Dn cf r→Dn cf (l.foldl (fun r x=>stIns cf x r) r)
  | [],_,h=>h
  | x::l,r,h=>by rw [List.foldl_cons];exact stFold_dn hc l _ (stIns_dn hc x r h)
theorem stSort_perm (l:List α):(stSort cf l).Perm l:=by
  unfold stSort
  refine (List.reverse_perm _).trans ?_
  have:=stFold_perm (cf:=cf) l []
  rwa [List.append_nil] at this
theorem stSort_len (l:List α):(stSort cf l).length=l.length:=(stSort_perm l).length_eq
theorem stSort_up (hc:Cmp cf) (l:List α):UpS cf (stSort cf l):=by
  unfold stSort
  exact List.pairwise_reverse.2 (stFold_dn hc l [] List.Pairwise.nil)
theorem stMerge_perm (a b:List α):(stMerge cf a b).Perm (a++b):=List.merge_perm_append _
theorem stMerge_len (a b:List α):(stMerge cf a b).length=a.length+b.length:=by rw [(stMerge_perm a b).length_eq,List.length_append]
theorem stMerge_up (hc:Cmp cf) {a b:List α} (ha:UpS cf a) (hb:UpS cf b):UpS cf (stMerge cf a b):=by
  have:=List.pairwise_merge (le:=leC cf) (fun x y z h1 h2=>by
    unfold leC at *;simp only [decide_eq_true_eq] at *;exact hc.trans x y z h1 h2) (fun x y=>by
    unfold leC;simp only [Bool.or_eq_true,decide_eq_true_eq]
    have:=hc.anti x y;omega) a b (ha.imp fun {x y} h=>by unfold leC;simpa using h) (hb.imp fun {x y} h=>by unfold leC;simpa using h)
  exact this.imp fun {x y} h=>by unfold leC at h;simpa using h
theorem stMerge_nil (a:List α):stMerge cf a []=a:=by unfold stMerge;cases a <;> simp [List.merge]
theorem nil_stMerge (a:List α):stMerge cf [] a=a:=by unfold stMerge;simp [List.merge]
theorem stMerge_cc (x y:α) (a b:List α):stMerge cf (x::a) (y::b)=if cf x y≤0 then x::stMerge cf a (y::b) else y::stMerge cf (x::a) b:=by
  unfold stMerge
  rw [List.cons_merge_cons]
  unfold leC
  simp only [decide_eq_true_eq]
theorem stMerge_right (hc:Cmp cf):∀ (y1 x2 y2:List α),(∀ y∈y1,∀ x∈x2,cf y x<0)→stMerge cf x2 (y1++y2)=y1++stMerge cf x2 y2
  | [],_,_,_=>rfl
  | y::y1,x2,y2,h=>by
    have ih:=stMerge_right hc y1 x2 y2 fun z hz=>h z (List.mem_cons_of_mem _ hz)
    cases x2 with
    | nil=>simp [nil_stMerge]
    | cons x x2 =>
      have h1:=h y List.mem_cons_self x List.mem_cons_self
      have:=hc.anti x y
      rw [List.cons_append,stMerge_cc,if_neg (by omega),ih,List.cons_append]
theorem stMerge_left:∀ (x1 x2 y2:List α),(∀ x∈x1,∀ y∈y2,cf x y≤0)→stMerge cf (x1++x2) y2=x1++stMerge cf x2 y2
  | [],_,_,_=>rfl
  | x::x1,x2,y2,h=>by
    have ih:=stMerge_left x1 x2 y2 fun z hz=>h z (List.mem_cons_of_mem _ hz)
    cases y2 with
    | nil=>simp [stMerge_nil]
    | cons y y2=>rw [List.cons_append,stMerge_cc,if_pos (h x List.mem_cons_self y List.mem_cons_self),ih,List.cons_append]
theorem stMerge_split (hc:Cmp cf):∀ (n:Nat) (x1 x2 y1 y2:List α),x1.length+y1.length≤n→(∀ x∈x1,∀ y∈y2,cf x y≤0)→(∀ y∈y1,∀ x∈x2,cf y x<0) →
    stMerge cf (x1++x2) (y1++y2)=stMerge cf x1 y1++stMerge cf x2 y2
  | n,[],x2,y1,y2,_,_,h2=>by rw [List.nil_append,nil_stMerge];exact stMerge_right hc y1 x2 y2 h2
  | n,x::x1,x2,[],y2,_,h1,_=>by rw [List.nil_append,stMerge_nil];exact stMerge_left (x::x1) x2 y2 h1
  | 0,x::x1,x2,y::y1,y2,hn,_,_=>by simp at hn
  | n+1,x::x1,x2,y::y1,y2,hn,h1,h2=>by
    simp only [List.length_cons] at hn
    rw [List.cons_append,List.cons_append,stMerge_cc,stMerge_cc]
    by_cases h:cf x y≤0
    · rw [if_pos h,if_pos h]
      have:=stMerge_split hc n x1 x2 (y::y1) y2 (by simp;omega) (fun z hz=>h1 z (List.mem_cons_of_mem _ hz)) h2
      rw [List.cons_append] at this
      rw [this,List.cons_append]
    · rw [if_neg h,if_neg h]
      have:=stMerge_split hc n (x::x1) x2 y1 y2 (by simp;omega) h1 (fun z hz=>h2 z (List.mem_cons_of_mem _ hz))
      rw [List.cons_append] at this
      rw [this,List.cons_append]
theorem stBlocks_perm (l:List α):(stBlocks cf l).Perm l:=by
  rw [stBlocks]
  split
  · exact stSort_perm l
  · have h:=(stSort_perm (cf:=cf) (l.take 20)).append (stBlocks_perm (l.drop 20))
    rwa [List.take_append_drop] at h
termination_by l.length
decreasing_by simp;omega
theorem stBlocks_len (l:List α):(stBlocks cf l).length=l.length:=(stBlocks_perm l).length_eq
theorem stPass_perm (bs:Nat) (l:List α):(stPass cf bs l).Perm l:=by
  rw [stPass]
  split
  · exact .refl _
  · have h:=(stMerge_perm (cf:=cf) (l.take bs) ((l.drop bs).take bs)).append (stPass_perm bs (l.drop (2*bs)))
    have e:l.take bs++(l.drop bs).take bs++l.drop (2*bs)=l:=by
      rw [List.append_assoc,show 2*bs=bs+bs by omega,← List.drop_drop,List.take_append_drop,List.take_append_drop]
    rwa [e] at h
termination_by l.length
decreasing_by simp;omega
theorem stPass_len (bs:Nat) (l:List α):(stPass cf bs l).length=l.length:=(stPass_perm bs l).length_eq
theorem stPasses_perm (n bs:Nat) (l:List α):(stPasses cf n bs l).Perm l:=by
  rw [stPasses]
  split
  · exact .refl _
  · exact (stPasses_perm n (2*bs) _).trans (stPass_perm bs l)
termination_by n-bs
decreasing_by omega
theorem stab_perm (l:List α):(stab cf l).Perm l:=(stPasses_perm _ _ _).trans (stBlocks_perm l)
theorem stab_len (l:List α):(stab cf l).length=l.length:=(stab_perm l).length_eq
def Runs (cf:α→α→Int) (bs:Nat) (l:List α):Prop:=∀ k,UpS cf ((l.drop (k*bs)).take bs)
theorem runs_blocks (hc:Cmp cf) (l:List α):Runs cf 20 (stBlocks cf l):=by
  intro k
  rw [stBlocks]
  split
  · exact (stSort_up hc l).sublist ((List.take_sublist _ _).trans (List.drop_sublist _ _))
  · have hl:(stSort cf (l.take 20)).length=20:=by rw [stSort_len,List.length_take];omega
    cases k with
    | zero=>rw [Nat.zero_mul,List.drop_zero,List.take_append_of_le_length (by omega),List.take_of_length_le (by omega)];exact stSort_up hc _
    | succ k =>
      have hd:(stSort cf (l.take 20)).drop 20=[]:=List.drop_eq_nil_of_le (by omega)
      rw [show (k+1)*20=20+k*20 by omega,← List.drop_drop,List.drop_append_of_le_length (by omega),hd,List.nil_append]
      exact runs_blocks hc (l.drop 20) k
termination_by l.length
decreasing_by simp;omega
theorem Runs.drop {bs:Nat} {l:List α} (h:Runs cf bs l) (j:Nat):Runs cf bs (l.drop (j*bs)):=fun k=>by
  rw [List.drop_drop,← Nat.add_mul];exact h (j+k)
theorem runs_pass (hc:Cmp cf) {bs:Nat} (h0:0<bs) (l:List α) (h:Runs cf bs l):Runs cf (2*bs) (stPass cf bs l):=by
  intro k
  rw [stPass]
  split
  · rename_i hl
    have hl:l.length≤bs:=by omega
    have h1:=h 0
    rw [Nat.zero_mul,List.drop_zero,List.take_of_length_le hl] at h1
    exact h1.sublist ((List.take_sublist _ _).trans (List.drop_sublist _ _))
  · have h1:=h 0
    have h2:=h 1
    rw [Nat.zero_mul,List.drop_zero] at h1
    rw [Nat.one_mul] at h2
    have hm:=stMerge_up hc h1 h2
    have hml:(stMerge cf (l.take bs) ((l.drop bs).take bs)).length=min (2*bs) l.length:=by
      rw [stMerge_len,List.length_take,List.length_take,List.length_drop];omega
    have hr:=h.drop 2
    by_cases hf:2*bs≤l.length
    · cases k with
      | zero=>rw [Nat.zero_mul,List.drop_zero,List.take_append_of_le_length (by omega),List.take_of_length_le (by omega)];exact hm
      | succ k =>
        have hd:(stMerge cf (l.take bs) ((l.drop bs).take bs)).drop (2*bs)=[]:=List.drop_eq_nil_of_le (by omega)
        rw [show (k+1)*(2*bs)=2*bs+k*(2*bs) by rw [Nat.add_mul];omega,← List.drop_drop,List.drop_append_of_le_length (by omega),hd,List.nil_append]
        exact runs_pass hc h0 (l.drop (2*bs)) hr k
    · have e:l.drop (2*bs)=[]:=List.drop_eq_nil_of_le (by omega)
      have e2:stPass cf bs ([]:List α)=[]:=by rw [stPass];simp
      rw [e,e2,List.append_nil]
      exact hm.sublist ((List.take_sublist _ _).trans (List.drop_sublist _ _))
termination_by l.length
decreasing_by simp;omega
theorem runs_passes (hc:Cmp cf) (n:Nat) {bs:Nat} (h0:0<bs) (l:List α) (hl:l.length=n) (h:Runs cf bs l):UpS cf (stPasses cf n bs l):=by
  rw [stPasses]
  split
  · have h1:=h 0
    rwa [Nat.zero_mul,List.drop_zero,List.take_of_length_le (by omega)] at h1
  · exact runs_passes hc n (by omega) _ (by rw [stPass_len,hl]) (runs_pass hc h0 l h)
termination_by n-bs
decreasing_by omega
theorem stab_up (hc:Cmp cf) (l:List α):UpS cf (stab cf l):=runs_passes hc _ (by decide) _ (stBlocks_len l) (runs_blocks hc l)
end
end Go.Proofs.YtlphpbcafplnbaaGreat
namespace Go.Proofs.YtlphpbcafplnbaaGreat
open Go.VL Go.RowKit
set_option maxRecDepth 4000 in
set_option maxHeartbeats 8000000 in
theorem refOne_spec (a b:Val):Con Tryz.prog 107 [.agg a.cells,.agg b.cells] [.c (i64 (cmpV a b))]:=by
  refine spec_of Tryz.func107 rfl (by kernel_rfl) (by simp [Tryz.f107]) (fun w0 K0=>vc_ok _ _ _ (by kernel_rfl) ?_)
  simp only [Tryz.f107]
  simp -dsimp [Val.cells]
  refine ⟨by grind,by grind,by grind,VIf.mk (fun h=>?_) (fun h=>?_)⟩
  · simp -dsimp
    have:ltV a b=true:=by unfold ltV;simpa using h
    simp [cmpV,this]
  · have hl:ltV a b=false:=by
      rw [Bool.eq_false_iff];intro e;unfold ltV at e;rw [Bool.eq_false_iff] at h;exact h (by simpa using e)
    simp -dsimp
    refine VIf.mk (fun h2=>?_) (fun h2=>?_)
    · simp -dsimp
      have:a=b:=by cases a;cases b;simp at h2;simp [h2]
      subst this
      simp [cmpV,hl]
    · simp -dsimp
      have:¬ a=b:=by rintro rfl;simp at h2
      simp [cmpV,hl,this]
theorem refOne_at (cs ds:List C) (a b:Val) (h:cs=a.cells) (h':ds=b.cells):Con Tryz.prog 107 [.agg cs,.agg ds] [.c (i64 (cmpV a b))]:=by rw [h,h'];exact refOne_spec a b
set_option maxRecDepth 4000 in
set_option maxHeartbeats 8000000 in
theorem refCompare_spec (na nb:Bool) (l m:List Val) (hl:l.length≤140737488355328):Con Tryz.prog 83 [.c (.sl na (vals l)),.c (.sl nb (vals m))] [.c (i64 (cmpR l m))]:=by
  refine spec_of Tryz.func83 rfl (by kernel_rfl) (by simp [Tryz.f83]) (fun w0 K0=>vc_ok _ _ _ (by kernel_rfl) ?_)
  simp only [Tryz.f83]
  simp -dsimp
  refine VL.loop (fun k:Nat=>⟨[(5,.c (i64 k)),(0,.c (.sl na (vals l))),(1,.c (.sl nb (vals m)))],[]⟩) (fun k=>k≤l.length∧k≤m.length∧l.take k=m.take k) (fun k=>l.length-k) 0 (by kernel_rfl) (by simp) (by simp [St.le]) ?_
  intro k ⟨hk,hk',heq⟩
  have hw:IntKind.i64.wrap ((k:Int)+1)=(k:Int)+1:=IntWalk.i64_in _ (by omega)
  by_cases hlt:k<l.length∧k<m.length
  · obtain ⟨h1,h2⟩:=hlt
    simp -dsimp [h1,h2]
    refine VL.draw (by kernel_rfl) [(0,false),(0,false),(3,false),(7,false),(0,false),(0,false),(48,false),(112,false),(255,true),(511,true)] (by kernel_rfl) ?_
    simp -dsimp [h1,h2]
    refine VC.mk _ (refOne_at _ _ l[k] m[k] rfl rfl) ?_
    simp -dsimp
    refine VIf.mk (fun h=>?_) (fun h=>?_)
    · simp at h
      simp -dsimp
      exact (cmpR_at heq h1 h2 h).symm
    · simp at h
      simp -dsimp [hw]
      refine ⟨k+1,⟨by omega,by omega,take_step h1 h2 heq ((cmpV_0 _ _).1 h)⟩,?_,by omega⟩
      simp [St.le]
  · have hend:=cmpR_end heq hk hk' (by omega)
    by_cases h1:k<l.length
    · have h2:¬ k<m.length:=fun h=>hlt ⟨h1,h⟩
      simp -dsimp [h1,h2]
      refine VIf.mk (fun h3=>?_) (fun h3=>?_)
      · simp at h3;omega
      · simp -dsimp
        refine VIf.mk (fun h4=>?_) (fun h4=>?_)
        · simp -dsimp
          simp at h4
          rw [hend,if_neg (by omega),if_pos (by omega)]
        · simp at h4;omega
    · simp -dsimp [h1]
      refine VIf.mk (fun h3=>?_) (fun h3=>?_)
      · simp -dsimp
        simp at h3
        rw [hend,if_pos (by omega)]
      · simp -dsimp
        simp at h3
        refine VIf.mk (fun h4=>?_) (fun h4=>?_)
        · simp at h4;omega
        · simp -dsimp
          simp at h4
          rw [hend,if_neg (by omega),if_neg (by omega)]
set_option maxRecDepth 4000 in
set_option maxHeartbeats 8000000 in
theorem refSame_spec (na nb:Bool) (l m:List Val) (hl:l.length≤140737488355328):Con Tryz.prog 54 [.c (.sl na (vals l)),.c (.sl nb (vals m))] [.c (bln (decide (l=m)))]:=by
  refine spec_of Tryz.func54 rfl (by kernel_rfl) (by simp [Tryz.f54]) (fun w0 K0=>vc_ok _ _ _ (by kernel_rfl) ?_)
  simp only [Tryz.f54]
  simp -dsimp
  refine VG.mk [.c (i64 (cmpR l m))] _ (fun _=>refCompare_spec na nb l m hl) rfl ?_
  simp -dsimp
  have h0:=cmpR_0 l m
  rw [Bool.eq_iff_iff]
  by_cases h:l=m
  · subst h;simp [h0]
  · have:¬ cmpR l m=0:=fun e=>h (h0.1 e)
    simp [h,this]
def Rows1 (l:List Fact):Prop:=∀ f∈l,f.row.length≤4294967296
theorem strips_step {l m:List Fact} {k:Nat} (h:k<l.length) (h':k<m.length) (e:strips (l.take k)=strips (m.take k)) (e':l[k].strip=m[k].strip):strips (l.take (k+1))=strips (m.take (k+1)):=by
  unfold strips at *
  rw [take_snoc h,take_snoc h',List.map_append,List.map_append,e]
  simp [e']
set_option maxRecDepth 4000 in
set_option maxHeartbeats 8000000 in
theorem sameF_spec (na nb:Bool) (l m:List Fact) (hl:l.length≤140737488355328) (hr:Rows1 l):Con Tryz.prog 19 [.c (.sl na (facts l)),.c (.sl nb (facts m))] [.c (bln (decide (strips l=strips m)))]:=by
  refine spec_of Tryz.func19 rfl (by kernel_rfl) (by simp [Tryz.f19]) (fun w0 K0=>vc_ok _ _ _ (by kernel_rfl) ?_)
  simp only [Tryz.f19]
  simp -dsimp
  refine VIf.mk (fun h=>?_) (fun h=>?_)
  · simp -dsimp
    intro e
    have:=congrArg List.length e
    simp [strips] at this
    simp [this] at h
  have hlen:l.length=m.length:=by simp at h;omega
  simp -dsimp
  refine VL.loop (fun k:Nat=>⟨[(5,.c (i64 k)),(0,.c (.sl na (facts l))),(1,.c (.sl nb (facts m)))],[]⟩) (fun k=>k≤l.length∧strips (l.take k)=strips (m.take k)) (fun k=>l.length-k) 0 (by kernel_rfl) (by simp) (by simp [St.le]) ?_
  intro k ⟨hk,heq⟩
  by_cases h1:k<l.length
  · have h2:k<m.length:=by omega
    have hw:IntKind.i64.wrap ((k:Int)+1)=(k:Int)+1:=IntWalk.i64_in _ (by omega)
    have hrk:=hr l[k] (List.getElem_mem h1)
    have hp:∀ p q:Per,(!(p.f == q.f && p.t == q.t)) = !decide (p=q):=by
      intro p q;cases p;cases q;rw [Bool.eq_iff_iff];simp
    simp -dsimp [h1,h2]
    refine VL.draw (by kernel_rfl) [(0,false),(0,false),(3,false),(7,false),(15,false),(0,false),(0,false),(96,false),(224,false),(480,false),(1023,true),(2047,true),(4095,false),(4095,false),(16383,false),(32767,false),(65535,false),(4095,false),(4095,false),(397311,false),(921599,false),(1970175,false),(4194303,true),(8388607,true),(16777215,true)] (by kernel_rfl) ?_
    simp -dsimp [h1,h2,Fact.cells]
    refine VG.mk [.c (bln (decide (l[k].row=m[k].row)))] _ (fun _=>refSame_spec _ _ _ _ (by omega)) rfl ?_
    simp -dsimp
    refine VIf.mk (fun h=>?_) (fun h=>?_)
    · simp -dsimp
      intro e
      have e2:l[k].strip=m[k].strip:=by
        have a1:(strips l)[k]? = some l[k].strip:=by simp [strips,h1]
        have a2:(strips m)[k]? = some m[k].strip:=by simp [strips,h2]
        rw [e,a2] at a1
        exact (Option.some.inj a1).symm
      simp [Fact.strip] at e2
      simp [e2] at h
    · simp -dsimp [hw]
      refine ⟨k+1,⟨by omega,strips_step h1 h2 heq ?_⟩,?_,by omega⟩
      · simp at h
        unfold Fact.strip
        obtain ⟨⟨a1,a2⟩,a3⟩:=h
        have:l[k].p=m[k].p:=by
          cases hx:l[k].p;cases hy:m[k].p;rw [hx,hy] at a1 a2;simp at a1 a2;simp [a1,a2]
        rw [this,a3]
      · simp [St.le]
  · obtain rfl:k=l.length:=by omega
    simp -dsimp
    rw [List.take_length,hlen,List.take_length] at heq
    exact heq
end Go.Proofs.YtlphpbcafplnbaaGreat
