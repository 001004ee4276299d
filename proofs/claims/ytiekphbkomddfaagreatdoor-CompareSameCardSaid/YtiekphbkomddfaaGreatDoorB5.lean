/- The executor is sound, 11: the operations of a region in their order. -/
import Derived.Test.YtiekphbkomddfaaGreatDoorB4
namespace Go.Ab
theorem qbv{a b:Bool}(h:qpm a b=true):a=b:=by cases a <;> cases b <;> first|rfl|exact Bool.noConfusion (show false=true from h)
section
variable {P:Program} {n:Nat} {g:G} {β:Nat->Nat} {U:Nat->Prop} {st:St} {a:Act} {w:World} {o:Oper} {ops:List Oper} {i:Nat}
theorem dr{s:Nat}{b:Bool}{j:Nat}(hj:q9 ops j=some s)(h:a.tmps.getD s undef = .bool b):yielded ops.toArray a.tmps j=some b:=by
 unfold yielded
 have h1:((ops.toArray[j]?).bind (·.dst))=some s:=by simpa[q9] using hj
 rw[h1]
 have h2:a.tmps[s]? = some (.bool b):=by
  cases hs:a.tmps[s]? with
  |none=>simp[hs,undef]at h
  |some v=>simp[hs]at h;rw[h]
 simp[h2]
def un(ops:List Oper)(D:Nat->Prop)(a:Act):Prop :=
 ∀j o j1 w1,D j->ops[j]? = some o->o.guard=some (j1,w1)->yielded ops.toArray a.tmps j≠none->yielded ops.toArray a.tmps j1=some w1
def mu(ops:List Oper)(D:Nat->Prop):Prop:=∀j o j1 w1,D j->ops[j]? = some o->o.guard=some (j1,w1)->q9 ops j1≠none->D j1
theorem fl[Lay]{D:Nat->Prop}(r:Rel n g β U (yOf ops a) st a w)(hc:un ops D a)(hd:mu ops D):∀(m:Nat) (q:Nat×Bool) (x:Bool),(q9 ops q.1≠none->D q.1)->gB st.sl ops i m q=some x->(yielded ops.toArray a.tmps q.1=some q.2↔x=true)
 |0,_,_,_,h=>by simp[gB]at h
 |m+1,(j,w0),x,hq,h=>by
  simp only[gB]at h
  cases hj:q9 ops j with
  |none=>rw[hj]at h;cases h
  |some s =>
   rw[hj]at h
   simp only at h
   split at h
   ·rename_i b hl
    cases h
    have:=dr hj (by simpa[RS,RS0,R] using r.slot s _ hl)
    simp only[this]
    cases b <;> cases w0 <;> simp
   ·rename_i j' w' b hl
    cases hb:Nat.blt j i&&n8 ops j j' w' with
    |false=>rw[hb]at h;cases h
    |true =>
     rw[hb]at h
     simp only[cond_true]at h
     simp only[Bool.and_eq_true]at hb
     have hji:D j:=hq (by rw[hj];simp)
     cases hx:gB st.sl ops i m (j',w') with
     |none=>rw[hx]at h;cases h
     |some x' =>
      rw[hx]at h
      cases h
      have hguard:∃o,ops[j]? = some o/\o.guard=some (j',w'):=by
       have h2:=hb.2
       unfold n8 at h2
       cases ho:ops[j]? with
       |none=>rw[ho]at h2;simp at h2
       |some o =>
        rw[ho]at h2
        simp only[Option.bind_some]at h2
        cases hg:o.guard with
        |none=>rw[hg]at h2;simp at h2
        |some p =>
         obtain⟨p1,p2⟩:=p
         rw[hg]at h2
         simp only[Bool.and_eq_true]at h2
         have e1:=qp.1 h2.1
         have e2:=qbv h2.2
         subst e1;subst e2
         exact⟨o,rfl,hg⟩
      obtain⟨o,ho,hog⟩:=hguard
      have ih:=fl r hc hd m (j',w') x' (hd j o j' w' hji ho hog) hx
      simp only at ih
      have hs:yielded ops.toArray a.tmps j'=some w'->yielded ops.toArray a.tmps j=some b:=fun hy =>
       dr hj (by
        have:=r.slot s _ hl
        simp only[RS]at this
        simpa[RS0,R] using this hy)
      constructor
      ·intro hy
       have h1:=hc j o j' w' hji ho hog (by rw[hy];simp)
       have h2:=hs h1
       rw[hy]at h2;cases h2
       rw[ih.1 h1]
       cases w0 <;> rfl
      ·intro hy
       simp only[Bool.and_eq_true]at hy
       have h1:=hs (ih.2 hy.1)
       rw[h1]
       have:=hy.2
       cases b <;> cases w0 <;> simp_all
   ·cases h
theorem xp{D:Nat->Prop}(hc:un ops D a)(hd:mu ops D):∀(m:Nat) (q:Nat×Bool),(q9 ops q.1≠none->D q.1)->yielded ops.toArray a.tmps q.1=some q.2->∀p∈ks ops i m q,yielded ops.toArray a.tmps p.1=some p.2
 |0,_,_,_,p,hp=>by simp[ks]at hp
 |m+1,q,hqd,hq,p,hp=>by
  simp only[ks]at hp
  cases hb:Nat.blt q.1 i with
  |false=>rw[hb]at hp;simp at hp
  |true =>
   rw[hb]at hp
   simp only[cond_true,List.mem_cons]at hp
   rcases hp with rfl|hp
   ·exact hq
   ·cases ho:ops[q.1]? with
    |none=>rw[ho]at hp;simp at hp
    |some o =>
     rw[ho]at hp
     simp only[Option.bind_some]at hp
     cases hg:o.guard with
     |none=>rw[hg]at hp;simp at hp
     |some q' =>
      rw[hg]at hp
      have hq0:D q.1:=hqd (fun h0=>by
       have:yielded ops.toArray a.tmps q.1=none:=by
        unfold yielded
        have h1:((ops.toArray[q.1]?).bind (·.dst))=q9 ops q.1:=by simp[q9]
        rw[h1,h0];rfl
       rw[this]at hq;cases hq)
      exact xp hc hd m q' (hd q.1 o q'.1 q'.2 hq0 ho (by rw[hg])) (hc q.1 o q'.1 q'.2 hq0 ho (by rw[hg]) (by rw[hq];simp)) p hp
theorem aq:∀(cl:List (Nat×Bool)) (j:Nat) (w:Bool),qmg cl j w=true->(j,w)∈cl
 | [],_,_,h=>by simp[qmg]at h
 |(p,q)::r,j,w,h=>by
  simp only[qmg,Bool.or_eq_true,Bool.and_eq_true]at h
  rcases h with ⟨h1,h2⟩|h
  ·have e1:=qp.1 h1
   have e2:=qbv h2
   subst e1;subst e2
   exact List.mem_cons_self ..
  ·exact List.mem_cons_of_mem _ (aq r j w h)
theorem ro(v:Value):isD (ofVal v)=true\/ofVal v = .junk:=by
 have hc:∀(c:Bool) (x:D),isD x=true->isD (bif c then x else .junk)=true\/(bif c then x else .junk) = .junk:=by
  intro c x h;cases c
  ·exact .inr rfl
  ·exact .inl h
 unfold ofVal
 split <;> first|exact .inl rfl|exact .inr rfl|exact hc _ _ rfl
theorem x0[Lay]{y:Nat->Bool->Prop}(r:Rel n g β U y st a w){cl:List (Nat×Bool)}(hcl:∀p∈cl,y p.1 p.2):Ev g β st.sl a (evO st.sl cl):=by
 have hmay:∀{t j w0 d},qm st.sl t=some (.may j w0 d)->qmg cl j w0=true->RS0 g β d (a.tmps.getD t undef)/\y j w0:=by
  intro t j w0 d hl hg
  have hy:=hcl _ (aq cl j w0 hg)
  exact⟨r.slot t _ hl hy,hy⟩
 have hcond:∀{c:Bool} {d:D},(bif c then d else D.junk)≠ .junk->c=true:=by
  intro c d h;cases c
  ·exact absurd rfl h
  ·rfl
 refine⟨fun x hx=> ?_,fun x s off hx=> ?_,fun x cs hx=> ?_,fun x j w0 d hx=> ?_⟩
 ·cases x with
  |tmp t =>
   simp only[evO]at hx⊢
   split at hx <;> rename_i heq
   ·have:=r.slot t _ heq
    simpa[RS,RS0,Act.eval] using this
   ·have hg:=hcond hx
    rw[hg]
    exact(hmay heq hg).1
   ·have:=r.slot t _ heq
    rename_i d h1 h2
    cases d <;> first|exact this|exact absurd rfl hx|exact absurd rfl (h1 _)|exact absurd rfl (h2 _ _ _)
   ·exact absurd rfl hx
  |const v=>exact RS0.ofVal g β v hx
  |func f=>simp only[evO,Act.eval,RS0,R];exact⟨[],rfl,rfl⟩
  |global q=>exact absurd rfl hx
 ·cases x with
  |tmp t =>
   simp only[evO]at hx
   split at hx <;> rename_i heq
   ·cases hx;exact⟨_,heq⟩
   ·have hg:=hcond (by rw[hx];simp)
    rw[hg]at hx
    simp only[cond_true]at hx
    subst hx
    exact r.base t _ s heq (hmay heq hg).2 rfl
   ·subst hx;exact r.base t _ s heq trivial rfl
   ·cases hx
  |const v=>simp only[evO]at hx;rcases ro v with h|h <;> rw[hx]at h <;> cases h
  |func f=>cases hx
  |global q=>cases hx
 ·cases x with
  |tmp t =>
   simp only[evO]at hx
   split at hx <;> rename_i heq
   ·cases hx
   ·have hg:=hcond (by rw[hx];simp)
    rw[hg]at hx
    simp only[cond_true]at hx
    subst hx
    have:=(hmay heq hg).1
    simp[RS0,R]at this
   ·rename_i h1 h2
    subst hx
    exact absurd rfl (h1 _)
   ·cases hx
  |const v=>simp only[evO]at hx;rcases ro v with h|h <;> rw[hx]at h <;> cases h
  |func f=>cases hx
  |global q=>cases hx
 ·cases x with
  |tmp t =>
   simp only[evO]at hx
   split at hx <;> rename_i heq
   ·cases hx
   ·have hg:=hcond (by rw[hx];simp)
    rw[hg]at hx
    simp only[cond_true]at hx
    subst hx
    have:=(hmay heq hg).1
    simp[RS0,R]at this
   ·rename_i h1 h2
    subst hx
    exact absurd rfl (h2 _ _ _)
   ·cases hx
  |const v=>simp only[evO]at hx;rcases ro v with h|h <;> rw[hx]at h <;> cases h
  |func f=>cases hx
  |global q=>cases hx
end
end Go.Ab
namespace Go.Ab
theorem Oper.wp_mono'{P:Program}{ρ:Option Nat}{o:Oper}{a:Act}{w:World}{K K':Act->World->Prop}{Q Q':Exit->Act->World->Prop}(h:∀a w,K a w->K' a w)(hq:∀e a w,Q e a w->Q' e a w)
  (hh:o.wpIn (fen ρ) 0 P a w K Q):o.wpIn (fen ρ) 0 P a w K' Q':=by
 unfold Oper.wpIn at *
 refine⟨hh.1,?_⟩
 have hh:=hh.2
 generalize (o.semAt (fen ρ).round a.eval).run P w=r at *
 cases r with
 |ok n w' =>
  cases n <;> simp only[Oper.uponIn]at hh⊢ <;>
   first
    |exact h _ _ hh
    |exact⟨hh.1,CallsIn.mono hh.2 (fun e w'' he=>by cases e <;> first|exact h _ _ he|exact hq _ _ _ he|exact he.elim fun a he=>he.elim fun w he=>⟨a,w,hq _ _ _ he⟩)⟩
    |exact⟨hh.1,RowsIn.mono hh.2 (fun _ _ he=>h _ _ he)⟩
    |exact⟨hh.1,RoundIn.mono hh.2 (fun e w'' he=>by cases e <;> first|exact h _ _ he|exact hq _ _ _ he|exact he.elim fun a he=>he.elim fun w he=>⟨a,w,hq _ _ _ he⟩)⟩
 |halt x w'=>cases x <;> simp only[Oper.uponIn]at hh⊢ <;> first|exact hq _ _ _ hh|exact hh
theorem yf{P:Program}{ρ:Option Nat}{ops:Array Oper}{Q Q':Exit->Act->World->Prop}(hq:∀e a w,Q e a w->Q' e a w):∀(l:List Nat) (a:Act) (w:World),wpOpsIn (fen ρ) 0 P ops Q l a w->wpOpsIn (fen ρ) 0 P ops Q' l a w
 | [],a,w,h=>hq _ _ _ h
 |i::r,a,w,h=>by
  simp only[wpOpsIn]at h⊢
  cases ho:ops[i]? with
  |none=>rw[ho]at h;exact yf hq r a w h
  |some o =>
   rw[ho]at h
   simp only at h⊢
   split
   ·rename_i hw
    rw[if_pos hw]at h
    exact Oper.wp_mono' (fun a w=>yf hq r a w) hq h
   ·rename_i hw
    rw[if_neg hw]at h
    exact⟨h.1,yf hq r _ _ h.2⟩
def km[Lay](n:Nat)(U:Nat->Prop)(g:G)(w:World)(Q:St->Prop)(e:Exit)(a':Act)(w':World):Prop :=
 e = .normal/\∃g' β' st',Rel n g' β' U noY st' a' w'/\Grow U g g'/\Kept U w w'/\Q st'
section
variable {P:Program} {n:Nat} {g:G} {β:Nat->Nat} {U:Nat->Prop} {st:St} {a:Act} {w:World} {o:Oper} {ops:List Oper} {i:Nat}
theorem OpsSem.at[Lay]{ρ:Option Nat}{Q:St->Prop}{g0:G}{w0:World}(h:OpsSem P n ops i st Q)(r:Rel n g β U (yOf ops a) st a w)(hm:qeg i st)(hc:qfn ops i a)(hg:Grow U g0 g)(hk:Kept U w0 w) :
  wpOpsIn (fen ρ) 0 P ops.toArray (km n U g0 w0 Q) (List.range' i (ops.length-i)) a w :=
 yf (fun _ _ _ ⟨e,g',β',st',h1,h2,h3,h4⟩=>⟨e,g',β',st',h1,hg.trans h2,hk.trans h3,h4⟩) _ _ _ (h ρ g β U a w r hm hc)
theorem fo(h:g8 ops=true){j k t:Nat}(hj:q9 ops j=some t)(hk:q9 ops k=some t):j=k:=by
 have hn:(ops.filterMap (·.dst)).Nodup:=by simpa[g8] using h
 clear h
 induction ops generalizing j k with
 |nil=>simp[q9]at hj
 |cons o r ih =>
  cases hd:o.dst with
  |none =>
   rw[List.filterMap_cons,hd]at hn
   cases j with
   |zero=>simp[q9,hd]at hj
   |succ j =>
    cases k with
    |zero=>simp[q9,hd]at hk
    |succ k=>have:=ih (j:=j) (k:=k) (by simpa[q9] using hj) (by simpa[q9] using hk) hn;omega
  |some s =>
   rw[List.filterMap_cons,hd]at hn
   simp only[List.nodup_cons]at hn
   have hin:∀{m:Nat},q9 r m=some s->False:=by
    intro m hm
    apply hn.1
    simp only[q9]at hm
    cases hr:r[m]? with
    |none=>rw[hr]at hm;cases hm
    |some o'=>rw[hr]at hm;exact List.mem_filterMap.2 ⟨o',List.mem_of_getElem? hr,by simpa using hm⟩
   cases j with
   |zero =>
    have hs:s=t:=by simpa[q9,hd] using hj
    subst hs
    cases k with
    |zero=>rfl
    |succ k=>exact(hin (by simpa[q9] using hk)).elim
   |succ j =>
    cases k with
    |zero =>
     have hs:s=t:=by simpa[q9,hd] using hk
     subst hs
     exact(hin (by simpa[q9] using hj)).elim
    |succ k=>have:=ih (j:=j) (k:=k) (by simpa[q9] using hj) (by simpa[q9] using hk) hn.2;omega
theorem fq:∀{ops:List Oper} {k j:Nat} {o:Oper} {q:Nat×Bool},pg k ops=true->ops[j]? = some o->o.guard=some q->q.1<k+j
 | [],_,_,_,_,_,h,_=>by simp at h
 |o'::r,k,j,o,q,h,ho,hg=>by
  simp only[pg,Bool.and_eq_true]at h
  cases j with
  |zero =>
   simp at ho;subst ho
   rw[hg]at h
   have:=p7.1 h.1
   omega
  |succ j =>
   have:=fq (k:=k+1) h.2 (by simpa using ho) hg
   omega
structure yv(n:Nat)(ops:List Oper):Prop where
 apart:g8 ops=true
 isIn:∀j t,q9 ops j=some t->t<n
 back:∀{j:Nat} {o:Oper} {q:Nat×Bool},ops[j]? = some o->o.guard=some q->q.1<j
theorem wa(h:yo n ops=true):yv n ops:=by
 simp only[yo,Bool.and_eq_true]at h
 obtain⟨⟨h1,h2⟩,h3⟩:=h
 refine⟨h1,fun j t hj=> ?_,fun ho hg=>by have:=fq h3 ho hg;omega⟩
 simp only[q9]at hj
 cases ho:ops[j]? with
 |none=>rw[ho]at hj;cases hj
 |some o =>
  rw[ho]at hj
  have hd:o.dst=some t:=by simpa using hj
  have:=List.all_eq_true.1 h2 o (List.mem_of_getElem? ho)
  rw[hd]at this
  exact p7.1 this
theorem yw{j t:Nat}{v:Value}(h:q9 ops j≠some t):yielded ops.toArray (a.put (some t) v).tmps j=yielded ops.toArray a.tmps j:=by
 unfold yielded
 have h1:((ops.toArray[j]?).bind (·.dst))=q9 ops j:=by simp[q9]
 rw[h1]
 cases hd:q9 ops j with
 |none=>rfl
 |some s =>
  have hne:t≠s:=fun e=>h (by rw[hd,e])
  simp[Act.put,Array.getElem?_setIfInBounds_ne hne]
theorem fu{j:Nat}(h:∀t,q9 ops j=some t->a.tmps.getD t undef=undef):yielded ops.toArray a.tmps j=none:=by
 unfold yielded
 have h1:((ops.toArray[j]?).bind (·.dst))=q9 ops j:=by simp[q9]
 rw[h1]
 cases hd:q9 ops j with
 |none=>rfl
 |some s =>
  have:=h s hd
  cases hs:a.tmps[s]? with
  |none=>simp[hs]
  |some v=>simp[hs]at this;simp[hs,this,undef]
theorem qiy[Lay](k:yv n ops)(r:Rel n g β U (yOf ops a) st a w)(hm:qeg i st)(hc:qfn ops i a)(ho:ops[i]? = some o){v:Value}{d:D}
  (hv:∀t,RS g β (yOf ops (a.put o.dst v)) t d v) (hno:∀cs,d≠ .own cs) (hb:Live (yOf ops (a.put o.dst v)) d->∀s,qy d=some s->∃cs,qm st.sl s=some (.own cs))
  (hmay:∀j w0 e,d = .may j w0 e->j<i) (hw:∀q,o.guard=some q->yielded ops.toArray a.tmps q.1=some q.2\/v=undef) :
  Rel n g β U (yOf ops (a.put o.dst v)) {st with sl:=j0 st.sl o.dst d} (a.put o.dst v) w/\qeg (i+1) {st with sl:=j0 st.sl o.dst d}/\qfn ops (i+1) (a.put o.dst v):=by
 have hdst:∀j,j≠i->∀t,o.dst=some t->q9 ops j≠some t:=fun j hj t ht h=>hj (fo k.apart h (by simp[q9,ho,ht]))
 have hyield:∀j,j≠i->yielded ops.toArray (a.put o.dst v).tmps j=yielded ops.toArray a.tmps j:=by
  intro j hj
  cases hd:o.dst with
  |none=>rfl
  |some t=>exact yw (hdst j hj t hd)
 refine⟨?_,?_,?_⟩
 ·cases hd:o.dst with
  |none =>
   have h1:a.put none v=a:=rfl
   simp only[h1,j0]
   exact r
  |some t =>
   simp only[j0]
   rw[hd]at hv hb
   refine r.put (y':=yOf ops (a.put (some t) v)) (k.isIn i t (by simp[q9,ho,hd])) ?_ (fun cs=> ?_) (fun hl s hs=> ?_) (fun s j w0 e hs hl hy=> ?_)
   ·cases xb d t
    ·exact hv t
    ·trivial
   ·cases xb d t
    ·exact hno cs
    ·simp
   ·cases hp:xb d t with
    |true=>rw[hp]at hs;cases hs
    |false =>
     rw[hp]at hs hl
     simp only[cond_false]at hs hl
     refine⟨fun e=> ?_,hb hl s hs⟩
     subst e
     rw[yc hs]at hp;cases hp
   ·have:=hm _ _ _ _ hl
    have h2:=hyield j (by omega)
    rw[hd]at h2
    unfold yOf at hy⊢
    rw[<-h2];exact hy
 ·intro t j w0 e hl
  cases hd:o.dst with
  |none=>rw[hd]at hl;have:=hm t j w0 e hl;omega
  |some t' =>
   rw[hd]at hl
   rcases ze r.keys hl with ⟨_,h2⟩|⟨_,_,h3⟩
   ·cases hp:xb d t' with
    |true=>rw[hp]at h2;cases h2
    |false=>rw[hp]at h2;have:=hmay j w0 e h2.symm;omega
   ·have:=hm t j w0 e h3;omega
 ·intro j o' j1 w1 hj ho' hg hy
  have hb1:=k.back ho' hg
  simp only at hb1
  by_cases hji:j=i
  ·subst hji
   rw[ho]at ho';cases ho'
   rw[hyield j1 (by omega)]
   rcases hw _ hg with h|h
   ·exact h
   ·subst h
    refine absurd (fu fun t ht=> ?_) hy
    have hd:o.dst=some t:=by simpa[q9,ho] using ht
    rw[hd,xk (by rw[r.size];exact k.isIn j t ht)]
  ·rw[hyield j hji]at hy
   rw[hyield j1 (by omega)]
   exact hc j o' j1 w1 (by omega) ho' hg hy
theorem zc{s:Nat}:∀{i j:Nat},kv ops s i=some j->j<i/\q9 ops j=some s
 |0,_,h=>by simp[kv]at h
 |i+1,j,h=>by
  simp only[kv]at h
  cases hd:q9 ops i with
  |none=>rw[hd]at h;have:=zc h;exact⟨by omega,this.2⟩
  |some t =>
   rw[hd]at h
   simp only at h
   cases hb:Nat.beq s t with
   |true=>rw[hb]at h;cases h;have:=qp.1 hb;subst this;exact⟨by omega,hd⟩
   |false=>rw[hb]at h;have:=zc h;exact⟨by omega,this.2⟩
theorem s4[Lay]{D:Nat->Prop}(r:Rel n g β U (yOf ops a) st a w)(hc:un ops D a)(hd:mu ops D){cl:List (Nat×Bool)}(hcl:∀p∈cl,yOf ops a p.1 p.2){c x z:Operand}(hwho:∀s j,c = .tmp s->kv ops s i=some j->D j)(ho:o.op = .pick c x z){d:Ab.D}
  (h:gf st.sl cl ops i c x z=some d):∃v,(execOp a.eval o).run P w = .ok (.value v) w/\R g d v:=by
 have e:=x0 r hcl
 have hclw:∀(b:Bool),a.eval c = .bool b->∀p∈clW ops i cl c b,yOf ops a p.1 p.2:=by
  intro b hb p hp
  cases c with
  |tmp s =>
   simp only[clW]at hp
   cases hw:kv ops s i with
   |none=>rw[hw]at hp;exact hcl p hp
   |some j =>
    rw[hw]at hp
    simp only[List.mem_append]at hp
    rcases hp with hp|hp
    ·exact xp hc hd 40 (j,b) (fun _=>hwho s j rfl hw) (dr (zc hw).2 hb) p hp
    ·exact hcl p hp
  |_=>exact hcl p hp
 unfold gf at h
 split at h
 ·rename_i bc bx bz h1 h2 h3
  cases h
  have hcv:a.eval c = .bool bc:=by have:=e.data (x:=c) (by rw[h1];rfl);rw[h1]at this;simpa[R] using this
  have hx:bc=true->a.eval x = .bool bx:=by
   intro hb
   have e2:=x0 r (hclw true (by rw[hcv,hb]))
   have:=e2.data (x:=x) (by rw[h2];rfl)
   rw[h2]at this;simpa[R] using this
  have hz:bc=false->a.eval z = .bool bz:=by
   intro hb
   have e2:=x0 r (hclw false (by rw[hcv,hb]))
   have:=e2.data (x:=z) (by rw[h3];rfl)
   rw[h3]at this;simpa[R] using this
  refine⟨.bool (bif bc then bx else bz),?_,by simp only[R]⟩
  cases bc with
  |true=>simp[execOp,ho,hcv,hx rfl,asBool]
  |false=>simp[execOp,ho,hcv,hz rfl,asBool]
 ·cases h
theorem Ext.at_[Lay]{g':G}{w':World}(r:Rel n g β U (yOf ops a) st a w)(x:Ext g w g' w'):Rel n g' β U (yOf ops a) st a w'/\Grow U g g'/\Kept U w w' :=
 ⟨r.ext x,x.grow r.inv.ub,x.kept r.inv.ub⟩
theorem fv{ρ:Option Nat}{ev:Operand->Value}{x:Next}{w':World}(hx:∀d,x≠ .defer d)(hy:(execOp ev o).run P w = .ok x w'):(o.semAt ρ ev).run P w = .ok x w':=by
 by_cases hd:∃c,o.op = .defer c
 ·obtain⟨c,hd⟩:=hd
  exfalso
  simp only[execOp,hd,Sem.run_bind]at hy
  cases hr:(resolve ev c o.type).run P w with
  |ok d w1=>rw[hr]at hy;simp at hy;exact hx _ hy.1.symm
  |halt y w1=>rw[hr]at hy;simp at hy
 ·rw[Oper.semAt_eq ρ ev o fun c h=>hd ⟨c,h⟩];exact hy
theorem zb{ρ:Option Nat}{K:Act->World->Prop}{Q:Exit->Act->World->Prop}{v:Value}{w':World}(hy:qcw P a o w v w')(h:K (a.put o.dst v) w'):o.wpIn (fen ρ) 0 P a w K Q:=by
 refine⟨fun _ _=>trivial,?_⟩
 rcases hy with hy|⟨hy,rfl⟩
 ·rw[fv (by simp) hy];exact h
 ·rw[fv (by simp) hy];exact h
theorem fw{ρ:Option Nat}{K:Act->World->Prop}{Q:Exit->Act->World->Prop}{f:Nat}{vs:Array Value}{w':World}(hy:(execOp a.eval o).run P w = .ok (.enter f vs) w'){R:Ending->World->Prop}(hc:Calls P f vs w' R)
  (h:∀e w'',R e w''->∃v,e = .returned v/\K (a.put o.dst v) w''):o.wpIn (fen ρ) 0 P a w K Q:=by
 refine⟨fun _ _=>trivial,?_⟩
 rw[fv (by simp) hy]
 refine⟨fun h=>Bool.noConfusion (show false=true from h),CallsIn.mono (F:=fen ρ) (show CallsIn (fen ρ) (0-1) P f vs w' R from callsIn_wide.2 hc) fun e w'' he=>by obtain⟨v,rfl,hk⟩:=h e w'' he;exact hk⟩
theorem qc3{ρ:Option Nat}{K:Act->World->Prop}{Q:Exit->Act->World->Prop}{l f:Nat}{tmps:Array Value}{asg body:Code}{w':World}(hy:(execOp a.eval o).run P w = .ok (.round l f tmps asg body) w'){R:Ending->World->Prop}(hc:RoundIn (fen ρ) 0 P l f tmps asg body w' R)
  (h:∀e w'',R e w''->∃v,e = .returned v/\K (a.put o.dst v) w''):o.wpIn (fen ρ) 0 P a w K Q:=by
 refine⟨fun _ _=>trivial,?_⟩
 rw[fv (by simp) hy,Oper.uponIn_round]
 refine⟨fun h=>Bool.noConfusion (show false=true from h),RoundIn.mono (F:=fen ρ) (show RoundIn (fen ρ) (0-1) P l f tmps asg body w' R from hc) fun e w'' he=>by obtain⟨v,rfl,hk⟩:=h e w'' he;exact hk⟩
theorem Pure.at[Lay]{f:Nat}{args:List D}{v:D}(p:Pure P f args v)(r:Rel n g β U (yOf ops a) st a w){vs:List Value}(hs:Rs g args vs) :
  Calls P f vs.toArray w fun e w'=>∃(x:Value) (g':G),e = .returned x/\R g' v x/\Ext g w g' w' :=
 Calls.mono (p.calls g w vs r.inv.ltab r.inv.sub hs) fun _e _w' ⟨x,σ',h1,h2,h3,h4,h5,h6⟩ =>
  ⟨x,⟨σ',g.μ,g.τ⟩,h1,h2,⟨⟨h3,fun _ _ h=>h,fun _ k h=>⟨k,h,rfl,Nat.le_refl _,fun _=>rfl⟩⟩,rfl,rfl,h5,h4,h6⟩⟩
def qj5(st:St)(β:Nat->Nat)(U:Nat->Prop):Nat->Prop:=fun b=>U b\/∃t cs,qm st.sl t=some (.own cs)/\b=β t
theorem Rel.inU[Lay]{y:Nat->Bool->Prop}(r:Rel n g β U y st a w):Inv g (qj5 st β U) st.h w:=by
 have i:=r.inv
 refine⟨i.sub,fun b hb=> ?_,i.muLt,fun l row e=> ?_,i.boxInj,fun t m e=> ?_,i.tokBox,i.tokInj,i.frL,i.frT,i.frV,i.ltab⟩
 ·rcases hb with hb|⟨t,cs,h1,rfl⟩
  ·exact i.ub b hb
  ·exact(r.own t cs h1).1.lt
 ·obtain⟨b,h1,h2,h3,h4⟩:=i.box l row e
  refine⟨b,h1,h2,fun hu=> ?_,h4⟩
  rcases hu with hu|⟨t,cs,h5,rfl⟩
  ·exact h3 hu
  ·exact(r.own t cs h5).2.2.2.1 l (by rw[e];simp) h1
 ·obtain⟨k,h1,h2,h3⟩:=i.tok t m e
  refine⟨k,h1,h2,fun hk=> ?_⟩
  obtain⟨b,e1,e2,e3⟩:=h3 hk
  refine⟨b,e1,fun hu=> ?_,e3⟩
  rcases hu with hu|⟨t',cs,h5,rfl⟩
  ·exact e2 hu
  ·exact(r.own t' cs h5).2.2.2.2 t m k e h1 hk e1
theorem Rel.outU[Lay]{y:Nat->Bool->Prop}(r:Rel n g β U y st a w){g':G}{h':Heap}{w':World}(h3:Inv g' (qj5 st β U) h' w')(h4:Grow (qj5 st β U) g g')(h5:Kept (qj5 st β U) w w') :
  Rel n g' β U y {sl:=st.sl,h:=h' } a w'/\Grow U g g'/\Kept U w w':=by
 refine⟨?_,⟨h4.le,fun c v hc=> ?_⟩,⟨h5.os,h5.tape,h5.output,h5.size,fun b hb=>h5.block b (.inl hb),h5.defs⟩⟩
 ·refine⟨r.defers.kept h5.defs,r.size,r.keys,fun t d h=>(r.slot t d h).mono h4.le,r.base,fun t cs h=> ?_,r.ownInj,?_⟩
  ·obtain⟨e1,e2,e3,e4,e5⟩:=r.own t cs h
   have hu:qj5 st β U (β t):= .inr ⟨t,cs,h,rfl⟩
   refine⟨e1.mono h4.le (h5.block _ hu),e2,fun c v hc hb=> ?_,fun l hl hb=> ?_,fun t' m k e f1 f2 f3=> ?_⟩
   ·rcases h4.new c v hc with h7|h7
    ·exact e3 c v h7 hb
    ·exact h7 (by rw[hb];exact hu)
   ·cases hrow:h'.box l with
    |none=>exact hl hrow
    |some row =>
     obtain⟨b,f1,_,f3,_⟩:=h3.box l row hrow
     rw[hb]at f1;cases f1
     exact f3 hu
   ·obtain⟨k',f4,f5,f6⟩:=h3.tok t' m e
    rw[f1]at f4;cases f4
    obtain⟨b,f7,f8,_⟩:=f6 f2
    rw[f3]at f7;cases f7
    exact f8 hu
  ·refine⟨h3.sub,fun b hb=>h3.ub b (.inl hb),h3.muLt,fun l row e=> ?_,h3.boxInj,fun t m e=> ?_,h3.tokBox,h3.tokInj,h3.frL,h3.frT,h3.frV,h3.ltab⟩
   ·obtain⟨b,f1,f2,f3,f4⟩:=h3.box l row e
    exact⟨b,f1,f2,fun hu=>f3 (.inl hu),f4⟩
   ·obtain⟨k,f1,f2,f3⟩:=h3.tok t m e
    refine⟨k,f1,f2,fun hk=> ?_⟩
    obtain⟨b,e1,e2,e3⟩:=f3 hk
    exact⟨b,e1,fun hu=>e2 (.inl hu),e3⟩
 ·rcases h4.new c v hc with h7|h7
  ·exact .inl h7
  ·exact .inr fun hu=>h7 (.inl hu)
theorem CallA.at[Lay]{f:Nat}{args:List D}{K:D->Heap->Prop}(p:CallA P f args st.h K){y:Nat->Bool->Prop}(r:Rel n g β U y st a w){vs:List Value}(hs:Rs g args vs) :
  Calls P f vs.toArray w fun e w'=>∃(x:Value) (g':G) (d:D) (h':Heap),e = .returned x/\R g' d x/\Rel n g' β U y {sl:=st.sl,h:=h' } a w'/\Grow U g g'/\Kept U w w'/\K d h' :=
 Calls.mono (p.calls g (qj5 st β U) w vs r.inU hs) fun e w' ⟨x,g',d,h',h1,h2,h3,h4,h5,h6⟩=>by
  obtain⟨r1,g1,k1⟩:=r.outU h3 h4 h5
  exact⟨x,g',d,h',h1,h2,r1,g1,k1,h6⟩
theorem CallE.at[Lay]{f:Nat}{args:List D}{K:D->Heap->Prop}(p:CallE P f args st.h K){y:Nat->Bool->Prop}(r:Rel n g β U y st a w){vs:List Value}(hs:Rs g args vs) :
  ∃(x:Value) (w':World) (g':G) (d:D) (h':Heap),(callFunc f vs.toArray).run P w = .ok (.value x) w'/\R g' d x/\Rel n g' β U y {sl:=st.sl,h:=h' } a w'/\Grow U g g'/\Kept U w w'/\K d h':=by
 obtain⟨x,w',g',d,h',h1,h2,h3,h4,h5,h6⟩:=p.calls g (qj5 st β U) w vs r.inU hs
 obtain⟨r1,g1,k1⟩:=r.outU h3 h4 h5
 exact⟨x,w',g',d,h',h1,h2,r1,g1,k1,h6⟩
theorem CallY.at[Lay]{l:Nat}{args:List D}{K:D->Heap->Prop}(p:CallY P l args st.h K){y:Nat->Bool->Prop}(r:Rel n g β U y st a w){vs:List Value}{b:Nat}(hs:Rs g args vs)(hb:g.μ l=some b) :
  ∃(f:Nat) (tmps:Array Value) (asg body:Code),(Instr.yield b vs.toArray).run P w = .ok (.round b f tmps asg body) w /\
   ∀ρ,RoundIn (fen ρ) 0 P b f tmps asg body w fun e w'=>∃(x:Value) (g':G) (d:D) (h':Heap),e = .returned x/\R g' d x/\Rel n g' β U y {sl:=st.sl,h:=h' } a w'/\Grow U g g'/\Kept U w w'/\K d h':=by
 obtain⟨q,h1,h2,h3⟩:=p.calls g (qj5 st β U) w vs b r.inU hs hb
 refine⟨_,_,_,_,run_yield h1 h2,fun ρ=>RoundIn.mono (h3 ρ) fun e w' ⟨x,g',d,h',h1,h2,h3,h4,h5,h6⟩=> ?_⟩
 obtain⟨r1,g1,k1⟩:=r.outU h3 h4 h5
 exact⟨x,g',d,h',h1,h2,r1,g1,k1,h6⟩
end
end Go.Ab
namespace Go.Ab
def SlSame(st st':St):Prop:=st'.sl=st.sl\/∃s cs,st'.sl=setOwn st.sl s cs
theorem SlSame.may{st st':St}(h:SlSame st st'){t j:Nat}{w0:Bool}{d:D}(hl:qm st'.sl t=some (.may j w0 d)):qm st.sl t=some (.may j w0 d):=by
 rcases h with h|⟨s,cs,h⟩
 ·rw[h]at hl;exact hl
 ·rw[h]at hl
  by_cases hs:t=s
  ·subst hs
   cases h0:qm st.sl t with
   |none =>
    have:∀sl:qu,qm sl t=none->qm (setOwn sl t cs) t=none:=by
     intro sl;induction sl with
     |nil=>intro _;rfl
     |cons x r ih =>
      obtain⟨x1,x2⟩:=x
      intro h1
      simp only[qm]at h1
      cases hb:Nat.beq x1 t with
      |true=>rw[hb]at h1;simp at h1
      |false =>
       rw[hb]at h1
       simp only[cond_false]at h1
       simp only[setOwn,List.map_cons,hb,cond_false,qm]
       exact ih h1
    rw[this _ h0]at hl;cases hl
   |some e=>rw[jd _ _ _ h0]at hl;cases hl
  ·rw[qw _ _ _ _ hs]at hl;exact hl
theorem qx{c:Bool}{A:Res}{p:Prop}{st':St}{d:D}(h:(bif c then A else .bad) = .eff p st' d):A = .eff p st' d:=by
 cases c
 ·cases h
 ·exact h
theorem qfu{c:Bool}{A:Res}{p:Prop}{st':St}{d:D}(h:(bif c then .bad else A) = .eff p st' d):A = .eff p st' d:=by
 cases c
 ·exact h
 ·cases h
theorem zx{x:Option D}{p:Prop}{st':St}{d:D}(h:ua x = .eff p st' d):False:=by cases x <;> cases h
theorem ar{cfg:Cfg}{st:St}{dst tag:Option Nat}{cs:List D}{p:Prop}{st':St}{d:D}(h:uh cfg st dst tag cs = .eff p st' d):st'.sl=st.sl:=by
 unfold uh at h
 split at h
 ·rename_i t
  cases he:cfg.esc t with
  |true=>rw[he]at h;cases h;rfl
  |false=>rw[he]at h;cases h
 ·cases h
theorem qeq{P:Program}{op:BinOp}{T:Nat}{x z:D}{p:Prop}{st1:St}{d:D}(h:qh4 P op T x z = .eff p st1 d):False:=by
 unfold qh4 at h
 split at h
 ·split at h
  ·cases h
  ·cases h
  ·replace h:=qx h;split at h <;> cases h
 ·split at h <;> cases h
 ·split at h <;> cases h
 ·replace h:=qfu h;split at h <;> cases h
 ·replace h:=qx h;split at h <;> cases h
 ·cases h
theorem rp{P:Program}{op:BinOp}{T:Nat}{y:Operand}{x z:D}{p:Prop}{st1:St}{d:D}(h:qfg P op T y x z = .eff p st1 d):False:=by
 unfold qfg at h
 cases hz:nx y with
 |true =>
  rw[hz]at h
  simp only[cond_true,qo4]at h
  split at h <;> cases h
 |false =>
  rw[hz]at h
  simp only[cond_false]at h
  cases hy:gz y with
  |true =>
   rw[hy]at h
   simp only[cond_true,qif]at h
   split at h
   ·cases h
   ·cases h
   ·replace h:=qx h;cases h
   ·replace h:=qx h;cases h
   ·cases h
  |false=>rw[hy]at h;exact qeq h
theorem qc4{P:Program}{st:St}{bx vx:Bool}{t:Nat}{x z:D}{p:Prop}{st':St}{d:D}(h:qj2 P st bx vx t x z = .eff p st' d):st'.sl=st.sl:=by
 unfold qj2 at h
 split at h
 ·split at h
  ·rename_i sz b zd _ _ _
   cases hc:(isD zd&&Nat.beq (qk zd).length sz) with
   |false=>rw[hc]at h;cases h
   |true =>
    rw[hc]at h;simp only[cond_true]at h
    split at h
    ·rename_i n0 ez f own m g _
     cases hc3:(bif Nat.beq ez sz then true else Nat.beq n0 0) with
     |false=>rw[hc3]at h;cases h
     |true =>
      rw[hc3]at h;simp only[cond_true]at h
      split at h
      ·cases h
      ·cases h
      ·cases vx with
       |true=>cases h;rfl
       |false =>
        cases bx with
        |true=>cases h;rfl
        |false=>cases h;rfl
      ·rename_i tk tz
       split at h
       ·cases h
       ·cases hc4:Nat.beq sz tz with
        |false=>rw[hc4]at h;cases h
        |true=>rw[hc4]at h;cases h;rfl
    ·rename_i tk n0 ez m g _
     cases hc4:Nat.beq ez sz with
     |false=>rw[hc4]at h;cases h
     |true =>
      rw[hc4]at h
      simp only[cond_true]at h
      split at h
      ·cases h;rfl
      ·cases h
    ·replace h:=qx h
     split at h
     ·cases h;rfl
     ·cases h
    ·cases h
  ·cases h
 ·cases h
theorem qfv{P:Program}{st:St}{T:Nat}{x y:D}{p:Prop}{st':St}{d:D}(h:oi P st T x y = .eff p st' d):st'.sl=st.sl:=by
 unfold oi at h
 split at h
 ·split at h
  ·cases h;rfl
  ·cases h
 ·split at h
  ·cases h;rfl
  ·cases h
 ·cases h
theorem o7{P:Program}{st:St}{bx vx:Bool}{b:Builtin}{ts:List Nat}{l:List D}{p:Prop}{st':St}{d:D}(h:wo P st bx vx b ts l = .eff p st' d):st'.sl=st.sl:=by
 unfold wo at h
 split at h
 ·split at h <;> cases h
 ·split at h <;> cases h
 ·split at h <;> cases h
 ·split at h <;> cases h
 ·split at h <;> cases h
 ·split at h
  ·exact qc4 h
  ·exact qc4 h
  ·cases h
 ·exact qfv h
 ·split at h <;> cases h
 ·split at h <;> cases h
 ·cases h
theorem qfw{P:Program}{st:St}{s t:Nat}{x:D}{p:Prop}{st':St}{d:D}(h:ny P st s t x = .eff p st' d):st'.sl=st.sl:=by
 unfold ny at h
 split at h
 ·split at h
  ·cases h;rfl
  ·cases h
 ·cases h
theorem qfx{b:Bool}{x y:Res}{p:Prop}{st':St}{d:D}(h:(bif b then x else y) = .eff p st' d):x = .eff p st' d\/y = .eff p st' d:=by
 cases b
 ·exact .inr h
 ·exact .inl h
theorem qiz{st:St}{vx:Bool}{r:Option D}{p:Prop}{st':St}{d:D}(h:qih st vx r = .eff p st' d):st'.sl=st.sl:=by
 unfold qih at h
 split at h
 ·rename_i n _ _ _
  cases hc:(vx&&Nat.blt 0 n) with
  |true=>rw[hc]at h;cases h;rfl
  |false=>rw[hc]at h;cases h
 ·cases h
 ·cases h
theorem qfy{P:Program}{st:St}{vx:Bool}{t:Nat}{l c:D}{p:Prop}{st':St}{d:D}(h:ol P st vx t l c = .eff p st' d):st'.sl=st.sl:=by
 unfold ol at h
 split at h
 ·split at h
  ·rename_i sz b z _ _ _
   cases hc:(isD z&&Nat.beq (qk z).length (sz+1)) with
   |false=>rw[hc]at h;cases h
   |true =>
    rw[hc]at h
    simp only[cond_true]at h
    cases vx with
    |true=>replace h:=qx h;cases h;rfl
    |false=>cases h;rfl
  ·cases h
 ·cases h
theorem o8{P:Program}{st:St}{t:Nat}{x v:D}{p:Prop}{st':St}{d:D}(h:kr P st t x v = .eff p st' d):SlSame st st':=by
 unfold kr at h
 split at h
 ·rename_i m _ _
  cases hc:(Nat.beq (qk v).length m&&(qk v).all qbh) with
  |false=>rw[hc]at h;cases h
  |true =>
   rw[hc]at h;simp only[cond_true]at h
   split at h
   ·rename_i s off
    split at h
    ·rename_i cs _
     cases hc2:Nat.ble (off+m) cs.length with
     |false=>rw[hc2]at h;cases h
     |true=>rw[hc2]at h;cases h;exact .inr ⟨_,_,rfl⟩
    ·cases h
   ·split at h
    ·split at h
     ·cases h;exact .inl rfl
     ·cases h
    ·cases h
   ·split at h
    ·replace h:=qx h;cases h;exact .inl rfl
    ·cases h
   ·cases h
 ·cases h
theorem fx{P:Program}{h:Heap}{s t:Nat}{x:D}{p:Prop}{st1:St}{d:D}(he:xt P h s t x = .eff p st1 d):False:=by
 unfold xt at he
 split at he
 ·split at he <;> cases he
 ·split at he
  ·replace he:=qx he;cases he
  ·cases he
 ·split at he
  ·replace he:=qx he;cases he
  ·cases he
 ·unfold qig at he;split at he <;> cases he
theorem o9{P:Program}{st:St}{t:Nat}{r:Option D}{p:Prop}{st':St}{d:D}(h:wq P st t r = .eff p st' d):st'.sl=st.sl:=by
 unfold wq at h
 split at h
 ·split at h
  ·replace h:=qx h;cases h;rfl
  ·cases h
 ·cases h
theorem fy{P:Program}{hp:Heap}{t:Nat}{x i:D}{ok:Bool}{p:Prop}{st':St}{d:D}(h:ge P hp t x i ok = .eff p st' d):False:=by
 unfold ge at h
 split at h
 ·split at h
  ·replace h:=qx h;cases h
  ·cases h
 ·cases h
theorem rq{P:Program}{st:St}{t:Nat}{m k v:D}{p:Prop}{st':St}{d:D}(h:ui P st t m k v = .eff p st' d):st'.sl=st.sl:=by
 unfold ui at h
 split at h
 ·split at h
  ·split at h
   ·cases h;rfl
   ·cases h
  ·cases h
 ·cases h
theorem s5{P:Program}{cfg:Cfg}{st:St}{ev:Operand->D}{dst:Option Nat}{o:Op}{p:Prop}{st':St}{d:D}(h:opD P cfg st ev dst o = .eff p st' d):SlSame st st':=by
 unfold opD at h
 split at h
 ·split at h <;> cases h
 ·split at h <;> cases h
 ·split at h
  ·exact .inl (ar (qx h))
  ·cases h
 ·exact .inl (ar (qx h))
 ·exact(zx h).elim
 ·exact .inl (qiz h)
 ·unfold gd at h
  split at h
  ·split at h
   ·exact(zx h).elim
   ·cases h
  ·exact(zx h).elim
  ·split at h
   ·unfold dj at h
    split at h
    ·exact(zx h).elim
    ·split at h
     ·replace h:=qx h;cases h
     ·cases h
     ·cases h
    ·cases h
    ·exact(zx h).elim
    ·cases h
   ·cases h
  ·split at h
   ·split at h
    ·replace h:=qx h;cases h
    ·cases h
   ·cases h
  ·cases h
 ·exact o8 h
 ·unfold yb at h
  split at h <;> first|cases h|(replace h:=qx h;cases h)
 ·exact(rp h).elim
 ·unfold unD at h;split at h <;> cases h
 ·rcases qfx h with h|h
  ·exact .inl (qfw h)
  ·exact(fx h).elim
 ·rename_i f first caps
  cases h1:(first.isEmpty&&lu (caps.toList.map ev)) with
  |true=>rw[h1]at h;cases h
  |false=>rw[h1]at h;replace h:=qx h;cases h
 ·unfold qfj at h
  split at h
  ·replace h:=qx h;cases h
  ·cases h
 ·exact .inl (qfy h)
 ·unfold ah at h
  split at h
  ·split at h
   ·replace h:=qx h;split at h <;> cases h
   ·cases h
  ·split at h <;> cases h
  ·split at h <;> cases h
  ·cases h
 ·unfold xo at h
  split at h
  ·split at h <;> cases h
  ·cases h
 ·unfold zr at h
  split at h
  ·split at h
   ·replace h:=qx h;cases h
   ·cases h
  ·split at h
   ·replace h:=qx h;cases h
   ·cases h
  ·split at h <;> cases h
  ·split at h
   ·replace h:=qx h;split at h <;> cases h
   ·cases h
  ·cases h
 ·unfold ai at h;split at h <;> cases h
 ·split at h
  ·exact(zx h).elim
  ·cases h
 ·unfold pf at h
  split at h
  ·cases h
  ·replace h:=qx h;cases h
  ·cases h
 ·exact .inl (o9 h)
 ·exact(fy h).elim
 ·exact .inl (rq h)
 ·exact .inl (rq h)
 ·split at h
  ·split at h
   ·replace h:=qx h;cases h
   ·replace h:=qx h;cases h
   ·cases h
  ·exact .inl (o7 (qx h))
  ·split at h
   ·split at h
    ·replace h:=qx h;cases h
    ·cases h
   ·cases h
 ·cases h
end Go.Ab
namespace Go.Ab
section
variable {P:Program} {n:Nat} {cfg:Cfg} {ops:List Oper}
theorem R.noOwn{g:G}{d:D}{v:Value}(h:R g d v):(∀cs,d≠ .own cs)/\(∀j w e,d≠ .may j w e)/\∀s,qy d≠some s:=by
 cases d <;> first|(simp[R]at h;done)|exact⟨by simp,by simp,by simp[qy]⟩
theorem RS.ofRS0{g:G}{β:Nat->Nat}{y:Nat->Bool->Prop}{t:Nat}{d:D}{v:Value}(h:RS0 g β d v)(ho:ve d=true):RS g β y t d v:=by
 cases d <;> first|exact h|cases ho
theorem vm{d:D}(h:ve d=true):(∀cs,d≠ .own cs)/\∀j w e,d≠ .may j w e:=by
 cases d <;> first|exact Bool.noConfusion (show false=true from h)|exact⟨by simp,by simp⟩
theorem dt[Lay]{ρ:Option Nat}{Q:St->Prop}{i:Nat}{o:Oper}{g0 g:G}{β:Nat->Nat}{U:Nat->Prop}{st:St}{a:Act}{w0 w:World}(k:yv n ops)(r:Rel n g β U (yOf ops a) st a w)(hm:qeg i st)(hc:qfn ops i a)(ho:ops[i]? = some o)
  (hg:Grow U g0 g) (hk:Kept U w0 w) {v:Value} {d:D}
  (hsem:OpsSem P n ops (i+1) {st with sl:=j0 st.sl o.dst d} Q)
  (hv:∀t,RS g β (yOf ops (a.put o.dst v)) t d v) (hno:∀cs,d≠ .own cs) (hb:Live (yOf ops (a.put o.dst v)) d->∀s,qy d=some s->∃cs,qm st.sl s=some (.own cs))
  (hmay:∀j w0 e,d = .may j w0 e->j<i) (hw:∀q,o.guard=some q->yielded ops.toArray a.tmps q.1=some q.2\/v=undef) :
  wpOpsIn (fen ρ) 0 P ops.toArray (km n U g0 w0 Q) (List.range' (i+1) (ops.length-(i+1))) (a.put o.dst v) w:=by
 obtain⟨h1,h2,h3⟩:=qiy k r hm hc ho hv hno hb hmay hw
 exact hsem.at h1 h2 h3 hg hk
theorem dw[Lay]{call:qfk}(hcall:∀{f args h K},call f args h K->CallA P f args h K\/CallE P f args h K){Q Q0:St->Prop}{kc:Nat->St->Prop}(k:yv n ops)(hq0:∀st,Q0 st->Q st)(hkc:∀i st,kc i st->OpsSem P n ops i st Q) :
  ∀(rest:List Oper) (i:Nat) (st:St),ops.drop i=rest->vd P cfg call (CallY P) (PCall P) ops (fun _=>false) kc i rest st Q0->OpsSem P n ops i st Q
 | [],i,st,h,he=>by
  intro ρ g β U a w r hm hc
  have hl:ops.length-i=0:=by have:=congrArg List.length h;simpa using this
  rw[hl]
  simp only[vd]at he
  exact⟨rfl,g,β,_,r.purged noY,Grow.refl U g,Kept.refl U w,hq0 _ he⟩
 |o::rest,i,st,h,he=>by
  intro ρ g β U a w r hm hc
  have hlt:i<ops.length:=by
   rcases Nat.lt_or_ge i ops.length with h1|h1
   ·exact h1
   ·rw[List.drop_eq_nil_of_le h1]at h;cases h
  have hcons:=List.drop_eq_getElem_cons hlt
  rw[h]at hcons
  have ho:ops[i]? = some o:=by
   rw[List.getElem?_eq_getElem hlt]
   exact congrArg some (List.cons.inj hcons).1.symm
  have hrest:ops.drop (i+1)=rest:=(List.cons.inj hcons).2.symm
  have hr:List.range' i (ops.length-i)=i::List.range' (i+1) (ops.length-(i+1)):=by
   have:ops.length-i=(ops.length-(i+1))+1:=by omega
   rw[this,List.range'_succ]
  have ih:∀st1,vd P cfg call (CallY P) (PCall P) ops (fun _=>false) kc (i+1) rest st1 Q0->OpsSem P n ops (i+1) st1 Q:=fun st1=>dw hcall k hq0 hkc rest (i+1) st1 hrest
  have hget:ops.toArray[i]? = some o:=by simpa using ho
  have hdone:mu ops (· < i):=fun j o' j1 w1 hj ho' hg _=>by have:=k.back ho' hg;simp only at this;omega
  have hcD:un ops (· < i) a:=hc
  have hwho:∀(c:Operand) s j,c = .tmp s->kv ops s i=some j->j<i:=fun _ s j _ h=>(zc h).1
  show wpOpsIn (fen ρ) 0 P ops.toArray (km n U g w Q) (List.range' i (ops.length-i)) a w
  rw[hr]
  simp only[wpOpsIn,hget]
  simp only[vd]at he
  cases hgd:o.guard with
  |none =>
   rw[hgd]at he
   simp only at he
   have hwant:Region.wanted o (yielded ops.toArray a.tmps)=true:=by simp[Region.wanted,hgd]
   rw[if_pos hwant]
   have hw:∀{v:Value} (q:Nat×Bool),o.guard=some q->yielded ops.toArray a.tmps q.1=some q.2\/v=undef:=fun q hq=>by rw[hgd]at hq;cases hq
   have hev:=x0 r (cl:=[]) (by simp)
   have hres:=p8 (P:=P) (cfg:=cfg) (o:=o) r hev
   split at he
   ·rename_i c x z hop
    split at he
    ·rename_i d hp
     obtain⟨v,h1,h2⟩:=s4 (P:=P) r hcD hdone (cl:=[]) (by simp) (hwho c) hop hp
     obtain⟨n1,n2,n3⟩:=h2.noOwn
     exact zb (.inl h1) (dt k r hm hc ho (Grow.refl U g) (Kept.refl U w) (ih _ he) (fun t=>RS.ofRS0 (RS0.ofR h2) (jo h2.isD)) n1 (fun _ s hs=>absurd hs (n3 s)) (fun j w0 e hj=>absurd hj (n2 j w0 e)) hw)
    ·exact he.elim
   ·rename_i hnp
    have hval:∀{d:D},DOk st.sl d->VOk P g β a o w d->OpsSem P n ops (i+1) {st with sl:=j0 st.sl o.dst d} Q ->
      o.wpIn (fen ρ) 0 P a w (wpOpsIn (fen ρ) 0 P ops.toArray (km n U g w Q) (List.range' (i+1) (ops.length-(i+1)))) (km n U g w Q):=by
     intro d hd ⟨v,w',g',h1,h2,h3⟩ hs
     obtain⟨r1,hg,hk⟩:=Ext.at_ r h2
     obtain⟨n1,n2⟩:=vm hd.1
     exact zb h1 (dt k r1 hm hc ho hg hk hs (fun t=>RS.ofRS0 h3 hd.1) n1 (fun _ s hs=>hd.2 s hs) (fun j w0 e hj=>absurd hj (n2 j w0 e)) hw)
    cases hopd:opD P cfg st (evO st.sl []) o.dst o.op with
    |val d =>
     rw[hopd]at he hres
     exact hval hres.1 hres.2 (ih _ he)
    |nd p d =>
     rw[hopd]at he hres
     exact hval hres.1 (hres.2 he.1) (ih _ he.2)
    |asm p d =>
     rw[hopd]at he hres
     exact hval hres.2.1 hres.2.2 (ih _ (he hres.1))
    |new cs =>
     rw[hopd]at he hres
     obtain⟨hnd,T,vals,h1,h2⟩:=hres
     have hs:=ih _ he
     have hal:=Ext.alloc r.inv (.cells vals T (0,0))
     have hg:=hal.grow r.inv.ub
     have hk:=hal.kept r.inv.ub
     refine zb h1 ?_
     have hyield:∀j,j≠i->yielded ops.toArray (a.put o.dst (.pointer (some ⟨w.heap.size,0,none⟩))).tmps j=yielded ops.toArray a.tmps j:=by
      intro j hj
      cases hd:o.dst with
      |none=>rfl
      |some t=>exact yw (fun hh=>hj (fo k.apart hh (by simp[q9,ho,hd])))
     cases hd:o.dst with
     |none =>
      exact absurd hd hnd
     |some t =>
      have r1:=r.boxed (t:=t) (cs:=cs) (T:=T) (y':=yOf ops (a.put o.dst (.pointer (some ⟨w.heap.size,0,none⟩)))) (k.isIn i t (by simp[q9,ho,hd])) h2 (fun s j w0 e hs hl hy=>by
       have:=hm _ _ _ _ hl
       unfold yOf at hy⊢
       rw[<-hyield j (by omega)];exact hy)
      rw[hd]at r1 hs hyield
      refine hs.at r1 (fun s j w0 e hl=> ?_) (fun j o' j1 w1 hj ho' hg' hy=> ?_) hg hk
      ·rcases ze r.keys hl with ⟨_,h2⟩|⟨_,_,h3⟩
       ·cases h2
       ·have:=hm s j w0 e h3;omega
      ·have hb1:=k.back ho' hg'
       simp only at hb1
       by_cases hji:j=i
       ·subst hji
        rw[ho]at ho';cases ho'
        rw[hgd]at hg';cases hg'
       ·rw[hyield j hji]at hy
        rw[hyield j1 (by omega)]
        exact hc j o' j1 w1 (by omega) ho' hg' hy
    |eff p st' d =>
     have hsame:=s5 hopd
     rw[hopd]at he hres
     simp only[cond_false]at he
     obtain⟨v,w',g',h1,r1,hg,hk,h3,h4⟩:=hres he.1
     have h3':=R.ofRS0 h3 h4
     obtain⟨n1,n2,n3⟩:=h3'.noOwn
     exact zb h1 (dt k r1 (fun t j w0 e hl=>hm t j w0 e (hsame.may hl)) hc ho hg hk (ih _ he.2) (fun t=>RS.ofRS0 h3 (jo h4)) n1 (fun _ s hs=>absurd hs (n3 s)) (fun j w0 e hj=>absurd hj (n2 j w0 e)) hw)
    |call f args =>
     rw[hopd]at he hres
     simp only[cond_false]at he
     obtain⟨vs,h1,h2⟩:=hres
     rcases hcall he with he|he
     ·refine fw (h1.trans (vg he.ok _)) (he.at r h2) fun e w'' ⟨x,g',d,h',h3,h4,r1,hg,hk,h5⟩=>⟨x,h3,?_⟩
      obtain⟨n1,n2,n3⟩:=h4.noOwn
      exact dt k r1 (fun t j w0 e hl=>hm t j w0 e hl) hc ho hg hk (hkc _ _ h5) (fun t=>RS.ofRS0 (RS0.ofR h4) (jo h4.isD)) n1 (fun _ s hs=>absurd hs (n3 s)) (fun j w0 e hj=>absurd hj (n2 j w0 e)) hw
     ·obtain⟨x,w',g',d,h',h3,h4,r1,hg,hk,h5⟩:=he.at r h2
      obtain⟨n1,n2,n3⟩:=h4.noOwn
      exact zb (.inl (h1.trans h3)) (dt k r1 (fun t j w0 e hl=>hm t j w0 e hl) hc ho hg hk (hkc _ _ h5) (fun t=>RS.ofRS0 (RS0.ofR h4) (jo h4.isD)) n1 (fun _ s hs=>absurd hs (n3 s)) (fun j w0 e hj=>absurd hj (n2 j w0 e)) hw)
    |ycall l args =>
     rw[hopd]at he hres
     simp only[cond_false]at he
     obtain⟨b,vs,h0,h1,h2⟩:=hres
     obtain⟨f',tm,as,bd,h6,h7⟩:=he.at r h1 h0
     refine qc3 (h2 _ _ h6) (h7 ρ) fun e w'' ⟨x,g',d,h',h3,h4,r1,hg,hk,h5⟩=>⟨x,h3,?_⟩
     obtain⟨n1,n2,n3⟩:=h4.noOwn
     exact dt k r1 (fun t j w0 e hl=>hm t j w0 e hl) hc ho hg hk (hkc _ _ h5) (fun t=>RS.ofRS0 (RS0.ofR h4) (jo h4.isD)) n1 (fun _ s hs=>absurd hs (n3 s)) (fun j w0 e hj=>absurd hj (n2 j w0 e)) hw
    |bad=>rw[hopd]at he;exact he.elim
  |some q =>
   obtain⟨j,w1⟩:=q
   rw[hgd]at he
   simp only at he
   have hji:j<i:=k.back ho hgd
   cases hgb:gB st.sl ops i 40 (j,w1) with
   |none=>rw[hgb]at he;exact he.elim
   |some b =>
    rw[hgb]at he
    simp only at he
    have hiff:=fl r hcD hdone 40 (j,w1) b (fun _=>hji) hgb
    simp only at hiff
    have hyield:∀(v:Value),yielded ops.toArray (a.put o.dst v).tmps j=yielded ops.toArray a.tmps j:=by
     intro v
     cases hd:o.dst with
     |none=>rfl
     |some t=>exact yw (fun hh=>(by omega:j≠i) (fo k.apart hh (by simp[q9,ho,hd])))
    have hskip:∀{d:D},yielded ops.toArray a.tmps j≠some w1->(∀cs,d≠ .own cs)->(d = .may j w1 d\/d = .junk\/∃e,d = .may j w1 e)->OpsSem P n ops (i+1) {st with sl:=j0 st.sl o.dst d} Q ->
      wpOpsIn (fen ρ) 0 P ops.toArray (km n U g w Q) (List.range' (i+1) (ops.length-(i+1))) (a.put o.dst undef) w:=by
     intro d hny hno hform hs
     have hlive:∀e,d = .may j w1 e->¬ yOf ops (a.put o.dst undef) j w1:=by
      intro e _ hy
      unfold yOf at hy
      rw[hyield]at hy
      exact hny hy
     have hform':d = .junk\/∃e,d = .may j w1 e:=by
      rcases hform with h|h|h
      ·exact .inr ⟨d,h⟩
      ·exact .inl h
      ·exact .inr h
     refine dt k r hm hc ho (Grow.refl U g) (Kept.refl U w) hs (fun t=> ?_) hno (fun hl s hs=> ?_) (fun j' w0 e hj=> ?_) (fun q _=> .inr rfl)
     ·rcases hform' with rfl|⟨e,rfl⟩
      ·trivial
      ·exact fun hy=>absurd hy (hlive e rfl)
     ·rcases hform' with rfl|⟨e,rfl⟩
      ·cases hs
      ·exact absurd hl (hlive e rfl)
     ·rcases hform' with rfl|⟨e',rfl⟩
      ·cases hj
      ·cases hj;exact hji
    by_cases hy:yielded ops.toArray a.tmps j=some w1
    ·
     have hb:b=true:=hiff.1 hy
     subst hb
     have hwant:Region.wanted o (yielded ops.toArray a.tmps)=true:=by simp[Region.wanted,hgd,hy]
     rw[if_pos hwant]
     have hw:∀{v:Value} (q:Nat×Bool),o.guard=some q->yielded ops.toArray a.tmps q.1=some q.2\/v=undef:=fun q hq=>by rw[hgd]at hq;cases hq;exact .inl hy
     have hcl:∀p∈ks ops i 40 (j,w1),yOf ops a p.1 p.2:=xp hcD hdone 40 (j,w1) (fun _=>hji) hy
     have hev:=x0 r hcl
     have hres:=p8 (P:=P) (cfg:=cfg) (o:=o) r hev
     have hval:∀{d:D},DOk st.sl d->VOk P g β a o w d->OpsSem P n ops (i+1) {st with sl:=j0 st.sl o.dst (.may j w1 d)} Q ->
       o.wpIn (fen ρ) 0 P a w (wpOpsIn (fen ρ) 0 P ops.toArray (km n U g w Q) (List.range' (i+1) (ops.length-(i+1)))) (km n U g w Q):=by
      intro d hd ⟨v,w',g',h1,h2,h3⟩ hs
      obtain⟨r1,hg,hk⟩:=Ext.at_ r h2
      refine zb h1 (dt k r1 hm hc ho hg hk hs (fun t=>fun _=>h3) (by simp) (fun _ s hs=> ?_) (fun j' w0 e hj=>by cases hj;exact hji) hw)
      have:qy d=some s:=by cases d <;> first|exact hs|cases hs
      exact hd.2 s this
     split at he
     ·rename_i c x z hop
      split at he
      ·rename_i d hp
       obtain⟨v,h1,h2⟩:=s4 (P:=P) r hcD hdone hcl (hwho c) hop hp
       exact hval (DOk.ofD h2.isD) (VOk.plain r.inv h1 (RS0.ofR h2)) (ih _ he)
      ·exact he.elim
     ·rename_i hnp
      cases hopd:opD P cfg st (evO st.sl (ks ops i 40 (j,w1))) o.dst o.op with
      |val d =>
       rw[hopd]at he hres
       simp only at he
       cases hm':ve d with
       |false=>rw[hm']at he;exact he.elim
       |true=>rw[hm']at he;exact hval hres.1 hres.2 (ih _ he)
      |nd p d =>
       rw[hopd]at he hres
       simp only at he
       cases hm':ve d with
       |false=>rw[hm']at he;exact he.elim
       |true=>rw[hm']at he;exact hval hres.1 (hres.2 (he.1 (by trivial))) (ih _ he.2)
      |asm p d =>
       rw[hopd]at he hres
       simp only at he
       cases hm':ve d with
       |false=>rw[hm']at he;exact he.elim
       |true=>rw[hm']at he;exact hval hres.2.1 hres.2.2 (ih _ (he fun _=>hres.1))
      |new cs=>rw[hopd]at he;exact he.elim
      |eff p st' d =>
       have hsame:=s5 hopd
       rw[hopd]at he hres
       simp only[cond_false,cond_true]at he
       obtain⟨v,w',g',h1,r1,hg,hk,h3,h4⟩:=hres he.1
       have h3':=R.ofRS0 h3 h4
       obtain⟨n1,n2,n3⟩:=h3'.noOwn
       exact zb h1 (dt k r1 (fun t j w0 e hl=>hm t j w0 e (hsame.may hl)) hc ho hg hk (ih _ he.2) (fun t=>RS.ofRS0 h3 (jo h4)) n1 (fun _ s hs=>absurd hs (n3 s)) (fun j w0 e hj=>absurd hj (n2 j w0 e)) hw)
      |call f args =>
       rw[hopd]at he hres
       simp only at he
       rcases he with he|he
       ·obtain⟨args',d,_,hp,hk'⟩:=he.it
        obtain⟨hwk,hp⟩:=hp rfl
        obtain⟨vs,h1,h2⟩:=hres
        refine fw (h1.trans (vg hp.ok _)) (hp.at r (hwk _ _ h2)) fun e w'' ⟨x,g',h3,h4,h5⟩=>⟨x,h3,?_⟩
        obtain⟨r1,hg,hk⟩:=Ext.at_ r h5
        obtain⟨n1,n2,n3⟩:=h4.noOwn
        exact dt k r1 hm hc ho hg hk (hkc _ _ hk') (fun t _=>RS0.ofR h4) (by simp) (fun _ s hs=>absurd (show qy d=some s by cases d <;> first|exact hs|cases hs) (n3 s)) (fun j' w0 e hj=>by cases hj;exact hji) hw
       ·simp only[cond_false,cond_true]at he
        obtain⟨vs,h1,h2⟩:=hres
        rcases hcall he with he|he
        ·refine fw (h1.trans (vg he.ok _)) (he.at r h2) fun e w'' ⟨x,g',d,h',h3,h4,r1,hg,hk,h5⟩=>⟨x,h3,?_⟩
         obtain⟨n1,n2,n3⟩:=h4.noOwn
         exact dt k r1 (fun t j w0 e hl=>hm t j w0 e hl) hc ho hg hk (hkc _ _ h5) (fun t _=>RS0.ofR h4) (by simp) (fun _ s hs=>absurd (show qy d=some s by cases d <;> first|exact hs|cases hs) (n3 s)) (fun j' w0 e hj=>by cases hj;exact hji) hw
        ·obtain⟨x,w',g',d,h',h3,h4,r1,hg,hk,h5⟩:=he.at r h2
         obtain⟨n1,n2,n3⟩:=h4.noOwn
         exact zb (.inl (h1.trans h3)) (dt k r1 (fun t j w0 e hl=>hm t j w0 e hl) hc ho hg hk (hkc _ _ h5) (fun t _=>RS0.ofR h4) (by simp) (fun _ s hs=>absurd (show qy d=some s by cases d <;> first|exact hs|cases hs) (n3 s)) (fun j' w0 e hj=>by cases hj;exact hji) hw)
      |ycall l args =>
       rw[hopd]at he hres
       simp only[cond_false,cond_true]at he
       obtain⟨b,vs,h0,h1,h2⟩:=hres
       obtain⟨f',tm,as,bd,h6,h7⟩:=he.at r h1 h0
       refine qc3 (h2 _ _ h6) (h7 ρ) fun e w'' ⟨x,g',d,h',h3,h4,r1,hg,hk,h5⟩=>⟨x,h3,?_⟩
       obtain⟨n1,n2,n3⟩:=h4.noOwn
       exact dt k r1 (fun t j w0 e hl=>hm t j w0 e hl) hc ho hg hk (hkc _ _ h5) (fun t _=>RS0.ofR h4) (by simp) (fun _ s hs=>absurd (show qy d=some s by cases d <;> first|exact hs|cases hs) (n3 s)) (fun j' w0 e hj=>by cases hj;exact hji) hw
      |bad=>rw[hopd]at he;exact he.elim
    ·have hb:b=false:=by
      cases b with
      |false=>rfl
      |true=>exact absurd (hiff.2 rfl) hy
     subst hb
     have hwant:¬ (Region.wanted o (yielded ops.toArray a.tmps)=true):=by simp[Region.wanted,hgd,hy]
     rw[if_neg hwant]
     refine⟨fun _ _=>trivial,?_⟩
     have hmay:∀{d:D},OpsSem P n ops (i+1) {st with sl:=j0 st.sl o.dst (.may j w1 d)} Q ->
       wpOpsIn (fen ρ) 0 P ops.toArray (km n U g w Q) (List.range' (i+1) (ops.length-(i+1))) (a.put o.dst undef) w:=fun{d} hs=>hskip hy (by simp) (.inr (.inr ⟨d,rfl⟩)) hs
     split at he
     ·split at he
      ·exact hmay (ih _ he)
      ·exact he.elim
     ·cases hopd:opD P cfg st (evO st.sl (ks ops i 40 (j,w1))) o.dst o.op with
      |val d =>
       rw[hopd]at he
       simp only at he
       cases hm':ve d with
       |false=>rw[hm']at he;exact he.elim
       |true=>rw[hm']at he;exact hmay (ih _ he)
      |nd p d =>
       rw[hopd]at he
       simp only at he
       cases hm':ve d with
       |false=>rw[hm']at he;exact he.elim
       |true=>rw[hm']at he;exact hmay (ih _ he.2)
      |asm p d =>
       rw[hopd]at he
       simp only at he
       cases hm':ve d with
       |false=>rw[hm']at he;exact he.elim
       |true=>rw[hm']at he;exact hmay (ih _ (he fun h=>by cases h))
      |new cs=>rw[hopd]at he;exact he.elim
      |eff p st' d =>
       rw[hopd]at he
       simp only[cond_false]at he
       exact hskip hy (by simp) (.inr (.inl rfl)) (ih _ he)
      |call f args =>
       rw[hopd]at he
       simp only at he
       rcases he with he|he
       ·obtain⟨args',d,_,hp,hk'⟩:=he.it
        exact hmay (hkc _ _ hk')
       ·simp only[cond_false]at he
        obtain⟨d,hd⟩:=he
        exact hmay (hkc _ _ hd)
      |ycall l args =>
       rw[hopd]at he
       simp only[cond_false]at he
       obtain⟨d,hd⟩:=he
       exact hmay (hkc _ _ hd)
      |bad=>rw[hopd]at he;exact he.elim
theorem rt[Lay]{Q Q0:St->Prop}{kc:Nat->St->Prop}(k:yv n ops)(hq0:∀st,Q0 st->Q st)(hkc:∀i st,kc i st->OpsSem P n ops i st Q) :
  ∀(rest:List Oper) (i:Nat) (st:St),ops.drop i=rest->vd P cfg (CallA P) (CallY P) (PCall P) ops (fun _=>false) kc i rest st Q0->OpsSem P n ops i st Q:=dw (fun h=> .inl h) k hq0 hkc
end
end Go.Ab
namespace Go.Ab
inductive qh6[Lay](P:Program)(cfg:Cfg)(st:St)(ev:Operand->D)(o:Oper)(b:Bool):D->Prop
 |val {d:D} (h:opD P cfg st ev o.dst o.op = .val d):qh6 P cfg st ev o b d
 |nd {p:Prop} {d:D} (h:opD P cfg st ev o.dst o.op = .nd p d) (hp:b=true->p):qh6 P cfg st ev o b d
 |asm {p:Prop} {d:D} (h:opD P cfg st ev o.dst o.op = .asm p d):qh6 P cfg st ev o b d
 |new {cs:List D} (h:opD P cfg st ev o.dst o.op = .new cs):qh6 P cfg st ev o b (.own cs)
 |call {f:Nat} {args args':List D} {v:D} (h:opD P cfg st ev o.dst o.op = .call f args) (hp:b=true->Wks args args'/\Pure P f args' v) (hv:isD v=true):qh6 P cfg st ev o b v
inductive StepFact[Lay](P:Program)(cfg:Cfg)(H:Nat)(ops:List Oper)(i:Nat)(o:Oper)(st:St):St->FP->Prop
 |pick0 {c x z:Operand} {d:D} (hg:o.guard=none) (ho:o.op = .pick c x z) (h:gf st.sl [] ops i c x z=some d) :
  StepFact P cfg H ops i o st {st with sl:=j0 st.sl o.dst d} (uc H ops o (evO st.sl []) [] false (qy d))
 |val0 {d:D} (hg:o.guard=none) (hf:qh6 P cfg st (evO st.sl []) o true d) :
  StepFact P cfg H ops i o st {st with sl:=j0 st.sl o.dst d} (uc H ops o (evO st.sl []) [] false (qy d))
 |eff0 {p:Prop} {st1:St} {d:D} (hg:o.guard=none) (h:opD P cfg st (evO st.sl []) o.dst o.op = .eff p st1 d) (hp:p) :
  StepFact P cfg H ops i o st {st1 with sl:=j0 st1.sl o.dst d} (uc H ops o (evO st.sl []) [] true (qy d))
 |callE0 {f:Nat} {args:List D} {v:D} {h':Heap} (hg:o.guard=none) (h:opD P cfg st (evO st.sl []) o.dst o.op = .call f args) (hv:isD v=true) (hp:Does P f args st.h v h') :
  StepFact P cfg H ops i o st {sl:=j0 st.sl o.dst v,h:=h' } (uc H ops o (evO st.sl []) [] true (qy v))
 |pick1 {j:Nat} {w:Bool} {b:Bool} {c x z:Operand} {d:D} (hg:o.guard=some (j,w)) (hb:gB st.sl ops i 40 (j,w)=some b) (ho:o.op = .pick c x z) (h:gf st.sl (ks ops i 40 (j,w)) ops i c x z=some d) :
  StepFact P cfg H ops i o st {st with sl:=j0 st.sl o.dst (.may j w d)} (uc H ops o (evO st.sl (ks ops i 40 (j,w))) (ks ops i 40 (j,w)) false (qy (.may j w d)))
 |val1 {j:Nat} {w:Bool} {b:Bool} {d:D} (hg:o.guard=some (j,w)) (hb:gB st.sl ops i 40 (j,w)=some b) (hf:qh6 P cfg st (evO st.sl (ks ops i 40 (j,w))) o b d) (hm:ve d=true) :
  StepFact P cfg H ops i o st {st with sl:=j0 st.sl o.dst (.may j w d)} (uc H ops o (evO st.sl (ks ops i 40 (j,w))) (ks ops i 40 (j,w)) false (qy (.may j w d)))
def qh7(ops:List Oper)(D:Nat->Prop)(st:St):Prop:=∀t j w d,qm st.sl t=some (.may j w d)->q9 ops j≠none->D j
section
variable {P:Program} {n:Nat} {cfg:Cfg} {ops:List Oper} {i:Nat} {o:Oper} {g:G} {β:Nat->Nat} {U:Nat->Prop} {st:St} {a:Act} {w:World} {D:Nat->Prop} {ρ:Option Nat}
theorem gk(k:yv n ops)(ho:ops[i]? = some o)(v:Value){j:Nat}(hj:q9 ops j≠none->j≠i):yielded ops.toArray (a.put o.dst v).tmps j=yielded ops.toArray a.tmps j:=by
 cases hd:o.dst with
 |none=>rfl
 |some t =>
  refine yw fun hh=> ?_
  have:=hj (by rw[hh];simp)
  exact this (fo k.apart hh (by simp[q9,ho,hd]))
theorem uo[Lay](k:yv n ops)(r:Rel n g β U (yOf ops a) st a w)(hc:un ops D a)(hd:mu ops D)(ho:ops[i]? = some o)(hi:¬ D i){v:Value}
  (_hgd:∀q,o.guard=some q->q9 ops q.1≠none->D q.1) (hw:∀q,o.guard=some q->yielded ops.toArray a.tmps q.1=some q.2\/v=undef):un ops (fun j=>D j\/j=i) (a.put o.dst v):=by
 intro j o' j1 w1 hj ho' hg hy
 have hne:∀{j1 w1},D j->ops[j]? = some o'->o'.guard=some (j1,w1)->q9 ops j1≠none->j1≠i:=fun h1 h2 h3 h4 e=>by
  subst e;exact hi (hd j o' _ _ h1 h2 h3 h4)
 by_cases hji:j=i
 ·subst hji
  rw[ho]at ho';cases ho'
  have hb1:=k.back ho hg
  simp only at hb1
  rw[gk k ho v (fun _=>by omega)]
  rcases hw _ hg with h|h
  ·exact h
  ·subst h
   refine absurd (fu fun t ht=> ?_) hy
   have hd:o.dst=some t:=by simpa[q9,ho] using ht
   rw[hd,xk (by rw[r.size];exact k.isIn j t ht)]
 ·have hDj:D j:=hj.resolve_right hji
  rw[gk k ho v (fun _=>hji)]at hy
  rw[gk k ho v (hne hDj ho' hg)]
  exact hc j o' j1 w1 hDj ho' hg hy
theorem qaa{d:Ab.D}(r:(st.sl.map (·.1)).Nodup)(hm:qh7 ops D st)(hmay:∀j w0 e,d = .may j w0 e->q9 ops j≠none->D j):qh7 ops (fun j=>D j\/j=i) {st with sl:=j0 st.sl o.dst d}:=by
 intro t j w0 e hl hj
 cases hd:o.dst with
 |none=>rw[hd]at hl;exact .inl (hm t j w0 e hl hj)
 |some t' =>
  rw[hd]at hl
  rcases ze r hl with ⟨_,h2⟩|⟨_,_,h3⟩
  ·cases hp:xb d t' with
   |true=>rw[hp]at h2;cases h2
   |false=>rw[hp]at h2;exact .inl (hmay j w0 e h2.symm hj)
  ·exact .inl (hm t j w0 e h3 hj)
theorem qab[Lay](k:yv n ops)(r:Rel n g β U (yOf ops a) st a w)(hm:qh7 ops D st)(ho:ops[i]? = some o)(hi:¬ D i){v:Value}{d:Ab.D}
  (hv:∀t,RS g β (yOf ops (a.put o.dst v)) t d v) (hno:∀cs,d≠ .own cs) (hb:Live (yOf ops (a.put o.dst v)) d->∀s,qy d=some s->∃cs,qm st.sl s=some (.own cs)) :
  Rel n g β U (yOf ops (a.put o.dst v)) {st with sl:=j0 st.sl o.dst d} (a.put o.dst v) w:=by
 cases hd:o.dst with
 |none =>
  have h1:a.put none v=a:=rfl
  simp only[h1,j0]
  exact r
 |some t =>
  simp only[j0]
  have hyd:=fun j hj=>gk (a:=a) k ho v (j:=j) hj
  rw[hd]at hv hb hyd
  refine r.put (y':=yOf ops (a.put (some t) v)) (k.isIn i t (by simp[q9,ho,hd])) ?_ (fun cs=> ?_) (fun hl s hs=> ?_) (fun s j w0 e hs hl hy=> ?_)
  ·cases xb d t
   ·exact hv t
   ·trivial
  ·cases xb d t
   ·exact hno cs
   ·simp
  ·cases hp:xb d t with
   |true=>rw[hp]at hs;cases hs
   |false =>
    rw[hp]at hs hl
    simp only[cond_false]at hs hl
    refine⟨fun e=> ?_,hb hl s hs⟩
    subst e
    rw[yc hs]at hp;cases hp
  ·have h2:=hyd j (fun hdj e=>by subst e;exact hi (hm _ _ _ _ hl hdj))
   unfold yOf at hy⊢
   rw[<-h2];exact hy
theorem qj6[Lay](k:yv n ops)(r:Rel n g β U (yOf ops a) st a w)(hm:qh7 ops D st)(ho:ops[i]? = some o)(hi:¬ D i){cl:List (Nat×Bool)}(hcl:∀p∈cl,yOf ops a p.1 p.2){d:Ab.D}(hf:qh6 P cfg st (evO st.sl cl) o true d)
  {mk:Ab.D->Ab.D} (hmk:mk=(fun d=>d)\/((∀cs,d≠ .own cs)/\∃j w0,mk=fun d=> .may j w0 d)) {K:Act->World->Prop} {Q:Exit->Act->World->Prop}
  (hK:∀g' β' v w',Rel n g' β' U (yOf ops (a.put o.dst v)) {st with sl:=j0 st.sl o.dst (mk d)} (a.put o.dst v) w'->Grow U g g'->Kept U w w'->K (a.put o.dst v) w'):o.wpIn (fen ρ) 0 P a w K Q:=by
 have hev:=x0 r hcl
 have hres:=p8 (P:=P) (cfg:=cfg) (o:=o) r hev
 have hval:∀{d:Ab.D},(mk=(fun d=>d)\/((∀cs,d≠ .own cs)/\∃j w0,mk=fun d=> .may j w0 d))->DOk st.sl d->∀{g':G} {w':World} {v:Value},Ext g w g' w'->RS0 g' β d v ->
   Rel n g' β U (yOf ops (a.put o.dst v)) {st with sl:=j0 st.sl o.dst (mk d)} (a.put o.dst v) w'/\Grow U g g'/\Kept U w w':=by
  intro d hmk hd g' w' v h2 h3
  obtain⟨r1,hg,hk⟩:=Ext.at_ r h2
  obtain⟨n1,n2⟩:=vm hd.1
  refine⟨?_,hg,hk⟩
  rcases hmk with rfl|⟨_,j,w0,rfl⟩
  ·exact qab k r1 hm ho hi (fun t=>RS.ofRS0 h3 hd.1) n1 (fun _ s hs=>hd.2 s hs)
  ·refine qab k r1 hm ho hi (fun t _=>h3) (by simp) (fun _ s hs=>hd.2 s ?_)
   cases d <;> first|exact hs|cases hs
 cases hf with
 |val h =>
  rw[h]at hres
  obtain⟨v,w',g',h1,h2,h3⟩:=hres.2
  obtain⟨e1,e2,e3⟩:=hval hmk hres.1 h2 h3
  exact zb h1 (hK _ _ _ _ e1 e2 e3)
 |nd h hp =>
  rw[h]at hres
  obtain⟨v,w',g',h1,h2,h3⟩:=hres.2 (hp rfl)
  obtain⟨e1,e2,e3⟩:=hval hmk hres.1 h2 h3
  exact zb h1 (hK _ _ _ _ e1 e2 e3)
 |asm h =>
  rw[h]at hres
  obtain⟨v,w',g',h1,h2,h3⟩:=hres.2.2
  obtain⟨e1,e2,e3⟩:=hval hmk hres.2.1 h2 h3
  exact zb h1 (hK _ _ _ _ e1 e2 e3)
 |new h =>
  rename_i cs
  rw[h]at hres
  obtain⟨hnd,T,vals,h1,h2⟩:=hres
  have hmk':mk=fun d=>d:=by
   rcases hmk with h|⟨h,_⟩
   ·exact h
   ·exact absurd rfl (h cs)
  subst hmk'
  have hal:=Ext.alloc r.inv (.cells vals T (0,0))
  refine zb h1 ?_
  cases hd:o.dst with
  |none=>exact absurd hd hnd
  |some t =>
   have hyd:=fun j hj=>gk (a:=a) k ho (.pointer (some ⟨w.heap.size,0,none⟩)) (j:=j) hj
   rw[hd]at hK hyd
   exact hK _ _ _ _ (r.boxed (t:=t) (cs:=cs) (T:=T) (k.isIn i t (by simp[q9,ho,hd])) h2 (fun s j w0 e hs hl hy=>by
    have h2:=hyd j (fun hdj e=>by subst e;exact hi (hm _ _ _ _ hl hdj))
    unfold yOf at hy⊢
    rw[<-h2];exact hy)) (hal.grow r.inv.ub) (hal.kept r.inv.ub)
 |call h hp hv =>
  rename_i f args args'
  rw[h]at hres
  obtain⟨hwk,hp⟩:=hp rfl
  obtain⟨vs,h1,h2⟩:=hres
  refine fw (h1.trans (vg hp.ok _)) (hp.at r (hwk _ _ h2)) fun e w'' ⟨x,g',h3,h4,h5⟩=>⟨x,h3,?_⟩
  obtain⟨e1,e2,e3⟩:=hval hmk (DOk.ofD hv) h5 (RS0.ofR h4)
  exact hK _ _ _ _ e1 e2 e3
theorem qj7[Lay](k:yv n ops)(r:Rel n g β U (yOf ops a) st a w)(hm:qh7 ops D st)(hc:un ops D a)(hd:mu ops D)(ho:ops[i]? = some o)(hi:¬ D i)(hgd:∀q,o.guard=some q->q9 ops q.1≠none->D q.1)
  (hwho:∀c x z s j,o.op = .pick c x z->c = .tmp s->kv ops s i=some j->D j) {H:Nat} {st':St} {fp:FP} (hf:StepFact P cfg H ops i o st st' fp) {K:Act->World->Prop} {Q:Exit->Act->World->Prop}
  (hK:∀g' β' v w',Rel n g' β' U (yOf ops (a.put o.dst v)) st' (a.put o.dst v) w'->qh7 ops (fun j=>D j\/j=i) st'->un ops (fun j=>D j\/j=i) (a.put o.dst v)->Grow U g g'->Kept U w w'->K (a.put o.dst v) w') :
  wpOpIn (fen ρ) 0 P ops.toArray Q i K a w:=by
 have hget:ops.toArray[i]? = some o:=by simpa using ho
 unfold wpOpIn
 simp only[hget]
 have hwant:o.guard=none->Region.wanted o (yielded ops.toArray a.tmps)=true:=fun h=>by simp[Region.wanted,h]
 have hw0:o.guard=none->∀{v:Value} (q:Nat×Bool),o.guard=some q->yielded ops.toArray a.tmps q.1=some q.2\/v=undef:=fun h v q hq=>by rw[h]at hq;cases hq
 have hmayNo:∀{d:Ab.D},(∀j w0 e,d≠ .may j w0 e)->∀j w0 e,d = .may j w0 e->q9 ops j≠none->D j:=fun h j w0 e hd=>absurd hd (h j w0 e)
 cases hf with
 |pick0 hg hop h =>
  rename_i c x z d
  rw[if_pos (hwant hg)]
  obtain⟨v,h1,h2⟩:=s4 (P:=P) r hc hd (cl:=[]) (by simp) (hwho c x z · · hop) hop h
  obtain⟨n1,n2,n3⟩:=h2.noOwn
  exact zb (.inl h1) (hK _ _ _ _ (qab k r hm ho hi (fun t=>RS.ofRS0 (RS0.ofR h2) (jo h2.isD)) n1 (fun _ s hs=>absurd hs (n3 s))) (qaa r.keys hm (hmayNo n2)) (uo k r hc hd ho hi hgd (hw0 hg)) (Grow.refl U g) (Kept.refl U w))
 |val0 hg hf =>
  rename_i d
  rw[if_pos (hwant hg)]
  have hnm:∀j w0 e,d≠ .may j w0 e:=by
   cases hf with
   |val h=>have hres:=p8 (P:=P) (cfg:=cfg) (o:=o) r (x0 r (cl:=[]) (by simp));rw[h]at hres;exact(vm hres.1.1).2
   |nd h hp=>have hres:=p8 (P:=P) (cfg:=cfg) (o:=o) r (x0 r (cl:=[]) (by simp));rw[h]at hres;exact(vm hres.1.1).2
   |asm h=>have hres:=p8 (P:=P) (cfg:=cfg) (o:=o) r (x0 r (cl:=[]) (by simp));rw[h]at hres;exact(vm hres.2.1.1).2
   |new h=>simp
   |call h hp hv=>exact(vm (jo hv)).2
  exact qj6 k r hm ho hi (cl:=[]) (by simp) hf (mk:=fun d=>d) (.inl rfl) fun g' β' v w' h1 h2 h3=>hK g' β' v w' h1 (qaa r.keys hm (hmayNo hnm)) (uo k r hc hd ho hi hgd (hw0 hg)) h2 h3
 |eff0 hg h hp =>
  rename_i p st1 d
  rw[if_pos (hwant hg)]
  have hsame:=s5 h
  have hres:=p8 (P:=P) (cfg:=cfg) (o:=o) r (x0 r (cl:=[]) (by simp))
  rw[h]at hres
  obtain⟨v,w',g',h1,r1,hgr,hkp,h3,h4⟩:=hres hp
  obtain⟨n1,n2,n3⟩:=(R.ofRS0 h3 h4).noOwn
  have hm1:qh7 ops D st1:=fun t j w0 e hl hj=>hm t j w0 e (hsame.may hl) hj
  exact zb h1 (hK _ _ _ _ (qab k r1 hm1 ho hi (fun t=>RS.ofRS0 h3 (jo h4)) n1 (fun _ s hs=>absurd hs (n3 s))) (qaa r1.keys hm1 (hmayNo n2)) (uo k r hc hd ho hi hgd (hw0 hg)) hgr hkp)
 |callE0 hg h hv hp =>
  rename_i f args v h'
  rw[if_pos (hwant hg)]
  have hres:=p8 (P:=P) (cfg:=cfg) (o:=o) r (x0 r (cl:=[]) (by simp))
  rw[h]at hres
  have c:=hp (fun d h=>d=v/\h=h') ⟨rfl,rfl⟩
  obtain⟨vs,h1,h2⟩:=hres
  refine fw (h1.trans (vg c.ok _)) (c.at r h2) fun e w'' ⟨x,g',d,h'',h3,h4,r1,hgr,hkp,h5⟩=>⟨x,h3,?_⟩
  obtain⟨rfl,rfl⟩:=h5
  obtain⟨n1,n2,n3⟩:=h4.noOwn
  exact hK _ _ _ _ (qab k r1 hm ho hi (fun t=>RS.ofRS0 (RS0.ofR h4) (jo h4.isD)) n1 (fun _ s hs=>absurd hs (n3 s))) (qaa r1.keys hm (hmayNo n2)) (uo k r hc hd ho hi hgd (hw0 hg)) hgr hkp
 |pick1 hg hb hop h =>
  rename_i j w1 b c x z d
  have hiff:=fl r hc hd 40 (j,w1) b (hgd _ hg) hb
  simp only at hiff
  by_cases hy:yielded ops.toArray a.tmps j=some w1
  ·rw[if_pos (by simp[Region.wanted,hg,hy])]
   obtain⟨v,h1,h2⟩:=s4 (P:=P) r hc hd (xp hc hd 40 (j,w1) (hgd _ hg) hy) (hwho c x z · · hop) hop h
   obtain⟨n1,n2,n3⟩:=h2.noOwn
   exact zb (.inl h1) (hK _ _ _ _ (qab k r hm ho hi (fun t _=>RS0.ofR h2) (by simp) (fun _ s hs=>absurd (show qy d=some s by cases d <;> first|exact hs|cases hs) (n3 s)))
    (qaa r.keys hm (fun j' w0 e he hj=>by cases he;exact hgd _ hg hj)) (uo k r hc hd ho hi hgd (fun q hq=>by rw[hg]at hq;cases hq;exact .inl hy)) (Grow.refl U g) (Kept.refl U w))
  ·rw[if_neg (by simp[Region.wanted,hg,hy])]
   have hny:¬ yOf ops (a.put o.dst undef) j w1:=by
    have:=k.back ho hg
    simp only at this
    unfold yOf
    rw[gk k ho undef (fun _=>by omega)];exact hy
   exact⟨fun _ _=>trivial,hK _ _ _ _ (qab k r hm ho hi (fun t h=>absurd h hny) (by simp) (fun hl=>absurd hl hny)) (qaa r.keys hm (fun j' w0 e he hj=>by cases he;exact hgd _ hg hj)) (uo k r hc hd ho hi hgd (fun q hq=> .inr rfl)) (Grow.refl U g) (Kept.refl U w)⟩
 |val1 hg hb hf hmd =>
  rename_i j w1 b d
  have hiff:=fl r hc hd 40 (j,w1) b (hgd _ hg) hb
  simp only at hiff
  by_cases hy:yielded ops.toArray a.tmps j=some w1
  ·rw[if_pos (by simp[Region.wanted,hg,hy])]
   have hbt:b=true:=hiff.1 hy
   subst hbt
   exact qj6 k r hm ho hi (xp hc hd 40 (j,w1) (hgd _ hg) hy) hf (mk:=fun d=> .may j w1 d) (.inr ⟨(vm hmd).1,j,w1,rfl⟩) fun g' β' v w' h1 h2 h3 =>
    hK g' β' v w' h1 (qaa r.keys hm (fun j' w0 e he hj=>by cases he;exact hgd _ hg hj)) (uo k r hc hd ho hi hgd (fun q hq=>by rw[hg]at hq;cases hq;exact .inl hy)) h2 h3
  ·rw[if_neg (by simp[Region.wanted,hg,hy])]
   have hny:¬ yOf ops (a.put o.dst undef) j w1:=by
    have:=k.back ho hg
    simp only at this
    unfold yOf
    rw[gk k ho undef (fun _=>by omega)];exact hy
   exact⟨fun _ _=>trivial,hK _ _ _ _ (qab k r hm ho hi (fun t h=>absurd h hny) (by simp) (fun hl=>absurd hl hny)) (qaa r.keys hm (fun j' w0 e he hj=>by cases he;exact hgd _ hg hj)) (uo k r hc hd ho hi hgd (fun q hq=> .inr rfl)) (Grow.refl U g) (Kept.refl U w)⟩
end
end Go.Ab
namespace Go.Ab
def ResSame(st st':St)(own:Option Nat):Res->Res->Prop
 | .eff p st1 d,r'=>(∀s,own=some s->∃cs,st1={st with sl:=setOwn st.sl s cs}/\r' = .eff p {st' with sl:=setOwn st'.sl s cs} d) /\
   (own=none->st.h=st'.h->∃h1,st1={st with h:=h1}/\r' = .eff p {st' with h:=h1} d)
 | .bad,_=>True
 |r,r'=>r'=r
theorem ResSame.refl{st st':St}{own:Option Nat}{r:Res}(h:∀p st1 d,r≠ .eff p st1 d):ResSame st st' own r r:=by
 cases r <;> first|rfl|trivial|exact absurd rfl (h _ _ _)
theorem ResSame.cond{st st':St}{own:Option Nat}{c:Bool}{r r':Res}(h:ResSame st st' own r r'):ResSame st st' own (bif c then r else .bad) (bif c then r' else .bad):=by
 cases c
 ·trivial
 ·exact h
theorem ResSame.heap{st st':St}{p:Prop}{h1 h1':Heap}{d d':D}(h:st.h=st'.h->h1'=h1/\d'=d):ResSame st st' none (.eff p {st with h:=h1} d) (.eff p {st' with h:=h1' } d') :=
 ⟨fun s hs=>(by cases hs),fun _ hh=>⟨h1,rfl,(by obtain⟨e1,e2⟩:=h hh;rw[e1,e2])⟩⟩
theorem yx{st st':St}{own:Option Nat}{x:Option D}:ResSame st st' own (ua x) (ua x):= .refl fun _ _ _ h=>zx h
section
variable {P:Program} {cfg:Cfg} {st st':St} {ev ev':Operand->D} {dst:Option Nat}
theorem ru{tag:Option Nat}{cs:List D}:ResSame st st' none (uh cfg st dst tag cs) (uh cfg st' dst tag cs):=by
 unfold uh
 cases dst with
 |none=>trivial
 |some t =>
  simp only
  cases cfg.esc t with
  |false=>rfl
  |true =>
   refine⟨fun s hs=>(by cases hs),fun _ hh=> ?_⟩
   exact⟨{st.h with box:=upd st.h.box st.h.nl (some (qfh tag cs)),nl:=st.h.nl+1},rfl,by rw[hh];rfl⟩
theorem ResSame.ne(hh:st.h≠st'.h){p:Prop}{st1:St}{d:D}{r':Res}:ResSame st st' none (.eff p st1 d) r':=⟨fun s hs=>(by cases hs),fun _ h=>absurd h hh⟩
theorem qac{bx vx:Bool}{t:Nat}{x z:D}:ResSame st st' none (qj2 P st bx vx t x z) (qj2 P st' bx vx t x z):=by
 unfold qj2
 split
 ·split
  ·refine .cond ?_
   split
   ·refine .cond ?_
    split
    ·first|rfl|trivial
    ·first|rfl|trivial
    ·cases vx with
     |true=>exact⟨fun s hs=>(by cases hs),fun _ hh=>⟨_,rfl,by rw[hh];rfl⟩⟩
     |false =>
      cases bx with
      |true=>exact⟨fun s hs=>(by cases hs),fun _ hh=>⟨_,rfl,by rw[hh];rfl⟩⟩
      |false=>exact⟨fun s hs=>(by cases hs),fun _ hh=>⟨_,rfl,by rw[hh];rfl⟩⟩
    ·by_cases hh:st.h=st'.h
     ·rw[<-hh]
      split
      ·trivial
      ·refine .cond ?_
       exact⟨fun s hs=>(by cases hs),fun _ _=>⟨_,rfl,by rw[hh]⟩⟩
     ·split
      ·trivial
      ·generalize (Nat.beq _ _)=c
       cases c
       ·trivial
       ·exact .ne hh
   ·refine .cond ?_
    by_cases hh:st.h=st'.h
    ·rw[<-hh]
     split
     ·exact⟨fun s hs=>(by cases hs),fun _ _=>⟨_,rfl,by rw[hh]⟩⟩
     ·trivial
    ·split
     ·exact .ne hh
     ·trivial
   ·refine .cond ?_
    by_cases hh:st.h=st'.h
    ·rw[<-hh]
     split
     ·exact⟨fun s hs=>(by cases hs),fun _ _=>⟨_,rfl,by rw[hh]⟩⟩
     ·trivial
    ·split
     ·exact .ne hh
     ·trivial
   ·first|rfl|trivial
  ·first|rfl|trivial
 ·first|rfl|trivial
theorem qer{T:Nat}{x y:D}:ResSame st st' none (oi P st T x y) (oi P st' T x y):=by
 unfold oi
 by_cases hh:st.h=st'.h
 ·rw[<-hh]
  split
  ·split
   ·exact⟨fun s hs=>(by cases hs),fun _ _=>⟨_,rfl,by rw[hh]⟩⟩
   ·trivial
  ·split
   ·exact⟨fun s hs=>(by cases hs),fun _ _=>⟨_,rfl,by rw[hh]⟩⟩
   ·trivial
  ·trivial
 ·split
  ·split
   ·exact .ne hh
   ·trivial
  ·split
   ·exact .ne hh
   ·trivial
  ·trivial
theorem s6{bx vx:Bool}{b:Builtin}{ts:List Nat}{l:List D}:ResSame st st' none (wo P st bx vx b ts l) (wo P st' bx vx b ts l):=by
 unfold wo
 split
 ·split <;> first|rfl|trivial
 ·split <;> first|rfl|trivial
 ·split <;> first|rfl|trivial
 ·split <;> first|rfl|trivial
 ·split <;> first|rfl|trivial
 ·split
  ·exact qac
  ·exact qac
  ·first|rfl|trivial
 ·exact qer
 ·split <;> first|rfl|trivial
 ·split <;> first|rfl|trivial
 ·first|rfl|trivial
theorem qes{vx:Bool}{t:Nat}{l c:D}:ResSame st st' none (ol P st vx t l c) (ol P st' vx t l c):=by
 unfold ol
 split
 ·split
  ·refine .cond ?_
   cases vx with
   |true=>simp only[cond_true];refine .cond ?_;exact⟨fun s hs=>(by cases hs),fun _ hh=>⟨_,rfl,by rw[hh]⟩⟩
   |false=>simp only[cond_false];exact⟨fun s hs=>(by cases hs),fun _ hh=>⟨_,rfl,by rw[hh]⟩⟩
  ·first|rfl|trivial
 ·first|rfl|trivial
theorem qet{s t:Nat}{x:D}:ResSame st st' none (ny P st s t x) (ny P st' s t x):=by
 unfold ny
 split
 ·split
  ·exact⟨fun s hs=>(by cases hs),fun _ hh=>⟨_,rfl,by rw[hh]⟩⟩
  ·first|rfl|trivial
 ·first|rfl|trivial
theorem qfz{vx:Bool}{r:Option D}:ResSame st st' none (qih st vx r) (qih st' vx r):=by
 unfold qih
 split
 ·cases hc:(vx&&Nat.blt 0 _) with
  |true=>simp only[cond_true];exact⟨fun s hs=>(by cases hs),fun _ hh=>⟨_,rfl,by rw[hh]⟩⟩
  |false=>simp only[cond_false];first|rfl|trivial
 ·first|rfl|trivial
 ·first|rfl|trivial
theorem s7{t:Nat}{r:Option D}:ResSame st st' none (wq P st t r) (wq P st' t r):=by
 unfold wq
 split
 ·split
  ·refine .cond ?_
   exact⟨fun s hs=>(by cases hs),fun _ hh=>⟨_,rfl,by rw[hh]⟩⟩
  ·trivial
 ·trivial
theorem mw{t:Nat}{m k v:D}:ResSame st st' none (ui P st t m k v) (ui P st' t m k v):=by
 unfold ui
 by_cases hh:st.h=st'.h
 ·rw[<-hh]
  split
  ·split
   ·split
    ·exact⟨fun s hs=>(by cases hs),fun _ _=>⟨_,rfl,by rw[hh]⟩⟩
    ·trivial
   ·trivial
  ·trivial
 ·split
  ·split
   ·split
    ·exact .ne hh
    ·trivial
   ·trivial
  ·trivial
theorem bf{s:Nat}(h:qm st.sl s=qm st'.sl s):wp st'.sl s=wp st.sl s:=by simp[wp,h]
theorem qad{t:Nat}{a:D}(hb:∀s,qy a=some s->qm st.sl s=qm st'.sl s)(hh:qu1 a=true->st.h=st'.h){own:Option Nat} :
  ResSame st st' own (gd P st t a) (gd P st' t a):=by
 unfold gd
 split
 ·rename_i s off
  rw[bf (hb s rfl)]
  split
  ·exact yx
  ·first|rfl|trivial
 ·exact yx
 ·rename_i l off
  rw[hh rfl]
  refine .refl fun p st1 d he=> ?_
  split at he
  ·unfold dj at he
   split at he
   ·exact zx he
   ·split at he
    ·replace he:=qx he;cases he
    ·cases he
    ·cases he
   ·cases he
   ·exact zx he
   ·cases he
  ·cases he
 ·rename_i t' m i sz j
  rw[hh rfl]
  refine .refl fun p st1 d he=> ?_
  split at he
  ·split at he
   ·replace he:=qx he;cases he
   ·cases he
  ·cases he
 ·first|rfl|trivial
theorem s8{t:Nat}{a v:D}(hb:∀s,qy a=some s->qm st.sl s=qm st'.sl s):ResSame st st' (qy a) (kr P st t a v) (kr P st' t a v):=by
 unfold kr
 split
 ·refine .cond ?_
  split
  ·rename_i s off
   rw[bf (hb s rfl)]
   split
   ·refine .cond ?_
    exact⟨fun s' hs=>(by cases hs;exact⟨_,rfl,rfl⟩),fun hn=>(by cases hn)⟩
   ·first|rfl|trivial
  ·rename_i l off
   by_cases hh:st.h=st'.h
   ·rw[<-hh]
    split
    ·split
     ·exact⟨fun s hs=>(by cases hs),fun _ _=>⟨_,rfl,by rw[hh]⟩⟩
     ·first|rfl|trivial
    ·first|rfl|trivial
   ·cases hbx:st.h.box l with
    |none=>exact True.intro
    |some row =>
     simp only
     cases hrs:ym off (qk v) row with
     |none=>exact True.intro
     |some q =>
      obtain⟨p,row'⟩:=q
      exact⟨fun s hs=>(by cases hs),fun _ h2=>absurd h2 hh⟩
  ·by_cases hh:st.h=st'.h
   ·rw[<-hh]
    split
    ·refine .cond ?_
     exact⟨fun s hs=>(by cases hs),fun _ _=>⟨_,rfl,by rw[hh]⟩⟩
    ·trivial
   ·split
    ·generalize (Nat.ble _ _)=c
     cases c
     ·trivial
     ·exact .ne hh
    ·trivial
  ·first|rfl|trivial
 ·first|rfl|trivial
theorem qae{T:Nat}{x:D}{lo hi mx:Option D}{p:Prop}{st1:St}{d:D}(h:ah P T x lo hi mx = .eff p st1 d):False:=by
 unfold ah at h
 split at h
 ·split at h
  ·replace h:=qx h;split at h <;> cases h
  ·cases h
 ·split at h <;> cases h
 ·split at h <;> cases h
 ·cases h
theorem qf0{op:Op}(hb:∀x∈op.operands,∀s,qy (ev x)=some s->qm st.sl s=qm st'.sl s)(hh:g7 ev op=true->st.h=st'.h) :
  ResSame st st' (mr ev op) (opD P cfg st ev dst op) (opD P cfg st' ev dst op):=by
 cases op with
 |alloc t =>
  simp only[opD]
  split
  ·exact .cond ru
  ·first|rfl|trivial
 |box t x=>exact .cond ru
 |load t a=>exact qad (hb a (by simp[Op.operands])) hh
 |store t a v=>exact s8 (hb a (by simp[Op.operands]))
 |makeSlice t l c=>exact qes
 |call c =>
  simp only[opD]
  split
  ·split
   ·exact .cond rfl
   ·exact .cond rfl
   ·trivial
  ·exact .cond s6
  ·split
   ·split
    ·exact .cond rfl
    ·trivial
   ·trivial
 |move x=>simp only[opD];split <;> first|rfl|trivial
 |assign x=>simp only[opD];split <;> first|rfl|trivial
 |build t parts=>exact yx
 |buildSlice t len parts=>exact qfz
 |nilCheck x=>exact .refl fun p st1 d h=>by change yb P (ev x)=_ at h;unfold yb at h;split at h <;> first|cases h|(replace h:=qx h;cases h)
 |makeFunc f first caps =>
  cases f with
  |func f =>
   simp only[opD]
   cases h1:(first.isEmpty&&lu (caps.toList.map ev)) with
   |true=>rfl
   |false=>exact .cond rfl
  |method m=>simp only[opD,qfj];split <;> first|exact .cond rfl|trivial
  |_=>trivial
 |extract x i =>
  simp only[opD]
  split
  ·exact yx
  ·trivial
 |binOp bop t x z t'=>exact .refl fun p st1 d h=>rp h
 |unOp uop t x=>exact .refl fun p st1 d h=>by change unD uop (ev x)=_ at h;unfold unD at h;split at h <;> cases h
 |convert s t x =>
  have hsame:xt P st.h s t (ev x)=xt P st'.h s t (ev x):=by
   cases hx:qij (ev x) with
   |true=>rw[hh hx]
   |false =>
    unfold xt
    generalize ev x=d at hx
    generalize P.underlying s=u1
    generalize P.underlying t=u2
    cases d with
    |vec a b c=>exact Bool.noConfusion (show true=false from hx)
    |_ =>
     split
     all_goals first|rfl|(rename_i heq;exact D.noConfusion heq)|(rename_i heq _;exact D.noConfusion heq)
  have key:∀b:Bool,ResSame st st' none (bif b then ny P st s t (ev x) else xt P st.h s t (ev x)) (bif b then ny P st' s t (ev x) else xt P st'.h s t (ev x)):=fun b=>by
   cases b with
   |true=>exact qet
   |false =>
    simp only[cond_false]
    rw[<-hsame]
    exact .refl fun p st1 d h=>fx h
  exact key _
 |makeMap t r=>exact s7
 |lookup t x i ok =>
  have he:opD P cfg st' ev dst (.lookup t x i ok)=opD P cfg st ev dst (.lookup t x i ok):=by
   show ge P st'.h t (ev x) (ev i) ok=ge P st.h t (ev x) (ev i) ok
   rw[hh rfl]
  rw[he]
  exact .refl fun p st1 d h=>fy h
 |mapUpdate t m k v=>exact mw
 |insert t m k v=>exact mw
 |slice t x lo hi mx=>exact .refl fun p st1 d h=>qae h
 |makeInterface t x =>
  refine .refl fun p st1 d h=> ?_
  change pf P t (ev x)=_ at h
  unfold pf at h
  split at h
  ·cases h
  ·replace h:=qx h;cases h
  ·cases h
 |fieldAddr t x f =>
  refine .refl fun p st1 d h=> ?_
  change xo P t f (ev x)=_ at h
  unfold xo at h
  split at h
  ·split at h <;> cases h
  ·cases h
 |indexAddr t x i =>
  have hsame:zr P st.h t (ev x) (ev i)=zr P st'.h t (ev x) (ev i):=by
   cases hx:qij (ev x) with
   |true=>rw[hh hx]
   |false =>
    unfold zr
    generalize ev x=d at hx
    generalize ev i=q
    generalize P.underlying t=u
    cases d with
    |vec a b c=>exact Bool.noConfusion (show true=false from hx)
    |_ =>
     split
     all_goals first|rfl|(rename_i heq _;exact D.noConfusion heq)|(rename_i heq;exact D.noConfusion heq)|(rename_i heq _ _;exact D.noConfusion heq)
  have he:opD P cfg st' ev dst (.indexAddr t x i)=opD P cfg st ev dst (.indexAddr t x i):=hsame.symm
  rw[he]
  refine .refl fun p st1 d h=> ?_
  change zr P st.h t (ev x) (ev i)=_ at h
  unfold zr at h
  split at h
  ·split at h
   ·replace h:=qx h;cases h
   ·cases h
  ·split at h
   ·replace h:=qx h;cases h
   ·cases h
  ·split at h <;> cases h
  ·split at h
   ·replace h:=qx h;split at h <;> cases h
   ·cases h
  ·cases h
 |index t x i=>exact .refl fun p st1 d h=>by change ai P t (ev x) (ev i)=_ at h;unfold ai at h;split at h <;> cases h
 |_=>trivial
theorem qf1{op:Op}(h:∀x∈op.operands,ev x=ev' x):opD P cfg st ev dst op=opD P cfg st ev' dst op:=by
 have pairs:∀ps:Array (Nat×Operand),(∀x∈ps.map (·.2),ev x=ev' x)->(ps.toList.map fun(x:Nat×Operand)=>(x.1,ev x.2))=(ps.toList.map fun(x:Nat×Operand)=>(x.1,ev' x.2)):=fun ps hp =>
  List.map_congr_left fun p hm=>by
   rw[hp p.2 (Array.mem_map.2 ⟨p,by simpa using hm,rfl⟩)]
 have arr:∀ps:Array Operand,(∀x∈ps,ev x=ev' x)->ps.toList.map ev=ps.toList.map ev':=fun ps hp=>List.map_congr_left fun x hx=>hp x (by simpa using hx)
 cases op <;> simp only[Op.operands]at h <;> simp only[opD]
 case build t ps=>rw[pairs ps fun x hx=>h x (by simpa using hx)]
 case buildSlice t m ps=>rw[pairs ps fun x hx=>h x (by simpa using hx)]
 case makeFunc f first caps =>
  cases f <;> simp only[]
  ·rw[arr caps fun x hx=>h x (by simp[hx]),arr first fun x hx=>h x (by simp[hx])]
  ·rw[arr first fun x hx=>h x (by simp[hx])]
 case call c =>
  have ha:c.args.toList.map ev=c.args.toList.map ev':=arr c.args fun x hx=>h x (by simp[Call.operands,hx])
  simp only[ha]
  cases hc:c.callee with
  |value f=>have hf:ev f=ev' f:=h f (by simp[Call.operands,hc]);simp only[hf]
  |invoke r m=>have hf:ev r=ev' r:=h r (by simp[Call.operands,hc]);simp only[hf]
  |builtin b=>rfl
 case makeMap t r=>cases r <;> simp_all
 case slice t x lo hi mx=>cases lo <;> cases hi <;> cases mx <;> simp_all
 all_goals (first|rfl|(simp_all;done))
end
end Go.Ab
namespace Go.Ab
theorem qbw{sl:qu}{t t0:Nat}{e:D}(h:∀d,qm sl t=some d->xb d t0=false)(hne:t≠t0):qm (put sl t0 e) t=qm sl t:=by
 have:qm (del sl t0) t=qm sl t:=by
  induction sl with
  |nil=>rfl
  |cons x r ih =>
   obtain⟨s,d⟩:=x
   simp only[qm]at h
   cases hb:Nat.beq s t with
   |true =>
    rw[hb]at h
    simp only[cond_true,Option.some.injEq]at h
    have h0:=h d rfl
    have hst:s≠t0:=by have:=qp.1 hb;omega
    simp only[del,xj.2 hst,h0,Bool.or_self,cond_false,qm,hb,cond_true]
   |false =>
    rw[hb]at h
    simp only[cond_false]at h
    have ih:=ih h
    simp only[del]
    cases hc:(Nat.beq s t0 || xb d t0) with
    |true=>simp only[cond_true,qm,hb,cond_false];exact ih
    |false=>simp only[cond_false,qm,hb];exact ih
 simp only[put,qm]
 rw[xj.2 (fun e=>hne e.symm)]
 exact this
theorem w7{a b:qu}{s:Nat}(h:qm a s=qm b s)(cs:List D):qm (setOwn a s cs) s=qm (setOwn b s cs) s:=by
 have hn:∀sl:qu,qm sl s=none->qm (setOwn sl s cs) s=none:=by
  intro sl;induction sl with
  |nil=>intro _;rfl
  |cons x r ih =>
   obtain⟨x1,x2⟩:=x
   intro h1
   simp only[qm]at h1
   cases hb:Nat.beq x1 s with
   |true=>rw[hb]at h1;simp at h1
   |false =>
    rw[hb]at h1
    simp only[cond_false]at h1
    simp only[setOwn,List.map_cons,hb,cond_false,qm]
    exact ih h1
 cases ha:qm a s with
 |none=>rw[hn a ha,hn b (by rw[<-h,ha])]
 |some d=>rw[jd a s cs ha,jd b s cs (by rw[<-h,ha])]
theorem bg{sl:qu}{s:Nat}{cs:List D}{t:Nat}{d:D}{u:Nat}(h:qm (setOwn sl s cs) t=some d)(hl:xb d u=true):qm sl t=some d:=by
 by_cases hs:t=s
 ·subst hs
  have:=w7 (a:=sl) (b:=sl) (s:=t) rfl cs
  cases h0:qm sl t with
  |none =>
   have hn:=w7 (a:=sl) (b:=[]) (s:=t) (by rw[h0];rfl) cs
   rw[hn]at h;cases h
  |some e=>rw[jd sl t cs h0]at h;cases h;cases hl
 ·rw[qw _ _ _ _ hs]at h;exact h
section
variable {P:Program} {n:Nat} {cfg:Cfg} {ops:List Oper} {i:Nat} {o:Oper} {st st' sc:St} {H:Nat} {fp:FP}
theorem qc5{α β:Type}{f f':α->Option β}:∀{l:List α},(∀x∈l,f x=f' x)->l.filterMap f=l.filterMap f'
 | [],_=>rfl
 |x::r,h=>by
  rw[List.filterMap_cons,List.filterMap_cons,h x (List.mem_cons_self ..),qc5 fun y hy=>h y (List.mem_cons_of_mem _ hy)]
theorem qc6{op:Op}{t:Nat}:t∈qfm op↔ .tmp t∈op.operands:=by
 unfold qfm
 rw[List.mem_filterMap]
 constructor
 ·rintro⟨x,hx,h⟩
  cases x <;> simp at h
  subst h;simpa using hx
 ·intro h
  exact⟨.tmp t,by simpa using h,rfl⟩
theorem bh{cl:List (Nat×Bool)}{x:Operand}(h:∀t,x = .tmp t->qm st.sl t=qm sc.sl t):evO st.sl cl x=evO sc.sl cl x:=by
 cases x with
 |tmp t=>simp only[evO,h t rfl]
 |_=>rfl
theorem s9(hback:∀{j:Nat} {o:Oper} {q:Nat×Bool},ops[j]? = some o->o.guard=some q->q.1<j):∀(m:Nat) (q:Nat×Bool),q.1<i ->
  (∀p∈ks ops i m q,∀s,q9 ops p.1=some s->qm st.sl s=qm sc.sl s)->gB st.sl ops i m q=gB sc.sl ops i m q
 |0,_,_,_=>rfl
 |m+1,(j,w),hq,h=>by
  simp only at hq
  have hc:ks ops i (m+1) (j,w)=(j,w)::(match(ops[j]?).bind (·.guard) with|some g'=>ks ops i m g'|none=>[]):=by
   simp only[ks,p7.2 hq,cond_true]
   rfl
  rw[hc]at h
  simp only[gB]
  cases hd:q9 ops j with
  |none=>rfl
  |some s =>
   have hl:=h (j,w) (List.mem_cons_self ..) s hd
   simp only[hl]
   split
   ·rfl
   ·rename_i j' w' b _
    cases hb:(Nat.blt j i&&n8 ops j j' w') with
    |false=>rfl
    |true =>
     simp only[cond_true]
     simp only[Bool.and_eq_true]at hb
     have h2:=hb.2
     unfold n8 at h2
     cases hg:(ops[j]?).bind (·.guard) with
     |none=>rw[hg]at h2;simp at h2
     |some p =>
      obtain⟨p1,p2⟩:=p
      rw[hg]at h2 h
      simp only[Bool.and_eq_true]at h2
      have e1:=qp.1 h2.1
      have e2:=qbv h2.2
      subst e1;subst e2
      have hlt:p1<i:=by
       cases ho:ops[j]? with
       |none=>rw[ho]at hg;cases hg
       |some o' =>
        rw[ho]at hg
        have:=hback ho (by simpa using hg)
        simp only at this;omega
      rw[s9 hback m (p1,p2) hlt fun p hp=>h p (List.mem_cons_of_mem _ hp)]
   ·rfl
theorem au{cl:List (Nat×Bool)}{c x z:Operand}(h:∀t,(c = .tmp t\/x = .tmp t\/z = .tmp t)->qm st.sl t=qm sc.sl t):gf st.sl cl ops i c x z=gf sc.sl cl ops i c x z:=by
 unfold gf
 rw[bh (sc:=sc) fun t ht=>h t (.inl ht),bh (sc:=sc) (x:=x) fun t ht=>h t (.inr (.inl ht)),bh (sc:=sc) (x:=z) fun t ht=>h t (.inr (.inr ht))]
theorem gl{ev ev':Operand->D}(h:∀x∈o.op.operands,ev x=ev' x)(cl:List (Nat×Bool))(eff:Bool)(rb:Option Nat):uc H ops o ev cl eff rb=uc H ops o ev' cl eff rb:=by
 have h1:(o.op.operands.toList.filterMap fun x=>qy (ev x))=(o.op.operands.toList.filterMap fun x=>qy (ev' x)):=by
  refine qc5 fun x hx=> ?_
  rw[h x (by simpa using hx)]
 have h2:mr ev o.op=mr ev' o.op:=by
  cases hop:o.op <;> first|rfl|skip
  rename_i t a v
  simp only[mr]
  rw[h a (by rw[hop];simp[Op.operands])]
 have h3:g7 ev o.op=g7 ev' o.op:=by
  cases hop:o.op with
  |load t a=>simp only[g7];rw[h a (by rw[hop];simp[Op.operands])]
  |indexAddr t a q=>simp only[g7];rw[h a (by rw[hop];simp[Op.operands])]
  |convert s t a=>simp only[g7];rw[h a (by rw[hop];simp[Op.operands])]
  |_=>rfl
 simp only[uc,yn,h1,h2,h3]
structure qpq(H:Nat)(o:Oper)(st st' sc sc':St)(fp:FP):Prop where
 w:∀t,t∈fp.w->qm st'.sl t=qm sc'.sl t
 same:∀t,t ∉ fp.w->qm st'.sl t=qm st.sl t
 same':∀t,t ∉ fp.w->qm sc'.sl t=qm sc.sl t
 h:H∈fp.w->st'.h=sc'.h
 hs:H ∉ fp.w->st'.h=st.h
 hs':H ∉ fp.w->sc'.h=sc.h
 lp:∀t d s,qm st'.sl t=some d->xb d s=true->(o.dst=some t/\fp.rb=some s)\/qm st.sl t=some d
 lp':∀t d s,qm sc'.sl t=some d->xb d s=true->(o.dst=some t/\fp.rb=some s)\/qm sc.sl t=some d
theorem qbx{d:D}{s:Nat}(h:xb d s=true):qy d=some s:=by
 unfold xb at h
 split at h
 ·have:=qp.1 h;subst this;rfl
 ·have:=qp.1 h;subst this;rfl
 ·cases h
theorem cw{d:D}{s1 sc1:St}(hw:fp.w=o.dst.toList++(fp.w.drop o.dst.toList.length))(hrb:fp.rb=qy d)
  (no:∀t0 t e,o.dst=some t0->qm s1.sl t=some e->xb e t0=false) (no':∀t0 t e,o.dst=some t0->qm sc1.sl t=some e->xb e t0=false)
  (tw:(∀t,t∈fp.w->o.dst≠some t->qm s1.sl t=qm sc1.sl t)/\(∀t,t ∉ fp.w->qm s1.sl t=qm st.sl t)/\(∀t,t ∉ fp.w->qm sc1.sl t=qm sc.sl t)/\(H∈fp.w->s1.h=sc1.h)/\(H ∉ fp.w->s1.h=st.h)/\(H ∉ fp.w->sc1.h=sc.h))
  (lp:∀t d s,qm s1.sl t=some d->xb d s=true->qm st.sl t=some d) (lp':∀t d s,qm sc1.sl t=some d->xb d s=true->qm sc.sl t=some d) :
  qpq H o st {s1 with sl:=j0 s1.sl o.dst d} sc {sc1 with sl:=j0 sc1.sl o.dst d} fp:=by
 obtain⟨t1,t2,t3,t4,t5,t6⟩:=tw
 cases hd:o.dst with
 |none =>
  simp only[j0]
  exact⟨fun t ht=>t1 t ht (by rw[hd];simp),t2,t3,t4,t5,t6,fun t d s h1 h2=> .inr (lp t d s h1 h2),fun t d s h1 h2=> .inr (lp' t d s h1 h2)⟩
 |some t0 =>
  have hin:t0∈fp.w:=by rw[hw,hd];simp
  have key:∀{s1:St},(∀t e,qm s1.sl t=some e->xb e t0=false)->∀t,t≠t0->qm (j0 s1.sl (some t0) d) t=qm s1.sl t:=fun h t hne=>qbw (fun e he=>h t e he) hne
  have key0:∀{s1:St},qm (j0 s1.sl (some t0) d) t0=some (bif xb d t0 then .junk else d):=fun{s1}=>sn _ _ _
  have k1:=key (s1:=s1) fun t e he=>no t0 t e hd he
  have k2:=key (s1:=sc1) fun t e he=>no' t0 t e hd he
  have lpp:∀{s1 sx:St},(∀t,t≠t0->qm (j0 s1.sl (some t0) d) t=qm s1.sl t)->(∀t d s,qm s1.sl t=some d->xb d s=true->qm sx.sl t=some d) ->
    ∀t e s,qm (j0 s1.sl (some t0) d) t=some e->xb e s=true->(o.dst=some t/\fp.rb=some s)\/qm sx.sl t=some e:=by
   intro s1 sx k1 lp t e s h1 h2
   by_cases hx:t=t0
   ·subst hx
    rw[key0]at h1
    cases hp:xb d t with
    |true=>rw[hp]at h1;cases h1;cases h2
    |false=>rw[hp]at h1;simp only[cond_false,Option.some.injEq]at h1;subst h1;exact .inl ⟨hd,by rw[hrb,qbx h2]⟩
   ·rw[k1 t hx]at h1;exact .inr (lp t e s h1 h2)
  refine⟨fun t ht=> ?_,fun t ht=> ?_,fun t ht=> ?_,t4,t5,t6,lpp k1 lp,lpp k2 lp'⟩
  ·by_cases hx:t=t0
   ·subst hx
    show qm (j0 s1.sl (some t) d) t=qm (j0 sc1.sl (some t) d) t
    rw[key0,key0]
   ·show qm (j0 s1.sl (some t0) d) t=qm (j0 sc1.sl (some t0) d) t
    rw[k1 t hx,k2 t hx];exact t1 t ht (by rw[hd];simp;exact fun h=>hx h.symm)
  ·have hx:t≠t0:=fun h=>ht (h▸hin)
   show qm (j0 s1.sl (some t0) d) t=_
   rw[k1 t hx];exact t2 t ht
  ·have hx:t≠t0:=fun h=>ht (h▸hin)
   show qm (j0 sc1.sl (some t0) d) t=_
   rw[k2 t hx];exact t3 t ht
theorem my{b:Bool}{p:Prop}{st:St}{d:D}{f:Nat}{args:List D}:(bif b then Res.eff p st d else Res.bad)≠ .call f args:=by cases b <;> intro h <;> cases h
theorem d5[Lay](hback:∀{j:Nat} {o:Oper} {q:Nat×Bool},ops[j]? = some o->o.guard=some q->q.1<j)(ho:ops[i]? = some o)(hf:StepFact P cfg H ops i o st st' fp)
  (hN:∀t∈fp.n,qm st.sl t=qm sc.sl t) (hH:H∈fp.n->st.h=sc.h)
  (no:∀t0 t e,o.dst=some t0->qm st.sl t=some e->xb e t0=false) (no':∀t0 t e,o.dst=some t0->qm sc.sl t=some e->xb e t0=false) :
  ∃sc',StepFact P cfg H ops i o sc sc' fp/\qpq H o st st' sc sc' fp:=by
 have nm:∀{ev:Operand->D} {cl:List (Nat×Bool)} {eff:Bool} {rb:Option Nat},fp=uc H ops o ev cl eff rb->(∀t,.tmp t∈o.op.operands->t∈fp.n)/\(∀x∈o.op.operands,∀s,qy (ev x)=some s->s∈fp.n) /\
   (∀p∈cl,∀s,q9 ops p.1=some s->s∈fp.n)/\(g7 ev o.op=true->H∈fp.n):=by
  intro ev cl eff rb h
  subst h
  simp only[uc,yn,List.mem_append]
  refine⟨fun t ht=> .inl (.inl (.inl (.inl (.inl (qc6.2 ht))))),fun x hx s hs=> .inl (.inl (.inl (.inl (.inr (List.mem_filterMap.2 ⟨x,by simpa using hx,hs⟩))))),
   fun p hp s hs=> .inl (.inl (.inl (.inr (List.mem_filterMap.2 ⟨p,hp,hs⟩)))),fun hr=> .inr (by rw[hr];simp)⟩
 have evs:∀{cl:List (Nat×Bool)},(∀t,.tmp t∈o.op.operands->t∈fp.n)->∀x∈o.op.operands,evO st.sl cl x=evO sc.sl cl x:=fun h x hx=>bh fun t ht=>hN t (h t (ht▸hx))
 have plain:∀{d:D} {ev:Operand->D} {cl:List (Nat×Bool)},fp=uc H ops o ev cl false (qy d)->qpq H o st {st with sl:=j0 st.sl o.dst d} sc {sc with sl:=j0 sc.sl o.dst d} fp:=by
  intro d ev cl h
  have hw:fp.w=o.dst.toList:=by subst h;simp[uc]
  have hnm:=nm h
  refine cw (by rw[hw];simp) (by subst h;rfl) no no' ⟨fun t ht hne=> ?_,fun _ _=>rfl,fun _ _=>rfl,fun hh=>hH ?_,fun _=>rfl,fun _=>rfl⟩ (fun _ _ _ h _=>h) (fun _ _ _ h _=>h)
  ·rw[hw]at ht;exact absurd (by simpa using ht) hne
  ·rw[hw]at hh
   subst h
   simp only[uc,yn,List.mem_append]
   exact .inl (.inl (.inr hh))
 have factSame:∀{cl:List (Nat×Bool)} {b:Bool} {d:D},fp=uc H ops o (evO st.sl cl) cl false (qy d)\/(∃j w,fp=uc H ops o (evO st.sl cl) cl false (qy (.may j w d)))->qh6 P cfg st (evO st.sl cl) o b d->qh6 P cfg sc (evO sc.sl cl) o b d:=by
  intro cl b d hf0 hf
  have hnm:(∀t,.tmp t∈o.op.operands->t∈fp.n)/\(∀x∈o.op.operands,∀s,qy (evO st.sl cl x)=some s->s∈fp.n)/\(∀p∈cl,∀s,q9 ops p.1=some s->s∈fp.n)/\(g7 (evO st.sl cl) o.op=true->H∈fp.n):=by
   rcases hf0 with h|⟨j,w,h⟩
   ·exact nm h
   ·exact nm h
  have hs:=qf0 (P:=P) (cfg:=cfg) (st:=st) (st':=sc) (ev:=evO st.sl cl) (dst:=o.dst) (op:=o.op) (fun x hx s hs=>hN s (hnm.2.1 x hx s hs)) (fun hr=>hH (hnm.2.2.2 hr))
  rw[qf1 (ev:=evO st.sl cl) (ev':=evO sc.sl cl) (st:=sc) (evs hnm.1)]at hs
  clear hf0
  cases hf with
  |val h=>rw[h]at hs;exact .val hs
  |nd h hp=>rw[h]at hs;exact .nd hs hp
  |asm h=>rw[h]at hs;exact .asm hs
  |new h=>rw[h]at hs;exact .new hs
  |call h hp hv=>rw[h]at hs;exact .call hs hp hv
 generalize hfp:fp=fp' at hf
 cases hf with
 |pick0 hg hop h =>
  have hnm:=nm hfp
  have e:=evs (cl:=[]) hnm.1
  rw[gl e]at hfp⊢
  rw[hfp]at plain
  refine⟨_,.pick0 hg hop ?_,plain rfl⟩
  rw[<-au fun t ht=>hN t (hnm.1 t ?_)]
  ·exact h
  ·rw[hop];simp only[Op.operands];rcases ht with rfl|rfl|rfl <;> simp
 |val0 hg hf =>
  have hnm:=nm hfp
  have e:=evs (cl:=[]) hnm.1
  have hf':=factSame (.inl hfp) hf
  rw[gl e]at hfp⊢
  rw[hfp]at plain
  exact⟨_,.val0 hg hf',plain rfl⟩
 |eff0 hg h hp =>
  rename_i p st1 d
  have hnm:=nm hfp
  have e:=evs (cl:=[]) hnm.1
  have hs:=qf0 (P:=P) (cfg:=cfg) (st:=st) (st':=sc) (ev:=evO st.sl []) (dst:=o.dst) (op:=o.op) (fun x hx s hs=>hN s (hnm.2.1 x hx s hs)) (fun hr=>hH (hnm.2.2.2 hr))
  rw[qf1 (ev:=evO st.sl []) (ev':=evO sc.sl []) (st:=sc) e,h]at hs
  cases hown:mr (evO st.sl []) o.op with
  |some s =>
   obtain⟨cs,rfl,h2⟩:=hs.1 s hown
   have hw:fp.w=o.dst.toList++[s]:=by rw[hfp];simp[uc,hown]
   have hrb:fp.rb=qy d:=by rw[hfp];rfl
   have hsn:s∈fp.n:=by
    cases hop:o.op <;> rw[hop]at hown <;> try cases hown
    rename_i t a v
    exact hnm.2.1 a (by rw[hop];simp[Op.operands]) s hown
   have hwn:∀t,t∈fp.w->t∈fp.n:=by
    intro t ht
    rw[hw]at ht
    rcases List.mem_append.1 ht with ht|ht
    ·rw[hfp];simp only[uc,yn,List.mem_append];exact .inl (.inl (.inr ht))
    ·simp at ht;subst ht;exact hsn
   refine⟨{sc with sl:=j0 (setOwn sc.sl s cs) o.dst d},?_,?_⟩
   ·have:=StepFact.eff0 (H:=H) (ops:=ops) (i:=i) hg h2 hp
    rw[<-gl e]at this
    exact this
   ·refine hfp▸cw (s1:={st with sl:=setOwn st.sl s cs}) (sc1:={sc with sl:=setOwn sc.sl s cs}) (by rw[hw];simp) hrb (fun t0 t u h1 h2=> ?_) (fun t0 t u h1 h2=> ?_)
     ⟨fun t ht hne=> ?_,fun t ht=>qw _ _ _ _ (fun e=>ht (by rw[hw,e];simp)),fun t ht=>qw _ _ _ _ (fun e=>ht (by rw[hw,e];simp)),fun hh=>hH (hwn _ hh),fun _=>rfl,fun _=>rfl⟩
     (fun t d s h1 h2=>bg h1 h2) (fun t d s h1 h2=>bg h1 h2)
    ·cases hl:xb u t0 with
     |false=>rfl
     |true=>have:=no t0 t u h1 (bg h2 hl);rw[hl]at this;cases this
    ·cases hl:xb u t0 with
     |false=>rfl
     |true=>have:=no' t0 t u h1 (bg h2 hl);rw[hl]at this;cases this
    ·by_cases hx:t=s
     ·subst hx;exact w7 (hN t hsn) cs
     ·rw[qw _ _ _ _ hx,qw _ _ _ _ hx]
      exact hN t (hwn t ht)
  |none =>
   have hHn:H∈fp.n:=by rw[hfp];simp[uc,hown]
   obtain⟨h1,rfl,h2⟩:=hs.2 hown (hH hHn)
   have hw:fp.w=o.dst.toList++[H]:=by rw[hfp];simp[uc,hown]
   have hrb:fp.rb=qy d:=by rw[hfp];rfl
   refine⟨{ {sc with h:=h1} with sl:=j0 sc.sl o.dst d},?_,?_⟩
   ·have:=StepFact.eff0 (H:=H) (ops:=ops) (i:=i) hg h2 hp
    rw[<-gl e]at this
    exact this
   ·refine hfp▸cw (s1:={st with h:=h1}) (sc1:={sc with h:=h1}) (by rw[hw];simp) hrb no no'
     ⟨fun t ht hne=> ?_,fun _ _=>rfl,fun _ _=>rfl,fun _=>rfl,fun hh=>absurd (by rw[hw];simp) hh,fun hh=>absurd (by rw[hw];simp) hh⟩ (fun _ _ _ h _=>h) (fun _ _ _ h _=>h)
    rw[hw]at ht
    rcases List.mem_append.1 ht with ht|ht
    ·exact absurd (by simpa using ht) hne
    ·simp at ht;subst ht;exact hN _ hHn
 |callE0 hg h hv hp =>
  rename_i f args v h1
  have hnm:=nm hfp
  have e:=evs (cl:=[]) hnm.1
  have hs:=qf0 (P:=P) (cfg:=cfg) (st:=st) (st':=sc) (ev:=evO st.sl []) (dst:=o.dst) (op:=o.op) (fun x hx s hs=>hN s (hnm.2.1 x hx s hs)) (fun hr=>hH (hnm.2.2.2 hr))
  rw[qf1 (ev:=evO st.sl []) (ev':=evO sc.sl []) (st:=sc) e,h]at hs
  have hs:opD P cfg sc (evO sc.sl []) o.dst o.op = .call f args:=hs
  have hown:mr (evO st.sl []) o.op=none:=by
   cases hop:o.op <;> first|rfl|skip
   rename_i t x z
   rw[hop]at h
   simp only[opD]at h
   have hne:∀r,kr P st t (evO st.sl [] x) (evO st.sl [] z)=r->r≠ .call f args:=fun r hr hc=>by
    subst hr
    unfold kr at hc
    split at hc
    ·rename_i m hz hd
     cases hb:(Nat.beq (qk (evO st.sl [] z)).length m&&(qk (evO st.sl [] z)).all qbh) with
     |false=>rw[hb]at hc;cases hc
     |true =>
      rw[hb]at hc
      simp only[cond_true]at hc
      split at hc
      ·split at hc
       ·exact absurd hc my
       ·cases hc
      ·split at hc
       ·split at hc <;> cases hc
       ·cases hc
      ·split at hc
       ·exact absurd hc my
       ·cases hc
      ·cases hc
    ·cases hc
   exact absurd h (hne _ rfl)
  have hHn:H∈fp.n:=by rw[hfp];simp[uc,hown]
  have hw:fp.w=o.dst.toList++[H]:=by rw[hfp];simp[uc,hown]
  have hrb:fp.rb=qy v:=by rw[hfp];rfl
  refine⟨{sl:=j0 sc.sl o.dst v,h:=h1},?_,?_⟩
  ·have:=StepFact.callE0 (H:=H) (ops:=ops) (i:=i) hg hs hv (by rw[<-hH hHn];exact hp)
   rw[<-gl e]at this
   exact this
  ·refine hfp▸cw (s1:={st with h:=h1}) (sc1:={sc with h:=h1}) (by rw[hw];simp) hrb no no'
    ⟨fun t ht hne=> ?_,fun _ _=>rfl,fun _ _=>rfl,fun _=>rfl,fun hh=>absurd (by rw[hw];simp) hh,fun hh=>absurd (by rw[hw];simp) hh⟩ (fun _ _ _ h _=>h) (fun _ _ _ h _=>h)
   rw[hw]at ht
   rcases List.mem_append.1 ht with ht|ht
   ·exact absurd (by simpa using ht) hne
   ·simp at ht;subst ht;exact hN _ hHn
 |pick1 hg hb hop h =>
  rename_i j w b c x z d
  have hnm:=nm hfp
  have e:=evs (cl:=ks ops i 40 (j,w)) hnm.1
  have hlt:j<i:=hback ho hg
  rw[gl e]at hfp⊢
  rw[hfp]at plain
  refine⟨_,.pick1 (b:=b) hg ?_ hop ?_,plain rfl⟩
  ·rw[<-s9 hback 40 (j,w) hlt fun p hp s hs=>hN s (hnm.2.2.1 p hp s hs)];exact hb
  ·rw[<-au fun t ht=>hN t (hnm.1 t ?_)]
   ·exact h
   ·rw[hop];simp only[Op.operands];rcases ht with rfl|rfl|rfl <;> simp
 |val1 hg hb hf hm =>
  rename_i j w b d
  have hnm:=nm hfp
  have e:=evs (cl:=ks ops i 40 (j,w)) hnm.1
  have hlt:j<i:=hback ho hg
  have hf':=factSame (.inr ⟨j,w,hfp⟩) hf
  rw[gl e]at hfp⊢
  rw[hfp]at plain
  refine⟨_,.val1 (b:=b) hg ?_ hf' hm,plain rfl⟩
  rw[<-s9 hback 40 (j,w) hlt fun p hp s hs=>hN s (hnm.2.2.1 p hp s hs)];exact hb
end
end Go.Ab
