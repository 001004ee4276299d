/- The executor is sound, 11: the operations of a region in their order. -/
import Derived.Test.YtiekphbkomddfaaGreatDoorB4
namespace Go.Ab
theorem qcs{a b:Bool}(h:qrd a b=true):a=b:=by cases a <;> cases b <;> first|rfl|exact Bool.noConfusion (show false=true from h)
section
variable {P:Program} {n:Nat} {g:G} {β:Nat->Nat} {U:Nat->Prop} {st:St} {a:Act} {w:World} {o:Oper} {ops:List Oper} {i:Nat}
theorem m6{s:Nat}{b:Bool}{j:Nat}(hj:jf ops j=some s)(h:a.tmps.getD s undef = .bool b):yielded ops.toArray a.tmps j=some b:=by
 unfold yielded
 have h1:((ops.toArray[j]?).bind (·.dst))=some s:=by simpa[jf] using hj
 rw[h1]
 have h2:a.tmps[s]? = some (.bool b):=by
  cases hs:a.tmps[s]? with
  |none=>simp[hs,undef]at h
  |some v=>simp[hs]at h;rw[h]
 simp[h2]
def u5(ops:List Oper)(D:Nat->Prop)(a:Act):Prop :=
 ∀j o j1 w1,D j->ops[j]? = some o->o.guard=some (j1,w1)->yielded ops.toArray a.tmps j≠none->yielded ops.toArray a.tmps j1=some w1
def nf(ops:List Oper)(D:Nat->Prop):Prop:=∀j o j1 w1,D j->ops[j]? = some o->o.guard=some (j1,w1)->jf ops j1≠none->D j1
theorem b6[Lay]{D:Nat->Prop}(r:Rel n g β U (yOf ops a) st a w)(hc:u5 ops D a)(hd:nf ops D):∀(m:Nat) (q:Nat×Bool) (x:Bool),(jf ops q.1≠none->D q.1)->gB st.sl ops i m q=some x->(yielded ops.toArray a.tmps q.1=some q.2↔x=true)
 |0,_,_,_,h=>by simp[gB]at h
 |m+1,(j,w0),x,hq,h=>by
  simp only[gB]at h
  cases hj:jf ops j with
  |none=>rw[hj]at h;cases h
  |some s =>
   rw[hj]at h
   simp only at h
   split at h
   ·rename_i b hl
    cases h
    have:=m6 hj (by simpa[RS,RS0,R] using r.slot s _ hl)
    simp only[this]
    cases b <;> cases w0 <;> simp
   ·rename_i j' w' b hl
    cases hb:Nat.blt j i&&tc ops j j' w' with
    |false=>rw[hb]at h;cases h
    |true =>
     rw[hb]at h
     simp only[cond_true]at h
     simp only[Bool.and_eq_true]at hb
     have hji:D j:=hq (by rw[hj];simp)
     cases hx:gB st.sl ops i m (j',w') with
     |none=>rw[hx]at h;cases h
     |some x' =>
      rw[hx]at h
      cases h
      have hguard:∃o,ops[j]? = some o/\o.guard=some (j',w'):=by
       have h2:=hb.2
       unfold tc at h2
       cases ho:ops[j]? with
       |none=>rw[ho]at h2;simp at h2
       |some o =>
        rw[ho]at h2
        simp only[Option.bind_some]at h2
        cases hg:o.guard with
        |none=>rw[hg]at h2;simp at h2
        |some p =>
         obtain⟨p1,p2⟩:=p
         rw[hg]at h2
         simp only[Bool.and_eq_true]at h2
         have e1:=qq.1 h2.1
         have e2:=qcs h2.2
         subst e1;subst e2
         exact⟨o,rfl,hg⟩
      obtain⟨o,ho,hog⟩:=hguard
      have ih:=b6 r hc hd m (j',w') x' (hd j o j' w' hji ho hog) hx
      simp only at ih
      have hs:yielded ops.toArray a.tmps j'=some w'->yielded ops.toArray a.tmps j=some b:=fun hy =>
       m6 hj (by
        have:=r.slot s _ hl
        simp only[RS]at this
        simpa[RS0,R] using this hy)
      constructor
      ·intro hy
       have h1:=hc j o j' w' hji ho hog (by rw[hy];simp)
       have h2:=hs h1
       rw[hy]at h2;cases h2
       rw[ih.1 h1]
       cases w0 <;> rfl
      ·intro hy
       simp only[Bool.and_eq_true]at hy
       have h1:=hs (ih.2 hy.1)
       rw[h1]
       have:=hy.2
       cases b <;> cases w0 <;> simp_all
   ·cases h
theorem xw{D:Nat->Prop}(hc:u5 ops D a)(hd:nf ops D):∀(m:Nat) (q:Nat×Bool),(jf ops q.1≠none->D q.1)->yielded ops.toArray a.tmps q.1=some q.2->∀p∈xb ops i m q,yielded ops.toArray a.tmps p.1=some p.2
 |0,_,_,_,p,hp=>by simp[xb]at hp
 |m+1,q,hqd,hq,p,hp=>by
  simp only[xb]at hp
  cases hb:Nat.blt q.1 i with
  |false=>rw[hb]at hp;simp at hp
  |true =>
   rw[hb]at hp
   simp only[cond_true,List.mem_cons]at hp
   rcases hp with rfl|hp
   ·exact hq
   ·cases ho:ops[q.1]? with
    |none=>rw[ho]at hp;simp at hp
    |some o =>
     rw[ho]at hp
     simp only[Option.bind_some]at hp
     cases hg:o.guard with
     |none=>rw[hg]at hp;simp at hp
     |some q' =>
      rw[hg]at hp
      have hq0:D q.1:=hqd (fun h0=>by
       have:yielded ops.toArray a.tmps q.1=none:=by
        unfold yielded
        have h1:((ops.toArray[q.1]?).bind (·.dst))=jf ops q.1:=by simp[jf]
        rw[h1,h0];rfl
       rw[this]at hq;cases hq)
      exact xw hc hd m q' (hd q.1 o q'.1 q'.2 hq0 ho (by rw[hg])) (hc q.1 o q'.1 q'.2 hq0 ho (by rw[hg]) (by rw[hq];simp)) p hp
theorem s6:∀(cl:List (Nat×Bool)) (j:Nat) (w:Bool),qn2 cl j w=true->(j,w)∈cl
 | [],_,_,h=>by simp[qn2]at h
 |(p,q)::r,j,w,h=>by
  simp only[qn2,Bool.or_eq_true,Bool.and_eq_true]at h
  rcases h with ⟨h1,h2⟩|h
  ·have e1:=qq.1 h1
   have e2:=qcs h2
   subst e1;subst e2
   exact List.mem_cons_self ..
  ·exact List.mem_cons_of_mem _ (s6 r j w h)
theorem t8(v:Value):isD (ofVal v)=true\/ofVal v = .junk:=by
 have hc:∀(c:Bool) (x:D),isD x=true->isD (bif c then x else .junk)=true\/(bif c then x else .junk) = .junk:=by
  intro c x h;cases c
  ·exact .inr rfl
  ·exact .inl h
 unfold ofVal
 split <;> first|exact .inl rfl|exact .inr rfl|exact hc _ _ rfl
theorem wj[Lay]{y:Nat->Bool->Prop}(r:Rel n g β U y st a w){cl:List (Nat×Bool)}(hcl:∀p∈cl,y p.1 p.2):Ev g β st.sl a (evO st.sl cl):=by
 have hmay:∀{t j w0 d},qo st.sl t=some (.may j w0 d)->qn2 cl j w0=true->RS0 g β d (a.tmps.getD t undef)/\y j w0:=by
  intro t j w0 d hl hg
  have hy:=hcl _ (s6 cl j w0 hg)
  exact⟨r.slot t _ hl hy,hy⟩
 have hcond:∀{c:Bool} {d:D},(bif c then d else D.junk)≠ .junk->c=true:=by
  intro c d h;cases c
  ·exact absurd rfl h
  ·rfl
 refine⟨fun x hx=> ?_,fun x s off hx=> ?_,fun x cs hx=> ?_,fun x j w0 d hx=> ?_⟩
 ·cases x with
  |tmp t =>
   simp only[evO]at hx⊢
   split at hx <;> rename_i heq
   ·have:=r.slot t _ heq
    simpa[RS,RS0,Act.eval] using this
   ·have hg:=hcond hx
    rw[hg]
    exact(hmay heq hg).1
   ·have:=r.slot t _ heq
    rename_i d h1 h2
    cases d <;> first|exact this|exact absurd rfl hx|exact absurd rfl (h1 _)|exact absurd rfl (h2 _ _ _)
   ·exact absurd rfl hx
  |const v=>exact RS0.ofVal g β v hx
  |func f=>simp only[evO,Act.eval,RS0,R];exact⟨[],rfl,rfl⟩
  |global q=>exact absurd rfl hx
 ·cases x with
  |tmp t =>
   simp only[evO]at hx
   split at hx <;> rename_i heq
   ·cases hx;exact⟨_,heq⟩
   ·have hg:=hcond (by rw[hx];simp)
    rw[hg]at hx
    simp only[cond_true]at hx
    subst hx
    exact r.base t _ s heq (hmay heq hg).2 rfl
   ·subst hx;exact r.base t _ s heq trivial rfl
   ·cases hx
  |const v=>simp only[evO]at hx;rcases t8 v with h|h <;> rw[hx]at h <;> cases h
  |func f=>cases hx
  |global q=>cases hx
 ·cases x with
  |tmp t =>
   simp only[evO]at hx
   split at hx <;> rename_i heq
   ·cases hx
   ·have hg:=hcond (by rw[hx];simp)
    rw[hg]at hx
    simp only[cond_true]at hx
    subst hx
    have:=(hmay heq hg).1
    simp[RS0,R]at this
   ·rename_i h1 h2
    subst hx
    exact absurd rfl (h1 _)
   ·cases hx
  |const v=>simp only[evO]at hx;rcases t8 v with h|h <;> rw[hx]at h <;> cases h
  |func f=>cases hx
  |global q=>cases hx
 ·cases x with
  |tmp t =>
   simp only[evO]at hx
   split at hx <;> rename_i heq
   ·cases hx
   ·have hg:=hcond (by rw[hx];simp)
    rw[hg]at hx
    simp only[cond_true]at hx
    subst hx
    have:=(hmay heq hg).1
    simp[RS0,R]at this
   ·rename_i h1 h2
    subst hx
    exact absurd rfl (h2 _ _ _)
   ·cases hx
  |const v=>simp only[evO]at hx;rcases t8 v with h|h <;> rw[hx]at h <;> cases h
  |func f=>cases hx
  |global q=>cases hx
end
theorem Oper.wp_mono'{P:Program}{ρ:Option Nat}{o:Oper}{a:Act}{w:World}{K K':Act->World->Prop}{Q Q':Exit->Act->World->Prop}(h:∀a w,K a w->K' a w)(hq:∀e a w,Q e a w->Q' e a w)
  (hh:o.wpIn (fen ρ) 0 P a w K Q):o.wpIn (fen ρ) 0 P a w K' Q':=by
 unfold Oper.wpIn at *
 refine⟨hh.1,?_⟩
 have hh:=hh.2
 generalize (o.semAt (fen ρ).round a.eval).run P w=r at *
 cases r with
 |ok n w' =>
  cases n <;> simp only[Oper.uponIn]at hh⊢ <;>
   first
    |exact h _ _ hh
    |exact⟨hh.1,CallsIn.mono hh.2 (fun e w'' he=>by cases e <;> first|exact h _ _ he|exact hq _ _ _ he|exact he.elim fun a he=>he.elim fun w he=>⟨a,w,hq _ _ _ he⟩)⟩
    |exact⟨hh.1,RowsIn.mono hh.2 (fun _ _ he=>h _ _ he)⟩
    |exact⟨hh.1,RoundIn.mono hh.2 (fun e w'' he=>by cases e <;> first|exact h _ _ he|exact hq _ _ _ he|exact he.elim fun a he=>he.elim fun w he=>⟨a,w,hq _ _ _ he⟩)⟩
 |halt x w'=>cases x <;> simp only[Oper.uponIn]at hh⊢ <;> first|exact hq _ _ _ hh|exact hh
theorem ym{P:Program}{ρ:Option Nat}{ops:Array Oper}{Q Q':Exit->Act->World->Prop}(hq:∀e a w,Q e a w->Q' e a w):∀(l:List Nat) (a:Act) (w:World),wpOpsIn (fen ρ) 0 P ops Q l a w->wpOpsIn (fen ρ) 0 P ops Q' l a w
 | [],a,w,h=>hq _ _ _ h
 |i::r,a,w,h=>by
  simp only[wpOpsIn]at h⊢
  cases ho:ops[i]? with
  |none=>rw[ho]at h;exact ym hq r a w h
  |some o =>
   rw[ho]at h
   simp only at h⊢
   split
   ·rename_i hw
    rw[if_pos hw]at h
    exact Oper.wp_mono' (fun a w=>ym hq r a w) hq h
   ·rename_i hw
    rw[if_neg hw]at h
    exact⟨h.1,ym hq r _ _ h.2⟩
def ks[Lay](n:Nat)(U:Nat->Prop)(g:G)(w:World)(Q:St->Prop)(e:Exit)(a':Act)(w':World):Prop :=
 e = .normal/\∃g' β' st',Rel n g' β' U noY st' a' w'/\Grow U g g'/\Kept U w w'/\Q st'
section
variable {P:Program} {n:Nat} {g:G} {β:Nat->Nat} {U:Nat->Prop} {st:St} {a:Act} {w:World} {o:Oper} {ops:List Oper} {i:Nat}
theorem OpsSem.at[Lay]{ρ:Option Nat}{Q:St->Prop}{g0:G}{w0:World}(h:OpsSem P n ops i st Q)(r:Rel n g β U (yOf ops a) st a w)(hm:qfj i st)(hc:qgr ops i a)(hg:Grow U g0 g)(hk:Kept U w0 w) :
  wpOpsIn (fen ρ) 0 P ops.toArray (ks n U g0 w0 Q) (List.range' i (ops.length-i)) a w :=
 ym (fun _ _ _ ⟨e,g',β',st',h1,h2,h3,h4⟩=>⟨e,g',β',st',h1,hg.trans h2,hk.trans h3,h4⟩) _ _ _ (h ρ g β U a w r hm hc)
theorem b7(h:bm ops=true){j k t:Nat}(hj:jf ops j=some t)(hk:jf ops k=some t):j=k:=by
 have hn:(ops.filterMap (·.dst)).Nodup:=by simpa[bm] using h
 clear h
 induction ops generalizing j k with
 |nil=>simp[jf]at hj
 |cons o r ih =>
  cases hd:o.dst with
  |none =>
   rw[List.filterMap_cons,hd]at hn
   cases j with
   |zero=>simp[jf,hd]at hj
   |succ j =>
    cases k with
    |zero=>simp[jf,hd]at hk
    |succ k=>have:=ih (j:=j) (k:=k) (by simpa[jf] using hj) (by simpa[jf] using hk) hn;omega
  |some s =>
   rw[List.filterMap_cons,hd]at hn
   simp only[List.nodup_cons]at hn
   have hin:∀{m:Nat},jf r m=some s->False:=by
    intro m hm
    apply hn.1
    simp only[jf]at hm
    cases hr:r[m]? with
    |none=>rw[hr]at hm;cases hm
    |some o'=>rw[hr]at hm;exact List.mem_filterMap.2 ⟨o',List.mem_of_getElem? hr,by simpa using hm⟩
   cases j with
   |zero =>
    have hs:s=t:=by simpa[jf,hd] using hj
    subst hs
    cases k with
    |zero=>rfl
    |succ k=>exact(hin (by simpa[jf] using hk)).elim
   |succ j =>
    cases k with
    |zero =>
     have hs:s=t:=by simpa[jf,hd] using hk
     subst hs
     exact(hin (by simpa[jf] using hj)).elim
    |succ k=>have:=ih (j:=j) (k:=k) (by simpa[jf] using hj) (by simpa[jf] using hk) hn.2;omega
theorem b8:∀{ops:List Oper} {k j:Nat} {o:Oper} {q:Nat×Bool},px k ops=true->ops[j]? = some o->o.guard=some q->q.1<k+j
 | [],_,_,_,_,_,h,_=>by simp at h
 |o'::r,k,j,o,q,h,ho,hg=>by
  simp only[px,Bool.and_eq_true]at h
  cases j with
  |zero =>
   simp at ho;subst ho
   rw[hg]at h
   have:=up.1 h.1
   omega
  |succ j =>
   have:=b8 (k:=k+1) h.2 (by simpa using ho) hg
   omega
structure y5(n:Nat)(ops:List Oper):Prop where
 apart:bm ops=true
 isIn:∀j t,jf ops j=some t->t<n
 back:∀{j:Nat} {o:Oper} {q:Nat×Bool},ops[j]? = some o->o.guard=some q->q.1<j
theorem wl(h:yw n ops=true):y5 n ops:=by
 simp only[yw,Bool.and_eq_true]at h
 obtain⟨⟨h1,h2⟩,h3⟩:=h
 refine⟨h1,fun j t hj=> ?_,fun ho hg=>by have:=b8 h3 ho hg;omega⟩
 simp only[jf]at hj
 cases ho:ops[j]? with
 |none=>rw[ho]at hj;cases hj
 |some o =>
  rw[ho]at hj
  have hd:o.dst=some t:=by simpa using hj
  have:=List.all_eq_true.1 h2 o (List.mem_of_getElem? ho)
  rw[hd]at this
  exact up.1 this
theorem y6{j t:Nat}{v:Value}(h:jf ops j≠some t):yielded ops.toArray (a.put (some t) v).tmps j=yielded ops.toArray a.tmps j:=by
 unfold yielded
 have h1:((ops.toArray[j]?).bind (·.dst))=jf ops j:=by simp[jf]
 rw[h1]
 cases hd:jf ops j with
 |none=>rfl
 |some s =>
  have hne:t≠s:=fun e=>h (by rw[hd,e])
  simp[Act.put,Array.getElem?_setIfInBounds_ne hne]
theorem b9{j:Nat}(h:∀t,jf ops j=some t->a.tmps.getD t undef=undef):yielded ops.toArray a.tmps j=none:=by
 unfold yielded
 have h1:((ops.toArray[j]?).bind (·.dst))=jf ops j:=by simp[jf]
 rw[h1]
 cases hd:jf ops j with
 |none=>rfl
 |some s =>
  have:=h s hd
  cases hs:a.tmps[s]? with
  |none=>simp[hs]
  |some v=>simp[hs]at this;simp[hs,this,undef]
theorem qj5[Lay](k:y5 n ops)(r:Rel n g β U (yOf ops a) st a w)(hm:qfj i st)(hc:qgr ops i a)(ho:ops[i]? = some o){v:Value}{d:D}
  (hv:∀t,RS g β (yOf ops (a.put o.dst v)) t d v) (hno:∀cs,d≠ .own cs) (hb:Live (yOf ops (a.put o.dst v)) d->∀s,q9 d=some s->∃cs,qo st.sl s=some (.own cs))
  (hmay:∀j w0 e,d = .may j w0 e->j<i) (hw:∀q,o.guard=some q->yielded ops.toArray a.tmps q.1=some q.2\/v=undef) :
  Rel n g β U (yOf ops (a.put o.dst v)) {st with sl:=j4 st.sl o.dst d} (a.put o.dst v) w/\qfj (i+1) {st with sl:=j4 st.sl o.dst d}/\qgr ops (i+1) (a.put o.dst v):=by
 have hdst:∀j,j≠i->∀t,o.dst=some t->jf ops j≠some t:=fun j hj t ht h=>hj (b7 k.apart h (by simp[jf,ho,ht]))
 have hyield:∀j,j≠i->yielded ops.toArray (a.put o.dst v).tmps j=yielded ops.toArray a.tmps j:=by
  intro j hj
  cases hd:o.dst with
  |none=>rfl
  |some t=>exact y6 (hdst j hj t hd)
 refine⟨?_,?_,?_⟩
 ·cases hd:o.dst with
  |none =>
   have h1:a.put none v=a:=rfl
   simp only[h1,j4]
   exact r
  |some t =>
   simp only[j4]
   rw[hd]at hv hb
   refine r.put (y':=yOf ops (a.put (some t) v)) (k.isIn i t (by simp[jf,ho,hd])) ?_ (fun cs=> ?_) (fun hl s hs=> ?_) (fun s j w0 e hs hl hy=> ?_)
   ·cases xf d t
    ·exact hv t
    ·trivial
   ·cases xf d t
    ·exact hno cs
    ·simp
   ·cases hp:xf d t with
    |true=>rw[hp]at hs;cases hs
    |false =>
     rw[hp]at hs hl
     simp only[cond_false]at hs hl
     refine⟨fun e=> ?_,hb hl s hs⟩
     subst e
     rw[yi hs]at hp;cases hp
   ·have:=hm _ _ _ _ hl
    have h2:=hyield j (by omega)
    rw[hd]at h2
    unfold yOf at hy⊢
    rw[<-h2];exact hy
 ·intro t j w0 e hl
  cases hd:o.dst with
  |none=>rw[hd]at hl;have:=hm t j w0 e hl;omega
  |some t' =>
   rw[hd]at hl
   rcases zj r.keys hl with ⟨_,h2⟩|⟨_,_,h3⟩
   ·cases hp:xf d t' with
    |true=>rw[hp]at h2;cases h2
    |false=>rw[hp]at h2;have:=hmay j w0 e h2.symm;omega
   ·have:=hm t j w0 e h3;omega
 ·intro j o' j1 w1 hj ho' hg hy
  have hb1:=k.back ho' hg
  simp only at hb1
  by_cases hji:j=i
  ·subst hji
   rw[ho]at ho';cases ho'
   rw[hyield j1 (by omega)]
   rcases hw _ hg with h|h
   ·exact h
   ·subst h
    refine absurd (b9 fun t ht=> ?_) hy
    have hd:o.dst=some t:=by simpa[jf,ho] using ht
    rw[hd,xo (by rw[r.size];exact k.isIn j t ht)]
  ·rw[hyield j hji]at hy
   rw[hyield j1 (by omega)]
   exact hc j o' j1 w1 (by omega) ho' hg hy
theorem zi{s:Nat}:∀{i j:Nat},xc ops s i=some j->j<i/\jf ops j=some s
 |0,_,h=>by simp[xc]at h
 |i+1,j,h=>by
  simp only[xc]at h
  cases hd:jf ops i with
  |none=>rw[hd]at h;have:=zi h;exact⟨by omega,this.2⟩
  |some t =>
   rw[hd]at h
   simp only at h
   cases hb:Nat.beq s t with
   |true=>rw[hb]at h;cases h;have:=qq.1 hb;subst this;exact⟨by omega,hd⟩
   |false=>rw[hb]at h;have:=zi h;exact⟨by omega,this.2⟩
theorem ef[Lay]{D:Nat->Prop}(r:Rel n g β U (yOf ops a) st a w)(hc:u5 ops D a)(hd:nf ops D){cl:List (Nat×Bool)}(hcl:∀p∈cl,yOf ops a p.1 p.2){c x z:Operand}(hwho:∀s j,c = .tmp s->xc ops s i=some j->D j)(ho:o.op = .pick c x z){d:Ab.D}
  (h:fe st.sl cl ops i c x z=some d):∃v,(execOp a.eval o).run P w = .ok (.value v) w/\R g d v:=by
 have e:=wj r hcl
 have hclw:∀(b:Bool),a.eval c = .bool b->∀p∈clW ops i cl c b,yOf ops a p.1 p.2:=by
  intro b hb p hp
  cases c with
  |tmp s =>
   simp only[clW]at hp
   cases hw:xc ops s i with
   |none=>rw[hw]at hp;exact hcl p hp
   |some j =>
    rw[hw]at hp
    simp only[List.mem_append]at hp
    rcases hp with hp|hp
    ·exact xw hc hd 40 (j,b) (fun _=>hwho s j rfl hw) (m6 (zi hw).2 hb) p hp
    ·exact hcl p hp
  |_=>exact hcl p hp
 unfold fe at h
 split at h
 ·rename_i bc bx bz h1 h2 h3
  cases h
  have hcv:a.eval c = .bool bc:=by have:=e.data (x:=c) (by rw[h1];rfl);rw[h1]at this;simpa[R] using this
  have hx:bc=true->a.eval x = .bool bx:=by
   intro hb
   have e2:=wj r (hclw true (by rw[hcv,hb]))
   have:=e2.data (x:=x) (by rw[h2];rfl)
   rw[h2]at this;simpa[R] using this
  have hz:bc=false->a.eval z = .bool bz:=by
   intro hb
   have e2:=wj r (hclw false (by rw[hcv,hb]))
   have:=e2.data (x:=z) (by rw[h3];rfl)
   rw[h3]at this;simpa[R] using this
  refine⟨.bool (bif bc then bx else bz),?_,by simp only[R]⟩
  cases bc with
  |true=>simp[execOp,ho,hcv,hx rfl,asBool]
  |false=>simp[execOp,ho,hcv,hz rfl,asBool]
 ·cases h
theorem Ext.at_[Lay]{g':G}{w':World}(r:Rel n g β U (yOf ops a) st a w)(x:Ext g w g' w'):Rel n g' β U (yOf ops a) st a w'/\Grow U g g'/\Kept U w w' :=
 ⟨r.ext x,x.grow r.inv.ub,x.kept r.inv.ub⟩
theorem dc{ρ:Option Nat}{ev:Operand->Value}{x:Next}{w':World}(hx:∀d,x≠ .defer d)(hy:(execOp ev o).run P w = .ok x w'):(o.semAt ρ ev).run P w = .ok x w':=by
 by_cases hd:∃c,o.op = .defer c
 ·obtain⟨c,hd⟩:=hd
  exfalso
  simp only[execOp,hd,Sem.run_bind]at hy
  cases hr:(resolve ev c o.type).run P w with
  |ok d w1=>rw[hr]at hy;simp at hy;exact hx _ hy.1.symm
  |halt y w1=>rw[hr]at hy;simp at hy
 ·rw[Oper.semAt_eq ρ ev o fun c h=>hd ⟨c,h⟩];exact hy
theorem zg{ρ:Option Nat}{K:Act->World->Prop}{Q:Exit->Act->World->Prop}{v:Value}{w':World}(hy:qdu P a o w v w')(h:K (a.put o.dst v) w'):o.wpIn (fen ρ) 0 P a w K Q:=by
 refine⟨fun _ _=>trivial,?_⟩
 rcases hy with hy|⟨hy,rfl⟩
 ·rw[dc (by simp) hy];exact h
 ·rw[dc (by simp) hy];exact h
theorem dd{ρ:Option Nat}{K:Act->World->Prop}{Q:Exit->Act->World->Prop}{f:Nat}{vs:Array Value}{w':World}(hy:(execOp a.eval o).run P w = .ok (.enter f vs) w'){R:Ending->World->Prop}(hc:Calls P f vs w' R)
  (h:∀e w'',R e w''->∃v,e = .returned v/\K (a.put o.dst v) w''):o.wpIn (fen ρ) 0 P a w K Q:=by
 refine⟨fun _ _=>trivial,?_⟩
 rw[dc (by simp) hy]
 refine⟨fun h=>Bool.noConfusion (show false=true from h),CallsIn.mono (F:=fen ρ) (show CallsIn (fen ρ) (0-1) P f vs w' R from callsIn_wide.2 hc) fun e w'' he=>by obtain⟨v,rfl,hk⟩:=h e w'' he;exact hk⟩
theorem qd1{ρ:Option Nat}{K:Act->World->Prop}{Q:Exit->Act->World->Prop}{l f:Nat}{tmps:Array Value}{asg body:Code}{w':World}(hy:(execOp a.eval o).run P w = .ok (.round l f tmps asg body) w'){R:Ending->World->Prop}(hc:RoundIn (fen ρ) 0 P l f tmps asg body w' R)
  (h:∀e w'',R e w''->∃v,e = .returned v/\K (a.put o.dst v) w''):o.wpIn (fen ρ) 0 P a w K Q:=by
 refine⟨fun _ _=>trivial,?_⟩
 rw[dc (by simp) hy,Oper.uponIn_round]
 refine⟨fun h=>Bool.noConfusion (show false=true from h),RoundIn.mono (F:=fen ρ) (show RoundIn (fen ρ) (0-1) P l f tmps asg body w' R from hc) fun e w'' he=>by obtain⟨v,rfl,hk⟩:=h e w'' he;exact hk⟩
theorem Pure.at[Lay]{f:Nat}{args:List D}{v:D}(p:Pure P f args v)(r:Rel n g β U (yOf ops a) st a w){vs:List Value}(hs:Rs g args vs) :
  Calls P f vs.toArray w fun e w'=>∃(x:Value) (g':G),e = .returned x/\R g' v x/\Ext g w g' w' :=
 Calls.mono (p.calls g w vs r.inv.ltab r.inv.sub hs) fun _e _w' ⟨x,σ',h1,h2,h3,h4,h5,h6⟩ =>
  ⟨x,⟨σ',g.μ,g.τ⟩,h1,h2,⟨⟨h3,fun _ _ h=>h,fun _ k h=>⟨k,h,rfl,Nat.le_refl _,fun _=>rfl⟩⟩,rfl,rfl,h5,h4,h6⟩⟩
def qlm(st:St)(β:Nat->Nat)(U:Nat->Prop):Nat->Prop:=fun b=>U b\/∃t cs,qo st.sl t=some (.own cs)/\b=β t
theorem Rel.inU[Lay]{y:Nat->Bool->Prop}(r:Rel n g β U y st a w):Inv g (qlm st β U) st.h w:=by
 have i:=r.inv
 refine⟨i.sub,fun b hb=> ?_,i.muLt,fun l row e=> ?_,i.boxInj,fun t m e=> ?_,i.tokBox,i.tokInj,i.frL,i.frT,i.frV,i.ltab⟩
 ·rcases hb with hb|⟨t,cs,h1,rfl⟩
  ·exact i.ub b hb
  ·exact(r.own t cs h1).1.lt
 ·obtain⟨b,h1,h2,h3,h4⟩:=i.box l row e
  refine⟨b,h1,h2,fun hu=> ?_,h4⟩
  rcases hu with hu|⟨t,cs,h5,rfl⟩
  ·exact h3 hu
  ·exact(r.own t cs h5).2.2.2.1 l (by rw[e];simp) h1
 ·obtain⟨k,h1,h2,h3⟩:=i.tok t m e
  refine⟨k,h1,h2,fun hk=> ?_⟩
  obtain⟨b,e1,e2,e3⟩:=h3 hk
  refine⟨b,e1,fun hu=> ?_,e3⟩
  rcases hu with hu|⟨t',cs,h5,rfl⟩
  ·exact e2 hu
  ·exact(r.own t' cs h5).2.2.2.2 t m k e h1 hk e1
theorem Rel.outU[Lay]{y:Nat->Bool->Prop}(r:Rel n g β U y st a w){g':G}{h':Heap}{w':World}(h3:Inv g' (qlm st β U) h' w')(h4:Grow (qlm st β U) g g')(h5:Kept (qlm st β U) w w') :
  Rel n g' β U y {sl:=st.sl,h:=h' } a w'/\Grow U g g'/\Kept U w w':=by
 refine⟨?_,⟨h4.le,fun c v hc=> ?_⟩,⟨h5.os,h5.tape,h5.output,h5.size,fun b hb=>h5.block b (.inl hb),h5.defs⟩⟩
 ·refine⟨r.defers.kept h5.defs,r.size,r.keys,fun t d h=>(r.slot t d h).mono h4.le,r.base,fun t cs h=> ?_,r.ownInj,?_⟩
  ·obtain⟨e1,e2,e3,e4,e5⟩:=r.own t cs h
   have hu:qlm st β U (β t):= .inr ⟨t,cs,h,rfl⟩
   refine⟨e1.mono h4.le (h5.block _ hu),e2,fun c v hc hb=> ?_,fun l hl hb=> ?_,fun t' m k e f1 f2 f3=> ?_⟩
   ·rcases h4.new c v hc with h7|h7
    ·exact e3 c v h7 hb
    ·exact h7 (by rw[hb];exact hu)
   ·cases hrow:h'.box l with
    |none=>exact hl hrow
    |some row =>
     obtain⟨b,f1,_,f3,_⟩:=h3.box l row hrow
     rw[hb]at f1;cases f1
     exact f3 hu
   ·obtain⟨k',f4,f5,f6⟩:=h3.tok t' m e
    rw[f1]at f4;cases f4
    obtain⟨b,f7,f8,_⟩:=f6 f2
    rw[f3]at f7;cases f7
    exact f8 hu
  ·refine⟨h3.sub,fun b hb=>h3.ub b (.inl hb),h3.muLt,fun l row e=> ?_,h3.boxInj,fun t m e=> ?_,h3.tokBox,h3.tokInj,h3.frL,h3.frT,h3.frV,h3.ltab⟩
   ·obtain⟨b,f1,f2,f3,f4⟩:=h3.box l row e
    exact⟨b,f1,f2,fun hu=>f3 (.inl hu),f4⟩
   ·obtain⟨k,f1,f2,f3⟩:=h3.tok t m e
    refine⟨k,f1,f2,fun hk=> ?_⟩
    obtain⟨b,e1,e2,e3⟩:=f3 hk
    exact⟨b,e1,fun hu=>e2 (.inl hu),e3⟩
 ·rcases h4.new c v hc with h7|h7
  ·exact .inl h7
  ·exact .inr fun hu=>h7 (.inl hu)
theorem CallA.at[Lay]{f:Nat}{args:List D}{K:D->Heap->Prop}(p:CallA P f args st.h K){y:Nat->Bool->Prop}(r:Rel n g β U y st a w){vs:List Value}(hs:Rs g args vs) :
  Calls P f vs.toArray w fun e w'=>∃(x:Value) (g':G) (d:D) (h':Heap),e = .returned x/\R g' d x/\Rel n g' β U y {sl:=st.sl,h:=h' } a w'/\Grow U g g'/\Kept U w w'/\K d h' :=
 Calls.mono (p.calls g (qlm st β U) w vs r.inU hs) fun e w' ⟨x,g',d,h',h1,h2,h3,h4,h5,h6⟩=>by
  obtain⟨r1,g1,k1⟩:=r.outU h3 h4 h5
  exact⟨x,g',d,h',h1,h2,r1,g1,k1,h6⟩
theorem CallE.at[Lay]{f:Nat}{args:List D}{K:D->Heap->Prop}(p:CallE P f args st.h K){y:Nat->Bool->Prop}(r:Rel n g β U y st a w){vs:List Value}(hs:Rs g args vs) :
  ∃(x:Value) (w':World) (g':G) (d:D) (h':Heap),(callFunc f vs.toArray).run P w = .ok (.value x) w'/\R g' d x/\Rel n g' β U y {sl:=st.sl,h:=h' } a w'/\Grow U g g'/\Kept U w w'/\K d h':=by
 obtain⟨x,w',g',d,h',h1,h2,h3,h4,h5,h6⟩:=p.calls g (qlm st β U) w vs r.inU hs
 obtain⟨r1,g1,k1⟩:=r.outU h3 h4 h5
 exact⟨x,w',g',d,h',h1,h2,r1,g1,k1,h6⟩
theorem CallY.at[Lay]{l:Nat}{args:List D}{K:D->Heap->Prop}(p:CallY P l args st.h K){y:Nat->Bool->Prop}(r:Rel n g β U y st a w){vs:List Value}{b:Nat}(hs:Rs g args vs)(hb:g.μ l=some b) :
  ∃(f:Nat) (tmps:Array Value) (asg body:Code),(Instr.yield b vs.toArray).run P w = .ok (.round b f tmps asg body) w /\
   ∀ρ,RoundIn (fen ρ) 0 P b f tmps asg body w fun e w'=>∃(x:Value) (g':G) (d:D) (h':Heap),e = .returned x/\R g' d x/\Rel n g' β U y {sl:=st.sl,h:=h' } a w'/\Grow U g g'/\Kept U w w'/\K d h':=by
 obtain⟨q,h1,h2,h3⟩:=p.calls g (qlm st β U) w vs b r.inU hs hb
 refine⟨_,_,_,_,run_yield h1 h2,fun ρ=>RoundIn.mono (h3 ρ) fun e w' ⟨x,g',d,h',h1,h2,h3,h4,h5,h6⟩=> ?_⟩
 obtain⟨r1,g1,k1⟩:=r.outU h3 h4 h5
 exact⟨x,g',d,h',h1,h2,r1,g1,k1,h6⟩
end
def SlSame(st st':St):Prop:=st'.sl=st.sl\/∃s cs,st'.sl=setOwn st.sl s cs
theorem SlSame.may{st st':St}(h:SlSame st st'){t j:Nat}{w0:Bool}{d:D}(hl:qo st'.sl t=some (.may j w0 d)):qo st.sl t=some (.may j w0 d):=by
 rcases h with h|⟨s,cs,h⟩
 ·rw[h]at hl;exact hl
 ·rw[h]at hl
  by_cases hs:t=s
  ·subst hs
   cases h0:qo st.sl t with
   |none =>
    have:∀sl:qu,qo sl t=none->qo (setOwn sl t cs) t=none:=by
     intro sl;induction sl with
     |nil=>intro _;rfl
     |cons x r ih =>
      obtain⟨x1,x2⟩:=x
      intro h1
      simp only[qo]at h1
      cases hb:Nat.beq x1 t with
      |true=>rw[hb]at h1;simp at h1
      |false =>
       rw[hb]at h1
       simp only[cond_false]at h1
       simp only[setOwn,List.map_cons,hb,cond_false,qo]
       exact ih h1
    rw[this _ h0]at hl;cases hl
   |some e=>rw[jj _ _ _ h0]at hl;cases hl
  ·rw[qy _ _ _ _ hs]at hl;exact hl
theorem qz{c:Bool}{A:Res}{p:Prop}{st':St}{d:D}(h:(bif c then A else .bad) = .eff p st' d):A = .eff p st' d:=by
 cases c
 ·cases h
 ·exact h
theorem qgy{c:Bool}{A:Res}{p:Prop}{st':St}{d:D}(h:(bif c then .bad else A) = .eff p st' d):A = .eff p st' d:=by
 cases c
 ·exact h
 ·cases h
theorem vg{x:Option D}{p:Prop}{st':St}{d:D}(h:ul x = .eff p st' d):False:=by cases x <;> cases h
theorem s7{cfg:Cfg}{st:St}{dst tag:Option Nat}{cs:List D}{p:Prop}{st':St}{d:D}(h:ux cfg st dst tag cs = .eff p st' d):st'.sl=st.sl:=by
 unfold ux at h
 split at h
 ·rename_i t
  cases he:cfg.esc t with
  |true=>rw[he]at h;cases h;rfl
  |false=>rw[he]at h;cases h
 ·cases h
theorem qft{P:Program}{op:BinOp}{T:Nat}{x z:D}{p:Prop}{st1:St}{d:D}(h:qjb P op T x z = .eff p st1 d):False:=by
 unfold qjb at h
 split at h
 ·split at h
  ·cases h
  ·cases h
  ·replace h:=qz h;split at h <;> cases h
 ·split at h <;> cases h
 ·split at h <;> cases h
 ·replace h:=qgy h;split at h <;> cases h
 ·replace h:=qz h;split at h <;> cases h
 ·cases h
theorem lc{P:Program}{op:BinOp}{T:Nat}{y:Operand}{x z:D}{p:Prop}{st1:St}{d:D}(h:qgk P op T y x z = .eff p st1 d):False:=by
 unfold qgk at h
 cases hz:r7 y with
 |true =>
  rw[hz]at h
  simp only[cond_true,qqv]at h
  split at h <;> cases h
 |false =>
  rw[hz]at h
  simp only[cond_false]at h
  cases hy:bj y with
  |true =>
   rw[hy]at h
   simp only[cond_true,qjm]at h
   split at h
   ·cases h
   ·cases h
   ·replace h:=qz h;cases h
   ·replace h:=qz h;cases h
   ·cases h
  |false=>rw[hy]at h;exact qft h
theorem qd2{P:Program}{st:St}{bx vx:Bool}{t:Nat}{x z:D}{p:Prop}{st':St}{d:D}(h:qlj P st bx vx t x z = .eff p st' d):st'.sl=st.sl:=by
 unfold qlj at h
 split at h
 ·split at h
  ·rename_i sz b zd _ _ _
   cases hc:(isD zd&&Nat.beq (ql zd).length sz) with
   |false=>rw[hc]at h;cases h
   |true =>
    rw[hc]at h;simp only[cond_true]at h
    split at h
    ·rename_i n0 ez f own m g _
     cases hc3:(bif Nat.beq ez sz then true else Nat.beq n0 0) with
     |false=>rw[hc3]at h;cases h
     |true =>
      rw[hc3]at h;simp only[cond_true]at h
      split at h
      ·cases h
      ·cases h
      ·cases vx with
       |true=>cases h;rfl
       |false =>
        cases bx with
        |true=>cases h;rfl
        |false=>cases h;rfl
      ·rename_i tk tz
       split at h
       ·cases h
       ·cases hc4:Nat.beq sz tz with
        |false=>rw[hc4]at h;cases h
        |true=>rw[hc4]at h;cases h;rfl
    ·rename_i tk n0 ez m g _
     cases hc4:Nat.beq ez sz with
     |false=>rw[hc4]at h;cases h
     |true =>
      rw[hc4]at h
      simp only[cond_true]at h
      split at h
      ·cases h;rfl
      ·cases h
    ·replace h:=qz h
     split at h
     ·cases h;rfl
     ·cases h
    ·cases h
  ·cases h
 ·cases h
theorem qgz{P:Program}{st:St}{T:Nat}{x y:D}{p:Prop}{st':St}{d:D}(h:qak P st T x y = .eff p st' d):st'.sl=st.sl:=by
 unfold qak at h
 split at h
 ·split at h
  ·cases h;rfl
  ·cases h
 ·split at h
  ·cases h;rfl
  ·cases h
 ·cases h
theorem qa2{P:Program}{st:St}{bx vx:Bool}{b:Builtin}{ts:List Nat}{l:List D}{p:Prop}{st':St}{d:D}(h:ww P st bx vx b ts l = .eff p st' d):st'.sl=st.sl:=by
 unfold ww at h
 split at h
 ·split at h <;> cases h
 ·split at h <;> cases h
 ·split at h <;> cases h
 ·split at h <;> cases h
 ·split at h <;> cases h
 ·split at h
  ·exact qd2 h
  ·exact qd2 h
  ·cases h
 ·exact qgz h
 ·split at h <;> cases h
 ·split at h <;> cases h
 ·cases h
theorem qg0{P:Program}{st:St}{s t:Nat}{x:D}{p:Prop}{st':St}{d:D}(h:r8 P st s t x = .eff p st' d):st'.sl=st.sl:=by
 unfold r8 at h
 split at h
 ·split at h
  ·cases h;rfl
  ·cases h
 ·cases h
theorem qg1{b:Bool}{x y:Res}{p:Prop}{st':St}{d:D}(h:(bif b then x else y) = .eff p st' d):x = .eff p st' d\/y = .eff p st' d:=by
 cases b
 ·exact .inr h
 ·exact .inl h
theorem qj6{st:St}{vx:Bool}{r:Option D}{p:Prop}{st':St}{d:D}(h:qjo st vx r = .eff p st' d):st'.sl=st.sl:=by
 unfold qjo at h
 split at h
 ·rename_i n _ _ _
  cases hc:(vx&&Nat.blt 0 n) with
  |true=>rw[hc]at h;cases h;rfl
  |false=>rw[hc]at h;cases h
 ·cases h
 ·cases h
theorem qg2{P:Program}{st:St}{vx:Bool}{t:Nat}{l c:D}{p:Prop}{st':St}{d:D}(h:qam P st vx t l c = .eff p st' d):st'.sl=st.sl:=by
 unfold qam at h
 split at h
 ·split at h
  ·rename_i sz b z _ _ _
   cases hc:(isD z&&Nat.beq (ql z).length (sz+1)) with
   |false=>rw[hc]at h;cases h
   |true =>
    rw[hc]at h
    simp only[cond_true]at h
    cases vx with
    |true=>replace h:=qz h;cases h;rfl
    |false=>cases h;rfl
  ·cases h
 ·cases h
theorem qa3{P:Program}{st:St}{t:Nat}{x v:D}{p:Prop}{st':St}{d:D}(h:xa P st t x v = .eff p st' d):SlSame st st':=by
 unfold xa at h
 split at h
 ·rename_i m _ _
  cases hc:(Nat.beq (ql v).length m&&(ql v).all qce) with
  |false=>rw[hc]at h;cases h
  |true =>
   rw[hc]at h;simp only[cond_true]at h
   split at h
   ·rename_i s off
    split at h
    ·rename_i cs _
     cases hc2:Nat.ble (off+m) cs.length with
     |false=>rw[hc2]at h;cases h
     |true=>rw[hc2]at h;cases h;exact .inr ⟨_,_,rfl⟩
    ·cases h
   ·split at h
    ·split at h
     ·cases h;exact .inl rfl
     ·cases h
    ·cases h
   ·split at h
    ·replace h:=qz h;cases h;exact .inl rfl
    ·cases h
   ·cases h
 ·cases h
theorem de{P:Program}{h:Heap}{s t:Nat}{x:D}{p:Prop}{st1:St}{d:D}(he:wa P h s t x = .eff p st1 d):False:=by
 unfold wa at he
 split at he
 ·split at he <;> cases he
 ·split at he
  ·replace he:=qz he;cases he
  ·cases he
 ·split at he
  ·replace he:=qz he;cases he
  ·cases he
 ·unfold qjn at he;split at he <;> cases he
theorem qa4{P:Program}{st:St}{t:Nat}{r:Option D}{p:Prop}{st':St}{d:D}(h:wy P st t r = .eff p st' d):st'.sl=st.sl:=by
 unfold wy at h
 split at h
 ·split at h
  ·replace h:=qz h;cases h;rfl
  ·cases h
 ·cases h
theorem dh{P:Program}{hp:Heap}{t:Nat}{x i:D}{ok:Bool}{p:Prop}{st':St}{d:D}(h:fd P hp t x i ok = .eff p st' d):False:=by
 unfold fd at h
 split at h
 ·split at h
  ·replace h:=qz h;cases h
  ·cases h
 ·cases h
theorem ld{P:Program}{st:St}{t:Nat}{m k v:D}{p:Prop}{st':St}{d:D}(h:uy P st t m k v = .eff p st' d):st'.sl=st.sl:=by
 unfold uy at h
 split at h
 ·split at h
  ·split at h
   ·cases h;rfl
   ·cases h
  ·cases h
 ·cases h
theorem eg{P:Program}{cfg:Cfg}{st:St}{ev:Operand->D}{dst:Option Nat}{o:Op}{p:Prop}{st':St}{d:D}(h:opD P cfg st ev dst o = .eff p st' d):SlSame st st':=by
 unfold opD at h
 split at h
 ·split at h <;> cases h
 ·split at h <;> cases h
 ·split at h
  ·exact .inl (s7 (qz h))
  ·cases h
 ·exact .inl (s7 (qz h))
 ·exact(vg h).elim
 ·exact .inl (qj6 h)
 ·unfold fc at h
  split at h
  ·split at h
   ·exact(vg h).elim
   ·cases h
  ·exact(vg h).elim
  ·split at h
   ·unfold mt at h
    split at h
    ·exact(vg h).elim
    ·split at h
     ·replace h:=qz h;cases h
     ·cases h
     ·cases h
    ·cases h
    ·exact(vg h).elim
    ·cases h
   ·cases h
  ·split at h
   ·split at h
    ·replace h:=qz h;cases h
    ·cases h
   ·cases h
  ·cases h
 ·exact qa3 h
 ·unfold yh at h
  split at h <;> first|cases h|(replace h:=qz h;cases h)
 ·exact(lc h).elim
 ·unfold unD at h;split at h <;> cases h
 ·rcases qg1 h with h|h
  ·exact .inl (qg0 h)
  ·exact(de h).elim
 ·rename_i f first caps
  cases h1:(first.isEmpty&&ax (caps.toList.map ev)) with
  |true=>rw[h1]at h;cases h
  |false=>rw[h1]at h;replace h:=qz h;cases h
 ·unfold qgn at h
  split at h
  ·replace h:=qz h;cases h
  ·cases h
 ·exact .inl (qg2 h)
 ·unfold so at h
  split at h
  ·split at h
   ·replace h:=qz h;split at h <;> cases h
   ·cases h
  ·split at h <;> cases h
  ·split at h <;> cases h
  ·cases h
 ·unfold xv at h
  split at h
  ·split at h <;> cases h
  ·cases h
 ·unfold zz at h
  split at h
  ·split at h
   ·replace h:=qz h;cases h
   ·cases h
  ·split at h
   ·replace h:=qz h;cases h
   ·cases h
  ·split at h <;> cases h
  ·split at h
   ·replace h:=qz h;split at h <;> cases h
   ·cases h
  ·cases h
 ·unfold sq at h;split at h <;> cases h
 ·split at h
  ·exact(vg h).elim
  ·cases h
 ·unfold pw at h
  split at h
  ·cases h
  ·replace h:=qz h;cases h
  ·cases h
 ·exact .inl (qa4 h)
 ·exact(dh h).elim
 ·exact .inl (ld h)
 ·exact .inl (ld h)
 ·split at h
  ·split at h
   ·replace h:=qz h;cases h
   ·replace h:=qz h;cases h
   ·cases h
  ·exact .inl (qa2 (qz h))
  ·split at h
   ·split at h
    ·replace h:=qz h;cases h
    ·cases h
   ·cases h
 ·cases h
section
variable {P:Program} {n:Nat} {cfg:Cfg} {ops:List Oper}
theorem R.noOwn{g:G}{d:D}{v:Value}(h:R g d v):(∀cs,d≠ .own cs)/\(∀j w e,d≠ .may j w e)/\∀s,q9 d≠some s:=by
 cases d <;> first|(simp[R]at h;done)|exact⟨by simp,by simp,by simp[q9]⟩
theorem RS.ofRS0{g:G}{β:Nat->Nat}{y:Nat->Bool->Prop}{t:Nat}{d:D}{v:Value}(h:RS0 g β d v)(ho:vk d=true):RS g β y t d v:=by
 cases d <;> first|exact h|cases ho
theorem vu{d:D}(h:vk d=true):(∀cs,d≠ .own cs)/\∀j w e,d≠ .may j w e:=by
 cases d <;> first|exact Bool.noConfusion (show false=true from h)|exact⟨by simp,by simp⟩
theorem m7[Lay]{ρ:Option Nat}{Q:St->Prop}{i:Nat}{o:Oper}{g0 g:G}{β:Nat->Nat}{U:Nat->Prop}{st:St}{a:Act}{w0 w:World}(k:y5 n ops)(r:Rel n g β U (yOf ops a) st a w)(hm:qfj i st)(hc:qgr ops i a)(ho:ops[i]? = some o)
  (hg:Grow U g0 g) (hk:Kept U w0 w) {v:Value} {d:D}
  (hsem:OpsSem P n ops (i+1) {st with sl:=j4 st.sl o.dst d} Q)
  (hv:∀t,RS g β (yOf ops (a.put o.dst v)) t d v) (hno:∀cs,d≠ .own cs) (hb:Live (yOf ops (a.put o.dst v)) d->∀s,q9 d=some s->∃cs,qo st.sl s=some (.own cs))
  (hmay:∀j w0 e,d = .may j w0 e->j<i) (hw:∀q,o.guard=some q->yielded ops.toArray a.tmps q.1=some q.2\/v=undef) :
  wpOpsIn (fen ρ) 0 P ops.toArray (ks n U g0 w0 Q) (List.range' (i+1) (ops.length-(i+1))) (a.put o.dst v) w:=by
 obtain⟨h1,h2,h3⟩:=qj5 k r hm hc ho hv hno hb hmay hw
 exact hsem.at h1 h2 h3 hg hk
theorem m8[Lay]{call:qgo}(hcall:∀{f args h K},call f args h K->CallA P f args h K\/CallE P f args h K){Q Q0:St->Prop}{kc:Nat->St->Prop}(k:y5 n ops)(hq0:∀st,Q0 st->Q st)(hkc:∀i st,kc i st->OpsSem P n ops i st Q) :
  ∀(rest:List Oper) (i:Nat) (st:St),ops.drop i=rest->vj P cfg call (CallY P) (PCall P) ops (fun _=>false) kc i rest st Q0->OpsSem P n ops i st Q
 | [],i,st,h,he=>by
  intro ρ g β U a w r hm hc
  have hl:ops.length-i=0:=by have:=congrArg List.length h;simpa using this
  rw[hl]
  simp only[vj]at he
  exact⟨rfl,g,β,_,r.purged noY,Grow.refl U g,Kept.refl U w,hq0 _ he⟩
 |o::rest,i,st,h,he=>by
  intro ρ g β U a w r hm hc
  have hlt:i<ops.length:=by
   rcases Nat.lt_or_ge i ops.length with h1|h1
   ·exact h1
   ·rw[List.drop_eq_nil_of_le h1]at h;cases h
  have hcons:=List.drop_eq_getElem_cons hlt
  rw[h]at hcons
  have ho:ops[i]? = some o:=by
   rw[List.getElem?_eq_getElem hlt]
   exact congrArg some (List.cons.inj hcons).1.symm
  have hrest:ops.drop (i+1)=rest:=(List.cons.inj hcons).2.symm
  have hr:List.range' i (ops.length-i)=i::List.range' (i+1) (ops.length-(i+1)):=by
   have:ops.length-i=(ops.length-(i+1))+1:=by omega
   rw[this,List.range'_succ]
  have ih:∀st1,vj P cfg call (CallY P) (PCall P) ops (fun _=>false) kc (i+1) rest st1 Q0->OpsSem P n ops (i+1) st1 Q:=fun st1=>m8 hcall k hq0 hkc rest (i+1) st1 hrest
  have hget:ops.toArray[i]? = some o:=by simpa using ho
  have hdone:nf ops (· < i):=fun j o' j1 w1 hj ho' hg _=>by have:=k.back ho' hg;simp only at this;omega
  have hcD:u5 ops (· < i) a:=hc
  have hwho:∀(c:Operand) s j,c = .tmp s->xc ops s i=some j->j<i:=fun _ s j _ h=>(zi h).1
  show wpOpsIn (fen ρ) 0 P ops.toArray (ks n U g w Q) (List.range' i (ops.length-i)) a w
  rw[hr]
  simp only[wpOpsIn,hget]
  simp only[vj]at he
  cases hgd:o.guard with
  |none =>
   rw[hgd]at he
   simp only at he
   have hwant:Region.wanted o (yielded ops.toArray a.tmps)=true:=by simp[Region.wanted,hgd]
   rw[if_pos hwant]
   have hw:∀{v:Value} (q:Nat×Bool),o.guard=some q->yielded ops.toArray a.tmps q.1=some q.2\/v=undef:=fun q hq=>by rw[hgd]at hq;cases hq
   have hev:=wj r (cl:=[]) (by simp)
   have hres:=gv (P:=P) (cfg:=cfg) (o:=o) r hev
   split at he
   ·rename_i c x z hop
    split at he
    ·rename_i d hp
     obtain⟨v,h1,h2⟩:=ef (P:=P) r hcD hdone (cl:=[]) (by simp) (hwho c) hop hp
     obtain⟨n1,n2,n3⟩:=h2.noOwn
     exact zg (.inl h1) (m7 k r hm hc ho (Grow.refl U g) (Kept.refl U w) (ih _ he) (fun t=>RS.ofRS0 (RS0.ofR h2) (jq h2.isD)) n1 (fun _ s hs=>absurd hs (n3 s)) (fun j w0 e hj=>absurd hj (n2 j w0 e)) hw)
    ·exact he.elim
   ·rename_i hnp
    have hval:∀{d:D},DOk st.sl d->VOk P g β a o w d->OpsSem P n ops (i+1) {st with sl:=j4 st.sl o.dst d} Q ->
      o.wpIn (fen ρ) 0 P a w (wpOpsIn (fen ρ) 0 P ops.toArray (ks n U g w Q) (List.range' (i+1) (ops.length-(i+1)))) (ks n U g w Q):=by
     intro d hd ⟨v,w',g',h1,h2,h3⟩ hs
     obtain⟨r1,hg,hk⟩:=Ext.at_ r h2
     obtain⟨n1,n2⟩:=vu hd.1
     exact zg h1 (m7 k r1 hm hc ho hg hk hs (fun t=>RS.ofRS0 h3 hd.1) n1 (fun _ s hs=>hd.2 s hs) (fun j w0 e hj=>absurd hj (n2 j w0 e)) hw)
    cases hopd:opD P cfg st (evO st.sl []) o.dst o.op with
    |val d =>
     rw[hopd]at he hres
     exact hval hres.1 hres.2 (ih _ he)
    |nd p d =>
     rw[hopd]at he hres
     exact hval hres.1 (hres.2 he.1) (ih _ he.2)
    |asm p d =>
     rw[hopd]at he hres
     exact hval hres.2.1 hres.2.2 (ih _ (he hres.1))
    |new cs =>
     rw[hopd]at he hres
     obtain⟨hnd,T,vals,h1,h2⟩:=hres
     have hs:=ih _ he
     have hal:=Ext.alloc r.inv (.cells vals T (0,0))
     have hg:=hal.grow r.inv.ub
     have hk:=hal.kept r.inv.ub
     refine zg h1 ?_
     have hyield:∀j,j≠i->yielded ops.toArray (a.put o.dst (.pointer (some ⟨w.heap.size,0,none⟩))).tmps j=yielded ops.toArray a.tmps j:=by
      intro j hj
      cases hd:o.dst with
      |none=>rfl
      |some t=>exact y6 (fun hh=>hj (b7 k.apart hh (by simp[jf,ho,hd])))
     cases hd:o.dst with
     |none =>
      exact absurd hd hnd
     |some t =>
      have r1:=r.boxed (t:=t) (cs:=cs) (T:=T) (y':=yOf ops (a.put o.dst (.pointer (some ⟨w.heap.size,0,none⟩)))) (k.isIn i t (by simp[jf,ho,hd])) h2 (fun s j w0 e hs hl hy=>by
       have:=hm _ _ _ _ hl
       unfold yOf at hy⊢
       rw[<-hyield j (by omega)];exact hy)
      rw[hd]at r1 hs hyield
      refine hs.at r1 (fun s j w0 e hl=> ?_) (fun j o' j1 w1 hj ho' hg' hy=> ?_) hg hk
      ·rcases zj r.keys hl with ⟨_,h2⟩|⟨_,_,h3⟩
       ·cases h2
       ·have:=hm s j w0 e h3;omega
      ·have hb1:=k.back ho' hg'
       simp only at hb1
       by_cases hji:j=i
       ·subst hji
        rw[ho]at ho';cases ho'
        rw[hgd]at hg';cases hg'
       ·rw[hyield j hji]at hy
        rw[hyield j1 (by omega)]
        exact hc j o' j1 w1 (by omega) ho' hg' hy
    |eff p st' d =>
     have hsame:=eg hopd
     rw[hopd]at he hres
     simp only[cond_false]at he
     obtain⟨v,w',g',h1,r1,hg,hk,h3,h4⟩:=hres he.1
     have h3':=R.ofRS0 h3 h4
     obtain⟨n1,n2,n3⟩:=h3'.noOwn
     exact zg h1 (m7 k r1 (fun t j w0 e hl=>hm t j w0 e (hsame.may hl)) hc ho hg hk (ih _ he.2) (fun t=>RS.ofRS0 h3 (jq h4)) n1 (fun _ s hs=>absurd hs (n3 s)) (fun j w0 e hj=>absurd hj (n2 j w0 e)) hw)
    |call f args =>
     rw[hopd]at he hres
     simp only[cond_false]at he
     obtain⟨vs,h1,h2⟩:=hres
     rcases hcall he with he|he
     ·refine dd (h1.trans (vm he.ok _)) (he.at r h2) fun e w'' ⟨x,g',d,h',h3,h4,r1,hg,hk,h5⟩=>⟨x,h3,?_⟩
      obtain⟨n1,n2,n3⟩:=h4.noOwn
      exact m7 k r1 (fun t j w0 e hl=>hm t j w0 e hl) hc ho hg hk (hkc _ _ h5) (fun t=>RS.ofRS0 (RS0.ofR h4) (jq h4.isD)) n1 (fun _ s hs=>absurd hs (n3 s)) (fun j w0 e hj=>absurd hj (n2 j w0 e)) hw
     ·obtain⟨x,w',g',d,h',h3,h4,r1,hg,hk,h5⟩:=he.at r h2
      obtain⟨n1,n2,n3⟩:=h4.noOwn
      exact zg (.inl (h1.trans h3)) (m7 k r1 (fun t j w0 e hl=>hm t j w0 e hl) hc ho hg hk (hkc _ _ h5) (fun t=>RS.ofRS0 (RS0.ofR h4) (jq h4.isD)) n1 (fun _ s hs=>absurd hs (n3 s)) (fun j w0 e hj=>absurd hj (n2 j w0 e)) hw)
    |ycall l args =>
     rw[hopd]at he hres
     simp only[cond_false]at he
     obtain⟨b,vs,h0,h1,h2⟩:=hres
     obtain⟨f',tm,as,bd,h6,h7⟩:=he.at r h1 h0
     refine qd1 (h2 _ _ h6) (h7 ρ) fun e w'' ⟨x,g',d,h',h3,h4,r1,hg,hk,h5⟩=>⟨x,h3,?_⟩
     obtain⟨n1,n2,n3⟩:=h4.noOwn
     exact m7 k r1 (fun t j w0 e hl=>hm t j w0 e hl) hc ho hg hk (hkc _ _ h5) (fun t=>RS.ofRS0 (RS0.ofR h4) (jq h4.isD)) n1 (fun _ s hs=>absurd hs (n3 s)) (fun j w0 e hj=>absurd hj (n2 j w0 e)) hw
    |bad=>rw[hopd]at he;exact he.elim
  |some q =>
   obtain⟨j,w1⟩:=q
   rw[hgd]at he
   simp only at he
   have hji:j<i:=k.back ho hgd
   cases hgb:gB st.sl ops i 40 (j,w1) with
   |none=>rw[hgb]at he;exact he.elim
   |some b =>
    rw[hgb]at he
    simp only at he
    have hiff:=b6 r hcD hdone 40 (j,w1) b (fun _=>hji) hgb
    simp only at hiff
    have hyield:∀(v:Value),yielded ops.toArray (a.put o.dst v).tmps j=yielded ops.toArray a.tmps j:=by
     intro v
     cases hd:o.dst with
     |none=>rfl
     |some t=>exact y6 (fun hh=>(by omega:j≠i) (b7 k.apart hh (by simp[jf,ho,hd])))
    have hskip:∀{d:D},yielded ops.toArray a.tmps j≠some w1->(∀cs,d≠ .own cs)->(d = .may j w1 d\/d = .junk\/∃e,d = .may j w1 e)->OpsSem P n ops (i+1) {st with sl:=j4 st.sl o.dst d} Q ->
      wpOpsIn (fen ρ) 0 P ops.toArray (ks n U g w Q) (List.range' (i+1) (ops.length-(i+1))) (a.put o.dst undef) w:=by
     intro d hny hno hform hs
     have hlive:∀e,d = .may j w1 e->¬yOf ops (a.put o.dst undef) j w1:=by
      intro e _ hy
      unfold yOf at hy
      rw[hyield]at hy
      exact hny hy
     have hform':d = .junk\/∃e,d = .may j w1 e:=by
      rcases hform with h|h|h
      ·exact .inr ⟨d,h⟩
      ·exact .inl h
      ·exact .inr h
     refine m7 k r hm hc ho (Grow.refl U g) (Kept.refl U w) hs (fun t=> ?_) hno (fun hl s hs=> ?_) (fun j' w0 e hj=> ?_) (fun q _=> .inr rfl)
     ·rcases hform' with rfl|⟨e,rfl⟩
      ·trivial
      ·exact fun hy=>absurd hy (hlive e rfl)
     ·rcases hform' with rfl|⟨e,rfl⟩
      ·cases hs
      ·exact absurd hl (hlive e rfl)
     ·rcases hform' with rfl|⟨e',rfl⟩
      ·cases hj
      ·cases hj;exact hji
    by_cases hy:yielded ops.toArray a.tmps j=some w1
    ·
     have hb:b=true:=hiff.1 hy
     subst hb
     have hwant:Region.wanted o (yielded ops.toArray a.tmps)=true:=by simp[Region.wanted,hgd,hy]
     rw[if_pos hwant]
     have hw:∀{v:Value} (q:Nat×Bool),o.guard=some q->yielded ops.toArray a.tmps q.1=some q.2\/v=undef:=fun q hq=>by rw[hgd]at hq;cases hq;exact .inl hy
     have hcl:∀p∈xb ops i 40 (j,w1),yOf ops a p.1 p.2:=xw hcD hdone 40 (j,w1) (fun _=>hji) hy
     have hev:=wj r hcl
     have hres:=gv (P:=P) (cfg:=cfg) (o:=o) r hev
     have hval:∀{d:D},DOk st.sl d->VOk P g β a o w d->OpsSem P n ops (i+1) {st with sl:=j4 st.sl o.dst (.may j w1 d)} Q ->
       o.wpIn (fen ρ) 0 P a w (wpOpsIn (fen ρ) 0 P ops.toArray (ks n U g w Q) (List.range' (i+1) (ops.length-(i+1)))) (ks n U g w Q):=by
      intro d hd ⟨v,w',g',h1,h2,h3⟩ hs
      obtain⟨r1,hg,hk⟩:=Ext.at_ r h2
      refine zg h1 (m7 k r1 hm hc ho hg hk hs (fun t=>fun _=>h3) (by simp) (fun _ s hs=> ?_) (fun j' w0 e hj=>by cases hj;exact hji) hw)
      have:q9 d=some s:=by cases d <;> first|exact hs|cases hs
      exact hd.2 s this
     split at he
     ·rename_i c x z hop
      split at he
      ·rename_i d hp
       obtain⟨v,h1,h2⟩:=ef (P:=P) r hcD hdone hcl (hwho c) hop hp
       exact hval (DOk.ofD h2.isD) (VOk.plain r.inv h1 (RS0.ofR h2)) (ih _ he)
      ·exact he.elim
     ·rename_i hnp
      cases hopd:opD P cfg st (evO st.sl (xb ops i 40 (j,w1))) o.dst o.op with
      |val d =>
       rw[hopd]at he hres
       simp only at he
       cases hm':vk d with
       |false=>rw[hm']at he;exact he.elim
       |true=>rw[hm']at he;exact hval hres.1 hres.2 (ih _ he)
      |nd p d =>
       rw[hopd]at he hres
       simp only at he
       cases hm':vk d with
       |false=>rw[hm']at he;exact he.elim
       |true=>rw[hm']at he;exact hval hres.1 (hres.2 (he.1 (by trivial))) (ih _ he.2)
      |asm p d =>
       rw[hopd]at he hres
       simp only at he
       cases hm':vk d with
       |false=>rw[hm']at he;exact he.elim
       |true=>rw[hm']at he;exact hval hres.2.1 hres.2.2 (ih _ (he fun _=>hres.1))
      |new cs=>rw[hopd]at he;exact he.elim
      |eff p st' d =>
       have hsame:=eg hopd
       rw[hopd]at he hres
       simp only[cond_false,cond_true]at he
       obtain⟨v,w',g',h1,r1,hg,hk,h3,h4⟩:=hres he.1
       have h3':=R.ofRS0 h3 h4
       obtain⟨n1,n2,n3⟩:=h3'.noOwn
       exact zg h1 (m7 k r1 (fun t j w0 e hl=>hm t j w0 e (hsame.may hl)) hc ho hg hk (ih _ he.2) (fun t=>RS.ofRS0 h3 (jq h4)) n1 (fun _ s hs=>absurd hs (n3 s)) (fun j w0 e hj=>absurd hj (n2 j w0 e)) hw)
      |call f args =>
       rw[hopd]at he hres
       simp only at he
       rcases he with he|he
       ·obtain⟨args',d,_,hp,hk'⟩:=he.it
        obtain⟨hwk,hp⟩:=hp rfl
        obtain⟨vs,h1,h2⟩:=hres
        refine dd (h1.trans (vm hp.ok _)) (hp.at r (hwk _ _ h2)) fun e w'' ⟨x,g',h3,h4,h5⟩=>⟨x,h3,?_⟩
        obtain⟨r1,hg,hk⟩:=Ext.at_ r h5
        obtain⟨n1,n2,n3⟩:=h4.noOwn
        exact m7 k r1 hm hc ho hg hk (hkc _ _ hk') (fun t _=>RS0.ofR h4) (by simp) (fun _ s hs=>absurd (show q9 d=some s by cases d <;> first|exact hs|cases hs) (n3 s)) (fun j' w0 e hj=>by cases hj;exact hji) hw
       ·simp only[cond_false,cond_true]at he
        obtain⟨vs,h1,h2⟩:=hres
        rcases hcall he with he|he
        ·refine dd (h1.trans (vm he.ok _)) (he.at r h2) fun e w'' ⟨x,g',d,h',h3,h4,r1,hg,hk,h5⟩=>⟨x,h3,?_⟩
         obtain⟨n1,n2,n3⟩:=h4.noOwn
         exact m7 k r1 (fun t j w0 e hl=>hm t j w0 e hl) hc ho hg hk (hkc _ _ h5) (fun t _=>RS0.ofR h4) (by simp) (fun _ s hs=>absurd (show q9 d=some s by cases d <;> first|exact hs|cases hs) (n3 s)) (fun j' w0 e hj=>by cases hj;exact hji) hw
        ·obtain⟨x,w',g',d,h',h3,h4,r1,hg,hk,h5⟩:=he.at r h2
         obtain⟨n1,n2,n3⟩:=h4.noOwn
         exact zg (.inl (h1.trans h3)) (m7 k r1 (fun t j w0 e hl=>hm t j w0 e hl) hc ho hg hk (hkc _ _ h5) (fun t _=>RS0.ofR h4) (by simp) (fun _ s hs=>absurd (show q9 d=some s by cases d <;> first|exact hs|cases hs) (n3 s)) (fun j' w0 e hj=>by cases hj;exact hji) hw)
      |ycall l args =>
       rw[hopd]at he hres
       simp only[cond_false,cond_true]at he
       obtain⟨b,vs,h0,h1,h2⟩:=hres
       obtain⟨f',tm,as,bd,h6,h7⟩:=he.at r h1 h0
       refine qd1 (h2 _ _ h6) (h7 ρ) fun e w'' ⟨x,g',d,h',h3,h4,r1,hg,hk,h5⟩=>⟨x,h3,?_⟩
       obtain⟨n1,n2,n3⟩:=h4.noOwn
       exact m7 k r1 (fun t j w0 e hl=>hm t j w0 e hl) hc ho hg hk (hkc _ _ h5) (fun t _=>RS0.ofR h4) (by simp) (fun _ s hs=>absurd (show q9 d=some s by cases d <;> first|exact hs|cases hs) (n3 s)) (fun j' w0 e hj=>by cases hj;exact hji) hw
      |bad=>rw[hopd]at he;exact he.elim
    ·have hb:b=false:=by
      cases b with
      |false=>rfl
      |true=>exact absurd (hiff.2 rfl) hy
     subst hb
     have hwant:¬(Region.wanted o (yielded ops.toArray a.tmps)=true):=by simp[Region.wanted,hgd,hy]
     rw[if_neg hwant]
     refine⟨fun _ _=>trivial,?_⟩
     have hmay:∀{d:D},OpsSem P n ops (i+1) {st with sl:=j4 st.sl o.dst (.may j w1 d)} Q ->
       wpOpsIn (fen ρ) 0 P ops.toArray (ks n U g w Q) (List.range' (i+1) (ops.length-(i+1))) (a.put o.dst undef) w:=fun{d} hs=>hskip hy (by simp) (.inr (.inr ⟨d,rfl⟩)) hs
     split at he
     ·split at he
      ·exact hmay (ih _ he)
      ·exact he.elim
     ·cases hopd:opD P cfg st (evO st.sl (xb ops i 40 (j,w1))) o.dst o.op with
      |val d =>
       rw[hopd]at he
       simp only at he
       cases hm':vk d with
       |false=>rw[hm']at he;exact he.elim
       |true=>rw[hm']at he;exact hmay (ih _ he)
      |nd p d =>
       rw[hopd]at he
       simp only at he
       cases hm':vk d with
       |false=>rw[hm']at he;exact he.elim
       |true=>rw[hm']at he;exact hmay (ih _ he.2)
      |asm p d =>
       rw[hopd]at he
       simp only at he
       cases hm':vk d with
       |false=>rw[hm']at he;exact he.elim
       |true=>rw[hm']at he;exact hmay (ih _ (he fun h=>by cases h))
      |new cs=>rw[hopd]at he;exact he.elim
      |eff p st' d =>
       rw[hopd]at he
       simp only[cond_false]at he
       exact hskip hy (by simp) (.inr (.inl rfl)) (ih _ he)
      |call f args =>
       rw[hopd]at he
       simp only at he
       rcases he with he|he
       ·obtain⟨args',d,_,hp,hk'⟩:=he.it
        exact hmay (hkc _ _ hk')
       ·simp only[cond_false]at he
        obtain⟨d,hd⟩:=he
        exact hmay (hkc _ _ hd)
      |ycall l args =>
       rw[hopd]at he
       simp only[cond_false]at he
       obtain⟨d,hd⟩:=he
       exact hmay (hkc _ _ hd)
      |bad=>rw[hopd]at he;exact he.elim
theorem lg[Lay]{Q Q0:St->Prop}{kc:Nat->St->Prop}(k:y5 n ops)(hq0:∀st,Q0 st->Q st)(hkc:∀i st,kc i st->OpsSem P n ops i st Q) :
  ∀(rest:List Oper) (i:Nat) (st:St),ops.drop i=rest->vj P cfg (CallA P) (CallY P) (PCall P) ops (fun _=>false) kc i rest st Q0->OpsSem P n ops i st Q:=m8 (fun h=> .inl h) k hq0 hkc
end
inductive qjd[Lay](P:Program)(cfg:Cfg)(st:St)(ev:Operand->D)(o:Oper)(b:Bool):D->Prop
 |val {d:D} (h:opD P cfg st ev o.dst o.op = .val d):qjd P cfg st ev o b d
 |nd {p:Prop} {d:D} (h:opD P cfg st ev o.dst o.op = .nd p d) (hp:b=true->p):qjd P cfg st ev o b d
 |asm {p:Prop} {d:D} (h:opD P cfg st ev o.dst o.op = .asm p d):qjd P cfg st ev o b d
 |new {cs:List D} (h:opD P cfg st ev o.dst o.op = .new cs):qjd P cfg st ev o b (.own cs)
 |call {f:Nat} {args args':List D} {v:D} (h:opD P cfg st ev o.dst o.op = .call f args) (hp:b=true->Wks args args'/\Pure P f args' v) (hv:isD v=true):qjd P cfg st ev o b v
inductive StepFact[Lay](P:Program)(cfg:Cfg)(H:Nat)(ops:List Oper)(i:Nat)(o:Oper)(st:St):St->FP->Prop
 |pick0 {c x z:Operand} {d:D} (hg:o.guard=none) (ho:o.op = .pick c x z) (h:fe st.sl [] ops i c x z=some d) :
  StepFact P cfg H ops i o st {st with sl:=j4 st.sl o.dst d} (un H ops o (evO st.sl []) [] false (q9 d))
 |val0 {d:D} (hg:o.guard=none) (hf:qjd P cfg st (evO st.sl []) o true d) :
  StepFact P cfg H ops i o st {st with sl:=j4 st.sl o.dst d} (un H ops o (evO st.sl []) [] false (q9 d))
 |eff0 {p:Prop} {st1:St} {d:D} (hg:o.guard=none) (h:opD P cfg st (evO st.sl []) o.dst o.op = .eff p st1 d) (hp:p) :
  StepFact P cfg H ops i o st {st1 with sl:=j4 st1.sl o.dst d} (un H ops o (evO st.sl []) [] true (q9 d))
 |callE0 {f:Nat} {args:List D} {v:D} {h':Heap} (hg:o.guard=none) (h:opD P cfg st (evO st.sl []) o.dst o.op = .call f args) (hv:isD v=true) (hp:Does P f args st.h v h') :
  StepFact P cfg H ops i o st {sl:=j4 st.sl o.dst v,h:=h' } (un H ops o (evO st.sl []) [] true (q9 v))
 |pick1 {j:Nat} {w:Bool} {b:Bool} {c x z:Operand} {d:D} (hg:o.guard=some (j,w)) (hb:gB st.sl ops i 40 (j,w)=some b) (ho:o.op = .pick c x z) (h:fe st.sl (xb ops i 40 (j,w)) ops i c x z=some d) :
  StepFact P cfg H ops i o st {st with sl:=j4 st.sl o.dst (.may j w d)} (un H ops o (evO st.sl (xb ops i 40 (j,w))) (xb ops i 40 (j,w)) false (q9 (.may j w d)))
 |val1 {j:Nat} {w:Bool} {b:Bool} {d:D} (hg:o.guard=some (j,w)) (hb:gB st.sl ops i 40 (j,w)=some b) (hf:qjd P cfg st (evO st.sl (xb ops i 40 (j,w))) o b d) (hm:vk d=true) :
  StepFact P cfg H ops i o st {st with sl:=j4 st.sl o.dst (.may j w d)} (un H ops o (evO st.sl (xb ops i 40 (j,w))) (xb ops i 40 (j,w)) false (q9 (.may j w d)))
def qje(ops:List Oper)(D:Nat->Prop)(st:St):Prop:=∀t j w d,qo st.sl t=some (.may j w d)->jf ops j≠none->D j
section
variable {P:Program} {n:Nat} {cfg:Cfg} {ops:List Oper} {i:Nat} {o:Oper} {g:G} {β:Nat->Nat} {U:Nat->Prop} {st:St} {a:Act} {w:World} {D:Nat->Prop} {ρ:Option Nat}
theorem fo(k:y5 n ops)(ho:ops[i]? = some o)(v:Value){j:Nat}(hj:jf ops j≠none->j≠i):yielded ops.toArray (a.put o.dst v).tmps j=yielded ops.toArray a.tmps j:=by
 cases hd:o.dst with
 |none=>rfl
 |some t =>
  refine y6 fun hh=> ?_
  have:=hj (by rw[hh];simp)
  exact this (b7 k.apart hh (by simp[jf,ho,hd]))
theorem u6[Lay](k:y5 n ops)(r:Rel n g β U (yOf ops a) st a w)(hc:u5 ops D a)(hd:nf ops D)(ho:ops[i]? = some o)(hi:¬D i){v:Value}
  (_hgd:∀q,o.guard=some q->jf ops q.1≠none->D q.1) (hw:∀q,o.guard=some q->yielded ops.toArray a.tmps q.1=some q.2\/v=undef):u5 ops (fun j=>D j\/j=i) (a.put o.dst v):=by
 intro j o' j1 w1 hj ho' hg hy
 have hne:∀{j1 w1},D j->ops[j]? = some o'->o'.guard=some (j1,w1)->jf ops j1≠none->j1≠i:=fun h1 h2 h3 h4 e=>by
  subst e;exact hi (hd j o' _ _ h1 h2 h3 h4)
 by_cases hji:j=i
 ·subst hji
  rw[ho]at ho';cases ho'
  have hb1:=k.back ho hg
  simp only at hb1
  rw[fo k ho v (fun _=>by omega)]
  rcases hw _ hg with h|h
  ·exact h
  ·subst h
   refine absurd (b9 fun t ht=> ?_) hy
   have hd:o.dst=some t:=by simpa[jf,ho] using ht
   rw[hd,xo (by rw[r.size];exact k.isIn j t ht)]
 ·have hDj:D j:=hj.resolve_right hji
  rw[fo k ho v (fun _=>hji)]at hy
  rw[fo k ho v (hne hDj ho' hg)]
  exact hc j o' j1 w1 hDj ho' hg hy
theorem qa5{d:Ab.D}(r:(st.sl.map (·.1)).Nodup)(hm:qje ops D st)(hmay:∀j w0 e,d = .may j w0 e->jf ops j≠none->D j):qje ops (fun j=>D j\/j=i) {st with sl:=j4 st.sl o.dst d}:=by
 intro t j w0 e hl hj
 cases hd:o.dst with
 |none=>rw[hd]at hl;exact .inl (hm t j w0 e hl hj)
 |some t' =>
  rw[hd]at hl
  rcases zj r hl with ⟨_,h2⟩|⟨_,_,h3⟩
  ·cases hp:xf d t' with
   |true=>rw[hp]at h2;cases h2
   |false=>rw[hp]at h2;exact .inl (hmay j w0 e h2.symm hj)
  ·exact .inl (hm t j w0 e h3 hj)
theorem qa6[Lay](k:y5 n ops)(r:Rel n g β U (yOf ops a) st a w)(hm:qje ops D st)(ho:ops[i]? = some o)(hi:¬D i){v:Value}{d:Ab.D}
  (hv:∀t,RS g β (yOf ops (a.put o.dst v)) t d v) (hno:∀cs,d≠ .own cs) (hb:Live (yOf ops (a.put o.dst v)) d->∀s,q9 d=some s->∃cs,qo st.sl s=some (.own cs)) :
  Rel n g β U (yOf ops (a.put o.dst v)) {st with sl:=j4 st.sl o.dst d} (a.put o.dst v) w:=by
 cases hd:o.dst with
 |none =>
  have h1:a.put none v=a:=rfl
  simp only[h1,j4]
  exact r
 |some t =>
  simp only[j4]
  have hyd:=fun j hj=>fo (a:=a) k ho v (j:=j) hj
  rw[hd]at hv hb hyd
  refine r.put (y':=yOf ops (a.put (some t) v)) (k.isIn i t (by simp[jf,ho,hd])) ?_ (fun cs=> ?_) (fun hl s hs=> ?_) (fun s j w0 e hs hl hy=> ?_)
  ·cases xf d t
   ·exact hv t
   ·trivial
  ·cases xf d t
   ·exact hno cs
   ·simp
  ·cases hp:xf d t with
   |true=>rw[hp]at hs;cases hs
   |false =>
    rw[hp]at hs hl
    simp only[cond_false]at hs hl
    refine⟨fun e=> ?_,hb hl s hs⟩
    subst e
    rw[yi hs]at hp;cases hp
  ·have h2:=hyd j (fun hdj e=>by subst e;exact hi (hm _ _ _ _ hl hdj))
   unfold yOf at hy⊢
   rw[<-h2];exact hy
theorem qln[Lay](k:y5 n ops)(r:Rel n g β U (yOf ops a) st a w)(hm:qje ops D st)(ho:ops[i]? = some o)(hi:¬D i){cl:List (Nat×Bool)}(hcl:∀p∈cl,yOf ops a p.1 p.2){d:Ab.D}(hf:qjd P cfg st (evO st.sl cl) o true d)
  {mk:Ab.D->Ab.D} (hmk:mk=(fun d=>d)\/((∀cs,d≠ .own cs)/\∃j w0,mk=fun d=> .may j w0 d)) {K:Act->World->Prop} {Q:Exit->Act->World->Prop}
  (hK:∀g' β' v w',Rel n g' β' U (yOf ops (a.put o.dst v)) {st with sl:=j4 st.sl o.dst (mk d)} (a.put o.dst v) w'->Grow U g g'->Kept U w w'->K (a.put o.dst v) w'):o.wpIn (fen ρ) 0 P a w K Q:=by
 have hev:=wj r hcl
 have hres:=gv (P:=P) (cfg:=cfg) (o:=o) r hev
 have hval:∀{d:Ab.D},(mk=(fun d=>d)\/((∀cs,d≠ .own cs)/\∃j w0,mk=fun d=> .may j w0 d))->DOk st.sl d->∀{g':G} {w':World} {v:Value},Ext g w g' w'->RS0 g' β d v ->
   Rel n g' β U (yOf ops (a.put o.dst v)) {st with sl:=j4 st.sl o.dst (mk d)} (a.put o.dst v) w'/\Grow U g g'/\Kept U w w':=by
  intro d hmk hd g' w' v h2 h3
  obtain⟨r1,hg,hk⟩:=Ext.at_ r h2
  obtain⟨n1,n2⟩:=vu hd.1
  refine⟨?_,hg,hk⟩
  rcases hmk with rfl|⟨_,j,w0,rfl⟩
  ·exact qa6 k r1 hm ho hi (fun t=>RS.ofRS0 h3 hd.1) n1 (fun _ s hs=>hd.2 s hs)
  ·refine qa6 k r1 hm ho hi (fun t _=>h3) (by simp) (fun _ s hs=>hd.2 s ?_)
   cases d <;> first|exact hs|cases hs
 cases hf with
 |val h =>
  rw[h]at hres
  obtain⟨v,w',g',h1,h2,h3⟩:=hres.2
  obtain⟨e1,e2,e3⟩:=hval hmk hres.1 h2 h3
  exact zg h1 (hK _ _ _ _ e1 e2 e3)
 |nd h hp =>
  rw[h]at hres
  obtain⟨v,w',g',h1,h2,h3⟩:=hres.2 (hp rfl)
  obtain⟨e1,e2,e3⟩:=hval hmk hres.1 h2 h3
  exact zg h1 (hK _ _ _ _ e1 e2 e3)
 |asm h =>
  rw[h]at hres
  obtain⟨v,w',g',h1,h2,h3⟩:=hres.2.2
  obtain⟨e1,e2,e3⟩:=hval hmk hres.2.1 h2 h3
  exact zg h1 (hK _ _ _ _ e1 e2 e3)
 |new h =>
  rename_i cs
  rw[h]at hres
  obtain⟨hnd,T,vals,h1,h2⟩:=hres
  have hmk':mk=fun d=>d:=by
   rcases hmk with h|⟨h,_⟩
   ·exact h
   ·exact absurd rfl (h cs)
  subst hmk'
  have hal:=Ext.alloc r.inv (.cells vals T (0,0))
  refine zg h1 ?_
  cases hd:o.dst with
  |none=>exact absurd hd hnd
  |some t =>
   have hyd:=fun j hj=>fo (a:=a) k ho (.pointer (some ⟨w.heap.size,0,none⟩)) (j:=j) hj
   rw[hd]at hK hyd
   exact hK _ _ _ _ (r.boxed (t:=t) (cs:=cs) (T:=T) (k.isIn i t (by simp[jf,ho,hd])) h2 (fun s j w0 e hs hl hy=>by
    have h2:=hyd j (fun hdj e=>by subst e;exact hi (hm _ _ _ _ hl hdj))
    unfold yOf at hy⊢
    rw[<-h2];exact hy)) (hal.grow r.inv.ub) (hal.kept r.inv.ub)
 |call h hp hv =>
  rename_i f args args'
  rw[h]at hres
  obtain⟨hwk,hp⟩:=hp rfl
  obtain⟨vs,h1,h2⟩:=hres
  refine dd (h1.trans (vm hp.ok _)) (hp.at r (hwk _ _ h2)) fun e w'' ⟨x,g',h3,h4,h5⟩=>⟨x,h3,?_⟩
  obtain⟨e1,e2,e3⟩:=hval hmk (DOk.ofD hv) h5 (RS0.ofR h4)
  exact hK _ _ _ _ e1 e2 e3
theorem qlo[Lay](k:y5 n ops)(r:Rel n g β U (yOf ops a) st a w)(hm:qje ops D st)(hc:u5 ops D a)(hd:nf ops D)(ho:ops[i]? = some o)(hi:¬D i)(hgd:∀q,o.guard=some q->jf ops q.1≠none->D q.1)
  (hwho:∀c x z s j,o.op = .pick c x z->c = .tmp s->xc ops s i=some j->D j) {H:Nat} {st':St} {fp:FP} (hf:StepFact P cfg H ops i o st st' fp) {K:Act->World->Prop} {Q:Exit->Act->World->Prop}
  (hK:∀g' β' v w',Rel n g' β' U (yOf ops (a.put o.dst v)) st' (a.put o.dst v) w'->qje ops (fun j=>D j\/j=i) st'->u5 ops (fun j=>D j\/j=i) (a.put o.dst v)->Grow U g g'->Kept U w w'->K (a.put o.dst v) w') :
  wpOpIn (fen ρ) 0 P ops.toArray Q i K a w:=by
 have hget:ops.toArray[i]? = some o:=by simpa using ho
 unfold wpOpIn
 simp only[hget]
 have hwant:o.guard=none->Region.wanted o (yielded ops.toArray a.tmps)=true:=fun h=>by simp[Region.wanted,h]
 have hw0:o.guard=none->∀{v:Value} (q:Nat×Bool),o.guard=some q->yielded ops.toArray a.tmps q.1=some q.2\/v=undef:=fun h v q hq=>by rw[h]at hq;cases hq
 have hmayNo:∀{d:Ab.D},(∀j w0 e,d≠ .may j w0 e)->∀j w0 e,d = .may j w0 e->jf ops j≠none->D j:=fun h j w0 e hd=>absurd hd (h j w0 e)
 cases hf with
 |pick0 hg hop h =>
  rename_i c x z d
  rw[if_pos (hwant hg)]
  obtain⟨v,h1,h2⟩:=ef (P:=P) r hc hd (cl:=[]) (by simp) (hwho c x z · · hop) hop h
  obtain⟨n1,n2,n3⟩:=h2.noOwn
  exact zg (.inl h1) (hK _ _ _ _ (qa6 k r hm ho hi (fun t=>RS.ofRS0 (RS0.ofR h2) (jq h2.isD)) n1 (fun _ s hs=>absurd hs (n3 s))) (qa5 r.keys hm (hmayNo n2)) (u6 k r hc hd ho hi hgd (hw0 hg)) (Grow.refl U g) (Kept.refl U w))
 |val0 hg hf =>
  rename_i d
  rw[if_pos (hwant hg)]
  have hnm:∀j w0 e,d≠ .may j w0 e:=by
   cases hf with
   |val h=>have hres:=gv (P:=P) (cfg:=cfg) (o:=o) r (wj r (cl:=[]) (by simp));rw[h]at hres;exact(vu hres.1.1).2
   |nd h hp=>have hres:=gv (P:=P) (cfg:=cfg) (o:=o) r (wj r (cl:=[]) (by simp));rw[h]at hres;exact(vu hres.1.1).2
   |asm h=>have hres:=gv (P:=P) (cfg:=cfg) (o:=o) r (wj r (cl:=[]) (by simp));rw[h]at hres;exact(vu hres.2.1.1).2
   |new h=>simp
   |call h hp hv=>exact(vu (jq hv)).2
  exact qln k r hm ho hi (cl:=[]) (by simp) hf (mk:=fun d=>d) (.inl rfl) fun g' β' v w' h1 h2 h3=>hK g' β' v w' h1 (qa5 r.keys hm (hmayNo hnm)) (u6 k r hc hd ho hi hgd (hw0 hg)) h2 h3
 |eff0 hg h hp =>
  rename_i p st1 d
  rw[if_pos (hwant hg)]
  have hsame:=eg h
  have hres:=gv (P:=P) (cfg:=cfg) (o:=o) r (wj r (cl:=[]) (by simp))
  rw[h]at hres
  obtain⟨v,w',g',h1,r1,hgr,hkp,h3,h4⟩:=hres hp
  obtain⟨n1,n2,n3⟩:=(R.ofRS0 h3 h4).noOwn
  have hm1:qje ops D st1:=fun t j w0 e hl hj=>hm t j w0 e (hsame.may hl) hj
  exact zg h1 (hK _ _ _ _ (qa6 k r1 hm1 ho hi (fun t=>RS.ofRS0 h3 (jq h4)) n1 (fun _ s hs=>absurd hs (n3 s))) (qa5 r1.keys hm1 (hmayNo n2)) (u6 k r hc hd ho hi hgd (hw0 hg)) hgr hkp)
 |callE0 hg h hv hp =>
  rename_i f args v h'
  rw[if_pos (hwant hg)]
  have hres:=gv (P:=P) (cfg:=cfg) (o:=o) r (wj r (cl:=[]) (by simp))
  rw[h]at hres
  have c:=hp (fun d h=>d=v/\h=h') ⟨rfl,rfl⟩
  obtain⟨vs,h1,h2⟩:=hres
  refine dd (h1.trans (vm c.ok _)) (c.at r h2) fun e w'' ⟨x,g',d,h'',h3,h4,r1,hgr,hkp,h5⟩=>⟨x,h3,?_⟩
  obtain⟨rfl,rfl⟩:=h5
  obtain⟨n1,n2,n3⟩:=h4.noOwn
  exact hK _ _ _ _ (qa6 k r1 hm ho hi (fun t=>RS.ofRS0 (RS0.ofR h4) (jq h4.isD)) n1 (fun _ s hs=>absurd hs (n3 s))) (qa5 r1.keys hm (hmayNo n2)) (u6 k r hc hd ho hi hgd (hw0 hg)) hgr hkp
 |pick1 hg hb hop h =>
  rename_i j w1 b c x z d
  have hiff:=b6 r hc hd 40 (j,w1) b (hgd _ hg) hb
  simp only at hiff
  by_cases hy:yielded ops.toArray a.tmps j=some w1
  ·rw[if_pos (by simp[Region.wanted,hg,hy])]
   obtain⟨v,h1,h2⟩:=ef (P:=P) r hc hd (xw hc hd 40 (j,w1) (hgd _ hg) hy) (hwho c x z · · hop) hop h
   obtain⟨n1,n2,n3⟩:=h2.noOwn
   exact zg (.inl h1) (hK _ _ _ _ (qa6 k r hm ho hi (fun t _=>RS0.ofR h2) (by simp) (fun _ s hs=>absurd (show q9 d=some s by cases d <;> first|exact hs|cases hs) (n3 s)))
    (qa5 r.keys hm (fun j' w0 e he hj=>by cases he;exact hgd _ hg hj)) (u6 k r hc hd ho hi hgd (fun q hq=>by rw[hg]at hq;cases hq;exact .inl hy)) (Grow.refl U g) (Kept.refl U w))
  ·rw[if_neg (by simp[Region.wanted,hg,hy])]
   have hny:¬yOf ops (a.put o.dst undef) j w1:=by
    have:=k.back ho hg
    simp only at this
    unfold yOf
    rw[fo k ho undef (fun _=>by omega)];exact hy
   exact⟨fun _ _=>trivial,hK _ _ _ _ (qa6 k r hm ho hi (fun t h=>absurd h hny) (by simp) (fun hl=>absurd hl hny)) (qa5 r.keys hm (fun j' w0 e he hj=>by cases he;exact hgd _ hg hj)) (u6 k r hc hd ho hi hgd (fun q hq=> .inr rfl)) (Grow.refl U g) (Kept.refl U w)⟩
 |val1 hg hb hf hmd =>
  rename_i j w1 b d
  have hiff:=b6 r hc hd 40 (j,w1) b (hgd _ hg) hb
  simp only at hiff
  by_cases hy:yielded ops.toArray a.tmps j=some w1
  ·rw[if_pos (by simp[Region.wanted,hg,hy])]
   have hbt:b=true:=hiff.1 hy
   subst hbt
   exact qln k r hm ho hi (xw hc hd 40 (j,w1) (hgd _ hg) hy) hf (mk:=fun d=> .may j w1 d) (.inr ⟨(vu hmd).1,j,w1,rfl⟩) fun g' β' v w' h1 h2 h3 =>
    hK g' β' v w' h1 (qa5 r.keys hm (fun j' w0 e he hj=>by cases he;exact hgd _ hg hj)) (u6 k r hc hd ho hi hgd (fun q hq=>by rw[hg]at hq;cases hq;exact .inl hy)) h2 h3
  ·rw[if_neg (by simp[Region.wanted,hg,hy])]
   have hny:¬yOf ops (a.put o.dst undef) j w1:=by
    have:=k.back ho hg
    simp only at this
    unfold yOf
    rw[fo k ho undef (fun _=>by omega)];exact hy
   exact⟨fun _ _=>trivial,hK _ _ _ _ (qa6 k r hm ho hi (fun t h=>absurd h hny) (by simp) (fun hl=>absurd hl hny)) (qa5 r.keys hm (fun j' w0 e he hj=>by cases he;exact hgd _ hg hj)) (u6 k r hc hd ho hi hgd (fun q hq=> .inr rfl)) (Grow.refl U g) (Kept.refl U w)⟩
end
def ResSame(st st':St)(own:Option Nat):Res->Res->Prop
 | .eff p st1 d,r'=>(∀s,own=some s->∃cs,st1={st with sl:=setOwn st.sl s cs}/\r' = .eff p {st' with sl:=setOwn st'.sl s cs} d)/\
   (own=none->st.h=st'.h->∃h1,st1={st with h:=h1}/\r' = .eff p {st' with h:=h1} d)
 | .bad,_=>True
 |r,r'=>r'=r
theorem ResSame.refl{st st':St}{own:Option Nat}{r:Res}(h:∀p st1 d,r≠ .eff p st1 d):ResSame st st' own r r:=by
 cases r <;> first|rfl|trivial|exact absurd rfl (h _ _ _)
theorem ResSame.cond{st st':St}{own:Option Nat}{c:Bool}{r r':Res}(h:ResSame st st' own r r'):ResSame st st' own (bif c then r else .bad) (bif c then r' else .bad):=by
 cases c
 ·trivial
 ·exact h
theorem ResSame.heap{st st':St}{p:Prop}{h1 h1':Heap}{d d':D}(h:st.h=st'.h->h1'=h1/\d'=d):ResSame st st' none (.eff p {st with h:=h1} d) (.eff p {st' with h:=h1' } d') :=
 ⟨fun s hs=>(by cases hs),fun _ hh=>⟨h1,rfl,(by obtain⟨e1,e2⟩:=h hh;rw[e1,e2])⟩⟩
theorem y7{st st':St}{own:Option Nat}{x:Option D}:ResSame st st' own (ul x) (ul x):= .refl fun _ _ _ h=>vg h
section
variable {P:Program} {cfg:Cfg} {st st':St} {ev ev':Operand->D} {dst:Option Nat}
theorem lh{tag:Option Nat}{cs:List D}:ResSame st st' none (ux cfg st dst tag cs) (ux cfg st' dst tag cs):=by
 unfold ux
 cases dst with
 |none=>trivial
 |some t =>
  simp only
  cases cfg.esc t with
  |false=>rfl
  |true =>
   refine⟨fun s hs=>(by cases hs),fun _ hh=> ?_⟩
   exact⟨{st.h with box:=upd st.h.box st.h.nl (some (qgl tag cs)),nl:=st.h.nl+1},rfl,by rw[hh];rfl⟩
theorem ResSame.ne(hh:st.h≠st'.h){p:Prop}{st1:St}{d:D}{r':Res}:ResSame st st' none (.eff p st1 d) r':=⟨fun s hs=>(by cases hs),fun _ h=>absurd h hh⟩
theorem qa7{bx vx:Bool}{t:Nat}{x z:D}:ResSame st st' none (qlj P st bx vx t x z) (qlj P st' bx vx t x z):=by
 unfold qlj
 split
 ·split
  ·refine .cond ?_
   split
   ·refine .cond ?_
    split
    ·first|rfl|trivial
    ·first|rfl|trivial
    ·cases vx with
     |true=>exact⟨fun s hs=>(by cases hs),fun _ hh=>⟨_,rfl,by rw[hh];rfl⟩⟩
     |false =>
      cases bx with
      |true=>exact⟨fun s hs=>(by cases hs),fun _ hh=>⟨_,rfl,by rw[hh];rfl⟩⟩
      |false=>exact⟨fun s hs=>(by cases hs),fun _ hh=>⟨_,rfl,by rw[hh];rfl⟩⟩
    ·by_cases hh:st.h=st'.h
     ·rw[<-hh]
      split
      ·trivial
      ·refine .cond ?_
       exact⟨fun s hs=>(by cases hs),fun _ _=>⟨_,rfl,by rw[hh]⟩⟩
     ·split
      ·trivial
      ·generalize (Nat.beq _ _)=c
       cases c
       ·trivial
       ·exact .ne hh
   ·refine .cond ?_
    by_cases hh:st.h=st'.h
    ·rw[<-hh]
     split
     ·exact⟨fun s hs=>(by cases hs),fun _ _=>⟨_,rfl,by rw[hh]⟩⟩
     ·trivial
    ·split
     ·exact .ne hh
     ·trivial
   ·refine .cond ?_
    by_cases hh:st.h=st'.h
    ·rw[<-hh]
     split
     ·exact⟨fun s hs=>(by cases hs),fun _ _=>⟨_,rfl,by rw[hh]⟩⟩
     ·trivial
    ·split
     ·exact .ne hh
     ·trivial
   ·first|rfl|trivial
  ·first|rfl|trivial
 ·first|rfl|trivial
theorem qfu{T:Nat}{x y:D}:ResSame st st' none (qak P st T x y) (qak P st' T x y):=by
 unfold qak
 by_cases hh:st.h=st'.h
 ·rw[<-hh]
  split
  ·split
   ·exact⟨fun s hs=>(by cases hs),fun _ _=>⟨_,rfl,by rw[hh]⟩⟩
   ·trivial
  ·split
   ·exact⟨fun s hs=>(by cases hs),fun _ _=>⟨_,rfl,by rw[hh]⟩⟩
   ·trivial
  ·trivial
 ·split
  ·split
   ·exact .ne hh
   ·trivial
  ·split
   ·exact .ne hh
   ·trivial
  ·trivial
theorem eh{bx vx:Bool}{b:Builtin}{ts:List Nat}{l:List D}:ResSame st st' none (ww P st bx vx b ts l) (ww P st' bx vx b ts l):=by
 unfold ww
 split
 ·split <;> first|rfl|trivial
 ·split <;> first|rfl|trivial
 ·split <;> first|rfl|trivial
 ·split <;> first|rfl|trivial
 ·split <;> first|rfl|trivial
 ·split
  ·exact qa7
  ·exact qa7
  ·first|rfl|trivial
 ·exact qfu
 ·split <;> first|rfl|trivial
 ·split <;> first|rfl|trivial
 ·first|rfl|trivial
theorem qfv{vx:Bool}{t:Nat}{l c:D}:ResSame st st' none (qam P st vx t l c) (qam P st' vx t l c):=by
 unfold qam
 split
 ·split
  ·refine .cond ?_
   cases vx with
   |true=>simp only[cond_true];refine .cond ?_;exact⟨fun s hs=>(by cases hs),fun _ hh=>⟨_,rfl,by rw[hh]⟩⟩
   |false=>simp only[cond_false];exact⟨fun s hs=>(by cases hs),fun _ hh=>⟨_,rfl,by rw[hh]⟩⟩
  ·first|rfl|trivial
 ·first|rfl|trivial
theorem qfw{s t:Nat}{x:D}:ResSame st st' none (r8 P st s t x) (r8 P st' s t x):=by
 unfold r8
 split
 ·split
  ·exact⟨fun s hs=>(by cases hs),fun _ hh=>⟨_,rfl,by rw[hh]⟩⟩
  ·first|rfl|trivial
 ·first|rfl|trivial
theorem qg3{vx:Bool}{r:Option D}:ResSame st st' none (qjo st vx r) (qjo st' vx r):=by
 unfold qjo
 split
 ·cases hc:(vx&&Nat.blt 0 _) with
  |true=>simp only[cond_true];exact⟨fun s hs=>(by cases hs),fun _ hh=>⟨_,rfl,by rw[hh]⟩⟩
  |false=>simp only[cond_false];first|rfl|trivial
 ·first|rfl|trivial
 ·first|rfl|trivial
theorem ej{t:Nat}{r:Option D}:ResSame st st' none (wy P st t r) (wy P st' t r):=by
 unfold wy
 split
 ·split
  ·refine .cond ?_
   exact⟨fun s hs=>(by cases hs),fun _ hh=>⟨_,rfl,by rw[hh]⟩⟩
  ·trivial
 ·trivial
theorem nh{t:Nat}{m k v:D}:ResSame st st' none (uy P st t m k v) (uy P st' t m k v):=by
 unfold uy
 by_cases hh:st.h=st'.h
 ·rw[<-hh]
  split
  ·split
   ·split
    ·exact⟨fun s hs=>(by cases hs),fun _ _=>⟨_,rfl,by rw[hh]⟩⟩
    ·trivial
   ·trivial
  ·trivial
 ·split
  ·split
   ·split
    ·exact .ne hh
    ·trivial
   ·trivial
  ·trivial
theorem dj{s:Nat}(h:qo st.sl s=qo st'.sl s):wx st'.sl s=wx st.sl s:=by simp[wx,h]
theorem qa8{t:Nat}{a:D}(hb:∀s,q9 a=some s->qo st.sl s=qo st'.sl s)(hh:qxl a=true->st.h=st'.h){own:Option Nat} :
  ResSame st st' own (fc P st t a) (fc P st' t a):=by
 unfold fc
 split
 ·rename_i s off
  rw[dj (hb s rfl)]
  split
  ·exact y7
  ·first|rfl|trivial
 ·exact y7
 ·rename_i l off
  rw[hh rfl]
  refine .refl fun p st1 d he=> ?_
  split at he
  ·unfold mt at he
   split at he
   ·exact vg he
   ·split at he
    ·replace he:=qz he;cases he
    ·cases he
    ·cases he
   ·cases he
   ·exact vg he
   ·cases he
  ·cases he
 ·rename_i t' m i sz j
  rw[hh rfl]
  refine .refl fun p st1 d he=> ?_
  split at he
  ·split at he
   ·replace he:=qz he;cases he
   ·cases he
  ·cases he
 ·first|rfl|trivial
theorem et{t:Nat}{a v:D}(hb:∀s,q9 a=some s->qo st.sl s=qo st'.sl s):ResSame st st' (q9 a) (xa P st t a v) (xa P st' t a v):=by
 unfold xa
 split
 ·refine .cond ?_
  split
  ·rename_i s off
   rw[dj (hb s rfl)]
   split
   ·refine .cond ?_
    exact⟨fun s' hs=>(by cases hs;exact⟨_,rfl,rfl⟩),fun hn=>(by cases hn)⟩
   ·first|rfl|trivial
  ·rename_i l off
   by_cases hh:st.h=st'.h
   ·rw[<-hh]
    split
    ·split
     ·exact⟨fun s hs=>(by cases hs),fun _ _=>⟨_,rfl,by rw[hh]⟩⟩
     ·first|rfl|trivial
    ·first|rfl|trivial
   ·cases hbx:st.h.box l with
    |none=>exact True.intro
    |some row =>
     simp only
     cases hrs:yu off (ql v) row with
     |none=>exact True.intro
     |some q =>
      obtain⟨p,row'⟩:=q
      exact⟨fun s hs=>(by cases hs),fun _ h2=>absurd h2 hh⟩
  ·by_cases hh:st.h=st'.h
   ·rw[<-hh]
    split
    ·refine .cond ?_
     exact⟨fun s hs=>(by cases hs),fun _ _=>⟨_,rfl,by rw[hh]⟩⟩
    ·trivial
   ·split
    ·generalize (Nat.ble _ _)=c
     cases c
     ·trivial
     ·exact .ne hh
    ·trivial
  ·first|rfl|trivial
 ·first|rfl|trivial
theorem qa9{T:Nat}{x:D}{lo hi mx:Option D}{p:Prop}{st1:St}{d:D}(h:so P T x lo hi mx = .eff p st1 d):False:=by
 unfold so at h
 split at h
 ·split at h
  ·replace h:=qz h;split at h <;> cases h
  ·cases h
 ·split at h <;> cases h
 ·split at h <;> cases h
 ·cases h
theorem qg4{op:Op}(hb:∀x∈op.operands,∀s,q9 (ev x)=some s->qo st.sl s=qo st'.sl s)(hh:bk ev op=true->st.h=st'.h) :
  ResSame st st' (cz ev op) (opD P cfg st ev dst op) (opD P cfg st' ev dst op):=by
 cases op with
 |alloc t =>
  simp only[opD]
  split
  ·exact .cond lh
  ·first|rfl|trivial
 |box t x=>exact .cond lh
 |load t a=>exact qa8 (hb a (by simp[Op.operands])) hh
 |store t a v=>exact et (hb a (by simp[Op.operands]))
 |makeSlice t l c=>exact qfv
 |call c =>
  simp only[opD]
  split
  ·split
   ·exact .cond rfl
   ·exact .cond rfl
   ·trivial
  ·exact .cond eh
  ·split
   ·split
    ·exact .cond rfl
    ·trivial
   ·trivial
 |move x=>simp only[opD];split <;> first|rfl|trivial
 |assign x=>simp only[opD];split <;> first|rfl|trivial
 |build t parts=>exact y7
 |buildSlice t len parts=>exact qg3
 |nilCheck x=>exact .refl fun p st1 d h=>by change yh P (ev x)=_ at h;unfold yh at h;split at h <;> first|cases h|(replace h:=qz h;cases h)
 |makeFunc f first caps =>
  cases f with
  |func f =>
   simp only[opD]
   cases h1:(first.isEmpty&&ax (caps.toList.map ev)) with
   |true=>rfl
   |false=>exact .cond rfl
  |method m=>simp only[opD,qgn];split <;> first|exact .cond rfl|trivial
  |_=>trivial
 |extract x i =>
  simp only[opD]
  split
  ·exact y7
  ·trivial
 |binOp bop t x z t'=>exact .refl fun p st1 d h=>lc h
 |unOp uop t x=>exact .refl fun p st1 d h=>by change unD uop (ev x)=_ at h;unfold unD at h;split at h <;> cases h
 |convert s t x =>
  have hsame:wa P st.h s t (ev x)=wa P st'.h s t (ev x):=by
   cases hx:qjq (ev x) with
   |true=>rw[hh hx]
   |false =>
    unfold wa
    generalize ev x=d at hx
    generalize P.underlying s=u1
    generalize P.underlying t=u2
    cases d with
    |vec a b c=>exact Bool.noConfusion (show true=false from hx)
    |_ =>
     split
     all_goals first|rfl|(rename_i heq;exact D.noConfusion heq)|(rename_i heq _;exact D.noConfusion heq)
  have key:∀b:Bool,ResSame st st' none (bif b then r8 P st s t (ev x) else wa P st.h s t (ev x)) (bif b then r8 P st' s t (ev x) else wa P st'.h s t (ev x)):=fun b=>by
   cases b with
   |true=>exact qfw
   |false =>
    simp only[cond_false]
    rw[<-hsame]
    exact .refl fun p st1 d h=>de h
  exact key _
 |makeMap t r=>exact ej
 |lookup t x i ok =>
  have he:opD P cfg st' ev dst (.lookup t x i ok)=opD P cfg st ev dst (.lookup t x i ok):=by
   show fd P st'.h t (ev x) (ev i) ok=fd P st.h t (ev x) (ev i) ok
   rw[hh rfl]
  rw[he]
  exact .refl fun p st1 d h=>dh h
 |mapUpdate t m k v=>exact nh
 |insert t m k v=>exact nh
 |slice t x lo hi mx=>exact .refl fun p st1 d h=>qa9 h
 |makeInterface t x =>
  refine .refl fun p st1 d h=> ?_
  change pw P t (ev x)=_ at h
  unfold pw at h
  split at h
  ·cases h
  ·replace h:=qz h;cases h
  ·cases h
 |fieldAddr t x f =>
  refine .refl fun p st1 d h=> ?_
  change xv P t f (ev x)=_ at h
  unfold xv at h
  split at h
  ·split at h <;> cases h
  ·cases h
 |indexAddr t x i =>
  have hsame:zz P st.h t (ev x) (ev i)=zz P st'.h t (ev x) (ev i):=by
   cases hx:qjq (ev x) with
   |true=>rw[hh hx]
   |false =>
    unfold zz
    generalize ev x=d at hx
    generalize ev i=q
    generalize P.underlying t=u
    cases d with
    |vec a b c=>exact Bool.noConfusion (show true=false from hx)
    |_ =>
     split
     all_goals first|rfl|(rename_i heq _;exact D.noConfusion heq)|(rename_i heq;exact D.noConfusion heq)|(rename_i heq _ _;exact D.noConfusion heq)
  have he:opD P cfg st' ev dst (.indexAddr t x i)=opD P cfg st ev dst (.indexAddr t x i):=hsame.symm
  rw[he]
  refine .refl fun p st1 d h=> ?_
  change zz P st.h t (ev x) (ev i)=_ at h
  unfold zz at h
  split at h
  ·split at h
   ·replace h:=qz h;cases h
   ·cases h
  ·split at h
   ·replace h:=qz h;cases h
   ·cases h
  ·split at h <;> cases h
  ·split at h
   ·replace h:=qz h;split at h <;> cases h
   ·cases h
  ·cases h
 |index t x i=>exact .refl fun p st1 d h=>by change sq P t (ev x) (ev i)=_ at h;unfold sq at h;split at h <;> cases h
 |_=>trivial
theorem qg5{op:Op}(h:∀x∈op.operands,ev x=ev' x):opD P cfg st ev dst op=opD P cfg st ev' dst op:=by
 have pairs:∀ps:Array (Nat×Operand),(∀x∈ps.map (·.2),ev x=ev' x)->(ps.toList.map fun(x:Nat×Operand)=>(x.1,ev x.2))=(ps.toList.map fun(x:Nat×Operand)=>(x.1,ev' x.2)):=fun ps hp =>
  List.map_congr_left fun p hm=>by
   rw[hp p.2 (Array.mem_map.2 ⟨p,by simpa using hm,rfl⟩)]
 have arr:∀ps:Array Operand,(∀x∈ps,ev x=ev' x)->ps.toList.map ev=ps.toList.map ev':=fun ps hp=>List.map_congr_left fun x hx=>hp x (by simpa using hx)
 cases op <;> simp only[Op.operands]at h <;> simp only[opD]
 case build t ps=>rw[pairs ps fun x hx=>h x (by simpa using hx)]
 case buildSlice t m ps=>rw[pairs ps fun x hx=>h x (by simpa using hx)]
 case makeFunc f first caps =>
  cases f <;> simp only[]
  ·rw[arr caps fun x hx=>h x (by simp[hx]),arr first fun x hx=>h x (by simp[hx])]
  ·rw[arr first fun x hx=>h x (by simp[hx])]
 case call c =>
  have ha:c.args.toList.map ev=c.args.toList.map ev':=arr c.args fun x hx=>h x (by simp[Call.operands,hx])
  simp only[ha]
  cases hc:c.callee with
  |value f=>have hf:ev f=ev' f:=h f (by simp[Call.operands,hc]);simp only[hf]
  |invoke r m=>have hf:ev r=ev' r:=h r (by simp[Call.operands,hc]);simp only[hf]
  |builtin b=>rfl
 case makeMap t r=>cases r <;> simp_all
 case slice t x lo hi mx=>cases lo <;> cases hi <;> cases mx <;> simp_all
 all_goals (first|rfl|(simp_all;done))
end
theorem qct{sl:qu}{t t0:Nat}{e:D}(h:∀d,qo sl t=some d->xf d t0=false)(hne:t≠t0):qo (put sl t0 e) t=qo sl t:=by
 have:qo (del sl t0) t=qo sl t:=by
  induction sl with
  |nil=>rfl
  |cons x r ih =>
   obtain⟨s,d⟩:=x
   simp only[qo]at h
   cases hb:Nat.beq s t with
   |true =>
    rw[hb]at h
    simp only[cond_true,Option.some.injEq]at h
    have h0:=h d rfl
    have hst:s≠t0:=by have:=qq.1 hb;omega
    simp only[del,xn.2 hst,h0,Bool.or_self,cond_false,qo,hb,cond_true]
   |false =>
    rw[hb]at h
    simp only[cond_false]at h
    have ih:=ih h
    simp only[del]
    cases hc:(Nat.beq s t0 || xf d t0) with
    |true=>simp only[cond_true,qo,hb,cond_false];exact ih
    |false=>simp only[cond_false,qo,hb];exact ih
 simp only[put,qo]
 rw[xn.2 (fun e=>hne e.symm)]
 exact this
theorem ye{a b:qu}{s:Nat}(h:qo a s=qo b s)(cs:List D):qo (setOwn a s cs) s=qo (setOwn b s cs) s:=by
 have hn:∀sl:qu,qo sl s=none->qo (setOwn sl s cs) s=none:=by
  intro sl;induction sl with
  |nil=>intro _;rfl
  |cons x r ih =>
   obtain⟨x1,x2⟩:=x
   intro h1
   simp only[qo]at h1
   cases hb:Nat.beq x1 s with
   |true=>rw[hb]at h1;simp at h1
   |false =>
    rw[hb]at h1
    simp only[cond_false]at h1
    simp only[setOwn,List.map_cons,hb,cond_false,qo]
    exact ih h1
 cases ha:qo a s with
 |none=>rw[hn a ha,hn b (by rw[<-h,ha])]
 |some d=>rw[jj a s cs ha,jj b s cs (by rw[<-h,ha])]
theorem dl{sl:qu}{s:Nat}{cs:List D}{t:Nat}{d:D}{u:Nat}(h:qo (setOwn sl s cs) t=some d)(hl:xf d u=true):qo sl t=some d:=by
 by_cases hs:t=s
 ·subst hs
  have:=ye (a:=sl) (b:=sl) (s:=t) rfl cs
  cases h0:qo sl t with
  |none =>
   have hn:=ye (a:=sl) (b:=[]) (s:=t) (by rw[h0];rfl) cs
   rw[hn]at h;cases h
  |some e=>rw[jj sl t cs h0]at h;cases h;cases hl
 ·rw[qy _ _ _ _ hs]at h;exact h
section
variable {P:Program} {n:Nat} {cfg:Cfg} {ops:List Oper} {i:Nat} {o:Oper} {st st' sc:St} {H:Nat} {fp:FP}
theorem qd3{α β:Type}{f f':α->Option β}:∀{l:List α},(∀x∈l,f x=f' x)->l.filterMap f=l.filterMap f'
 | [],_=>rfl
 |x::r,h=>by
  rw[List.filterMap_cons,List.filterMap_cons,h x (List.mem_cons_self ..),qd3 fun y hy=>h y (List.mem_cons_of_mem _ hy)]
theorem qd4{op:Op}{t:Nat}:t∈qgq op↔ .tmp t∈op.operands:=by
 unfold qgq
 rw[List.mem_filterMap]
 constructor
 ·rintro⟨x,hx,h⟩
  cases x <;> simp at h
  subst h;simpa using hx
 ·intro h
  exact⟨.tmp t,by simpa using h,rfl⟩
theorem dm{cl:List (Nat×Bool)}{x:Operand}(h:∀t,x = .tmp t->qo st.sl t=qo sc.sl t):evO st.sl cl x=evO sc.sl cl x:=by
 cases x with
 |tmp t=>simp only[evO,h t rfl]
 |_=>rfl
theorem ey(hback:∀{j:Nat} {o:Oper} {q:Nat×Bool},ops[j]? = some o->o.guard=some q->q.1<j):∀(m:Nat) (q:Nat×Bool),q.1<i ->
  (∀p∈xb ops i m q,∀s,jf ops p.1=some s->qo st.sl s=qo sc.sl s)->gB st.sl ops i m q=gB sc.sl ops i m q
 |0,_,_,_=>rfl
 |m+1,(j,w),hq,h=>by
  simp only at hq
  have hc:xb ops i (m+1) (j,w)=(j,w)::(match(ops[j]?).bind (·.guard) with|some g'=>xb ops i m g'|none=>[]):=by
   simp only[xb,up.2 hq,cond_true]
   rfl
  rw[hc]at h
  simp only[gB]
  cases hd:jf ops j with
  |none=>rfl
  |some s =>
   have hl:=h (j,w) (List.mem_cons_self ..) s hd
   simp only[hl]
   split
   ·rfl
   ·rename_i j' w' b _
    cases hb:(Nat.blt j i&&tc ops j j' w') with
    |false=>rfl
    |true =>
     simp only[cond_true]
     simp only[Bool.and_eq_true]at hb
     have h2:=hb.2
     unfold tc at h2
     cases hg:(ops[j]?).bind (·.guard) with
     |none=>rw[hg]at h2;simp at h2
     |some p =>
      obtain⟨p1,p2⟩:=p
      rw[hg]at h2 h
      simp only[Bool.and_eq_true]at h2
      have e1:=qq.1 h2.1
      have e2:=qcs h2.2
      subst e1;subst e2
      have hlt:p1<i:=by
       cases ho:ops[j]? with
       |none=>rw[ho]at hg;cases hg
       |some o' =>
        rw[ho]at hg
        have:=hback ho (by simpa using hg)
        simp only at this;omega
      rw[ey hback m (p1,p2) hlt fun p hp=>h p (List.mem_cons_of_mem _ hp)]
   ·rfl
theorem s8{cl:List (Nat×Bool)}{c x z:Operand}(h:∀t,(c = .tmp t\/x = .tmp t\/z = .tmp t)->qo st.sl t=qo sc.sl t):fe st.sl cl ops i c x z=fe sc.sl cl ops i c x z:=by
 unfold fe
 rw[dm (sc:=sc) fun t ht=>h t (.inl ht),dm (sc:=sc) (x:=x) fun t ht=>h t (.inr (.inl ht)),dm (sc:=sc) (x:=z) fun t ht=>h t (.inr (.inr ht))]
theorem fq{ev ev':Operand->D}(h:∀x∈o.op.operands,ev x=ev' x)(cl:List (Nat×Bool))(eff:Bool)(rb:Option Nat):un H ops o ev cl eff rb=un H ops o ev' cl eff rb:=by
 have h1:(o.op.operands.toList.filterMap fun x=>q9 (ev x))=(o.op.operands.toList.filterMap fun x=>q9 (ev' x)):=by
  refine qd3 fun x hx=> ?_
  rw[h x (by simpa using hx)]
 have h2:cz ev o.op=cz ev' o.op:=by
  cases hop:o.op <;> first|rfl|skip
  rename_i t a v
  simp only[cz]
  rw[h a (by rw[hop];simp[Op.operands])]
 have h3:bk ev o.op=bk ev' o.op:=by
  cases hop:o.op with
  |load t a=>simp only[bk];rw[h a (by rw[hop];simp[Op.operands])]
  |indexAddr t a q=>simp only[bk];rw[h a (by rw[hop];simp[Op.operands])]
  |convert s t a=>simp only[bk];rw[h a (by rw[hop];simp[Op.operands])]
  |_=>rfl
 simp only[un,yv,h1,h2,h3]
structure qrh(H:Nat)(o:Oper)(st st' sc sc':St)(fp:FP):Prop where
 w:∀t,t∈fp.w->qo st'.sl t=qo sc'.sl t
 same:∀t,t ∉ fp.w->qo st'.sl t=qo st.sl t
 same':∀t,t ∉ fp.w->qo sc'.sl t=qo sc.sl t
 h:H∈fp.w->st'.h=sc'.h
 hs:H ∉ fp.w->st'.h=st.h
 hs':H ∉ fp.w->sc'.h=sc.h
 lp:∀t d s,qo st'.sl t=some d->xf d s=true->(o.dst=some t/\fp.rb=some s)\/qo st.sl t=some d
 lp':∀t d s,qo sc'.sl t=some d->xf d s=true->(o.dst=some t/\fp.rb=some s)\/qo sc.sl t=some d
theorem qcu{d:D}{s:Nat}(h:xf d s=true):q9 d=some s:=by
 unfold xf at h
 split at h
 ·have:=qq.1 h;subst this;rfl
 ·have:=qq.1 h;subst this;rfl
 ·cases h
theorem rg{d:D}{s1 sc1:St}(hw:fp.w=o.dst.toList++(fp.w.drop o.dst.toList.length))(hrb:fp.rb=q9 d)
  (no:∀t0 t e,o.dst=some t0->qo s1.sl t=some e->xf e t0=false) (no':∀t0 t e,o.dst=some t0->qo sc1.sl t=some e->xf e t0=false)
  (tw:(∀t,t∈fp.w->o.dst≠some t->qo s1.sl t=qo sc1.sl t)/\(∀t,t ∉ fp.w->qo s1.sl t=qo st.sl t)/\(∀t,t ∉ fp.w->qo sc1.sl t=qo sc.sl t)/\(H∈fp.w->s1.h=sc1.h)/\(H ∉ fp.w->s1.h=st.h)/\(H ∉ fp.w->sc1.h=sc.h))
  (lp:∀t d s,qo s1.sl t=some d->xf d s=true->qo st.sl t=some d) (lp':∀t d s,qo sc1.sl t=some d->xf d s=true->qo sc.sl t=some d) :
  qrh H o st {s1 with sl:=j4 s1.sl o.dst d} sc {sc1 with sl:=j4 sc1.sl o.dst d} fp:=by
 obtain⟨t1,t2,t3,t4,t5,t6⟩:=tw
 cases hd:o.dst with
 |none =>
  simp only[j4]
  exact⟨fun t ht=>t1 t ht (by rw[hd];simp),t2,t3,t4,t5,t6,fun t d s h1 h2=> .inr (lp t d s h1 h2),fun t d s h1 h2=> .inr (lp' t d s h1 h2)⟩
 |some t0 =>
  have hin:t0∈fp.w:=by rw[hw,hd];simp
  have key:∀{s1:St},(∀t e,qo s1.sl t=some e->xf e t0=false)->∀t,t≠t0->qo (j4 s1.sl (some t0) d) t=qo s1.sl t:=fun h t hne=>qct (fun e he=>h t e he) hne
  have key0:∀{s1:St},qo (j4 s1.sl (some t0) d) t0=some (bif xf d t0 then .junk else d):=fun{s1}=>ix _ _ _
  have k1:=key (s1:=s1) fun t e he=>no t0 t e hd he
  have k2:=key (s1:=sc1) fun t e he=>no' t0 t e hd he
  have lpp:∀{s1 sx:St},(∀t,t≠t0->qo (j4 s1.sl (some t0) d) t=qo s1.sl t)->(∀t d s,qo s1.sl t=some d->xf d s=true->qo sx.sl t=some d)->
    ∀t e s,qo (j4 s1.sl (some t0) d) t=some e->xf e s=true->(o.dst=some t/\fp.rb=some s)\/qo sx.sl t=some e:=by
   intro s1 sx k1 lp t e s h1 h2
   by_cases hx:t=t0
   ·subst hx
    rw[key0]at h1
    cases hp:xf d t with
    |true=>rw[hp]at h1;cases h1;cases h2
    |false=>rw[hp]at h1;simp only[cond_false,Option.some.injEq]at h1;subst h1;exact .inl ⟨hd,by rw[hrb,qcu h2]⟩
   ·rw[k1 t hx]at h1;exact .inr (lp t e s h1 h2)
  refine⟨fun t ht=> ?_,fun t ht=> ?_,fun t ht=> ?_,t4,t5,t6,lpp k1 lp,lpp k2 lp'⟩
  ·by_cases hx:t=t0
   ·subst hx
    show qo (j4 s1.sl (some t) d) t=qo (j4 sc1.sl (some t) d) t
    rw[key0,key0]
   ·show qo (j4 s1.sl (some t0) d) t=qo (j4 sc1.sl (some t0) d) t
    rw[k1 t hx,k2 t hx];exact t1 t ht (by rw[hd];simp;exact fun h=>hx h.symm)
  ·have hx:t≠t0:=fun h=>ht (h▸hin)
   show qo (j4 s1.sl (some t0) d) t=_
   rw[k1 t hx];exact t2 t ht
  ·have hx:t≠t0:=fun h=>ht (h▸hin)
   show qo (j4 sc1.sl (some t0) d) t=_
   rw[k2 t hx];exact t3 t ht
theorem ni{b:Bool}{p:Prop}{st:St}{d:D}{f:Nat}{args:List D}:(bif b then Res.eff p st d else Res.bad)≠ .call f args:=by cases b <;> intro h <;> cases h
theorem m9[Lay](hback:∀{j:Nat} {o:Oper} {q:Nat×Bool},ops[j]? = some o->o.guard=some q->q.1<j)(ho:ops[i]? = some o)(hf:StepFact P cfg H ops i o st st' fp)
  (hN:∀t∈fp.n,qo st.sl t=qo sc.sl t) (hH:H∈fp.n->st.h=sc.h)
  (no:∀t0 t e,o.dst=some t0->qo st.sl t=some e->xf e t0=false) (no':∀t0 t e,o.dst=some t0->qo sc.sl t=some e->xf e t0=false) :
  ∃sc',StepFact P cfg H ops i o sc sc' fp/\qrh H o st st' sc sc' fp:=by
 have nm:∀{ev:Operand->D} {cl:List (Nat×Bool)} {eff:Bool} {rb:Option Nat},fp=un H ops o ev cl eff rb->(∀t,.tmp t∈o.op.operands->t∈fp.n)/\(∀x∈o.op.operands,∀s,q9 (ev x)=some s->s∈fp.n)/\
   (∀p∈cl,∀s,jf ops p.1=some s->s∈fp.n)/\(bk ev o.op=true->H∈fp.n):=by
  intro ev cl eff rb h
  subst h
  simp only[un,yv,List.mem_append]
  refine⟨fun t ht=> .inl (.inl (.inl (.inl (.inl (qd4.2 ht))))),fun x hx s hs=> .inl (.inl (.inl (.inl (.inr (List.mem_filterMap.2 ⟨x,by simpa using hx,hs⟩))))),
   fun p hp s hs=> .inl (.inl (.inl (.inr (List.mem_filterMap.2 ⟨p,hp,hs⟩)))),fun hr=> .inr (by rw[hr];simp)⟩
 have evs:∀{cl:List (Nat×Bool)},(∀t,.tmp t∈o.op.operands->t∈fp.n)->∀x∈o.op.operands,evO st.sl cl x=evO sc.sl cl x:=fun h x hx=>dm fun t ht=>hN t (h t (ht▸hx))
 have plain:∀{d:D} {ev:Operand->D} {cl:List (Nat×Bool)},fp=un H ops o ev cl false (q9 d)->qrh H o st {st with sl:=j4 st.sl o.dst d} sc {sc with sl:=j4 sc.sl o.dst d} fp:=by
  intro d ev cl h
  have hw:fp.w=o.dst.toList:=by subst h;simp[un]
  have hnm:=nm h
  refine rg (by rw[hw];simp) (by subst h;rfl) no no' ⟨fun t ht hne=> ?_,fun _ _=>rfl,fun _ _=>rfl,fun hh=>hH ?_,fun _=>rfl,fun _=>rfl⟩ (fun _ _ _ h _=>h) (fun _ _ _ h _=>h)
  ·rw[hw]at ht;exact absurd (by simpa using ht) hne
  ·rw[hw]at hh
   subst h
   simp only[un,yv,List.mem_append]
   exact .inl (.inl (.inr hh))
 have factSame:∀{cl:List (Nat×Bool)} {b:Bool} {d:D},fp=un H ops o (evO st.sl cl) cl false (q9 d)\/(∃j w,fp=un H ops o (evO st.sl cl) cl false (q9 (.may j w d)))->qjd P cfg st (evO st.sl cl) o b d->qjd P cfg sc (evO sc.sl cl) o b d:=by
  intro cl b d hf0 hf
  have hnm:(∀t,.tmp t∈o.op.operands->t∈fp.n)/\(∀x∈o.op.operands,∀s,q9 (evO st.sl cl x)=some s->s∈fp.n)/\(∀p∈cl,∀s,jf ops p.1=some s->s∈fp.n)/\(bk (evO st.sl cl) o.op=true->H∈fp.n):=by
   rcases hf0 with h|⟨j,w,h⟩
   ·exact nm h
   ·exact nm h
  have hs:=qg4 (P:=P) (cfg:=cfg) (st:=st) (st':=sc) (ev:=evO st.sl cl) (dst:=o.dst) (op:=o.op) (fun x hx s hs=>hN s (hnm.2.1 x hx s hs)) (fun hr=>hH (hnm.2.2.2 hr))
  rw[qg5 (ev:=evO st.sl cl) (ev':=evO sc.sl cl) (st:=sc) (evs hnm.1)]at hs
  clear hf0
  cases hf with
  |val h=>rw[h]at hs;exact .val hs
  |nd h hp=>rw[h]at hs;exact .nd hs hp
  |asm h=>rw[h]at hs;exact .asm hs
  |new h=>rw[h]at hs;exact .new hs
  |call h hp hv=>rw[h]at hs;exact .call hs hp hv
 generalize hfp:fp=fp' at hf
 cases hf with
 |pick0 hg hop h =>
  have hnm:=nm hfp
  have e:=evs (cl:=[]) hnm.1
  rw[fq e]at hfp⊢
  rw[hfp]at plain
  refine⟨_,.pick0 hg hop ?_,plain rfl⟩
  rw[<-s8 fun t ht=>hN t (hnm.1 t ?_)]
  ·exact h
  ·rw[hop];simp only[Op.operands];rcases ht with rfl|rfl|rfl <;> simp
 |val0 hg hf =>
  have hnm:=nm hfp
  have e:=evs (cl:=[]) hnm.1
  have hf':=factSame (.inl hfp) hf
  rw[fq e]at hfp⊢
  rw[hfp]at plain
  exact⟨_,.val0 hg hf',plain rfl⟩
 |eff0 hg h hp =>
  rename_i p st1 d
  have hnm:=nm hfp
  have e:=evs (cl:=[]) hnm.1
  have hs:=qg4 (P:=P) (cfg:=cfg) (st:=st) (st':=sc) (ev:=evO st.sl []) (dst:=o.dst) (op:=o.op) (fun x hx s hs=>hN s (hnm.2.1 x hx s hs)) (fun hr=>hH (hnm.2.2.2 hr))
  rw[qg5 (ev:=evO st.sl []) (ev':=evO sc.sl []) (st:=sc) e,h]at hs
  cases hown:cz (evO st.sl []) o.op with
  |some s =>
   obtain⟨cs,rfl,h2⟩:=hs.1 s hown
   have hw:fp.w=o.dst.toList++[s]:=by rw[hfp];simp[un,hown]
   have hrb:fp.rb=q9 d:=by rw[hfp];rfl
   have hsn:s∈fp.n:=by
    cases hop:o.op <;> rw[hop]at hown <;> try cases hown
    rename_i t a v
    exact hnm.2.1 a (by rw[hop];simp[Op.operands]) s hown
   have hwn:∀t,t∈fp.w->t∈fp.n:=by
    intro t ht
    rw[hw]at ht
    rcases List.mem_append.1 ht with ht|ht
    ·rw[hfp];simp only[un,yv,List.mem_append];exact .inl (.inl (.inr ht))
    ·simp at ht;subst ht;exact hsn
   refine⟨{sc with sl:=j4 (setOwn sc.sl s cs) o.dst d},?_,?_⟩
   ·have:=StepFact.eff0 (H:=H) (ops:=ops) (i:=i) hg h2 hp
    rw[<-fq e]at this
    exact this
   ·refine hfp▸rg (s1:={st with sl:=setOwn st.sl s cs}) (sc1:={sc with sl:=setOwn sc.sl s cs}) (by rw[hw];simp) hrb (fun t0 t u h1 h2=> ?_) (fun t0 t u h1 h2=> ?_)
     ⟨fun t ht hne=> ?_,fun t ht=>qy _ _ _ _ (fun e=>ht (by rw[hw,e];simp)),fun t ht=>qy _ _ _ _ (fun e=>ht (by rw[hw,e];simp)),fun hh=>hH (hwn _ hh),fun _=>rfl,fun _=>rfl⟩
     (fun t d s h1 h2=>dl h1 h2) (fun t d s h1 h2=>dl h1 h2)
    ·cases hl:xf u t0 with
     |false=>rfl
     |true=>have:=no t0 t u h1 (dl h2 hl);rw[hl]at this;cases this
    ·cases hl:xf u t0 with
     |false=>rfl
     |true=>have:=no' t0 t u h1 (dl h2 hl);rw[hl]at this;cases this
    ·by_cases hx:t=s
     ·subst hx;exact ye (hN t hsn) cs
     ·rw[qy _ _ _ _ hx,qy _ _ _ _ hx]
      exact hN t (hwn t ht)
  |none =>
   have hHn:H∈fp.n:=by rw[hfp];simp[un,hown]
   obtain⟨h1,rfl,h2⟩:=hs.2 hown (hH hHn)
   have hw:fp.w=o.dst.toList++[H]:=by rw[hfp];simp[un,hown]
   have hrb:fp.rb=q9 d:=by rw[hfp];rfl
   refine⟨{ {sc with h:=h1} with sl:=j4 sc.sl o.dst d},?_,?_⟩
   ·have:=StepFact.eff0 (H:=H) (ops:=ops) (i:=i) hg h2 hp
    rw[<-fq e]at this
    exact this
   ·refine hfp▸rg (s1:={st with h:=h1}) (sc1:={sc with h:=h1}) (by rw[hw];simp) hrb no no'
     ⟨fun t ht hne=> ?_,fun _ _=>rfl,fun _ _=>rfl,fun _=>rfl,fun hh=>absurd (by rw[hw];simp) hh,fun hh=>absurd (by rw[hw];simp) hh⟩ (fun _ _ _ h _=>h) (fun _ _ _ h _=>h)
    rw[hw]at ht
    rcases List.mem_append.1 ht with ht|ht
    ·exact absurd (by simpa using ht) hne
    ·simp at ht;subst ht;exact hN _ hHn
 |callE0 hg h hv hp =>
  rename_i f args v h1
  have hnm:=nm hfp
  have e:=evs (cl:=[]) hnm.1
  have hs:=qg4 (P:=P) (cfg:=cfg) (st:=st) (st':=sc) (ev:=evO st.sl []) (dst:=o.dst) (op:=o.op) (fun x hx s hs=>hN s (hnm.2.1 x hx s hs)) (fun hr=>hH (hnm.2.2.2 hr))
  rw[qg5 (ev:=evO st.sl []) (ev':=evO sc.sl []) (st:=sc) e,h]at hs
  have hs:opD P cfg sc (evO sc.sl []) o.dst o.op = .call f args:=hs
  have hown:cz (evO st.sl []) o.op=none:=by
   cases hop:o.op <;> first|rfl|skip
   rename_i t x z
   rw[hop]at h
   simp only[opD]at h
   have hne:∀r,xa P st t (evO st.sl [] x) (evO st.sl [] z)=r->r≠ .call f args:=fun r hr hc=>by
    subst hr
    unfold xa at hc
    split at hc
    ·rename_i m hz hd
     cases hb:(Nat.beq (ql (evO st.sl [] z)).length m&&(ql (evO st.sl [] z)).all qce) with
     |false=>rw[hb]at hc;cases hc
     |true =>
      rw[hb]at hc
      simp only[cond_true]at hc
      split at hc
      ·split at hc
       ·exact absurd hc ni
       ·cases hc
      ·split at hc
       ·split at hc <;> cases hc
       ·cases hc
      ·split at hc
       ·exact absurd hc ni
       ·cases hc
      ·cases hc
    ·cases hc
   exact absurd h (hne _ rfl)
  have hHn:H∈fp.n:=by rw[hfp];simp[un,hown]
  have hw:fp.w=o.dst.toList++[H]:=by rw[hfp];simp[un,hown]
  have hrb:fp.rb=q9 v:=by rw[hfp];rfl
  refine⟨{sl:=j4 sc.sl o.dst v,h:=h1},?_,?_⟩
  ·have:=StepFact.callE0 (H:=H) (ops:=ops) (i:=i) hg hs hv (by rw[<-hH hHn];exact hp)
   rw[<-fq e]at this
   exact this
  ·refine hfp▸rg (s1:={st with h:=h1}) (sc1:={sc with h:=h1}) (by rw[hw];simp) hrb no no'
    ⟨fun t ht hne=> ?_,fun _ _=>rfl,fun _ _=>rfl,fun _=>rfl,fun hh=>absurd (by rw[hw];simp) hh,fun hh=>absurd (by rw[hw];simp) hh⟩ (fun _ _ _ h _=>h) (fun _ _ _ h _=>h)
   rw[hw]at ht
   rcases List.mem_append.1 ht with ht|ht
   ·exact absurd (by simpa using ht) hne
   ·simp at ht;subst ht;exact hN _ hHn
 |pick1 hg hb hop h =>
  rename_i j w b c x z d
  have hnm:=nm hfp
  have e:=evs (cl:=xb ops i 40 (j,w)) hnm.1
  have hlt:j<i:=hback ho hg
  rw[fq e]at hfp⊢
  rw[hfp]at plain
  refine⟨_,.pick1 (b:=b) hg ?_ hop ?_,plain rfl⟩
  ·rw[<-ey hback 40 (j,w) hlt fun p hp s hs=>hN s (hnm.2.2.1 p hp s hs)];exact hb
  ·rw[<-s8 fun t ht=>hN t (hnm.1 t ?_)]
   ·exact h
   ·rw[hop];simp only[Op.operands];rcases ht with rfl|rfl|rfl <;> simp
 |val1 hg hb hf hm =>
  rename_i j w b d
  have hnm:=nm hfp
  have e:=evs (cl:=xb ops i 40 (j,w)) hnm.1
  have hlt:j<i:=hback ho hg
  have hf':=factSame (.inr ⟨j,w,hfp⟩) hf
  rw[fq e]at hfp⊢
  rw[hfp]at plain
  refine⟨_,.val1 (b:=b) hg ?_ hf' hm,plain rfl⟩
  rw[<-ey hback 40 (j,w) hlt fun p hp s hs=>hN s (hnm.2.2.1 p hp s hs)];exact hb
end
end Go.Ab
