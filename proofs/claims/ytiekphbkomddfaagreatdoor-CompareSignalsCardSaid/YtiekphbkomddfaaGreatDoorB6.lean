/- The executor is sound, 18: regions that draw their order: the trace in the order of the text, the wb. -/
import Derived.Test.YtiekphbkomddfaaGreatDoorB5
import Derived.OrdersIn
import Derived.LoopN
import Derived.ChangeArms
import Derived.Deep.Slices
import Derived.WideKeyArgs
import Derived.ChangeSame
import Derived.JoinedOf
import Derived.JoinedAt
import Derived.RowKit3
import Derived.Below
namespace Go.Ab
structure Trace[Lay](P:Program)(cfg:Cfg)(H:Nat)(ms:List Nat)(ops:List Oper)(k:St->Prop)(i:Nat)(fps:List FP)(st:St)(A:Nat->St)(F:Nat->FP):Prop where
 start:A i=st
 old:∀m f,fps[m]? = some f->F m=f
 step:∀j o,i<=j->ops[j]? = some o->StepFact P cfg H ops j o (A j) (A (j+1)) (F j)
 pair:∀j o m,i<=j->ops[j]? = some o->m<j->cx ms j m o.dst (F j) (F m)=true
 fin:k { (A ops.length) with sl:=xh (A ops.length).sl}
def y8[Lay](P:Program)(n:Nat)(cfg:Cfg)(ms:List Nat)(ops:List Oper)(k:St->Prop)(i:Nat)(fps:List FP)(st:St):Prop :=
 ∀(g:G) (β:Nat->Nat) (U:Nat->Prop) (a:Act) (w:World),Rel n g β U (yOf ops a) st a w->qje ops (· < i) st->u5 ops (· < i) a->fps.length=i ->
  ∃A F,Trace P cfg n ms ops k i fps st A F
theorem s9{ms:List Nat}{j:Nat}{dst:Option Nat}{fj:FP}:∀{fps:List FP} {k:Nat},qgp ms j dst fj k fps=true->∀m f,fps[m]? = some f->cx ms j (k+m) dst fj f=true
 | [],_,_,m,f,h=>by simp at h
 |x::r,k,h,m,f,hm=>by
  simp only[qgp,Bool.and_eq_true]at h
  cases m with
  |zero=>simp at hm;subst hm;exact h.1
  |succ m =>
   have:=s9 (k:=k+1) h.2 m f (by simpa using hm)
   rw[show k+1+m=k+(m+1) by omega]at this
   exact this
theorem qg6{P:Program}{ops:Array Oper}{i:Nat}{K:Act->World->Prop}{a:Act}{w:World}(h:wpOpIn (fen none) 0 P ops (fun _ _ _=>False) i K a w):∃a' w',K a' w':=by
 have hl:¬LetsOut (fun(_:Exit) (_:Act) (_:World)=>False):=fun⟨_,_,h⟩=>h
 unfold wpOpIn at h
 cases ho:ops[i]? with
 |none=>rw[ho]at h;exact⟨_,_,h⟩
 |some o =>
  rw[ho]at h
  simp only at h
  split at h
  ·unfold Go.Oper.wpIn at h
   have h:=h.2
   generalize (o.semAt (fen none).round a.eval).run P w=r at h
   cases r with
   |ok x w' =>
    cases x with
    |value v=>exact⟨_,_,h⟩
    |skip=>exact⟨_,_,h⟩
    |defer d=>exact⟨_,_,h⟩
    |enter f args =>
     obtain⟨e,w'',fr,h1,_⟩:=h.2.2 [] (room_wide _)
     cases e with
     |returned v=>exact⟨_,_,h1⟩
     |panicked c=>exact h1.elim
     |outgrown=>exact(hl h1).elim
    |row row args =>
     obtain⟨v,w'',h1,_⟩:=h.2 default [] (room_wide _)
     exact⟨_,_,h1⟩
    |round l f tmps assign body =>
     obtain⟨e,w'',h1,_⟩:=h.2.2 default [] (room_wide _)
     cases e with
     |returned v=>exact⟨_,_,h1⟩
     |panicked c=>exact h1.elim
     |outgrown=>exact(hl h1).elim
    |_=>exact(show False from h).elim
   |halt x w'=>cases x <;> exact(show False from h).elim
  ·exact⟨_,_,h.2⟩
section
variable {P:Program} {n:Nat} {cfg:Cfg} {ops:List Oper} {ms:List Nat}
theorem li[Lay]{k k0:St->Prop}{kc:Nat->List FP->St->Prop}(ok:y5 n ops)(hk0:∀st,k0 st->k st)(hkc:∀i fps st,kc i fps st->y8 P n cfg ms ops k i fps st) :
  ∀(rest:List Oper) (i:Nat) (fps:List FP) (st:St),ops.drop i=rest->exD P cfg (PCall P) (qap P) n ms ops kc i rest fps st k0->y8 P n cfg ms ops k i fps st
 | [],i,fps,st,h,he=>by
  intro g β U a w r hm hc hf
  have hl:ops.length<=i:=by have:=congrArg List.length h;simp at this;omega
  refine⟨fun _=>st,fun m=>(fps[m]?).getD ⟨[],[],none⟩,rfl,fun m f h=>by simp[h],fun j o hj ho=> ?_,fun j o m hj ho=> ?_,hk0 _ he⟩
  ·have:=(List.getElem?_eq_some_iff.1 ho).1;omega
  ·have:=(List.getElem?_eq_some_iff.1 ho).1;omega
 |o::rest,i,fps,st,h,he=>by
  intro g β U a w r hm hc hf
  have hlt:i<ops.length:=by
   rcases Nat.lt_or_ge i ops.length with h1|h1
   ·exact h1
   ·rw[List.drop_eq_nil_of_le h1]at h;cases h
  have hcons:=List.drop_eq_getElem_cons hlt
  rw[h]at hcons
  have ho:ops[i]? = some o:=by
   rw[List.getElem?_eq_getElem hlt]
   exact congrArg some (List.cons.inj hcons).1.symm
  have hrest:ops.drop (i+1)=rest:=(List.cons.inj hcons).2.symm
  have ih:∀fps1 st1,exD P cfg (PCall P) (qap P) n ms ops kc (i+1) rest fps1 st1 k0->y8 P n cfg ms ops k (i+1) fps1 st1:=fun fps1 st1=>li ok hk0 hkc rest (i+1) fps1 st1 hrest
  suffices hs:∃st1 fp,StepFact P cfg n ops i o st st1 fp/\qgp ms i o.dst fp 0 fps=true/\y8 P n cfg ms ops k (i+1) (fps++[fp]) st1 by
   obtain⟨st1,fp,h1,h2,h3⟩:=hs
   have hnext:=qlo (ρ:=none) (Q:=fun _ _ _=>False) (K:=fun a' w'=>∃g' β',Rel n g' β' U (yOf ops a') st1 a' w'/\qje ops (fun j=>j<i\/j=i) st1/\u5 ops (fun j=>j<i\/j=i) a') ok r hm hc
    (fun j o' j1 w1 hj ho' hg _=>by have:=ok.back ho' hg;simp only at this;omega) ho (Nat.lt_irrefl _) (fun q hq _=>by have:=ok.back ho hq;exact this) (fun c x z s j _ _ h=>(zi h).1) h1
    (fun g' β' v w' e1 e2 e3 _ _=>⟨g',β',e1,e2,e3⟩)
   obtain⟨a',w',g',β',r1,m1,c1⟩:=qg6 hnext
   obtain⟨A,F,T⟩:=h3 g' β' U a' w' r1 (fun t j w d e1 e2=>by have:=m1 t j w d e1 e2;omega) (fun j o' j1 w1 hj=>c1 j o' j1 w1 (by omega)) (by simp[hf])
   have hFi:F i=fp:=T.old i fp (by rw[<-hf];simp)
   refine⟨fun j=>if j=i then st else A j,F,by simp,fun m f hm=>T.old m f ?_,fun j o' hj ho'=> ?_,fun j o' m hj ho' hmj=> ?_,?_⟩
   ·rw[List.getElem?_append_left]
    ·exact hm
    ·exact(List.getElem?_eq_some_iff.1 hm).1
   ·by_cases hji:j=i
    ·subst hji
     rw[ho]at ho';cases ho'
     simp only[if_true]
     rw[if_neg (by omega),T.start,hFi]
     exact h1
    ·simp only[if_neg hji]
     rw[if_neg (by omega)]
     exact T.step j o' (by omega) ho'
   ·by_cases hji:j=i
    ·subst hji
     rw[ho]at ho';cases ho'
     have hm':fps[m]? = some fps[m]:=List.getElem?_eq_getElem (by omega)
     have:=s9 h2 m _ hm'
     rw[Nat.zero_add]at this
     rw[hFi,T.old m fps[m] (by rw[List.getElem?_append_left (by omega)];exact hm')]
     exact this
    ·exact T.pair j o' m (by omega) ho' hmj
   ·simp only
    rw[if_neg (by omega)]
    exact T.fin
  have hgo:∀{fp:FP} {X:Prop},(bif qgp ms i o.dst fp 0 fps then X else False)->qgp ms i o.dst fp 0 fps=true/\X:=by
   intro fp X h
   cases hb:qgp ms i o.dst fp 0 fps with
   |false=>rw[hb]at h;exact h.elim
   |true=>rw[hb]at h;exact⟨rfl,h⟩
  simp only[exD]at he
  cases hg:o.guard with
  |none =>
   rw[hg]at he
   simp only at he
   have hres:=gv (P:=P) (cfg:=cfg) (o:=o) r (wj r (cl:=[]) (by simp))
   split at he
   ·rename_i c x z hop
    split at he
    ·rename_i d hp
     obtain⟨h1,h2⟩:=hgo he
     exact⟨_,_,.pick0 hg hop hp,h1,ih _ _ h2⟩
    ·exact he.elim
   ·cases hopd:opD P cfg st (evO st.sl []) o.dst o.op with
    |val d =>
     rw[hopd]at he
     obtain⟨h1,h2⟩:=hgo he
     exact⟨_,_,.val0 hg (.val hopd),h1,ih _ _ h2⟩
    |nd p d =>
     rw[hopd]at he
     obtain⟨h1,h2⟩:=hgo he.2
     exact⟨_,_,.val0 hg (.nd hopd fun _=>he.1),h1,ih _ _ h2⟩
    |asm p d =>
     rw[hopd]at he hres
     obtain⟨h1,h2⟩:=hgo (he hres.1)
     exact⟨_,_,.val0 hg (.asm hopd),h1,ih _ _ h2⟩
    |new cs =>
     rw[hopd]at he
     obtain⟨h1,h2⟩:=hgo he
     exact⟨_,_,.val0 hg (.new hopd),h1,ih _ _ h2⟩
    |eff p st1 d =>
     rw[hopd]at he
     obtain⟨h1,h2⟩:=hgo he.2
     exact⟨_,_,.eff0 hg hopd he.1,h1,ih _ _ h2⟩
    |call f args =>
     rw[hopd]at he
     rcases he with he|he
     ·obtain⟨args',v,hv,hp,hk⟩:=he.it
      obtain⟨h1,h2⟩:=hgo hk
      exact⟨_,_,.val0 hg (.call hopd hp hv),h1,hkc _ _ _ h2⟩
     ·obtain⟨v,h',hv,hp,hk⟩:=he.it
      obtain⟨h1,h2⟩:=hgo hk
      exact⟨_,_,.callE0 hg hopd hv hp,h1,hkc _ _ _ h2⟩
    |ycall l args=>rw[hopd]at he;exact he.elim
    |bad=>rw[hopd]at he;exact he.elim
  |some q =>
   obtain⟨j,w1⟩:=q
   rw[hg]at he
   simp only at he
   have hji:j<i:=ok.back ho hg
   cases hgb:gB st.sl ops i 40 (j,w1) with
   |none=>rw[hgb]at he;exact he.elim
   |some b =>
    rw[hgb]at he
    simp only at he
    have hdone:nf ops (· < i):=fun j o' j1 w1 hj ho' hg _=>by have:=ok.back ho' hg;simp only at this;omega
    have hiff:=b6 r hc hdone 40 (j,w1) b (fun _=>hji) hgb
    simp only at hiff
    have hres:b=true->j6 P n g β U (yOf ops a) st a w o (opD P cfg st (evO st.sl (xb ops i 40 (j,w1))) o.dst o.op):=fun hb =>
     gv (P:=P) (cfg:=cfg) (o:=o) r (wj r (xw hc hdone 40 (j,w1) (fun _=>hji) (hiff.2 hb)))
    have hmay:∀{d:D} {X:Prop},(bif vk d then X else False)->vk d=true/\X:=by
     intro d X h
     cases hb:vk d with
     |false=>rw[hb]at h;exact h.elim
     |true=>rw[hb]at h;exact⟨rfl,h⟩
    split at he
    ·rename_i c x z hop
     split at he
     ·rename_i d hp
      obtain⟨h1,h2⟩:=hgo he
      exact⟨_,_,.pick1 hg hgb hop hp,h1,ih _ _ h2⟩
     ·exact he.elim
    ·cases hopd:opD P cfg st (evO st.sl (xb ops i 40 (j,w1))) o.dst o.op with
     |val d =>
      rw[hopd]at he
      obtain⟨h0,he⟩:=hmay he
      obtain⟨h1,h2⟩:=hgo he
      exact⟨_,_,.val1 hg hgb (.val hopd) h0,h1,ih _ _ h2⟩
     |nd p d =>
      rw[hopd]at he
      obtain⟨h0,he⟩:=hmay he
      obtain⟨h1,h2⟩:=hgo he.2
      exact⟨_,_,.val1 hg hgb (.nd hopd he.1) h0,h1,ih _ _ h2⟩
     |asm p d =>
      rw[hopd]at he
      obtain⟨h0,he⟩:=hmay he
      obtain⟨h1,h2⟩:=hgo (he fun hb=>by have:=hres hb;rw[hopd]at this;exact this.1)
      exact⟨_,_,.val1 hg hgb (.asm hopd) h0,h1,ih _ _ h2⟩
     |new cs=>rw[hopd]at he;exact he.elim
     |eff p st1 d=>rw[hopd]at he;exact he.elim
     |call f args =>
      rw[hopd]at he
      obtain⟨args',v,hv,hp,hk⟩:=he.it
      obtain⟨h1,h2⟩:=hgo hk
      exact⟨_,_,.val1 hg hgb (.call hopd hp hv) (jq hv),h1,hkc _ _ _ h2⟩
     |ycall l args=>rw[hopd]at he;exact he.elim
     |bad=>rw[hopd]at he;exact he.elim
inductive sf(ops:List Oper):Nat->Nat->Prop
 |one {j m:Nat} {o:Oper} {e:Edge} (ho:ops[j]? = some o) (he:e∈o.after) (hb:Region.binds .any e=true) (hm:e.on=m):sf ops j m
 |more {j l m:Nat} {o:Oper} {e:Edge} (ho:ops[j]? = some o) (he:e∈o.after) (hb:Region.binds .any e=true) (hl:e.on=l) (h:sf ops l m):sf ops j m
theorem qd5:∀(pre rest:List Oper) (acc:List Nat),ops=pre++rest->acc.length=pre.length->(∀j m,(acc.getD j 0).testBit m=true->sf ops j m)->∀j m,((wb rest acc).getD j 0).testBit m=true->sf ops j m
 |pre,[],acc,_,_,h=>h
 |pre,o::r,acc,h1,h2,h=>by
  simp only[wb]
  refine qd5 (pre++[o]) r _ (by rw[h1];simp) (by simp[h2]) fun j m hj=> ?_
  rcases Nat.lt_trichotomy j acc.length with hlt|heq|hgt
  ·rw[List.getD,List.getElem?_append_left hlt]at hj;exact h j m hj
  ·subst heq
   rw[List.getD,List.getElem?_append_right (Nat.le_refl _),Nat.sub_self]at hj
   simp only[List.getElem?_cons_zero,Option.getD_some]at hj
   have ho:ops[acc.length]? = some o:=by rw[h1,List.getElem?_append_right (by omega),h2];simp
   have go:∀(l:List Edge) (m0:Nat),(∀e∈l,e∈o.after)->(∀m,m0.testBit m=true->sf ops acc.length m)->
     ∀m,(l.foldl (fun m e=>bif Region.binds .any e&&Nat.blt e.on acc.length then m ||| 2^e.on ||| acc.getD e.on 0 else m) m0).testBit m=true->sf ops acc.length m:=by
    intro l
    induction l with
    |nil=>intro m0 _ h0 m hm;exact h0 m hm
    |cons e l ih =>
     intro m0 hl h0 m hm
     simp only[List.foldl_cons]at hm
     refine ih _ (fun x hx=>hl x (List.mem_cons_of_mem _ hx)) (fun q hq=> ?_) m hm
     cases hb:(Region.binds .any e&&Nat.blt e.on acc.length) with
     |false=>rw[hb]at hq;exact h0 q hq
     |true =>
      rw[hb]at hq
      simp only[Bool.and_eq_true]at hb
      simp only[cond_true,Nat.testBit_or,Bool.or_eq_true,Nat.testBit_two_pow,decide_eq_true_eq]at hq
      rcases hq with (hq|hq)|hq
      ·exact h0 q hq
      ·exact .one ho (hl e (List.mem_cons_self ..)) hb.1 hq
      ·exact .more ho (hl e (List.mem_cons_self ..)) hb.1 rfl (h _ _ hq)
   exact go o.after.toList 0 (fun e he=>by simpa using he) (fun m hm=>by simp at hm) m hj
  ·rw[List.getD,List.getElem?_eq_none (by simp;omega)]at hj
   simp at hj
theorem qcv{j m:Nat}(h:((wb ops []).getD j 0).testBit m=true):sf ops j m :=
 qd5 [] ops [] rfl rfl (fun j m h=>by simp at h) j m h
end
section
variable {P:Program} {n:Nat} {cfg:Cfg} {ops:List Oper} {ms:List Nat} {i:Nat} {o:Oper} {st st':St} {fp:FP} {H:Nat} {A:Nat->St} {F:Nat->FP}
theorem qba{a b:List Nat}{t:Nat}(h1:t∈a)(h2:t∈b):qn3 a b=true:=by
 simp only[qn3,List.any_eq_true]
 exact⟨t,h1,t,h2,qq.2 rfl⟩
structure qcw(H:Nat)(ops:List Oper)(o:Oper)(fp:FP):Prop where
 wn:∀t∈fp.w,t∈fp.n
 dst:∀t,o.dst=some t->t∈fp.w
 tmps:∀t,.tmp t∈o.op.operands->t∈fp.n
 rb:∀s,fp.rb=some s->s∈fp.n
theorem qoi{c r:Bool}{t H:Nat}(h:t∈(bif c then[H] else[])):t∈(bif c || r then[H] else[]):=by
 cases c
 ·simp at h
 ·exact h
theorem qfx{ev:Operand->D}{cl:List (Nat×Bool)}{eff:Bool}{rb:Option Nat}:qcw H ops o (un H ops o ev cl eff rb):=by
 refine⟨fun t ht=> ?_,fun t ht=> ?_,fun t ht=> ?_,fun s hs=> ?_⟩
 ·simp only[un,yv,List.mem_append]at ht⊢
  rcases ht with (ht|ht)|ht
  ·exact .inl (.inl (.inr ht))
  ·cases eff with
   |false=>simp at ht
   |true =>
    simp only[cond_true]at ht
    have hs:cz ev o.op=some t:=by simpa using ht
    refine .inl (.inl (.inl (.inl (.inr ?_))))
    cases hop:o.op <;> rw[hop]at hs <;> try cases hs
    rename_i q x v
    exact List.mem_filterMap.2 ⟨x,by simp[Op.operands],hs⟩
  ·exact .inr (qoi ht)
 ·simp only[un,List.mem_append];exact .inl (.inl (by rw[ht];simp))
 ·simp only[un,yv,List.mem_append];exact .inl (.inl (.inl (.inl (.inl (qd4.2 ht)))))
 ·simp only[un]at hs
  simp only[un,List.mem_append];exact .inl (.inr (by rw[hs];simp))
theorem StepFact.facts[Lay](hf:StepFact P cfg H ops i o st st' fp):qcw H ops o fp:=by cases hf <;> exact qfx
theorem StepFact.guardN[Lay](hf:StepFact P cfg H ops i o st st' fp){q:Nat×Bool}(hg:o.guard=some q)(hlt:q.1<i){s:Nat}(hd:jf ops q.1=some s):s∈fp.n:=by
 have hin:∀{j:Nat} {w:Bool},j<i->jf ops j=some s->s∈(xb ops i 40 (j,w)).filterMap fun p=>jf ops p.1:=fun{j w} h1 h2 =>
  List.mem_filterMap.2 ⟨(j,w),by simp[xb,up.2 h1],h2⟩
 cases hf with
 |pick0 h=>rw[h]at hg;cases hg
 |val0 h=>rw[h]at hg;cases hg
 |eff0 h=>rw[h]at hg;cases hg
 |callE0 h=>rw[h]at hg;cases hg
 |pick1 h=>rw[h]at hg;cases hg;simp only[un,yv,List.mem_append];exact .inl (.inl (.inl (.inr (hin hlt hd))))
 |val1 h=>rw[h]at hg;cases hg;simp only[un,yv,List.mem_append];exact .inl (.inl (.inl (.inr (hin hlt hd))))
theorem ic{sl:qu}(h:(sl.map (·.1)).Nodup)(t:Option Nat)(d:D):((j4 sl t d).map (·.1)).Nodup:=by
 cases t with
 |none=>exact h
 |some t=>exact bo h t _
theorem StepFact.nodup[Lay](hf:StepFact P cfg H ops i o st st' fp)(h:(st.sl.map (·.1)).Nodup):(st'.sl.map (·.1)).Nodup:=by
 cases hf with
 |eff0 hg hop hp =>
  refine ic ?_ _ _
  rcases eg hop with e|⟨s,cs,e⟩
  ·rw[e];exact h
  ·rw[e,tl];exact h
 |_=>exact ic h _ _
theorem Rel.sub[Lay]{g:G}{β:Nat->Nat}{U:Nat->Prop}{y:Nat->Bool->Prop}{sc:St}{a:Act}{w:World}(r:Rel n g β U y sc a w){st':St}(hn:(st'.sl.map (·.1)).Nodup)(hh:st'.h=sc.h)
  (hl:∀t d,qo st'.sl t=some d->qo sc.sl t=some d/\xg d=false):Rel n g β U noY st' a w:=by
 refine⟨r.defers,r.size,hn,fun t d h=> ?_,fun t d s h _ hs=> ?_,fun t cs h=> ?_,fun t t' cs cs' h h'=>r.ownInj t t' cs cs' (hl _ _ h).1 (hl _ _ h').1,by rw[hh];exact r.inv⟩
 ·obtain⟨h1,h2⟩:=hl t d h
  have h3:=r.slot t d h1
  cases d <;> first|exact h3|cases h2
 ·obtain⟨h1,h2⟩:=hl t d h
  cases d <;> first|exact Bool.noConfusion (show true=false from h2)|cases hs
 ·rw[hh];exact r.own t cs (hl _ _ h).1
theorem nj:∀{ops:List Oper} {k j:Nat} {o:Oper} {e:Edge},zq k ops=true->ops[j]? = some o->e∈o.after->Region.binds .any e=true->e.on<k+j
 | [],_,_,_,_,_,h,_,_=>by simp at h
 |o'::r,k,j,o,e,h,ho,he,hb=>by
  simp only[zq,Bool.and_eq_true]at h
  cases j with
  |zero =>
   simp at ho;subst ho
   have:=List.all_eq_true.1 h.1 e (by simpa using he)
   rw[hb]at this
   exact up.1 this
  |succ j =>
   have:=nj (k:=k+1) h.2 (by simpa using ho) he hb
   omega
theorem p6{j m:Nat}{dst:Option Nat}{fj fm:FP}(h:cx (wb ops []) j m dst fj fm=true){t:Nat}(ht:(t∈fm.w/\t∈fj.n)\/(t∈fm.n/\t∈fj.w)):sf ops j m:=by
 simp only[cx,Bool.and_eq_true]at h
 have hit:(qn3 fm.w fj.n || qn3 fm.n fj.w)=true:=by
  rcases ht with ⟨h1,h2⟩|⟨h1,h2⟩
  ·rw[qba h1 h2];rfl
  ·rw[qba h1 h2];simp
 have:=h.1
 rw[hit]at this
 exact qcv this
theorem lj{j m:Nat}{dst:Option Nat}{fj fm:FP}(h:cx ms j m dst fj fm=true){s:Nat}(h1:dst=some s)(h2:fm.rb=some s):False:=by
 simp only[cx,Bool.and_eq_true]at h
 have:=h.2
 rw[h1,h2]at this
 have hb:Nat.beq s s=true:=qq.2 rfl
 simp at this
structure Sched(P:Program)(n:Nat)(cfg:Cfg)(ops:List Oper)(A:Nat->St)(F:Nat->FP)(S:Nat->Prop)(sc:St):Prop where
 agree:∀t i,i<=ops.length->(∀m,m<ops.length->t∈(F m).w->(m<i↔S m))->qo (A i).sl t=qo sc.sl t
 agreeH:∀i,i<=ops.length->(∀m,m<ops.length->n∈(F m).w->(m<i↔S m))->(A i).h=sc.h
 lp:∀t d s,qo sc.sl t=some d->xf d s=true->∃m,m<ops.length/\S m/\(F m).rb=some s
 closed:∀j o e,S j->ops[j]? = some o->e∈o.after->Region.binds .any e=true->S e.on
theorem Sched.waits{A:Nat->St}{F:Nat->FP}{S:Nat->Prop}{sc:St}(s:Sched P n cfg ops A F S sc){j m:Nat}(h:sf ops j m)(hj:S j\/∀o e,ops[j]? = some o->e∈o.after->Region.binds .any e=true->S e.on):S m:=by
 induction h with
 |one ho he hb hm =>
  subst hm
  rcases hj with hj|hj
  ·exact s.closed _ _ _ hj ho he hb
  ·exact hj _ _ ho he hb
 |more ho he hb hl h ih =>
  subst hl
  rcases hj with hj|hj
  ·exact ih (.inl (s.closed _ _ _ hj ho he hb))
  ·exact ih (.inl (hj _ _ ho he hb))
structure TraceOk[Lay](P:Program)(n:Nat)(cfg:Cfg)(ops:List Oper)(A:Nat->St)(F:Nat->FP):Prop where
 step:∀j o,ops[j]? = some o->StepFact P cfg n ops j o (A j) (A (j+1)) (F j)
 pair:∀j o m,ops[j]? = some o->m<j->cx (wb ops []) j m o.dst (F j) (F m)=true
 start:∀t d s,qo (A 0).sl t=some d->xf d s=true->False
theorem TraceOk.lp[Lay](T:TraceOk P n cfg ops A F)(ok:y5 n ops):∀i,i<=ops.length->∀t d s,qo (A i).sl t=some d->xf d s=true->∃m,m<i/\(F m).rb=some s
 |0,_,t,d,s,h1,h2=>(T.start t d s h1 h2).elim
 |i+1,hi,t,d,s,h1,h2=>by
  have hlt:i<ops.length:=by omega
  have ho:=List.getElem?_eq_getElem hlt
  have no:∀t0 t e,ops[i].dst=some t0->qo (A i).sl t=some e->xf e t0=false:=by
   intro t0 t e hd he
   cases hl:xf e t0 with
   |false=>rfl
   |true =>
    obtain⟨m,hm,hrb⟩:=T.lp ok i (by omega) t e t0 he hl
    exact(lj (T.pair i _ m ho hm) hd hrb).elim
  obtain⟨_,_,tw⟩:=m9 (sc:=A i) ok.back ho (T.step i _ ho) (fun _ _=>rfl) (fun _=>rfl) no no
  rcases tw.lp t d s h1 h2 with ⟨_,h⟩|h
  ·exact⟨i,by omega,h⟩
  ·obtain⟨m,hm,hrb⟩:=T.lp ok i (by omega) t d s h h2
   exact⟨m,by omega,hrb⟩
theorem TraceOk.no[Lay](T:TraceOk P n cfg ops A F)(ok:y5 n ops){i:Nat}{o:Oper}(ho:ops[i]? = some o):∀t0 t e,o.dst=some t0->qo (A i).sl t=some e->xf e t0=false:=by
 intro t0 t e hd he
 cases hl:xf e t0 with
 |false=>rfl
 |true =>
  obtain⟨m,hm,hrb⟩:=T.lp ok i (by have:=(List.getElem?_eq_some_iff.1 ho).1;omega) t e t0 he hl
  exact(lj (T.pair i _ m ho hm) hd hrb).elim
theorem TraceOk.same[Lay](T:TraceOk P n cfg ops A F)(ok:y5 n ops){i:Nat}{o:Oper}(ho:ops[i]? = some o):(∀t,t ∉ (F i).w->qo (A (i+1)).sl t=qo (A i).sl t)/\(n ∉ (F i).w->(A (i+1)).h=(A i).h):=by
 obtain⟨_,_,tw⟩:=m9 (sc:=A i) ok.back ho (T.step i _ ho) (fun _ _=>rfl) (fun _=>rfl) (T.no ok ho) (T.no ok ho)
 exact⟨tw.same,tw.hs⟩
theorem TraceOk.span[Lay](T:TraceOk P n cfg ops A F)(ok:y5 n ops){i:Nat}:∀k,i+k<=ops.length ->
  (∀t,(∀m,i<=m->m<i+k->t ∉ (F m).w)->qo (A (i+k)).sl t=qo (A i).sl t)/\((∀m,i<=m->m<i+k->n ∉ (F m).w)->(A (i+k)).h=(A i).h)
 |0,_=>⟨fun _ _=>rfl,fun _=>rfl⟩
 |k+1,hk=>by
  have ho:=List.getElem?_eq_getElem (l:=ops) (i:=i+k) (by omega)
  obtain⟨h1,h2⟩:=T.same ok ho
  obtain⟨h3,h4⟩:=T.span ok (i:=i) k (by omega)
  refine⟨fun t ht=> ?_,fun ht=> ?_⟩
  ·rw[show i+(k+1)=i+k+1 by omega,h1 t (ht _ (by omega) (by omega))]
   exact h3 t fun m e1 e2=>ht m e1 (by omega)
  ·rw[show i+(k+1)=i+k+1 by omega,h2 (ht _ (by omega) (by omega))]
   exact h4 fun m e1 e2=>ht m e1 (by omega)
theorem Sched.step[Lay]{S:Nat->Prop}{sc:St}(s:Sched P n cfg ops A F S sc)(T:TraceOk P n cfg ops A F)(ok:y5 n ops){i:Nat}{o:Oper}(ho:ops[i]? = some o)(hi:¬S i)
  (hr:∀o e,ops[i]? = some o->e∈o.after->Region.binds .any e=true->S e.on) :
  ∃sc',StepFact P cfg n ops i o sc sc' (F i)/\Sched P n cfg ops A F (fun j=>S j\/j=i) sc':=by
 have hlt:i<ops.length:=(List.getElem?_eq_some_iff.1 ho).1
 have fi:=(T.step i o ho).facts
 have getF:∀m,m<ops.length->∃om,ops[m]? = some om/\qcw n ops om (F m):=fun m hm=>⟨ops[m],List.getElem?_eq_getElem hm,(T.step m _ (List.getElem?_eq_getElem hm)).facts⟩
 have later:∀m t,m<ops.length->i<m->S m->(t∈(F m).w/\t∈(F i).n)\/(t∈(F m).n/\t∈(F i).w)->False:=by
  intro m t hm him hS ht
  obtain⟨om,hom,_⟩:=getF m hm
  refine hi (s.waits (p6 (T.pair m om i hom him) (t:=t) ?_) (.inl hS))
  rcases ht with ⟨h1,h2⟩|⟨h1,h2⟩
  ·exact .inr ⟨h2,h1⟩
  ·exact .inl ⟨h2,h1⟩
 have iff:∀t∈(F i).n,∀m,m<ops.length->t∈(F m).w->(m<i↔S m):=by
  intro t ht m hm hw
  constructor
  ·intro hmi
   exact s.waits (p6 (T.pair i o m ho hmi) (t:=t) (.inl ⟨hw,ht⟩)) (.inr hr)
  ·intro hS
   rcases Nat.lt_trichotomy m i with h|h|h
   ·exact h
   ·subst h;exact(hi hS).elim
   ·exact(later m t hm h hS (.inl ⟨hw,ht⟩)).elim
 have no':∀t0 t e,o.dst=some t0->qo sc.sl t=some e->xf e t0=false:=by
  intro t0 t e hd he
  cases hl:xf e t0 with
  |false=>rfl
  |true =>
   obtain⟨m,hm,hS,hrb⟩:=s.lp t e t0 he hl
   rcases Nat.lt_trichotomy m i with h|h|h
   ·exact(lj (T.pair i o m ho h) hd hrb).elim
   ·subst h;exact(hi hS).elim
   ·obtain⟨om,hom,fm⟩:=getF m hm
    exact(later m t0 hm h hS (.inr ⟨fm.rb t0 hrb,fi.dst t0 hd⟩)).elim
 obtain⟨sc',hf,tw⟩:=m9 (sc:=sc) ok.back ho (T.step i o ho) (fun t ht=>s.agree t i (by omega) (iff t ht)) (fun hH=>s.agreeH i (by omega) (iff n hH)) (T.no ok ho) no'
 refine⟨sc',hf,⟨fun t j hj hc=> ?_,fun j hj hc=> ?_,fun t d q h1 h2=> ?_,fun j o' e hj ho' he hb=> ?_⟩⟩
 ·by_cases ht:t∈(F i).w
  ·have hij:i<j:=(hc i hlt ht).2 (.inr rfl)
   have hnone:∀m,i+1<=m->m<i+1+(j-(i+1))->t ∉ (F m).w:=by
    intro m e1 e2 hw
    have hm:m<ops.length:=by omega
    rcases(hc m hm hw).1 (by omega) with h|h
    ·exact later m t hm (by omega) h (.inl ⟨hw,fi.wn t ht⟩)
    ·omega
   have:=(T.span ok (i:=i+1) (j-(i+1)) (by omega)).1 t hnone
   rw[show i+1+(j-(i+1))=j by omega]at this
   rw[this];exact tw.w t ht
  ·rw[tw.same' t ht]
   refine s.agree t j hj fun m hm hw=> ?_
   have hne:m≠i:=fun e=>ht (e▸hw)
   rw[hc m hm hw]
   exact⟨fun h=>h.resolve_right hne,.inl⟩
 ·by_cases ht:n∈(F i).w
  ·have hij:i<j:=(hc i hlt ht).2 (.inr rfl)
   have hnone:∀m,i+1<=m->m<i+1+(j-(i+1))->n ∉ (F m).w:=by
    intro m e1 e2 hw
    have hm:m<ops.length:=by omega
    rcases(hc m hm hw).1 (by omega) with h|h
    ·exact later m n hm (by omega) h (.inl ⟨hw,fi.wn n ht⟩)
    ·omega
   have:=(T.span ok (i:=i+1) (j-(i+1)) (by omega)).2 hnone
   rw[show i+1+(j-(i+1))=j by omega]at this
   rw[this];exact tw.h ht
  ·rw[tw.hs' ht]
   refine s.agreeH j hj fun m hm hw=> ?_
   have hne:m≠i:=fun e=>ht (e▸hw)
   rw[hc m hm hw]
   exact⟨fun h=>h.resolve_right hne,.inl⟩
 ·rcases tw.lp' t d q h1 h2 with ⟨_,h⟩|h
  ·exact⟨i,hlt,.inr rfl,h⟩
  ·obtain⟨m,hm,hS,hrb⟩:=s.lp t d q h h2
   exact⟨m,hm,.inl hS,hrb⟩
 ·rcases hj with hj|rfl
  ·exact .inl (s.closed j o' e hj ho' he hb)
  ·exact .inl (hr o' e ho' he hb)
end
section
variable {P:Program} {n:Nat} {cfg:Cfg} {ops:List Oper} {A:Nat->St} {F:Nat->FP} {k:St->Prop}
def Listed(l:Array Bool)(j:Nat):Prop:=l.getD j false=true
def unl(m:Nat)(l:Array Bool):List Nat:=(List.range m).filter fun j=> !l.getD j false
theorem Listed.set{l:Array Bool}{i:Nat}(hi:i<l.size):Listed (l.setIfInBounds i true)=fun j=>Listed l j\/j=i:=by
 funext j
 apply propext
 unfold Listed
 by_cases h:j=i
 ·subst h
  simp[hi]
 ·rw[getD_set_ne false (fun e=>h e.symm)]
  simp[h]
theorem qmt{l:Array Bool}{i m:Nat}(hi:i<m)(hl:i<l.size)(hn:¬Listed l i):(unl m (l.setIfInBounds i true)).length<(unl m l).length:=by
 have:unl m (l.setIfInBounds i true)=(unl m l).filter fun j=>decide (j≠i):=by
  unfold unl
  rw[List.filter_filter]
  refine List.filter_congr fun j _=> ?_
  have:=congrFun (Listed.set hl) j
  unfold Listed at this
  by_cases h:j=i
  ·subst h
   have h2:(l.setIfInBounds j true).getD j false=true:=by rw[this];exact .inr rfl
   rw[h2];simp
  ·rw[getD_set_ne false (fun e=>h e.symm)]
   simp[h]
 rw[this]
 refine List.length_filter_lt_length_iff_exists.2 ⟨i,?_,by simp⟩
 unfold unl
 rw[List.mem_filter]
 refine⟨List.mem_range.2 hi,?_⟩
 unfold Listed at hn
 cases h:l.getD i false with
 |true=>exact absurd h hn
 |false=>rfl
theorem Trace.nodup[Lay]{ms:List Nat}{st:St}(T:Trace P cfg n ms ops k 0 [] st A F)(h:(st.sl.map (·.1)).Nodup):∀i,i<=ops.length->((A i).sl.map (·.1)).Nodup
 |0,_=>by rw[T.start];exact h
 |i+1,hi=>(T.step i _ (Nat.zero_le _) (List.getElem?_eq_getElem (by omega))).nodup (T.nodup h i (by omega))
theorem ll{listed:Array Bool}{j:Nat}(hs:listed.size=ops.length):j∈Region.ready .any ops.toArray listed↔j<ops.length/\¬Listed listed j/\∀o e,ops[j]? = some o->e∈o.after->Region.binds .any e=true->Listed listed e.on:=by
 rw[mem_ready]
 constructor
 ·rintro⟨h1,o,h2,h3⟩
  have hlt:j<ops.length:=by have:=(Array.getElem?_eq_some_iff.1 h2).1;simpa using this
  refine⟨hlt,fun hl=> ?_,fun o' e ho' he hb=> ?_⟩
  ·unfold Listed at hl
   have:listed[j]? = some listed[j]:=Array.getElem?_eq_getElem (by omega)
   simp only[Array.getD_eq_getD_getElem?,this,Option.getD_some]at h1 hl
   rw[h1]at hl;cases hl
  ·have:ops.toArray[j]? = some o':=by simpa using ho'
   rw[h2]at this;cases this
   exact h3 e he hb
 ·rintro⟨hlt,h1,h2⟩
  have ho:=List.getElem?_eq_getElem hlt
  refine⟨?_,ops[j],by simp,fun e he hb=>h2 _ e ho he hb⟩
  unfold Listed at h1
  have:listed[j]? = some listed[j]:=Array.getElem?_eq_getElem (by omega)
  simp only[Array.getD_eq_getD_getElem?,this,Option.getD_some]at h1⊢
  simpa using h1
theorem qg7{listed:Array Bool}(hs:listed.size=ops.length)(hb:zq 0 ops=true)(h:Region.ready .any ops.toArray listed=[]):∀j,j<ops.length->Listed listed j:=by
 intro j
 induction j using Nat.strongRecOn with
 |ind j ih =>
  intro hj
  apply Classical.byContradiction
  intro hn
  have:j∈Region.ready .any ops.toArray listed:=(ll hs).2 ⟨hj,hn,fun o e ho he hbd=>by
   have h1:=nj hb ho he hbd
   exact ih e.on (by omega) (by omega)⟩
  rw[h]at this;cases this
theorem qg8[Lay]{ρ:Option Nat}{U:Nat->Prop}{g0:G}{w0:World}{st:St}(ok:y5 n ops)(heb:zq 0 ops=true)(T:Trace P cfg n (wb ops []) ops k 0 [] st A F)(hst:(st.sl.map (·.1)).Nodup)(TO:TraceOk P n cfg ops A F) :
  ∀(fuel:Nat) (listed:Array Bool) (g:G) (β:Nat->Nat) (a:Act) (w:World) (sc:St),listed.size=ops.length->(unl ops.length listed).length<=fuel->Rel n g β U (yOf ops a) sc a w->qje ops (Listed listed) sc->u5 ops (Listed listed) a ->
   Sched P n cfg ops A F (Listed listed) sc->Grow U g0 g->Kept U w0 w->wpAnyIn (fen ρ) 0 P .any ops.toArray (ks n U g0 w0 k) fuel listed a w:=by
 have finish:∀(listed:Array Bool) (g:G) (β:Nat->Nat) (a:Act) (w:World) (sc:St),(∀j,j<ops.length->Listed listed j)->Rel n g β U (yOf ops a) sc a w->Sched P n cfg ops A F (Listed listed) sc->Grow U g0 g->Kept U w0 w ->
   ks n U g0 w0 k .normal a w:=by
  intro listed g β a w sc hall r s hg hk
  refine⟨rfl,g,β,_,?_,hg,hk,T.fin⟩
  have hnd:=T.nodup hst ops.length (Nat.le_refl _)
  have hiff:∀m,m<ops.length->(m<ops.length↔Listed listed m):=fun m hm=>⟨fun _=>hall m hm,fun _=>hm⟩
  refine r.sub (hnd.sublist ((vc _).map _)) (s.agreeH _ (Nat.le_refl _) fun m hm _=>hiff m hm) fun t d h=> ?_
  obtain⟨h1,h2⟩:=vv hnd h
  exact⟨by rw[<-s.agree t _ (Nat.le_refl _) fun m hm _=>hiff m hm];exact h1,h2⟩
 intro fuel
 induction fuel with
 |zero =>
  intro listed g β a w sc hs hu r hm hc s hg hk
  have hall:∀j,j<ops.length->Listed listed j:=by
   intro j hj
   apply Classical.byContradiction
   intro hn
   have hnil:unl ops.length listed=[]:=List.eq_nil_of_length_eq_zero (by omega)
   have:j∈unl ops.length listed:=by
    unfold unl
    rw[List.mem_filter]
    refine⟨List.mem_range.2 hj,?_⟩
    unfold Listed at hn
    cases h:listed.getD j false with
    |true=>exact absurd h hn
    |false=>rfl
   rw[hnil]at this;cases this
  refine⟨?_,finish listed g β a w sc hall r s hg hk⟩
  rw[List.eq_nil_iff_forall_not_mem]
  intro j hj
  obtain⟨h1,h2,_⟩:=(ll hs).1 hj
  exact h2 (hall j h1)
 |succ fuel ih =>
  intro listed g β a w sc hs hu r hm hc s hg hk
  refine⟨fun hnil=>finish listed g β a w sc (qg7 hs heb hnil) r s hg hk,fun i hi=> ?_⟩
  obtain⟨hlt,hni,hr⟩:=(ll hs).1 hi
  have ho:=List.getElem?_eq_getElem hlt
  obtain⟨sc',hf,s'⟩:=s.step TO ok ho hni hr
  have fi:=(TO.step i _ ho).facts
  have wait:∀m t,m<i->t∈(F m).w->t∈(F i).n->Listed listed m:=fun m t hmi h1 h2 =>
   s.waits (p6 (TO.pair i _ m ho hmi) (t:=t) (.inl ⟨h1,h2⟩)) (.inr hr)
  have dstW:∀m t,m<ops.length->jf ops m=some t->t∈(F m).w:=fun m t hml hd=>by
   have hom:=List.getElem?_eq_getElem hml
   refine(TO.step m _ hom).facts.dst t ?_
   simpa[jf,hom] using hd
  have hdone:nf ops (Listed listed):=by
   intro j o' j1 w1 hj ho' hg' hd'
   have hjl:=(List.getElem?_eq_some_iff.1 ho').1
   have hb:=ok.back ho' hg'
   simp only at hb
   cases hd:jf ops j1 with
   |none=>exact absurd hd hd'
   |some t =>
    have h1:=dstW j1 t (by omega) hd
    have h2:=(TO.step j _ ho').guardN hg' hb hd
    exact s.waits (p6 (TO.pair j _ j1 ho' hb) (t:=t) (.inl ⟨h1,h2⟩)) (.inl hj)
  refine qlo ok r hm hc hdone ho hni (fun q hq hd'=> ?_) (fun c x z t j hop hcx hw=> ?_) hf fun g' β' v w' r1 m1 c1 gr kp=> ?_
  ·have hb:=ok.back ho hq
   cases hd:jf ops q.1 with
   |none=>exact absurd hd hd'
   |some t=>exact wait q.1 t hb (dstW q.1 t (by omega) hd) ((TO.step i _ ho).guardN hq hb hd)
  ·obtain⟨hji,hd⟩:=zi hw
   refine wait j t hji (dstW j t (by omega) hd) (fi.tmps t ?_)
   rw[hop,hcx];simp[Op.operands]
  ·have hset:=Listed.set (l:=listed) (i:=i) (by omega)
   refine ih _ g' β' _ w' sc' (by simpa using hs) ?_ r1 (by rw[hset];exact m1) (by rw[hset];exact c1) (by rw[hset];exact s') (hg.trans gr) (hk.trans kp)
   have:=qmt (l:=listed) hlt (by omega) hni
   omega
theorem qfy[Lay](jv:P.follows .mixedOrders=true)(ok:y5 n ops)(heb:zq 0 ops=true){id:Nat}{ρ:Option Nat}{st:St}(hT:y8 P n cfg (wb ops []) ops k 0 [] {st with sl:=xh st.sl})
  {g:G} {β:Nat->Nat} {U:Nat->Prop} {a:Act} {w:World} (r:Rel n g β U noY st a w):(Code.region id ops.toArray true).wpIn (fen ρ) 0 P (ks n U g w k) a w:=by
 have r1:=(r.purged (yOf ops a)).ext (xd r.inv)
 have hp:∀t d,qo (xh st.sl) t=some d->xg d=false:=fun t d h=>(vv r.keys h).2
 obtain⟨A,F,T⟩:=hT g β U a w.drew r1 (fun t j w d h _=>by cases hp _ _ h) (fun j _ _ _ h=>absurd h (Nat.not_lt_zero _)) rfl
 have TO:TraceOk P n cfg ops A F:=⟨fun j o ho=>T.step j o (Nat.zero_le _) ho,fun j o m ho hm=>T.pair j o m (Nat.zero_le _) ho hm,fun t d s h1 h2=>by
  rw[T.start]at h1
  have h3:=hp t d h1
  cases d <;> first|exact Bool.noConfusion (show true=false from h3)|cases h2⟩
 have hnot:∀j,¬Listed (Array.replicate ops.toArray.size false) j:=by
  intro j h
  unfold Listed at h
  simp only[Array.getD_eq_getD_getElem?,Array.getElem?_replicate]at h
  split at h <;> simp at h
 have kd:=(xd r.inv).kept r.inv.ub
 refine wpIn_region_any jv (qg8 ok heb T r1.keys TO _ _ g β a w.drew _ (by simp) ?_ r1 (fun t j w d h _=>by cases hp _ _ h) (fun j _ _ _ h=>absurd h (hnot j)) ⟨fun t i hi hc=> ?_,fun i hi hc=> ?_,fun t d s h1 h2=> ?_,fun j o e h=>absurd h (hnot j)⟩ (Grow.refl U g) kd)
 ·unfold unl
  have:=List.length_filter_le (fun j=> !(Array.replicate ops.toArray.size false).getD j false) (List.range ops.length)
  simpa using this
 ·have:=(TO.span ok (i:=0) i (by omega)).1 t fun m _ hm hw=>hnot m ((hc m (by omega) hw).1 (by omega))
  rw[Nat.zero_add]at this
  rw[this,T.start]
 ·have:=(TO.span ok (i:=0) i (by omega)).2 fun m _ hm hw=>hnot m ((hc m (by omega) hw).1 (by omega))
  rw[Nat.zero_add]at this
  rw[this,T.start]
 ·have h3:=hp t d h1
  cases d <;> first|exact Bool.noConfusion (show true=false from h3)|cases h2
end
theorem jr:∀(c:Code) (p q:List Nat),sub c (p++q)=(sub c p).bind fun d=>sub d q
 |c,[],q=>by cases c <;> rfl
 | .seq a b,0::p,q=>by simpa[sub] using jr a p q
 | .seq a b,1::p,q=>by simpa[sub] using jr b p q
 | .seq a b,(k+2)::p,q=>by simp[sub]
 | .cond c a b,0::p,q=>by simpa[sub] using jr a p q
 | .cond c a b,1::p,q=>by simpa[sub] using jr b p q
 | .cond c a b,(k+2)::p,q=>by simp[sub]
 | .block i c,0::p,q=>by simpa[sub] using jr c p q
 | .block i c,(k+1)::p,q=>by simp[sub]
 | .loop c,0::p,q=>by simpa[sub] using jr c p q
 | .loop c,(k+1)::p,q=>by simp[sub]
 | .skip,k::p,q=>by simp[sub]
 | .region ..,k::p,q=>by simp[sub]
 | .exit ..,k::p,q=>by simp[sub]
 | .ret,k::p,q=>by simp[sub]
 | .scope ..,k::p,q=>by simp[sub]
 | .rangeFunc _ _ a _,0::p,q=>by simpa[sub] using jr a p q
 | .rangeFunc _ _ _ b,1::p,q=>by simpa[sub] using jr b p q
 | .rangeFunc ..,(k+2)::p,q=>by simp[sub]
 | .label ..,k::p,q=>by simp[sub]
 | .goto ..,k::p,q=>by simp[sub]
 | .refuse ..,k::p,q=>by simp[sub]
section
variable {E:Env} {fin:St->Prop}
theorem dn[Lay]:∀(td:List It) {st:St},fin st->bn E fin td .ret st
 | [],_,h=>h
 | .code _::td,_,h=>dn td h
 | .ops _ _::td,_,h=>dn td h
 | .blk _::td,_,h=>dn td h
 | .stop _::td,_,h=>dn td h
theorem u7[Lay]{id:Nat}:∀(td:List It) {td':List It} {st:St},qfi id td=some td'->bn E fin td' .normal st->bn E fin td (.exit id) st
 | [],_,_,h,_=>by cases h
 | .code _::td,_,_,h,k=>u7 td h k
 | .ops _ _::td,_,_,h,k=>u7 td h k
 | .stop _::td,_,_,h,k=>u7 td h k
 | .blk i::td,td',st,h,k=>by
  simp only[qfi]at h
  simp only[bn]
  cases hb:Nat.beq i id with
  |true =>
   rw[hb]at h;simp only[cond_true,Option.some.injEq]at h;subst h
   rw[if_pos (qq.1 hb)];exact k
  |false =>
   rw[hb]at h
   rw[if_neg (xn.1 hb)];exact u7 td h k
theorem ROk.kept{ρ:Option Nat}{U:Nat->Prop}{w w':World}(o:ROk ρ U w)(k:Kept U w w'):ROk ρ U w':=fun l e=>by
 obtain⟨h1,r,h2⟩:=o l e
 exact⟨h1,r,(k.block l h1).trans h2⟩
theorem AWp.mono[Lay]{P:Program}{n:Nat}{c:Code}{st:St}{Q Q':Ex->St->Prop}(h:AWp P n c st Q)(hq:∀e st,Q e st->Q' e st):AWp P n c st Q' :=
 fun ρ g β U a w o r=>wpIn_mono (h ρ g β U a w o r) fun _ _ _ ⟨ex,g',β',st',h1,h2,h3,h4,h5⟩=>⟨ex,g',β',st',h1,h2,h3,h4,hq _ _ h5⟩
theorem e8[Lay]{P:Program}{n:Nat}{c:Code}{st:St}{Q:Ex->St->Prop}{ex:Ex}(hc:∀(ρ:Option Nat) (a:Act) (w:World) (Q:Exit->Act->World->Prop),Q (qao ex) a w->c.wpIn (fen ρ) 0 P Q a w)(h:Q ex st):AWp P n c st Q :=
 fun ρ g β U a w _ r=>hc ρ a w _ ⟨ex,g,β,st,rfl,r,Grow.refl U g,Kept.refl U w,h⟩
theorem qmu[Lay]{P:Program}{n:Nat}{x z:Code}{st:St}{Q:Ex->St->Prop}(h:AWp P n x st fun e st'=>match e with | .normal=>AWp P n z st' Q|e=>Q e st'):AWp P n (.seq x z) st Q:=by
 intro ρ g β U a w o r
 refine wpIn_seq (wpIn_mono (h ρ g β U a w o r) fun e a' w' ⟨ex,g',β',st',h1,h2,h3,h4,h5⟩=> ?_)
 subst h1
 cases ex with
 |normal=>exact wpIn_mono (h5 ρ g' β' U a' w' (o.kept h4) h2) fun e2 a2 w2 ⟨ex2,g2,β2,st2,k1,k2,k3,k4,k5⟩=>⟨ex2,g2,β2,st2,k1,k2,h3.trans k3,h4.trans k4,k5⟩
 |ret=>exact⟨.ret,g',β',st',rfl,h2,h3,h4,h5⟩
 |exit i=>exact⟨.exit i,g',β',st',rfl,h2,h3,h4,h5⟩
theorem qg9[Lay]{P:Program}{n:Nat}{id:Nat}{x:Code}{st:St}{Q:Ex->St->Prop}(h:AWp P n x st fun e st'=>match e with | .exit i=>if id=i then Q .normal st' else Q (.exit i) st'|e=>Q e st'):AWp P n (.block id x) st Q:=by
 intro ρ g β U a w o r
 refine wpIn_block (wpIn_mono (h ρ g β U a w o r) fun e a' w' ⟨ex,g',β',st',h1,h2,h3,h4,h5⟩=> ?_)
 subst h1
 cases ex with
 |normal=>exact⟨.normal,g',β',st',rfl,h2,h3,h4,h5⟩
 |ret=>exact⟨.ret,g',β',st',rfl,h2,h3,h4,h5⟩
 |exit i =>
  simp only[qao,Exit.inBlock]
  by_cases hi:i=id
  ·rw[if_pos hi]
   simp only[if_pos hi.symm]at h5
   exact⟨.normal,g',β',st',rfl,h2,h3,h4,h5⟩
  ·rw[if_neg hi]
   simp only[if_neg (fun e=>hi e.symm:¬id=i)]at h5
   exact⟨.exit i,g',β',st',rfl,h2,h3,h4,h5⟩
theorem qha{st:St}(h:(st.sl.map (·.1)).Nodup):qfj 0 {st with sl:=xh st.sl}:=fun t j w d hl=>by
 have:=(vv h hl).2
 cases this
theorem qbb[Lay]{ops:List Oper}(ok:y5 E.nt ops){k:St->Prop}:∀(m i:Nat) (fps:List FP) (st:St),exQ E ops k m i fps st->y8 E.P E.nt E.cfg (wb ops []) ops k i fps st
 |0,_,_,_,h=>h.elim
 |m+1,i,fps,st,h=>li (kc:=exQ E ops k m) ok (fun _ h=>h) (fun i fps st h=>qbb ok m i fps st h) _ i fps st rfl h
theorem qcx[Lay]{n:Nat}{U:Nat->Prop}{g:G}{w:World}{Q:Ex->St->Prop}{e:Exit}{a':Act}{w':World}(h:ks n U g w (Q .normal) e a' w') :
  ∃ex g' β' st',e=qao ex/\Rel n g' β' U noY st' a' w'/\Grow U g g'/\Kept U w w'/\Q ex st':=by
 obtain⟨h1,g',β',st',h2,h3,h4,h5⟩:=h
 exact⟨.normal,g',β',st',h1,h2,h3,h4,h5⟩
theorem lm[Lay]{call:qgo}(hcall:∀{f args h K},call f args h K->CallA E.P f args h K\/CallE E.P f args h K){p:List Nat}{td:List It}{st:St}{id:Nat}{ops:Array Oper}{K:St->Prop}(hs:sub E.root p=some (.region id ops false))(hcont:∀st,K st->bn E fin td .normal st)
  (h:yw E.nt ops.toList=true) (he:vj E.P E.cfg call (CallY E.P) (PCall E.P) ops.toList (fun _=>false) (fun i st=>At E fin (.ops p i::td) st) 0 ops.toList {st with sl:=xh st.sl} K) :
  AWp E.P E.nt (.region id ops false) st (bn E fin td):=by
 intro ρ g β U a w o r
 have hops:km E.root p=ops.toList:=by simp[km,hs]
 have hk:∀i st,At E fin (.ops p i::td) st->OpsSem E.P E.nt ops.toList i st (bn E fin td .normal):=fun i st h=>by have:=h.it;rw[<-hops];exact this
 have hsem:=m8 hcall (cfg:=E.cfg) (wl h) hcont hk ops.toList 0 _ rfl he
 have r1:=r.purged (yOf ops.toList a)
 have:=hsem ρ g β U a w r1 (qha r.keys) (fun j _ _ _ h=>absurd h (Nat.not_lt_zero _))
 have hr:List.range' 0 (ops.toList.length-0)=List.range ops.size:=by rw[List.range_eq_range'];simp
 rw[hr]at this
 refine wpIn_region ?_
 have ha:ops.toList.toArray=ops:=by simp
 rw[ha]at this
 exact ym (fun e a' w' h=>qcx h) _ _ _ this
theorem ie[Lay]{p:List Nat}{td:List It}{st:St}{id:Nat}{ops:Array Oper}{K:St->Prop}(hs:sub E.root p=some (.region id ops false))(hcont:∀st,K st->bn E fin td .normal st)
  (h:yw E.nt ops.toList=true) (he:vj E.P E.cfg (CallA E.P) (CallY E.P) (PCall E.P) ops.toList (fun _=>false) (fun i st=>At E fin (.ops p i::td) st) 0 ops.toList {st with sl:=xh st.sl} K) :
  AWp E.P E.nt (.region id ops false) st (bn E fin td):=lm (fun h=> .inl h) hs hcont h he
theorem qd6[Lay]{p:List Nat}{td:List It}{st:St}{id:Nat}{ops:Array Oper}{K:St->Prop}(jv:E.P.follows .mixedOrders=true)(hs:sub E.root p=some (.region id ops true))(hcont:∀st,K st->bn E fin td .normal st)
  (h:yw E.nt ops.toList=true) (heb:zq 0 ops.toList=true) (he:exD E.P E.cfg (PCall E.P) (qap E.P) E.nt (wb ops.toList []) ops.toList (AtQ E fin p td) 0 ops.toList [] {st with sl:=xh st.sl} K) :
  AWp E.P E.nt (.region id ops true) st (bn E fin td):=by
 intro ρ g β U a w o r
 have hops:km E.root p=ops.toList:=by simp[km,hs]
 have ok:=wl h
 have hk:∀i fps st,AtQ E fin p td i fps st->y8 E.P E.nt E.cfg (wb ops.toList []) ops.toList (At E fin td) i fps st:=fun i fps st h=>by
  obtain⟨m,h⟩:=h.it
  rw[hops]at h
  exact qbb ok m i fps st h
 have hT:=li (k:=At E fin td) ok (fun st h=>⟨hcont st h⟩) hk ops.toList 0 [] _ rfl he
 have:=qfy (id:=id) (ρ:=ρ) jv ok heb hT r
 have ha:ops.toList.toArray=ops:=by simp
 rw[ha]at this
 exact wpIn_mono this fun e a' w' ⟨h1,g',β',st',h2,h3,h4,h5⟩=>⟨.normal,g',β',st',h1,h2,h3,h4,h5.it⟩
theorem u9[Lay](jv:E.P.follows .mixedOrders=true):∀(n:Nat) (td:List It) (st:St),run E fin n td st->bn E fin td .normal st
 |0,td,st,h=>by unfold run at h;exact h.it
 |n+1,[],st,h=>by unfold run at h;exact h
 |n+1,.blk _::td,st,h=>by unfold run at h;exact u9 jv n td st h
 |n+1,.stop J::td,st,h=>by unfold run at h;exact h
 |n+1,.ops p i::td,st,h=>by
  unfold run at h
  cases hok:yw E.nt (km E.root p) with
  |false=>rw[hok]at h;exact h.elim
  |true =>
   rw[hok]at h
   exact lg (cfg:=E.cfg) (wl hok) (fun st h=>u9 jv n td st h) (fun i st h=>h.it) _ i st rfl h
 |n+1,.code p::td,st,h=>by
  unfold run at h
  have ih:=fun td st=>u9 jv n td st
  split at h
  ·rename_i hs
   exact⟨_,hs,e8 (ex:= .normal) (fun ρ a w Q hq=>wpIn_skip hq) (ih _ _ h)⟩
  ·rename_i x z hs
   have h1:=ih _ _ h
   obtain⟨c,hc,hw⟩:=h1
   rw[jr,hs]at hc
   have hcx:x=c:=by simpa[sub] using hc
   subst hcx
   refine⟨_,hs,qmu (hw.mono fun e st' hh=> ?_)⟩
   cases e with
   |normal =>
    obtain⟨c2,hc2,hw2⟩:=hh
    rw[jr,hs]at hc2
    have hcz:z=c2:=by simpa[sub] using hc2
    subst hcz
    exact hw2
   |ret=>exact hh
   |exit i=>exact hh
  ·rename_i c x z hs
   split at h
   ·rename_i b hb
    refine⟨_,hs,fun ρ g β U a w o r=> ?_⟩
    have hv:=(wj r (cl:=[]) (by simp)).data (x:=c) (by rw[hb];rfl)
    rw[hb]at hv
    have hv:a.eval c = .bool b:=by simpa[R] using hv
    cases b with
    |true =>
     obtain⟨c1,hc1,hw1⟩:=ih _ _ h
     rw[jr,hs]at hc1
     have hcx:x=c1:=by simpa[sub] using hc1
     subst hcx
     exact wpIn_cond_true hv (hw1 ρ g β U a w o r)
    |false =>
     obtain⟨c1,hc1,hw1⟩:=ih _ _ h
     rw[jr,hs]at hc1
     have hcx:z=c1:=by simpa[sub] using hc1
     subst hcx
     exact wpIn_cond_false hv (hw1 ρ g β U a w o r)
   ·exact h.elim
  ·rename_i id x hs
   obtain⟨c,hc,hw⟩:=ih _ _ h
   rw[jr,hs]at hc
   have hcx:x=c:=by simpa[sub] using hc
   subst hcx
   refine⟨_,hs,qg9 (hw.mono fun e st' hh=> ?_)⟩
   cases e with
   |normal=>exact hh
   |ret=>exact hh
   |exit i=>exact hh
  ·rename_i id hs
   split at h
   ·rename_i td' hp
    exact⟨_,hs,e8 (ex:= .exit id) (fun ρ a w Q hq=>wpIn_exit hq) (u7 td hp (ih _ _ h))⟩
   ·exact h.elim
  ·rename_i hs
   exact⟨_,hs,e8 (ex:= .ret) (fun ρ a w Q hq=>wpIn_ret hq) (dn td h)⟩
  ·rename_i id ops hs
   cases hok:yw E.nt ops.toList with
   |false=>rw[hok]at h;exact h.elim
   |true=>rw[hok]at h;exact⟨_,hs,ie hs (ih td) hok h⟩
  ·rename_i id ops hs
   cases hok:(yw E.nt ops.toList&&zq 0 ops.toList) with
   |false=>rw[hok]at h;exact h.elim
   |true =>
    rw[hok]at h
    simp only[Bool.and_eq_true]at hok
    exact⟨_,hs,qd6 jv hs (ih td) hok.1 hok.2 h⟩
  ·exact h.it
  ·exact h.it
end
def StLe[Lay](n:Nat)(st st':St):Prop :=
 ∀(g:G) (β:Nat->Nat) (U:Nat->Prop) (a:Act) (w:World),Rel n g β U noY st a w->∃g' β',Rel n g' β' U noY st' a w/\Grow U g g'
theorem StLe.refl[Lay](n:Nat)(st:St):StLe n st st:=fun g β U _ _ r=>⟨g,β,r,Grow.refl U g⟩
theorem StLe.trans[Lay]{n:Nat}{a b c:St}(h:StLe n a b)(k:StLe n b c):StLe n a c:=fun g β U x w r=>by
 obtain⟨g1,β1,r1,e1⟩:=h g β U x w r
 obtain⟨g2,β2,r2,e2⟩:=k g1 β1 U x w r1
 exact⟨g2,β2,r2,e1.trans e2⟩
theorem AWp.le[Lay]{P:Program}{n:Nat}{c:Code}{st st':St}{Q:Ex->St->Prop}(h:AWp P n c st' Q)(l:StLe n st st'):AWp P n c st Q:=fun ρ g β U a w o r=>by
 obtain⟨g1,β1,r1,e1⟩:=l g β U a w r
 exact wpIn_mono (h ρ g1 β1 U a w o r1) fun _ _ _ ⟨ex,g',β',st',h1,h2,h3,h4,h5⟩=>⟨ex,g',β',st',h1,h2,e1.trans h3,h4,h5⟩
section
variable {E:Env} {fin:St->Prop}
theorem jc[Lay]{p:List Nat}{td:List It}{st st':St}(h:At E fin (.code p::td) st')(l:StLe E.nt st st'):At E fin (.code p::td) st :=
 ⟨by obtain⟨c,hc,hw⟩:=h.it;exact⟨c,hc,hw.le l⟩⟩
theorem qoj[Lay](jv:E.P.follows .mixedOrders=true){n:Nat}{td:List It}{st:St}(h:run E fin n td st):At E fin td st:=⟨u9 jv n td st h⟩
def xr(ρ:Option Nat)(P:Program)(c:Code)(Q:Exit->Act->World->Prop):Nat->Act->World->Prop
 |0,_,_=>False
 |n+1,a,w=>c.wpIn (fen ρ) 0 P (Exit.then (xr ρ P c Q n) Q) a w
theorem n7{ρ:Option Nat}{P:Program}{Q:Exit->Act->World->Prop}{c:Code}(m:Nat){a:Act}{w:World}(h:xr ρ P c Q m a w):(Code.loop c).wpIn (fen ρ) 0 P Q a w:=by
 classical
 have hleast:∀(p:Nat->Prop) (m:Nat),p m->∃m,p m/\∀k,k<m->¬p k:=fun p m=>by
  induction m using Nat.strongRecOn with
  |_ m ih =>
   intro hm
   by_cases hk:∃k,k<m/\p k
   ·obtain⟨k,h1,h2⟩:=hk
    exact ih k h1 h2
   ·exact⟨m,hm,fun k h1 h2=>hk ⟨k,h1,h2⟩⟩
 have hex:∀a w,(∃m,xr ρ P c Q m a w)->∃m,xr ρ P c Q m a w/\∀k,k<m->¬xr ρ P c Q k a w:=fun a w h=>hleast _ h.choose h.choose_spec
 refine wpIn_loop (fun a w=>∃m,xr ρ P c Q m a w) (fun a w=>if h:∃m,xr ρ P c Q m a w then Classical.choose (hex a w h) else 0) ⟨m,h⟩ fun a w h=> ?_
 obtain⟨h1,h2⟩:=Classical.choose_spec (hex a w h)
 simp only[dif_pos h]
 generalize Classical.choose (hex a w h)=m at h1 h2
 cases m with
 |zero=>exact h1.elim
 |succ m =>
  refine wpIn_mono h1 fun e a' w' hq=> ?_
  cases e <;> first|exact hq|skip
  have h':∃m,xr ρ P c Q m a' w':=⟨m,hq⟩
  refine⟨h',?_⟩
  simp only[dif_pos h']
  obtain⟨k1,k2⟩:=Classical.choose_spec (hex a' w' h')
  exact Nat.lt_succ_of_le (Nat.le_of_not_lt fun hlt=>k2 m hlt hq)
theorem qmv[Lay]{α:Type}(I:α->Prop)(S:α->St)(μ:α->Nat){p:List Nat}{td:List It}{c:Code}(hs:sub E.root p=some (.loop c)){st:St}{x:α}(hx:I x)(h0:StLe E.nt st (S x))
  (hr:∀x,I x->At E fin (.code (p++[0])::.stop (fun st'=>∃y,I y/\μ y<μ x/\StLe E.nt st' (S y))::td) (S x)):At E fin (.code p::td) st:=by
 refine jc ⟨⟨_,hs,?_⟩⟩ h0
 intro ρ g β U a w o r
 have key:∀(m:Nat) (x:α) (g1:G) (β1:Nat->Nat) (a:Act) (w1:World),I x->μ x<m->Rel E.nt g1 β1 U noY (S x) a w1->Grow U g g1->Kept U w w1 ->
   xr ρ E.P c (fun e a' w'=>∃ex g' β' st',e=qao ex/\Rel E.nt g' β' U noY st' a' w'/\Grow U g g'/\Kept U w w'/\bn E fin td ex st') m a w1:=by
  intro m
  induction m with
  |zero=>intro x g1 β1 a w1 _ h;exact absurd h (Nat.not_lt_zero _)
  |succ m ih =>
   intro x g1 β1 a w1 hx hm r1 hg hk
   obtain⟨c',hc',hw⟩:=(hr x hx).it
   rw[jr,hs]at hc'
   have hcc:c=c':=by simpa[sub] using hc'
   subst hcc
   refine wpIn_mono (hw ρ g1 β1 U a w1 (o.kept hk) r1) fun e a' w' ⟨ex,g',β',st',h1,h2,h3,h4,h5⟩=> ?_
   subst h1
   cases ex with
   |normal =>
    obtain⟨y,hy,hlt,hle⟩:=h5
    obtain⟨g2,β2,r2,e2⟩:=hle g' β' U a' w' h2
    exact ih y g2 β2 a' w' hy (by omega) r2 ((hg.trans h3).trans e2) (hk.trans h4)
   |ret=>exact⟨.ret,g',β',st',rfl,h2,hg.trans h3,hk.trans h4,h5⟩
   |exit i=>exact⟨.exit i,g',β',st',rfl,h2,hg.trans h3,hk.trans h4,h5⟩
 exact n7 (μ x+1) (key (μ x+1) x g β a w hx (by omega) r (Grow.refl U g) (Kept.refl U w))
end
inductive qbc:D->D->Prop
 |data {d d':D} (h:Wk d d') (h0:isD d=true) (hd:isD d'=true):qbc d d'
 |own {cs cs':List D} (h:Wks cs cs'):qbc (.own cs) (.own cs')
def SlLe(sl:qu):qu->Prop
 | []=>True
 |(t,d')::r=>(∃d,qo sl t=some d/\qbc d d')/\SlLe sl r
theorem SlLe.get{sl:qu}:∀{sl':qu},SlLe sl sl'->∀{t:Nat} {d':D},qo sl' t=some d'->∃d,qo sl t=some d/\qbc d d'
 | [],_,_,_,h=>by cases h
 |(s,e)::r,h,t,d',hl=>by
  simp only[qo]at hl
  cases hb:Nat.beq s t with
  |true =>
   rw[hb]at hl;simp only[cond_true,Option.some.injEq]at hl;subst hl
   have:=qq.1 hb;subst this
   exact h.1
  |false=>rw[hb]at hl;exact SlLe.get h.2 hl
inductive RowLe:Row->Row->Prop
 |lit {cs cs':List D} (h:Wks cs cs'):RowLe (.lit cs) (.lit cs')
 |arr {n:Nat} {f f':Nat->D} (h:∀i,i<n->Wk (f i) (f' i)):RowLe (.arr n f) (.arr n f')
 |loop {r:qai} {j:Option Code}:RowLe (.loop r j) (.loop r j)
 |litT {T:Nat} {cs cs':List D} (h:Wks cs cs'):RowLe (.litT T cs) (.litT T cs')
 |map {kk:KK} {has has':ju->Bool} {v v':MV} (h:∀k,has k=has' k) (h2:v.zero=v'.zero) (h3:∀k,Wk (v.at k) (v'.at k)):RowLe (.map kk has v) (.map kk has' v')
theorem RowLe.refl:∀row:Row,RowLe row row
 | .lit _=> .lit fun _ _ h=>h
 | .arr _ _=> .arr fun _ _ _ _ h=>h
 | .loop _ _=> .loop
 | .litT _ _=> .litT fun _ _ h=>h
 | .map _ _ _=> .map (fun _=>rfl) rfl fun _ _ _ h=>h
def VwLe(n:Nat)(c:Option (Nat->D)):Option (Nat->D)->Prop
 |none=>True
 |some f'=>∃f,c=some f/\∀i,i<n->Wk (f i) (f' i)/\(ones (f i)=true->ones (f' i)=true)
theorem VwLe.refl(n:Nat)(c:Option (Nat->D)):VwLe n c c:=by
 cases c with
 |none=>trivial
 |some f=>exact⟨f,rfl,fun i _=>⟨fun _ _ h=>h,fun h=>h⟩⟩
theorem VwLe.act{n:Nat}{c c':Option (Nat->D)}(h:VwLe n c c'){k:Tok}(ha:gq k c'):gq k c:=by
 cases c' with
 |none =>
  have ha':k.n<k.cap:=ha
  cases c with
  |none=>exact ha
  |some f=>show 0<k.cap;omega
 |some f' =>
  obtain⟨f,rfl,_⟩:=h
  exact ha
theorem TokAt.le{g:G}{w:World}{U:Nat->Prop}{k:Tok}{c c':Option (Nat->D)}(h:TokAt g w U k c)(hc:VwLe k.n c c'):TokAt g w U k c':=by
 obtain⟨b,e1,e2,T,vals,e3,e4,e5,e6⟩:=h
 refine⟨b,e1,e2,T,vals,e3,e4,fun j hj=>e5 j (Nat.le_trans ?_ hj),fun f' hf'=> ?_⟩
 ·refine Nat.mul_le_mul_right _ ?_
  cases c' with
  |none =>
   cases c with
   |none=>exact Nat.le_refl _
   |some f=>exact Nat.zero_le _
  |some f'=>obtain⟨f,rfl,_⟩:=hc;exact Nat.le_refl _
 ·subst hf'
  obtain⟨f,rfl,hw⟩:=hc
  obtain⟨h1,h2⟩:=e6 f rfl
  exact⟨h1,fun i hi=>by obtain⟨u,f1,f2,f3⟩:=h2 i hi;exact⟨u,(hw i hi).1 _ _ f1,⟨f2.1,(hw i hi).2 f2.2⟩,f3⟩⟩
structure HeapLe(h h':Heap):Prop where
 box:∀l row',h'.box l=some row'->∃row,h.box l=some row/\RowLe row row'
 nl:h.nl<=h'.nl
 hw:∀t n,h'.hw t=some n->h.hw t=some n
 nt:h.nt<=h'.nt
 vw:∀t n,h'.hw t=some n->VwLe n (h.vw t) (h'.vw t)
 vz:∀t,h.vw t=none->h'.vw t=none
theorem HeapLe.refl(h:Heap):HeapLe h h:=⟨fun _l row' e=>⟨row',e,RowLe.refl row'⟩,Nat.le_refl _,fun _ _ h=>h,Nat.le_refl _,fun _ _ _=>VwLe.refl _ _,fun _ h=>h⟩
theorem RowAt.le{g:G}{w:World}{b:Nat}{row row':Row}(h:RowAt g w b row)(l:RowLe row row'):RowAt g w b row':=by
 cases l with
 |lit hw=>obtain⟨T,vals,hb,hr⟩:=h;exact⟨T,vals,hb,hw _ _ hr⟩
 |arr hw=>obtain⟨T,vals,hb,hr⟩:=h;exact⟨T,vals,hb,hr.1,fun i hi=>by obtain⟨v,hv,h1⟩:=hr.2 i hi;exact⟨v,hv,hw i hi _ _ h1⟩⟩
 |loop=>exact h
 |litT hw=>obtain⟨vals,hb,hr⟩:=h;exact⟨vals,hb,hw _ _ hr⟩
 |map h1 h2 h3 =>
  obtain⟨es,c,hb,m1,m2,m3,m4⟩:=h
  exact⟨es,c,hb,fun e he=>by obtain⟨k,q1,q2,q3⟩:=m1 e he;exact⟨k,q1,by rw[<-h1];exact q2,h3 k _ _ q3⟩,fun k hk=>m2 k (by rw[h1];exact hk),m3,fun k hk g' u hu=>h3 k g' u (m4 k (by rw[h1];exact hk) g' u (by rw[h2];exact hu))⟩
theorem Inv.le[Lay]{g:G}{U:Nat->Prop}{h h':Heap}{w:World}(i:Inv g U h w)(hh:HeapLe h h'):Inv g U h' w:=by
 have hbx:∀l,h'.box l≠none->h.box l≠none:=fun l hl hx=>by
  cases hb:h'.box l with
  |none=>exact hl hb
  |some row'=>obtain⟨row,hr,_⟩:=hh.box l row' hb;rw[hx]at hr;cases hr
 refine⟨i.sub,i.ub,i.muLt,fun l row' e=> ?_,fun l l' b e e'=>i.boxInj l l' b (hbx l e) (hbx l' e'),fun t m e=> ?_,fun t m k b l e e1 e2 e3 e4=>i.tokBox t m k b l (hh.hw _ _ e) e1 ((hh.vw _ _ e).act e2) e3 (hbx l e4),
  fun t t' m m' k k' b e e' e1 e2 e3 e4=>i.tokInj t t' m m' k k' b (hh.hw _ _ e) (hh.hw _ _ e') e1 e2 ((hh.vw _ _ e).act e3) ((hh.vw _ _ e').act e4),fun l hl=>i.frL l (Nat.le_trans hh.nl hl),fun t ht=>i.frT t (Nat.le_trans hh.nt ht),fun t ht=>hh.vz t (i.frV t (Nat.le_trans hh.nt ht)),i.ltab⟩
 ·obtain⟨row,hr,hle⟩:=hh.box l row' e
  obtain⟨b,f1,f2,f3,f4⟩:=i.box l row hr
  exact⟨b,f1,f2.le hle,f3,f4⟩
 ·obtain⟨k,e1,e2,e3⟩:=i.tok t m (hh.hw _ _ e)
  subst e2
  have hv:=hh.vw _ _ e
  exact⟨k,e1,rfl,fun ha=>(e3 (hv.act ha)).le hv⟩
theorem StLe.of[Lay]{n:Nat}{st st':St}(hn:(st'.sl.map (·.1)).Nodup)(hs:SlLe st.sl st'.sl)(hh:HeapLe st.h st'.h):StLe n st st':=by
 intro g β U a w r
 have i:=r.inv
 refine⟨g,β,⟨r.defers,r.size,hn,fun t d' h=> ?_,fun t d' s h _ hb=> ?_,fun t cs' h=> ?_,fun t t' cs cs' h h' e=> ?_,?_⟩,Grow.refl U g⟩
 ·obtain⟨d,h1,h2⟩:=hs.get h
  have h3:=r.slot t d h1
  cases h2 with
  |data hw h0 hd =>
   have hR:R g d (a.tmps.getD t undef):=by cases d <;> first|exact h3|exact Bool.noConfusion (show false=true from h0)
   exact RS.ofRS0 (RS0.ofR (hw _ _ hR)) (jq hd)
  |own hw=>exact h3
 ·obtain⟨d,h1,h2⟩:=hs.get h
  cases h2 with
  |data hw h0 hd=>cases d' <;> first|exact Bool.noConfusion (show false=true from hd)|cases hb
  |own hw=>cases hb
 ·obtain⟨d,h1,h2⟩:=hs.get h
  cases h2 with
  |data hw h0 hd=>cases hd
  |own hw =>
   obtain⟨e1,e2,e3,e4,e5⟩:=r.own t _ h1
   refine⟨e1.le (.lit hw),e2,e3,fun l hl=>e4 l fun hx=> ?_,fun t' m k e f1 f2=>e5 t' m k (hh.hw _ _ e) f1 ((hh.vw _ _ e).act f2)⟩
   cases hb:st'.h.box l with
   |none=>exact hl hb
   |some row'=>obtain⟨row,hr,_⟩:=hh.box l row' hb;rw[hx]at hr;cases hr
 ·obtain⟨d,h1,h2⟩:=hs.get h
  obtain⟨d',h1',h2'⟩:=hs.get h'
  have hown:∀{d:D} {cs:List D},qbc d (.own cs)->∃c,d = .own c:=by
   intro d cs h
   cases h with
   |data hw h0 hd=>cases hd
   |own hw=>exact⟨_,rfl⟩
  obtain⟨c,rfl⟩:=hown h2
  obtain⟨c',rfl⟩:=hown h2'
  exact r.ownInj t t' _ _ h1 h1' e
 ·exact i.le hh
def qc:Nat->List D->qu
 |_,[]=>[]
 |k,d::r=>(k,d)::qc (k+1) r
def qj7(P:Program)(st:St):ResultVar->Option D
 | .tmp t=>match qo st.sl t with
  |some d=>bif isD d then some d else none
  |none=>none
 | .cell a t=>match qo st.sl a with
  |some (.own cs)=>g8 P t cs
  |some (.bp l off)=>match st.h.box l with
   |some (.lit cs)=>g8 P t (cs.drop off)
   |_=>none
  |_=>none
def qhb(P:Program)(st:St):List ResultVar->Option (List D)
 | []=>some []
 |r::rs=>match qj7 P st r,qhb P st rs with
  |some d,some ds=>some (d::ds)
  |_,_=>none
def rh(P:Program)(st:St)(rs:List ResultVar):Option D :=
 match qhb P st rs with
 |some [d]=>some d
 |some ds=>some (.tup ds)
 |none=>none
def qj8(P:Program)(rs:List ResultVar)(K:D->Heap->Prop)(st:St):Prop :=
 match rh P st rs with
 |some d=>K d st.h
 |none=>False
section
variable {P:Program} {n:Nat} {g:G} {β:Nat->Nat} {U:Nat->Prop} {st:St} {a:Act} {w:World}
def qn5(tmps:Array Value):ResultVar->Sem Value
 | .tmp t=>pure (tmps.getD t undef)
 | .cell a t=>do loadVar t (<- asAddr (tmps.getD a undef))
theorem qcy[Lay](r:Rel n g β U noY st a w){rv:ResultVar}{d:D}(h:qj7 P st rv=some d):∃v,(qn5 a.tmps rv).run P w = .ok v w/\R g d v:=by
 cases rv with
 |tmp t =>
  simp only[qj7]at h
  cases hl:qo st.sl t with
  |none=>rw[hl]at h;cases h
  |some e =>
   rw[hl]at h
   simp only at h
   cases hd:isD e with
   |false=>rw[hd]at h;cases h
   |true =>
    rw[hd]at h;simp only[cond_true,Option.some.injEq]at h;subst h
    have h1:=r.slot t _ hl
    refine⟨_,rfl,?_⟩
    cases e <;> first|exact h1|exact Bool.noConfusion (show false=true from hd)
 |cell x t =>
  simp only[qj7]at h
  split at h
  ·rename_i cs hl
   have h1:=r.slot x _ hl
   simp only[RS]at h1
   obtain⟨vs,h2,h3⟩:=wd (r.own x cs hl).1 0
   obtain⟨v,h4,h5⟩:=yc (P:=P) h2 h3 h
   exact⟨v,by simp[qn5,h1,asAddr,h4],h5⟩
  ·rename_i l off hl
   have h1:=r.slot x _ hl
   simp only[RS,RS0,R]at h1
   obtain⟨b,hb,hv⟩:=h1
   split at h
   ·rename_i cs hc
    obtain⟨b',e1,e2,_⟩:=r.inv.box l _ hc
    rw[hb]at e1;cases e1
    obtain⟨vs,h2,h3⟩:=wd e2 off
    obtain⟨v,h4,h5⟩:=yc (P:=P) h2 h3 h
    exact⟨v,by simp[qn5,hv,asAddr,h4],h5⟩
   ·cases h
  ·cases h
theorem fu[Lay](r:Rel n g β U noY st a w):∀{rs:List ResultVar} {ds:List D},qhb P st rs=some ds->∃vs:List Value,(rs.mapM (qn5 a.tmps)).run P w = .ok vs w/\Rs g ds vs
 | [],ds,h=>by
  simp only[qhb,Option.some.injEq]at h;subst h
  exact⟨[],by simp,rfl⟩
 |rv::rs,ds,h=>by
  simp only[qhb]at h
  split at h
  ·rename_i d ds' h1 h2
   cases h
   obtain⟨v,e1,e2⟩:=qcy r h1
   obtain⟨vs,e3,e4⟩:=fu r h2
   refine⟨v::vs,?_,?_⟩
   ·simp only[List.mapM_cons,Sem.run_bind,e1,Result.andThen_ok,e3,Sem.run_pure]
   ·simp only[Rs];exact⟨v,vs,rfl,e2,e4⟩
  ·cases h
theorem ig(fn:Func)(tmps:Array Value):results fn tmps=(do let vs <- fn.results.toList.mapM (qn5 tmps);pure (if h:vs.toArray.size=1 then vs.toArray[0] else .tuple vs.toArray)):=by
 unfold results
 have hf:(fun(x:ResultVar)=>match x with | .tmp t=>(pure (tmps.getD t undef):Sem Value) | .cell a t=>do loadVar t (<- asAddr (tmps.getD a undef)))=qn5 tmps:=by
  funext x;cases x <;> rfl
 rw[<-hf]
 rw[Array.mapM_eq_mapM_toList]
 simp only[map_eq_pure_bind,bind_assoc,pure_bind]
 rfl
theorem sg[Lay](r:Rel n g β U noY st a w){fn:Func}{d:D}(h:rh P st fn.results.toList=some d):∃v,(results fn a.tmps).run P w = .ok v w/\R g d v:=by
 unfold rh at h
 split at h
 ·rename_i d' hd
  cases h
  obtain⟨vs,h1,h2⟩:=fu (P:=P) r hd
  obtain⟨v,rfl,hv⟩:=h2.one
  exact⟨v,by rw[ig];simp[h1],hv⟩
 ·rename_i ds hne hd
  cases h
  obtain⟨vs,h1,h2⟩:=fu (P:=P) r hd
  refine⟨.tuple vs.toArray,?_,by simp only[R];exact⟨vs,rfl,h2⟩⟩
  have hl:¬(vs.toArray.size=1):=by
   intro hl
   have hl2:=h2.length
   cases ds with
   |nil=>simp at hl2;subst hl2;simp at hl
   |cons x t =>
    cases t with
    |nil=>exact hne x rfl
    |cons y t=>simp at hl2 hl;omega
  rw[ig]
  simp only[Sem.run_bind,h1,Result.andThen_ok,dif_neg hl,Sem.run_pure]
 ·cases h
theorem dp:∀(ds:List D) (k t:Nat) (d:D),qo (qc k ds) t=some d->k<=t/\ds[t-k]? = some d
 | [],_,_,_,h=>by cases h
 |e::r,k,t,d,h=>by
  simp only[qc,qo]at h
  cases hb:Nat.beq k t with
  |true =>
   rw[hb]at h;simp only[cond_true,Option.some.injEq]at h;subst h
   have:=qq.1 hb;subst this
   simp
  |false =>
   rw[hb]at h
   obtain⟨h1,h2⟩:=dp r (k+1) t d h
   refine⟨by omega,?_⟩
   rw[show t-k=(t-(k+1))+1 by omega]
   simpa using h2
theorem dq:∀(ds:List D) (k:Nat),((qc k ds).map (·.1)).Nodup/\∀t∈(qc k ds).map (·.1),k<=t
 | [],_=>⟨List.nodup_nil,fun _ h=>by cases h⟩
 |d::r,k=>by
  obtain⟨h1,h2⟩:=dq r (k+1)
  refine⟨?_,fun t ht=> ?_⟩
  ·simp only[qc,List.map_cons,List.nodup_cons]
   exact⟨fun h=>by have:=h2 k h;omega,h1⟩
  ·simp only[qc,List.map_cons,List.mem_cons]at ht
   rcases ht with rfl|ht
   ·exact Nat.le_refl _
   ·have:=h2 t ht;omega
theorem qhc[Lay]{args:List D}{vs:List Value}{h:Heap}(hn:args.length<=n)(hs:Rs g args vs)(i:Inv g U h w) :
  Rel n g β U noY ⟨qc 0 args,h⟩ {tmps:=vs.toArray++Array.replicate (n-vs.toArray.size) undef,defers:=[]} w:=by
 have hl:=hs.length
 have hdata:∀t d,qo (qc 0 args) t=some d->∃v,vs[t]? = some v/\R g d v:=fun t d h=>by
  obtain⟨_,h2⟩:=dp args 0 t d h
  exact hs.get t d (by simpa using h2)
 refine⟨DefOk.nil U w,by simp;omega,(dq args 0).1,fun t d h=> ?_,fun t d s h _ hb=> ?_,fun t cs h=> ?_,fun t t' cs cs' h=> ?_,i⟩
 ·obtain⟨v,h1,h2⟩:=hdata t d h
  have ht:t<vs.length:=(List.getElem?_eq_some_iff.1 h1).1
  have:(vs.toArray++Array.replicate (n-vs.toArray.size) undef).getD t undef=v:=by
   simp[Array.getElem?_append_left,ht]
   have:=List.getElem?_eq_some_iff.1 h1
   obtain⟨_,e⟩:=this
   exact e
  rw[this]
  exact RS.ofRS0 (RS0.ofR h2) (jq h2.isD)
 ·obtain⟨v,_,h2⟩:=hdata t d h
  have:=h2.noOwn.2.2 s
  exact absurd hb this
 ·obtain⟨v,_,h2⟩:=hdata t _ h
  exact absurd rfl (h2.noOwn.1 cs)
 ·obtain⟨v,_,h2⟩:=hdata t _ h
  exact absurd rfl (h2.noOwn.1 cs)
end
section
variable {P:Program} {f:Nat} {fn:Func} {c:Code}
theorem nk[Lay]{F:Fence}{g:G}{β:Nat->Nat}{U:Nat->Prop}{st:St}{tmps:Array Value}{d:D}(hd:rh P st fn.results.toList=some d){R:Ending->World->Prop} :
  ∀(bs:List Nat) (w:World),Rel fn.ntmps g β U noY st {tmps:=tmps,defers:=bs.map fun b=>{target:= .collected b,args:= #[]}} w->bs.Nodup->(∀b∈bs,w.heap[b]? = some (.deferred (some []))/\¬U b)->
   (∀v w',Ab.R g d v->Inv g U st.h w'->w'.os=w.os->w'.tape=w.tape->w'.output=w.output->w'.heap.size=w.heap.size->(∀k,k ∉ bs->w'.heap[k]? = w.heap[k]?)->R (.returned v) w')->
   LeavesInM F 0 P fn tmps R (bs.map fun b=>{target:= .collected b,args:= #[]}) .returning w
 | [],w,r,_,_,h=>by
  obtain⟨v,e1,e2⟩:=sg r hd
  exact⟨v,e1,h v w e2 r.inv rfl rfl rfl rfl fun _ _=>rfl⟩
 |b::bs,w,r,hn,hb,h=>by
  have hb0:=(hb b (List.mem_cons_self ..)).1
  have hn':=List.nodup_cons.1 hn
  have t:=y0 w b (.deferred none)
  have hnc:∀vals T z,w.heap[b]? ≠some (.cells vals T z):=fun _ _ _ e=>by rw[hb0]at e;cases e
  have hrow:∀l,st.h.box l≠none->g.μ l≠some b:=fun l hl e=>by
   cases hr:st.h.box l with
   |none=>exact hl hr
   |some row =>
    obtain⟨b',e1,e2,_⟩:=r.inv.box l row hr
    rw[e]at e1;cases e1
    exact e2.noDef hb0
  have hb':∀k∈bs,(w.putObj b (.deferred none)).heap[k]? = some (.deferred (some []))/\¬U k:=fun k hk=>⟨(t.other k fun e=>hn'.1 (e▸hk)).trans (hb k (List.mem_cons_of_mem _ hk)).1,(hb k (List.mem_cons_of_mem _ hk)).2⟩
  have r':=r.noCells (ds:=bs.map fun b=>{target:= .collected b,args:= #[]}) t hnc hrow ⟨bs,rfl,hn'.2,hb'⟩
  refine⟨by simp,.inl ⟨b,_,rfl,run_takeDeferred hb0,?_⟩⟩
  refine nk hd bs _ r' hn'.2 hb' fun v w' e1 e2 e3 e4 e5 e6 e7=>h v w' e1 e2 e3 e4 e5 (e6.trans t.size) fun k hk=> ?_
  exact(e7 k fun hm=>hk (List.mem_cons_of_mem _ hm)).trans (t.other k fun e=>hk (e▸List.mem_cons_self ..))
theorem pc [Lay] (jv:P.follows .mixedOrders=true) (hf:P.funcs[f]? = some fn) (hb:fn.body=some c) (hname:(fn.name == "runtime.NumGoroutine")=false) {cfg:Cfg} {args:List D} {h:Heap} {K:D->Heap->Prop}
  (hn:Nat.ble args.length fn.ntmps=true) {N:Nat} (hr:run ⟨P,cfg,c,fn.ntmps⟩ (qj8 P fn.results.toList K) N [.code []] ⟨qc 0 args,h⟩):CallA P f args h K:=by
 refine⟨⟨fn,hf,by rw[hb];rfl,hname⟩,fun g U w vs i hs=>(callsIn_wide (n:=0)).1 (callsIn_of_wp_marks hf hb trivial ?_)⟩
 obtain⟨c',hc',hw⟩:=u9 (E:=⟨P,cfg,c,fn.ntmps⟩) jv N _ _ hr
 have hcc:c=c':=by
  have:sub c []=some c:=by cases c <;> rfl
  have h2:sub c []=some c':=hc'
  rw[this]at h2;cases h2;rfl
 subst hcc
 have i':=i.defsU
 refine wpIn_mono (hw none g (fun _=>0) _ _ w (fun _ h=>by cases h) (qhc (Nat.le_of_ble_eq_true hn) hs i')) fun e a' w' ⟨ex,g',β',st',h1,h2,h3,h4,h5⟩=> ?_
 subst h1
 have done:qj8 P fn.results.toList K st'->LeavesInM Fence.wide 0 P fn a'.tmps (fun e w'=>∃(x:Value) (g':G) (d:D) (h':Heap),e = .returned x/\R g' d x/\Inv g' U h' w'/\Grow U g g'/\Kept U w w'/\K d h') a'.defers .returning w':=by
  intro hk
  unfold qj8 at hk
  split at hk
  ·rename_i d hd
   obtain⟨bs,e0,hn',hbs⟩:=h2.defers
   have h2':Rel fn.ntmps g' β' (defsU U w) noY st' {tmps:=a'.tmps,defers:=bs.map fun b=>{target:= .collected b,args:= #[]}} w':=by rw[<-e0];exact h2
   rw[e0]
   refine nk hd bs w' h2' hn' hbs fun v w'' e1 e2 e3 e4 e5 e6 e7=>⟨v,g',d,st'.h,rfl,e1,e2.lessU fun _ h=> .inl h,h3.lessU fun _ h=> .inl h,?_,hk⟩
   exact⟨e3.trans h4.os,e4.trans h4.tape,e5.trans h4.output,by rw[e6];exact h4.size,fun k hk=>(e7 k fun hm=>(hbs k hm).2 (.inl hk)).trans (h4.block k (.inl hk)),fun k hk=>(e7 k fun hm=>(hbs k hm).2 (.inr hk)).trans (h4.defs k hk)⟩
  ·exact hk.elim
 cases ex with
 |normal=>exact done h5
 |ret=>exact done h5
 |exit i=>exact h5.elim
theorem qcz [Lay] (jv:P.follows .mixedOrders=true) (hf:P.funcs[f]? = some fn) (hb:fn.body=some c) (hname:(fn.name == "runtime.NumGoroutine")=false) {cfg:Cfg} {args:List D} {v:D} (da:Datas args) (dv:Data v)
  (hn:Nat.ble args.length fn.ntmps=true) {N:Nat} (hr:run ⟨P,cfg,c,fn.ntmps⟩ (qj8 P fn.results.toList fun d _=>Wk d v) N [.code []] ⟨qc 0 args,.empty⟩):Pure P f args v:=by
 have hc:=pc jv hf hb hname hn hr
 refine⟨hc.ok,da,dv,fun g w vs la sub hs=> ?_⟩
 let g0:G:=⟨g.σ,fun _=>none,fun _=>none⟩
 have i:Inv g0 (fun b=>b<w.heap.size) .empty w:=⟨sub,fun _ h=>h,fun _ _ h=>(by cases h),fun _ _ h=>(by cases h),fun l _ _ h=>absurd rfl h,fun _ _ h=>(by cases h),fun _ _ _ _ _ h=>(by cases h),fun _ _ _ _ _ _ _ h=>(by cases h),fun _ _=>rfl,fun _ _=>rfl,fun _ _=>rfl,la⟩
 refine Calls.mono (hc.calls g0 (fun b=>b<w.heap.size) w vs i (Rs.data (g:=g) (g':=g0) (fun _ _ h=>h) args vs da hs)) fun e w' ⟨x,g',d,h',h1,h2,h3,h4,h5,h6⟩=>⟨x,g'.σ,h1,R.data (g:=g') (g':=⟨g'.σ,g.μ,g.τ⟩) (fun _ _ h=>h) v x dv (h6 _ _ h2),h4.le.σ,h3.sub,fun a y h=> ?_,⟨h5.os,h5.tape,h5.output,h5.size,fun b hb=>h5.block b hb⟩⟩
 rcases h4.new a y h with h|h
 ·exact .inl h
 ·exact .inr (Nat.le_of_not_lt h)
theorem CallA.of_pure[Lay]{args args':List D}{v:D}{h:Heap}{K:D->Heap->Prop}(p:Pure P f args' v)(hw:Wks args args')(hk:K v h):CallA P f args h K:=by
 refine⟨p.ok,fun g U w vs i hs=>Calls.mono (p.calls g w vs i.ltab i.sub (hw _ _ hs)) fun e w' ⟨x,σ',h1,h2,h3,h4,h5,h6⟩=> ?_⟩
 have hx:Ext g w ⟨σ',g.μ,g.τ⟩ w':=⟨⟨h3,fun _ _ h=>h,fun _ k h=>⟨k,h,rfl,Nat.le_refl _,fun _=>rfl⟩⟩,rfl,rfl,h5,h4,h6⟩
 exact⟨x,_,v,h,h1,h2,i.ext hx,hx.grow i.ub,hx.kept i.ub,hk⟩
theorem PCall.of_pure[Lay]{args args':List D}{v:D}{h:Heap}{b:Bool}{K:D->Heap->Prop}(p:b=true->Wks args args'/\Pure P f args' v)(hv:isD v=true)(hk:K v h):PCall P b f args h K:=⟨args',v,hv,p,hk⟩
end
theorem of_eq{p q:Prop}(h:p=q)(hq:q):p:=h▸hq
def L{α:Type}[Inhabited α](es:List α)(sz:Nat)(enc:α->D):D:= .list es.length sz (fun i=>enc (es.getD i default)) .none
theorem Wk.refl(d:D):Wk d d:=fun _ _ h=>h
theorem Wk.of_eq{d d':D}(h:d=d'):Wk d d':=h▸Wk.refl d
theorem Wk.trans{a b c:D}(h:Wk a b)(k:Wk b c):Wk a c:=fun g v r=>k g v (h g v r)
theorem Wks.refl(ds:List D):Wks ds ds:=fun _ _ h=>h
theorem Wks.cons{d d':D}{ds ds':List D}(h:Wk d d')(k:Wks ds ds'):Wks (d::ds) (d'::ds'):=fun g vs r=>by
 simp only[Rs]at r⊢
 obtain⟨v,r',e,h1,h2⟩:=r
 exact⟨v,r',e,h _ _ h1,k _ _ h2⟩
theorem Wks.nil:Wks [] []:=Wks.refl []
theorem Wk.agg{cs cs':List D}(h:Wks cs cs'):Wk (.agg cs) (.agg cs'):=fun g v r=>by
 simp only[R]at r⊢
 obtain⟨vs,e,hs⟩:=r
 exact⟨vs,e,h _ _ hs⟩
theorem Wk.tup{cs cs':List D}(h:Wks cs cs'):Wk (.tup cs) (.tup cs'):=fun g v r=>by
 simp only[R]at r⊢
 obtain⟨vs,e,hs⟩:=r
 exact⟨vs,e,h _ _ hs⟩
theorem Wk.list{n n' sz sz':Nat}{f f':Nat->D}{own own':Own}(hn:n=n')(hs:sz=sz'\/n=0)(hf:∀i,i<n->f i=f' i)(ho:own' = .none\/own'=own):Wk (.list n sz f own) (.list n' sz' f' own'):=by
 intro g v r
 subst hn
 simp only[R]at r⊢
 obtain⟨h1,a,cap,h2,h3,h4,h5⟩:=r
 refine⟨h1,a,cap,h2,h3,?_,fun i hi=> ?_⟩
 ·rcases ho with rfl|rfl
  ·trivial
  ·exact h4
 ·have hs':sz=sz':=by rcases hs with h|h;exact h;omega
  subst hs'
  rw[<-hf i hi]
  exact h5 i hi
theorem L.data{α:Type}[Inhabited α]{es:List α}{sz:Nat}{enc:α->D}(h:∀x,Ab.Data (enc x)):Ab.Data (L es sz enc):=by
 simp only[L,Ab.Data]
 exact⟨fun i _=>h _,fun t sz h=>by cases h⟩
theorem qa{b:Bool}{p q:Prop}(h1:b=true->p)(h2:b=false->q):(bif b then p else q):=by
 cases b
 ·exact h2 rfl
 ·exact h1 rfl
def gw(w:World):G:=⟨w.cell?,fun _=>none,fun _=>none⟩
theorem qlp(w:World):∀a v,(gw w).σ a=some v->w.cell? a=some v/\a.spot=none:=by
 intro a v h
 refine⟨h,?_⟩
 have h':w.cell? a=some v:=h
 unfold World.cell? at h'
 split at h'
 ·cases hs:a.spot with
  |none=>rfl
  |some s=>rw[hs]at h';simp at h'
 ·cases h'
structure Reads(P:Program)(t:TypeId){α:Type}(enc:α->D)(ok:α->Prop):Prop where
 size:∀a,(ql (enc a)).length=P.cellsOf t
 ones:∀a,ones (enc a)=true
 isD:∀a,isD (enc a)=true
 data:∀a,Ab.Data (enc a)
 it:∀{H:Type} {en:TypeId×Value->H} {w:World} {base:Nat} {spare:Nat->Bool} {held:Bool} {fuel:Nat} {cs:List Value} {x:DataW H×List MemPlace},
  DataW.trod en P w base spare held fuel t cs=some x->∃a:α,ok a/\Rs (gw w) (ql (enc a)) cs
theorem Rs.value{g:G}{d:D}{cs:List Value}(hd:Ab.isD d=true)(hs:Rs g (ql d) cs):∃u,R g d u/\u.cells.toList=cs:=by
 cases d with
 |agg ds=>exact⟨.agg cs.toArray,by simp only[R];exact⟨cs,rfl,hs⟩,by simp[Value.cells]⟩
 |own ds=>cases hd
 |lp s o=>cases hd
 |may j w d=>cases hd
 |junk=>cases hd
 |_ =>
  obtain⟨v,rfl,hv⟩:=hs.one
  refine⟨v,hv,?_⟩
  have h2:=hv.cells
  obtain⟨v',e,_⟩:=Rs.one h2
  have h3:=hv
  simp only[R]at h3
  first
   |(subst h3;rfl)
   |(obtain⟨rfl,_⟩:=h3;rfl)
   |(obtain⟨_,_,_,rfl,_⟩:=h3;rfl)
   |(obtain⟨_,_,rfl,_⟩:=h3;rfl)
   |(obtain⟨_,_,rfl⟩:=h3;rfl)
   |(obtain⟨_,_,_,_,rfl,_⟩:=h3;rfl)
   |(obtain⟨_,rfl,_⟩:=h3;rfl)
section
variable {P:Program} {t:TypeId}
theorem Reads.int{k:IntKind}(ht:P.underlying t=some (.int k))(hc:P.cellsOf t=1):Reads P t (fun n:Int=> .int k n) (fun n=>(Lit.int k n).wf=true) :=
 ⟨fun _=>hc.symm,fun _=>rfl,fun _=>rfl,fun _=>trivial,fun h=>by
  obtain⟨n,rfl,_,hw⟩:=DataW.trod_int ht h
  exact⟨n,hw,by simp only[ql,Rs];exact⟨_,_,rfl,by simp only[R],rfl⟩⟩⟩
theorem Reads.bool(ht:P.underlying t=some .bool)(hc:P.cellsOf t=1):Reads P t (fun b:Bool=> .bool b) (fun _=>True) :=
 ⟨fun _=>hc.symm,fun _=>rfl,fun _=>rfl,fun _=>trivial,fun h=>by
  obtain⟨b,rfl,_⟩:=DataW.trod_bool ht h
  exact⟨b,trivial,by simp only[ql,Rs];exact⟨_,_,rfl,by simp only[R],rfl⟩⟩⟩
theorem Reads.str(ht:P.underlying t=some .string)(hc:P.cellsOf t=1):Reads P t (fun s:List UInt8=> .str s) (fun s=>s.length<=jt) :=
 ⟨fun _=>hc.symm,fun _=>rfl,fun _=>rfl,fun _=>trivial,fun h=>by
  obtain⟨s,rfl,_,hs⟩:=DataW.trod_string ht h
  have hl:s.data.toList.length<=jt:=by
   have:s.data.toList.length=s.size:=by show s.data.toList.length=s.data.size;simp
   rw[this];exact hs
  exact⟨s.data.toList,hl,by simp only[ql,Rs];exact⟨_,_,rfl,by simp only[R];exact⟨by simp,hl⟩,rfl⟩⟩⟩
theorem Reads.slice{α:Type}[Inhabited α]{e:TypeId}{enc:α->D}{ok:α->Prop}(h:Reads P e enc ok)(ht:P.underlying t=some (.slice e))(hc:P.cellsOf t=1)(hp:0<P.cellsOf e) :
  Reads P t (fun es:List α=>L es (P.cellsOf e) enc) (fun es=>(∀x∈es,ok x)/\es.length<=q8):=by
 refine⟨fun _=>hc.symm,fun _=>rfl,fun _=>rfl,fun es=>L.data fun x=>h.data x,fun{H en w base spare held fuel cs x} hx=> ?_⟩
 rcases Go.Deep.open_slice ht hx with ⟨rfl,_⟩|⟨a,len,cap,m,n,Dd,Pl,rfl,hb,hl,hm,hmm,_,hel⟩
 ·refine⟨[],⟨fun _ h=>(by cases h),by simp[q8]⟩,?_⟩
  simp only[L,ql,Rs]
  refine⟨_,_,rfl,?_,rfl⟩
  simp only[R]
  exact⟨by simp[q8],none,0,rfl,Nat.le_refl _,trivial,fun i hi=>by cases hi⟩
 ·have hle:len<=m:=by rw[hmm];split <;> omega
  have hx2:∀i,∃q:α,i<len->ok q/\∃cs',w.cells? base (a.add (i*P.cellsOf e)) (P.cellsOf e)=some cs'/\Rs (gw w) (ql (enc q)) cs':=by
   intro i
   by_cases hi:i<len
   ·obtain⟨cs',h1,h2⟩:=hel i (by omega)
    obtain⟨q,h3,h4⟩:=h.it h2
    exact⟨q,fun _=>⟨h3,cs',h1,h4⟩⟩
   ·exact⟨default,fun h=>absurd h hi⟩
  let f:Nat->α:=fun i=>Classical.choose (hx2 i)
  have hf:∀i,i<len->ok (f i)/\∃cs',w.cells? base (a.add (i*P.cellsOf e)) (P.cellsOf e)=some cs'/\Rs (gw w) (ql (enc (f i))) cs':=fun i=>Classical.choose_spec (hx2 i)
  have hlen:len<=q8:=by have:cap<=maxLen:=hm;unfold maxLen at this;unfold q8;omega
  refine⟨(List.range len).map f,⟨fun x hx=> ?_,by simpa using hlen⟩,?_⟩
  ·obtain⟨i,hi,rfl⟩:=List.mem_map.1 hx
   exact(hf i (by simpa using hi)).1
  ·simp only[L,ql,Rs]
   refine⟨_,_,rfl,?_,rfl⟩
   simp only[R,List.length_map,List.length_range]
   refine⟨hlen,some a,cap,rfl,hl,trivial,fun i hi=> ?_⟩
   obtain⟨_,cs',h1,h2⟩:=hf i hi
   obtain⟨_,hcl,hcell⟩:=World.cells?_some h1
   have hget:((List.range len).map f).getD i default=f i:=by simp[List.getD,hi]
   rw[hget]
   obtain⟨u,hu,huc⟩:=h2.value (h.isD _)
   have hspot:a.spot=none:=by
    obtain⟨_,cs0,h01,_⟩:=hf 0 (by omega)
    obtain⟨_,hlc,hc0⟩:=World.cells?_some h01
    have h00:=hc0 0 hp
    rw[Nat.zero_mul]at h00
    have hadd:(a.add 0).add 0=a:=by simp[Addr.add]
    rw[hadd,List.getElem?_eq_getElem (by omega)]at h00
    exact(qlp w a _ h00).2
   have hus:u.cells.size=P.cellsOf e:=by have:u.cells.toList.length=_:=congrArg List.length huc;simpa[hcl] using this
   refine⟨a,u,rfl,hspot,hu,⟨hus,h.ones _⟩,fun j hj=> ?_⟩
   have:=hcell j hj
   have hae:a=⟨a.block,a.off,none⟩:=by cases a;simp_all
   rw[hae,j5,j5]at this
   show w.cell? _=_
   rw[this,<-huc];simp
end
theorem Datas.append{a b:List D}(h:Datas a)(k:Datas b):Datas (a++b):=by
 induction a with
 |nil=>exact k
 |cons d r ih=>exact⟨h.1,ih h.2⟩
theorem Data.cells{d:D}(h:Ab.Data d):Datas (ql d):=by
 cases d <;> first|exact h|exact⟨h,trivial⟩
structure ReadsF(P:Program)(total:Nat)(fs:List Field)(off:Nat){α:Type}(encF:α->List D)(ok:α->Prop):Prop where
 size:∀a,off+(encF a).length=total
 ones:∀a,(encF a).all qce=true
 data:∀a,Datas (encF a)
 it:∀{H:Type} {en:TypeId×Value->H} {w:World} {base:Nat} {spare:Nat->Bool} {held:Bool} {fuel:Nat} {cs:List Value},cs.length=total ->
  (∀f∈fs,∃x,DataW.trod en P w base spare held fuel f.type ((cs.drop f.offset).take (P.cellsOf f.type))=some x)->∃a:α,ok a/\Rs (gw w) (encF a) (cs.drop off)
section
variable {P:Program} {t:TypeId}
theorem ReadsF.nil{total:Nat}:ReadsF P total [] total (fun _:Unit=>[]) (fun _=>True) :=
 ⟨fun _=>rfl,fun _=>rfl,fun _=>trivial,fun hl _=>⟨(),trivial,by rw[List.drop_eq_nil_of_le (by omega)];rfl⟩⟩
theorem ReadsF.cons{total:Nat}{f:Field}{fs:List Field}{off:Nat}{α β:Type}{enc:α->D}{ok:α->Prop}{encF:β->List D}{okF:β->Prop}(h:Reads P f.type enc ok)(k:ReadsF P total fs (off+P.cellsOf f.type) encF okF)(ho:f.offset=off) :
  ReadsF P total (f::fs) off (fun x:α×β=>ql (enc x.1)++encF x.2) (fun x=>ok x.1/\okF x.2):=by
 refine⟨fun x=> ?_,fun x=> ?_,fun x=>(Data.cells (h.data x.1)).append (k.data x.2),fun{H en w base spare held fuel cs} hl hx=> ?_⟩
 ·have h1:=h.size x.1
  have h2:=k.size x.2
  simp only[List.length_append];omega
 ·have h1:=h.ones x.1
  simp only[Ab.ones]at h1
  rw[List.all_append,h1,k.ones x.2];rfl
 ·obtain⟨y,hy⟩:=hx f (List.mem_cons_self ..)
  obtain⟨a,ha,hr⟩:=h.it hy
  obtain⟨b,hb,hs⟩:=k.it hl fun f' hf=>hx f' (List.mem_cons_of_mem _ hf)
  refine⟨(a,b),⟨ha,hb⟩,?_⟩
  have:cs.drop off=(cs.drop f.offset).take (P.cellsOf f.type)++cs.drop (off+P.cellsOf f.type):=by
   rw[ho,<-List.drop_drop,List.take_append_drop]
  rw[this]
  exact hr.append hs
theorem Reads.struct{fs:Array Field}{α:Type}{encF:α->List D}{ok:α->Prop}(ht:P.underlying t=some (.struct fs))(h:ReadsF P (P.cellsOf t) fs.toList 0 encF ok):Reads P t (fun a=> .agg (encF a)) ok:=by
 refine⟨fun a=>by have:=h.size a;simpa[ql] using this,fun a=>h.ones a,fun _=>rfl,fun a=>h.data a,fun{H en w base spare held fuel cs x} hx=> ?_⟩
 obtain⟨xs,n,_,_,hl,hxl,hf⟩:=DataW.trod_struct ht hx
 obtain⟨a,ha,hs⟩:=h.it (fuel:=n) hl fun f hm=>by
  obtain⟨i,hi,rfl⟩:=List.getElem_of_mem hm
  have hi':i<fs.size:=by simpa using hi
  have h1:=hf i fs[i] (Array.getElem?_eq_getElem hi')
  rw[List.getElem?_eq_getElem (by omega)]at h1
  exact⟨_,by simpa using h1⟩
 exact⟨a,ha,by simpa[ql] using hs⟩
theorem Reads.map{α β:Type}{enc:α->D}{ok:α->Prop}{enc':β->D}{ok':β->Prop}(h:Reads P t enc ok)(f:α->β)(he:∀a,enc' (f a)=enc a)(hs:∀b,∃a,b=f a)(ho:∀a,ok a->ok' (f a)):Reads P t enc' ok':=by
 refine⟨fun b=> ?_,fun b=> ?_,fun b=> ?_,fun b=> ?_,fun hx=> ?_⟩
 ·obtain⟨a,rfl⟩:=hs b;rw[he];exact h.size a
 ·obtain⟨a,rfl⟩:=hs b;rw[he];exact h.ones a
 ·obtain⟨a,rfl⟩:=hs b;rw[he];exact h.isD a
 ·obtain⟨a,rfl⟩:=hs b;rw[he];exact h.data a
 ·obtain⟨a,h1,h2⟩:=h.it hx
  exact⟨f a,ho a h1,by rw[he];exact h2⟩
theorem Reads.argStruct{α:Type}{encF:α->List D}{ok:α->Prop}(h:Reads P t (fun a=> .agg (encF a)) ok){fs:Array Field}(ht:P.underlying t=some (.struct fs)){r:Reach}{H:Type}{en:TypeId×Value->H}{w:World}{base b0:Nat}{spare:Nat->Bool}{held:Bool}{v:Value}{d:DataW H}{p:List MemPlace}
  (hv:Value.okWide P w r b0 t v) (hd:DataW.Trod en P w base spare held t v d p):∃a:α,ok a/\R (gw w) (.agg (encF a)) v:=by
 obtain⟨n,hn⟩:=hd
 obtain⟨a,ha,hr⟩:=h.it hn
 obtain⟨cs,rfl,_⟩:=WideShapes.okWide_struct ht hv
 exact⟨a,ha,by simp only[R];exact⟨cs.toList,by simp,by simpa[ql,Value.cells] using hr⟩⟩
end
end Go.Ab
namespace Go.Ab
open Go.ChangeShapes Go.WideShapes Go.ChangeAt Go.RowKit Go.Joins
theorem dr{P:Program}{H:Type}{en:TypeId×Value->H}(hl:laidOutB P=true){W W':World}{sp:Nat->Bool}:∀(ts:List TypeId) (vs:List Value) (ds:List (DataW H)) (ps:List MemPlace),
  (∀t∈ts,P.readableRec t=true/\t<P.types.size)->DataW.TrodAll en P W 0 (fun _=>true) true ts vs ds ps->(∀p∈ps,W.sameAt W' p)->(∀p∈ps,sp p.block=true)->DataW.TrodAll en P W' 0 sp true ts vs ds ps
 | [],[],[],_,_,h,_,_=>h
 |t::ts,v::vs,d::ds,ps,ht,h,h1,h2=>by
  obtain⟨p,q,h3,h4,rfl⟩:=h
  obtain⟨e1,e2⟩:=ht t (List.mem_cons_self ..)
  exact⟨p,q,WideElems.Trod_stays hl e1 e2 h3 (fun x hx=>h1 x (List.mem_append_left _ hx)) (fun x hx=>h2 x (List.mem_append_left _ hx)),
   dr hl ts vs ds q (fun t' ht'=>ht t' (List.mem_cons_of_mem _ ht')) h4 (fun x hx=>h1 x (List.mem_append_right _ hx)) (fun x hx=>h2 x (List.mem_append_right _ hx)),rfl⟩
 | [],_::_,_,_,_,h,_,_=>by simp[DataW.TrodAll]at h
 | [],[],_::_,_,_,h,_,_=>by simp[DataW.TrodAll]at h
 |_::_,[],_,_,_,h,_,_=>by simp[DataW.TrodAll]at h
 |_::_,_::_,[],_,_,h,_,_=>by simp[DataW.TrodAll]at h
theorem qj9{P:Program}{H:Type}{en:TypeId×Value->H}{f:Func}{s:ChangeSpec}{apart fresh handsOn again:Bool}{W W':World}{args:Array Value}{ds gs:List (DataW H)}{before:List MemPlace}{tb:TypeId}
  (hW:DataW.Whole en P f.params.toList s.vars apart W args.toList ds gs before) (hl:laidOutB P=true) (hrec:∀t∈f.params.toList,P.readableRec t=true/\t<P.types.size) (hr:f.resultTypes = #[tb]) (htb:P.underlying tb=some .bool) (hv:s.vars=[])
  (hfn:∀ds',DataW.TrodAll en P W 0 (fun _=>true) true f.params.toList args.toList ds' before->s.fn H ds'={results:=[.lit (.bool true)],args:=ds' }) (hb:RowKit.Below W.heap.size W W') :
  s.post en P f apart fresh handsOn again W args (.bool true) W':=by
 have hW':=hW
 obtain⟨p,q,hA,hV,hpq,hz,hn⟩:=hW
 rw[hv]at hV
 obtain⟨rfl,rfl⟩:=trodVars_none hV
 rw[List.append_nil]at hpq
 subst hpq
 have hlt:∀x∈before,x.block<W.heap.size:=fun x hx=>hW'.lt x hx
 have hargs:∀sp:Nat->Bool,(∀x∈before,sp x.block=true)->DataW.TrodAll en P W' 0 sp true f.params.toList args.toList ds before:=fun sp hs =>
  dr hl _ _ _ _ hrec hA (fun x hx=>hb.same (hlt x hx)) hs
 have hres:∀(b:Nat) (sp:Nat->Bool) (hd:Bool),DataW.TrodAll en P W' b sp hd f.resultTypes.toList ((Value.bool true).resultList f.resultTypes.size) [.lit (.bool true)] []:=fun b sp hd=>by
  rw[hr]
  exact trodAll_mk1 ⟨1,by simp[DataW.trod,htb,Value.cells]⟩
 have hfn':=hfn ds hA
 have hgs:ds++([]:List (DataW H))=ds:=List.append_nil ds
 have hargs':∀sp:Nat->Bool,(∀x∈before,sp x.block=true)->DataW.TrodAll en P W' 0 sp true f.params.toList args.toList (s.fn H (ds++[])).args before:=fun sp hs=>by rw[hgs,hfn'];exact hargs sp hs
 have hres':∀(b:Nat) (sp:Nat->Bool) (hd:Bool),DataW.TrodAll en P W' b sp hd f.resultTypes.toList ((Value.bool true).resultList f.resultTypes.size) (s.fn H (ds++[])).results []:=fun b sp hd=>by rw[hgs,hfn'];exact hres b sp hd
 have hvars':∀sp:Nat->Bool,DataW.TrodVars en P W' sp s.vars (s.fn H (ds++[])).vars []:=fun sp=>by
  rw[hgs,hfn',hv];rfl
 have hold:∀x∈before,(fun b=>decide (b<W.heap.size)) x.block=true:=fun x hx=>by simpa using hlt x hx
 refine⟨ds,[],before,[],before,[],hW',hres' _ _ _,hargs' _ hold,hvars' _,World.keptBut_mono (fun x hx=>⟨hx,.inr (by simpa using hx)⟩) (hb.frame (· ∈before)),fun _=> ?_⟩
 have hok:∀(j:Nat) (t:TypeId) (r:Value),f.resultTypes[j]? = some t->((Value.bool true).resultList f.resultTypes.size)[j]? = some r->Value.okWide P W' .any 0 t r:=by
  intro j t r h1 h2
  rw[hr]at h1 h2
  cases j with
  |zero =>
   simp[Value.resultList]at h1 h2
   subst h1;subst h2
   simp[Value.okWide,htb,Cell.okWide,Cell.ok]
  |succ j=>simp at h1
 refine⟨hok,_,_,([]++before)++[],⟨[]++before,[],trodAll_append (hargs' _ (fun _ _=>rfl)) (hres' _ _ _),hvars' _,rfl,?_,?_⟩,?_⟩
 ·intro b off hp
  have hp':MemPlace.cell b off∈before:=by simpa using hp
  rw[hb.frozen (p:=⟨b,off,none⟩) (hlt _ hp')]
  exact hz b off hp'
 ·intro ha
  simpa using hn ha
 ·intro x hx _
  simpa using hx
end Go.Ab
