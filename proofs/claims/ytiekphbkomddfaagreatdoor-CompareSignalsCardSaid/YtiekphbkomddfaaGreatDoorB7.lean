/- The run that goes on behind calls by what they answer (a script), and stops at chosen places with the slots that count. -/
import Derived.Test.YtiekphbkomddfaaGreatDoorB6
namespace Go.Ab
inductive Ans
 |pure (args:List D) (v:D)
 |eff (v:D) (h:Heap)
 |br (b:Bool) (x y:Ans)
def PureW[Lay](P:Program)(f:Nat)(args args':List D)(v:D):Prop:=Wks args args'/\Pure P f args' v
abbrev PQ[Lay](P:Program)(f:Nat)(a:List D)(v:D):Prop:=PureW P f a a v
def qn6[Lay](P:Program)(f:Nat)(args:List D)(h:Heap)(next:D->Heap->Prop):Ans->Prop
 | .pure args' v=>PureW P f args args' v/\next v h
 | .eff v h'=>Does P f args h v h'/\next v h'
 | .br b x y=>bif b then qn6 P f args h next x else qn6 P f args h next y
def qhd(e:Prop)(k:List D->D->Prop):Option Ans->Prop
 |none=>e
 |some (.pure a v)=>k a v
 |some (.eff _ _)=>e
 |some (.br _ _ _)=>e
def qxn(e:Prop)(k:List D->D->Prop)(kx:D->Ans->Prop):Option Ans->Prop
 |none=>e
 |some (.pure a v)=>k a v
 |some (.eff v h)=>kx v (.eff v h)
 |some (.br b x y)=>kx .junk (.br b x y)
def qri(e:Prop)(k:List D->D->Prop)(kx:D->Heap->Prop):Option Ans->Prop
 |none=>e
 |some (.pure a v)=>k a v
 |some (.eff v h)=>kx v h
 |some (.br _ _ _)=>e
def qmw(e:Prop)(k:Ans->Prop):Option Ans->Prop
 |none=>e
 |some x=>k x
abbrev Scr:=List (List Nat×Nat×Ans)
def eqL:List Nat->List Nat->Bool
 | [],[]=>true
 |a::r,b::s=>Nat.beq a b&&eqL r s
 |_,_=>false
def qf:Scr->List Nat->Nat->Option Ans
 | [],_,_=>none
 |(p,i,x)::r,q,j=>bif eqL p q&&Nat.beq i j then some x else qf r q j
def qlq:List (List Nat×List Nat)->List Nat->Option (List Nat)
 | [],_=>none
 |(p,l)::r,q=>bif eqL p q then some l else qlq r q
def dt:List Nat->qu->qu
 | [],_=>[]
 |t::r,sl=>match qo sl t with
  |some d=>bif xg d then dt r sl else(t,d)::dt r sl
  |none=>dt r sl
def np:List Nat->Bool
 | []=>true
 |t::r=> !(r.any (Nat.beq t))&&np r
def ii(l:List Nat)(st:St):St:=bif np l then{st with sl:=dt l st.sl} else st
def sh[Lay](P:Program)(cfg:Cfg)(sc:Nat->Option Ans)(ops:List Oper)(kc:qoc):Nat->List Oper->St->(St->Prop)->Prop
 |_,[],st,k=>k {st with sl:=xh st.sl}
 |i,o::rest,st,k =>
  let next (st:St):Prop:=sh P cfg sc ops kc (i+1) rest st k
  match o.guard with
  |none=>match o.op with
   | .pick c a b=>match fe st.sl [] ops i c a b with
    |some d=>next {st with sl:=j4 st.sl o.dst d}
    |none=>False
   |op=>match opD P cfg st (evO st.sl []) o.dst op with
    | .val d=>next {st with sl:=j4 st.sl o.dst d}
    | .nd p d=>p/\next {st with sl:=j4 st.sl o.dst d}
    | .asm p d=>p->next {st with sl:=j4 st.sl o.dst d}
    | .new cs=>next {st with sl:=j4 st.sl o.dst (.own cs)}
    | .eff p st' d=>p/\next {st' with sl:=j4 st'.sl o.dst d}
    | .call f args=>qmw (CallA P f args st.h (fun v h'=>kc (i+1) {sl:=j4 st.sl o.dst v,h:=h' })) (qn6 P f args st.h (fun v h'=>next {sl:=j4 st.sl o.dst v,h:=h' })) (sc i)
    | .ycall l args=>CallY P l args st.h (fun v h'=>kc (i+1) {sl:=j4 st.sl o.dst v,h:=h' })
    | .bad=>False
  |some (j,w)=>match gB st.sl ops i 40 (j,w) with
   |none=>False
   |some g=>match o.op with
    | .pick c a b=>match fe st.sl (xb ops i 40 (j,w)) ops i c a b with
     |some d=>next {st with sl:=j4 st.sl o.dst (.may j w d)}
     |none=>False
    |op=>match opD P cfg st (evO st.sl (xb ops i 40 (j,w))) o.dst op with
     | .val d=>bif vk d then next {st with sl:=j4 st.sl o.dst (.may j w d)} else False
     | .nd p d=>bif vk d then(g=true->p)/\next {st with sl:=j4 st.sl o.dst (.may j w d)} else False
     | .asm p d=>bif vk d then(g=true->p)->next {st with sl:=j4 st.sl o.dst (.may j w d)} else False
     | .call f args=>qxn (PCall P g f args st.h (fun v _=>kc (i+1) {st with sl:=j4 st.sl o.dst (.may j w v)}))
       (fun args' v=>bif isD v then(g=true->PureW P f args args' v)/\next {st with sl:=j4 st.sl o.dst (.may j w v)} else False)
       (fun v x=>cond g (qn6 P f args st.h (fun v h'=>next {sl:=j4 st.sl o.dst (.may j w v),h:=h' }) x) (next {st with sl:=j4 st.sl o.dst (.may j w v)})) (sc i)
     | .eff p st' d=>cond g (p/\next {st' with sl:=j4 st'.sl o.dst d}) (next {st with sl:=j4 st.sl o.dst .junk})
     | .new _=>False
     | .ycall l args=>cond g (CallY P l args st.h (fun v h'=>kc (i+1) {sl:=j4 st.sl o.dst (.may j w v),h:=h' })) (next {st with sl:=j4 st.sl o.dst (.may j w (.bool true))})
     | .bad=>False
def exS[Lay](P:Program)(cfg:Cfg)(sc:Nat->Option Ans)(H:Nat)(ms:List Nat)(ops:List Oper):Nat->List Oper->List FP->St->(St->Prop)->Prop
 |_,[],_,st,k=>k {st with sl:=xh st.sl}
 |i,o::rest,fps,st,k =>
  let go (ev:Operand->D) (cl:List (Nat×Bool)) (eff:Bool) (d:D) (st':St):Prop :=
   bif qgp ms i o.dst (un H ops o ev cl eff (q9 d)) 0 fps then exS P cfg sc H ms ops (i+1) rest (fps++[un H ops o ev cl eff (q9 d)]) {st' with sl:=j4 st'.sl o.dst d} k else False
  match o.guard with
  |none=>match o.op with
   | .pick c a b=>match fe st.sl [] ops i c a b with
    |some d=>go (evO st.sl []) [] false d st
    |none=>False
   |op=>match opD P cfg st (evO st.sl []) o.dst op with
    | .val d=>go (evO st.sl []) [] false d st
    | .nd p d=>p/\go (evO st.sl []) [] false d st
    | .asm p d=>p->go (evO st.sl []) [] false d st
    | .new cs=>go (evO st.sl []) [] false (.own cs) st
    | .eff p st' d=>p/\go (evO st.sl []) [] true d st'
    | .call f args=>qri False (fun args' v=>bif isD v then PureW P f args args' v/\go (evO st.sl []) [] false v st else False) (fun v h'=>bif isD v then Does P f args st.h v h'/\go (evO st.sl []) [] true v {st with h:=h' } else False) (sc i)
    | .ycall _ _=>False
    | .bad=>False
  |some (j,w)=>match gB st.sl ops i 40 (j,w) with
   |none=>False
   |some g=>match o.op with
    | .pick c a b=>match fe st.sl (xb ops i 40 (j,w)) ops i c a b with
     |some d=>go (evO st.sl (xb ops i 40 (j,w))) (xb ops i 40 (j,w)) false (.may j w d) st
     |none=>False
    |op=>match opD P cfg st (evO st.sl (xb ops i 40 (j,w))) o.dst op with
     | .val d=>bif vk d then go (evO st.sl (xb ops i 40 (j,w))) (xb ops i 40 (j,w)) false (.may j w d) st else False
     | .nd p d=>bif vk d then(g=true->p)/\go (evO st.sl (xb ops i 40 (j,w))) (xb ops i 40 (j,w)) false (.may j w d) st else False
     | .asm p d=>bif vk d then(g=true->p)->go (evO st.sl (xb ops i 40 (j,w))) (xb ops i 40 (j,w)) false (.may j w d) st else False
     | .call f args=>qhd False (fun args' v=>bif isD v then(g=true->PureW P f args args' v)/\go (evO st.sl (xb ops i 40 (j,w))) (xb ops i 40 (j,w)) false (.may j w v) st else False) (sc i)
     | .eff .. =>False
     | .new _=>False
     | .ycall _ _=>False
     | .bad=>False
def qn[Lay](E:Env)(fin:St->Prop)(sc:List Nat->Nat->Option Ans)(lv:List (List Nat×List Nat)):Nat->List It->St->Prop
 |0,td,st=>At E fin td st
 |_+1,[],st=>fin st
 |n+1,.blk _::td,st=>qn E fin sc lv n td st
 |_+1,.stop J::_,st=>J st
 |n+1,.ops p i::td,st=>bif yw E.nt (km E.root p) then sh E.P E.cfg (sc p) (km E.root p) (fun i st=>At E fin (.ops p i::td) st) i ((km E.root p).drop i) st (qn E fin sc lv n td) else False
 |n+1,.code p::td,st=>match qlq lv p with
  |some l=>At E fin (.code p::td) (ii l st)
  |none=>match sub E.root p with
  |some .skip=>qn E fin sc lv n td st
  |some (.seq _ _)=>qn E fin sc lv n (.code (p++[0])::.code (p++[1])::td) st
  |some (.cond c _ _)=>match evO st.sl [] c with
   | .bool b=>cond b (qn E fin sc lv n (.code (p++[0])::td) st) (qn E fin sc lv n (.code (p++[1])::td) st)
   |_=>False
  |some (.block id _)=>qn E fin sc lv n (.code (p++[0])::.blk id::td) st
  |some (.exit id)=>match qfi id td with
   |some td'=>qn E fin sc lv n td' st
   |none=>False
  |some .ret=>fin st
  |some (.region _ ops false)=>bif yw E.nt ops.toList then sh E.P E.cfg (sc p) ops.toList (fun i st=>At E fin (.ops p i::td) st) 0 ops.toList {st with sl:=xh st.sl} (qn E fin sc lv n td) else False
  |some (.region _ ops true)=>bif yw E.nt ops.toList&&zq 0 ops.toList then exS E.P E.cfg (sc p) E.nt (wb ops.toList []) ops.toList 0 ops.toList [] {st with sl:=xh st.sl} (qn E fin sc lv n td) else False
  |some (.loop _)=>At E fin (.code p::td) st
  |_=>At E fin (.code p::td) st
theorem ln:∀{l:List Nat} {sl:qu} {t:Nat} {d:D},qo (dt l sl) t=some d->(qo sl t=some d/\xg d=false)/\t∈l
 | [],_,_,_,h=>by cases h
 |s::r,sl,t,d,h=>by
  unfold dt at h
  have ih:=fun h=>(ln (l:=r) (sl:=sl) (t:=t) (d:=d) h)
  split at h
  ·rename_i e he
   cases hm:xg e with
   |true=>rw[hm]at h;exact⟨(ih h).1,List.mem_cons_of_mem _ (ih h).2⟩
   |false =>
    rw[hm]at h
    simp only[cond_false,qo]at h
    cases hb:Nat.beq s t with
    |true =>
     rw[hb]at h;simp only[cond_true,Option.some.injEq]at h;subst h
     have:=qq.1 hb;subst this
     exact⟨⟨he,hm⟩,List.mem_cons_self ..⟩
    |false=>rw[hb]at h;exact⟨(ih h).1,List.mem_cons_of_mem _ (ih h).2⟩
  ·exact⟨(ih h).1,List.mem_cons_of_mem _ (ih h).2⟩
theorem lr:∀{l:List Nat} {sl:qu},np l=true->((dt l sl).map (·.1)).Nodup/\∀t∈(dt l sl).map (·.1),t∈l
 | [],_,_=>⟨List.nodup_nil,fun _ h=>h⟩
 |s::r,sl,h=>by
  simp only[np,Bool.and_eq_true,Bool.not_eq_true']at h
  obtain⟨h1,h2⟩:=lr (sl:=sl) h.2
  have h3:s ∉ r:=fun hm=>by
   have:r.any (Nat.beq s)=true:=List.any_eq_true.2 ⟨s,hm,by simp⟩
   rw[h.1]at this;cases this
  unfold dt
  split
  ·rename_i e he
   cases xg e with
   |true=>exact⟨h1,fun t ht=>List.mem_cons_of_mem _ (h2 t ht)⟩
   |false =>
    simp only[cond_false,List.map_cons,List.nodup_cons,List.mem_cons]
    exact⟨⟨fun hm=>h3 (h2 _ hm),h1⟩,fun t ht=>ht.elim .inl fun ht=> .inr (h2 t ht)⟩
  ·exact⟨h1,fun t ht=>List.mem_cons_of_mem _ (h2 t ht)⟩
theorem wm[Lay](n:Nat)(l:List Nat)(st:St):StLe n st (ii l st):=by
 unfold ii
 cases h:np l with
 |false=>exact StLe.refl n st
 |true=>exact fun g β U a w r=>⟨g,β,Rel.sub r (lr h).1 rfl fun t d e=>(ln e).1,Grow.refl U g⟩
theorem CallA.mono[Lay]{P:Program}{f:Nat}{args:List D}{h:Heap}{K K':D->Heap->Prop}(c:CallA P f args h K)(hk:∀d h,K d h->K' d h):CallA P f args h K' :=
 ⟨c.ok,fun g U w vs i hs=>Calls.mono (c.calls g U w vs i hs) fun _ _ ⟨x,g',d,h',h1,h2,h3,h4,h5,h6⟩=>⟨x,g',d,h',h1,h2,h3,h4,h5,hk _ _ h6⟩⟩
theorem qbd[Lay]{P:Program}{f:Nat}{args:List D}{h:Heap}{next K:D->Heap->Prop}(hk:∀d h,next d h->K d h):∀(x:Ans),qn6 P f args h next x->CallA P f args h K:=by
 intro x
 induction x with
 |pure _ _=>exact fun⟨⟨hw,hp⟩,hn⟩=>CallA.of_pure hp hw (hk _ _ hn)
 |eff _ _=>exact fun⟨hd,hn⟩=>hd K (hk _ _ hn)
 |br b x y ihx ihy =>
  cases b with
  |true=>exact ihx
  |false=>exact ihy
section
variable {E:Env} {fin:St->Prop}
theorem cc[Lay]{sc:Nat->Option Ans}{ops:List Oper}{kc:Nat->St->Prop}{k k0:St->Prop}(hk:∀st,k st->k0 st)
  (hkc:∀i st,vj E.P E.cfg (CallA E.P) (CallY E.P) (PCall E.P) ops (fun _=>false) kc i (ops.drop i) st k0->kc i st) :
  ∀(rest:List Oper) (i:Nat) (st:St),ops.drop i=rest->sh E.P E.cfg sc ops kc i rest st k->vj E.P E.cfg (CallA E.P) (CallY E.P) (PCall E.P) ops (fun _=>false) kc i rest st k0
 | [],i,st,_,h=>hk _ h
 |o::rest,i,st,hd,h=>by
  have hrest:ops.drop (i+1)=rest:=by rw[<-List.drop_drop,hd];rfl
  have ih:∀st,sh E.P E.cfg sc ops kc (i+1) rest st k->vj E.P E.cfg (CallA E.P) (CallY E.P) (PCall E.P) ops (fun _=>false) kc (i+1) rest st k0:=fun st h=>cc hk hkc rest (i+1) st hrest h
  have ihc:∀st,sh E.P E.cfg sc ops kc (i+1) rest st k->kc (i+1) st:=fun st h=>hkc _ _ (by rw[hrest];exact ih st h)
  unfold sh at h
  unfold vj
  split at h
  ·rename_i hg
   simp only[hg]
   split at h
   ·rename_i hop
    simp only[hop]
    split at h
    ·rename_i hp
     simp only[hp];exact ih _ h
    ·exact h.elim
   ·rename_i hne
    split
    ·rename_i hop;exact absurd hop (hne _ _ _)
    ·generalize opD E.P E.cfg st (evO st.sl []) o.dst o.op=res at h⊢
     cases res with
     |val d=>exact ih _ h
     |nd p d=>exact⟨h.1,ih _ h.2⟩
     |asm p d=>exact fun hp=>ih _ (h hp)
     |new cs=>exact ih _ h
     |eff p st' d=>exact⟨h.1,ih _ h.2⟩
     |call f args =>
      simp only[cond_false]at h⊢
      generalize sc i=x at h
      cases x with
      |none=>exact h
      |some x=>exact qbd (fun d h' hh=>ihc _ hh) x h
     |ycall l args=>exact h
     |bad=>exact h.elim
  ·rename_i j w hg
   simp only[hg]
   split at h
   ·exact h.elim
   ·rename_i g hgb
    simp only[hgb]
    split at h
    ·rename_i hop
     simp only[hop]
     split at h
     ·rename_i hp
      simp only[hp];exact ih _ h
     ·exact h.elim
    ·rename_i hne
     split
     ·rename_i hop;exact absurd hop (hne _ _ _)
     ·generalize opD E.P E.cfg st (evO st.sl (xb ops i 40 (j,w))) o.dst o.op=res at h⊢
      cases res with
      |val d =>
       cases hd:vk d with
       |false=>simp only[hd,cond_false]at h
       |true=>simp only[hd,cond_true]at h⊢;exact ih _ h
      |nd p d =>
       cases hd:vk d with
       |false=>simp only[hd,cond_false]at h
       |true=>simp only[hd,cond_true]at h⊢;exact⟨h.1,ih _ h.2⟩
      |asm p d =>
       cases hd:vk d with
       |false=>simp only[hd,cond_false]at h
       |true=>simp only[hd,cond_true]at h⊢;exact fun hp=>ih _ (h hp)
      |new cs=>exact h.elim
      |eff p st' d =>
       cases g with
       |true=>exact⟨h.1,ih _ h.2⟩
       |false=>exact ih _ h
      |call f args =>
       simp only at h⊢
       generalize sc i=x at h
       have hx:∀v x,(cond g (qn6 E.P f args st.h (fun v h'=>sh E.P E.cfg sc ops kc (i+1) rest {sl:=j4 st.sl o.dst (.may j w v),h:=h' } k) x) (sh E.P E.cfg sc ops kc (i+1) rest {st with sl:=j4 st.sl o.dst (.may j w v)} k))->
         (cond g (CallA E.P f args st.h (fun v h'=>kc (i+1) {sl:=j4 st.sl o.dst (.may j w v),h:=h' })) (∃d,kc (i+1) {st with sl:=j4 st.sl o.dst (.may j w d)})):=fun v x h=>by
        cases g with
        |true=>exact qbd (fun d h' hh=>ihc _ hh) x h
        |false=>exact⟨v,ihc _ h⟩
       rcases x with _|⟨args',v⟩|⟨v,h'⟩|⟨b,x,y⟩
       ·exact .inl h
       ·simp only[qxn]at h
        cases hd:isD v with
        |false=>simp only[hd,cond_false]at h
        |true =>
         simp only[hd,cond_true]at h
         exact .inl (PCall.of_pure h.1 hd (ihc _ h.2))
       ·exact .inr (hx _ _ h)
       ·exact .inr (hx _ _ h)
      |ycall l args =>
       simp only[cond_false]at h⊢
       cases g with
       |true=>exact h
       |false=>exact⟨_,ihc _ h⟩
      |bad=>exact h.elim
theorem qc0[Lay]{sc:Nat->Option Ans}{ops:List Oper}{k k0:St->Prop}(hk:∀st,k st->k0 st) :
  ∀(rest:List Oper) (m i:Nat) (fps:List FP) (st:St) (kc:Nat->List FP->St->Prop),(∀i fps st,exQ E ops k0 m i fps st->kc i fps st)->ops.drop i=rest->rest.length<=m->exS E.P E.cfg sc E.nt (wb ops []) ops i rest fps st k ->
   exD E.P E.cfg (PCall E.P) (qap E.P) E.nt (wb ops []) ops kc i rest fps st k0
 | [],_,i,_,st,_,_,_,_,h=>hk _ h
 |o::rest,0,_,_,_,_,_,_,hm,_=>by simp at hm
 |o::rest,m+1,i,fps,st,kc,hkc,hd,hm,h=>by
  have hrest:ops.drop (i+1)=rest:=by rw[<-List.drop_drop,hd];rfl
  have hm':rest.length<=m:=by simpa using hm
  have ih:∀fps st,exS E.P E.cfg sc E.nt (wb ops []) ops (i+1) rest fps st k->exD E.P E.cfg (PCall E.P) (qap E.P) E.nt (wb ops []) ops kc (i+1) rest fps st k0 :=
   fun fps st h=>qc0 hk rest (m+1) (i+1) fps st kc hkc hrest (by omega) h
  have ihc:∀fps st,exS E.P E.cfg sc E.nt (wb ops []) ops (i+1) rest fps st k->kc (i+1) fps st :=
   fun fps st h=>hkc _ _ _ (by unfold exQ;rw[hrest];exact qc0 hk rest m (i+1) fps st (exQ E ops k0 m) (fun _ _ _ h=>h) hrest hm' h)
  have go:∀{b:Bool} {fps:List FP} {st:St},(bif b then exS E.P E.cfg sc E.nt (wb ops []) ops (i+1) rest fps st k else False)->
    (bif b then exD E.P E.cfg (PCall E.P) (qap E.P) E.nt (wb ops []) ops kc (i+1) rest fps st k0 else False):=fun{b _ _} h=>by
   cases b with
   |true=>exact ih _ _ h
   |false=>exact h
  have goC:∀{b:Bool} {fps:List FP} {st:St},(bif b then exS E.P E.cfg sc E.nt (wb ops []) ops (i+1) rest fps st k else False)->
    (bif b then kc (i+1) fps st else False):=fun{b _ _} h=>by
   cases b with
   |true=>exact ihc _ _ h
   |false=>exact h
  unfold exS at h
  unfold exD
  split at h
  ·rename_i hg
   simp only[hg]
   split at h
   ·rename_i hop
    simp only[hop]
    split at h
    ·rename_i hp
     simp only[hp];exact go h
    ·exact h.elim
   ·rename_i hne
    split
    ·rename_i hop;exact absurd hop (hne _ _ _)
    ·generalize opD E.P E.cfg st (evO st.sl []) o.dst o.op=res at h⊢
     cases res with
     |val d=>exact go h
     |nd p d=>exact⟨h.1,go h.2⟩
     |asm p d=>exact fun hp=>go (h hp)
     |new cs=>exact go h
     |eff p st' d=>exact⟨h.1,go h.2⟩
     |call f args =>
      simp only at h⊢
      generalize sc i=x at h
      rcases x with _|⟨args',v⟩|⟨v,h'⟩|⟨_,_,_⟩
      ·exact h.elim
      ·simp only[qri]at h
       cases hd:isD v with
       |false=>simp only[hd,cond_false]at h
       |true =>
        simp only[hd,cond_true]at h
        exact .inl (PCall.of_pure (fun _=>h.1) hd (goC h.2))
      ·simp only[qri]at h
       cases hd:isD v with
       |false=>simp only[hd,cond_false]at h
       |true =>
        simp only[hd,cond_true]at h
        exact .inr ⟨v,h',hd,h.1,goC h.2⟩
      ·exact h.elim
     |ycall l args=>exact h.elim
     |bad=>exact h.elim
  ·rename_i j w hg
   simp only[hg]
   split at h
   ·exact h.elim
   ·rename_i g hgb
    simp only[hgb]
    split at h
    ·rename_i hop
     simp only[hop]
     split at h
     ·rename_i hp
      simp only[hp];exact go h
     ·exact h.elim
    ·rename_i hne
     split
     ·rename_i hop;exact absurd hop (hne _ _ _)
     ·generalize opD E.P E.cfg st (evO st.sl (xb ops i 40 (j,w))) o.dst o.op=res at h⊢
      cases res with
      |val d =>
       cases hd:vk d with
       |false=>simp only[hd,cond_false]at h
       |true=>simp only[hd,cond_true]at h⊢;exact go h
      |nd p d =>
       cases hd:vk d with
       |false=>simp only[hd,cond_false]at h
       |true=>simp only[hd,cond_true]at h⊢;exact⟨h.1,go h.2⟩
      |asm p d =>
       cases hd:vk d with
       |false=>simp only[hd,cond_false]at h
       |true=>simp only[hd,cond_true]at h⊢;exact fun hp=>go (h hp)
      |new cs=>exact h.elim
      |eff p st' d=>exact h.elim
      |call f args =>
       simp only at h⊢
       generalize sc i=x at h
       rcases x with _|⟨args',v⟩|⟨_,_⟩|⟨_,_,_⟩
       ·exact h.elim
       ·simp only[qhd]at h
        cases hd:isD v with
        |false=>simp only[hd,cond_false]at h
        |true =>
         simp only[hd,cond_true]at h
         exact PCall.of_pure h.1 hd (goC h.2)
       ·exact h.elim
       ·exact h.elim
      |ycall l args=>exact h.elim
      |bad=>exact h.elim
end
section
variable {E:Env} {fin:St->Prop}
theorem qok[Lay](_hmix:E.P.follows .mixedOrders=true){sc:Nat->Option Ans}{p:List Nat}{td:List It}{k:St->Prop}(hk:∀st,k st->bn E fin td .normal st)(hok:yw E.nt (km E.root p)=true) :
  ∀(i:Nat) (st:St),sh E.P E.cfg sc (km E.root p) (fun i st=>At E fin (.ops p i::td) st) i ((km E.root p).drop i) st k->At E fin (.ops p i::td) st:=by
 have key:∀i st,vj E.P E.cfg (CallA E.P) (CallY E.P) (PCall E.P) (km E.root p) (fun _=>false) (fun i st=>At E fin (.ops p i::td) st) i ((km E.root p).drop i) st (bn E fin td .normal)->At E fin (.ops p i::td) st :=
  fun i st h=>⟨lg (cfg:=E.cfg) (wl hok) (fun _ h=>h) (fun i st h=>h.it) _ i st rfl h⟩
 exact fun i st h=>key i st (cc hk key _ i st rfl h)
theorem qe[Lay](jv:E.P.follows .mixedOrders=true){sc:List Nat->Nat->Option Ans}{lv:List (List Nat×List Nat)}:∀(n:Nat) (td:List It) (st:St),qn E fin sc lv n td st->At E fin td st
 |0,td,st,h=>by unfold qn at h;exact h
 |n+1,[],st,h=>by unfold qn at h;exact⟨h⟩
 |n+1,.blk _::td,st,h=>by unfold qn at h;exact⟨(qe jv n td st h).it⟩
 |n+1,.stop J::td,st,h=>by unfold qn at h;exact⟨h⟩
 |n+1,.ops p i::td,st,h=>by
  unfold qn at h
  cases hok:yw E.nt (km E.root p) with
  |false=>rw[hok]at h;exact h.elim
  |true =>
   rw[hok]at h
   exact qok jv (fun st h=>(qe jv n td st h).it) hok i st h
 |n+1,.code p::td,st,h=>by
  have ih:∀td st,qn E fin sc lv n td st->At E fin td st:=fun td st=>qe jv n td st
  have use:∀{st},run E fin 1 (.code p::td) st->At E fin (.code p::td) st:=fun h=>qoj jv h
  unfold qn at h
  split at h
  ·exact jc h (wm _ _ _)
  ·split at h
   ·rename_i hs
    exact use (by simp only[run,hs];exact ih _ _ h)
   ·rename_i hs
    exact use (by simp only[run,hs];exact ih _ _ h)
   ·rename_i c x z hs
    split at h
    ·rename_i b hb
     refine use ?_
     simp only[run,hs,hb]
     cases b with
     |true=>exact ih _ _ h
     |false=>exact ih _ _ h
    ·exact h.elim
   ·rename_i hs
    exact use (by simp only[run,hs];exact ih _ _ h)
   ·rename_i hs
    split at h
    ·rename_i td' hp
     exact use (by simp only[run,hs,hp];exact ih _ _ h)
    ·exact h.elim
   ·rename_i hs
    exact use (by simp only[run,hs];exact h)
   ·rename_i id ops hs
    cases hok:yw E.nt ops.toList with
    |false=>rw[hok]at h;exact h.elim
    |true =>
     rw[hok]at h
     have hops:km E.root p=ops.toList:=by simp[km,hs]
     refine⟨_,hs,ie hs (fun st h=>(ih td st h).it) hok (cc (k:=qn E fin sc lv n td) (fun _ h=>h) (fun i st h'=> ?_) _ 0 _ rfl h)⟩
     rw[<-hops]at h' hok
     exact⟨lg (cfg:=E.cfg) (wl hok) (fun st h=>(ih td st h).it) (fun i st h=>h.it) _ i st rfl h'⟩
   ·rename_i id ops hs
    cases hok:(yw E.nt ops.toList&&zq 0 ops.toList) with
    |false=>rw[hok]at h;exact h.elim
    |true =>
     rw[hok]at h
     simp only[Bool.and_eq_true]at hok
     have hops:km E.root p=ops.toList:=by simp[km,hs]
     exact⟨_,hs,qd6 (K:=At E fin td) jv hs (fun st h=>h.it) hok.1 hok.2 (qc0 (E:=E) (k:=qn E fin sc lv n td) (k0:=At E fin td) (fun st h=>ih td st h) ops.toList ops.toList.length 0 [] _ (AtQ E fin p td)
      (fun i fps st h=>⟨⟨_,by rw[hops];exact h⟩⟩) rfl (Nat.le_refl _) h)⟩
   ·exact h
   ·exact h
end
attribute [irreducible] qn
theorem y9 [Lay] {P:Program} {f:Nat} {fn:Func} {c:Code} (jv:P.follows .mixedOrders=true) (hf:P.funcs[f]? = some fn) (hb:fn.body=some c) (hname:(fn.name == "runtime.NumGoroutine")=false) {cfg:Cfg} {args:List D} {h:Heap} {K:D->Heap->Prop}
  (hn:Nat.ble args.length fn.ntmps=true) {sc:List Nat->Nat->Option Ans} {lv:List (List Nat×List Nat)} {N:Nat} (hr:qn ⟨P,cfg,c,fn.ntmps⟩ (qj8 P fn.results.toList K) sc lv N [.code []] ⟨qc 0 args,h⟩):CallA P f args h K :=
 pc jv hf hb hname hn (N:=0) (by unfold run;exact qe jv N _ _ hr)
theorem qbe [Lay] {P:Program} {f:Nat} {fn:Func} {c:Code} (jv:P.follows .mixedOrders=true) (hf:P.funcs[f]? = some fn) (hb:fn.body=some c) (hname:(fn.name == "runtime.NumGoroutine")=false) {cfg:Cfg} {args:List D} {v:D} (da:Datas args) (dv:Data v)
  (hn:Nat.ble args.length fn.ntmps=true) {sc:List Nat->Nat->Option Ans} {lv:List (List Nat×List Nat)} {N:Nat} (hr:qn ⟨P,cfg,c,fn.ntmps⟩ (qj8 P fn.results.toList fun d _=>Wk d v) sc lv N [.code []] ⟨qc 0 args,.empty⟩):Pure P f args v :=
 qcz jv hf hb hname da dv hn (N:=0) (by unfold run;exact qe jv N _ _ hr)
theorem PureW.mk[Lay]{P:Program}{f:Nat}{args:List D}{v:D}(p:Pure P f args v):PureW P f args args v:=⟨Wks.refl _,p⟩
def Nx[Lay]{α:Type}(n:Nat)(I:α->Prop)(S:α->St)(μ:α->Nat)(m:Nat)(st:St):Prop:=∃y,I y/\μ y<m/\StLe n st (S y)
theorem Nx.mk[Lay]{α:Type}{n:Nat}{I:α->Prop}{S:α->St}{μ:α->Nat}{m:Nat}(y:α)(h:I y)(hm:μ y<m):Nx n I S μ m (S y):=⟨y,h,hm,StLe.refl _ _⟩
theorem Nx.of[Lay]{α:Type}{n:Nat}{I:α->Prop}{S:α->St}{μ:α->Nat}{m:Nat}{st:St}(y:α)(h:I y)(hm:μ y<m)(l:StLe n st (S y)):Nx n I S μ m st:=⟨y,h,hm,l⟩
section
variable {E:Env} {fin:St->Prop}
theorem qd7[Lay]{α:Type}(I:α->Prop)(S:α->St)(μ:α->Nat)(l:List Nat){p:List Nat}{td:List It}{c:Code}(hs:sub E.root p=some (.loop c))
  (hr:∀x,I x->At E fin (.code (p++[0])::.stop (fun st=>Nx E.nt I S μ (μ x) (ii l st))::td) (S x)) (x:α) (hx:I x):At E fin (.code p::td) (S x) :=
 qmv I S μ hs hx (StLe.refl _ _) fun x hx=>by
  obtain⟨c,hc,hw⟩:=(hr x hx).it
  refine⟨c,hc,hw.mono fun e st h=> ?_⟩
  cases e with
  |normal=>obtain⟨y,h1,h2,h3⟩:=h;exact⟨y,h1,h2,(wm _ l st).trans h3⟩
  |ret=>exact h
  |exit i=>exact h
theorem qka[Lay](jv:E.P.follows .mixedOrders=true){α:Type}(I:α->Prop)(S:α->St)(μ:α->Nat)(l:List Nat){p:List Nat}{td:List It}{c:Code}(hs:sub E.root p=some (.loop c)){N:Nat}{sc:α->List Nat->Nat->Option Ans}{lv:List (List Nat×List Nat)}
  (hr:∀x,I x->qn E fin (sc x) lv N (.code (p++[0])::.stop (fun st=>Nx E.nt I S μ (μ x) (ii l st))::td) (S x)) (x:α) (hx:I x):At E fin (.code p::td) (S x) :=
 qd7 I S μ l hs (fun x hx=>qe jv N _ _ (hr x hx)) x hx
end
def vh(sl:qu)(t:Nat)(d:D):qu:=sl.map fun x=>bif Nat.beq x.1 t then(t,d) else x
theorem xx(sl:qu)(t:Nat)(d:D):(vh sl t d).map (·.1)=sl.map (·.1):=by
 unfold vh
 rw[List.map_map]
 refine List.map_congr_left fun x _=> ?_
 simp only[Function.comp]
 cases hb:Nat.beq x.1 t with
 |true=>simp only[cond_true];exact(qq.1 hb).symm
 |false=>rfl
theorem qr:∀(sl:qu) (t s:Nat) (d e:D),qo (vh sl t d) s=some e->(s=t/\e=d/\qo sl t≠none)\/(s≠t/\qo sl s=some e)
 | [],_,_,_,_,h=>by cases h
 |(k,x)::r,t,s,d,e,h=>by
  have ih:=qr r t s d e
  have hm:vh ((k,x)::r) t d=(bif Nat.beq k t then(t,d) else(k,x))::vh r t d:=rfl
  rw[hm]at h
  cases hb:Nat.beq k t with
  |true =>
   have hkt:=qq.1 hb;subst hkt
   rw[hb]at h
   simp only[cond_true,qo]at h
   cases hs:Nat.beq k s with
   |true =>
    have:=qq.1 hs;subst this
    rw[hs]at h;simp only[cond_true,Option.some.injEq]at h
    exact .inl ⟨rfl,h.symm,by simp[qo]⟩
   |false =>
    rw[hs]at h
    rcases ih h with ⟨h1,h2,h3⟩|⟨h1,h2⟩
    ·exact absurd h1.symm (xn.1 hs)
    ·exact .inr ⟨h1,by simp only[qo,hs,cond_false];exact h2⟩
  |false =>
   rw[hb]at h
   simp only[cond_false,qo]at h
   cases hs:Nat.beq k s with
   |true =>
    have:=qq.1 hs;subst this
    rw[hs]at h;simp only[cond_true,Option.some.injEq]at h;subst h
    exact .inr ⟨fun e=>(xn.1 hb) e,by simp[qo]⟩
   |false =>
    rw[hs]at h
    rcases ih h with ⟨h1,h2,h3⟩|⟨h1,h2⟩
    ·exact .inl ⟨h1,h2,by simp only[qo,hb,cond_false];exact h3⟩
    ·exact .inr ⟨h1,by simp only[qo,hs,cond_false];exact h2⟩
theorem StLe.tok[Lay](n:Nat){sl:qu}{h:Heap}{t m sz:Nat}{f:Nat->D}(sz':Nat)(f':Nat->D)(hl:qo sl t=some (.list m sz f .full))(hw:m=0\/(sz'=sz/\∀i,i<m->f i=f' i)) :
  StLe n ⟨sl,h⟩ ⟨vh sl t (.list m sz' f' (.tok h.nt sz')),{h with hw:=upd h.hw h.nt (some m),nt:=h.nt+1}⟩:=by
 intro g β U a w r
 have h1:=r.slot t _ hl
 simp only[RS,RS0,R]at h1
 obtain⟨e1,ad,cap,e2,e3,e4,e5⟩:=h1
 have e4':cap=m:=e4
 subst e4'
 obtain⟨r1,le⟩:=r.idleTok (t:=h.nt) (k:=⟨ad,cap,cap,sz',0⟩) (by simp) rfl
 refine⟨_,β,⟨r1.defers,r1.size,by rw[xx];exact r1.keys,fun s d hs=> ?_,fun s d u hs hlive hb=> ?_,fun s cs hs=> ?_,fun s s' cs cs' hs hs'=> ?_,r1.inv⟩,⟨le,fun _ _ h=> .inl h⟩⟩
 ·rcases qr _ _ _ _ _ hs with ⟨rfl,rfl,_⟩|⟨_,h2⟩
  ·simp only[RS,RS0,R]
   refine⟨e1,ad,cap,e2,e3,⟨⟨ad,cap,cap,sz',0⟩,by simp only[qb],rfl,Nat.le_refl _,fun _=>⟨rfl,rfl⟩⟩,fun i hi=> ?_⟩
   rcases hw with hw|⟨rfl,hf⟩
   ·omega
   ·rw[<-hf i hi]
    obtain⟨p,u,f1,f2,f3,f4,f5⟩:=e5 i hi
    exact⟨p,u,f1,f2,f3.mono le,f4,f5⟩
  ·exact r1.slot s d h2
 ·rcases qr _ _ _ _ _ hs with ⟨rfl,rfl,_⟩|⟨_,h2⟩
  ·cases hb
  ·obtain⟨cs,hc⟩:=r1.base s d u h2 hlive hb
   refine⟨cs,?_⟩
   have hut:u≠t:=fun e=>by subst e;rw[hl]at hc;cases hc
   have key:∀(sl:qu),qo sl u=some (.own cs)->qo (vh sl t (.list cap sz' f' (.tok h.nt sz'))) u=some (.own cs):=by
    intro sl
    induction sl with
    |nil=>intro h;cases h
    |cons x r ih =>
     obtain⟨k,x⟩:=x
     intro h
     have hm:∀d,vh ((k,x)::r) t d=(bif Nat.beq k t then(t,d) else(k,x))::vh r t d:=fun _=>rfl
     rw[hm]
     simp only[qo]at h
     cases hku:Nat.beq k u with
     |true =>
      have:=qq.1 hku;subst this
      rw[hku]at h
      have:Nat.beq k t=false:=xn.2 hut
      rw[this];simp only[cond_false,qo,hku];exact h
     |false =>
      rw[hku]at h
      cases hkt:Nat.beq k t with
      |true =>
       have:=qq.1 hkt;subst this
       simp only[cond_true,qo,hku];exact ih h
      |false=>simp only[cond_false,qo,hku];exact ih h
   exact key _ hc
 ·rcases qr _ _ _ _ _ hs with ⟨rfl,h2,_⟩|⟨_,h2⟩
  ·cases h2
  ·exact r1.own s cs h2
 ·rcases qr _ _ _ _ _ hs with ⟨rfl,h2,_⟩|⟨_,h2⟩
  ·cases h2
  ·rcases qr _ _ _ _ _ hs' with ⟨rfl,h3,_⟩|⟨_,h3⟩
   ·cases h3
   ·exact r1.ownInj s s' cs cs' h2 h3
theorem q6{α:Type}(f:Nat->α)(k:Nat)(a b:α):upd (upd f k a) k b=upd f k b:=by
 funext i
 unfold upd
 cases Nat.beq i k <;> rfl
def LT{α:Type}[Inhabited α](es:List α)(sz:Nat)(enc:α->D)(t:Nat):D:= .list es.length sz (fun i=>enc (es.getD i default)) (.tok t sz)
def hT(h:Heap)(n:Nat):Heap:={h with hw:=upd h.hw h.nt (some n),nt:=h.nt+1}
theorem qkb{α:Type}[Inhabited α](a b:List α)(i:Nat)(_h:i<a.length+b.length):(a++b).getD i default=if i<a.length then a.getD i default else b.getD (i-a.length) default:=by
 simp only[List.getD_eq_getElem?_getD,List.getElem?_append]
 split <;> rfl
theorem Wk.app {α : Type} [Inhabited α] {a b : List α} {n m sz : Nat} {enc : α -> D} {f : Nat -> D} {own own' : Own} (hn : n = a.length) (hm : m = b.length) (hf : ∀ i, i < b.length -> f i = enc (b.getD i default)) (ho : own' = .none \/ own' = own) :
    Wk (.list (n + m) sz (zo n (fun i => enc (a.getD i default)) f) own) (.list (a ++ b).length sz (fun i => enc ((a ++ b).getD i default)) own') := by
  subst hn; subst hm
  refine Wk.list (by simp) (.inl rfl) (fun i hi => ?_) ho
  rw [qkb a b i hi]
  unfold zo
  cases hb : Nat.blt i a.length with
  | true =>
    have : i < a.length := by simpa [Nat.blt_eq] using hb
    simp only [cond_true, if_pos this]
  | false =>
    have : ¬ i < a.length := fun h => by have : Nat.blt i a.length = true := by simpa [Nat.blt_eq] using h
                                         rw [hb] at this; cases this
    simp only [cond_false, if_neg this]
    exact hf _ (by omega)
theorem Wk.snoc {α : Type} [Inhabited α] {a : List α} {x : α} {sz t : Nat} {enc : α -> D} : Wk (.list (a.length + 1) sz (zo a.length (fun i => enc (a.getD i default)) (zf [enc x])) (.tok t sz)) (LT (a ++ [x]) sz enc t) :=
  Wk.app (b := [x]) rfl rfl (fun i hi => by have : i = 0 := by simpa using hi
                                            subst this; rfl) (.inr rfl)
theorem Wk.apps{α:Type}[Inhabited α]{a b:List α}{sz t:Nat}{enc:α->D}:Wk (.list (a.length+b.length) sz (zo a.length (fun i=>enc (a.getD i default)) (fun i=>enc (b.getD i default))) (.tok t sz)) (LT (a++b) sz enc t) :=
 Wk.app rfl rfl (fun i hi=>rfl) (.inr rfl)
theorem Wk.tokL{α:Type}[Inhabited α]{a:List α}{sz t:Nat}{enc:α->D}:Wk (LT a sz enc t) (L a sz enc):=Wk.list rfl (.inl rfl) (fun _ _=>rfl) (.inl rfl)
theorem Wk.appsL{α:Type}[Inhabited α]{a b:List α}{sz t:Nat}{enc:α->D}:Wk (.list (a.length+b.length) sz (zo a.length (fun i=>enc (a.getD i default)) (fun i=>enc (b.getD i default))) (.tok t sz)) (L (a++b) sz enc):=Wk.apps.trans Wk.tokL
theorem Wk.nilL{α:Type}[Inhabited α]{sz sz':Nat}{enc:α->D}{f:Nat->D}{own:Own}:Wk (.list 0 sz f own) (L ([]:List α) sz' enc):=Wk.list rfl (.inr rfl) (fun _ h=>by cases h) (.inl rfl)
theorem Wk.litL{α:Type}[Inhabited α]{sz:Nat}{enc:α->D}{l:List α}{ds:List D}{n:Nat}{own:Own}(hn:n=l.length)(hd:ds=l.map enc):Wk (.list n sz (zf ds) own) (L l sz enc):=by
 subst hd;subst hn
 refine Wk.list rfl (.inl rfl) (fun i hi=> ?_) (.inl rfl)
 simp[zf,hi]
theorem Wk.strL{sz:Nat}{l:List (List UInt8)}{ds:List D}{n:Nat}{own:Own}(hn:n=l.length)(hd:ds=l.map D.str):Wk (.list n sz (Ab.strL ds) own) (L l sz D.str):=by
 subst hd;subst hn
 refine Wk.list rfl (.inl rfl) (fun i hi=> ?_) (.inl rfl)
 have:(l.map D.str).map qxk=l:=by rw[List.map_map];exact List.map_id'' (fun _=>rfl) l
 simp only[Ab.strL,this]
theorem StLe.heap[Lay]{n:Nat}{sl:qu}{h h':Heap}(e:h=h'):StLe n ⟨sl,h⟩ ⟨sl,h'⟩:=by subst e;exact StLe.refl _ _
theorem StLe.set[Lay]{n:Nat}{sl:qu}{h:Heap}{d d':D}(t:Nat)(hl:qo sl t=some d)(hw:Wk d d')(h0:isD d=true)(h1:isD d'=true):StLe n ⟨sl,h⟩ ⟨vh sl t d',h⟩:=by
 intro g β U a w r
 have hd:R g d (a.tmps.getD t undef):=by
  have h3:=r.slot t _ hl
  cases d <;> first|exact h3|exact Bool.noConfusion (show false=true from h0)
 refine⟨g,β,⟨r.defers,r.size,by rw[xx];exact r.keys,fun s e hs=> ?_,fun s e u hs hlive hb=> ?_,fun s cs hs=> ?_,fun s s' cs cs' hs hs'=> ?_,r.inv⟩,Grow.refl U g⟩
 ·rcases qr _ _ _ _ _ hs with ⟨rfl,rfl,_⟩|⟨_,h2⟩
  ·exact RS.ofRS0 (RS0.ofR (hw _ _ hd)) (jq h1)
  ·exact r.slot s e h2
 ·rcases qr _ _ _ _ _ hs with ⟨rfl,rfl,_⟩|⟨_,h2⟩
  ·cases e <;> first|exact Bool.noConfusion (show false=true from h1)|cases hb
  ·obtain⟨cs,hc⟩:=r.base s e u h2 hlive hb
   refine⟨cs,?_⟩
   have hut:u≠t:=fun e=>by
    subst e;rw[hl]at hc;cases hc;cases h0
   have key:∀(sl:qu),qo sl u=some (.own cs)->qo (vh sl t d') u=some (.own cs):=by
    intro sl
    induction sl with
    |nil=>intro h;cases h
    |cons x r ih =>
     obtain⟨k,x⟩:=x
     intro h
     have hm:vh ((k,x)::r) t d'=(bif Nat.beq k t then(t,d') else(k,x))::vh r t d':=rfl
     rw[hm]
     simp only[qo]at h
     cases hku:Nat.beq k u with
     |true =>
      have:=qq.1 hku;subst this
      rw[hku]at h
      have:Nat.beq k t=false:=xn.2 hut
      rw[this];simp only[cond_false,qo,hku];exact h
     |false =>
      rw[hku]at h
      cases hkt:Nat.beq k t with
      |true =>
       have:=qq.1 hkt;subst this
       simp only[cond_true,qo,hku];exact ih h
      |false=>simp only[cond_false,qo,hku];exact ih h
   exact key _ hc
 ·rcases qr _ _ _ _ _ hs with ⟨rfl,h2,_⟩|⟨_,h2⟩
  ·subst h2;cases h1
  ·exact r.own s cs h2
 ·rcases qr _ _ _ _ _ hs with ⟨rfl,h2,_⟩|⟨_,h2⟩
  ·subst h2;cases h1
  ·rcases qr _ _ _ _ _ hs' with ⟨rfl,h3,_⟩|⟨_,h3⟩
   ·subst h3;cases h1
   ·exact r.ownInj s s' cs cs' h2 h3
theorem StLe.setOwn[Lay]{n:Nat}{sl:qu}{h:Heap}{cs cs':List D}(_hn:(sl.map (·.1)).Nodup)(t:Nat)(hl:qo sl t=some (.own cs))(hw:Wks cs cs'):StLe n ⟨sl,h⟩ ⟨vh sl t (.own cs'),h⟩:=by
 intro g β U a w r
 have lk:∀{s cs0},qo sl s=some (.own cs0)->∃c,qo (vh sl t (.own cs')) s=some (.own c):=by
  intro s cs0 hs
  have key:∀(sl:qu),qo sl s=some (.own cs0)->∃c,qo (vh sl t (.own cs')) s=some (.own c):=by
   intro sl
   induction sl with
   |nil=>intro h;cases h
   |cons x r ih =>
    obtain⟨k,x⟩:=x
    intro h
    have hm:vh ((k,x)::r) t (.own cs')=(bif Nat.beq k t then(t,.own cs') else(k,x))::vh r t (.own cs'):=rfl
    rw[hm]
    simp only[qo]at h
    cases hks:Nat.beq k s with
    |true =>
     have:=qq.1 hks;subst this
     rw[hks]at h
     simp only[cond_true,Option.some.injEq]at h;subst h
     cases hkt:Nat.beq k t with
     |true =>
      have:=qq.1 hkt;subst this
      exact⟨cs',by simp[qo]⟩
     |false=>exact⟨cs0,by simp[qo]⟩
    |false =>
     rw[hks]at h
     obtain⟨c,hc⟩:=ih h
     refine⟨c,?_⟩
     cases hkt:Nat.beq k t with
     |true =>
      have:=qq.1 hkt;subst this
      simp only[cond_true,qo,hks];exact hc
     |false=>simp only[cond_false,qo,hks];exact hc
  exact key sl hs
 refine⟨g,β,⟨r.defers,r.size,by rw[xx];exact r.keys,fun s e hs=> ?_,fun s e u hs hlive hb=> ?_,fun s c hs=> ?_,fun s s' c c' hs hs'=> ?_,r.inv⟩,Grow.refl U g⟩
 ·rcases qr _ _ _ _ _ hs with ⟨rfl,rfl,_⟩|⟨_,h2⟩
  ·have h3:=r.slot s (.own cs) hl
   exact h3
  ·exact r.slot s e h2
 ·rcases qr _ _ _ _ _ hs with ⟨rfl,rfl,_⟩|⟨_,h2⟩
  ·cases hb
  ·obtain⟨c,hc⟩:=r.base s e u h2 hlive hb
   exact lk hc
 ·rcases qr _ _ _ _ _ hs with ⟨rfl,h2,_⟩|⟨_,h2⟩
  ·cases h2
   obtain⟨e1,e2,e3,e4,e5⟩:=r.own s _ hl
   exact⟨e1.le (.lit hw),e2,e3,e4,e5⟩
  ·exact r.own s c h2
 ·have f:∀{s c},qo (vh sl t (.own cs')) s=some (.own c)->∃c0,qo sl s=some (.own c0):=fun{s c} h=>by
   rcases qr _ _ _ _ _ h with ⟨rfl,h2,_⟩|⟨_,h2⟩
   ·exact⟨_,hl⟩
   ·exact⟨_,h2⟩
  obtain⟨c0,h2⟩:=f hs
  obtain⟨c1,h3⟩:=f hs'
  exact r.ownInj s s' _ _ h2 h3
theorem StLe.tokL[Lay](n:Nat){α:Type}[Inhabited α]{l:List α}{enc:α->D}{sl:qu}{h:Heap}{t m sz sz':Nat}{f:Nat->D}(hl:qo sl t=some (.list m sz f .full))(hm:m=l.length)(hf:m=0\/(sz'=sz/\∀i,i<m->f i=enc (l.getD i default))) :
  StLe n ⟨sl,h⟩ ⟨vh sl t (LT l sz' enc h.nt),hT h l.length⟩:=by
 subst hm;exact StLe.tok n sz' _ hl hf
theorem StLe.tok0[Lay](n:Nat){α:Type}[Inhabited α]{enc:α->D}{sl:qu}{h:Heap}{sz:Nat}{f:Nat->D}(t sz':Nat)(hl:qo sl t=some (.list 0 sz f .full)):StLe n ⟨sl,h⟩ ⟨vh sl t (LT ([]:List α) sz' enc h.nt),hT h 0⟩:=StLe.tokL n hl rfl (.inl rfl)
theorem StLe.tok1[Lay](n:Nat){α:Type}[Inhabited α]{x:α}{enc:α->D}{sl:qu}{h:Heap}{sz:Nat}(t:Nat)(hl:qo sl t=some (.list 1 sz (zf [enc x]) .full)):StLe n ⟨sl,h⟩ ⟨vh sl t (LT [x] sz enc h.nt),hT h 1⟩ :=
 StLe.tokL n (l:=[x]) hl rfl (.inr ⟨rfl,fun i hi=>by rw[show i=0 by omega];rfl⟩)
def RetLe[Lay](d:D)(h:Heap)(v:D)(h':Heap):Prop:=∀(g:G) (U:Nat->Prop) (w:World) (x:Value),R g d x->Inv g U h w->∃g',R g' v x/\Inv g' U h' w/\Grow U g g'
theorem RetLe.refl[Lay](d:D)(h:Heap):RetLe d h d h:=fun g U _ _ hr i=>⟨g,hr,i,Grow.refl U g⟩
theorem RetLe.of[Lay]{d v:D}{h h':Heap}(hw:Wk d v)(hh:HeapLe h h'):RetLe d h v h':=fun g U _ _ hr i=>⟨g,hw _ _ hr,i.le hh,Grow.refl U g⟩
theorem RetLe.wk[Lay]{d v:D}{h h':Heap}(hw:Wk d v)(hh:h=h'):RetLe d h v h':=by subst hh;exact RetLe.of hw (HeapLe.refl _)
theorem Does.of_call[Lay]{P:Program}{f:Nat}{args:List D}{h h':Heap}{v:D}(c:CallA P f args h fun d h''=>RetLe d h'' v h'):Does P f args h v h':=fun K hk =>
 ⟨c.ok,fun g U w vs i hs=>Calls.mono (c.calls g U w vs i hs) fun _ _ ⟨x,g',d,h1,e1,e2,e3,e4,e5,e6⟩=>by
  obtain⟨g2,f1,f2,f3⟩:=e6 g' U _ x e2 e3
  exact⟨x,g2,v,h',e1,f1,f2,e4.trans f3,e5,hk⟩⟩
theorem Does.of_pure[Lay]{P:Program}{f:Nat}{args:List D}{h:Heap}{v:D}(p:Pure P f args v):Does P f args h v h:=fun _ hk=>CallA.of_pure p (Wks.refl _) hk
def fv(g:G)(b m:Nat)(vals:Array Value):G:={g with σ:=fun x=>if x.block=b/\x.spot=none/\x.off<m then vals[x.off]? else g.σ x}
def qmx(h:Heap)(l:Nat):Heap:={h with box:=upd h.box l none}
def ElemsOf(cg:Nat->D)(off n sz:Nat)(get:Nat->D):Prop:=∀k,k<n->isD (get k)=true/\ones (get k)=true/\(ql (get k)).length=sz/\∀j,j<sz->(ql (get k))[j]? = some (cg (off+k*sz+j))
theorem Inv.lay[Lay]{g:G}{U:Nat->Prop}{h:Heap}{w:World}{l m:Nat}{cg:Nat->D}(i:Inv g U h w)(hb:h.box l=some (.arr m cg)) :
  ∃g',Inv g' U (qmx h l) w/\Grow U g g'/\∀(v:Value) (off n sz:Nat) (get:Nat->D),R g (.sl l off n) v->off+n*sz<=m->ElemsOf cg off n sz get->R g' (.list n sz get .none) v:=by
 obtain⟨b,hmu,⟨T,vals,hvals,hm,hel⟩,hU,hσ⟩:=i.box l _ hb
 have le:G.le g (fv g b m vals):=⟨fun x v e=>by
  simp only[fv];rw[if_neg (fun hh=>hσ x v e hh.1)];exact e,fun _ _ e=>e,fun _ k e=>⟨k,e,rfl,Nat.le_refl _,fun _=>rfl⟩⟩
 have σold:∀{x:Addr} {v:Value},(fv g b m vals).σ x=some v->(x.block=b/\x.spot=none/\vals[x.off]? = some v)\/g.σ x=some v:=by
  intro x v e
  simp only[fv]at e
  split at e
  ·rename_i hc;exact .inl ⟨hc.1,hc.2.1,e⟩
  ·exact .inr e
 have bx:∀{l':Nat},(qmx h l).box l'≠none->h.box l'≠none/\l'≠l:=fun{l'} hh=>by
  by_cases hx:l'=l
  ·subst hx;exact absurd (qb _ _ _) hh
  ·exact⟨by simpa only[qmx,qd _ _ hx] using hh,hx⟩
 refine⟨fv g b m vals,⟨fun x v e=> ?_,i.ub,i.muLt,fun l' row e=> ?_,fun l1 l2 b' e e'=>i.boxInj l1 l2 b' (bx e).1 (bx e').1,fun t q e=> ?_,fun t q k b' l' e e1 e2 e3 e4=>i.tokBox t q k b' l' e e1 e2 e3 (bx e4).1,i.tokInj,i.frL,i.frT,i.frV,i.ltab.mono le⟩,⟨le,fun x v e=> ?_⟩,fun v off n sz get hr hle he=> ?_⟩
 ·rcases σold e with ⟨h1,h2,h3⟩|h1
  ·exact⟨by simp only[World.cell?,h1,hvals,h2];simpa using h3,h2⟩
  ·exact i.sub x v h1
 ·by_cases hx:l'=l
  ·subst hx
   have e':upd h.box l' none l'=some row:=e
   rw[qb]at e';cases e'
  ·have e':h.box l'=some row:=by simpa only[qmx,qd _ _ hx] using e
   obtain⟨b',f1,f2,f4,f5⟩:=i.box l' row e'
   refine⟨b',f1,f2.mono le rfl,f4,fun x v hh=> ?_⟩
   ·rcases σold hh with ⟨h1,_⟩|h1
    ·intro h2
     exact hx (i.boxInj l' l b' (by rw[e'];simp) (by rw[hb];simp) f1 (by rw[hmu,<-h1,h2]))
    ·exact f5 x v h1
 ·obtain⟨k,f1,f2,f3⟩:=i.tok t q e
  refine⟨k,f1,f2,fun hk=> ?_⟩
  refine(f3 hk).mono le fun bt c1 _=>⟨rfl,fun j hj=> ?_⟩
  have hne:bt≠b:=fun hh=>by subst hh;exact i.tokBox t q k _ l e f1 hk c1 (by rw[hb];simp) hmu
  simp only[fv]
  rw[if_neg (fun hh=>hne hh.1)]
  exact hj
 ·rcases σold e with ⟨h1,_⟩|h1
  ·exact .inr (by rw[h1];exact hU)
  ·exact .inl h1
 ·simp only[R]at hr
  obtain⟨b',hb',ba,cap,rfl,hcap,hlen,hba⟩:=hr
  rw[hmu]at hb';cases hb'
  simp only[R]
  refine⟨hlen,ba,cap,rfl,hcap,trivial,fun k hk=> ?_⟩
  obtain⟨d1,d2,d3,d4⟩:=he k hk
  have hlt:∀j,j<sz->off+k*sz+j<m:=fun j hj=>by
   have:(k+1)*sz<=n*sz:=Nat.mul_le_mul_right _ hk
   rw[Nat.add_mul]at this;omega
  have hcs:∃cs:List Value,cs.length=sz/\∀j,j<sz->cs[j]? = vals[off+k*sz+j]? :=by
   refine⟨(List.range sz).map fun j=>vals.getD (off+k*sz+j) undef,by simp,fun j hj=> ?_⟩
   have h1:=hlt j hj
   have h2:off+k*sz+j<vals.size:=by omega
   simp[hj,Array.getElem?_eq_getElem h2,Array.getD,h2]
  obtain⟨cs,hcl,hcg⟩:=hcs
  have hrs:Rs g (ql (get k)) cs:=Rs.of_get (by omega) fun j d v hd hv=>by
   have hj:j<sz:=by
    rcases Nat.lt_or_ge j sz with h1|h1
    ·exact h1
    ·rw[List.getElem?_eq_none (by omega)]at hd;cases hd
   rw[d4 j hj]at hd;cases hd
   obtain⟨v',h1,h2⟩:=hel _ (hlt j hj)
   rw[hcg j hj,h1]at hv;cases hv
   exact h2
  obtain⟨u,hu1,hu2⟩:=Rs.value d1 hrs
  have husz:u.cells.size=sz:=by have:=congrArg List.length hu2;simpa[hcl] using this
  refine⟨⟨b,off,none⟩,u,hba (by omega),rfl,R.mono le _ _ hu1,⟨husz,d2⟩,fun j hj=> ?_⟩
  simp only[fv]
  rw[if_pos ⟨trivial,trivial,hlt j hj⟩,<-hcg j hj,<-hu2]
  simp
theorem RetLe.lay[Lay]{h:Heap}{l n m sz:Nat}{cg get:Nat->D}(hb:h.box l=some (.arr m cg))(hm:n*sz<=m)(he:ElemsOf cg 0 n sz get):RetLe (.sl l 0 n) h (.list n sz get .none) (qmx h l):=fun g U w x hr i=>by
 obtain⟨g',h1,h2,h3⟩:=i.lay hb
 exact⟨g',h3 x 0 n sz get hr (by omega) he,h1,h2⟩
theorem RetLe.trans[Lay]{d v x:D}{h h' h'':Heap}(a:RetLe d h v h')(b:RetLe v h' x h''):RetLe d h x h'':=fun g U w y hr i=>by
 obtain⟨g1,r1,i1,e1⟩:=a g U w y hr i
 obtain⟨g2,r2,i2,e2⟩:=b g1 U w y r1 i1
 exact⟨g2,r2,i2,e1.trans e2⟩
theorem ElemsOf.one{cg get:Nat->D}{off n:Nat}(h:∀k,k<n->isD (get k)=true/\ql (get k)=[get k]/\qce (get k)=true/\cg (off+k)=get k):ElemsOf cg off n 1 get:=fun k hk=>by
 obtain⟨h1,h2,h3,h4⟩:=h k hk
 refine⟨h1,by simp[ones,h2,h3],by rw[h2];rfl,fun j hj=> ?_⟩
 have:j=0:=by omega
 subst this
 rw[h2]
 simp[h4]
theorem ElemsOf.cells{get:Nat->D}{n sz:Nat}(h:∀k,k<n->isD (get k)=true/\ones (get k)=true/\(ql (get k)).length=sz):ElemsOf (cw sz get) 0 n sz get:=fun k hk=>by
 obtain⟨h1,h2,h3⟩:=h k hk
 refine⟨h1,h2,h3,fun j hj=> ?_⟩
 have e1:(0+k*sz+j) / sz=k:=by
  rw[Nat.zero_add,Nat.mul_comm,Nat.mul_add_div (by omega),Nat.div_eq_of_lt hj];rfl
 have e2:(0+k*sz+j) % sz=j:=by
  rw[Nat.zero_add,Nat.mul_comm,Nat.mul_add_mod,Nat.mod_eq_of_lt hj]
 rw[mz get (by rw[e1];exact h3),e1,e2]
 rw[List.getElem?_eq_getElem (by omega)]
 simp[List.getD,List.getElem?_eq_getElem (show j<(ql (get k)).length by omega)]
theorem qbf [Lay] {P:Program} {f:Nat} {fn:Func} {c:Code} (jv:P.follows .mixedOrders=true) (hf:P.funcs[f]? = some fn) (hb:fn.body=some c) (hname:(fn.name == "runtime.NumGoroutine")=false) {cfg:Cfg} {args:List D} {v:D} (da:Datas args) (dv:Data v)
  (hn:Nat.ble args.length fn.ntmps=true) {sc:List Nat->Nat->Option Ans} {lv:List (List Nat×List Nat)} {N:Nat} (hr:qn ⟨P,cfg,c,fn.ntmps⟩ (qj8 P fn.results.toList fun d h=>∃h',RetLe d h v h') sc lv N [.code []] ⟨qc 0 args,.empty⟩):Pure P f args v:=by
 have hc:=y9 jv hf hb hname hn hr
 refine⟨hc.ok,da,dv,fun g w vs la sub hs=> ?_⟩
 let g0:G:=⟨g.σ,fun _=>none,fun _=>none⟩
 have i:Inv g0 (fun b=>b<w.heap.size) .empty w:=⟨sub,fun _ h=>h,fun _ _ h=>(by cases h),fun _ _ h=>(by cases h),fun l _ _ h=>absurd rfl h,fun _ _ h=>(by cases h),fun _ _ _ _ _ h=>(by cases h),fun _ _ _ _ _ _ _ h=>(by cases h),fun _ _=>rfl,fun _ _=>rfl,fun _ _=>rfl,la⟩
 refine Calls.mono (hc.calls g0 (fun b=>b<w.heap.size) w vs i (Rs.data (g:=g) (g':=g0) (fun _ _ h=>h) args vs da hs)) fun e w' ⟨x,g1,d,h1,e1,e2,e3,e4,e5,h2,e6⟩=> ?_
 obtain⟨g',f1,f2,f3⟩:=e6 g1 _ w' x e2 e3
 have e7:=e4.trans f3
 refine⟨x,g'.σ,e1,R.data (g:=g') (g':=⟨g'.σ,g.μ,g.τ⟩) (fun _ _ h=>h) v x dv f1,e7.le.σ,f2.sub,fun a y h=> ?_,⟨e5.os,e5.tape,e5.output,e5.size,fun b hb=>e5.block b hb⟩⟩
 rcases e7.new a y h with h|h
 ·exact .inl h
 ·exact .inr (Nat.le_of_not_lt h)
theorem Does.of_calls[Lay]{P:Program}{f:Nat}{args:List D}{h h':Heap}{v:D}(ok:yx P f)
  (hc:∀(g:G) (U:Nat->Prop) (w:World) (vs:List Value),Inv g U h w->Rs g args vs->Calls P f vs.toArray w fun e w'=>∃(x:Value) (g':G),e = .returned x/\R g' v x/\Inv g' U h' w'/\Grow U g g'/\Kept U w w'):Does P f args h v h':=fun _K hk =>
 ⟨ok,fun g U w vs i hs=>Calls.mono (hc g U w vs i hs) fun _ _ ⟨x,g',e1,e2,e3,e4,e5⟩=>⟨x,g',v,h',e1,e2,e3,e4,e5,hk⟩⟩
theorem StLe.heapLe[Lay]{n:Nat}{sl:qu}{h h':Heap}(hh:HeapLe h h'):StLe n ⟨sl,h⟩ ⟨sl,h'⟩:=fun g β U a w r=>by
 have hbx:∀l,h'.box l≠none->h.box l≠none:=fun l hl hx=>by
  cases hb:h'.box l with
  |none=>exact hl hb
  |some row'=>obtain⟨row,hr,_⟩:=hh.box l row' hb;rw[hx]at hr;cases hr
 refine⟨g,β,⟨r.defers,r.size,r.keys,r.slot,r.base,fun t cs e=> ?_,r.ownInj,r.inv.le hh⟩,Grow.refl U g⟩
 obtain⟨e1,e2,e3,e4,e5⟩:=r.own t cs e
 exact⟨e1,e2,e3,fun l hl=>e4 l (hbx l hl),fun t' m k e f1 f2=>e5 t' m k (hh.hw _ _ e) f1 ((hh.vw _ _ e).act f2)⟩
theorem HeapLe.row{f:Nat->Option Row}{nl nt l:Nat}{hw:Nat->Option Nat}{vw:Nat->Option (Nat->D)}{a b:Row}(h:RowLe a b):HeapLe ⟨upd f l (some a),nl,hw,nt,vw⟩ ⟨upd f l (some b),nl,hw,nt,vw⟩:=by
 refine⟨fun q row' e=> ?_,Nat.le_refl _,fun _ _ h=>h,Nat.le_refl _,fun _ _ _=>VwLe.refl _ _,fun _ h=>h⟩
 by_cases hq:q=l
 ·subst hq
  have e':upd f q (some b) q=some row':=e
  rw[qb]at e';cases e'
  exact⟨a,qb _ _ _,h⟩
 ·have e':upd f l (some b) q=some row':=e
  rw[qd _ _ hq]at e'
  exact⟨row',by show upd f l (some a) q=_;rw[qd _ _ hq];exact e',RowLe.refl row'⟩
theorem RowLe.fn{n:Nat}{f f':Nat->D}(h:∀i,i<n->f i=f' i):RowLe (.arr n f) (.arr n f'):= .arr fun i hi=>Wk.of_eq (h i hi)
theorem Inv.row[Lay]{g:G}{U:Nat->Prop}{f:Nat->Option Row}{l nl nt:Nat}{hw:Nat->Option Nat}{vw:Nat->Option (Nat->D)}{w w':World}{row row':Row}{b T:Nat}{vals':Array Value}(i:Inv g U ⟨upd f l (some row),nl,hw,nt,vw⟩ w)(hmu:g.μ l=some b)
  (hb':w'.heap[b]? = some (.cells vals' T (0,0))) (hr:RowOf g T vals' row') (hs:w.heap.size<=w'.heap.size) (ho:∀k,k≠b->k<w.heap.size->w'.heap[k]? = w.heap[k]?):Inv g U ⟨upd f l (some row'),nl,hw,nt,vw⟩ w':=by
 have hbl:(upd f l (some row)) l=some row:=qb _ _ _
 obtain⟨b0,e1,e2,e3,e4⟩:=i.box l row hbl
 rw[hmu]at e1;cases e1
 have bx:∀l',upd f l (some row') l'≠none->upd f l (some row) l'≠none:=fun l' h=>by
  by_cases hx:l'=l
  ·subst hx;rw[qb];simp
  ·rw[qd _ _ hx]at h⊢;exact h
 have cellEq:∀{a:Addr},a.block≠b->a.block<w.heap.size->w'.cell? a=w.cell? a:=fun h1 h2=>by simp only[World.cell?,ho _ h1 h2]
 refine⟨fun a v e=> ?_,fun k hk=>Nat.lt_of_lt_of_le (i.ub k hk) hs,fun l' k e=>Nat.lt_of_lt_of_le (i.muLt l' k e) hs,fun l' r e=> ?_,fun l1 l2 k e e'=>i.boxInj l1 l2 k (bx _ e) (bx _ e'),fun t n e=> ?_,fun t n k bb l' e f1 f2 f3 f4=>i.tokBox t n k bb l' e f1 f2 f3 (bx _ f4),i.tokInj,i.frL,i.frT,i.frV,i.ltab.turn (G.le.refl g) fun a v e=>ho _ (e4 a v e) (i.cellLt e)⟩
 ·obtain⟨h1,h2⟩:=i.sub a v e
  exact⟨(cellEq (e4 a v e) (i.cellLt e)).trans h1,h2⟩
 ·by_cases hx:l'=l
  ·subst hx
   have e':upd f l' (some row') l'=some r:=e
   rw[qb]at e';cases e'
   exact⟨b,hmu,RowAt.of hb' hr,e3,e4⟩
  ·have e':upd f l (some row') l'=some r:=e
   rw[qd _ _ hx]at e'
   have e0:upd f l (some row) l'=some r:=by rw[qd _ _ hx];exact e'
   obtain⟨b1,f1,f2,f4,f5⟩:=i.box l' r e0
   have hne:b1≠b:=fun h=>by subst h;exact hx (i.boxInj l' l _ (by show upd f l (some row) l'≠none;rw[e0];simp) (by show upd f l (some row) l≠none;rw[hbl];simp) f1 hmu)
   exact⟨b1,f1,f2.mono (G.le.refl g) (ho _ hne (i.muLt l' b1 f1)),f4,f5⟩
 ·obtain⟨k,f1,f2,f3⟩:=i.tok t n e
  refine⟨k,f1,f2,fun hk=> ?_⟩
  refine(f3 hk).mono (G.le.refl g) fun bt c1 hlt=>⟨ho _ (fun h=> ?_) hlt,fun _ h=>h⟩
  subst h;exact i.tokBox t n k _ l e f1 hk c1 (by show upd f l (some row) l≠none;rw[hbl];simp) hmu
theorem StLe.tokBox[Lay](n:Nat){α:Type}[Inhabited α]{es:List α}{enc:α->D}{sl:qu}{f:Nat->Option Row}{l nl nt m sz sz':Nat}{hw:Nat->Option Nat}{vw:Nat->Option (Nat->D)}{get:Nat->D}(hm:m=es.length)(hf:m=0\/(sz'=sz/\∀i,i<m->get i=enc (es.getD i default))) :
  StLe n ⟨sl,⟨upd f l (some (.lit [.list m sz get .full])),nl,hw,nt,vw⟩⟩ ⟨sl,⟨upd f l (some (.lit [LT es sz' enc nt])),nl,upd hw nt (some es.length),nt+1,vw⟩⟩:=by
 subst hm
 intro g β U a w r
 obtain⟨b,e1,⟨T,vals,e2,e3⟩,e4,e5⟩:=r.inv.box l _ (qb _ _ _)
 simp only[Rs]at e3
 obtain⟨v,_,hv,hr,rfl⟩:=e3
 simp only[R]at hr
 obtain⟨h1,ad,cap,rfl,h3,h4,h5⟩:=hr
 have h4':cap=es.length:=h4
 subst h4'
 obtain⟨r1,le⟩:=r.idleTok (t:=nt) (k:=⟨ad,es.length,es.length,sz',0⟩) (by simp) rfl
 have i1:Inv _ U ⟨upd f l (some (.lit [.list es.length sz get .full])),nl,upd hw nt (some es.length),nt+1,vw⟩ w:=r1.inv
 have i2:=i1.row (row':= .lit [LT es sz' enc nt]) (vals':=vals) (T:=T) (b:=b) e1 e2 (by
  show Rs _ _ vals.toList
  rw[hv]
  simp only[Rs,LT,R]
  refine⟨_,[],rfl,⟨h1,ad,es.length,rfl,Nat.le_refl _,⟨⟨ad,es.length,es.length,sz',0⟩,by simp only[qb],rfl,Nat.le_refl _,fun _=>⟨rfl,rfl⟩⟩,fun i hi=> ?_⟩,rfl⟩
  rcases hf with hf|⟨rfl,hf⟩
  ·omega
  ·rw[<-hf i hi]
   obtain⟨p,u,f1,f2,f3,f4,f5⟩:=h5 i hi
   exact⟨p,u,f1,f2,f3.mono le,f4,f5⟩) (Nat.le_refl _) (fun _ _ _=>rfl)
 refine⟨_,β,⟨r1.defers,r1.size,r1.keys,r1.slot,r1.base,fun t cs e=> ?_,r1.ownInj,i2⟩,⟨le,fun _ _ h=> .inl h⟩⟩
 obtain⟨c1,c2,c3,c4,c5⟩:=r1.own t cs e
 refine⟨c1,c2,c3,fun l' hl'=>c4 l' ?_,c5⟩
 by_cases hx:l'=l
 ·subst hx
  show upd f l' _ l'≠none
  rw[qb];simp
 ·have h':upd f l (some (.lit [LT es sz' enc nt])) l'≠none:=hl'
  show upd f l _ l'≠none
  rw[qd _ _ hx]at h'⊢
  exact h'
mutual
def lu(t:Nat)(f:Nat->D):D->D
 | .vec t' m sz=>bif Nat.beq t' t then .list m sz f (.tok t sz) else .vec t' m sz
 | .agg cs=> .agg (n8 t f cs)
 | .tup cs=> .tup (n8 t f cs)
 | .clo g cs=> .clo g (n8 t f cs)
 | .mv g cs=> .mv g (n8 t f cs)
 | .iface k d=> .iface k (lu t f d)
 |d=>d
def n8(t:Nat)(f:Nat->D):List D->List D
 | []=>[]
 |d::r=>lu t f d::n8 t f r
end
mutual
def ua(t n:Nat):D->Prop
 | .vec t' m _=>bif Nat.beq t' t then m=n else True
 | .agg cs=>pd t n cs
 | .tup cs=>pd t n cs
 | .clo _ cs=>pd t n cs
 | .mv _ cs=>pd t n cs
 | .iface _ d=>ua t n d
 |_=>True
def pd(t n:Nat):List D->Prop
 | []=>True
 |d::r=>ua t n d/\pd t n r
end
mutual
theorem R.frz{g g':G}{t n:Nat}{f:Nat->D}(l:G.le g g')(h:∀v sz,R g (.vec t n sz) v->R g' (.list n sz f (.tok t sz)) v):∀(d:D) (v:Value),ua t n d->R g d v->R g' (lu t f d) v
 | .vec t' m sz,v,ho,hr=>by
  simp only[ua]at ho
  simp only[lu]
  cases hb:Nat.beq t' t with
  |true =>
   rw[hb]at ho
   have:=qq.1 hb;subst this
   have ho:m=n:=ho
   subst ho
   exact h v sz hr
  |false=>exact R.mono l _ _ hr
 | .agg cs,v,ho,hr=>by
  simp only[ua]at ho
  simp only[lu,R]at hr⊢
  obtain⟨vs,e,hs⟩:=hr
  exact⟨vs,e,Rs.frz l h cs vs ho hs⟩
 | .tup cs,v,ho,hr=>by
  simp only[ua]at ho
  simp only[lu,R]at hr⊢
  obtain⟨vs,e,hs⟩:=hr
  exact⟨vs,e,Rs.frz l h cs vs ho hs⟩
 | .clo q cs,v,ho,hr=>by
  simp only[ua]at ho
  simp only[lu,R]at hr⊢
  obtain⟨vs,e,hs⟩:=hr
  exact⟨vs,e,Rs.frz l h cs vs ho hs⟩
 | .mv q cs,v,ho,hr=>by
  simp only[ua]at ho
  simp only[lu,R]at hr⊢
  obtain⟨vs,e,hs⟩:=hr
  exact⟨vs,e,Rs.frz l h cs vs ho hs⟩
 | .iface q d,v,ho,hr=>by
  simp only[ua]at ho
  simp only[lu,R]at hr⊢
  obtain⟨u,e,hs⟩:=hr
  exact⟨u,e,R.frz l h d u ho hs⟩
 | .bool _,_,_,hr | .int _ _,_,_,hr | .str _,_,_,hr | .nilp,_,_,hr | .nilf,_,_,hr | .nili,_,_,hr | .nilm,_,_,hr | .fnp _ _,_,_,hr=>by simpa[R,lu] using hr
 | .own _,_,_,hr | .lp _ _,_,_,hr | .may _ _ _,_,_,hr | .junk,_,_,hr=>by simp[R]at hr
 | .bp _ _,_,_,hr | .sl _ _ _,_,_,hr | .mp _,_,_,hr | .yl _,_,_,hr | .ep _,_,_,hr | .be _ _ _ _ _,_,_,hr | .bv _ _ _,_,_,hr | .list _ _ _ _,_,_,hr=>by simp only[lu];exact R.mono l _ _ hr
theorem Rs.frz{g g':G}{t n:Nat}{f:Nat->D}(l:G.le g g')(h:∀v sz,R g (.vec t n sz) v->R g' (.list n sz f (.tok t sz)) v):∀(ds:List D) (vs:List Value),pd t n ds->Rs g ds vs->Rs g' (n8 t f ds) vs
 | [],_,_,hr=>by simpa[Rs,n8] using hr
 |d::ds,_,ho,hr=>by
  simp only[pd]at ho
  simp only[Rs,n8]at hr⊢
  obtain⟨v,r,e,hv,hs⟩:=hr
  exact⟨v,r,e,R.frz l h d v ho.1 hv,Rs.frz l h ds r ho.2 hs⟩
end
def qgh(h:Heap)(t:Nat):Heap:={h with vw:=upd h.vw t none}
theorem fw{h:Heap}{t n:Nat}{t':Nat}{k:Tok}(hk:t'=t->k.n=n)(ha:gq k ((qgh h t).vw t')):gq k (h.vw t'):=by
 by_cases hx:t'=t
 ·subst hx
  have ha':gq k (upd h.vw t' none t'):=ha
  rw[qb]at ha'
  have h1:k.n<k.cap:=ha'
  cases h.vw t' with
  |none=>exact ha'
  |some f=>show 0<k.cap;omega
 ·have ha':gq k (upd h.vw t none t'):=ha
  rwa [qd _ _ hx]at ha'
theorem Inv.freeze [Lay] {g : G} {U : Nat -> Prop} {h : Heap} {w : World} {t n : Nat} {f : Nat -> D} (i : Inv g U h w) (hv : h.vw t = some f) (hn : h.hw t = some n) :
    ∃ g', Inv g' U (qgh h t) w /\ Grow U g g' /\ (∀ v sz, R g (.vec t n sz) v -> R g' (.list n sz f (.tok t sz)) v) /\ g'.μ = g.μ /\ g'.τ = g.τ /\
      (∀ x v, g'.σ x = some v -> g.σ x = some v \/ ∃ k, g.τ t = some k /\ 0 < k.cap /\ k.a = some ⟨x.block, 0, none⟩) := by
  obtain ⟨k, k1, k2, k3⟩ := i.tok t n hn
  rw [hv] at k3
  have vwO : ∀ {t'}, t' ≠ t -> (qgh h t).vw t' = h.vw t' := fun hx => qd _ _ hx
  rcases Nat.eq_zero_or_pos k.cap with hc | hc
  · refine ⟨g, ⟨i.sub, i.ub, i.muLt, i.box, i.boxInj, fun t' m e => ?_, fun t' m k' b l e e1 e2 => i.tokBox t' m k' b l e e1 (fw (n := n) (fun hx => ?_) e2), fun t1 t2 m1 m2 k1' k2' b e1 e2 f1 f2 g1 g2 => i.tokInj t1 t2 m1 m2 k1' k2' b e1 e2 f1 f2 (fw (n := n) (fun hx => ?_) g1) (fw (n := n) (fun hx => ?_) g2), i.frL, i.frT, fun t' ht' => ?_, i.ltab⟩, Grow.refl U g, fun v sz hr => ?_, rfl, rfl, fun x v e => .inl e⟩
    · obtain ⟨k', e1, e2, e3⟩ := i.tok t' m e
      refine ⟨k', e1, e2, fun ha => ?_⟩
      by_cases hx : t' = t
      · subst hx
        rw [k1] at e1; cases e1
        have ha' : gq k (upd h.vw t' none t') := ha
        rw [qb] at ha'
        have : k.n < k.cap := ha'
        omega
      · rw [vwO hx] at ha ⊢; exact e3 ha
    · subst hx; rw [k1] at e1; cases e1; exact k2
    · subst hx; rw [k1] at f1; cases f1; exact k2
    · subst hx; rw [k1] at f2; cases f2; exact k2
    · by_cases hx : t' = t
      · subst hx; exact qb _ _ _
      · rw [vwO hx]; exact i.frV t' ht'
    · simp only [R] at hr ⊢
      obtain ⟨h1, a, cap, e, h2, k', h3, h4, h5, h6⟩ := hr
      rw [k1] at h3; cases h3
      have := (h6 k2.symm).2
      exact ⟨h1, a, cap, e, h2, ⟨k, k1, h4, h5, h6⟩, fun q hq => by omega⟩
  · obtain ⟨b, c1, c2, T, vals, c3, c4, c5, c6⟩ := k3 hc
    obtain ⟨c7, c8⟩ := c6 f rfl
    have hσ : ∀ x v, g.σ x = some v -> x.block ≠ b := fun x v e hx => by
      have hs := (i.sub x v e).2
      have : x = ⟨b, x.off, none⟩ := by cases x; simp_all
      rw [this, c5 x.off (by simp [sd])] at e; cases e
    let g' : G := { g with σ := fun x => if x.block = b /\ x.spot = none /\ x.off < k.n * k.sz then vals[x.off]? else g.σ x }
    have le : G.le g g' := ⟨fun x v e => by
      show (if _ then _ else _) = _
      rw [if_neg (fun hh => hσ x v e hh.1)]; exact e, fun _ _ e => e, fun _ k e => ⟨k, e, rfl, Nat.le_refl _, fun _ => rfl⟩⟩
    have σold : ∀ {x : Addr} {v : Value}, g'.σ x = some v -> (x.block = b /\ x.spot = none /\ x.off < k.n * k.sz /\ vals[x.off]? = some v) \/ g.σ x = some v := by
      intro x v e
      have e' : (if x.block = b /\ x.spot = none /\ x.off < k.n * k.sz then vals[x.off]? else g.σ x) = some v := e
      split at e'
      · rename_i hc; exact .inl ⟨hc.1, hc.2.1, hc.2.2, e'⟩
      · exact .inr e'
    refine ⟨g', ⟨fun x v e => ?_, i.ub, i.muLt, fun l row e => ?_, i.boxInj, fun t' m e => ?_, fun t' m k' b l e e1 e2 => i.tokBox t' m k' b l e e1 (fw (n := n) (fun hx => ?_) e2), fun t1 t2 m1 m2 k1' k2' b e1 e2 f1 f2 g1 g2 => i.tokInj t1 t2 m1 m2 k1' k2' b e1 e2 f1 f2 (fw (n := n) (fun hx => ?_) g1) (fw (n := n) (fun hx => ?_) g2), i.frL, i.frT, fun t' ht' => ?_, i.ltab.mono le⟩, ⟨le, fun x v e => ?_⟩, fun v sz hr => ?_, rfl, rfl, fun x v e => ?_⟩
    · rcases σold e with ⟨h1, h2, h3, h4⟩ | h1
      · refine ⟨?_, h2⟩
        have hx : x = ⟨b, x.off, none⟩ := by cases x; simp_all
        rw [hx, c3.cell]
        exact h4
      · exact i.sub x v h1
    · obtain ⟨b', e1, e2, e3, e4⟩ := i.box l row e
      refine ⟨b', e1, e2.mono le rfl, e3, fun x v hh => ?_⟩
      rcases σold hh with ⟨h1, _⟩ | h1
      · intro h2
        exact i.tokBox t n k b l hn k1 (by rw [hv]; exact hc) c1 (by have e0 : h.box l = some row := e
                                                                     rw [e0]; simp) (by rw [e1, <- h1, h2])
      · exact e4 x v h1
    · obtain ⟨k', e1, e2, e3⟩ := i.tok t' m e
      refine ⟨k', e1, e2, fun ha => ?_⟩
      by_cases hx : t' = t
      · subst hx
        have e1' : g.τ t' = some k' := e1
        rw [k1] at e1'; cases e1'
        show TokAt g' w U k (upd h.vw t' none t')
        rw [qb]
        refine ⟨b, c1, c2, T, vals, c3, c4, fun j hj => ?_, fun _ h => by cases h⟩
        have hj' : k.n * k.sz <= j := hj
        show (if _ then _ else _) = _
        rw [if_neg (fun hh => by have h9 := hh.2.2; simp only at h9; omega)]
        exact c5 j (by simp [sd])
      · rw [vwO hx] at ha ⊢
        refine (e3 ha).mono le fun c c1' _ => ⟨rfl, fun j hj => ?_⟩
        have hne : c ≠ b := fun hh => by
          subst hh
          exact hx (i.tokInj t' t m n k' k c e hn e1 k1 ha (by rw [hv]; exact hc) c1' c1)
        show (if _ then _ else _) = _
        rw [if_neg (fun hh => hne hh.1)]; exact hj
    · subst hx; rw [k1] at e1; cases e1; exact k2
    · subst hx; rw [k1] at f1; cases f1; exact k2
    · subst hx; rw [k1] at f2; cases f2; exact k2
    · by_cases hx : t' = t
      · subst hx; exact qb _ _ _
      · rw [vwO hx]; exact i.frV t' ht'
    · rcases σold e with ⟨h1, _⟩ | h1
      · exact .inr (by rw [h1]; exact c2)
      · exact .inl h1
    · have hr0 := hr
      simp only [R] at hr ⊢
      obtain ⟨h1, a, cap, e, h2, k', h3, h4, h5, h6⟩ := hr
      rw [k1] at h3; cases h3
      have h7 := h6 k2.symm
      refine ⟨h1, a, cap, e, h2, ⟨k, k1, h4, h5, h6⟩, fun q hq => ?_⟩
      obtain ⟨u, d1, d2, d3⟩ := c8 q (by omega)
      refine ⟨⟨b, 0, none⟩, u, by rw [h7.1, c1], rfl, R.mono le _ _ d1, by rw [<- h4]; exact d2, fun j hj => ?_⟩
      rw [<- h4] at hj
      show (if _ then _ else _) = _
      have : (q + 1) * k.sz <= k.n * k.sz := Nat.mul_le_mul_right _ (by omega)
      rw [Nat.add_mul] at this
      rw [<- h4, if_pos ⟨rfl, rfl, by simp only; omega⟩]
      simp only [Nat.zero_add]
      exact d3 j hj
    · rcases σold e with ⟨h1, _⟩ | h1
      · exact .inr ⟨k, k1, hc, by rw [c1, h1]⟩
      · exact .inl h1
theorem RetLe.frz[Lay]{h:Heap}{t n:Nat}{f:Nat->D}{d:D}(hv:h.vw t=some f)(hn:h.hw t=some n)(ho:ua t n d):RetLe d h (lu t f d) (qgh h t):=fun g U w x hr i=>by
 obtain⟨g',h1,h2,h3,_⟩:=i.freeze hv hn
 exact⟨g',R.frz h2.le h3 d x ho hr,h1,h2⟩
def cd(t:Nat)(f:Nat->D):qu->qu
 | []=>[]
 |(s,.own cs)::r=>(s,.own (n8 t f cs))::cd t f r
 |(s,d)::r=>(s,lu t f d)::cd t f r
def pf(t n:Nat):qu->Prop
 | []=>True
 |(_,.own cs)::r=>pd t n cs/\pf t n r
 |(_,d)::r=>ua t n d/\pf t n r
theorem qkc(t:Nat)(f:Nat->D)(d:D):isD (lu t f d)=isD d:=by
 cases d <;> first|rfl|skip
 simp only[lu]
 generalize (Nat.beq _ _)=c
 cases c <;> rfl
theorem qfz(t:Nat)(f:Nat->D)(s:Nat)(d:D)(r:qu)(h:∀cs,d≠ .own cs):cd t f ((s,d)::r)=(s,lu t f d)::cd t f r:=by
 cases d <;> first|rfl|exact absurd rfl (h _)
theorem p7{t n:Nat}{f:Nat->D}:∀{sl:qu} {s:Nat} {d':D},qo (cd t f sl) s=some d'->pf t n sl->(∃cs,qo sl s=some (.own cs)/\d' = .own (n8 t f cs)/\pd t n cs)\/(∃d,qo sl s=some d/\(∀cs,d≠ .own cs)/\d'=lu t f d/\ua t n d)
 | [],_,_,h,_=>by cases h
 |(q,d)::r,s,d',h,ho=>by
  by_cases hown:∃cs,d = .own cs
  ·obtain⟨cs,rfl⟩:=hown
   simp only[cd,qo,pf]at h ho⊢
   cases hb:Nat.beq q s with
   |true=>rw[hb]at h;cases h;exact .inl ⟨cs,rfl,rfl,ho.1⟩
   |false=>rw[hb]at h;exact p7 h ho.2
  ·have hne:∀cs,d≠ .own cs:=fun cs hc=>hown ⟨cs,hc⟩
   rw[qfz _ _ _ _ _ hne]at h
   have ho':ua t n d/\pf t n r:=by cases d <;> first|exact ho|exact absurd rfl (hne _)
   simp only[qo]at h⊢
   cases hb:Nat.beq q s with
   |true=>rw[hb]at h;cases h;exact .inr ⟨d,rfl,hne,rfl,ho'.1⟩
   |false=>rw[hb]at h;exact p7 h ho'.2
theorem ij(t:Nat)(f:Nat->D):∀sl:qu,(cd t f sl).map (·.1)=sl.map (·.1)
 | []=>rfl
 |(q,d)::r=>by
  have ih:=ij t f r
  cases d <;> simp[cd,ih]
theorem nr{t:Nat}{f:Nat->D}:∀{sl:qu} {s:Nat} {cs:List D},qo sl s=some (.own cs)->∃c,qo (cd t f sl) s=some (.own c)
 | [],_,_,h=>by cases h
 |(q,d)::r,s,cs,h=>by
  simp only[qo]at h
  cases hb:Nat.beq q s with
  |true =>
   rw[hb]at h;cases h
   exact⟨n8 t f cs,by simp[cd,qo,hb]⟩
  |false =>
   rw[hb]at h
   obtain⟨c,hc⟩:=nr (t:=t) (f:=f) h
   refine⟨c,?_⟩
   cases d <;> (simp only[cd,qo,hb];exact hc)
theorem StLe.frz[Lay]{N:Nat}{sl:qu}{h:Heap}(t:Nat){n:Nat}{f:Nat->D}(hv:h.vw t=some f)(hn:h.hw t=some n)(ho:pf t n sl):StLe N ⟨sl,h⟩ ⟨cd t f sl,qgh h t⟩:=by
 intro g β U a w r
 obtain⟨g',i',gr,h3,hμ,hτ,hσ⟩:=r.inv.freeze hv hn
 have le:=gr.le
 refine⟨g',β,⟨r.defers,r.size,by rw[ij];exact r.keys,fun s d' hs=> ?_,fun s d' u hs hlive hb=> ?_,fun s cs' hs=> ?_,fun s s' cs cs' hs hs' e=> ?_,i'⟩,gr⟩
 ·rcases p7 hs ho with ⟨cs,h1,rfl,h2⟩|⟨d,h1,hne,rfl,h2⟩
  ·exact r.slot s _ h1
  ·have h4:=(r.slot s d h1).mono (g':=g') le
   have h5:=r.slot s d h1
   cases d <;> first|exact h4|exact absurd rfl (hne _)|skip
   ·exact R.frz le h3 _ _ h2 h5
   ·exact R.frz le h3 _ _ h2 h5
   ·exact R.frz le h3 _ _ h2 h5
   ·exact R.frz le h3 _ _ h2 h5
   ·exact R.frz le h3 _ _ h2 h5
   ·have h6:R g' (lu t f (D.vec _ _ _)) (a.tmps.getD s undef):=R.frz le h3 _ _ h2 h5
    exact RS.ofRS0 (RS0.ofR h6) (jq (by rw[qkc];rfl))
 ·rcases p7 hs ho with ⟨cs,h1,rfl,h2⟩|⟨d,h1,hne,rfl,h2⟩
  ·cases hb
  ·have hd:lu t f d=d\/q9 (lu t f d)=none:=by
    cases d <;> first|exact .inl rfl|exact .inr rfl|skip
    right
    simp only[lu]
    generalize (Nat.beq _ _)=c
    cases c <;> rfl
   rcases hd with hd|hd
   ·rw[hd]at hlive hb
    obtain⟨cs,hc⟩:=r.base s d u h1 hlive hb
    exact nr hc
   ·rw[hd]at hb;cases hb
 ·rcases p7 hs ho with ⟨cs,h1,h0,h2⟩|⟨d,h1,hne,h0,h2⟩
  ·cases h0
   obtain⟨⟨T,vals,e1,e1'⟩,e2,e3,e4,e5⟩:=r.own s cs h1
   refine⟨⟨T,vals,e1,Rs.frz le h3 cs _ h2 e1'⟩,e2,fun x v hx hb=> ?_,by rw[hμ];exact e4,fun t' m k f1 f2 f3=> ?_⟩
   ·rcases hσ x v hx with h4|⟨k,k1,k2,k3⟩
    ·exact e3 x v h4 hb
    ·exact e5 t n k hn k1 (by show gq k (h.vw t);rw[hv];exact k2) (by rw[k3,hb])
   ·rw[hτ]at f2
    refine e5 t' m k f1 f2 (fw (n:=n) (fun hx=> ?_) f3)
    subst hx
    obtain⟨k',k1,k2,_⟩:=r.inv.tok t' n hn
    rw[f2]at k1;cases k1;exact k2
  ·exfalso
   cases d <;> first|exact hne _ rfl|cases h0|skip
   simp only[lu]at h0
   generalize (Nat.beq _ _)=c at h0
   cases c <;> cases h0
 ·have key:∀{s c},qo (cd t f sl) s=some (.own c)->∃c0,qo sl s=some (.own c0):=fun{s c} hs=>by
   rcases p7 hs ho with ⟨cs,h1,_⟩|⟨d,h1,hne,h0,h2⟩
   ·exact⟨_,h1⟩
   ·exfalso
    cases d <;> first|exact hne _ rfl|cases h0|skip
    simp only[lu]at h0
    generalize (Nat.beq _ _)=c at h0
    cases c <;> cases h0
  obtain⟨c,h1⟩:=key hs
  obtain⟨c',h2⟩:=key hs'
  exact r.ownInj s s' c c' h1 h2 e
def qkd(h:Heap)(c:Option (Nat->D)):Heap :=
 match c with
 |none=>{h with hw:=upd h.hw h.nt (some 0),nt:=h.nt+1}
 |some f=>{h with hw:=upd h.hw h.nt (some 0),nt:=h.nt+1,vw:=upd h.vw h.nt (some f)}
def qf0(h:Heap)(c:Option (Nat->D))(sz:Nat)(f:Nat->D):D :=
 match c with
 |none=> .list 0 sz f (.tok h.nt sz)
 |some _=> .vec h.nt 0 sz
theorem Rel.idle[Lay]{n:Nat}{g:G}{β:Nat->Nat}{U:Nat->Prop}{y:Nat->Bool->Prop}{sl:qu}{h:Heap}{a:Act}{w:World}(r:Rel n g β U y ⟨sl,h⟩ a w)(v:Value){z:Nat}{q:Nat->D}(hv:R g (.list 0 z q .full) v)(sz:Nat)(f:Nat->D)(c:Option (Nat->D)) :
  ∃g',Rel n g' β U y ⟨sl,qkd h c⟩ a w/\Grow U g g'/\g'.μ=g.μ/\R g' (qf0 h c sz f) v:=by
 simp only[R]at hv
 obtain⟨_,ba,cap,rfl,h1,h2,_⟩:=hv
 have h2':cap=0:=h2
 subst h2'
 have hnone:∀k0,g.τ h.nt=some k0->False:=fun k0 e=>by rw[r.inv.frT _ (Nat.le_refl _)]at e;cases e
 cases c with
 |none =>
  obtain⟨r1,le⟩:=r.idleTok (t:=h.nt) (k:=⟨ba,0,0,sz,0⟩) (by simp) rfl
  refine⟨_,r1,Grow.sameσ le rfl,rfl,?_⟩
  simp only[qf0,R]
  exact⟨Nat.zero_le _,ba,0,rfl,Nat.le_refl _,⟨_,qb _ _ _,rfl,Nat.le_refl _,fun _=>⟨rfl,rfl⟩⟩,fun i hi=>by omega⟩
 |some f' =>
  have hle:∀k0,g.τ h.nt=some k0->sz=k0.sz/\k0.n<=0/\(k0.n=0->(⟨ba,0,0,sz,0⟩:Tok)=k0):=fun k0 e=>(hnone k0 e).elim
  have r1:=Rel.vecTo r (t:=h.nt) (nt:=h.nt+1) (k:=⟨ba,0,0,sz,0⟩) (f:=f') (w':=w) (by omega) (by show h.nt<=h.nt+1;omega) hle (fun _ h=>h) (Nat.le_refl _) (fun _ _ _=>rfl) (fun hc=>by simp only at hc;omega)
  refine⟨_,r1,Grow.sameσ (u0 hle) rfl,rfl,?_⟩
  simp only[qf0,R]
  exact⟨Nat.zero_le _,ba,0,rfl,Nat.le_refl _,_,qb _ _ _,rfl,Nat.le_refl _,fun _=>⟨rfl,rfl⟩⟩
theorem yf{t:Nat}{d':D}:∀{sl:qu} {s:Nat} {cs:List D},s≠t->qo sl s=some (.own cs)->qo (vh sl t d') s=some (.own cs)
 | [],_,_,_,h=>by cases h
 |(k,x)::r,s,cs,hne,h=>by
  have hm:vh ((k,x)::r) t d'=(bif Nat.beq k t then(t,d') else(k,x))::vh r t d':=rfl
  rw[hm]
  simp only[qo]at h
  cases hks:Nat.beq k s with
  |true =>
   have:=qq.1 hks;subst this
   rw[hks]at h
   have:Nat.beq k t=false:=xn.2 hne
   rw[this];simp only[cond_false,qo,hks];exact h
  |false =>
   rw[hks]at h
   have ih:=yf (d':=d') hne h
   cases hkt:Nat.beq k t with
   |true =>
    have:=qq.1 hkt;subst this
    simp only[cond_true,qo,hks];exact ih
   |false=>simp only[cond_false,qo,hks];exact ih
theorem Rel.setD[Lay]{n:Nat}{g:G}{β:Nat->Nat}{U:Nat->Prop}{y:Nat->Bool->Prop}{sl:qu}{h:Heap}{a:Act}{w:World}(r:Rel n g β U y ⟨sl,h⟩ a w){t:Nat}{d d':D}(hl:qo sl t=some d)(hd:isD d=true)(hR:R g d' (a.tmps.getD t undef)) :
  Rel n g β U y ⟨vh sl t d',h⟩ a w:=by
 have h1:=hR.isD
 have hno:∀cs,qo sl t≠some (.own cs):=fun cs hc=>by rw[hl]at hc;cases hc;cases hd
 refine⟨r.defers,r.size,by rw[xx];exact r.keys,fun s e hs=> ?_,fun s e u hs hlive hb=> ?_,fun s cs hs=> ?_,fun s s' cs cs' hs hs'=> ?_,r.inv⟩
 ·rcases qr _ _ _ _ _ hs with ⟨rfl,rfl,_⟩|⟨_,h2⟩
  ·exact RS.ofRS0 (RS0.ofR hR) (jq h1)
  ·exact r.slot s e h2
 ·rcases qr _ _ _ _ _ hs with ⟨rfl,rfl,_⟩|⟨_,h2⟩
  ·cases e <;> first|exact Bool.noConfusion (show false=true from h1)|cases hb
  ·obtain⟨cs,hc⟩:=r.base s e u h2 hlive hb
   exact⟨cs,yf (fun e=>hno cs (by rw[<-e];exact hc)) hc⟩
 ·rcases qr _ _ _ _ _ hs with ⟨rfl,h2,_⟩|⟨_,h2⟩
  ·subst h2;cases h1
  ·exact r.own s cs h2
 ·rcases qr _ _ _ _ _ hs with ⟨rfl,h2,_⟩|⟨_,h2⟩
  ·subst h2;cases h1
  ·rcases qr _ _ _ _ _ hs' with ⟨rfl,h3,_⟩|⟨_,h3⟩
   ·subst h3;cases h1
   ·exact r.ownInj s s' cs cs' h2 h3
theorem Rel.reOwn[Lay]{n:Nat}{g:G}{β:Nat->Nat}{U:Nat->Prop}{y:Nat->Bool->Prop}{sl:qu}{h:Heap}{a:Act}{w:World}(r:Rel n g β U y ⟨sl,h⟩ a w){t:Nat}{cs cs':List D}(hl:qo sl t=some (.own cs))
  (hv:∀T vals,w.heap[β t]? = some (.cells vals T (0,0))->Rs g cs vals.toList->Rs g cs' vals.toList):Rel n g β U y ⟨vh sl t (.own cs'),h⟩ a w:=by
 have lk:∀{sl:qu} {s cs0},qo sl s=some (.own cs0)->∃c,qo (vh sl t (.own cs')) s=some (.own c):=by
  intro sl s cs0 hs
  induction sl with
  |nil=>cases hs
  |cons x r ih =>
   obtain⟨k,x⟩:=x
   have hm:vh ((k,x)::r) t (.own cs')=(bif Nat.beq k t then(t,.own cs') else(k,x))::vh r t (.own cs'):=rfl
   rw[hm]
   simp only[qo]at hs
   cases hks:Nat.beq k s with
   |true =>
    have:=qq.1 hks;subst this
    rw[hks]at hs
    simp only[cond_true,Option.some.injEq]at hs;subst hs
    cases hkt:Nat.beq k t with
    |true =>
     have:=qq.1 hkt;subst this
     exact⟨cs',by simp[qo]⟩
    |false=>exact⟨cs0,by simp[qo]⟩
   |false =>
    rw[hks]at hs
    obtain⟨c,hc⟩:=ih hs
    refine⟨c,?_⟩
    cases hkt:Nat.beq k t with
    |true =>
     have:=qq.1 hkt;subst this
     simp only[cond_true,qo,hks];exact hc
    |false=>simp only[cond_false,qo,hks];exact hc
 refine⟨r.defers,r.size,by rw[xx];exact r.keys,fun s e hs=> ?_,fun s e u hs hlive hb=> ?_,fun s c hs=> ?_,fun s s' c c' hs hs'=> ?_,r.inv⟩
 ·rcases qr _ _ _ _ _ hs with ⟨rfl,rfl,_⟩|⟨_,h2⟩
  ·exact r.slot s (.own cs) hl
  ·exact r.slot s e h2
 ·rcases qr _ _ _ _ _ hs with ⟨rfl,rfl,_⟩|⟨_,h2⟩
  ·cases hb
  ·obtain⟨c,hc⟩:=r.base s e u h2 hlive hb
   exact lk hc
 ·rcases qr _ _ _ _ _ hs with ⟨rfl,h2,_⟩|⟨_,h2⟩
  ·cases h2
   obtain⟨⟨T,vals,e1,e1'⟩,e2,e3,e4,e5⟩:=r.own s _ hl
   exact⟨⟨T,vals,e1,hv T vals e1 e1'⟩,e2,e3,e4,e5⟩
  ·exact r.own s c h2
 ·have f:∀{s c},qo (vh sl t (.own cs')) s=some (.own c)->∃c0,qo sl s=some (.own c0):=fun{s c} h=>by
   rcases qr _ _ _ _ _ h with ⟨rfl,h2,_⟩|⟨_,h2⟩
   ·exact⟨_,hl⟩
   ·exact⟨_,h2⟩
  obtain⟨c0,h2⟩:=f hs
  obtain⟨c1,h3⟩:=f hs'
  exact r.ownInj s s' _ _ h2 h3
theorem Rs.setAt{g g':G}(l:G.le g g'):∀{cs:List D} {vs:List Value} {j:Nat} {d d':D} {v:Value},Rs g cs vs->cs[j]? = some d->vs[j]? = some v->R g' d' v->Rs g' (cs.set j d') vs
 | [],_,j,_,_,_,_,h,_,_=>by cases j <;> cases h
 |c::cs,_,0,_,d',v,hr,_,hv,h=>by
  simp only[Rs]at hr
  obtain⟨u,r,rfl,h1,h2⟩:=hr
  simp only[List.getElem?_cons_zero,Option.some.injEq]at hv
  subst hv
  simp only[List.set_cons_zero,Rs]
  exact⟨u,r,rfl,h,Rs.mono l _ _ h2⟩
 |c::cs,_,j+1,d,d',v,hr,hc,hv,h=>by
  simp only[Rs]at hr
  obtain⟨u,r,rfl,h1,h2⟩:=hr
  simp only[List.set_cons_succ,Rs]
  exact⟨u,r,rfl,R.mono l _ _ h1,Rs.setAt l h2 (by simpa using hc) (by simpa using hv) h⟩
section
variable (N:Nat) {sl:qu} {h:Heap} {z:Nat} {q:Nat->D}
theorem StLe.idle[Lay](c:Option (Nat->D))(t sz:Nat)(f:Nat->D)(hl:qo sl t=some (.list 0 z q .full)):StLe N ⟨sl,h⟩ ⟨vh sl t (qf0 h c sz f),qkd h c⟩:=fun g β U a w r=>by
 have h1:=r.slot t _ hl
 simp only[RS,RS0]at h1
 obtain⟨g',r1,gr,_,hR⟩:=r.idle _ h1 sz f c
 exact⟨g',β,r1.setD hl rfl hR,gr⟩
theorem StLe.idleOwn[Lay](c:Option (Nat->D))(t j sz:Nat)(f:Nat->D){cs:List D}(hl:qo sl t=some (.own cs))(hj:cs[j]? = some (.list 0 z q .full)):StLe N ⟨sl,h⟩ ⟨vh sl t (.own (cs.set j (qf0 h c sz f))),qkd h c⟩:=fun g β U a w r=>by
 obtain⟨⟨T,vals,e1,e2⟩,_⟩:=r.own t cs hl
 have e2':Rs g cs vals.toList:=e2
 obtain⟨v,hv,hr⟩:=e2'.get j _ hj
 obtain⟨g',r1,gr,_,hR⟩:=r.idle _ hr sz f c
 refine⟨g',β,r1.reOwn hl fun T' vals' f1 _=> ?_,gr⟩
 rw[e1]at f1;cases f1
 exact Rs.setAt gr.le e2' hj hv hR
end
section
variable (N:Nat) {sl:qu} {h:Heap} {z:Nat} {q:Nat->D}
end
def cv{α:Type}[Inhabited α](es:List α)(enc:α->D):Nat->D:=fun i=>enc (es.getD i default)
theorem VwLe.eq{n:Nat}{f f':Nat->D}(h:∀i,i<n->f i=f' i):VwLe n (some f) (some f'):=⟨f,rfl,fun i hi=>by rw[h i hi];exact⟨fun _ _ h=>h,fun h=>h⟩⟩
theorem HeapLe.vec{b:Nat->Option Row}{nl nt t n:Nat}{hw:Nat->Option Nat}{vw:Nat->Option (Nat->D)}{f f':Nat->D}(hn:hw t=some n)(h:VwLe n (some f) (some f')):HeapLe ⟨b,nl,hw,nt,upd vw t (some f)⟩ ⟨b,nl,hw,nt,upd vw t (some f')⟩:=by
 refine⟨fun l row e=>(HeapLe.refl _).box l row e,Nat.le_refl _,fun _ _ h=>h,Nat.le_refl _,fun t' n' e=> ?_,fun t' e=> ?_⟩
 ·by_cases hx:t'=t
  ·subst hx
   have e':hw t'=some n':=e
   rw[hn]at e';cases e'
   show VwLe n (upd vw t' (some f) t') (upd vw t' (some f') t')
   rw[qb,qb];exact h
  ·show VwLe n' (upd vw t (some f) t') (upd vw t (some f') t')
   rw[qd _ _ hx,qd _ _ hx];exact VwLe.refl _ _
 ·by_cases hx:t'=t
  ·subst hx
   have e':upd vw t' (some f) t'=none:=e
   rw[qb]at e';cases e'
  ·have e':upd vw t (some f) t'=none:=e
   show upd vw t (some f') t'=none
   rw[qd _ _ hx]at e'⊢;exact e'
theorem StLe.vec[Lay]{N:Nat}{sl:qu}{b:Nat->Option Row}{nl nt t n:Nat}{hw:Nat->Option Nat}{vw:Nat->Option (Nat->D)}{f f':Nat->D}(hn:hw t=some n)(h:∀i,i<n->f i=f' i) :
  StLe N ⟨sl,⟨b,nl,hw,nt,upd vw t (some f)⟩⟩ ⟨sl,⟨b,nl,hw,nt,upd vw t (some f')⟩⟩:=StLe.heapLe (HeapLe.vec hn (VwLe.eq h))
theorem dw{α:Type}[Inhabited α]{es:List α}{enc:α->D}{k:Nat}{x:α}(hk:k<es.length)(i:Nat):ny (cv es enc) k (enc x) i=cv (es.set k x) enc i:=by
 unfold ny cv
 by_cases hx:i=k
 ·subst hx
  simp[List.getD,hk]
 ·rw[xn.2 hx]
  simp[List.getD,Ne.symm hx]
theorem Rs.nz{g:G}{n sz:Nat}{get:Nat->D}{bs:List D}:∀{as:List D} {vs:List Value},Rs g (as ++ .list n sz get .none::bs) vs->∃b,Rs g (as ++ .list n sz get (.nz b)::bs) vs
 | [],vs,hr=>by
  simp only[List.nil_append,Rs]at hr⊢
  obtain⟨v,r,rfl,h1,h2⟩:=hr
  simp only[R]at h1
  obtain⟨a1,a,cap,a2,a3,_,a5⟩:=h1
  refine⟨a.isNone,v,r,rfl,?_,h2⟩
  simp only[R]
  exact⟨a1,a,cap,a2,a3,rfl,a5⟩
 |c::cs,vs,hr=>by
  simp only[List.cons_append,Rs]at hr⊢
  obtain⟨v,r,rfl,h1,h2⟩:=hr
  obtain⟨b,hb⟩:=Rs.nz h2
  exact⟨b,v,r,rfl,h1,hb⟩
theorem Datas.nz{n sz:Nat}{get:Nat->D}{bs:List D}{b:Bool}:∀{as:List D},Datas (as ++ .list n sz get (.nz b)::bs)->Datas (as ++ .list n sz get .none::bs)
 | [],h=>by
  simp only[List.nil_append,Datas,Data]at h⊢
  exact⟨⟨h.1.1,fun t sz h=>by cases h⟩,h.2⟩
 |c::cs,h=>⟨h.1,Datas.nz h.2⟩
theorem Pure.nz[Lay]{P:Program}{f:Nat}{n sz:Nat}{get:Nat->D}{as bs:List D}{v:D}(h:∀b,Pure P f (as ++ .list n sz get (.nz b)::bs) v):Pure P f (as ++ .list n sz get .none::bs) v :=
 ⟨(h true).ok,Datas.nz (h true).da,(h true).dv,fun g w vs la sub hs=>by obtain⟨b,hb⟩:=Rs.nz hs;exact(h b).calls g w vs la sub hb⟩
theorem Does.nz[Lay]{P:Program}{f:Nat}{n sz:Nat}{get:Nat->D}{as bs:List D}{v:D}{h h':Heap}(k:∀b,Does P f (as ++ .list n sz get (.nz b)::bs) h v h'):Does P f (as ++ .list n sz get .none::bs) h v h':=fun K hk =>
 ⟨(k true K hk).ok,fun g U w vs i hs=>by obtain⟨b,hb⟩:=Rs.nz hs;exact(k b K hk).calls g U w vs i hb⟩
def rnm(bs:List Nat)(m l:Nat):Nat:=match bs[l]? with|some x=>x|none=>m+(l-bs.length)
def qyw(ft:Nat->Nat):Own->Own
 | .tok t sz=> .tok (ft t) sz
 |o=>o
mutual
def ren(fb ft:Nat->Nat):D->D
 | .bp l o=> .bp (fb l) o
 | .sl l o n=> .sl (fb l) o n
 | .mp l=> .mp (fb l)
 | .yl l=> .yl (fb l)
 | .vec t n sz=> .vec (ft t) n sz
 | .bv e t n=> .bv e (ft t) n
 | .be t n i sz j=> .be (ft t) n i sz j
 | .list n sz get own=> .list n sz get (qyw ft own)
 | .agg cs=> .agg (qb9 fb ft cs)
 | .tup cs=> .tup (qb9 fb ft cs)
 | .clo f cs=> .clo f (qb9 fb ft cs)
 | .mv f cs=> .mv f (qb9 fb ft cs)
 | .ep cs=> .ep (qb9 fb ft cs)
 | .iface t d=> .iface t (ren fb ft d)
 |d=>d
def qb9(fb ft:Nat->Nat):List D->List D
 | []=>[]
 |d::r=>ren fb ft d::qb9 fb ft r
end
mutual
def kb:D->Prop
 | .list n _ get _=>∀i,i<n->Data (get i)
 | .agg cs=>wo cs
 | .tup cs=>wo cs
 | .clo _ cs=>wo cs
 | .mv _ cs=>wo cs
 | .ep cs=>wo cs
 | .iface _ d=>kb d
 |_=>True
def wo:List D->Prop
 | []=>True
 |d::r=>kb d/\wo r
end
structure qqx(fb ft:Nat->Nat)(g0 g:G):Prop where
 σ:∀a v,g0.σ a=some v->g.σ a=some v
 μ:∀l b,g0.μ l=some b->g.μ (fb l)=some b
 τ:∀t k,g0.τ t=some k->g.τ (ft t)=some k
mutual
theorem R.ren{fb ft:Nat->Nat}{g0 g:G}(m:qqx fb ft g0 g):∀(d:D) (v:Value),kb d->R g0 d v->R g (ren fb ft d) v
 | .bool _,_,_,hr | .int _ _,_,_,hr | .str _,_,_,hr | .nilp,_,_,hr | .nilf,_,_,hr | .nili,_,_,hr | .nilm,_,_,hr | .fnp _ _,_,_,hr=>by simpa[R,ren] using hr
 | .own _,_,_,hr | .lp _ _,_,_,hr | .may _ _ _,_,_,hr | .junk,_,_,hr=>by simp[R]at hr
 | .bp l o,_,_,hr=>by simp only[R,ren]at hr⊢;obtain⟨b,e,hv⟩:=hr;exact⟨b,m.μ _ _ e,hv⟩
 | .sl l o n,_,_,hr=>by simp only[R,ren]at hr⊢;obtain⟨b,e,hv⟩:=hr;exact⟨b,m.μ _ _ e,hv⟩
 | .mp l,_,_,hr=>by simp only[R,ren]at hr⊢;obtain⟨b,e,hv⟩:=hr;exact⟨b,m.μ _ _ e,hv⟩
 | .yl l,_,_,hr=>by simp only[R,ren]at hr⊢;obtain⟨b,e,hv⟩:=hr;exact⟨b,m.μ _ _ e,hv⟩
 | .vec t n sz,_,_,hr=>by simp only[R,ren]at hr⊢;obtain⟨h1,a,c,h2,h3,k,h4,h5⟩:=hr;exact⟨h1,a,c,h2,h3,k,m.τ _ _ h4,h5⟩
 | .bv e t n,_,_,hr=>by simp only[R,ren]at hr⊢;obtain⟨h1,a,c,h2,h3,k,h4,h5⟩:=hr;exact⟨h1,a,c,h2,h3,k,m.τ _ _ h4,h5⟩
 | .be t n i sz j,_,_,hr=>by simp only[R,ren]at hr⊢;obtain⟨b,q,h1,h2,k,h4,h5⟩:=hr;exact⟨b,q,h1,h2,k,m.τ _ _ h4,h5⟩
 | .list n sz get own,_,ho,hr=>by
  simp only[kb]at ho
  simp only[R,ren]at hr⊢
  obtain⟨hn,a,cap,e,hnc,hown,hel⟩:=hr
  refine⟨hn,a,cap,e,hnc,?_,fun i hi=> ?_⟩
  ·cases own with
   |tok t tz=>obtain⟨k,h1,h2⟩:=hown;exact⟨k,m.τ _ _ h1,h2⟩
   |_=>exact hown
  ·obtain⟨p,u,ha,hp,hu,hus,hc⟩:=hel i hi
   refine⟨p,u,ha,hp,R.data m.σ (get i) u (ho i hi) hu,hus,fun j hj=> ?_⟩
   have hj':j<u.cells.size:=by have:=hus.1;omega
   have:=hc j hj
   rw[Array.getElem?_eq_getElem hj']at this⊢
   exact m.σ _ _ this
 | .agg cs,_,ho,hr=>by
  simp only[kb]at ho
  simp only[R,ren]at hr⊢
  obtain⟨vs,e,hs⟩:=hr
  exact⟨vs,e,Rs.ren m cs vs ho hs⟩
 | .tup cs,_,ho,hr=>by
  simp only[kb]at ho
  simp only[R,ren]at hr⊢
  obtain⟨vs,e,hs⟩:=hr
  exact⟨vs,e,Rs.ren m cs vs ho hs⟩
 | .clo _ cs,_,ho,hr=>by
  simp only[kb]at ho
  simp only[R,ren]at hr⊢
  obtain⟨vs,e,hs⟩:=hr
  exact⟨vs,e,Rs.ren m cs vs ho hs⟩
 | .mv _ cs,_,ho,hr=>by
  simp only[kb]at ho
  simp only[R,ren]at hr⊢
  obtain⟨vs,e,hs⟩:=hr
  exact⟨vs,e,Rs.ren m cs vs ho hs⟩
 | .ep cs,_,ho,hr=>by
  simp only[kb]at ho
  simp only[R,ren]at hr⊢
  obtain⟨p,vs,e,hp,hs,hc⟩:=hr
  refine⟨p,vs,e,hp,Rs.ren m cs vs ho hs,fun j hj=> ?_⟩
  have:=hc j hj
  rw[List.getElem?_eq_getElem hj]at this⊢
  exact m.σ _ _ this
 | .iface _ d,_,ho,hr=>by
  simp only[kb]at ho
  simp only[R,ren]at hr⊢
  obtain⟨u,e,hs⟩:=hr
  exact⟨u,e,R.ren m d u ho hs⟩
theorem Rs.ren{fb ft:Nat->Nat}{g0 g:G}(m:qqx fb ft g0 g):∀(ds:List D) (vs:List Value),wo ds->Rs g0 ds vs->Rs g (qb9 fb ft ds) vs
 | [],_,_,hr=>by simpa[Rs,qb9] using hr
 |d::ds,_,ho,hr=>by
  simp only[wo]at ho
  simp only[Rs,qb9]at hr⊢
  obtain⟨v,r,e,hv,hs⟩:=hr
  exact⟨v,r,e,R.ren m d v ho.1 hv,Rs.ren m ds r ho.2 hs⟩
end
structure qc1(fb ft:Nat->Nat)(g0 g:G):Prop where
 σ:∀a v,g.σ a=some v->g0.σ a=some v
 μ:∀l b,g.μ (fb l)=some b->g0.μ l=some b
 τ:∀t k,g.τ (ft t)=some k->g0.τ t=some k
mutual
theorem R.unren{fb ft:Nat->Nat}{g0 g:G}(m:qc1 fb ft g0 g):∀(d:D) (v:Value),kb d->R g (Ab.ren fb ft d) v->R g0 d v
 | .bool _,_,_,hr | .int _ _,_,_,hr | .str _,_,_,hr | .nilp,_,_,hr | .nilf,_,_,hr | .nili,_,_,hr | .nilm,_,_,hr | .fnp _ _,_,_,hr=>by simpa[R,Ab.ren] using hr
 | .own _,_,_,hr | .lp _ _,_,_,hr | .may _ _ _,_,_,hr | .junk,_,_,hr=>by simp[R,Ab.ren]at hr
 | .bp l o,_,_,hr=>by simp only[R,Ab.ren]at hr⊢;obtain⟨b,e,hv⟩:=hr;exact⟨b,m.μ _ _ e,hv⟩
 | .sl l o n,_,_,hr=>by simp only[R,Ab.ren]at hr⊢;obtain⟨b,e,hv⟩:=hr;exact⟨b,m.μ _ _ e,hv⟩
 | .mp l,_,_,hr=>by simp only[R,Ab.ren]at hr⊢;obtain⟨b,e,hv⟩:=hr;exact⟨b,m.μ _ _ e,hv⟩
 | .yl l,_,_,hr=>by simp only[R,Ab.ren]at hr⊢;obtain⟨b,e,hv⟩:=hr;exact⟨b,m.μ _ _ e,hv⟩
 | .vec t n sz,_,_,hr=>by simp only[R,Ab.ren]at hr⊢;obtain⟨h1,a,c,h2,h3,k,h4,h5⟩:=hr;exact⟨h1,a,c,h2,h3,k,m.τ _ _ h4,h5⟩
 | .bv e t n,_,_,hr=>by simp only[R,Ab.ren]at hr⊢;obtain⟨h1,a,c,h2,h3,k,h4,h5⟩:=hr;exact⟨h1,a,c,h2,h3,k,m.τ _ _ h4,h5⟩
 | .be t n i sz j,_,_,hr=>by simp only[R,Ab.ren]at hr⊢;obtain⟨b,q,h1,h2,k,h4,h5⟩:=hr;exact⟨b,q,h1,h2,k,m.τ _ _ h4,h5⟩
 | .list n sz get own,_,ho,hr=>by
  simp only[kb]at ho
  simp only[R,Ab.ren]at hr⊢
  obtain⟨hn,a,cap,e,hnc,hown,hel⟩:=hr
  refine⟨hn,a,cap,e,hnc,?_,fun i hi=> ?_⟩
  ·cases own with
   |tok t tz=>obtain⟨k,h1,h2⟩:=hown;exact⟨k,m.τ _ _ h1,h2⟩
   |_=>exact hown
  ·obtain⟨p,u,ha,hp,hu,hus,hc⟩:=hel i hi
   refine⟨p,u,ha,hp,R.data m.σ (get i) u (ho i hi) hu,hus,fun j hj=> ?_⟩
   have hj':j<u.cells.size:=by have:=hus.1;omega
   have:=hc j hj
   rw[Array.getElem?_eq_getElem hj']at this⊢
   exact m.σ _ _ this
 | .agg cs,_,ho,hr=>by
  simp only[kb]at ho
  simp only[R,Ab.ren]at hr⊢
  obtain⟨vs,e,hs⟩:=hr
  exact⟨vs,e,Rs.unren m cs vs ho hs⟩
 | .tup cs,_,ho,hr=>by
  simp only[kb]at ho
  simp only[R,Ab.ren]at hr⊢
  obtain⟨vs,e,hs⟩:=hr
  exact⟨vs,e,Rs.unren m cs vs ho hs⟩
 | .clo _ cs,_,ho,hr=>by
  simp only[kb]at ho
  simp only[R,Ab.ren]at hr⊢
  obtain⟨vs,e,hs⟩:=hr
  exact⟨vs,e,Rs.unren m cs vs ho hs⟩
 | .mv _ cs,_,ho,hr=>by
  simp only[kb]at ho
  simp only[R,Ab.ren]at hr⊢
  obtain⟨vs,e,hs⟩:=hr
  exact⟨vs,e,Rs.unren m cs vs ho hs⟩
 | .ep cs,_,ho,hr=>by
  simp only[kb]at ho
  simp only[R,Ab.ren]at hr⊢
  obtain⟨p,vs,e,hp,hs,hc⟩:=hr
  refine⟨p,vs,e,hp,Rs.unren m cs vs ho hs,fun j hj=> ?_⟩
  have:=hc j hj
  rw[List.getElem?_eq_getElem hj]at this⊢
  exact m.σ _ _ this
 | .iface _ d,_,ho,hr=>by
  simp only[kb]at ho
  simp only[R,Ab.ren]at hr⊢
  obtain⟨u,e,hs⟩:=hr
  exact⟨u,e,R.unren m d u ho hs⟩
theorem Rs.unren{fb ft:Nat->Nat}{g0 g:G}(m:qc1 fb ft g0 g):∀(ds:List D) (vs:List Value),wo ds->Rs g (qb9 fb ft ds) vs->Rs g0 ds vs
 | [],_,_,hr=>by simpa[Rs,qb9] using hr
 |d::ds,_,ho,hr=>by
  simp only[wo]at ho
  simp only[Rs,qb9]at hr⊢
  obtain⟨v,r,e,hv,hs⟩:=hr
  exact⟨v,r,e,R.unren m d v ho.1 hv,Rs.unren m ds r ho.2 hs⟩
end
def d5(fb ft:Nat->Nat):Row->Row
 | .lit cs=> .lit (qb9 fb ft cs)
 | .arr n get=> .arr n get
 | .loop r j=> .loop r j
 | .litT T cs=> .litT T (qb9 fb ft cs)
 | .map kk has v=> .map kk has v
def ri:Row->Prop
 | .lit cs=>wo cs
 | .arr n get=>∀i,i<n->Data (get i)
 | .loop _ _=>False
 | .litT _ cs=>wo cs
 | .map _ _ v=>∀k,Data (v.at k)
theorem RowAt.ren{fb ft:Nat->Nat}{g0 g:G}(m:qqx fb ft g0 g){w w':World}{b:Nat}{row:Row}(h:RowAt g0 w b row)(ho:ri row)(e:w'.heap[b]? = w.heap[b]?):RowAt g w' b (d5 fb ft row):=by
 cases row with
 |lit cs=>obtain⟨T,vals,hb,hr⟩:=h;exact⟨T,vals,e.trans hb,Rs.ren m _ _ ho hr⟩
 |arr n get=>obtain⟨T,vals,hb,hr⟩:=h;exact⟨T,vals,e.trans hb,hr.1,fun i hi=>by obtain⟨v,hv,h1⟩:=hr.2 i hi;exact⟨v,hv,R.data m.σ _ _ (ho i hi) h1⟩⟩
 |loop r j=>exact ho.elim
 |litT T cs=>obtain⟨vals,hb,hr⟩:=h;exact⟨vals,e.trans hb,Rs.ren m _ _ ho hr⟩
 |map kk has v=>obtain⟨es,c,hb,m1,m2⟩:=h;exact⟨es,c,e.trans hb,fun q hq=>(by obtain⟨k,q1,q2,q3⟩:=m1 q hq;exact⟨k,q1,q2,R.data m.σ _ _ (ho k) q3⟩),m2⟩
theorem RowAt.unren{fb ft:Nat->Nat}{g0 g:G}(m:qc1 fb ft g0 g){w:World}{b:Nat}{row:Row}(h:RowAt g w b (d5 fb ft row))(ho:ri row):RowAt g0 w b row:=by
 cases row with
 |lit cs=>obtain⟨T,vals,hb,hr⟩:=h;exact⟨T,vals,hb,Rs.unren m _ _ ho hr⟩
 |arr n get=>obtain⟨T,vals,hb,hr⟩:=h;exact⟨T,vals,hb,hr.1,fun i hi=>by obtain⟨v,hv,h1⟩:=hr.2 i hi;exact⟨v,hv,R.data m.σ _ _ (ho i hi) h1⟩⟩
 |loop r j=>exact ho.elim
 |litT T cs=>obtain⟨vals,hb,hr⟩:=h;exact⟨vals,hb,Rs.unren m _ _ ho hr⟩
 |map kk has v=>obtain⟨es,c,hb,m1,m2⟩:=h;exact⟨es,c,hb,fun q hq=>(by obtain⟨k,q1,q2,q3⟩:=m1 q hq;exact⟨k,q1,q2,R.data m.σ _ _ (ho k) q3⟩),m2⟩
def qd8{α:Type}(f:Nat->α)(ρ:Nat->Nat)(q:Nat->α):Nat->Nat->α
 |0=>f
 |n+1=>upd (qd8 f ρ q n) (ρ n) (q n)
theorem oc{α:Type}{f:Nat->α}{ρ:Nat->Nat}{q:Nat->α}:∀{n l:Nat},(∀i j,i<n->j<n->ρ i=ρ j->i=j)->l<n->qd8 f ρ q n (ρ l)=q l
 |0,_,_,h=>by omega
 |n+1,l,hi,h=>by
  simp only[qd8]
  by_cases hx:l=n
  ·subst hx;exact qb _ _ _
  ·rw[qd _ _ (fun e=>hx (hi _ _ h (Nat.lt_succ_self n) e))]
   exact oc (fun i j a b=>hi i j (by omega) (by omega)) (by omega)
theorem uc{α:Type}{f:Nat->α}{ρ:Nat->Nat}{q:Nat->α}:∀{n x:Nat},(∀l,l<n->ρ l≠x)->qd8 f ρ q n x=f x
 |0,_,_=>rfl
 |n+1,x,h=>by
  simp only[qd8]
  rw[qd _ _ (fun e=>h n (Nat.lt_succ_self n) e.symm)]
  exact uc fun l hl=>h l (by omega)
def qh(bs ts:List Nat)(H h':Heap):Heap :=
 ⟨qd8 H.box (rnm bs H.nl) (fun l=>(h'.box l).map (d5 (rnm bs H.nl) (rnm ts H.nt))) h'.nl,H.nl+(h'.nl-bs.length),qd8 H.hw (rnm ts H.nt) h'.hw h'.nt,H.nt+(h'.nt-ts.length),qd8 H.vw (rnm ts H.nt) h'.vw h'.nt⟩
class Dom{α:Type}(f:Nat->Option α)(n:Nat):Prop where
 p:∀l,n<=l->f l=none
instance {α:Type}{n:Nat}:Dom (fun _=>(none:Option α)) n:=⟨fun _ _=>rfl⟩
instance {α:Type}{f:Nat->Option α}{k m:Nat}{v:Option α}[h:Dom f (m+k+1)]:Dom (upd f k v) (m+k+1):=⟨fun l hl=>by rw[qd _ _ (by omega)];exact h.p l hl⟩
class RO(d:D):Prop where
 p:kb d
class ROs(ds:List D):Prop where
 p:wo ds
class RB(f:Nat->Option Row):Prop where
 p:∀l row,f l=some row->ri row
class RV(hw:Nat->Option Nat)(vw:Nat->Option (Nat->D)):Prop where
 p:∀t n f,hw t=some n->vw t=some f->∀i,i<n->Data (f i)
theorem ns{bs:List Nat}{m l x:Nat}(h:bs[l]? = some x):rnm bs m l=x:=by simp[rnm,h]
theorem wp{bs:List Nat}{m l:Nat}(h:bs.length<=l):rnm bs m l=m+(l-bs.length):=by simp[rnm,List.getElem?_eq_none h]
theorem qhe{bs:List Nat}{m:Nat}(hn:bs.Nodup)(hm:∀x∈bs,x<m){i j:Nat}(h:rnm bs m i=rnm bs m j):i=j:=by
 rcases Nat.lt_or_ge i bs.length with hi|hi <;> rcases Nat.lt_or_ge j bs.length with hj|hj
 ·rw[ns (List.getElem?_eq_getElem hi),ns (List.getElem?_eq_getElem hj)]at h
  exact(List.getElem_inj hn).1 h
 ·rw[ns (List.getElem?_eq_getElem hi),wp hj]at h
  have:=hm _ (List.getElem_mem hi);omega
 ·rw[wp hi,ns (List.getElem?_eq_getElem hj)]at h
  have:=hm _ (List.getElem_mem hj);omega
 ·rw[wp hi,wp hj]at h;omega
def unr(bs:List Nat)(m x:Nat):Option Nat:=if x∈bs then bs.idxOf? x else if m<=x then some (x-m+bs.length) else none
theorem qhf{bs:List Nat}{m:Nat}(hn:bs.Nodup)(hm:∀x∈bs,x<m)(l:Nat):unr bs m (rnm bs m l)=some l:=by
 unfold unr
 rcases Nat.lt_or_ge l bs.length with hi|hi
 ·have h1:=ns (m:=m) (List.getElem?_eq_getElem hi)
  rw[h1,if_pos (List.getElem_mem hi)]
  have:bs.idxOf? bs[l]=some l:=by
   rw[List.idxOf?_eq_some_iff]
   refine⟨hi,rfl,fun j hj=> ?_⟩
   intro h
   have h:=(List.getElem_inj hn).1 h
   omega
  exact this
 ·rw[wp hi,if_neg (fun h=>by have:=hm _ h;omega),if_pos (by omega)]
  congr 1;omega
theorem qd9{bs:List Nat}{m x l:Nat}(h:unr bs m x=some l):rnm bs m l=x:=by
 unfold unr at h
 split at h
 ·rw[List.idxOf?_eq_some_iff]at h
  obtain⟨h1,h2,_⟩:=h
  exact ns (by rw[List.getElem?_eq_getElem h1,h2])
 ·split at h
  ·cases h
   rw[wp (by omega)];omega
  ·cases h
theorem rj{bs:List Nat}{m x:Nat}(h:unr bs m x=none):x ∉ bs/\x<m:=by
 unfold unr at h
 split at h
 ·rename_i hx
  rw[List.idxOf?_eq_none_iff]at h
  exact absurd hx h
 ·rename_i hx
  split at h
  ·cases h
  ·exact⟨hx,by omega⟩
end Go.Ab
