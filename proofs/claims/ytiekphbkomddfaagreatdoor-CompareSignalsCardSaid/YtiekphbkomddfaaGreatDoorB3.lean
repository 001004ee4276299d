/- The executor is sound, 6: slices: make, slice expressions, indexes, len, append. -/
import Derived.Test.YtiekphbkomddfaaGreatDoorB2
namespace Go.Ab
def vt(vs:List Value):List Value:=vs.flatMap fun v=>v.cells.toList
theorem j0{sz:Nat}:∀{vs:List Value},(∀v∈vs,v.cells.size=sz)->(vt vs).length=vs.length*sz
 | [],_=>by simp[vt]
 |v::r,h=>by
  have ih:=j0 (vs:=r) fun x hx=>h x (List.mem_cons_of_mem _ hx)
  have hv:=h v (List.mem_cons_self ..)
  simp only[vt]at ih
  simp only[vt,List.flatMap_cons,List.length_append,ih,List.length_cons,Array.length_toList,hv,Nat.add_mul,Nat.one_mul]
  omega
theorem wz{sz:Nat}:∀{vs:List Value},(∀v∈vs,v.cells.size=sz)->∀{i:Nat} {v:Value},vs[i]? = some v->∀{j:Nat},j<sz->(vt vs)[i*sz+j]? = v.cells[j]?
 | [],_,i,v,h,_,_=>by simp at h
 |u::r,h,i,v,hi,j,hj=>by
  have hu:=h u (List.mem_cons_self ..)
  simp only[vt,List.flatMap_cons]
  cases i with
  |zero =>
   simp only[List.getElem?_cons_zero,Option.some.injEq]at hi
   subst hi
   rw[Nat.zero_mul,Nat.zero_add,List.getElem?_append_left (by simp;omega)]
   simp
  |succ i =>
   have ih:=wz (vs:=r) (fun x hx=>h x (List.mem_cons_of_mem _ hx)) (i:=i) (v:=v) (by simpa using hi) hj
   rw[List.getElem?_append_right (by simp[hu,Nat.add_mul];omega)]
   rw[<-ih]
   simp only[vt,Array.length_toList,hu]
   congr 1
   rw[Nat.add_mul];omega
theorem R.listOpen{g:G}{n sz:Nat}{get:Nat->D}{own:Own}{v:Value}(h:R g (.list n sz get own) v):∃(a:Option Addr) (cap:Nat) (vs:List Value),v = .slice a n cap/\n<=cap/\n<=q8/\vs.length=n /\
  (∀i u,vs[i]? = some u->R g (get i) u/\u.cells.size=sz)/\(∀u∈vs,u.cells.size=sz)/\
  (0<n->∃p,a=some p/\p.spot=none/\∀(i:Nat) (u:Value),vs[i]? = some u->∀j,j<sz->g.σ ⟨p.block,p.off+i*sz+j,none⟩=u.cells[j]?)/\
  qfe g own n a cap/\∀i,i<n->ones (get i)=true:=by
 simp only[R]at h
 obtain⟨h1,a,cap,h2,h3,h4,h5⟩:=h
 have hx:∀i,∃u:Value,i<n->R g (get i) u/\u.cells.size=sz/\∀p,a=some p->p.spot=none/\∀j,j<sz->g.σ ⟨p.block,p.off+i*sz+j,none⟩=u.cells[j]? :=by
  intro i
  by_cases hi:i<n
  ·obtain⟨p,u,e1,e2,e3,e4,e5⟩:=h5 i hi
   exact⟨u,fun _=>⟨e3,e4.1,fun p' hp'=>by rw[e1]at hp';cases hp';exact⟨e2,e5⟩⟩⟩
  ·exact⟨undef,fun h=>absurd h hi⟩
 let f:Nat->Value:=fun i=>Classical.choose (hx i)
 have hf:∀i,i<n->R g (get i) (f i)/\(f i).cells.size=sz/\∀p,a=some p->p.spot=none/\∀j,j<sz->g.σ ⟨p.block,p.off+i*sz+j,none⟩=(f i).cells[j]? :=fun i=>Classical.choose_spec (hx i)
 have hget:∀i u,((List.range n).map f)[i]? = some u->i<n/\u=f i:=by
  intro i u hu
  rw[List.getElem?_map]at hu
  by_cases hi:i<n
  ·rw[List.getElem?_range hi]at hu;simp at hu;exact⟨hi,hu.symm⟩
  ·rw[List.getElem?_eq_none (by simpa using hi)]at hu;cases hu
 refine⟨a,cap,(List.range n).map f,h2,h3,h1,by simp,fun i u hu=> ?_,fun u hu=> ?_,fun hn=> ?_,h4,fun i hi=>by obtain⟨_,_,_,_,_,e4,_⟩:=h5 i hi;exact e4.2⟩
 ·obtain⟨hi,rfl⟩:=hget i u hu
  exact⟨(hf i hi).1,(hf i hi).2.1⟩
 ·obtain⟨i,hi,rfl⟩:=List.mem_map.1 hu
  exact(hf i (by simpa using hi)).2.1
 ·obtain⟨p,u,e1,e2,_⟩:=h5 0 hn
  refine⟨p,e1,e2,fun i u hu j hj=> ?_⟩
  obtain⟨hi,rfl⟩:=hget i u hu
  exact((hf i hi).2.2 p e1).2 j hj
theorem su {g : G} {w : World} (sub : ∀ a v, g.σ a = some v -> w.cell? a = some v /\ a.spot = none) {sz : Nat} {vs : List Value} (hsz : ∀ u ∈ vs, u.cells.size = sz) {p : Addr} (hp : p.spot = none)
    (hc : ∀ (i : Nat) (u : Value), vs[i]? = some u -> ∀ j, j < sz -> g.σ ⟨p.block, p.off + i * sz + j, none⟩ = u.cells[j]?) : ∀ k v, (vt vs)[k]? = some v -> w.cell? (p.add k) = some v := by
  intro k v hv
  have hlen := j0 hsz
  have hk : k < vs.length * sz := by
    rcases Nat.lt_or_ge k (vt vs).length with h | h
    · rw [<- hlen]; exact h
    · rw [List.getElem?_eq_none h] at hv; cases hv
  have hsp : 0 < sz := by rcases Nat.eq_zero_or_pos sz with h | h; · subst h; simp at hk
                          · exact h
  have hi : k / sz < vs.length := Nat.div_lt_of_lt_mul (by rw [Nat.mul_comm]; exact hk)
  have hj : k % sz < sz := Nat.mod_lt _ hsp
  have he : k / sz * sz + k % sz = k := Nat.div_add_mod' k sz
  have h1 := wz hsz (List.getElem?_eq_getElem hi) hj
  rw [he, hv] at h1
  have h2 := hc _ _ (List.getElem?_eq_getElem hi) _ hj
  rw [<- h1] at h2
  have h3 := (sub _ _ h2).1
  have : p.add k = ⟨p.block, p.off + k / sz * sz + k % sz, none⟩ := by
    have hp' : p = ⟨p.block, p.off, none⟩ := by cases p; simp_all
    rw [hp', j5]; simp only; rw [Nat.add_assoc, he]
  rw [this]; exact h3
section
variable {P:Program} {n:Nat} {g:G} {β:Nat->Nat} {U:Nat->Prop} {y:Nat->Bool->Prop} {st:St} {a:Act} {w:World} {ev:Operand->D} {o:Oper}
theorem ze(e:Ev g β st.sl a ev){x:Operand}:∀d,ev x=d->isD d=true->R g d (a.eval x):=fun d h1 h2=>by rw[<-h1];exact e.data (by rw[h1];exact h2)
theorem qaw[Lay](r:Rel n g β U y st a w)(e:Ev g β st.sl a ev){t:Nat}{x i:Operand}(ho:o.op = .indexAddr t x i):j6 P n g β U y st a w o (zz P st.h t (ev x) (ev i)):=by
 unfold zz
 split
 ·rename_i el tt m z k q hu hx hi
  have h1:=ze e _ hx rfl
  have h2:=ze e _ hi rfl
  simp only[R]at h1 h2
  split
  ·rename_i sz f hz hv
   cases hb:Nat.beq z sz with
   |false=>trivial
   |true =>
    have:=qq.1 hb;subst this
    simp only[cond_true]
    refine xq r rfl fun hp=> ?_
    obtain⟨h3,ba,cap,h4,h5,kk,h6,h7,h8,h9⟩:=h1
    obtain⟨k',e1,e2,e3⟩:=r.inv.tok tt m hp.1
    rw[h6]at e1;cases e1
    obtain⟨h10,h11⟩:=h9 e2.symm
    have hcap:0<kk.cap:=by omega
    rw[hv]at e3
    obtain⟨b,c1,_⟩:=e3 hcap
    rw[c1]at h10
    subst h10
    refine⟨.pointer (some ⟨b,q.toNat*z,none⟩),?_,?_⟩
    ·simp only[execOp,ho,Instr.indexAt,h2,h4,asIntOf,Sem.run_bind,Sem.run_pure,Result.andThen_ok,run_underlying hu]
     rw[if_pos hp.2]
     simp[jo hz,j5]
    ·simp only[R]
     exact⟨b,_,rfl,by omega,kk,h6,h7,h8,fun _=>⟨c1,by omega,hcap⟩⟩
  ·trivial
 ·rename_i el m z f own k q hu hx hi
  have h1:=ze e _ hx rfl
  have h2:=ze e _ hi rfl
  simp only[R]at h2
  split
  ·rename_i sz hz
   cases hb:Nat.beq z sz with
   |false=>trivial
   |true =>
    have:=qq.1 hb;subst this
    simp only[cond_true]
    refine xq r rfl fun hp=> ?_
    obtain⟨base,cap,vs,h3,h4,h5,h6,h7,h8,h9,_⟩:=h1.listOpen
    have hq:q.toNat<m:=by omega
    obtain⟨p,hp1,hp2,hp3⟩:=h9 (by omega)
    subst hp1
    have hv:=List.getElem?_eq_getElem (l:=vs) (i:=q.toNat) (by omega)
    obtain⟨hr,hs⟩:=h7 _ _ hv
    refine⟨.pointer (some (p.add (q.toNat*z))),?_,?_⟩
    ·simp only[execOp,ho,Instr.indexAt,h2,h3,asIntOf,Sem.run_bind,Sem.run_pure,Result.andThen_ok,run_underlying hu]
     rw[if_pos hp]
     simp[jo hz]
    ·simp only[R]
     have hpe:p=⟨p.block,p.off,none⟩:=by cases p;simp_all
     refine⟨p.add (q.toNat*z),_,rfl,by rw[hpe,j5],hr.cells,fun j hj=> ?_⟩
     have hj':j<z:=by simpa[hs] using hj
     rw[hpe,j5]
     simp only
     rw[hp3 _ _ hv j hj']
     simp
  ·trivial
 ·rename_i el b off m k q hu hx hi
  have h1:=ze e _ hx rfl
  have h2:=ze e _ hi rfl
  simp only[R]at h1 h2
  split
  ·rename_i sz hz
   refine xq r rfl fun hp=> ?_
   obtain⟨c,h3,ba,cap,h4,h5,h6,h7⟩:=h1
   have hba:=h7 (by omega)
   refine⟨.pointer (some ⟨c,off+q.toNat*sz,none⟩),?_,by simp only[R];exact⟨c,h3,rfl⟩⟩
   simp only[execOp,ho,Instr.indexAt,h2,h4,hba,asIntOf,Sem.run_bind,Sem.run_pure,Result.andThen_ok,run_underlying hu]
   rw[if_pos hp]
   simp[jo hz,j5]
  ·trivial
 ·rename_i len el k q hu hi
  have h2:=ze e _ hi rfl
  simp only[R]at h2
  split
  ·rename_i sz hz
   cases hb:(decide (0<=q)&&decide (q<(len:Int))) with
   |false=>trivial
   |true =>
    simp only[cond_true]
    have hp:0<=q/\q<(len:Int):=by simpa using hb
    have key:∀{b c:Nat},a.eval x = .pointer (some ⟨b,c,none⟩)->(execOp a.eval o).run P w = .ok (.value (.pointer (some ⟨b,c+q.toNat*sz,none⟩))) w:=fun hx=>by
     simp only[execOp,ho,Instr.indexAt,h2,hx,asIntOf,Sem.run_bind,Sem.run_pure,Result.andThen_ok,run_underlying hu,Instr.sureAddr]
     rw[if_pos hp]
     simp[jo hz,j5]
    cases hx:ev x with
    |lp s c =>
     have h0:=e.ok x (by rw[hx];simp)
     rw[hx]at h0
     exact qjr r (key h0) rfl (e.base x s c hx)
    |bp l c =>
     have h0:=e.data (x:=x) (by rw[hx];rfl)
     rw[hx]at h0
     simp only[R]at h0
     obtain⟨b,h1,h3⟩:=h0
     exact qt r (key h3) (by simp only[R];exact⟨b,h1,rfl⟩)
    |ep cs =>
     have h0:=e.data (x:=x) (by rw[hx];rfl)
     rw[hx]at h0
     simp only[R]at h0
     obtain⟨p,vs,h1,h3,h4,h5⟩:=h0
     have h6:a.eval x = .pointer (some ⟨p.block,p.off,none⟩):=by rw[h1];cases p;simp_all
     refine qt r (key h6) ?_
     simp only[R]
     refine⟨⟨p.block,p.off+q.toNat*sz,none⟩,vs.drop (q.toNat*sz),rfl,rfl,h4.drop _,fun j hj=> ?_⟩
     rw[List.length_drop]at hj
     rw[List.getElem?_drop,<-h5 (q.toNat*sz+j) (by omega)]
     simp[Nat.add_assoc]
    |_=>trivial
  ·trivial
 ·trivial
theorem vd{k:IntKind}{q:Int}{m:Nat}{c:BoundsCode}(h:0<=q/\q<=m):(Instr.sliceBound (.int k q) m c).run P w = .ok q.toNat w:=by
 simp only[Instr.sliceBound,asIntOf,Sem.run_bind,Sem.run_pure,Result.andThen_ok]
 rw[if_pos h];rfl
theorem R.part{g:G}{m z:Nat}{f:Nat->D}{own own':Own}{v:Value}(h:R g (.list m z f own) v){l k:Nat}(hl:l+k<=m){p':Option Addr}{cap':Nat}
  (hp:∀p,0<m->(∃cap,v = .slice (some p) m cap)->p.spot=none->0<k->p'=some (p.add (l*z))) (hk:k<=cap') (ho:qfe g own' k p' cap'):R g (.list k z (jx f l) own') (.slice p' k cap'):=by
 obtain⟨base,cap,vs,h1,h2,h3,h4,h5,h6,h7,_,h8⟩:=h.listOpen
 simp only[R]
 refine⟨by omega,p',cap',rfl,hk,ho,fun i hi=> ?_⟩
 obtain⟨p,e1,e2,e3⟩:=h7 (by omega)
 have hv:=List.getElem?_eq_getElem (l:=vs) (i:=l+i) (by omega)
 obtain⟨hr,hs⟩:=h5 _ _ hv
 have hpe:p=⟨p.block,p.off,none⟩:=by cases p;simp_all
 refine⟨p.add (l*z),_,hp p (by omega) ⟨cap,by rw[h1,e1]⟩ e2 (by omega),by rw[hpe,j5],hr,⟨hs,h8 (l+i) (by omega)⟩,fun j hj=> ?_⟩
 rw[hpe,j5]
 simp only
 rw[<-e3 _ _ hv j hj,Nat.add_mul]
 congr 2
 omega
theorem bu{t:Nat}{x:Operand}{lo hi mx:Option Operand}(ho:o.op = .slice t x lo hi mx){d:TypeDesc}(hu:P.underlying t=some d)(hd:∀n e,d≠ .array n e){v:Value}
  (hr:(Instr.slice t (a.eval x) (lo.map a.eval) (hi.map a.eval) (mx.map a.eval)).run P w = .ok v w):(execOp a.eval o).run P w = .ok (.value v) w:=by
 simp only[execOp,ho,Instr.sliceAt,Sem.run_bind,run_underlying hu,Result.andThen_ok]
 cases d <;> first
  |exact absurd rfl (hd _ _)
  |(simp only[hr,Result.andThen_ok,Sem.run_pure])
def qn4(ev:Operand->D)(hi:Option Operand)(h dflt:Nat):Prop:=(hi=none->h=dflt)/\∀x,hi=some x->∃k,ev x = .int k h
theorem u3(e:Ev g β st.sl a ev){isS:Bool}{len cap:Nat}{lo hi mx:Option Operand}{l h m:Nat}{lz:Int}(hl:qob (lo.map ev)=some lz)(hle:lz=l)
  (hh:qn4 ev hi h len) (hm:qn4 ev mx m cap) (hne:mx≠none->hi≠none) (b1:l<=h) (b2:h<=m) (b3:m<=cap) :
  (Instr.sliceBounds isS len cap (lo.map a.eval) (hi.map a.eval) (mx.map a.eval)).run P w = .ok (l,h,m) w:=by
 have conv:∀x k (q:Nat),ev x = .int k q->a.eval x = .int k q:=fun x k q hx=>by have:=ze e _ hx rfl;simpa only[R] using this
 have lowc:∀x,lo=some x->∃k,a.eval x = .int k l:=by
  intro x hx
  subst hx
  simp only[Option.map_some]at hl
  cases hev:ev x with
  |int k q =>
   rw[hev]at hl
   simp only[qob,Option.some.injEq]at hl
   subst hl;subst hle
   exact⟨k,conv x k l hev⟩
  |_=>rw[hev]at hl;cases hl
 have low0:lo=none->l=0:=by
  intro hx;subst hx
  simp only[Option.map_none,qob,Option.some.injEq]at hl
  omega
 unfold Instr.sliceBounds
 cases mx with
 |none =>
  have hm:=hm.1 rfl;subst hm
  cases hi with
  |none =>
   have hh:=hh.1 rfl;subst hh
   cases lo with
   |none=>have:=low0 rfl;subst this;simp
   |some x =>
    obtain⟨k,hk⟩:=lowc x rfl
    have h1:=vd (P:=P) (w:=w) (k:=k) (q:=(l:Int)) (m:=h) (c:= .sliceB) (by omega)
    simp[hk,h1]
  |some z =>
   obtain⟨k2,hz⟩:=hh.2 z rfl
   have hz':=conv z k2 h hz
   have h2:=vd (P:=P) (w:=w) (k:=k2) (q:=(h:Int)) (m:=m) (c:=if isS then .sliceAcap else .sliceAlen) (by omega)
   cases lo with
   |none=>have:=low0 rfl;subst this;cases isS <;> simp_all
   |some x =>
    obtain⟨k,hk⟩:=lowc x rfl
    have h1:=vd (P:=P) (w:=w) (k:=k) (q:=(l:Int)) (m:=h) (c:= .sliceB) (by omega)
    cases isS <;> simp_all
 |some u =>
  obtain⟨k3,hu⟩:=hm.2 u rfl
  have hne:=hne (by simp)
  have hu':=conv u k3 m hu
  have h3:=vd (P:=P) (w:=w) (k:=k3) (q:=(m:Int)) (m:=cap) (c:=if isS then .slice3Acap else .slice3Alen) (by omega)
  cases hi with
  |none=>exact absurd rfl hne
  |some z =>
   obtain⟨k2,hz⟩:=hh.2 z rfl
   have hz':=conv z k2 h hz
   have h2:=vd (P:=P) (w:=w) (k:=k2) (q:=(h:Int)) (m:=m) (c:= .slice3B) (by omega)
   cases lo with
   |none=>have:=low0 rfl;subst this;cases isS <;> simp_all
   |some x =>
    obtain⟨k,hk⟩:=lowc x rfl
    have h1:=vd (P:=P) (w:=w) (k:=k) (q:=(l:Int)) (m:=h) (c:= .slice3C) (by omega)
    cases isS <;> simp_all
theorem my[Lay](_r:Rel n g β U y st a w)(e:Ev g β st.sl a ev){t el:Nat}{x:Operand}{lo hi mx:Option Operand}(ho:o.op = .slice t x lo hi mx)(hu:P.underlying t=some (.slice el)){m z sz:Nat}{f:Nat->D}{own own':Own}
  (hx:ev x = .list m z f own) (hz:ya P el=some sz) (hzz:0<m->z=sz) {l h:Nat} {lz:Int} (hl:qob (lo.map ev)=some lz) (hle:lz=l) (hh:qn4 ev hi h m)
  (hmx:(mx=none/\own' = .none)\/(∃u k,mx=some u/\ev u = .int k h/\hi≠none/\own' = .full)) (b1:l<=h) (b2:h<=m) :
  ∃v,(execOp a.eval o).run P w = .ok (.value v) w/\R g (.list (h-l) z (jx f l) own') v:=by
 have h1:=ze e _ hx rfl
 obtain⟨base,cap,vs,h2,h3,_⟩:=h1.listOpen
 have hbnd:∃mm,h<=mm/\mm<=cap/\(Instr.sliceBounds true m cap (lo.map a.eval) (hi.map a.eval) (mx.map a.eval)).run P w = .ok (l,h,mm) w/\qfe g own' (h-l) (if mm=l then base else base.map (·.add (l*sz))) (mm-l):=by
  rcases hmx with ⟨rfl,rfl⟩|⟨u,k,rfl,hk,hne,rfl⟩
  ·exact⟨cap,by omega,Nat.le_refl _,u3 e hl hle hh ⟨fun _=>rfl,fun x hx=>by cases hx⟩ (fun h=>absurd rfl h) b1 (by omega) (Nat.le_refl _),trivial⟩
  ·exact⟨h,Nat.le_refl _,by omega,u3 e hl hle hh ⟨(fun hx=>by cases hx),(fun x hx=>by cases hx;exact⟨k,hk⟩)⟩ (fun _=>hne) b1 (Nat.le_refl _) (by omega),rfl⟩
 obtain⟨mm,b3,b4,hb,hown⟩:=hbnd
 refine⟨.slice (if mm=l then base else base.map (·.add (l*sz))) (h-l) (mm-l),bu ho hu (by intro _ _ h;cases h) ?_,?_⟩
 ·rw[h2]
  simp only[Instr.slice,Sem.run_bind,run_underlying hu,Result.andThen_ok,hb,jo hz,Sem.run_pure]
 ·refine R.part h1 (by omega) (fun p hm hv hp hk=> ?_) (by omega) hown
  obtain⟨c,hc⟩:=hv
  rw[h2]at hc
  cases hc
  rw[if_neg (by omega),hzz hm];rfl
theorem qjy[Lay](r:Rel n g β U y st a w)(e:Ev g β st.sl a ev){t:Nat}{x:Operand}{lo hi mx:Option Operand}(ho:o.op = .slice t x lo hi mx) :
  j6 P n g β U y st a w o (so P t (ev x) (lo.map ev) (hi.map ev) (mx.map ev)):=by
 have mapNone:∀{z:Option Operand},z.map ev=none->z=none:=fun h=>by simpa using h
 have mapSome:∀{z:Option Operand} {d:D},z.map ev=some d->∃q,z=some q/\ev q=d:=fun h=>by simpa using h
 unfold so
 split
 ·rename_i el m z f own l hu hx hl
  split
  ·rename_i sz hz
   cases hb:(bif Nat.beq z sz then true else Nat.beq m 0) with
   |false=>trivial
   |true =>
    have hzz:0<m->z=sz:=fun hm=>by
     cases hb1:Nat.beq z sz with
     |true=>exact qq.1 hb1
     |false=>rw[hb1]at hb;have:=qq.1 hb;omega
    simp only[cond_true]
    split
    ·rename_i h1 h2 h3
     have e1:=mapNone h1;have e2:=mapNone h2;have e3:=mapNone h3
     subst e1;subst e2;subst e3
     have h4:=ze e _ hx rfl
     obtain⟨base,cap,vs,h5,h6,_⟩:=h4.listOpen
     refine qt r (v:=a.eval x) (bu ho hu (by intro _ _ h;cases h) ?_) h4
     have hbnd:=u3 (P:=P) (w:=w) (len:=m) (cap:=cap) (isS:=true) (lo:=none) (hi:=none) (mx:=none) (l:=0) (h:=m) (m:=cap) e rfl rfl ⟨fun _=>rfl,fun _ h=>by cases h⟩ ⟨fun _=>rfl,fun _ h=>by cases h⟩ (fun h=>absurd rfl h) (Nat.zero_le _) h6 (Nat.le_refl _)
     rw[h5]
     simp only[Option.map_none]at hbnd⊢
     simp only[Instr.slice,Sem.run_bind,run_underlying hu,Result.andThen_ok,hbnd,jo hz,Sem.run_pure]
     simp[Addr.add]
    ·rename_i d h1 h2 h3
     have e2:=mapNone h2;have e3:=mapNone h3
     subst e2;subst e3
     refine xq r rfl fun hp=> ?_
     have:=my (own':= .none) (l:=l.toNat) (h:=m) r e ho hu hx hz hzz hl (by omega) ⟨fun _=>rfl,fun _ h=>by cases h⟩ (.inl ⟨rfl,rfl⟩) (by omega) (Nat.le_refl _)
     exact this
    ·rename_i k h h2 h3
     have e3:=mapNone h3
     obtain⟨q,e2,hq⟩:=mapSome h2
     subst e2;subst e3
     refine xq r rfl fun hp=> ?_
     exact my (own':= .none) (l:=l.toNat) (h:=h.toNat) r e ho hu hx hz hzz hl (by omega) ⟨(fun h=>by cases h),(fun y hy=>by cases hy;exact⟨k,by rw[hq];congr 1;omega⟩)⟩ (.inl ⟨rfl,rfl⟩) (by omega) (by omega)
    ·rename_i k h k' mm h2 h3
     obtain⟨q,e2,hq⟩:=mapSome h2
     obtain⟨q',e3,hq'⟩:=mapSome h3
     subst e2;subst e3
     refine xq r rfl fun hp=> ?_
     exact my (own':= .full) (l:=l.toNat) (h:=h.toNat) r e ho hu hx hz hzz hl (by omega) ⟨(fun h=>by cases h),(fun y hy=>by cases hy;exact⟨k,by rw[hq];congr 1;omega⟩)⟩ (.inr ⟨q',k',rfl,by rw[hq'];congr 1;omega,by simp,rfl⟩) (by omega) (by omega)
    ·trivial
  ·trivial
 ·rename_i el b off m l hu hx hl
  have h4:=ze e _ hx rfl
  simp only[R]at h4
  obtain⟨c,h5,ba,cap,h6,h7,h8,h9⟩:=h4
  have key:∀{sz:Nat} {h mm:Nat},ya P el=some sz->0<=l->l.toNat<=h->h<=m->qn4 ev hi h m->qn4 ev mx mm cap->(mx≠none->hi≠none)->h<=mm->mm<=cap->∃v,(execOp a.eval o).run P w = .ok (.value v) w/\R g (.sl b (off+l.toNat*sz) (h-l.toNat)) v:=by
   intro sz h mm hz hl0 b1 b2 hh hm hne b3 b4
   have hbnd:=u3 (P:=P) (w:=w) (len:=m) (cap:=cap) (isS:=true) (lo:=lo) (hi:=hi) (mx:=mx) (l:=l.toNat) (h:=h) (m:=mm) e hl (by omega) hh hm hne b1 b3 b4
   refine⟨.slice (if mm=l.toNat then ba else ba.map (·.add (l.toNat*sz))) (h-l.toNat) (mm-l.toNat),bu ho hu (by intro _ _ h;cases h) ?_,?_⟩
   ·rw[h6]
    simp only[Instr.slice,Sem.run_bind,run_underlying hu,Result.andThen_ok,hbnd,jo hz,Sem.run_pure]
   ·simp only[R]
    refine⟨c,h5,_,_,rfl,by omega,by omega,fun hc=> ?_⟩
    rw[if_neg (by omega),h9 (by omega)]
    simp[j5]
  split
  ·rename_i sz hz h2 h3
   have e2:=mapNone h2;have e3:=mapNone h3
   refine xq r rfl fun hp=> ?_
   exact key (mm:=cap) hz hp.1 (by omega) (Nat.le_refl _) ⟨fun _=>rfl,fun y hy=>by rw[e2]at hy;cases hy⟩ ⟨fun _=>rfl,fun y hy=>by rw[e3]at hy;cases hy⟩ (fun h=>absurd e3 h) h7 (Nat.le_refl _)
  ·rename_i sz k h hz h2 h3
   have e3:=mapNone h3
   obtain⟨q,e2,hq⟩:=mapSome h2
   refine xq r rfl fun hp=> ?_
   exact key (mm:=cap) hz hp.1 (by omega) (by omega) ⟨(fun h=>by rw[e2]at h;cases h),(fun y hy=>by rw[e2]at hy;cases hy;exact⟨k,by rw[hq];congr 1;omega⟩)⟩ ⟨fun _=>rfl,fun y hy=>by rw[e3]at hy;cases hy⟩ (fun h=>absurd e3 h) (by omega) (Nat.le_refl _)
  ·rename_i sz k h k' mm hz h2 h3
   obtain⟨q,e2,hq⟩:=mapSome h2
   obtain⟨q',e3,hq'⟩:=mapSome h3
   refine xq r rfl fun hp=> ?_
   exact key (mm:=h.toNat) hz hp.1 (by omega) (by omega) ⟨(fun h=>by rw[e2]at h;cases h),(fun y hy=>by rw[e2]at hy;cases hy;exact⟨k,by rw[hq];congr 1;omega⟩)⟩ ⟨(fun h=>by rw[e3]at h;cases h),(fun y hy=>by rw[e3]at hy;cases hy;exact⟨k',by rw[hq'];congr 1;omega⟩)⟩ (fun _=>by rw[e2];simp) (Nat.le_refl _) (by omega)
  ·trivial
 ·rename_i s l hu hx hl
  have h4:=ze e _ hx rfl
  simp only[R]at h4
  have hsz:((⟨s.toArray⟩:ByteArray).size)=s.length:=by simp[ByteArray.size]
  have key:∀{h:Nat},0<=l->l.toNat<=h->h<=s.length->qn4 ev hi h s.length->mx=none->∃v,(execOp a.eval o).run P w = .ok (.value v) w/\R g (.str ((s.take h).drop l.toNat)) v:=by
   intro h hl0 b1 b2 hh hmx
   subst hmx
   have hbnd:=u3 (P:=P) (w:=w) (len:=s.length) (cap:=s.length) (isS:=false) (lo:=lo) (hi:=hi) (mx:=none) (l:=l.toNat) (h:=h) (m:=s.length) e hl (by omega) hh ⟨fun _=>rfl,fun _ h=>by cases h⟩ (fun h=>absurd rfl h) b1 b2 (Nat.le_refl _)
   refine⟨.string ((⟨s.toArray⟩:ByteArray).extract l.toNat h),bu ho hu (by intro _ _ h;cases h) ?_,?_⟩
   ·rw[h4.1]
    simp only[Option.map_none]at hbnd
    simp[Instr.slice,run_underlying hu,hsz,hbnd]
   ·simp only[R]
    refine⟨?_,by simp;omega⟩
    congr 1
    apply ByteArray.ext
    apply Array.ext'
    simp[ByteArray.data_extract,List.extract_eq_take_drop,List.drop_take]
  split
  ·rename_i h2 h3
   have e2:=mapNone h2;have e3:=mapNone h3
   refine xq r rfl fun hp=> ?_
   have:=key (h:=s.length) hp.1 (by omega) (Nat.le_refl _) ⟨fun _=>rfl,fun y hy=>by rw[e2]at hy;cases hy⟩ e3
   simpa using this
  ·rename_i k h h2 h3
   have e3:=mapNone h3
   obtain⟨q,e2,hq⟩:=mapSome h2
   refine xq r rfl fun hp=> ?_
   exact key (h:=h.toNat) hp.1 (by omega) (by omega) ⟨(fun h=>by rw[e2]at h;cases h),(fun y hy=>by rw[e2]at hy;cases hy;exact⟨k,by rw[hq];congr 1;omega⟩)⟩ e3
  ·trivial
 ·trivial
end
def zt(g:G)(t b:Nat)(vals:Array Value)(k:Tok):G :=
 {g with
  σ:=fun x=>if x.block=b then(if x.spot=none/\x.off<k.n*k.sz then vals[x.off]? else none) else g.σ x
  τ:=upd g.τ t (some k)}
theorem xd[Lay]{g:G}{U:Nat->Prop}{h:Heap}{w:World}(i:Inv g U h w):Ext g w g w.drew:=⟨G.le.refl g,rfl,rfl,fun _ _ e=> .inl e,i.sub,⟨rfl,rfl,rfl,Nat.le_refl _,fun _ _=>rfl⟩⟩
section
variable {P:Program} {n:Nat} {g:G} {β:Nat->Nat} {U:Nat->Prop} {y:Nat->Bool->Prop} {st:St} {a:Act} {w:World} {ev:Operand->D} {o:Oper}
def qdw(h:Heap)(t m nt:Nat):Heap:={h with hw:=upd h.hw t (some m),nt:=nt}
theorem Rel.newTok[Lay](r:Rel n g β U y st a w){t nt:Nat}{vals:Array Value}{T:Nat}{k:Tok}(ha:k.a=some ⟨w.heap.size,0,none⟩)(hnc:k.n<=k.cap)(hv:k.cap*k.sz<=vals.size/\T=k.ty)
  (ht:t<nt) (hnt:st.h.nt<=nt) (hvt:st.h.vw t=none) (hle:∀k0,g.τ t=some k0->k0.sz=k.sz/\k0.n<k.n) :
  Rel n (zt g t w.heap.size vals k) β U y {st with h:=qdw st.h t k.n nt} a (w.alloc (.cells vals T (0,0)))/\G.le g (zt g t w.heap.size vals k):=by
 have r1:=r.ext (Ext.alloc r.inv (.cells vals T (0,0)))
 have i:=r1.inv
 have le:G.le g (zt g t w.heap.size vals k):=by
  refine⟨fun x v e=> ?_,fun _ _ e=>e,fun t' k0 e=> ?_⟩
  ·have:=r.inv.cellLt e
   simp only[zt];rw[if_neg (by omega)];exact e
  ·by_cases hx:t'=t
   ·subst hx
    obtain⟨h1,h2⟩:=hle k0 e
    exact⟨k,by simp[zt,qb],h1.symm,by omega,fun h=>by omega⟩
   ·exact⟨k0,by simp only[zt,qd _ _ hx];exact e,rfl,Nat.le_refl _,fun _=>rfl⟩
 have hspare:k.n*k.sz<=vals.size:=Nat.le_trans (Nat.mul_le_mul_right _ hnc) hv.1
 have σold:∀{x:Addr} {v:Value},(zt g t w.heap.size vals k).σ x=some v->(x.block=w.heap.size/\x.spot=none/\x.off<k.n*k.sz/\vals[x.off]? = some v)\/(x.block≠w.heap.size/\g.σ x=some v):=by
  intro x v e
  simp only[zt]at e
  split at e
  ·rename_i hb
   split at e
   ·rename_i hc;exact .inl ⟨hb,hc.1,hc.2,e⟩
   ·cases e
  ·rename_i hb;exact .inr ⟨hb,e⟩
 have tokOld:∀{t':Nat} {k':Tok},t'≠t->(zt g t w.heap.size vals k).τ t'=some k'->g.τ t'=some k':=fun hx e=>by simpa only[zt,qd _ _ hx] using e
 have spareLt:∀{t' m b:Nat} {k':Tok},st.h.hw t'=some m->g.τ t'=some k'->gq k' (st.h.vw t')->k'.a=some ⟨b,0,none⟩->b<w.heap.size:=by
  intro t' m b k' e1 e2 e3 e4
  obtain⟨k0,f1,f2,f3⟩:=r.inv.tok t' m e1
  have:k0=k':=by rw[f1]at e2;cases e2;rfl
  subst this
  obtain⟨b',g1,g2,_⟩:=(f3 e3).blockLt
  rw[g1]at e4;cases e4;exact g2
 refine⟨⟨r1.defers,r1.size,r1.keys,fun s d h=>(r1.slot s d h).mono le,r1.base,fun s cs h=> ?_,r1.ownInj,?_⟩,le⟩
 ·obtain⟨h1,h2,h3,h4,h5⟩:=r1.own s cs h
  have hlt:=(r.own s cs h).1.lt
  refine⟨h1.mono le rfl,h2,fun x v e=> ?_,h4,fun t' m k' e1 e2 e3 e4=> ?_⟩
  ·rcases σold e with ⟨hb,_⟩|⟨_,he⟩
   ·omega
   ·exact h3 x v he
  ·by_cases hx:t'=t
   ·subst hx
    simp only[zt,qb,Option.some.injEq]at e2
    subst e2
    rw[ha]at e4;simp at e4
   ·exact h5 t' m k' (by simpa only[qdw,qd _ _ hx] using e1) (tokOld hx e2) e3 e4
 ·refine⟨fun x v e=> ?_,i.ub,i.muLt,fun l row e=> ?_,i.boxInj,fun t' m e=> ?_,fun t' m k' b l e1 e2 e3 e4 e5=> ?_,fun t1 t2 m1 m2 k1 k2 b e1 e2 f1 f2 g1 g2 c1 c2=> ?_,i.frL,fun t' ht'=> ?_,fun t' (ht':nt<=t')=>i.frV t' (by show st.h.nt<=t';omega),i.ltab.mono le⟩
  ·rcases σold e with ⟨hb,hs,hl,hv'⟩|⟨_,he⟩
   ·refine⟨?_,hs⟩
    simp only[World.cell?,hb,jh,hs]
    simpa using hv'
   ·exact i.sub x v he
  ·obtain⟨b,e1,e2,e3,e4⟩:=i.box l row e
   refine⟨b,e1,e2.mono le rfl,e3,fun x v hx=> ?_⟩
   rcases σold hx with ⟨hb,_⟩|⟨_,he⟩
   ·have:=r.inv.muLt l b e1;omega
   ·exact e4 x v he
  ·by_cases hx:t'=t
   ·subst hx
    have e':upd st.h.hw t' (some k.n) t'=some m:=e
    rw[qb]at e';cases e'
    refine⟨k,by simp[zt,qb],rfl,fun _=> ?_⟩
    show TokAt _ _ _ _ (st.h.vw t')
    rw[hvt]
    refine⟨w.heap.size,ha,fun hu=>absurd (r.inv.ub _ hu) (by omega),T,vals,RowB.of (jh w _),hv,fun j hj=> ?_,fun _ h=>by cases h⟩
    simp only[sd]at hj
    simp only[zt,if_true]
    rw[if_neg (by simp;omega)]
   ·have e':upd st.h.hw t (some k.n) t'=some m:=e
    rw[qd _ _ hx]at e'
    obtain⟨k',f1,f2,f3⟩:=i.tok t' m e'
    refine⟨k',by simp only[zt,qd _ _ hx];exact f1,f2,fun hk=> ?_⟩
    refine(f3 hk).mono le fun b c1 _=>⟨rfl,fun j hj=> ?_⟩
    have hlt:=spareLt e' f1 hk c1
    simp only[zt];rw[if_neg (by omega)];exact hj
  ·by_cases hx:t'=t
   ·subst hx
    simp only[zt,qb,Option.some.injEq]at e2
    subst e2
    rw[ha]at e4
    intro e6
    have:=r.inv.muLt l b e6
    simp at e4
   ·exact i.tokBox t' m k' b l (by simpa only[qdw,qd _ _ hx] using e1) (tokOld hx e2) e3 e4 e5
  ·by_cases hx1:t1=t
   ·by_cases hx2:t2=t
    ·rw[hx1,hx2]
    ·subst hx1
     simp only[zt,qb,Option.some.injEq]at f1
     subst f1
     rw[ha]at c1;simp at c1
     have:=spareLt (by simpa only[qdw,qd _ _ hx2] using e2) (tokOld hx2 f2) g2 c2
     omega
   ·by_cases hx2:t2=t
    ·subst hx2
     simp only[zt,qb,Option.some.injEq]at f2
     subst f2
     rw[ha]at c2;simp at c2
     have:=spareLt (by simpa only[qdw,qd _ _ hx1] using e1) (tokOld hx1 f1) g1 c1
     omega
    ·exact i.tokInj t1 t2 m1 m2 k1 k2 b (by simpa only[qdw,qd _ _ hx1] using e1) (by simpa only[qdw,qd _ _ hx2] using e2) (tokOld hx1 f1) (tokOld hx2 f2) g1 g2 c1 c2
  ·have ht'':nt<=t':=ht'
   simp only[zt]
   rw[qd _ _ (by omega)]
   exact i.frT t' (by omega)
theorem Rel.idleTok[Lay](r:Rel n g β U y st a w){t:Nat}{k:Tok}(hk:¬k.n<k.cap)(ht:st.h.nt=t) :
  Rel n {g with τ:=upd g.τ t (some k)} β U y {st with h:=qdw st.h t k.n (t+1)} a w/\G.le g {g with τ:=upd g.τ t (some k)}:=by
 have i:=r.inv
 have hvt:=i.frV t (by omega)
 have hnone:=i.frT t (by omega)
 have le:G.le g {g with τ:=upd g.τ t (some k)}:=by
  refine⟨fun _ _ e=>e,fun _ _ e=>e,fun t' k0 e=> ?_⟩
  have hx:t'≠t:=fun h=>by subst h;rw[hnone]at e;cases e
  exact⟨k0,by simp only[qd _ _ hx];exact e,rfl,Nat.le_refl _,fun _=>rfl⟩
 have tokOld:∀{t' m:Nat} {k':Tok},(qdw st.h t k.n (t+1)).hw t'=some m->upd g.τ t (some k) t'=some k'->gq k' (st.h.vw t')->st.h.hw t'=some m/\g.τ t'=some k':=by
  intro t' m k' e1 e2 e3
  by_cases hx:t'=t
  ·subst hx
   rw[qb]at e2;cases e2;rw[hvt]at e3;exact absurd e3 hk
  ·exact⟨by simpa only[qdw,qd _ _ hx] using e1,by simpa only[qd _ _ hx] using e2⟩
 refine⟨⟨r.defers,r.size,r.keys,fun s d h=>(r.slot s d h).mono le,r.base,fun s cs h=> ?_,r.ownInj,?_⟩,le⟩
 ·obtain⟨h1,h2,h3,h4,h5⟩:=r.own s cs h
  exact⟨h1.mono le rfl,h2,h3,h4,fun t' m k' e1 e2 e3=>by obtain⟨f1,f2⟩:=tokOld e1 e2 e3;exact h5 t' m k' f1 f2 e3⟩
 ·refine⟨i.sub,i.ub,i.muLt,fun l row e=> ?_,i.boxInj,fun t' m e=> ?_,fun t' m k' b l e1 e2 e3=> ?_,fun t1 t2 m1 m2 k1 k2 b e1 e2 f1 f2 g1 g2=> ?_,i.frL,fun t' ht'=> ?_,fun t' (ht':t+1<=t')=>i.frV t' (by omega),i.ltab⟩
  ·obtain⟨b,e1,e2,e3,e4⟩:=i.box l row e
   exact⟨b,e1,e2.mono le rfl,e3,e4⟩
  ·by_cases hx:t'=t
   ·subst hx
    have e':upd st.h.hw t' (some k.n) t'=some m:=e
    rw[qb]at e';cases e'
    exact⟨k,by simp only[qb],rfl,fun h=>by
     have h':gq k (st.h.vw t'):=h
     rw[hvt]at h';exact absurd h' hk⟩
   ·have e':upd st.h.hw t (some k.n) t'=some m:=e
    rw[qd _ _ hx]at e'
    obtain⟨k',f1,f2,f3⟩:=i.tok t' m e'
    exact⟨k',by simp only[qd _ _ hx];exact f1,f2,fun h=>(f3 h).mono le fun _ _ _=>⟨rfl,fun _ h=>h⟩⟩
  ·obtain⟨f1,f2⟩:=tokOld e1 e2 e3
   exact i.tokBox t' m k' b l f1 f2 e3
  ·obtain⟨a1,a2⟩:=tokOld e1 f1 g1
   obtain⟨b1,b2⟩:=tokOld e2 f2 g2
   exact i.tokInj t1 t2 m1 m2 k1 k2 b a1 b1 a2 b2 g1 g2
  ·have ht'':t+1<=t':=ht'
   simp only
   rw[qd _ _ (by omega)]
   exact i.frT t' (by omega)
def wt(g:G)(t b:Nat)(arr:Array Value)(k:Tok)(n':Nat):G :=
 {g with
  σ:=fun x=>if x.block=b/\x.spot=none/\k.n*k.sz<=x.off/\x.off<n'*k.sz then arr[x.off]? else g.σ x
  τ:=upd g.τ t (some {k with n:=n' })}
theorem LayOk.room[Lay]{g g':G}{w:World}{b T:Nat}{arr vals:Array Value}{fz:Nat×Nat}(h:LayOk g w)(l:G.le g g')(hw:w.heap[b]? = some (.cells vals T fz))(hs:arr.size=vals.size)(hlow:∀j v,g.σ ⟨b,j,none⟩=some v->arr[j]? = vals[j]?):LayOk g' (w.setRow b arr):=by
 refine⟨fun a v e=>l.σ a v (h.1 a v e),fun b' cs e=> ?_⟩
 obtain⟨T',fz',h1⟩:=h.2 b' cs e
 by_cases hx:b'=b
 ·subst hx
  rw[hw]at h1
  have hc:vals=cs:=by injection h1 with h1;injection h1
  subst hc
  have:arr=vals:=by
   apply Array.ext_getElem?
   intro j
   rcases Nat.lt_or_ge j vals.size with hj|hj
   ·obtain⟨v,hv⟩:=(Lay.has b' vals e).2 j hj
    exact hlow j v (h.1 _ v hv)
   ·rw[Array.getElem?_eq_none hj,Array.getElem?_eq_none (by omega)]
  rw[this]
  exact⟨T,fz,setRow_heap w b' vals vals T fz hw⟩
 ·rw[(jm w b arr).other _ hx]
  exact⟨T',fz',h1⟩
theorem Rel.roomTok[Lay](r:Rel n g β U y st a w){t b m:Nat}{k:Tok}{T:Nat}{vals:Array Value}{news:List Value}(hl:st.h.hw t=some k.n)(hvt:st.h.vw t=none)(hk:g.τ t=some k)(hb:k.a=some ⟨b,0,none⟩)
  (hh:RowB w b vals T) (hTy:T=k.ty) (hsz:k.cap*k.sz<=vals.size) (hsp:∀j,k.n*k.sz<=j->g.σ ⟨b,j,none⟩=none) (hlen:news.length=m*k.sz) (hm:0<m) (hroom:k.n+m<=k.cap) (hU:¬U b) :
  let arr:=(vals.toList.take (k.n*k.sz)++news++vals.toList.drop (k.n*k.sz+news.length)).toArray
  Rel n (wt g t b arr k (k.n+m)) β U y {st with h:=qdw st.h t (k.n+m) st.h.nt} a (w.setRow b arr)/\G.le g (wt g t b arr k (k.n+m))/\Kept U w (w.setRow b arr):=by
 intro arr
 have i:=r.inv
 have tn:=jm w b arr
 have hcap:(k.n+m)*k.sz<=vals.size:=Nat.le_trans (Nat.mul_le_mul_right _ hroom) hsz
 have hadd:(k.n+m)*k.sz=k.n*k.sz+news.length:=by rw[Nat.add_mul,hlen]
 have hasz:arr.size=vals.size:=by
  simp only[arr,List.size_toArray,List.length_append,List.length_take,List.length_drop,Array.length_toList]
  omega
 obtain⟨fz,hh1,hh0⟩:=id hh
 have hh2:=setRow_heap w b vals arr T fz hh1
 have hlow:∀j,j<k.n*k.sz->arr[j]? = vals[j]? :=by
  intro j hj
  simp only[arr,List.getElem?_toArray]
  rw[List.append_assoc,List.getElem?_append_left (by simp;omega),List.getElem?_take,if_pos hj]
  simp
 have σlow:∀{x:Addr} {v:Value},g.σ x=some v->x.block=b->x.off<k.n*k.sz:=by
  intro x v e hx
  rcases Nat.lt_or_ge x.off (k.n*k.sz) with h|h
  ·exact h
  ·have hs:=(i.sub x v e).2
   have:x=⟨b,x.off,none⟩:=by cases x;simp_all
   rw[this,hsp _ h]at e;cases e
 have le:G.le g (wt g t b arr k (k.n+m)):=by
  refine⟨fun x v e=> ?_,fun _ _ e=>e,fun t' k0 e=> ?_⟩
  ·simp only[wt]
   rw[if_neg (by intro h;have:=σlow e h.1;omega)];exact e
  ·by_cases hx:t'=t
   ·subst hx
    rw[hk]at e;cases e
    exact⟨{k with n:=k.n+m},by simp[wt,qb],rfl,by simp,fun h=>by simp at h;omega⟩
   ·exact⟨k0,by simp only[wt,qd _ _ hx];exact e,rfl,Nat.le_refl _,fun _=>rfl⟩
 have σold:∀{x:Addr} {v:Value},(wt g t b arr k (k.n+m)).σ x=some v->(x.block=b/\x.spot=none/\k.n*k.sz<=x.off/\x.off<(k.n+m)*k.sz/\arr[x.off]? = some v)\/g.σ x=some v:=by
  intro x v e
  simp only[wt]at e
  split at e
  ·rename_i hc;exact .inl ⟨hc.1,hc.2.1,hc.2.2.1,hc.2.2.2,e⟩
  ·exact .inr e
 have live:gq k (st.h.vw t):=by rw[hvt];show k.n<k.cap;omega
 have tokOld:∀{t':Nat} {k':Tok},t'≠t->(wt g t b arr k (k.n+m)).τ t'=some k'->g.τ t'=some k':=fun hx e=>by simpa only[wt,qd _ _ hx] using e
 have hwOld:∀{t' m':Nat},t'≠t->(qdw st.h t (k.n+m) st.h.nt).hw t'=some m'->st.h.hw t'=some m':=fun hx e=>by simpa only[qdw,qd _ _ hx] using e
 have tokT:∀{k':Tok},(wt g t b arr k (k.n+m)).τ t=some k'->k'={k with n:=k.n+m}:=fun e=>by simp only[wt,qb,Option.some.injEq]at e;exact e.symm
 refine⟨⟨r.defers.kept tn.defs,r.size,r.keys,fun s d h=>(r.slot s d h).mono le,r.base,fun s cs h=> ?_,r.ownInj,?_⟩,le,tn.kept hU⟩
 ·obtain⟨h1,h2,h3,h4,h5⟩:=r.own s cs h
  have hne:β s≠b:=fun e=>h5 t k.n k hl hk live (by rw[hb,e])
  refine⟨h1.mono le (tn.other _ hne),h2,fun x v e=> ?_,h4,fun t' m' k' e1 e2 e3 e4=> ?_⟩
  ·rcases σold e with ⟨hx,_⟩|he
   ·rw[hx];exact Ne.symm hne
   ·exact h3 x v he
  ·by_cases hx:t'=t
   ·subst hx
    have:=tokT e2;subst this
    exact h5 t' k.n k hl hk live e4
   ·exact h5 t' m' k' (hwOld hx e1) (tokOld hx e2) e3 e4
 ·refine⟨fun x v e=> ?_,fun c hc=>by rw[tn.size];exact i.ub c hc,fun l c e=>by rw[tn.size];exact i.muLt l c e,fun l row e=> ?_,i.boxInj,fun t' m' e=> ?_,fun t' m' k' c l e1 e2 e3 e4 e5=> ?_,fun t1 t2 m1 m2 k1 k2 c e1 e2 f1 f2 g1 g2 c1 c2=> ?_,i.frL,fun t' ht'=> ?_,i.frV,i.ltab.room le hh1 hasz fun j v e=>hlow j (σlow e rfl)⟩
  ·rcases σold e with ⟨hx,hs,h1,h2,hv⟩|he
   ·refine⟨?_,hs⟩
    simp only[World.cell?,hx,hh2,hs]
    simpa using hv
   ·by_cases hx:x.block=b
    ·have:=σlow he hx
     refine⟨?_,(i.sub x v he).2⟩
     have h1:=(i.sub x v he).1
     simp only[World.cell?,hx,hh2,(i.sub x v he).2]at h1⊢
     rw[hh1]at h1
     simp only[Option.isSome_none,Bool.false_eq_true,if_false]at h1⊢
     rw[hlow _ this];exact h1
    ·exact⟨(cell?_of_heap (tn.other _ hx)).trans (i.sub x v he).1,(i.sub x v he).2⟩
  ·obtain⟨c,e1,e2,e3,e4⟩:=i.box l row e
   have hne:c≠b:=fun h=>i.tokBox t k.n k b l hl hk live hb (by have e0:st.h.box l=some row:=e;rw[e0];simp) (by rw[e1,h])
   refine⟨c,e1,e2.mono le (tn.other _ hne),e3,fun x v hx=> ?_⟩
   rcases σold hx with ⟨hb',_⟩|he
   ·rw[hb'];exact Ne.symm hne
   ·exact e4 x v he
  ·by_cases hx:t'=t
   ·subst hx
    have e':upd st.h.hw t' (some (k.n+m)) t'=some m':=e
    rw[qb]at e';cases e'
    refine⟨{k with n:=k.n+m},by simp[wt,qb],rfl,fun _=> ?_⟩
    show TokAt _ _ _ _ (st.h.vw t')
    rw[hvt]
    refine⟨b,hb,hU,T,arr,hh.setRow arr hasz,⟨by rw[hasz];exact hsz,hTy⟩,fun j hj=> ?_,fun _ h=>by cases h⟩
    simp only[sd]at hj
    simp only[wt]
    rw[if_neg (fun h=>by have h9:=h.2.2.2;exact absurd h9 (by show ¬(j<(k.n+m)*k.sz);omega))]
    exact hsp j (by omega)
   ·obtain⟨k',f1,f2,f3⟩:=i.tok t' m' (hwOld hx e)
    refine⟨k',by simp only[wt,qd _ _ hx];exact f1,f2,fun hk'=> ?_⟩
    refine(f3 hk').mono le fun c c1 _=> ?_
    have hne:c≠b:=fun h=>hx (i.tokInj t' t m' k.n k' k b (hwOld hx e) hl f1 hk hk' live (by rw[c1,h]) hb)
    exact⟨tn.other _ hne,fun j hj=>by simp only[wt];rw[if_neg (fun h=>hne h.1)];exact hj⟩
  ·by_cases hx:t'=t
   ·subst hx
    have:=tokT e2;subst this
    exact i.tokBox t' k.n k c l hl hk live e4 e5
   ·exact i.tokBox t' m' k' c l (hwOld hx e1) (tokOld hx e2) e3 e4 e5
  ·by_cases hx1:t1=t
   ·by_cases hx2:t2=t
    ·rw[hx1,hx2]
    ·subst hx1
     have:=tokT f1;subst this
     exact i.tokInj t1 t2 k.n m2 k k2 c hl (hwOld hx2 e2) hk (tokOld hx2 f2) live g2 c1 c2
   ·by_cases hx2:t2=t
    ·subst hx2
     have:=tokT f2;subst this
     exact i.tokInj t1 t2 m1 k.n k1 k c (hwOld hx1 e1) hl (tokOld hx1 f1) hk g1 live c1 c2
    ·exact i.tokInj t1 t2 m1 m2 k1 k2 c (hwOld hx1 e1) (hwOld hx2 e2) (tokOld hx1 f1) (tokOld hx2 f2) g1 g2 c1 c2
  ·have ht'':st.h.nt<=t':=ht'
   have hx:t'≠t:=fun h=>by subst h;rw[i.frT t' ht'']at hk;cases hk
   simp only[wt]
   rw[qd _ _ hx]
   exact i.frT t' ht''
end
structure Src(P:Program)(w:World)(sz m:Nat)(x:Value)(news:List Value):Prop where
 len:∀w',(Builtin.lenOf x).run P w' = .ok m w'
 cells:∀w',w'.heap=w.heap->(Builtin.firstCells sz m x).run P w' = .ok news.toArray w'
 size:news.length=m*sz
theorem cell?_heap{w w':World}(h:w'.heap=w.heap)(x:Addr):w'.cell? x=w.cell? x:=by simp[World.cell?,h]
theorem Src.slice{P:Program}{w:World}{sz m:Nat}{p:Addr}{cap:Nat}{news:List Value}(hl:news.length=m*sz)(h:∀k v,news[k]? = some v->w.cell? (p.add k)=some v):Src P w sz m (.slice (some p) m cap) news where
 len w':=rfl
 cells w' hw:=run_firstCells_some (P:=P) w' sz m p m cap news hl (fun j v hj=>by rw[cell?_heap hw];exact h j v hj)
 size:=hl
theorem Src.nil{P:Program}{w:World}{sz:Nat}{cap:Nat}:Src P w sz 0 (.slice none 0 cap) [] where
 len w':=rfl
 cells w' _:=rfl
 size:=by simp
def qco(P:Program)(u:Nat):Prop:=(∃e,P.underlying u=some (.slice e))\/P.underlying u=some .string
theorem w5{P:Program}{w:World}{t u ty e:Nat}{i:TypeInfo}(ht:P.underlying t=some (.slice e))(hi:P.info? e=some i)(hu:qco P u)
  {base:Option Addr} {n cap m:Nat} {x:Value} {news:List Value} (hs:Src P w i.size m x news) (hroom:n+m<=cap) {w':World}
  (hst:match base with|some p=>(storeCells (p.add (n*i.size)) news).run P w = .ok () w'|none=>w'=w) :
  (Builtin.append_ #[t,u] ty #[.slice base n cap,x]).run P w = .ok (.slice base (n+m) cap) w':=by
 have hcells:=hs.cells w rfl
 rcases hu with ⟨e',hd⟩|hd
 ·cases base with
  |none =>
   simp only at hst;subst hst
   simp[Builtin.append_,run_underlying ht,run_underlying hd,sizeOf,typeInfo,hi,hs.len,hroom,hcells]
  |some p =>
   simp only at hst
   simp[Builtin.append_,run_underlying ht,run_underlying hd,sizeOf,typeInfo,hi,hs.len,hroom,hcells,hst]
 ·cases base with
  |none =>
   simp only at hst;subst hst
   simp[Builtin.append_,run_underlying ht,run_underlying hd,sizeOf,typeInfo,hi,hs.len,hroom,hcells]
  |some p =>
   simp only at hst
   simp[Builtin.append_,run_underlying ht,run_underlying hd,sizeOf,typeInfo,hi,hs.len,hroom,hcells,hst]
theorem u4{P:Program}{w:World}{t u ty e:Nat}{i:TypeInfo}{z:Value}(ht:P.underlying t=some (.slice e))(hi:P.info? e=some i)(hz0:i.zero=some z)(hu:qco P u)
  {base:Option Addr} {n cap m:Nat} {x:Value} {olds news:List Value} (hb:Src P w i.size n (.slice base n cap) olds) (hs:Src P w i.size m x news) (hg:cap<n+m) (hbytes:(n+m)*i.bytes<=140737488355328) (h63:n+m<=281474976710656) (h1:0<i.bytes) :
  (Builtin.append_ #[t,u] ty #[.slice base n cap,x]).run P w =
   .ok (.slice (some ⟨w.heap.size,0,none⟩) (n+m) (grownCap w (n+m) cap e)) (w.drew.alloc (.cells ((olds++news).toArray++Builtin.zeroCells z.cells (grownCap w (n+m) cap e-(n+m))) e)):=by
 have hcells:=hs.cells w.drew rfl
 have holds:=hb.cells w.drew rfl
 have hn:¬(n+m<=cap):=by omega
 have h63':¬(9223372036854775807<((n:Int)+(m:Int))):=by omega
 have h48':¬(281474976710656<Builtin.nextslicecap (n+m) cap*i.bytes):=by have:=growslice_fits hg hbytes;omega
 have hbz:¬(i.bytes=0):=by omega
 have ha:(olds++news).toArray=olds.toArray++news.toArray:=by simp
 rw[ha,Array.append_assoc]
 rcases hu with ⟨e',hd⟩|hd <;>
  simp[Builtin.append_,run_underlying ht,run_underlying hd,sizeOf,typeInfo,zeroValue,hi,hz0,hs.len,hn,h63',h48',Question.forced,hcells,holds,newRow,grownCap]
theorem fl(xs zs:List Value):vt (xs++zs)=vt xs++vt zs:=by simp[vt]
theorem qax{g:G}{vs:List Value}{get:Nat->D}(h:∀i u,vs[i]? = some u->R g (get i) u/\ones (get i)=true):∀v∈vt vs,v.oneCell'=true:=by
 intro v hv
 obtain⟨u,hu,hv⟩:=List.mem_flatMap.1 hv
 obtain⟨i,hi,rfl⟩:=List.getElem_of_mem hu
 obtain⟨h1,h2⟩:=h i _ (List.getElem?_eq_getElem hi)
 have hc:=h1.cells
 obtain⟨k,hk,rfl⟩:=List.getElem_of_mem hv
 have hdk:k<(ql (get i)).length:=by rw[<-hc.length];exact hk
 obtain⟨v',hv',hr⟩:=hc.get k _ (List.getElem?_eq_getElem hdk)
 rw[List.getElem?_eq_getElem hk]at hv';cases hv'
 exact py hr (List.all_eq_true.1 h2 _ (List.getElem_mem hdk))
theorem R.ofList{g:G}{n sz:Nat}{get:Nat->D}{own:Own}{a:Option Addr}{cap:Nat}{vs:List Value}(hl:vs.length=n)(hn:n<=q8)(hc:n<=cap)(ho:qfe g own n a cap)
  (he:∀i u,vs[i]? = some u->R g (get i) u/\u.cells.size=sz/\ones (get i)=true)
  (hs:0<n->∃p,a=some p/\p.spot=none/\∀(i:Nat) (u:Value),vs[i]? = some u->∀j,j<sz->g.σ ⟨p.block,p.off+i*sz+j,none⟩=u.cells[j]?):R g (.list n sz get own) (.slice a n cap):=by
 simp only[R]
 refine⟨hn,a,cap,rfl,hc,ho,fun i hi=> ?_⟩
 obtain⟨p,h1,h2,h3⟩:=hs (by omega)
 have hv:=List.getElem?_eq_getElem (l:=vs) (i:=i) (by omega)
 obtain⟨e1,e2,e3⟩:=he _ _ hv
 exact⟨p,_,h1,h2,e1,⟨e2,e3⟩,h3 _ _ hv⟩
theorem sv{P:Program}{g:G}{w:World}(sub:∀a v,g.σ a=some v->w.cell? a=some v/\a.spot=none){sz m:Nat}{d:D}{f:Nat->D}{v:Value}(h:qn1 sz d=some (m,f))(hr:R g d v) :
  ∃vs:List Value,vs.length=m/\(∀i u,vs[i]? = some u->R g (f i) u/\u.cells.size=sz/\ones (f i)=true)/\Src P w sz m v (vt vs):=by
 cases d <;> simp only[qn1]at h <;> try cases h
 ·rename_i s
  cases hb:Nat.beq sz 1 with
  |false=>rw[hb]at h;cases h
  |true =>
   rw[hb]at h;simp only[cond_true]at h;cases h
   have:=qq.1 hb;subst this
   simp only[R]at hr
   obtain⟨rfl,_⟩:=hr
   have hel:∀(i:Nat) (u:Value),(s.map fun(b:UInt8)=>Value.int .u8 b.toNat)[i]? = some u->u = .int .u8 (s.getD i 0).toNat:=by
    intro i u hu
    rw[List.getElem?_map]at hu
    cases hs:s[i]? with
    |none=>rw[hs]at hu;cases hu
    |some b=>rw[hs]at hu;cases hu;simp[List.getD,hs]
   refine⟨s.map fun b=> .int .u8 b.toNat,by simp,fun i u hu=> ?_,?_⟩
   ·rw[hel i u hu];exact⟨by simp only[qjc,R],rfl,rfl⟩
   ·have hf:∀l:List UInt8,vt (l.map fun b=>Value.int .u8 b.toNat)=l.map fun b=> .int .u8 b.toNat:=by
     intro l;induction l with
     |nil=>rfl
     |cons b r ih=>simp only[vt]at ih;simp only[vt,List.map_cons,List.flatMap_cons,ih];rfl
    rw[hf]
    refine⟨fun w'=> ?_,fun w' _=> ?_,by simp⟩
    ·simp[Builtin.lenOf,ByteArray.size]
    ·simp[Builtin.firstCells]
 ·rename_i m0 z f0 own
  have hmf:(z=sz\/m0=0)/\m=m0/\f=f0:=by
   cases hb:Nat.beq z sz with
   |true=>rw[hb]at h;simp only[cond_true]at h;cases h;exact⟨.inl (qq.1 hb),rfl,rfl⟩
   |false =>
    rw[hb]at h;simp only[cond_false]at h
    cases hb2:Nat.beq m0 0 with
    |true=>rw[hb2]at h;simp only[cond_true]at h;cases h;exact⟨.inr (qq.1 hb2),rfl,rfl⟩
    |false=>rw[hb2]at h;cases h
  obtain⟨hz,rfl,rfl⟩:=hmf
  obtain⟨a,cap,vs,h1,h2,h3,h4,h5,h6,h7,_,h8⟩:=hr.listOpen
  have hsz:∀u∈vs,u.cells.size=sz:=by
   rcases hz with rfl|h0
   ·exact h6
   ·intro u hu;have:=List.length_pos_of_mem hu;omega
  refine⟨vs,h4,fun i u hu=> ?_,?_⟩
  ·obtain⟨e1,e2⟩:=h5 i u hu
   have hi:i<m:=by
    rcases Nat.lt_or_ge i vs.length with h|h
    ·omega
    ·rw[List.getElem?_eq_none h]at hu;cases hu
   exact⟨e1,hsz u (List.mem_of_getElem? hu),h8 i hi⟩
  ·subst h1
   cases a with
   |none =>
    have:m=0:=by
     rcases Nat.eq_zero_or_pos m with h|h
     ·exact h
     ·obtain⟨p,hp,_⟩:=h7 h;cases hp
    subst this
    have:vs=[]:=by simpa using h4
    subst this
    exact Src.nil
   |some p =>
    have hl:=j0 hsz
    refine Src.slice (by rw[hl,h4]) ?_
    rcases Nat.eq_zero_or_pos m with h|h
    ·subst h
     have:vs=[]:=by simpa using h4
     subst this
     intro k v hv;simp[vt]at hv
    ·obtain⟨p',hp,hsp,hc⟩:=h7 h
     cases hp
     rcases hz with rfl|h0
     ·exact su sub hsz hsp hc
     ·omega
end Go.Ab
