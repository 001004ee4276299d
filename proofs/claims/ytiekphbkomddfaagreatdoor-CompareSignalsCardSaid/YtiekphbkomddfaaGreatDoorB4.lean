/- The executor is sound, 9: append, joined. -/
import Derived.Test.YtiekphbkomddfaaGreatDoorB3
import Derived.Lib.ConvBytes
import Derived.MapKept
import Derived.Laws.BytesString
import Derived.ChangeKeysEq
import Derived.Laws.IdiomCopy
namespace Go.Ab
section
variable {P:Program} {n:Nat} {g:G} {β:Nat->Nat} {U:Nat->Prop} {y:Nat->Bool->Prop} {st:St} {a:Act} {w:World} {ev:Operand->D} {o:Oper}
theorem up{a b:Nat}:Nat.blt a b=true↔a<b:=by rw[Nat.blt_eq]
theorem tp{a b:Nat}:Nat.blt a b=false↔b<=a:=by
 rw[<-Bool.not_eq_true,Nat.blt_eq];omega
theorem p0{n0:Nat}{f f':Nat->D}{vs us:List Value}{g:G}{sz:Nat}(hl:vs.length=n0)(h1:∀i u,vs[i]? = some u->R g (f i) u/\u.cells.size=sz/\ones (f i)=true)
  (h2:∀i u,us[i]? = some u->R g (f' i) u/\u.cells.size=sz/\ones (f' i)=true):∀i u,(vs++us)[i]? = some u->R g (zo n0 f f' i) u/\u.cells.size=sz/\ones (zo n0 f f' i)=true:=by
 intro i u hu
 rcases Nat.lt_or_ge i n0 with hi|hi
 ·rw[List.getElem?_append_left (by omega)]at hu
  have:zo n0 f f' i=f i:=by unfold zo;rw[up.2 hi];rfl
  rw[this];exact h1 i u hu
 ·rw[List.getElem?_append_right (by omega),hl]at hu
  have:zo n0 f f' i=f' (i-n0):=by unfold zo;rw[tp.2 hi];rfl
  rw[this];exact h2 _ u hu
structure qrg(P:Program)(g:G)(w:World)(sz n0:Nat)(f:Nat->D)(own:Own)(ba:Option Addr)(cap:Nat)(vs:List Value):Prop where
 len:vs.length=n0
 capLe:n0<=cap
 el:∀i u,vs[i]? = some u->R g (f i) u/\u.cells.size=sz/\ones (f i)=true
 src:Src P w sz n0 (.slice ba n0 cap) (vt vs)
 at_:0<n0->∃p,ba=some p/\p.spot=none/\∀(i:Nat) (u:Value),vs[i]? = some u->∀j,j<sz->g.σ ⟨p.block,p.off+i*sz+j,none⟩=u.cells[j]?
 own:qfe g own n0 ba cap
theorem qmo{P:Program}{g:G}{w:World}(sub:∀a v,g.σ a=some v->w.cell? a=some v/\a.spot=none){n0 ez sz:Nat}{f:Nat->D}{own:Own}{v:Value}(h:R g (.list n0 ez f own) v)
  (hz:ez=sz\/n0=0):∃ba cap vs,v = .slice ba n0 cap/\qrg P g w sz n0 f own ba cap vs:=by
 have hs:qn1 sz (.list n0 ez f own)=some (n0,f):=by
  simp only[qn1]
  cases hb:Nat.beq ez sz with
  |true=>rfl
  |false =>
   rcases hz with rfl|h0
   ·rw[qq.2 rfl]at hb;cases hb
   ·rw[qq.2 h0];rfl
 obtain⟨ba,cap,vs0,h1,h2,h3,h4,h5,h6,h7,h8,h9⟩:=h.listOpen
 have hsz:∀u∈vs0,u.cells.size=sz:=by
  rcases hz with rfl|h0
  ·exact h6
  ·intro u hu;have:=List.length_pos_of_mem hu;omega
 have hat:0<n0->∃p,ba=some p/\p.spot=none/\∀(i:Nat) (u:Value),vs0[i]? = some u->∀j,j<sz->g.σ ⟨p.block,p.off+i*sz+j,none⟩=u.cells[j]? :=by
  intro hp
  rcases hz with rfl|h0
  ·exact h7 hp
  ·omega
 refine⟨ba,cap,vs0,h1,h4,h2,fun i u hu=> ?_,?_,hat,h8⟩
 ·have hi:i<n0:=by
   rcases Nat.lt_or_ge i vs0.length with h|h
   ·omega
   ·rw[List.getElem?_eq_none h]at hu;cases hu
  exact⟨(h5 i u hu).1,hsz u (List.mem_of_getElem? hu),h9 i hi⟩
 ·cases ba with
  |none =>
   have:n0=0:=by
    rcases Nat.eq_zero_or_pos n0 with h|h
    ·exact h
    ·obtain⟨p,hp,_⟩:=h7 h;cases hp
   subst this
   have:vs0=[]:=by simpa using h4
   subst this
   exact Src.nil
  |some p =>
   refine Src.slice (by rw[j0 hsz,h4]) ?_
   rcases Nat.eq_zero_or_pos n0 with h|h
   ·subst h
    have:vs0=[]:=by simpa using h4
    subst this
    intro k v hv;simp[vt]at hv
   ·obtain⟨p',hp,hsp,hc⟩:=hat h
    cases hp
    exact su sub hsz hsp hc
theorem qcp{t b:Nat}{vals:Array Value}{k:Tok}(hb:¬U b)(l:G.le g (zt g t b vals k)):Grow U g (zt g t b vals k):=by
 refine⟨l,fun x v e=> ?_⟩
 simp only[zt]at e
 by_cases h:x.block=b
 ·exact .inr (by rw[h];exact hb)
 ·rw[if_neg h]at e;exact .inl e
theorem qfn{t b m:Nat}{arr:Array Value}{k:Tok}(hb:¬U b)(l:G.le g (wt g t b arr k m)):Grow U g (wt g t b arr k m):=by
 refine⟨l,fun x v e=> ?_⟩
 by_cases h:x.block=b
 ·exact .inr (by rw[h];exact hb)
 ·simp only[wt]at e
  rw[if_neg (fun hh=>h hh.1)]at e;exact .inl e
theorem qdx[Lay](r:Rel n g β U y st a w){t u ty e:Nat}{i:TypeInfo}{z:Value}(ht:P.underlying t=some (.slice e))(hi:P.info? e=some i)(hz0:i.zero=some z)(hzs:z.cells.size=i.size)(hu:qco P u)(h1:0<i.bytes)
  {n0 m cap:Nat} {f f':Nat->D} {own:Own} {ba:Option Addr} {vs us:List Value} {x:Value} (hb:qrg P g w i.size n0 f own ba cap vs) (hul:us.length=m) (hue:∀k q,us[k]? = some q->R g (f' k) q/\q.cells.size=i.size/\ones (f' k)=true)
  (hsrc:Src P w i.size m x (vt us)) (hg:cap<n0+m) (hroom:(n0+m)*i.bytes<=q7) {tk nt:Nat} (htk:tk<nt) (hnt:st.h.nt<=nt) (hvt:st.h.vw tk=none) (hle:∀k0,g.τ tk=some k0->k0.sz=i.size/\k0.n<n0+m) :
  ∃v w' g',(Builtin.append_ #[t,u] ty #[.slice ba n0 cap,x]).run P w = .ok v w'/\Rel n g' β U y {st with h:=qdw st.h tk (n0+m) nt} a w'/\Grow U g g'/\Kept U w w'/\R g' (.list (n0+m) i.size (zo n0 f f') (.tok tk i.size)) v:=by
 have hlen:n0+m<=q8:=by
  have:n0+m<=(n0+m)*i.bytes:=Nat.le_mul_of_pos_right _ h1
  unfold q7 at hroom;unfold q8;omega
 have hlen2:n0+m<=281474976710656:=by
  have:n0+m<=(n0+m)*i.bytes:=Nat.le_mul_of_pos_right _ h1
  unfold q7 at hroom;omega
 have hrun:=u4 (P:=P) (w:=w) (ty:=ty) ht hi hz0 hu hb.src hsrc hg hroom hlen2 h1
 have hge:=grownCap_ge w (n0+m) cap e
 generalize hgc:grownCap w (n0+m) cap e=gc at hrun hge
 generalize hvals0:(vt vs++vt us).toArray++Builtin.zeroCells z.cells (gc-(n0+m))=vals at hrun
 have hszs:∀q∈vs++us,q.cells.size=i.size:=by
  intro q hq
  rcases List.mem_append.1 hq with h|h
  ·obtain⟨k,hk,rfl⟩:=List.getElem_of_mem h;exact(hb.el k _ (List.getElem?_eq_getElem hk)).2.1
  ·obtain⟨k,hk,rfl⟩:=List.getElem_of_mem h;exact(hue k _ (List.getElem?_eq_getElem hk)).2.1
 have hfl:(vt (vs++us)).length=(n0+m)*i.size:=by rw[j0 hszs];simp[hb.len,hul]
 have hvals:vals=(vt (vs++us)).toArray++Builtin.zeroCells z.cells (gc-(n0+m)):=by rw[<-hvals0,fl]
 have hvs:vals.size=gc*i.size:=by
  rw[hvals];simp only[Array.size_append,List.size_toArray,hfl,size_zeroCells,hzs]
  rw[<-Nat.add_mul];congr 1;omega
 obtain⟨k,hk1,hk2,hk3,hk4,hk5⟩:∃k:Tok,k.a=some ⟨w.heap.size,0,none⟩/\k.n=n0+m/\k.cap=gc/\k.sz=i.size/\k.ty=e:=⟨⟨some ⟨w.heap.size,0,none⟩,n0+m,gc,i.size,e⟩,rfl,rfl,rfl,rfl,rfl⟩
 have rd:=r.ext (xd r.inv)
 have hd:w.drew.heap.size=w.heap.size:=rfl
 obtain⟨r1,le⟩:=rd.newTok (t:=tk) (nt:=nt) (vals:=vals) (T:=e) (k:=k) hk1 (by omega) ⟨by rw[hvs,hk3,hk4];exact Nat.le_refl _,hk5.symm⟩ htk hnt hvt (by rw[hk2,hk4];exact hle)
 rw[hk2]at r1
 refine⟨_,_,_,hrun,r1,qcp (fun h=>absurd (r.inv.ub _ h) (Nat.lt_irrefl _)) le,?_,?_⟩
 ·have kd:Kept U w w.drew:=(xd r.inv).kept r.inv.ub
  exact kd.trans ((Ext.alloc rd.inv (.cells vals e (0,0))).kept rd.inv.ub)
 ·have hcat:=p0 hb.len hb.el hue
  refine R.ofList (vs:=vs++us) (by simp[hb.len,hul]) hlen hge ⟨k,qb _ _ _,hk4,by omega,fun _=>⟨hk1.symm,hk3.symm⟩⟩ (fun q u' hq=>⟨R.mono le _ _ (hcat q u' hq).1,(hcat q u' hq).2⟩) fun _=>⟨_,rfl,rfl,fun q u' hq j hj=> ?_⟩
  have hql:q<n0+m:=by
   rcases Nat.lt_or_ge q (vs++us).length with h|h
   ·simpa[hb.len,hul] using h
   ·rw[List.getElem?_eq_none h]at hq;cases hq
  have hlt:q*i.size+j<(n0+m)*i.size:=by
   have:(q+1)*i.size<=(n0+m)*i.size:=Nat.mul_le_mul_right _ hql
   rw[Nat.add_mul]at this;omega
  rw[<-wz hszs hq hj]
  simp only[zt,Nat.zero_add,hd]
  rw[if_pos trivial,if_pos ⟨trivial,by rw[hk2,hk4];exact hlt⟩,hvals,Array.getElem?_append_left (by simpa[hfl] using hlt)]
  simp
theorem mz{sz:Nat}(f:Nat->D){i:Nat}(h:(ql (f (i / sz))).length=sz):cw sz f i=(ql (f (i / sz))).getD (i % sz) .junk:=by
 unfold cw
 cases hb:Nat.beq sz 1 with
 |false=>rfl
 |true =>
  have:=qq.1 hb;subst this
  simp only[cond_true,Nat.div_one,Nat.mod_one]at h⊢
  generalize f i=d at h⊢
  cases d with
  |agg cs=>cases cs with
   |nil=>cases h
   |cons x r=>rfl
  |_=>rfl
theorem qmp[Lay](r:Rel n g β U y st a w){t u ty e:Nat}{i:TypeInfo}{z:Value}(ht:P.underlying t=some (.slice e))(hi:P.info? e=some i)(hz0:i.zero=some z)(_hzs:z.cells.size=i.size)(hu:qco P u)(h1:0<i.bytes)
  {n0 m cap:Nat} {f f':Nat->D} {own:Own} {ba:Option Addr} {vs us:List Value} {x:Value} (hb:qrg P g w i.size n0 f own ba cap vs) (hul:us.length=m) (hue:∀k q,us[k]? = some q->R g (f' k) q/\q.cells.size=i.size/\ones (f' k)=true)
  (hsrc:Src P w i.size m x (vt us)) (hg:cap<n0+m) (hroom:(n0+m)*i.bytes<=q7) :
  ∃v w' g',(Builtin.append_ #[t,u] ty #[.slice ba n0 cap,x]).run P w = .ok v w'/\Rel n g' β U y {st with h:={st.h with box:=upd st.h.box st.h.nl (some (.arr ((n0+m)*i.size) (cw i.size (zo n0 f f')))),nl:=st.h.nl+1}} a w'/\Grow U g g'/\Kept U w w'/\R g' (.sl st.h.nl 0 (n0+m)) v:=by
 have hlen:n0+m<=q8:=by
  have:n0+m<=(n0+m)*i.bytes:=Nat.le_mul_of_pos_right _ h1
  unfold q7 at hroom;unfold q8;omega
 have hlen2:n0+m<=281474976710656:=by
  have:n0+m<=(n0+m)*i.bytes:=Nat.le_mul_of_pos_right _ h1
  unfold q7 at hroom;omega
 have hrun:=u4 (P:=P) (w:=w) (ty:=ty) ht hi hz0 hu hb.src hsrc hg hroom hlen2 h1
 have hge:=grownCap_ge w (n0+m) cap e
 generalize hgc:grownCap w (n0+m) cap e=gc at hrun hge
 generalize hvals0:(vt vs++vt us).toArray++Builtin.zeroCells z.cells (gc-(n0+m))=vals at hrun
 have hszs:∀q∈vs++us,q.cells.size=i.size:=by
  intro q hq
  rcases List.mem_append.1 hq with h|h
  ·obtain⟨k,hk,rfl⟩:=List.getElem_of_mem h;exact(hb.el k _ (List.getElem?_eq_getElem hk)).2.1
  ·obtain⟨k,hk,rfl⟩:=List.getElem_of_mem h;exact(hue k _ (List.getElem?_eq_getElem hk)).2.1
 have hfl:(vt (vs++us)).length=(n0+m)*i.size:=by rw[j0 hszs];simp[hb.len,hul]
 have hvals:vals=(vt (vs++us)).toArray++Builtin.zeroCells z.cells (gc-(n0+m)):=by rw[<-hvals0,fl]
 have rd:=r.ext (xd r.inv)
 have hd:w.drew.heap.size=w.heap.size:=rfl
 have hcat:=p0 hb.len hb.el hue
 have hro:RowOf g e vals (.arr ((n0+m)*i.size) (cw i.size (zo n0 f f'))):=by
  refine⟨by rw[hvals];simp[hfl],fun j hj=> ?_⟩
  have hpos:0<i.size:=by
   rcases Nat.eq_zero_or_pos i.size with h|h
   ·rw[h]at hj;omega
   ·exact h
  have hq:j / i.size<n0+m:=Nat.div_lt_of_lt_mul (by rw[Nat.mul_comm];exact hj)
  have hm:j % i.size<i.size:=Nat.mod_lt _ hpos
  have hlen3:(vs++us).length=n0+m:=by simp[hb.len,hul]
  have hel:=List.getElem?_eq_getElem (l:=vs++us) (i:=j / i.size) (by omega)
  obtain⟨h3,h4,h5⟩:=hcat _ _ hel
  have hcl:=h3.cells.length
  have hcl':(ql (zo n0 f f' (j / i.size))).length=i.size:=by simp only[Array.length_toList]at hcl;omega
  have hdl:=List.getElem?_eq_getElem (l:=ql (zo n0 f f' (j / i.size))) (i:=j % i.size) (by omega)
  obtain⟨v,hv,hr⟩:=h3.cells.get _ _ hdl
  refine⟨v,?_,?_⟩
  ·have hf:=wz hszs hel hm
   have hjj:j / i.size*i.size+j % i.size=j:=by have:=Nat.div_add_mod j i.size;rw[Nat.mul_comm]at this;omega
   rw[hjj]at hf
   rw[hvals,Array.getElem?_append_left (by simpa[hfl] using hj)]
   rw[List.getElem?_toArray,hf,<-Array.getElem?_toList];exact hv
  ·rw[mz _ hcl']
   simp only[List.getD,hdl,Option.getD_some];exact hr
 have r1:=rd.newBox (T:=e) hro
 have le:=kh (b:=w.heap.size) (r.inv.frL st.h.nl (Nat.le_refl _))
 refine⟨_,_,ji g st.h.nl w.heap.size,hrun,r1,Grow.sameσ le rfl,?_,?_⟩
 ·have kd:Kept U w w.drew:=(xd r.inv).kept r.inv.ub
  exact kd.trans ((Ext.alloc rd.inv (.cells vals e (0,0))).kept rd.inv.ub)
 ·simp only[R]
  exact⟨_,qb _ _ _,_,_,rfl,hge,hlen,fun _=>rfl⟩
theorem sw[Lay](r:Rel n g β U y st a w){t u ty e:Nat}{i:TypeInfo}{z:Value}(ht:P.underlying t=some (.slice e))(hi:P.info? e=some i)(hz0:i.zero=some z)(hzs:z.cells.size=i.size)(hu:qco P u)(h1:0<i.bytes)
  {n0 m cap:Nat} {f f':Nat->D} {ba:Option Addr} {vs us:List Value} {x:Value} (hbl:vs.length=n0) (hbe:∀k q,vs[k]? = some q->R g (f k) q/\q.cells.size=i.size/\ones (f k)=true) (hbs:Src P w i.size n0 (.slice ba n0 cap) (vt vs))
  (hul:us.length=m) (hue:∀k q,us[k]? = some q->R g (f' k) q/\q.cells.size=i.size/\ones (f' k)=true)
  (hsrc:Src P w i.size m x (vt us)) (hg:cap<n0+m) (hroom:(n0+m)*i.bytes<=q7) {tk nt:Nat} (htk:tk<nt) (hnt:st.h.nt<=nt) (hle:∀k0,g.τ tk=some k0->k0.sz=i.size/\k0.n<n0+m) :
  ∃v w' g',(Builtin.append_ #[t,u] ty #[.slice ba n0 cap,x]).run P w = .ok v w'/\Rel n g' β U y {st with h:=qgg st.h tk (n0+m) nt (zo n0 f f')} a w'/\Grow U g g'/\Kept U w w'/\R g' (.vec tk (n0+m) i.size) v/\∃k,g'.τ tk=some k/\k.ty=e:=by
 have hlen:n0+m<=q8:=by
  have:n0+m<=(n0+m)*i.bytes:=Nat.le_mul_of_pos_right _ h1
  unfold q7 at hroom;unfold q8;omega
 have hlen2:n0+m<=281474976710656:=by
  have:n0+m<=(n0+m)*i.bytes:=Nat.le_mul_of_pos_right _ h1
  unfold q7 at hroom;omega
 have hrun:=u4 (P:=P) (w:=w) (ty:=ty) ht hi hz0 hu hbs hsrc hg hroom hlen2 h1
 have hge:=grownCap_ge w (n0+m) cap e
 generalize hgc:grownCap w (n0+m) cap e=gc at hrun hge
 generalize hvals0:(vt vs++vt us).toArray++Builtin.zeroCells z.cells (gc-(n0+m))=vals at hrun
 have hszs:∀q∈vs++us,q.cells.size=i.size:=by
  intro q hq
  rcases List.mem_append.1 hq with h|h
  ·obtain⟨k,hk,rfl⟩:=List.getElem_of_mem h;exact(hbe k _ (List.getElem?_eq_getElem hk)).2.1
  ·obtain⟨k,hk,rfl⟩:=List.getElem_of_mem h;exact(hue k _ (List.getElem?_eq_getElem hk)).2.1
 have hfl:(vt (vs++us)).length=(n0+m)*i.size:=by rw[j0 hszs];simp[hbl,hul]
 have hvals:vals=(vt (vs++us)).toArray++Builtin.zeroCells z.cells (gc-(n0+m)):=by rw[<-hvals0,fl]
 have hvs:vals.size=gc*i.size:=by
  rw[hvals];simp only[Array.size_append,List.size_toArray,hfl,size_zeroCells,hzs]
  rw[<-Nat.add_mul];congr 1;omega
 have hd:w.drew.heap.size=w.heap.size:=rfl
 have hdd:w.drew.heap=w.heap:=rfl
 have hcat:=p0 hbl hbe hue
 have r1:=Rel.vecTo r (t:=tk) (nt:=nt) (k:=⟨some ⟨w.heap.size,0,none⟩,n0+m,gc,i.size,e⟩) (f:=zo n0 f f') (w':=w.drew.alloc (.cells vals e (0,0))) htk hnt
  (fun k0 h=>by obtain⟨h2,h3⟩:=hle k0 h;exact⟨h2.symm,by simp only;omega,fun h=>by simp only at h;omega⟩)
  (DefsKept.alloc w.drew _)
  (by have:=(zr w.drew (.cells vals e (0,0))).size;rw[hd]at this;exact this)
  (fun c hc _=>by rw[j7 _ _ (by rw[hd];exact hc),hdd])
  (fun _=>⟨w.heap.size,e,vals,rfl,fun h=>absurd (r.inv.ub _ h) (Nat.lt_irrefl _),RowB.of (by rw[<-hd];exact jh _ _),⟨by simp only;omega,rfl⟩,hge,fun q hq=> ?_,r.freeNew tk (Nat.le_refl _)⟩)
 ·refine⟨_,_,_,hrun,r1,Grow.sameσ (u0 fun k0 h=>by obtain⟨h2,h3⟩:=hle k0 h;exact⟨h2.symm,by simp only;omega,fun h=>by simp only at h;omega⟩) rfl,?_,?_⟩
  ·have kd:Kept U w w.drew:=(xd r.inv).kept r.inv.ub
   have rd:=r.ext (xd r.inv)
   exact kd.trans ((Ext.alloc rd.inv (.cells vals e (0,0))).kept rd.inv.ub)
  ·refine⟨?_,_,qb _ _ _,rfl⟩
   simp only[R]
   exact⟨hlen,_,_,rfl,hge,_,qb _ _ _,rfl,Nat.le_refl _,fun _=>⟨rfl,rfl⟩⟩
 ·simp only at hq⊢
  have hel:=List.getElem?_eq_getElem (l:=vs++us) (i:=q) (by simp[hbl,hul];omega)
  obtain⟨h3,h4,h5⟩:=hcat _ _ hel
  refine⟨_,h3,⟨h4,h5⟩,fun j hj=> ?_⟩
  have hlt:q*i.size+j<(n0+m)*i.size:=by
   have:(q+1)*i.size<=(n0+m)*i.size:=Nat.mul_le_mul_right _ hq
   rw[Nat.add_mul]at this;omega
  rw[<-wz hszs hel hj,hvals,Array.getElem?_append_left (by simpa[hfl] using hlt)]
  simp
theorem qjz[Lay]{h:Heap}(i:Inv g U h w){t m sz:Nat}{f:Nat->D}{v:Value}(hv:h.vw t=some f)(hn:h.hw t=some m)(hr:R g (.vec t m sz) v) :
  ∃(k:Tok) (vs:List Value),v = .slice k.a m k.cap/\m<=k.cap/\m<=q8/\g.τ t=some k/\k.sz=sz/\k.n=m/\vs.length=m/\(∀q u,vs[q]? = some u->R g (f q) u/\u.cells.size=sz/\ones (f q)=true)/\Src P w sz m v (vt vs)/\
   (0<k.cap->TokAt g w U k (some f)):=by
 simp only[R]at hr
 obtain⟨h1,ba,cap,rfl,h2,k,h3,h4,h5,h6⟩:=hr
 obtain⟨k',e1,e2,e3⟩:=i.tok t m hn
 rw[h3]at e1;cases e1
 obtain⟨h7,h8⟩:=h6 e2.symm
 subst h7;subst h8;subst e2;subst h4
 rw[hv]at e3
 rcases Nat.eq_zero_or_pos k.n with h0|h0
 ·refine⟨k,[],by rw[h0],by omega,by omega,h3,rfl,rfl,by simp[h0],fun q u hq=>(by cases hq),?_,e3⟩
  rw[h0]
  cases hka:k.a with
  |none=>exact Src.nil
  |some p=>exact Src.slice (by simp[vt]) (fun q v hq=>by simp[vt]at hq)
 ·obtain⟨b,c1,c2,T,vals,c3,c4,c5,c6⟩:=e3 (show 0<k.cap by omega)
  obtain⟨_,c7⟩:=c6 f rfl
  have hex:∀q:Fin k.n,∃u,R g (f q) u/\(u.cells.size=k.sz/\ones (f q)=true)/\∀j,j<k.sz->vals[q.1*k.sz+j]? = u.cells[j]? :=fun q=>c7 q q.2
  let vs:=List.ofFn fun q:Fin k.n=>(hex q).choose
  have hvl:vs.length=k.n:=by simp[vs]
  have hvg:∀q u,vs[q]? = some u->q<k.n/\R g (f q) u/\(u.cells.size=k.sz/\ones (f q)=true)/\∀j,j<k.sz->vals[q*k.sz+j]? = u.cells[j]? :=by
   intro q u hq
   have hql:q<k.n:=by
    rcases Nat.lt_or_ge q k.n with h|h
    ·exact h
    ·rw[List.getElem?_eq_none (by omega)]at hq;cases hq
   have:=(hex ⟨q,hql⟩).choose_spec
   rw[List.getElem?_eq_getElem (by omega)]at hq
   simp only[vs,List.getElem_ofFn,Option.some.injEq]at hq
   rw[hq]at this
   exact⟨hql,this⟩
  have hszs:∀u∈vs,u.cells.size=k.sz:=by
   intro u hu
   obtain⟨q,hq,rfl⟩:=List.getElem_of_mem hu
   exact(hvg q _ (List.getElem?_eq_getElem hq)).2.2.1.1
  refine⟨k,vs,rfl,by omega,h1,h3,rfl,rfl,hvl,fun q u hq=>⟨(hvg q u hq).2.1,(hvg q u hq).2.2.1⟩,?_,e3⟩
  rw[c1]
  refine Src.slice (by rw[j0 hszs,hvl]) fun p v hp=> ?_
  have hpl:p<k.n*k.sz:=by
   rcases Nat.lt_or_ge p (vt vs).length with h|h
   ·rw[j0 hszs,hvl]at h;exact h
   ·rw[List.getElem?_eq_none h]at hp;cases hp
  have hpos:0<k.sz:=by
   rcases Nat.eq_zero_or_pos k.sz with h|h
   ·rw[h]at hpl;omega
   ·exact h
  have hq:p / k.sz<k.n:=Nat.div_lt_of_lt_mul (by rw[Nat.mul_comm];exact hpl)
  have hm:=Nat.mod_lt p hpos
  have hel:=List.getElem?_eq_getElem (l:=vs) (i:=p / k.sz) (by omega)
  have hf:=wz hszs hel hm
  have hjj:p / k.sz*k.sz+p % k.sz=p:=by have:=Nat.div_add_mod p k.sz;rw[Nat.mul_comm]at this;omega
  rw[hjj,hp]at hf
  have h9:=(hvg _ _ hel).2.2.2 _ hm
  rw[hjj,<-hf]at h9
  rw[j5,c3.cell,Nat.zero_add]
  simpa using h9
theorem qoh{g:G}{e t n:Nat}{v:Value}(h:R g (.bv e t n) v):R g (.vec t n 1) v:=by
 simp only[R]at h⊢
 obtain⟨x1,x2,x3,x4,x5,k,x6,x7,x8,x9⟩:=h
 exact⟨x1,x2,x3,x4,x5,k,x6,x7,x8,fun h=>⟨(x9 h).1,(x9 h).2.1⟩⟩
theorem qdy[Lay](r:Rel n g β U y st a w){t u ty e b tk n0 ez m:Nat}{zd:D}{f f':Nat->D}{vx vz:Value}{z:D}(hu:qco P u)(hx:R g (.vec tk n0 ez) vx)(hz:R g z vz)
  (ht:P.underlying t=some (.slice e)) (hsz:ya P e=some ez) (hby:bytesOf P e=some (b+1)) (hze:gj P e=some zd) (hc1:isD zd=true) (hc2:(ql zd).length=ez) (hsr:qn1 ez z=some (m,f')) (hv:st.h.vw tk=some f) :
  st.h.hw tk=some n0->(n0+m)*(b+1)<=q7->∃v w' g',(Builtin.append_ #[t,u] ty #[vx,vz]).run P w = .ok v w'/\Rel n g' β U y {st with h:={st.h with hw:=upd st.h.hw tk (some (n0+m)),vw:=upd st.h.vw tk (some (zo n0 f f'))}} a w'/\Grow U g g'/\Kept U w w'/\R g' (.vec tk (n0+m) ez) v /\
   ∀k',g'.τ tk=some k'->k'.ty=e\/∃k,g.τ tk=some k/\k.n=n0/\k'.ty=k.ty:=by
 obtain⟨i,hi,hib⟩:=xp hby
 have his:i.size=ez:=by simp only[ya,hi,Option.map_some,Option.some.injEq]at hsz;exact hsz
 have hizs:∃zv,i.zero=some zv/\zv.cells.size=i.size:=by
  obtain⟨zv,h1,h2⟩:=j8 hze hc1 w
  have hzz:i.zero=some zv:=by
   simp only[gj,hi,Option.bind_some]at hze
   cases hzi:i.zero with
   |none=>rw[hzi]at hze;cases hze
   |some z' =>
    simp[zeroValue,typeInfo,hi,hzi]at h1
    rw[h1]
  refine⟨zv,hzz,?_⟩
  have:=(h2 g).cells.length
  simp at this;omega
 obtain⟨zv,hz1,hz2⟩:=hizs
 subst his
 have h1:0<i.bytes:=by omega
 intro hw hp
 obtain⟨k,vs,rfl,k1,k2,k3,k4,k5,k6,k7,k8,k9⟩:=qjz (P:=P) r.inv hv hw hx
 obtain⟨us,hul,hue,hsrc⟩:=sv (P:=P) (w:=w) r.inv.sub hsr hz
 have hlenM:n0+m<=q8:=by
  have:n0+m<=(n0+m)*(b+1):=Nat.le_mul_of_pos_right _ (by omega)
  unfold q7 at hp;unfold q8;omega
 have hnt:=r.ntLt k3
 have hcatl:∀q,q<n0->zo n0 f f' q=f q:=fun q hq=>by simp[zo,up.2 hq]
 rcases Nat.eq_zero_or_pos m with hm|hm
 ·subst hm
  have hus:us=[]:=by simpa using hul
  subst hus
  have h2:(Builtin.append_ #[t,u] ty #[.slice k.a n0 k.cap,vz]).run P w = .ok (.slice k.a (n0+0) k.cap) w:=by
   refine w5 ht hi hu hsrc (by omega) ?_
   cases k.a with
   |none=>rfl
   |some p=>simp[vt,storeCells]
  have r1:=Rel.vecTo r (t:=tk) (nt:=st.h.nt) (k:=k) (f:=zo n0 f f') (w':=w) hnt (Nat.le_refl _) (fun k0 h=>by rw[k3]at h;cases h;exact⟨rfl,Nat.le_refl _,fun _=>rfl⟩) (fun _ h=>h) (Nat.le_refl _) (fun _ _ _=>rfl) (fun hcap=>by
   obtain⟨bl,c1,c2,T,vals,c3,c4,c5,c6⟩:=k9 hcap
   obtain⟨c7,c8⟩:=c6 f rfl
   exact⟨bl,T,vals,c1,c2,c3,c4,c7,fun q hq=>by rw[hcatl q (by omega)];exact c8 q hq,r.freeOld hv hw k3 hcap c1⟩)
  have hgg:qav g tk k=g:=by simp only[qav,i7 _ k3]
  rw[hgg]at r1
  refine⟨_,_,_,h2,?_,Grow.refl U g,Kept.refl _ _,?_,fun k' hk'=> .inr ⟨k,k3,k5,by rw[k3]at hk';cases hk';rfl⟩⟩
  ·have:qgg st.h tk k.n st.h.nt (zo n0 f f')={st.h with hw:=upd st.h.hw tk (some (n0+0)),vw:=upd st.h.vw tk (some (zo n0 f f'))}:=by rw[k5];rfl
   rw[<-this];exact r1
  ·simp only[R]
   exact⟨by omega,_,_,rfl,by omega,k,k3,k4,by omega,fun _=>⟨rfl,rfl⟩⟩
 ·rcases Nat.lt_or_ge k.cap (n0+m) with hg|hg
  ·obtain⟨v,w',g',h2,h3,h4,h5,h6,k1',h7,h8⟩:=sw (ty:=ty) r ht hi hz1 hz2 hu h1 k6 k7 k8 hul hue hsrc hg (by rw[hib];exact hp) (tk:=tk) (nt:=st.h.nt) hnt (Nat.le_refl _)
    (fun k0 h=>by rw[k3]at h;cases h;exact⟨k4,by omega⟩)
   exact⟨v,w',g',h2,h3,h4,h5,h6,fun k' hk'=> .inl (by rw[h7]at hk';cases hk';exact h8)⟩
  ·have hcap:0<k.cap:=by omega
   obtain⟨bl,c1,c2,T,vals,c3,c4,c5,c6⟩:=k9 hcap
   obtain⟨c7,c8⟩:=c6 f rfl
   have husz:∀q∈us,q.cells.size=k.sz:=by
    intro q hq
    obtain⟨j,hj,rfl⟩:=List.getElem_of_mem hq
    rw[k4];exact(hue j _ (List.getElem?_eq_getElem hj)).2.1
   have hlen:(vt us).length=m*k.sz:=by rw[j0 husz,hul]
   have hcapz:(n0+m)*k.sz<=vals.size:=Nat.le_trans (Nat.mul_le_mul_right _ hg) c4.1
   have hadd:(n0+m)*k.sz=n0*k.sz+(vt us).length:=by rw[Nat.add_mul,hlen]
   have hst:=c3.store (P:=P) (n0*k.sz) (vt us) 0 (by omega) (qax (get:=f') fun q u' hq=>⟨(hue q u' hq).1,(hue q u' hq).2.2⟩)
   simp only[Nat.add_zero]at hst
   have h2:(Builtin.append_ #[t,u] ty #[.slice k.a n0 k.cap,vz]).run P w = .ok (.slice k.a (n0+m) k.cap) _ :=
    w5 (w':=w.setRow bl (vals.toList.take (n0*k.sz)++vt us++vals.toList.drop (n0*k.sz+(vt us).length)).toArray) ht hi hu hsrc hg (by
     rw[c1];simp only[j5,Nat.zero_add];rw[<-k4];exact hst)
   have tn:=jm w bl (vals.toList.take (n0*k.sz)++vt us++vals.toList.drop (n0*k.sz+(vt us).length)).toArray
   have har:∀p,(vals.toList.take (n0*k.sz)++vt us++vals.toList.drop (n0*k.sz+(vt us).length)).toArray[p]? = if p<n0*k.sz then vals[p]? else if p<n0*k.sz+(vt us).length then(vt us)[p-n0*k.sz]? else vals[p]? :=fun p=>by
    have:=pz vals.toList (vt us) (n0*k.sz) p (by simp;omega)
    simpa using this
   have hle:∀k0,g.τ tk=some k0->k.sz=k0.sz/\k0.n<=n0+m/\(k0.n=n0+m->({k with n:=n0+m}:Tok)=k0):=fun k0 h=>by
    rw[k3]at h;cases h;exact⟨rfl,by omega,fun h=>by omega⟩
   have r1:=Rel.vecTo r (t:=tk) (nt:=st.h.nt) (k:={k with n:=n0+m}) (f:=zo n0 f f') hnt (Nat.le_refl _) hle tn.defs
    (by rw[tn.size];exact Nat.le_refl _) (fun c hc hcb=>tn.other c (hcb bl hcap c1)) (fun _=>⟨bl,T,_,c1,c2,c3.setRow _ (by have:=c4.1;simp only[List.size_toArray,List.length_append,List.length_take,List.length_drop,Array.length_toList];omega),⟨by
     have:=c4.1;simp only[List.size_toArray,List.length_append,List.length_take,List.length_drop,Array.length_toList];omega,c4.2⟩,hg,fun q hq=> ?_,r.freeOld hv hw k3 hcap c1⟩)
   ·refine⟨_,_,_,h2,r1,Grow.sameσ (u0 hle) rfl,tn.kept c2,?_,fun k' hk'=> .inr ⟨k,k3,k5,by simp only[qav,qb,Option.some.injEq]at hk';rw[<-hk']⟩⟩
    simp only[R]
    exact⟨hlenM,_,_,rfl,hg,_,qb _ _ _,k4,Nat.le_refl _,fun _=>⟨rfl,rfl⟩⟩
   ·simp only at hq⊢
    rcases Nat.lt_or_ge q n0 with hq1|hq1
    ·rw[hcatl q hq1]
     obtain⟨u',d1,d2,d3⟩:=c8 q (by omega)
     refine⟨u',d1,d2,fun j hj=> ?_⟩
     have:(q+1)*k.sz<=n0*k.sz:=Nat.mul_le_mul_right _ hq1
     rw[Nat.add_mul]at this
     rw[har,if_pos (by omega)]
     exact d3 j hj
    ·have hc:zo n0 f f' q=f' (q-n0):=by simp[zo,tp.2 hq1]
     rw[hc]
     have hel:=List.getElem?_eq_getElem (l:=us) (i:=q-n0) (by omega)
     obtain⟨d1,d2,d3⟩:=hue _ _ hel
     refine⟨_,d1,⟨by rw[k4];exact d2,d3⟩,fun j hj=> ?_⟩
     have hqe:q*k.sz=n0*k.sz+(q-n0)*k.sz:=by rw[<-Nat.add_mul];congr 1;omega
     have hlt:(q-n0)*k.sz+j<(vt us).length:=by
      have:(q-n0+1)*k.sz<=m*k.sz:=Nat.mul_le_mul_right _ (by omega)
      rw[Nat.add_mul]at this;omega
     rw[har,if_neg (by omega),if_pos (by omega),<-wz husz hel hj]
     congr 1;omega
theorem qll[Lay](r:Rel n g β U y st a w){t u ty:Nat}{x z:D}{vx vz:Value}(hu:qco P u)(hx:R g x vx)(hz:R g z vz)
  (hrun:∀v w',(Builtin.append_ #[t,u] ty #[vx,vz]).run P w = .ok v w'->(execOp a.eval o).run P w = .ok (.value v) w') {bx vx:Bool}:j6 P n g β U y st a w o (qlj P st bx vx t x z):=by
 unfold qlj
 split
 ·rename_i e ht
  split
  ·rename_i sz b zd hsz hby hze
   cases hc:(isD zd&&Nat.beq (ql zd).length sz) with
   |false=>trivial
   |true =>
    simp only[Bool.and_eq_true]at hc
    obtain⟨hc1,hc2⟩:=hc
    have hc2:=qq.1 hc2
    simp only[cond_true]
    split
    ·rename_i n0 ez f own m f' hsr
     cases hc3:(bif Nat.beq ez sz then true else Nat.beq n0 0) with
     |false=>trivial
     |true =>
      simp only[cond_true]
      have hez:ez=sz\/n0=0:=by
       cases hb:Nat.beq ez sz with
       |true=>exact .inl (qq.1 hb)
       |false=>rw[hb]at hc3;exact .inr (qq.1 hc3)
      obtain⟨i,hi,hib⟩:=xp hby
      have his:i.size=sz:=by simp only[ya,hi,Option.map_some,Option.some.injEq]at hsz;exact hsz
      have hizs:∃zv,i.zero=some zv/\zv.cells.size=i.size:=by
       obtain⟨zv,h1,h2⟩:=j8 hze hc1 w
       have hzz:i.zero=some zv:=by
        simp only[gj,hi,Option.bind_some]at hze
        cases hzi:i.zero with
        |none=>rw[hzi]at hze;cases hze
        |some z' =>
         simp[zeroValue,typeInfo,hi,hzi]at h1
         rw[h1]
       refine⟨zv,hzz,?_⟩
       have:=(h2 g).cells.length
       simp at this;omega
      obtain⟨zv,hz1,hz2⟩:=hizs
      subst his
      have h1:0<i.bytes:=by omega
      obtain⟨ba,cap,vs,rfl,hb⟩:=qmo (P:=P) (w:=w) r.inv.sub hx hez
      obtain⟨us,hul,hue,hsrc⟩:=sv (P:=P) (w:=w) r.inv.sub hsr hz
      have hlenOf:(n0+m)*(b+1)<=q7->n0+m<=q8:=by
       intro hr
       have:n0+m<=(n0+m)*(b+1):=Nat.le_mul_of_pos_right _ (by omega)
       unfold q7 at hr;unfold q8;omega
      have hidle:m=0->∃w',(Builtin.append_ #[t,u] ty #[.slice ba n0 cap,vz]).run P w = .ok (.slice ba (n0+m) cap) w'/\w'=w:=by
       intro hm
       subst hm
       have:us=[]:=by simpa using hul
       subst this
       refine⟨w,w5 ht hi hu hsrc (by have:=hb.capLe;omega) ?_,rfl⟩
       cases ba with
       |none=>rfl
       |some p=>simp[vt,storeCells]
      split
      ·trivial
      ·trivial
      ·
       have hcap:cap=n0:=hb.own
       cases vx with
       |true =>
        intro hp
        rcases Nat.eq_zero_or_pos m with hm|hm
        ·obtain⟨w',h2,rfl⟩:=hidle hm
         have hn0:n0=0:=by omega
         have r1:=Rel.vecTo r (t:=st.h.nt) (nt:=st.h.nt+1) (k:=⟨ba,n0+m,cap,i.size,0⟩) (f:=zo n0 f f') (w':=w') (by omega) (by omega) (fun k0 h=>by rw[r.inv.frT _ (Nat.le_refl _)]at h;cases h) (fun _ h=>h) (Nat.le_refl _) (fun _ _ _=>rfl) (fun h=>by simp only at h;omega)
         refine⟨_,_,_,.inl (hrun _ _ h2),r1,Grow.sameσ (u0 fun k0 h=>by rw[r.inv.frT _ (Nat.le_refl _)]at h;cases h) rfl,Kept.refl _ _,RS0.ofR ?_,rfl⟩
         simp only[R]
         exact⟨by unfold q8;omega,ba,cap,rfl,by omega,_,qb _ _ _,rfl,Nat.le_refl _,fun _=>⟨rfl,rfl⟩⟩
        ·obtain⟨v,w',g',h2,h3,h4,h5,h6,_⟩:=sw (ty:=ty) r ht hi hz1 hz2 hu h1 hb.len hb.el hb.src hul hue hsrc (by omega) (by rw[hib];exact hp.2) (tk:=st.h.nt) (nt:=st.h.nt+1) (by omega) (by omega)
          (fun k0 h=>by rw[r.inv.frT _ (Nat.le_refl _)]at h;cases h)
         exact⟨v,w',g',.inl (hrun _ _ h2),h3,h4,h5,RS0.ofR h6,rfl⟩
       |false =>
       cases bx with
       |true =>
        intro hp
        obtain⟨v,w',g',h2,h3,h4,h5,h6⟩:=qmp (ty:=ty) r ht hi hz1 hz2 hu h1 hb hul hue hsrc (by omega) (by rw[hib];exact hp.2)
        exact⟨v,w',g',.inl (hrun _ _ h2),h3,h4,h5,RS0.ofR h6,rfl⟩
       |false =>
       intro hp
       rcases Nat.eq_zero_or_pos m with hm|hm
       ·obtain⟨w',h2,rfl⟩:=hidle hm
        obtain⟨r1,le⟩:=r.idleTok (t:=st.h.nt) (k:=⟨ba,n0+m,cap,i.size,0⟩) (by simp only;omega) rfl
        refine⟨_,_,_,.inl (hrun _ _ h2),r1,Grow.sameσ le rfl,Kept.refl _ _,?_,rfl⟩
        subst hm
        have hus:us=[]:=by simpa using hul
        refine RS0.ofR (R.ofList (vs:=vs++us) (by simp[hb.len,hul]) (hlenOf hp) (by omega) ⟨_,qb _ _ _,rfl,Nat.le_refl _,fun _=>⟨rfl,rfl⟩⟩ (fun q u' hq=> ?_) fun h0=> ?_)
        ·have:=p0 hb.len hb.el hue q u' hq
         exact⟨R.mono le _ _ this.1,this.2⟩
        ·obtain⟨p,e1,e2,e3⟩:=hb.at_ (by omega)
         exact⟨p,e1,e2,fun q u' hq=>e3 q u' (by simpa[hus] using hq)⟩
       ·obtain⟨v,w',g',h2,h3,h4,h5,h6⟩:=qdx (ty:=ty) r ht hi hz1 hz2 hu h1 hb hul hue hsrc (by omega) (by rw[hib];exact hp) (tk:=st.h.nt) (nt:=st.h.nt+1) (by omega) (by omega) (r.inv.frV _ (Nat.le_refl _))
         (fun k0 h=>by rw[r.inv.frT _ (Nat.le_refl _)]at h;cases h)
        exact⟨v,w',g',.inl (hrun _ _ h2),h3,h4,h5,RS0.ofR h6,rfl⟩
      ·
       rename_i tk tz
       split
       ·trivial
       rename_i hvt
       cases htz:Nat.beq i.size tz with
       |false=>trivial
       |true =>
        have:=qq.1 htz;subst this
        simp only[cond_true]
        intro⟨hw,hp⟩
        obtain⟨k,hk,hks,hkn,hkeq⟩:=hb.own
        obtain⟨k',hk',hkn',hroom⟩:=r.inv.tok tk n0 hw
        rw[hk]at hk';cases hk'
        obtain⟨hka,hkc⟩:=hkeq hkn'.symm
        have hnt:tk<st.h.nt:=by
         rcases Nat.lt_or_ge tk st.h.nt with h|h
         ·exact h
         ·rw[r.inv.frT tk h]at hk;cases hk
        rcases Nat.eq_zero_or_pos m with hm|hm
        ·obtain⟨w',h2,rfl⟩:=hidle hm
         subst hm
         have hus:us=[]:=by simpa using hul
         have hst:({st with h:={st.h with hw:=upd st.h.hw tk (some (n0+0))}}:St)=st:=by
          have:upd st.h.hw tk (some (n0+0))=st.h.hw:=by
           funext q
           by_cases hq:q=tk
           ·subst hq;rw[qb,hw];rfl
           ·rw[qd _ _ hq]
          rw[this]
         rw[hst]
         refine⟨_,_,_,.inl (hrun _ _ h2),r,Grow.refl U g,Kept.refl _ _,?_,rfl⟩
         refine RS0.ofR (R.ofList (vs:=vs++us) (by simp[hb.len,hul]) (hlenOf hp) (by have:=hb.capLe;omega) ⟨k,hk,hks,by omega,fun _=>⟨hka,hkc⟩⟩ (fun q u' hq=> ?_) fun h0=> ?_)
         ·exact p0 hb.len hb.el hue q u' hq
         ·obtain⟨p,e1,e2,e3⟩:=hb.at_ (by omega)
          exact⟨p,e1,e2,fun q u' hq=>e3 q u' (by simpa[hus] using hq)⟩
        ·rcases Nat.lt_or_ge cap (n0+m) with hg|hg
         ·obtain⟨v,w',g',h2,h3,h4,h5,h6⟩:=qdx (ty:=ty) r ht hi hz1 hz2 hu h1 hb hul hue hsrc hg (by rw[hib];exact hp) (tk:=tk) (nt:=st.h.nt) hnt (Nat.le_refl _) hvt
           (fun k0 h=>by rw[hk]at h;cases h;exact⟨hks,by omega⟩)
          exact⟨v,w',g',.inl (hrun _ _ h2),h3,h4,h5,RS0.ofR h6,rfl⟩
         ·rw[hvt]at hroom
          obtain⟨bl,e1,e2,T,vals,e3,e4,e5,_⟩:=hroom (show k.n<k.cap by omega)
          subst hkn'
          have e5:∀j,k.n*k.sz<=j->g.σ ⟨bl,j,none⟩=none:=e5
          have hlen:(vt us).length=m*k.sz:=by
           rw[j0 (sz:=k.sz) (fun q hq=> ?_),hul]
           obtain⟨j,hj,rfl⟩:=List.getElem_of_mem hq
           rw[hks];exact(hue j _ (List.getElem?_eq_getElem hj)).2.1
          obtain⟨r1,le,kp⟩:=r.roomTok (news:=vt us) (m:=m) hw hvt hk e1 e3 e4.2 e4.1 e5 hlen hm (by omega) e2
          have hcapz:(k.n+m)*k.sz<=vals.size:=Nat.le_trans (Nat.mul_le_mul_right _ (by omega)) e4.1
          have hadd:(k.n+m)*k.sz=k.n*k.sz+(vt us).length:=by rw[Nat.add_mul,hlen]
          have hst:=e3.store (P:=P) (k.n*k.sz) (vt us) 0 (by omega) (qax (get:=f') fun q u' hq=>⟨(hue q u' hq).1,(hue q u' hq).2.2⟩)
          simp only[Nat.add_zero]at hst
          have hba:ba=some ⟨bl,0,none⟩:=by rw[hka,e1]
          have h2:(Builtin.append_ #[t,u] ty #[.slice ba k.n cap,vz]).run P w = .ok (.slice ba (k.n+m) cap) _ :=
           w5 (w':=w.setRow bl (vals.toList.take (k.n*k.sz)++vt us++vals.toList.drop (k.n*k.sz+(vt us).length)).toArray) ht hi hu hsrc hg (by
            rw[hba];simp only[j5,Nat.zero_add];rw[<-hks];exact hst)
          refine⟨_,_,_,.inl (hrun _ _ h2),r1,qfn e2 le,kp,?_,rfl⟩
          refine RS0.ofR (R.ofList (vs:=vs++us) (by simp[hb.len,hul]) (hlenOf hp) hg ⟨{k with n:=k.n+m},qb _ _ _,hks,Nat.le_refl _,fun _=>⟨hka,hkc⟩⟩ (fun q u' hq=> ?_) fun h0=> ?_)
          ·have:=p0 hb.len hb.el hue q u' hq
           exact⟨R.mono le _ _ this.1,this.2⟩
          ·refine⟨_,hba,rfl,fun q u' hq j hj=> ?_⟩
           rw[<-hks]at hj
           rw[<-hks]
           rcases Nat.lt_or_ge q k.n with hq1|hq1
           ·rw[List.getElem?_append_left (by rw[hb.len];exact hq1)]at hq
            obtain⟨p,f1,f2,f3⟩:=hb.at_ (by omega)
            rw[hba]at f1;cases f1
            have hf:=f3 q u' hq j (by omega)
            rw[<-hks]at hf
            have hlt:q*k.sz+j<k.n*k.sz:=by
             have:(q+1)*k.sz<=k.n*k.sz:=Nat.mul_le_mul_right _ hq1
             rw[Nat.add_mul]at this;omega
            simp only[wt]
            rw[if_neg (by simp only[Nat.zero_add];omega)]
            exact hf
           ·rw[List.getElem?_append_right (by rw[hb.len];exact hq1),hb.len]at hq
            have hql:q-k.n<m:=by
             rcases Nat.lt_or_ge (q-k.n) us.length with h|h
             ·omega
             ·rw[List.getElem?_eq_none h]at hq;cases hq
            have husz:∀q∈us,q.cells.size=k.sz:=by
             intro q hq
             obtain⟨j,hj,rfl⟩:=List.getElem_of_mem hq
             rw[hks];exact(hue j _ (List.getElem?_eq_getElem hj)).2.1
            have hqe:q*k.sz=k.n*k.sz+(q-k.n)*k.sz:=by rw[<-Nat.add_mul];congr 1;omega
            have hlt:(q-k.n)*k.sz+j<(vt us).length:=by
             have:(q-k.n+1)*k.sz<=m*k.sz:=Nat.mul_le_mul_right _ hql
             rw[Nat.add_mul]at this;omega
            rw[<-wz husz hq hj]
            simp only[wt,Nat.zero_add]
            rw[if_pos ⟨trivial,trivial,by omega,by omega⟩,hqe]
            simp only[List.getElem?_toArray]
            rw[List.append_assoc,List.getElem?_append_right (by simp;omega)]
            rw[List.getElem?_append_left (by simp;omega)]
            congr 1
            simp;omega
    ·rename_i tk n0 ez m f' hsr
     cases htz:Nat.beq ez sz with
     |false=>trivial
     |true =>
      have:=qq.1 htz;subst this
      simp only[cond_true]
      split
      ·rename_i f hv
       intro⟨hw,hp⟩
       obtain⟨v,w',g',h2,h3,h4,h5,h6,_⟩:=qdy (ty:=ty) r hu hx hz ht hsz hby hze hc1 hc2 hsr hv hw hp
       exact⟨v,w',g',.inl (hrun _ _ h2),h3,h4,h5,RS0.ofR h6,rfl⟩
      ·trivial
    ·rename_i e' tk n0 m f' hsr
     cases htz:(Nat.beq 1 sz&&Nat.beq e e') with
     |false=>trivial
     |true =>
      simp only[Bool.and_eq_true]at htz
      obtain⟨q1,q2⟩:=htz
      have q1:=qq.1 q1;subst q1
      have q2:=qq.1 q2;subst q2
      simp only[cond_true]
      split
      ·rename_i f hv
       intro⟨hw,hp⟩
       have hx':=hx
       simp only[R]at hx'
       obtain⟨x1,x2,x3,x4,x5,k,x6,x7,x8,x9⟩:=hx'
       have hxv:=qoh hx
       obtain⟨v,w',g',h2,h3,h4,h5,h6,h7⟩:=qdy (ty:=ty) r hu hxv hz ht hsz hby hze hc1 hc2 hsr hv hw hp
       refine⟨v,w',g',.inl (hrun _ _ h2),h3,h4,h5,RS0.ofR ?_,rfl⟩
       simp only[R]at h6⊢
       obtain⟨z1,z2,z3,z4,z5,k',z6,z7,z8,z9⟩:=h6
       refine⟨z1,z2,z3,z4,z5,k',z6,z7,z8,fun h=>⟨(z9 h).1,(z9 h).2,?_⟩⟩
       rcases h7 k' z6 with h8|⟨k0,h8,h9,h10⟩
       ·exact h8
       ·rw[x6]at h8;cases h8
        rw[h10];exact(x9 h9.symm).2.2
      ·trivial
    ·trivial
  ·trivial
 ·trivial
theorem Ext.addBlockZ[Lay]{g:G}{U:Nat->Prop}{h:Heap}{w w':World}(i:Inv g U h w){vals:Array Value}{T:Nat}{z:Nat×Nat}(hb:RowKit.Below w.heap.size w w')(hn:w'.heap[w.heap.size]? = some (.cells vals T z)):Ext g w (Ab.addBlock g w.heap.size vals) w':=by
 have old:∀a v,g.σ a=some v->(Ab.addBlock g w.heap.size vals).σ a=some v:=fun a v e=>by
  have:=i.cellLt e
  simp only[Ab.addBlock]
  rw[if_neg (by omega)];exact e
 refine⟨⟨old,fun _ _ e=>e,fun _ k e=>⟨k,e,rfl,Nat.le_refl _,fun _=>rfl⟩⟩,rfl,rfl,fun a v e=> ?_,fun a v e=> ?_,hb⟩
 ·simp only[Ab.addBlock]at e
  split at e
  ·rename_i hb;exact .inr (by omega)
  ·exact .inl e
 ·simp only[Ab.addBlock]at e
  split at e
  ·rename_i hb'
   split at e
   ·rename_i hs
    refine⟨?_,hs⟩
    simp only[World.cell?,hb',hn,hs]
    simpa using e
   ·cases e
  ·have hl:=i.cellLt e
   exact⟨(cell?_of_heap (hb.block _ hl)).trans (i.sub a v e).1,(i.sub a v e).2⟩
theorem y4(w:World)(e:TypeId)(s:ByteArray):RowKit.Below w.heap.size w (Lib.bytesWorld w e s) :=
 ⟨rfl,rfl,rfl,by rw[Lib.bytesWorld_size];omega,fun k hk=>Lib.bytesWorld_at_old w e s k hk⟩
theorem tq:∀(l:List UInt8) (acc:ByteArray),(l.map fun b=>(b.toNat:Int)).foldl (fun r n=>r.push (UInt8.ofNat n.toNat)) acc=⟨(acc.data.toList++l).toArray⟩
 | [],acc=>by simp
 |x::r,acc=>by
  simp only[List.map_cons,List.foldl_cons]
  rw[tq r]
  simp[ByteArray.push]
theorem tr{m:Nat}{f:Nat->D}(h:xi m f){i:Nat}(hi:i<m):f i = .int .u8 ((qp m f).getD i 0).toNat:=by
 obtain⟨b,hb⟩:=h i hi
 have:(qp m f).getD i 0=b:=by
  simp only[qp,List.getD,List.getElem?_map,List.getElem?_range hi,Option.map_some,Option.getD_some,hb,qfg]
  simp
 rw[this,hb]
theorem v7(m:Nat)(f:Nat->D):(qp m f).length=m:=by simp[qp]
def qxm(kk:KK):TypeDesc:=match kk with | .int k=> .int k|_=> .string
theorem bw{a b:KK}(h:gp a b=true):a=b:=by
 unfold gp at h
 split at h
 ·rw[qqw h]
 ·rfl
 ·rfl
 ·cases h
theorem t7{g:G}{d:D}{v:Value}{kk:KK}{k:ju}(h:qfh d=some (kk,k))(hr:R g d v):te kk v=some k:=by
 unfold qfh at h
 split at h
 ·cases h
  simp only[R]at hr
  subst hr
  simp[te]
 ·cases h
  simp only[R]at hr
  rw[hr.1]
  simp[te]
 ·cases h
  simp only[R,Rs]at hr
  obtain⟨vs,rfl,_,_,rfl,⟨rfl,_⟩,_,_,rfl,⟨rfl,_⟩,rfl⟩:=hr
  simp[te]
 ·cases h
theorem i8{s s':ByteArray}(h:s.data.toList=s'.data.toList):s=s':=by
 obtain⟨⟨a⟩⟩:=s;obtain⟨⟨b⟩⟩:=s'
 simp only at h
 rw[h]
theorem kj{kk:KK}{v:Value}{k:ju}(h:te kk v=some k):(∃j n,kk = .int j/\v = .int j n/\k=[.i n])\/(∃s,kk = .str/\v = .string s/\k=[.s s.data.toList])\/∃a b,kk = .ss/\v = .agg #[.string a,.string b]/\k=[.s a.data.toList,.s b.data.toList]:=by
 unfold te at h
 split at h
 ·rename_i k' j n
  split at h
  ·rename_i hk
   cases h
   subst hk
   exact .inl ⟨_,_,rfl,rfl,rfl⟩
  ·cases h
 ·cases h
  exact .inr (.inl ⟨_,rfl,rfl,rfl⟩)
 ·rename_i cs
  split at h
  ·rename_i a b hc
   cases h
   obtain⟨l⟩:=cs
   simp only at hc
   subst hc
   exact .inr (.inr ⟨_,_,rfl,rfl,rfl⟩)
  ·cases h
 ·cases h
theorem ec{kk:KK}{v v':Value}{k:ju}(h:te kk v=some k)(h':te kk v'=some k):v=v':=by
 rcases kj h with ⟨j,n,rfl,rfl,rfl⟩|⟨s,rfl,rfl,rfl⟩|⟨a,b,rfl,rfl,rfl⟩
 ·rcases kj h' with ⟨_,_,e,rfl,hk⟩|⟨_,e,_,_⟩|⟨_,_,e,_,_⟩
  ·cases e
   simp only[List.cons.injEq,KA.i.injEq,and_true]at hk
   rw[hk]
  ·cases e
  ·cases e
 ·rcases kj h' with ⟨_,_,e,_,_⟩|⟨_,_,rfl,hk⟩|⟨_,_,e,_,_⟩
  ·cases e
  ·simp only[List.cons.injEq,KA.s.injEq,and_true]at hk
   rw[i8 hk]
  ·cases e
 ·rcases kj h' with ⟨_,_,e,_,_⟩|⟨_,e,_,_⟩|⟨_,_,_,rfl,hk⟩
  ·cases e
  ·cases e
  ·simp only[List.cons.injEq,KA.s.injEq,and_true]at hk
   rw[i8 hk.1,i8 hk.2]
theorem sy{P:Program}{t:Nat}{kk:KK}(h:qcg P t=some kk):(kk≠ .ss/\P.underlying t=some (qxm kk))\/(kk = .ss/\∃e,P.underlying t=some (.array 2 e)/\P.underlying e=some .string/\ya P e=some 1):=by
 unfold qcg at h
 split at h
 ·rename_i k e;cases h;exact .inl ⟨(by intro x;cases x),e⟩
 ·rename_i e;cases h;exact .inl ⟨(by intro x;cases x),e⟩
 ·rename_i el e
  split at h
  ·rename_i h1 h2;cases h;exact .inr ⟨rfl,el,e,h1,h2⟩
  ·cases h
 ·cases h
theorem m5{kk:KK}{v:Value}{k:ju}(h:te kk v=some k)(hk:kk≠ .ss):MapKept.IsKey (qxm kk) v:=by
 rcases kj h with ⟨j,n,rfl,rfl,rfl⟩|⟨s,rfl,rfl,rfl⟩|⟨a,b,rfl,rfl,rfl⟩
 ·exact rfl
 ·trivial
 ·exact absurd rfl hk
theorem qdz{P:Program}{w:World}{e:Nat}(he:P.underlying e=some .string)(hz:ya P e=some 1):∃i,P.info? e=some i/\P.cellsOf e=1:=by
 obtain⟨i,hi⟩:=info_of_underlying he
 refine⟨i,hi,?_⟩
 have h1:=jo hz (w:=w)
 rw[run_sizeOf w hi]at h1
 injection h1
theorem re{P:Program}{e:Nat}(he:P.underlying e=some .string):P.plainKey e=true:=by simp[Program.plainKey,he]
theorem qay{P:Program}{w:World}{t e:Nat}(ht:P.underlying t=some (.array 2 e))(he:P.underlying e=some .string)(hz:ya P e=some 1)(a b c d:ByteArray) :
  (Op.equal t (.agg #[.string a,.string b]) (.agg #[.string c,.string d])).run P w = .ok (a==c&&b==d) w:=by
 obtain⟨i,hi,hc⟩:=qdz (w:=w) he hz
 show(Op.equalIn (9999+1) t (.agg #[.string a,.string b]) (.agg #[.string c,.string d])).run P w=_
 rw[run_equalIn_array w 9999 _ _ ht hi,hc]
 show(Op.eqItems 9999 e 1 _ _ [0,1]).run P w=_
 have p1:∀x y:ByteArray,(part e #[Value.string x,.string y] (0*1)).run P w = .ok (.string x) w:=fun x y=>run_part_plain w (re he) rfl
 have p2:∀x y:ByteArray,(part e #[Value.string x,.string y] (1*1)).run P w = .ok (.string y) w:=fun x y=>run_part_plain w (re he) rfl
 have q0:∀(m:Nat) (x y:ByteArray),(Op.equalIn (m+1) e (.string x) (.string y)).run P w = .ok (x==y) w:=fun m x y=>by simp[Op.equalIn,run_underlying he]
 have q:∀x y:ByteArray,(Op.equalIn 9999 e (.string x) (.string y)).run P w = .ok (x==y) w:=q0 9998
 cases h1:a==c <;> cases h2:b==d <;> simp only[Op.eqItems,Sem.run_bind,p1,p2,q,h1,h2,Result.andThen_ok,Bool.not_true,Bool.not_false,Bool.false_eq_true,if_true,if_false,Sem.run_pure,Bool.and_true,Bool.and_false]
theorem b5{P:Program}{w:World}{t e:Nat}(ht:P.underlying t=some (.array 2 e))(he:P.underlying e=some .string)(hz:ya P e=some 1){v:Value}{k:ju}(hv:te .ss v=some k):∀(l:List MapEntry) (i:Nat),(∀q∈l,∃k',te .ss q.key=some k')->
  ((Instr.findAsking t v l i).run P w = .ok none w/\∀q∈l,q.key≠v)\/∃j q,(Instr.findAsking t v l i).run P w = .ok (some (i+j,q.val)) w/\l[j]? = some q/\q.key=v
 | [],i,_=> .inl ⟨rfl,fun _ h=>by cases h⟩
 |q::r,i,hl=>by
  obtain⟨k',hk'⟩:=hl q (List.mem_cons_self ..)
  obtain⟨a,b,rfl⟩:∃a b,v = .agg #[.string a,.string b]:=by
   rcases kj hv with ⟨_,_,x,_⟩|⟨_,x,_⟩|⟨a,b,_,x,_⟩
   ·cases x
   ·cases x
   ·exact⟨a,b,x⟩
  obtain⟨c,d,hq⟩:∃c d,q.key = .agg #[.string c,.string d]:=by
   rcases kj hk' with ⟨_,_,x,_⟩|⟨_,x,_⟩|⟨a,b,_,x,_⟩
   ·cases x
   ·cases x
   ·exact⟨a,b,x⟩
  have he2:=qay (w:=w) ht he hz a b c d
  cases hb:(a==c&&b==d) with
  |true =>
   rw[hb]at he2
   refine .inr ⟨0,q,?_,rfl,?_⟩
   ·simp[Instr.findAsking,hq,he2,Result.andThen]
   ·simp only[Bool.and_eq_true,MapKept.bytes_beq]at hb
    rw[hq,hb.1,hb.2]
  |false =>
   rw[hb]at he2
   have hne:q.key≠ .agg #[.string a,.string b]:=fun x=>by
    rw[hq]at x
    injection x with x
    simp only[Array.mk.injEq,List.cons.injEq,Value.string.injEq,and_true]at x
    rw[x.1,x.2]at hb
    have e1:(a==a)=true:=(MapKept.bytes_beq a a).2 rfl
    have e2:(b==b)=true:=(MapKept.bytes_beq b b).2 rfl
    rw[e1,e2]at hb;cases hb
   rcases b5 (w:=w) ht he hz hv r (i+1) fun x hx=>hl x (List.mem_cons_of_mem _ hx) with ⟨h1,h2⟩|⟨j,x,h1,h2,h3⟩
   ·refine .inl ⟨by simp[Instr.findAsking,hq,he2,Result.andThen,h1],fun x hx=> ?_⟩
    rcases List.mem_cons.1 hx with rfl|hx
    ·exact hne
    ·exact h2 x hx
   ·exact .inr ⟨j+1,x,by rw[show i+(j+1)=i+1+j by omega];simp[Instr.findAsking,hq,he2,Result.andThen,h1],h2,h3⟩
theorem qd0{P:Program}{w:World}{t:Nat}{kk:KK}(hp:qcg P t=some kk){v:Value}{k:ju}(hv:te kk v=some k)(l:List MapEntry)(hl:∀q∈l,∃k',te kk q.key=some k') :
  ((Instr.findKey t v l).run P w = .ok none w/\∀q∈l,q.key≠v)\/∃j q,(Instr.findKey t v l).run P w = .ok (some (j,q.val)) w/\l[j]? = some q/\q.key=v:=by
 rcases sy hp with ⟨h1,h2⟩|⟨rfl,e,h2,h3,h4⟩
 ·rcases MapKept.findNow_spec (m5 hv h1) l 0 (fun q hq=>by obtain⟨k',hk'⟩:=hl q hq;exact m5 hk' h1) with ⟨g1,g2⟩|⟨j,q,g1,g2,g3⟩
  ·exact .inl ⟨MapKept.run_findKey h2 g1,g2⟩
  ·exact .inr ⟨j,q,by rw[MapKept.run_findKey h2 g1];simp,g2,g3⟩
 ·have hf:Instr.findNow (.array 2 e) v l 0=none\/l=[]:=by
   cases l with
   |nil=>exact .inr rfl
   |cons q r =>
    refine .inl ?_
    simp only[Instr.findNow,Instr.sameNow]
  rcases hf with hf|rfl
  ·have e1:(Instr.findKey t v l).run P w=(Instr.findAsking t v l 0).run P w:=by
    simp[Instr.findKey,run_underlying h2,Result.andThen,hf]
   rw[e1]
   rcases b5 (w:=w) h2 h3 h4 hv l 0 hl with h|⟨j,q,h5,h6,h7⟩
   ·exact .inl h
   ·exact .inr ⟨j,q,by rw[h5,Nat.zero_add],h6,h7⟩
  ·exact .inl ⟨by simp[Instr.findKey,run_underlying h2,Result.andThen,Instr.findNow],fun _ h=>by cases h⟩
theorem yk{P:Program}{w:World}{t:Nat}{kk:KK}(hp:qcg P t=some kk){v:Value}{k:ju}(hv:te kk v=some k)(e:Bool):(Instr.checkKey e 10000 t v).run P w = .ok () w:=by
 rcases sy hp with ⟨h1,h2⟩|⟨rfl,el,h2,h3,h4⟩
 ·exact MapKept.run_checkKey h2 (m5 hv h1) e 9999
 ·obtain⟨a,b,rfl⟩:∃a b,v = .agg #[.string a,.string b]:=by
   rcases kj hv with ⟨_,_,x,_⟩|⟨_,x,_⟩|⟨a,b,_,x,_⟩
   ·cases x
   ·cases x
   ·exact⟨a,b,x⟩
  obtain⟨i,hi,hc⟩:=qdz (w:=w) h3 h4
  have p1:(part el #[Value.string a,.string b] 0).run P w = .ok (.string a) w:=run_part_plain w (re h3) rfl
  have p2:(part el #[Value.string a,.string b] 1).run P w = .ok (.string b) w:=run_part_plain w (re h3) rfl
  have q:∀x:ByteArray,(Instr.checkKey e 9999 el (.string x)).run P w = .ok () w:=fun x=>MapKept.run_checkKey (d:= .string) (k:= .string x) h3 trivial e 9998
  show(Instr.checkKey e (9999+1) t (.agg #[.string a,.string b])).run P w=_
  rw[Instr.checkKey]
  simp only[Sem.run_bind,run_underlying h2,Result.andThen_ok,Std.Legacy.Range.forIn_eq_forIn_range',Std.Legacy.Range.size,Nat.sub_zero,Nat.add_one_sub_one,Nat.div_one]
  simp[List.range',run_sizeOf w hi,hc,p1,p2,q,Result.andThen]
theorem qgu{P:Program}{w:World}{kk:KK}{v:Value}{k:ju}(hv:te kk v=some k):(Instr.keyThatStays v v).run P w = .ok v w:=by
 rcases kj hv with ⟨j,n,rfl,rfl,rfl⟩|⟨s,rfl,rfl,rfl⟩|⟨a,b,rfl,rfl,rfl⟩
 ·exact MapKept.run_keyThatStays (d:= .int j) rfl
 ·exact MapKept.run_keyThatStays (d:= .string) trivial
 ·have e1:(a==a)=true:=(MapKept.bytes_beq a a).2 rfl
  have e2:(b==b)=true:=(MapKept.bytes_beq b b).2 rfl
  simp[Instr.keyThatStays,Instr.sameBits,e1,e2]
theorem qcq{g:G}{z z':D}{v:Value}(h:qjp z z'=true)(hr:R g z v):R g z' v:=by
 unfold qjp at h
 split at h
 ·simp only[Bool.and_eq_true,beq_iff_eq]at h
  obtain⟨h1,h2⟩:=h
  subst h2
  rw[<-h1]
  exact hr
 ·exact hr
 ·rw[<-eq_of_beq h];exact hr
 ·simp only[R]at hr⊢
  obtain⟨h1,a,cap,h2,h3,h4,_⟩:=hr
  exact⟨h1,a,cap,h2,h3,h4,fun i hi=>by omega⟩
 all_goals first|exact hr|cases h
theorem qj0[Lay](r:Rel n g β U y st a w)(e:Ev g β st.sl a ev){s t:Nat}{x:Operand}(ho:o.op = .convert s t x):j6 P n g β U y st a w o (wa P st.h s t (ev x)):=by
 have key:∀v w',(convert s t (a.eval x)).run P w = .ok v w'->(execOp a.eval o).run P w = .ok (.value v) w':=fun v w' h=>by simp[execOp,ho,h]
 have bts:∀(p:Addr) (m cap el:Nat) (l:List UInt8),P.underlying s=some (.slice el)->P.underlying el=some (.int .u8)->P.underlying t=some .string->l.length=m ->
   (∀j v,((l.map fun b=>(Value.int .u8 b.toNat))[j]?)=some v->w.cell? (p.add j)=some v)->(convert s t (.slice (some p) m cap)).run P w = .ok (.string ⟨l.toArray⟩) w:=by
  intro p m cap el l hs he ht hl hc
  rw[run_convert_bytes_string w s t el _ _ _ hs he ht]
  have h1:=run_loadCells_list (P:=P) (w:=w) p (l.map fun b=>(Value.int .u8 b.toNat)) hc
  rw[List.length_map,hl]at h1
  have h2:=run_bytesToString (P:=P) w p m cap (l.map fun b=>(b.toNat:Int)) (by rw[h1];simp[Function.comp_def])
  rw[h2,tq]
  simp
 have nilb:∀(cap el:Nat),P.underlying s=some (.slice el)->P.underlying el=some (.int .u8)->P.underlying t=some .string->(convert s t (.slice none 0 cap)).run P w = .ok (.string ⟨([]:List UInt8).toArray⟩) w:=by
  intro cap el hs he ht
  rw[run_convert_bytes_string w s t el _ _ _ hs he ht]
  rfl
 unfold wa
 split
 ·rename_i el b hs ht hx
  split
  ·rename_i he
   have h1:=ze e _ hx rfl
   simp only[R]at h1
   obtain⟨hv,hl⟩:=h1
   have hrun:=Lib.run_convert_string_bytes w s t el ⟨b.toArray⟩ hs ht he
   refine⟨DOk.ofD rfl,_,_,addBlock g w.heap.size (Lib.bytesCells w el ⟨b.toArray⟩),.inl (key _ _ (by rw[hv];exact hrun)),Ext.addBlockZ r.inv (y4 w el _) (Lib.bytesWorld_at_new w el _),RS0.ofR ?_⟩
   have hsz:(⟨b.toArray⟩:ByteArray).size=b.length:=by simp[ByteArray.size]
   simp only[R]
   refine⟨hl,_,_,by rw[hsz],grownCap_ge w b.length 0 el,trivial,fun i hi=>⟨_,.int .u8 (b.getD i 0).toNat,rfl,rfl,by simp[qjc,R],⟨rfl,rfl⟩,fun j hj=> ?_⟩⟩
   have:j=0:=by omega
   subst this
   rw[th]
   simp[Lib.bytesCells,Array.getElem?_append,hi,Value.cells,List.getD]
  ·trivial
 ·rename_i el m z f own hs ht hx
  split
  ·rename_i he
   cases hz:(Nat.beq z 1 || Nat.beq m 0) with
   |false=>trivial
   |true =>
    simp only[cond_true]
    have h1:=ze e _ hx rfl
    obtain⟨pa,cap,vs,hv,hcap,hml,hvl,hel,_,hp,_,_⟩:=R.listOpen h1
    refine xq r rfl fun hb=>⟨.string ⟨(qp m f).toArray⟩,key _ _ ?_,by simp only[R,true_and];rw[v7];exact hml⟩
    rw[hv]
    rcases Nat.eq_zero_or_pos m with h0|h0
    ·subst h0
     cases pa with
     |none=>exact nilb cap el hs he ht
     |some p=>exact bts p 0 cap el [] hs he ht rfl (fun j v hj=>by simp at hj)
    ·obtain⟨p,rfl,hps,hc⟩:=hp h0
     have hz1:z=1:=by
      rcases Bool.or_eq_true _ _▸hz with h|h
      ·exact qq.1 h
      ·have:=qq.1 h;omega
     subst hz1
     refine bts p m cap el (qp m f) hs he ht (v7 m f) fun j v hj=> ?_
     have hjm:j<m:=by
      have:=(List.getElem?_eq_some_iff.1 hj).1
      rw[List.length_map,v7]at this;exact this
     have hvj:vs[j]? = some (vs[j]'(by omega)):=List.getElem?_eq_getElem _
     obtain⟨q1,q2⟩:=hel j _ hvj
     rw[tr hb hjm]at q1
     simp only[R]at q1
     have hcj:=hc j _ hvj 0 (by omega)
     rw[q1]at hcj
     have hv':v = .int .u8 ((qp m f).getD j 0).toNat:=by
      rw[List.getElem?_map]at hj
      have hl:j<(qp m f).length:=by rw[v7];exact hjm
      rw[List.getElem?_eq_getElem hl]at hj
      simp only[Option.map_some,Option.some.injEq]at hj
      rw[<-hj];simp[List.getD,hl]
     have:=(r.inv.sub _ _ (show g.σ ⟨p.block,p.off+j*1+0,none⟩=some (.int .u8 ((qp m f).getD j 0).toNat) from hcj)).1
     have hpa:p.add j=⟨p.block,p.off+j*1+0,none⟩:=by
      obtain⟨p1,p2,p3⟩:=p
      have:p3=none:=hps
      subst this
      simp[Addr.add]
     rw[hv',hpa];exact this
  ·trivial
 ·rename_i el tt m z hs ht hx
  split
  ·rename_i f he hvw
   cases hz:Nat.beq z 1 with
   |false=>trivial
   |true =>
    simp only[cond_true]
    have hz1:=qq.1 hz
    subst hz1
    have h1:=ze e _ hx rfl
    refine xq r rfl fun⟨hw,hb⟩=> ?_
    simp only[R]at h1
    obtain⟨hml,ba,cap,hv,hcap,k,hk,ksz,_,ku⟩:=h1
    obtain⟨k',e1,e2,e3⟩:=r.inv.tok tt m hw
    rw[hk]at e1;cases e1
    obtain⟨rfl,rfl⟩:=ku e2.symm
    refine⟨.string ⟨(qp m f).toArray⟩,key _ _ ?_,by simp only[R,true_and];rw[v7];exact hml⟩
    rw[hv]
    rcases Nat.eq_zero_or_pos k.cap with h0|h0
    ·have hm0:m=0:=by omega
     subst hm0
     cases hka:k.a with
     |none=>exact nilb _ el hs he ht
     |some p=>exact bts p 0 _ el [] hs he ht rfl (fun j v hj=>by simp at hj)
    ·rw[hvw]at e3
     obtain⟨bl,f1,_,T,vals,f3,f4,_,f6⟩:=e3 h0
     rw[f1]
     refine bts _ m _ el (qp m f) hs he ht (v7 m f) fun j v hj=> ?_
     have hjm:j<m:=by
      have:=(List.getElem?_eq_some_iff.1 hj).1
      rw[List.length_map,v7]at this;exact this
     obtain⟨_,hel⟩:=f6 f rfl
     obtain⟨u,q1,q2,q3⟩:=hel j (by omega)
     rw[tr hb hjm]at q1
     simp only[R]at q1
     have:=q3 0 (by omega)
     rw[q1,ksz]at this
     have hv':v = .int .u8 ((qp m f).getD j 0).toNat:=by
      rw[List.getElem?_map]at hj
      have hl:j<(qp m f).length:=by rw[v7];exact hjm
      rw[List.getElem?_eq_getElem hl]at hj
      simp only[Option.map_some,Option.some.injEq]at hj
      rw[<-hj];simp[List.getD,hl]
     have hpa:(⟨bl,0,none⟩:Addr).add j=⟨bl,j,none⟩:=by
      simp[Addr.add]
      intro h;exact h.symm
     rw[hv',hpa,f3.cell]
     simpa[Value.cells] using this
  ·trivial
 ·exact qmn r e ho
theorem qfo(z:D):(r9 z).zero=z:=by
 unfold r9
 split
 ·rename_i k m
  cases h:(m==0) with
  |false=>rfl
  |true =>
   have:m=0:=by simpa using h
   subst this;rfl
 ·rfl
 ·rfl
 ·rfl
theorem qj1(z:D)(k:ju):(r9 z).at k=z:=by
 unfold r9
 split
 ·rename_i j m
  cases h:(m==0) with
  |false=>rfl
  |true =>
   have:m=0:=by simpa using h
   subst this;rfl
 ·rfl
 ·rfl
 ·rfl
theorem qfp[Lay](r:Rel n g β U y st a w){t:Nat}{rv:Option Operand}(ho:o.op = .makeMap t rv):j6 P n g β U y st a w o (wy P st t (rv.map ev)):=by
 unfold wy
 split
 ·rename_i kt el hu hrv
  have hrv:rv=none:=by cases rv <;> simp_all
  subst hrv
  split
  ·rename_i z kk hz hk
   cases hd:isD z with
   |false=>trivial
   |true =>
    simp only[cond_true]
    intro _
    have hn:=r.inv.frL st.h.nl (Nat.le_refl _)
    have hrun:(execOp a.eval o).run P w = .ok (.value (.map (some w.heap.size))) (w.alloc (.map #[] 0)):=by simp[execOp,ho,Instr.makeMap]
    refine⟨_,_,ji g st.h.nl w.heap.size,.inl hrun,r.newBoxO (o:= .map #[] 0) ⟨#[],0,jh w _,?_⟩,Grow.sameσ (kh hn) rfl,(Ext.alloc r.inv _).kept r.inv.ub,by simp only[RS0,R];exact⟨w.heap.size,by simp[ji,qb],rfl⟩,rfl⟩
    exact⟨fun _ h=>(by simp at h),fun k h=>(by cases h),by simp,fun k _ g' u hu=>by rw[qfo]at hu;rw[qj1];exact hu⟩
  ·trivial
 ·trivial
theorem qgv[Lay](r:Rel n g β U y st a w)(e:Ev g β st.sl a ev){t:Nat}{x i:Operand}{ok:Bool}(ho:o.op = .lookup t x i ok):j6 P n g β U y st a w o (fd P st.h t (ev x) (ev i) ok):=by
 unfold fd
 split
 ·rename_i kt el l hu hx
  split
  ·rename_i kk has v ki k z kp hb hki hz hkp
   cases hc:(isD z&&qjp z v.zero&&gp kk ki&&gp kk kp) with
   |false=>trivial
   |true =>
    simp only[Bool.and_eq_true]at hc
    obtain⟨⟨⟨hd,hs⟩,h1⟩,h2⟩:=hc
    have h1:=bw h1
    have h2:=bw h2
    subst h1;subst h2
    simp only[cond_true]
    have hxv:=ze e _ hx rfl
    simp only[R]at hxv
    obtain⟨b,hmu,hxv⟩:=hxv
    obtain⟨b',f1,⟨es,clock,f2,m1,m2,m3,m4⟩,_,_⟩:=r.inv.box l _ hb
    rw[hmu]at f1;cases f1
    have hid:isD (ev i)=true:=by
     cases hi:ev i <;> rw[hi]at hki <;> first|rfl|(simp[qfh]at hki)
    have hkv:=t7 hki (ze e _ rfl hid)
    obtain⟨zv,hz1,hz2⟩:=j8 hz hd w
    have hks:∀q∈es.toList,∃k',te kk q.key=some k':=fun q hq=>by obtain⟨k',hk',_⟩:=m1 q hq;exact⟨k',hk'⟩
    rcases qd0 (w:=w) hkp hkv es.toList hks with ⟨g1,g2⟩|⟨j,q,g1,g2,g3⟩
    ·have hh:has k=false:=by
      cases hh:has k with
      |false=>rfl
      |true =>
       obtain⟨q,hq,hqk⟩:=m2 k hh
       exact absurd (ec hqk hkv) (g2 q hq)
     have hrz:R g (v.at k) zv:=m4 k hh g zv (qcq hs (hz2 g))
     rw[hh]
     cases ok with
     |true=>exact qt (v:= .tuple #[zv,.bool false]) r (by simp[execOp,ho,hxv,Instr.lookup,run_underlying hu,MapKept.run_getObj_map f2,yk hkp hkv,g1,hz1,Result.andThen]) (by show R g (.tup [v.at k,.bool false]) _;simp only[R,Rs];exact⟨_,rfl,_,_,rfl,hrz,_,_,rfl,rfl,rfl⟩)
     |false=>exact qt (v:=zv) r (by simp[execOp,ho,hxv,Instr.lookup,run_underlying hu,MapKept.run_getObj_map f2,yk hkp hkv,g1,hz1,Result.andThen]) hrz
    ·obtain⟨k',hk',hh,hr⟩:=m1 q (List.mem_of_getElem? g2)
     rw[g3,hkv]at hk'
     cases hk'
     rw[hh]
     cases ok with
     |true=>exact qt (v:= .tuple #[q.val,.bool true]) r (by simp[execOp,ho,hxv,Instr.lookup,run_underlying hu,MapKept.run_getObj_map f2,yk hkp hkv,g1,Result.andThen]) (by show R g (.tup [v.at k,.bool true]) _;simp only[R,Rs];exact⟨_,rfl,_,_,rfl,hr,_,_,rfl,rfl,rfl⟩)
     |false=>exact qt (v:=q.val) r (by simp[execOp,ho,hxv,Instr.lookup,run_underlying hu,MapKept.run_getObj_map f2,yk hkp hkv,g1,Result.andThen]) hr
  ·trivial
 ·trivial
theorem wi{α:Type}(f:ju->α)(k:ju)(v:α):ke f k v k=v:=by simp[ke]
theorem ve{α:Type}(f:ju->α){k x:ju}(v:α)(h:x≠k):ke f k v x=f x:=by simp[ke,h]
theorem qj2{mv mv':MV}{k:ju}{d:D}(h:mv.put k d=some mv'):mv'.zero=mv.zero/\mv'.at k=d/\∀x,x≠k->mv'.at x=mv.at x:=by
 cases mv with
 |i j f =>
  cases d with
  |int j' m =>
   simp only[MV.put]at h
   cases hc:(j==j') with
   |false=>rw[hc]at h;cases h
   |true =>
    rw[hc]at h
    cases h
    have:=qqw hc;subst this
    exact⟨rfl,by simp[MV.at,wi],fun x hx=>by simp[MV.at,ve _ _ hx]⟩
  |_=>cases h
 |s f =>
  cases d with
  |str q=>cases h;exact⟨rfl,by simp[MV.at,wi],fun x hx=>by simp[MV.at,ve _ _ hx]⟩
  |_=>cases h
 |b f =>
  cases d with
  |bool q=>cases h;exact⟨rfl,by simp[MV.at,wi],fun x hx=>by simp[MV.at,ve _ _ hx]⟩
  |_=>cases h
 |d z f =>
  cases h
  exact⟨rfl,by simp[MV.at,wi],fun x hx=>by simp[MV.at,ve _ _ hx]⟩
theorem qaz[Lay](r:Rel n g β U y st a w)(e:Ev g β st.sl a ev){t:Nat}{m k x:Operand}(ho:o.op = .mapUpdate t m k x\/o.op = .insert t m k x):j6 P n g β U y st a w o (uy P st t (ev m) (ev k) (ev x)):=by
 unfold uy
 split
 ·rename_i kt el l hu hm
  split
  ·rename_i kk has mv ki key kp hb hki hkp
   split
   ·rename_i mv' hput
    cases hc:(isD (ev x)&&gp kk ki&&gp kk kp) with
    |false=>rw[hc]at hput;cases hput
    |true =>
     rw[hc]at hput
     simp only[cond_true]at hput
     simp only[Bool.and_eq_true]at hc
     obtain⟨⟨hd,h1⟩,h2⟩:=hc
     have h1:=bw h1
     have h2:=bw h2
     subst h1;subst h2
     intro _
     have hmv:=ze e _ hm rfl
     simp only[R]at hmv
     obtain⟨b,hmu,hmv⟩:=hmv
     obtain⟨b',f1,⟨es,clock,f2,m1,m2,m3,m4⟩,hU,_⟩:=r.inv.box l _ hb
     rw[hmu]at f1;cases f1
     have hid:isD (ev k)=true:=by
      cases hi:ev k <;> rw[hi]at hki <;> first|rfl|(simp[qfh]at hki)
     have hkv:=t7 hki (ze e _ rfl hid)
     have hxr:R g (ev x) (a.eval x):=ze e _ rfl hd
     obtain⟨p1,p2,p3⟩:=qj2 hput
     have hks:∀q∈es.toList,∃k',te kk q.key=some k':=fun q hq=>by obtain⟨k',hk',_⟩:=m1 q hq;exact⟨k',hk'⟩
     have hz:∀q,ke has key true q=false->∀(g':G) (u:Value),R g' mv'.zero u->R g' (mv'.at q) u:=fun q hq=>by
      by_cases hqk:q=key
      ·subst hqk;rw[wi]at hq;cases hq
      ·rw[ve _ _ hqk]at hq
       rw[p3 q hqk,p1];exact m4 q hq
     have hturn:∀es' clock',Turn b w {w with heap:=w.heap.setIfInBounds b (.map es' clock')}:=fun es' clock' =>
      ⟨⟨rfl,rfl,rfl,by simp,fun q hq=>by simp[Ne.symm hq]⟩,fun q e=>by
       by_cases hq:q=b
       ·subst hq;rw[f2]at e;cases e
       ·simp[Ne.symm hq];exact e⟩
     have hlt:b<w.heap.size:=(Array.getElem?_eq_some_iff.1 f2).1
     rcases qd0 (w:=w) hkp hkv es.toList hks with ⟨g1,g2⟩|⟨j,q,g1,g2,g3⟩
     ·have hrun:(execOp a.eval o).run P w = .ok .skip {w with heap:=w.heap.setIfInBounds b (.map (es.push {key:=a.eval k,val:=a.eval x,born:=clock}) (clock+1))}:=by
       rcases ho with ho|ho <;> simp[execOp,ho,hmv,Instr.mapUpdate,run_underlying hu,MapKept.run_getObj_map f2,yk hkp hkv,g1,MapKept.run_setObj_map _ f2,Result.andThen]
      refine⟨undef,_,g,.inr ⟨hrun,rfl⟩,r.setBoxO hb hmu (hturn _ _) ⟨_,_,(MapKept.heap_set f2).1,fun q hq=> ?_,fun q hq=> ?_,?_,hz⟩,Grow.refl U g,(hturn _ _).kept hU,RS0.ofR wg,rfl⟩
      ·simp only[Array.toList_push,List.mem_append,List.mem_singleton]at hq
       rcases hq with hq|rfl
       ·obtain⟨k',hk',hh,hr⟩:=m1 q hq
        have hne:k'≠key:=fun he=>g2 q hq (ec (he▸hk') hkv)
        exact⟨k',hk',by rw[ve _ _ hne];exact hh,by rw[p3 k' hne];exact hr⟩
       ·exact⟨key,hkv,wi _ _ _,by rw[p2];exact hxr⟩
      ·by_cases hqk:q=key
       ·subst hqk;exact⟨{key:=a.eval k,val:=a.eval x,born:=clock},by simp,hkv⟩
       ·rw[ve _ _ hqk]at hq
        obtain⟨q',hq',e⟩:=m2 q hq
        exact⟨q',by simp[Array.mem_toList_iff.1 hq'],e⟩
      ·rw[Array.toList_push,List.map_append,List.nodup_append]
       refine⟨m3,by simp,fun u hu' v hv=> ?_⟩
       simp only[List.map_cons,List.map_nil,List.mem_singleton]at hv
       subst hv
       obtain⟨q',hq',rfl⟩:=List.mem_map.1 hu'
       intro he
       rw[hkv]at he
       exact g2 q' hq' (ec he hkv)
     ·have hj:es[j]? = some q:=by simpa using g2
      have hrun:(execOp a.eval o).run P w = .ok .skip {w with heap:=w.heap.setIfInBounds b (.map (es.modify j fun e=>{e with key:=a.eval k,val:=a.eval x}) clock)}:=by
       rcases ho with ho|ho <;> simp[execOp,ho,hmv,Instr.mapUpdate,run_underlying hu,MapKept.run_getObj_map f2,yk hkp hkv,g1,hj,g3,qgu hkv,MapKept.run_setObj_map _ f2,Result.andThen]
      have hkey:(es.modify j fun e=>{e with key:=a.eval k,val:=a.eval x}).toList.map (·.key)=es.toList.map (·.key):=MapKept.modify_keys j _ fun e' he'=>by rw[hj]at he';cases he';exact g3.symm
      have hmap:∀f:Value->Option ju,(es.modify j fun e=>{e with key:=a.eval k,val:=a.eval x}).toList.map (fun e=>f e.key)=es.toList.map (fun e=>f e.key):=fun f=>by
       have:=congrArg (List.map f) hkey
       simpa[List.map_map,Function.comp_def] using this
      have hget:∀i',(es.modify j fun e=>{e with key:=a.eval k,val:=a.eval x}).toList[i']? = if j=i' then some {q with key:=a.eval k,val:=a.eval x} else es.toList[i']? :=fun i'=>by
       simp only[Array.getElem?_toList,Array.getElem?_modify]
       by_cases hij:j=i'
       ·subst hij;simp[hj]
       ·simp[hij]
      have huniq:∀(i':Nat) (q':MapEntry),es.toList[i']? = some q'->te kk q'.key=some key->i'=j:=fun i' q' h1 h2=>by
       have hl1:i'<(es.toList.map fun e=>te kk e.key).length:=by rw[List.length_map];exact(List.getElem?_eq_some_iff.1 h1).1
       refine(List.getElem?_inj (l:=es.toList.map fun e=>te kk e.key) hl1 m3).1 ?_
       rw[List.getElem?_map,List.getElem?_map,h1,g2]
       simp only[Option.map_some]
       rw[h2,g3,hkv]
      refine⟨undef,_,g,.inr ⟨hrun,rfl⟩,r.setBoxO hb hmu (hturn _ _) ⟨_,_,(MapKept.heap_set f2).1,fun q' hq=> ?_,fun q' hq=> ?_,?_,hz⟩,Grow.refl U g,(hturn _ _).kept hU,RS0.ofR wg,rfl⟩
      ·obtain⟨i',hi'⟩:=List.mem_iff_getElem?.1 hq
       rw[hget]at hi'
       split at hi'
       ·cases hi'
        exact⟨key,hkv,wi _ _ _,by rw[p2];exact hxr⟩
       ·rename_i hne
        obtain⟨k',hk',hh,hr⟩:=m1 q' (List.mem_of_getElem? hi')
        have hnk:k'≠key:=fun he=>hne (huniq i' q' hi' (he▸hk')).symm
        exact⟨k',hk',by rw[ve _ _ hnk];exact hh,by rw[p3 k' hnk];exact hr⟩
      ·by_cases hqk:q'=key
       ·subst hqk
        exact⟨_,List.mem_of_getElem? (i:=j) (by rw[hget,if_pos rfl]),hkv⟩
       ·rw[ve _ _ hqk]at hq
        obtain⟨q2,hq2,e⟩:=m2 q' hq
        obtain⟨i',hi'⟩:=List.mem_iff_getElem?.1 hq2
        have hne:¬j=i':=fun he=>by
         subst he
         rw[g2]at hi';cases hi'
         rw[g3,hkv]at e
         exact hqk (Option.some.inj e).symm
        exact⟨q2,List.mem_of_getElem? (i:=i') (by rw[hget,if_neg hne];exact hi'),e⟩
      ·rw[hmap];exact m3
   ·trivial
  ·trivial
 ·trivial
end
section
variable {P:Program} {n:Nat} {g:G} {β:Nat->Nat} {U:Nat->Prop} {y:Nat->Bool->Prop} {st:St} {a:Act} {w:World} {ev:Operand->D} {o:Oper}
theorem qcr{b:Builtin}{c:Call}(ho:o.op = .call c)(hc:c.callee = .builtin b) :
  (execOp a.eval o)=builtin b c.argTypes o.type (c.args.map fun | .const _=>true|_=>false) (c.args.map a.eval):=by
 simp only[execOp,ho,resolve,hc,invoke]
 rfl
theorem Rs.one{g:G}{d:D}{vs:List Value}(h:Rs g [d] vs):∃v,vs=[v]/\R g d v:=by
 simp only[Rs]at h
 obtain⟨v,r,rfl,hv,rfl⟩:=h
 exact⟨v,rfl,hv⟩
theorem s4{g:G}:∀(l:List D) (vs:List Value) (x d:D) (vx:Value) (w:World),Rs g l vs->R g x vx ->
  l.foldl (fun acc y=>match acc,y with|some (.int k a),.int _ b=>some (.int k (if b<a then b else a))|_,_=>none) (some x)=some d ->
  ∃v,(vs.foldlM Builtin.min2 vx).run P w = .ok v w/\R g d v
 | [],vs,x,d,vx,w,hs,hx,h=>by
  simp only[Rs]at hs;subst hs
  simp only[List.foldl_nil,Option.some.injEq]at h;subst h
  exact⟨vx,by simp[List.foldlM],hx⟩
 |z::l,vs,x,d,vx,w,hs,hx,h=>by
  simp only[Rs]at hs
  obtain⟨vz,r,rfl,hz,hs⟩:=hs
  have hbad:∀l:List D,l.foldl (fun(acc:Option D) y=>match acc,y with|some (.int k a),.int _ b=>some (.int k (if b<a then b else a))|_,_=>none) none≠some d:=by
   intro l;induction l with
   |nil=>simp
   |cons q l ih=>simpa using ih
  simp only[List.foldl_cons]at h
  split at h
  ·rename_i _ k p k' q hxe
   cases hxe
   simp only[R]at hx hz
   subst hx;subst hz
   obtain⟨v,h1,h2⟩:=s4 l r _ d _ w hs (by simp only[R];rfl) h
   exact⟨v,by simp only[List.foldlM_cons,Builtin.min2,Sem.run_bind,Sem.run_pure,Result.andThen_ok];exact h1,h2⟩
  ·exact absurd h (hbad l)
theorem s5{g:G}:∀(l:List D) (vs:List Value) (x d:D) (vx:Value) (w:World),Rs g l vs->R g x vx ->
  l.foldl (fun acc y=>match acc,y with|some (.int k a),.int _ b=>some (.int k (if b > a then b else a))|_,_=>none) (some x)=some d ->
  ∃v,(vs.foldlM Builtin.max2 vx).run P w = .ok v w/\R g d v
 | [],vs,x,d,vx,w,hs,hx,h=>by
  simp only[Rs]at hs;subst hs
  simp only[List.foldl_nil,Option.some.injEq]at h;subst h
  exact⟨vx,by simp[List.foldlM],hx⟩
 |z::l,vs,x,d,vx,w,hs,hx,h=>by
  simp only[Rs]at hs
  obtain⟨vz,r,rfl,hz,hs⟩:=hs
  have hbad:∀l:List D,l.foldl (fun(acc:Option D) y=>match acc,y with|some (.int k a),.int _ b=>some (.int k (if b > a then b else a))|_,_=>none) none≠some d:=by
   intro l;induction l with
   |nil=>simp
   |cons q l ih=>simpa using ih
  simp only[List.foldl_cons]at h
  split at h
  ·rename_i _ k p k' q hxe
   cases hxe
   simp only[R]at hx hz
   subst hx;subst hz
   obtain⟨v,h1,h2⟩:=s5 l r _ d _ w hs (by simp only[R];rfl) h
   exact⟨v,by simp only[List.foldlM_cons,Builtin.max2,Sem.run_bind,Sem.run_pure,Result.andThen_ok];exact h1,h2⟩
  ·exact absurd h (hbad l)
theorem rf(c:Call):c.args.map a.eval=(c.args.toList.map a.eval).toArray:=by cases c.args;simp
theorem ee{v:Value}(h:v.oneCell'=true):v.cells = #[v]:=by
 cases v <;> first|rfl|cases h
theorem qa0{vals:Array Value}{cs:List Value}{off i:Nat}(h:off+cs.length<=vals.size) :
  (vals.toList.take off++cs++vals.toList.drop (off+cs.length)).toArray[i]? = if i<off then vals[i]? else if i<off+cs.length then cs[i-off]? else vals[i]? :=by
 rw[List.getElem?_toArray,pz _ _ _ _ (by simpa using h)]
 simp
theorem qgw{g:G}{vals:Array Value}{k off c:Nat}{get gg:Nat->D}{cs:List Value}(hk:k<=vals.size)(hs:∀i,i<k->∃v,vals[i]? = some v/\R g (get i) v)(hc:cs.length=c)(ho:off+c<=k)
  (hv:∀j v,cs[j]? = some v->R g (gg j) v) {T:Nat} :
  RowOf g T (vals.toList.take off++cs++vals.toList.drop (off+c)).toArray (.arr k (g9 get off c gg)):=by
 subst hc
 refine⟨by simp only[List.size_toArray,List.length_append,List.length_take,List.length_drop,Array.length_toList];omega,fun i hi=> ?_⟩
 rw[qa0 (by omega)]
 unfold g9
 by_cases h1:i<off
 ·rw[if_pos h1]
  have:Nat.ble off i=false:=by cases hb:Nat.ble off i with|false=>rfl|true=>have:=Nat.le_of_ble_eq_true hb;omega
  simp only[this,Bool.false_and,cond_false];exact hs i hi
 ·rw[if_neg h1]
  have hb:Nat.ble off i=true:=Nat.ble_eq_true_of_le (by omega)
  by_cases h2:i<off+cs.length
  ·rw[if_pos h2]
   have hb2:Nat.blt i (off+cs.length)=true:=Nat.ble_eq_true_of_le h2
   simp only[hb,hb2,Bool.and_self,cond_true]
   exact⟨_,List.getElem?_eq_getElem (by omega),hv _ _ (List.getElem?_eq_getElem (by omega))⟩
  ·rw[if_neg h2]
   have hb2:Nat.blt i (off+cs.length)=false:=by cases hb:Nat.blt i (off+cs.length) with|false=>rfl|true=>have:i+1<=_:=Nat.le_of_ble_eq_true hb;omega
   simp only[hb,hb2,Bool.and_false,cond_false];exact hs i hi
theorem qa1{dT sT ty elem:Nat}{b off n dcap m scap:Nat}{da sa:Option Addr}{vals:Array Value}{T:Nat}{cs:List Value}(hu:P.underlying dT=some (.slice elem))(hz:ya P elem=some 1)
  (hb:RowB w b vals T) (hd:0<dcap->da=some ⟨b,off,none⟩) (hn:n<=dcap) (hcs:cs.length=min m n) (hsrc:∀j v,cs[j]? = some v->∃a,sa=some a/\w.cell? (a.add j)=some v) (hfit:off+n<=vals.size) (h1:∀v∈cs,v.oneCell'=true) :
  (Builtin.copy_ #[dT,sT] ty #[.slice da n dcap,.slice sa m scap]).run P w = .ok (goInt (min m n:Nat)) (w.setRow b (vals.toList.take off++cs++vals.toList.drop (off+min m n)).toArray):=by
 have hs1:(P.info? elem).map (·.size)=some 1:=hz
 by_cases h0:min m n=0
 ·have hc0:cs=[]:=List.length_eq_zero_iff.1 (by omega)
  have h0':Nat.min m n=0:=h0
  rw[run_copy_none w dT sT ty elem da sa n dcap m scap hu hs1 h0']
  subst hc0
  rw[h0]
  simp only[List.append_nil,Nat.add_zero,List.take_append_drop,Array.toArray_toList]
  obtain⟨fz,h2,_⟩:=hb
  rw[setRow_self w b vals T fz h2]
  rfl
 ·have hda:=hd (by omega)
  obtain⟨a,hsa,_⟩:=hsrc 0 _ (List.getElem?_eq_getElem (by omega:0<cs.length))
  subst hda
  have hl:=run_loadCells_list (P:=P) w a cs (fun j v hv=>by obtain⟨a',e1,e2⟩:=hsrc j v hv;rw[hsa]at e1;cases e1;exact e2)
  have hst:=hb.store (P:=P) off cs 0 (by omega) h1
  subst hsa
  have hmn:Nat.min m n=cs.length:=hcs.symm
  cases hq:P.info? elem with
  |none=>simp[hq]at hs1
  |some i =>
   have hi:i.size=1:=by simpa[hq] using hs1
   rw[<-hcs]
   simp only[Nat.add_zero]at hst
   simp[Builtin.copy_,run_underlying hu,Builtin.lenOf,Builtin.firstCells,sizeOf,typeInfo,hq,hi,hmn,hl,hst]
theorem qmq[Lay](r:Rel n g β U y st a w){t u:Nat}{x z:D}{vx vz:Value}(hx:R g x vx)(hz:R g z vz)
  (hcp:∀v w',(Builtin.copy_ #[t,u] o.type #[vx,vz]).run P w = .ok v w'->(execOp a.eval o).run P w = .ok (.value v) w'):j6 P n g β U y st a w o (qak P st t x z):=by
 unfold qak
 split
 ·rename_i e l off k m q gg own hu
  split
  ·rename_i k' get hz1 hrow
   intro hp
   simp only[R]at hx
   obtain⟨b,hb1,da,dcap,rfl,hd1,_,hd2⟩:=hx
   obtain⟨sa,scap,vs,rfl,hs1,_⟩:=hz.listOpen
   have hz':=hz
   simp only[R]at hz'
   obtain⟨_,sa',scap',hve,_,_,hel⟩:=hz'
   cases hve
   obtain⟨b',h3,h3r,hU,_⟩:=r.inv.box l _ hrow
   rw[hb1]at h3;cases h3
   obtain⟨T,vals,hbk,hk,hvals⟩:=h3r
   have hone:∀i,i<m->∃(p:Addr) (v:Value),sa=some p/\R g (gg i) v/\v.oneCell'=true/\w.cell? (p.add i)=some v:=by
    intro i hi
    obtain⟨p,v,h4,h5,h6,h7,h8⟩:=hel i hi
    have ho:=py h6 (hp.2 i hi)
    have hc:=ee ho
    have hq1:q=1:=by rw[<-h7.1,hc];rfl
    subst hq1
    have h9:=h8 0 (by omega)
    rw[hc]at h9
    refine⟨p,v,h4,h6,ho,?_⟩
    have h10:=(r.inv.sub _ _ (by simpa using h9)).1
    rw[<-h10]
    congr 1
    cases p;simp only at h5;subst h5;simp[Addr.add]
   have hpick:∃cs:List Value,cs.length=min m k/\∀j v,cs[j]? = some v->∃p,sa=some p/\R g (gg j) v/\v.oneCell'=true/\w.cell? (p.add j)=some v:=by
    have hpk:∀c,c<=m->∃cs:List Value,cs.length=c/\∀j v,cs[j]? = some v->∃p,sa=some p/\R g (gg j) v/\v.oneCell'=true/\w.cell? (p.add j)=some v:=by
     intro c
     induction c with
     |zero=>exact fun _=>⟨[],rfl,fun j v h=>by simp at h⟩
     |succ c ih =>
      intro hc
      obtain⟨cs,h1,h2⟩:=ih (by omega)
      obtain⟨p,v,h4,h5,h6,h7⟩:=hone c (by omega)
      refine⟨cs++[v],by simp[h1],fun j u hj=> ?_⟩
      by_cases hjc:j<c
      ·rw[List.getElem?_append_left (by omega)]at hj;exact h2 j u hj
      ·by_cases hje:j=c
       ·subst hje
        rw[List.getElem?_append_right (by omega),h1]at hj
        simp only[Nat.sub_self,List.getElem?_cons_zero,Option.some.injEq]at hj
        subst hj;exact⟨p,h4,h5,h6,h7⟩
       ·rw[List.getElem?_eq_none (by simp;omega)]at hj;cases hj
    exact hpk _ (Nat.min_le_left _ _)
   obtain⟨cs,hcs,hcsv⟩:=hpick
   have hrun:=qa1 (P:=P) (w:=w) (ty:=o.type) (sT:=u) (scap:=scap) (m:=m) (sa:=sa) hu hz1 (RowB.of hbk) hd2 hd1 hcs (fun j v hj=>by obtain⟨p,e1,_,_,e4⟩:=hcsv j v hj;exact⟨p,e1,e4⟩) (by omega) (fun v hv=>by
    obtain⟨j,hj,rfl⟩:=List.getElem_of_mem hv
    exact(hcsv j _ (List.getElem?_eq_getElem hj)).choose_spec.2.2.1)
   exact⟨_,_,g,.inl (hcp _ _ hrun),Rel.setBox r hrow hb1 (row':= .arr k' _) (qgw hk hvals hcs (by omega) fun j v hj=>(hcsv j v hj).choose_spec.2.1) hbk,Grow.refl U g,(jm w _ _).kept hU,RS0.ofR (by simp only[R];rfl),rfl⟩
  ·trivial
 ·rename_i e l off k l' off' m hu
  split
  ·rename_i k' get k2 get2 hz1 hrow hrow2
   intro hp
   simp only[R]at hx hz
   obtain⟨b,hb1,da,dcap,rfl,hd1,_,hd2⟩:=hx
   obtain⟨b2,hb2,sa,scap,rfl,hs1,_,hs2⟩:=hz
   obtain⟨b',h3,h3r,hU,_⟩:=r.inv.box l _ hrow
   rw[hb1]at h3;cases h3
   obtain⟨T,vals,hbk,hk,hvals⟩:=h3r
   obtain⟨b',h3,h3r,_⟩:=r.inv.box l' _ hrow2
   rw[hb2]at h3;cases h3
   obtain⟨T2,vals2,hbk2,hk2,hvals2⟩:=h3r
   have hcsv:∀j v,((vals2.toList.drop off').take (min m k))[j]? = some v->∃p,sa=some p/\R g (jx get2 off' j) v/\v.oneCell'=true/\w.cell? (p.add j)=some v:=by
    intro j v hj
    have hjm:j<min m k:=by
     rcases Nat.lt_or_ge j (min m k) with h|h
     ·exact h
     ·rw[List.getElem?_eq_none (by simp;omega)]at hj;cases hj
    rw[List.getElem?_take,if_pos hjm,List.getElem?_drop,Array.getElem?_toList]at hj
    obtain⟨v',hv',hr⟩:=hvals2 (off'+j) (by omega)
    rw[hv']at hj;cases hj
    refine⟨_,hs2 (by omega),hr,py hr (hp.2.2 j (by omega)),?_⟩
    rw[show(⟨b2,off',none⟩:Addr).add j=⟨b2,off'+j,none⟩ by simp[Addr.add],(RowB.of hbk2).cell,hv']
   have hcs:((vals2.toList.drop off').take (min m k)).length=min m k:=by simp;omega
   have hrun:=qa1 (P:=P) (w:=w) (ty:=o.type) (sT:=u) (scap:=scap) (m:=m) (sa:=sa) hu hz1 (RowB.of hbk) hd2 hd1 hcs (fun j v hj=>by obtain⟨p,e1,_,_,e4⟩:=hcsv j v hj;exact⟨p,e1,e4⟩) (by omega) (fun v hv=>by
    obtain⟨j,hj,rfl⟩:=List.getElem_of_mem hv
    exact(hcsv j _ (List.getElem?_eq_getElem hj)).choose_spec.2.2.1)
   exact⟨_,_,g,.inl (hcp _ _ hrun),Rel.setBox r hrow hb1 (row':= .arr k' _) (qgw hk hvals hcs (by omega) fun j v hj=>(hcsv j v hj).choose_spec.2.1) hbk,Grow.refl U g,(jm w _ _).kept hU,RS0.ofR (by simp only[R];rfl),rfl⟩
  ·trivial
 ·trivial
theorem qfq[Lay](r:Rel n g β U y st a w)(e:Ev g β st.sl a ev){c:Call}{b:Builtin}(ho:o.op = .call c)(hc:c.callee = .builtin b)(hall:ax (c.args.toList.map ev)=true){bx vx:Bool} :
  j6 P n g β U y st a w o (ww P st bx vx b c.argTypes.toList (c.args.toList.map ev)):=by
 have hs:=tg e _ hall
 have hrun:=qcr (a:=a) ho hc
 rw[rf]at hrun
 generalize c.args.toList.map ev=ds at hs⊢
 generalize c.args.toList.map a.eval=vs at hs hrun
 have hat:c.argTypes=c.argTypes.toList.toArray:=by simp
 rw[hat]at hrun
 generalize c.argTypes.toList=ts at hrun⊢
 unfold ww
 split
 ·
  rename_i t ts' m z f own
  obtain⟨v,rfl,hv⟩:=hs.one
  split
  ·rename_i el hu
   obtain⟨ba,cap,_,rfl,_,h3,_⟩:=hv.listOpen
   refine⟨h3,DOk.ofD rfl,VOk.plain r.inv (v:= .int .i64 m) ?_ (RS0.ofR (by simp only[R]))⟩
   rw[hrun];simp[builtin,Builtin.len_,run_underlying hu,goInt]
  ·trivial
 ·rename_i t ts' l off m
  obtain⟨v,rfl,hv⟩:=hs.one
  split
  ·rename_i el hu
   simp only[R]at hv
   obtain⟨bl,_,ba,cap,rfl,_,h3,_⟩:=hv
   refine⟨h3,DOk.ofD rfl,VOk.plain r.inv (v:= .int .i64 m) ?_ (RS0.ofR (by simp only[R]))⟩
   rw[hrun];simp[builtin,Builtin.len_,run_underlying hu,goInt]
  ·trivial
 ·rename_i t ts' tt m z
  obtain⟨v,rfl,hv⟩:=hs.one
  split
  ·rename_i el hu
   simp only[R]at hv
   obtain⟨h3,ba,cap,rfl,_⟩:=hv
   refine⟨h3,DOk.ofD rfl,VOk.plain r.inv (v:= .int .i64 m) ?_ (RS0.ofR (by simp only[R]))⟩
   rw[hrun];simp[builtin,Builtin.len_,run_underlying hu,goInt]
  ·trivial
 ·rename_i t ts' ty tt m
  obtain⟨v,rfl,hv⟩:=hs.one
  split
  ·rename_i el hu
   simp only[R]at hv
   obtain⟨h3,ba,cap,rfl,_⟩:=hv
   refine⟨h3,DOk.ofD rfl,VOk.plain r.inv (v:= .int .i64 m) ?_ (RS0.ofR (by simp only[R]))⟩
   rw[hrun];simp[builtin,Builtin.len_,run_underlying hu,goInt]
  ·trivial
 ·rename_i t ts' s
  obtain⟨v,rfl,hv⟩:=hs.one
  split
  ·rename_i hu
   simp only[R]at hv
   obtain⟨rfl,h3⟩:=hv
   refine⟨h3,DOk.ofD rfl,VOk.plain r.inv (v:= .int .i64 s.length) ?_ (RS0.ofR (by simp only[R]))⟩
   have hsz:(ByteArray.mk s.toArray).size=s.length:=by show s.toArray.size=_;simp
   rw[hrun];simp[builtin,Builtin.len_,run_underlying hu,goInt,hsz]
  ·trivial
 ·
  rename_i t u x z
  simp only[Rs]at hs
  obtain⟨vx,_,rfl,hx,vz,_,rfl,hz,rfl⟩:=hs
  have happ:∀v w',(Builtin.append_ #[t,u] o.type #[vx,vz]).run P w = .ok v w'->(execOp a.eval o).run P w = .ok (.value v) w':=by
   intro v w' h
   rw[hrun];simp[builtin,h]
  split
  ·rename_i el hu
   exact qll r (.inl ⟨_,hu⟩) hx hz happ
  ·rename_i hu
   exact qll r (.inr hu) hx hz happ
  ·trivial
 ·
  rename_i t u x z
  simp only[Rs]at hs
  obtain⟨vx,_,rfl,hx,vz,_,rfl,hz,rfl⟩:=hs
  exact qmq (t:=t) (u:=u) r hx hz fun v w' h=>by rw[hrun];simp[builtin,h]
 ·
  cases hm:qrb ds with
  |none=>trivial
  |some d =>
   cases ds with
   |nil=>simp[qrb]at hm
   |cons x l =>
    simp only[Rs]at hs
    obtain⟨vx,rr,rfl,hx,hs⟩:=hs
    obtain⟨v,h1,h2⟩:=s4 (P:=P) l rr x d vx w hs hx hm
    refine qt (v:=v) r ?_ h2
    rw[hrun];simp[builtin,Builtin.min_,h1]
 ·cases hm:qrc ds with
  |none=>trivial
  |some d =>
   cases ds with
   |nil=>simp[qrc]at hm
   |cons x l =>
    simp only[Rs]at hs
    obtain⟨vx,rr,rfl,hx,hs⟩:=hs
    obtain⟨v,h1,h2⟩:=s5 (P:=P) l rr x d vx w hs hx hm
    refine qt (v:=v) r ?_ h2
    rw[hrun];simp[builtin,Builtin.max_,h1]
 ·trivial
theorem qmr[Lay](r:Rel n g β U y st a w)(e:Ev g β st.sl a ev){t:Nat}{l c:Operand}{vx:Bool}(ho:o.op = .makeSlice t l c):j6 P n g β U y st a w o (qam P st vx t (ev l) (ev c)):=by
 unfold qam
 split
 ·rename_i el kl x kc z hu hl hc
  have h1:=ze e _ hl rfl
  have h2:=ze e _ hc rfl
  simp only[R]at h1 h2
  split
  ·rename_i sz b zd hsz hby hze
   cases hcc:(isD zd&&Nat.beq (ql zd).length (sz+1)) with
   |false=>trivial
   |true =>
    simp only[cond_true]
    simp only[Bool.and_eq_true]at hcc
    obtain⟨hc1,hc2⟩:=hcc
    have hc2:=qq.1 hc2
    cases vx with
    |true =>
     simp only[cond_true]
     cases hones:ones zd with
     |false=>trivial
     |true =>
     intro⟨hp1,hp2,hp3⟩
     obtain⟨i,hi,hib⟩:=xp hby
     have his:i.size=sz+1:=by simp only[ya,hi,Option.map_some,Option.some.injEq]at hsz;exact hsz
     obtain⟨zv,hz1,hz2⟩:=j8 hze hc1 w
     have hizv:i.zero=some zv:=by
      simp only[gj,hi,Option.bind_some]at hze
      cases hzi:i.zero with
      |none=>rw[hzi]at hze;cases hze
      |some z' =>
       simp[zeroValue,typeInfo,hi,hzi]at hz1
       rw[hz1]
     have hxm:z<=z*((b:Int)+1):=by
      have:z*1<=z*((b:Int)+1):=Int.mul_le_mul_of_nonneg_left (by omega) (by omega)
      simpa using this
     have hroom:z*((b:Int)+1)<=140737488355328:=by
      have:((q7:Nat):Int)=140737488355328:=rfl
      rw[<-this];simpa using hp3
     have hrun:=run_make (P:=P) (w:=w) t el i zv hu hi hizv kl kc x z hp1 hp2 (by rw[hib,Int.mul_comm];push_cast;omega) (by omega)
     have hzc:=(hz2 g).cells
     have hzl:zv.cells.size=sz+1:=by have:=hzc.length;simp at this;omega
     have r1:=Rel.vecTo r (t:=st.h.nt) (nt:=st.h.nt+1) (k:=⟨some ⟨w.heap.size,0,none⟩,x.toNat,z.toNat,sz+1,el⟩) (f:=fun _=>zd) (w':=w.alloc (.cells (madeCells zv.cells (z.toNat*i.size)) el (0,0))) (by omega) (by omega)
      (fun k0 h=>by rw[r.inv.frT _ (Nat.le_refl _)]at h;cases h) (DefsKept.alloc w _) (zr w _).size (fun c hc _=>j7 _ _ hc)
      (fun _=>⟨w.heap.size,el,_,rfl,fun h=>absurd (r.inv.ub _ h) (Nat.lt_irrefl _),RowB.of (jh _ _),⟨by rw[size_madeCells,his];exact Nat.le_refl _,rfl⟩,by simp only;omega,fun q hq=>⟨zv,hz2 g,⟨hzl,hones⟩,fun j hj=>by
       have hj:j<sz+1:=hj
       have hq:q<x.toNat:=hq
       show(madeCells zv.cells (z.toNat*i.size))[q*(sz+1)+j]? = _
       have hlt:q*(sz+1)+j<z.toNat*i.size:=by
        have:(q+1)*(sz+1)<=z.toNat*(sz+1):=Nat.mul_le_mul_right _ (by omega)
        rw[Nat.add_mul]at this;rw[his];omega
       rw[madeCells,Array.getElem?_map,Array.getElem?_range,if_pos hlt]
       simp only[Option.map_some,hzl]
       rw[Nat.mul_comm q,Nat.mul_add_mod,Nat.mod_eq_of_lt hj]
       rw[getElem!_pos _ j (by omega),Array.getElem?_eq_getElem (by omega)]⟩,r.freeNew _ (Nat.le_refl _)⟩)
     have hlen:x.toNat<=q8:=by unfold q8;omega
     refine⟨.slice (some ⟨w.heap.size,0,none⟩) x.toNat z.toNat,_,_,.inl ?_,r1,Grow.sameσ (u0 fun k0 h=>by rw[r.inv.frT _ (Nat.le_refl _)]at h;cases h) rfl,(Ext.alloc r.inv _).kept r.inv.ub,RS0.ofR ?_,rfl⟩
     ·simp only[execOp,ho,h1,h2,Sem.run_bind,hrun,Result.andThen_ok,Sem.run_pure]
     ·simp only[R]
      exact⟨hlen,_,_,rfl,by omega,_,qb _ _ _,rfl,Nat.le_refl _,fun _=>⟨rfl,rfl⟩⟩
    |false =>
    intro⟨hp1,hp2,hp3⟩
    subst hp2
    obtain⟨i,hi,hib⟩:=xp hby
    have his:i.size=sz+1:=by simp only[ya,hi,Option.map_some,Option.some.injEq]at hsz;exact hsz
    obtain⟨zv,hz1,hz2⟩:=j8 hze hc1 w
    have hizv:i.zero=some zv:=by
     simp only[gj,hi,Option.bind_some]at hze
     cases hzi:i.zero with
     |none=>rw[hzi]at hze;cases hze
     |some z' =>
      simp[zeroValue,typeInfo,hi,hzi]at hz1
      rw[hz1]
    have hxm:x<=x*((b:Int)+1):=by
     have:x*1<=x*((b:Int)+1):=Int.mul_le_mul_of_nonneg_left (by omega) hp1
     simpa using this
    have hroom:x*((b:Int)+1)<=140737488355328:=by
     have:((q7:Nat):Int)=140737488355328:=rfl
     rw[<-this];simpa using hp3
    have hrun:=run_make (P:=P) (w:=w) t el i zv hu hi hizv kl kc x x hp1 (Int.le_refl _) (by rw[hib,Int.mul_comm];push_cast;omega) (by omega)
    have hzc:=(hz2 g).cells
    have hzl:zv.cells.size=sz+1:=by have:=hzc.length;simp at this;omega
    have hro:RowOf g el (madeCells zv.cells (x.toNat*i.size)) (.arr (x.toNat*(sz+1)) (cw (sz+1) fun _=>zd)):=by
     refine⟨by rw[size_madeCells,his];exact Nat.le_refl _,fun j hj=> ?_⟩
     have hm:j % (sz+1)<sz+1:=Nat.mod_lt _ (by omega)
     have hdl:=List.getElem?_eq_getElem (l:=ql zd) (i:=j % (sz+1)) (by omega)
     obtain⟨v,hv,hr⟩:=hzc.get _ _ hdl
     refine⟨v,?_,?_⟩
     ·rw[madeCells,Array.getElem?_map,Array.getElem?_range,if_pos (by rw[his];exact hj)]
      simp only[Option.map_some,Option.some.injEq,hzl]
      rw[Array.getElem?_toList]at hv
      rw[getElem!_def,hv]
     ·have hcg:=mz (fun _=>zd) (i:=j) (sz:=sz+1) hc2
      rw[hcg]
      simp only[List.getD,hdl,Option.getD_some];exact hr
    have r1:=r.newBox (T:=el) hro
    have le:=kh (b:=w.heap.size) (r.inv.frL st.h.nl (Nat.le_refl _))
    have hlen:x.toNat<=q8:=by unfold q8;omega
    refine⟨.slice (some ⟨w.heap.size,0,none⟩) x.toNat x.toNat,_,_,.inl ?_,r1,Grow.sameσ le rfl,(Ext.alloc r.inv _).kept r.inv.ub,RS0.ofR ?_,rfl⟩
    ·simp only[execOp,ho,h1,h2,Sem.run_bind,hrun,Result.andThen_ok,Sem.run_pure]
    ·simp only[R]
     exact⟨_,qb _ _ _,_,_,rfl,Nat.le_refl _,hlen,fun _=>rfl⟩
  ·trivial
 ·trivial
theorem se[Lay](r:Rel n g β U y st a w)(e:Ev g β st.sl a ev){t len:Nat}{parts:Array (Nat×Operand)}{vx:Bool}(ho:o.op = .buildSlice t len parts) :
  j6 P n g β U y st a w o (qjo st vx (kr P t len (parts.toList.map fun(x:Nat×Operand)=>(x.1,ev x.2)))):=by
 have hold:=i6 (P:=P) r e ho
 cases hb:kr P t len (parts.toList.map fun(x:Nat×Operand)=>(x.1,ev x.2)) with
 |none=>trivial
 |some d =>
  rw[hb]at hold
  unfold kr at hb
  split at hb
  ·rename_i el hu
   split at hb
   ·rename_i sz z ds hz hze hp
    cases hc:(isD z&&Nat.beq (ql z).length sz&&Nat.beq ds.length len&&Nat.ble len 65536&&Nat.ble (len*sz) 65536&&ds.all (fun d=>Nat.beq (ql d).length sz)&&ds.all ones) with
    |false=>rw[hc]at hb;cases hb
    |true =>
     rw[hc]at hb
     simp only[cond_true,Option.some.injEq]at hb
     subst hb
     cases hvx:(vx&&Nat.blt 0 len) with
     |false=>simp only[qjo,hvx,cond_false];exact hold
     |true =>
      simp only[qjo,hvx,cond_true]
      intro _
      simp only[Bool.and_eq_true,List.all_eq_true]at hc hvx
      have hlen0:0<len:=by simpa[Nat.blt_eq] using hvx.2
      obtain⟨⟨⟨⟨⟨⟨h1,h2⟩,h3⟩,h40⟩,h4⟩,h5⟩,h11⟩:=hc
      have h2:=qq.1 h2
      have h3:=qq.1 h3
      have h4:=Nat.le_of_ble_eq_true h4
      have h40:=Nat.le_of_ble_eq_true h40
      obtain⟨vs,h6,h7⟩:=yd e _ 0 ds hp
      obtain⟨zv,h8,h9⟩:=j8 hze h1 w
      have hzs:zv.cells.size=sz:=by have:=(h9 g).cells.length;simp at this;omega
      have hvl:vs.length=len:=by rw[h7.length];exact h3
      have hvs:∀v∈vs,v.cells.size=sz:=by
       intro v hv
       obtain⟨k,hk,rfl⟩:=List.getElem_of_mem hv
       have hdk:k<ds.length:=by rw[<-h7.length];exact hk
       obtain⟨v',hv',hr⟩:=h7.get k ds[k] (List.getElem?_eq_getElem hdk)
       rw[List.getElem?_eq_getElem hk]at hv';cases hv'
       have:=hr.cells.length
       have h10:=qq.1 (h5 _ (List.getElem_mem hdk))
       simp at this;omega
      let base:Array Value:=(Array.range (len*sz)).map (zv.cells[· % zv.cells.size]!)
      have hbs:base.size=len*sz:=by simp[base]
      obtain⟨out,f1,f2,_,f4⟩:=iz sz vs 0 base hvs (by rw[hbs,hvl];simp)
      have hrun:(execOp a.eval o).run P w = .ok (.value (.slice (some ⟨w.heap.size,0,none⟩) len len)) (w.alloc (.cells out el (0,0))):=by
       have hpl:(parts.map fun(i,x)=>(i,a.eval x)).toList=parts.toList.map fun(q:Nat×Operand)=>(q.1,a.eval q.2):=by simp
       have hle:¬(len*sz > 2^24):=by omega
       simp only[execOp,ho,Instr.buildSlice,Sem.run_bind,run_underlying hu,Result.andThen_ok,jo hz]
       rw[if_neg hle]
       have hfill:Instr.fill (fun i=>some (i*sz,sz)) base (parts.map fun(i,x)=>(i,a.eval x)).toList=some out:=by rw[hpl,h6];exact f1
       by_cases h0:len*sz=0
       ·have hb0:base=(Array.range (len*sz)).map fun i=>(#[]:Array Value)[i % (#[]:Array Value).size]! :=by simp[base,h0]
        rw[hb0]at hfill
        rw[if_pos h0]
        simp only[Result.andThen_ok,Sem.run_bind,Sem.run_pure,hfill]
        simp[newRow]
       ·rw[if_neg h0]
        simp only[Result.andThen_ok,Sem.run_bind,Sem.run_pure,h8]
        have:Instr.fill (fun i=>some (i*sz,sz)) ((Array.range (len*sz)).map fun x=>zv.cells[x % zv.cells.size]!) (parts.map fun(i,x)=>(i,a.eval x)).toList=some out:=hfill
        simp only[this]
        simp[newRow]
      have hget:∀i (hi:i<len),(bif Nat.blt 0 ds.length&&ds.all qal then strL ds else zf ds) i=ds[i]'(by omega):=fun i hi=>by
       have hd:i<ds.length:=by omega
       have hl:zf ds i=ds[i]:=by simp[zf,hd]
       cases hs:(Nat.blt 0 ds.length&&ds.all qal) with
       |false=>exact hl
       |true =>
        simp only[Bool.and_eq_true,List.all_eq_true]at hs
        have h2:=hs.2 ds[i] (List.getElem_mem hd)
        simp only[cond_true,strL,List.getD,List.getElem?_map,List.getElem?_eq_getElem hd,Option.map_some,Option.getD_some]
        cases hx:ds[i] <;> rw[hx]at h2 <;> first|rfl|cases h2
      have hosz:out.size=len*sz:=f2.trans hbs
      have r1:=Rel.vecTo r (t:=st.h.nt) (nt:=st.h.nt+1) (k:=⟨some ⟨w.heap.size,0,none⟩,len,len,sz,el⟩) (f:=bif Nat.blt 0 ds.length&&ds.all qal then strL ds else zf ds) (w':=w.alloc (.cells out el (0,0))) (by omega) (by omega)
       (fun k0 h=>by rw[r.inv.frT _ (Nat.le_refl _)]at h;cases h) (DefsKept.alloc w _) (zr w _).size (fun c hc _=>j7 _ _ hc)
       (fun _=>⟨w.heap.size,el,out,rfl,fun h=>absurd (r.inv.ub _ h) (Nat.lt_irrefl _),RowB.of (jh _ _),⟨by rw[hosz];exact Nat.le_refl _,rfl⟩,Nat.le_refl _,fun q hq=>by
        have hq:q<len:=hq
        have hdk:q<ds.length:=by omega
        obtain⟨v',hv',hr⟩:=h7.get q ds[q] (List.getElem?_eq_getElem hdk)
        refine⟨v',?_,⟨hvs v' (List.mem_of_getElem? hv'),?_⟩,fun j hj=> ?_⟩
        ·rw[hget q hq];exact hr
        ·rw[hget q hq];exact h11 _ (List.getElem_mem hdk)
        ·have:=f4 q v' hv' j hj
         simpa using this,r.freeNew _ (Nat.le_refl _)⟩)
      refine⟨.slice (some ⟨w.heap.size,0,none⟩) len len,_,_,.inl hrun,r1,Grow.sameσ (u0 fun k0 h=>by rw[r.inv.frT _ (Nat.le_refl _)]at h;cases h) rfl,(Ext.alloc r.inv _).kept r.inv.ub,RS0.ofR ?_,rfl⟩
      simp only[R]
      exact⟨by unfold q8;omega,_,_,rfl,Nat.le_refl _,_,qb _ _ _,rfl,Nat.le_refl _,fun _=>⟨rfl,rfl⟩⟩
   ·cases hb
  ·cases hb
theorem qj3[Lay](r:Rel n g β U y st a w)(e:Ev g β st.sl a ev){s t:Nat}{x:Operand}(ho:o.op = .convert s t x):j6 P n g β U y st a w o (r8 P st s t (ev x)):=by
 have key:∀v w',(convert s t (a.eval x)).run P w = .ok v w'->(execOp a.eval o).run P w = .ok (.value v) w':=fun v w' h=>by simp[execOp,ho,h]
 unfold r8
 split
 ·rename_i el b hs ht hx
  split
  ·rename_i he
   intro _
   have h1:=ze e _ hx rfl
   simp only[R]at h1
   obtain⟨hv,hl⟩:=h1
   have hrun:=Lib.run_convert_string_bytes w s t el ⟨b.toArray⟩ hs ht he
   have hsz:(⟨b.toArray⟩:ByteArray).size=b.length:=by simp[ByteArray.size]
   have hge:=grownCap_ge w b.length 0 el
   have hcs:(Lib.bytesCells w el ⟨b.toArray⟩).size=grownCap w b.length 0 el:=by
    simp only[Lib.bytesCells,Array.size_append,Array.size_map,Array.size_replicate,hsz]
    have:b.toArray.size=b.length:=by simp
    rw[this];omega
   have r1:=Rel.vecTo r (t:=st.h.nt) (nt:=st.h.nt+1) (k:=⟨some ⟨w.heap.size,0,none⟩,b.length,grownCap w b.length 0 el,1,el⟩) (f:=qjc b) (w':=Lib.bytesWorld w el ⟨b.toArray⟩) (by omega) (by omega)
    (fun k0 h=>by rw[r.inv.frT _ (Nat.le_refl _)]at h;cases h) (Below.defs (y4 w el _)) (y4 w el _).size (fun c hc _=>Lib.bytesWorld_at_old w el _ c hc)
    (fun _=>⟨w.heap.size,el,_,rfl,fun h=>absurd (r.inv.ub _ h) (Nat.lt_irrefl _),⟨_,Lib.bytesWorld_at_new w el _,fun j hj e=>by have:=e.1;simp only at this;omega⟩,⟨by rw[hcs];simp,rfl⟩,hge,fun q hq=>by
     have hq:q<b.length:=hq
     refine⟨.int .u8 (b.getD q 0).toNat,by simp[qjc,R],⟨rfl,rfl⟩,fun j hj=> ?_⟩
     have:j=0:=by have:j<1:=hj;omega
     subst this
     simp[Lib.bytesCells,Array.getElem?_append,hq,Value.cells,List.getD],r.freeNew _ (Nat.le_refl _)⟩)
   refine⟨_,_,_,.inl (key _ _ (by rw[hv];exact hrun)),r1,Grow.sameσ (u0 fun k0 h=>by rw[r.inv.frT _ (Nat.le_refl _)]at h;cases h) rfl,(Ext.addBlockZ r.inv (y4 w el _) (Lib.bytesWorld_at_new w el _)).kept r.inv.ub,RS0.ofR ?_,rfl⟩
   simp only[R]
   exact⟨hl,_,_,by rw[hsz],hge,_,qb _ _ _,rfl,Nat.le_refl _,fun _=>⟨rfl,rfl⟩⟩
  ·trivial
 ·trivial
theorem qms[Lay](e:Ev g β st.sl a ev){c:Call}{f:Nat}{caps:List D}{x:Operand}(ho:o.op = .call c)(hc:c.callee = .value x)(hx:ev x = .clo f caps)(hall:ax (c.args.toList.map ev)=true) :
  j6 P n g β U y st a w o (.call f (c.args.toList.map ev++caps)):=by
 have hf:=ze e _ hx rfl
 simp only[R]at hf
 obtain⟨vs,hv,hcs⟩:=hf
 have hs:=tg e _ hall
 refine⟨c.args.toList.map a.eval++vs,?_,hs.append hcs⟩
 have hargs:=rf (a:=a) c
 simp only[execOp,ho,resolve,hc,hv,Deferred.ofValue,Sem.run_bind,Sem.run_pure,Result.andThen_ok,invoke,hargs]
 congr 1
 congr 1
 simp
theorem qj4[Lay](e:Ev g β st.sl a ev){c:Call}{l:Nat}{x:Operand}(ho:o.op = .call c)(hc:c.callee = .value x)(hx:ev x = .yl l)(hall:ax (c.args.toList.map ev)=true) :
  j6 P n g β U y st a w o (.ycall l (c.args.toList.map ev)):=by
 have hf:=ze e _ hx rfl
 simp only[R]at hf
 obtain⟨b,hb,hv⟩:=hf
 refine⟨b,c.args.toList.map a.eval,hb,tg e _ hall,fun x w' hr=> ?_⟩
 have hargs:=rf (a:=a) c
 simp only[execOp,ho,resolve,hc,hv,Deferred.ofValue,Sem.run_bind,Sem.run_pure,Result.andThen_ok,invoke,hargs]
 simpa using hr
theorem qfr[Lay](r:Rel n g β U y st a w)(e:Ev g β st.sl a ev){t:Nat}{x:Operand}(ho:o.op = .makeInterface t x):j6 P n g β U y st a w o (pw P t (ev x)):=by
 unfold pw
 split
 ·trivial
 ·rename_i u hu hne
  cases hd:isD (ev x) with
  |false=>trivial
  |true =>
   have h1:=e.data hd
   refine qt r (v:= .iface t (a.eval x)) ?_ (by simp only[R];exact⟨_,rfl,h1⟩)
   have hun:=run_underlying (P:=P) (w:=w) hne
   simp only[execOp,ho,Instr.makeInterface,Sem.run_bind,hun,Result.andThen_ok]
   cases u <;> first|exact(hu _ rfl).elim|simp
 ·trivial
theorem qfs{t f:Nat}{name:String}(h:qan P t name=some f)(n:Nat)(v:Value):(method (n+1) t v name).run P w = .ok (f,v) w:=by
 unfold qan at h
 split at h
 ·rename_i i hi
  split at h
  ·rename_i m hm
   split at h
   ·rename_i g hf hp hu
    cases h
    have hp':m.path.toList=[]:=hp
    simp[method,typeInfo,hi,hm,hp',hf,follow,receiverAt,run_underlying hu,Place.get]
   ·cases h
   ·rename_i g d hne hf hp hu
    cases h
    have hp':m.path.toList=[]:=hp
    have hu':=run_underlying (w:=w) hu
    cases d <;> first|exact(hne _ rfl).elim|simp[method,typeInfo,hi,hm,hp',hf,follow,receiverAt,hu',Place.get]
   ·cases h
  ·cases h
 ·cases h
theorem qgx[Lay](e:Ev g β st.sl a ev){c:Call}{f t:Nat}{d:D}{x:Operand}{name:String}(ho:o.op = .call c)(hc:c.callee = .invoke x name)(hx:ev x = .iface t d)(hm:qan P t name=some f)(hall:ax (c.args.toList.map ev)=true) :
  j6 P n g β U y st a w o (.call f (d::c.args.toList.map ev)):=by
 have hf:=ze e _ hx rfl
 simp only[R]at hf
 obtain⟨v,hv,hd⟩:=hf
 have hs:=tg e _ hall
 refine⟨v::c.args.toList.map a.eval,?_,by simp only[Rs];exact⟨_,_,rfl,hd,hs⟩⟩
 have hargs:=rf (a:=a) c
 have hex:(#[a.eval x]++c.args.map a.eval).extract 1 (#[a.eval x]++c.args.map a.eval).size=c.args.map a.eval:=by simp
 have hme:=qfs (P:=P) (w:=w) hm (P.types.size+(Made.depth-1)) v
 have hme':(method (P.types.size+Made.depth) t v name).run P w = .ok (f,v) w:=hme
 have h0:(#[a.eval x]++c.args.map a.eval)[0]? = some (a.eval x):=by rw[Array.getElem?_append_left (by simp)];rfl
 have hfin : #[v]++c.args.map a.eval=(v::c.args.toList.map a.eval).toArray:=by
  simp[hargs]
 have hcm:(callMethod (a.eval x) name (c.args.map a.eval)).run P w=(callFunc f (v::c.args.toList.map a.eval).toArray).run P w:=by
  rw[hv]
  simp[callMethod,hme',hfin]
 have hres:(resolve a.eval c o.type).run P w = .ok {target:= .fn (.method name) #[],args:= #[a.eval x]++c.args.map a.eval} w:=by
  simp[resolve,hc]
 simp only[execOp,ho,Sem.run_bind,hres,Result.andThen_ok,invoke,h0,hex,hcm]
theorem gv[Lay]{cfg:Cfg}(r:Rel n g β U y st a w)(e:Ev g β st.sl a ev):j6 P n g β U y st a w o (opD P cfg st ev o.dst o.op):=by
 unfold opD
 split
 ·rename_i x ho;exact qgt r e (.inl ho)
 ·rename_i x ho;exact qgt r e (.inr ho)
 ·rename_i t ho;exact qjt r ho
 ·rename_i t x ho;exact qog r e ho
 ·rename_i t parts ho;exact qju r e ho
 ·rename_i t len parts ho;exact se r e ho
 ·rename_i t x ho;exact qmk r e ho
 ·rename_i t x z ho;exact qjx r e ho
 ·rename_i x ho;exact qci r e ho
 ·rename_i op t x z t' ho;exact qmm r e ho
 ·rename_i op t x ho;exact qrf r e ho
 ·rename_i s t x ho
  have hh:∀b:Bool,j6 P n g β U y st a w o (bif b then r8 P st s t (ev x) else wa P st.h s t (ev x)):=fun b=>by
   cases b with
   |true=>exact qj3 r e ho
   |false=>exact qj0 r e ho
  exact hh _
 ·rename_i f first caps ho;exact qcl r e ho
 ·rename_i m first caps ho;exact qcm r e ho
 ·rename_i t l c ho;exact qmr r e ho
 ·rename_i t x lo hi mx ho;exact qjy r e ho
 ·rename_i t x f ho;exact qaq r e ho
 ·rename_i t x i ho;exact qaw r e ho
 ·rename_i t x i ho;exact qjs r e ho
 ·rename_i x i ho;exact qfm r e ho
 ·rename_i t x ho;exact qfr r e ho
 ·rename_i t rv ho;exact qfp r ho
 ·rename_i t x i ok ho;exact qgv r e ho
 ·rename_i t m k x ho;exact qaz r e (.inl ho)
 ·rename_i t m k x ho;exact qaz r e (.inr ho)
 ·rename_i c ho
  split
  ·rename_i f hc
   split
   ·rename_i f' caps hx
    cases hall:ax (c.args.toList.map ev) with
    |false=>trivial
    |true=>exact qms e ho hc hx hall
   ·rename_i l hx
    cases hall:ax (c.args.toList.map ev) with
    |false=>trivial
    |true=>exact qj4 e ho hc hx hall
   ·trivial
  ·rename_i b hc
   cases hall:ax (c.args.toList.map ev) with
   |false=>trivial
   |true=>exact qfq r e ho hc hall
  ·rename_i x name hc
   split
   ·rename_i t d hx
    split
    ·rename_i f hm
     cases hall:ax (c.args.toList.map ev) with
     |false=>trivial
     |true=>exact qgx e ho hc hx hm hall
    ·trivial
   ·trivial
 ·trivial
end
end Go.Ab
