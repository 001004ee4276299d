/- The executor is sound, 2: the operations. -/
import Derived.Test.YtiekphbkomddfaaGreatDoorB1
namespace Go.Ab
def qdu(P:Program)(a:Act)(o:Oper)(w:World)(v:Value)(w':World):Prop :=
 (execOp a.eval o).run P w = .ok (.value v) w'\/((execOp a.eval o).run P w = .ok .skip w'/\v=undef)
structure VOk(P:Program)(g:G)(β:Nat->Nat)(a:Act)(o:Oper)(w:World)(d:D):Prop where
 it:∃v w' g',qdu P a o w v w'/\Ext g w g' w'/\RS0 g' β d v
structure Ev(g:G)(β:Nat->Nat)(sl:qu)(a:Act)(ev:Operand->D):Prop where
 ok:∀x,ev x≠ .junk->RS0 g β (ev x) (a.eval x)
 base:∀x s off,ev x = .lp s off->∃cs,qo sl s=some (.own cs)
 noOwn:∀x cs,ev x≠ .own cs
 noMay:∀x j w d,ev x≠ .may j w d
def DOk(sl:qu)(d:D):Prop:=vk d=true/\∀s,q9 d=some s->∃cs,qo sl s=some (.own cs)
theorem RS0.ofR{g:G}{β:Nat->Nat}{d:D}{v:Value}(h:R g d v):RS0 g β d v:=by
 cases d <;> first|exact h|(simp[R]at h)
theorem R.ofRS0{g:G}{β:Nat->Nat}{d:D}{v:Value}(h:RS0 g β d v)(hd:isD d=true):R g d v:=by
 cases d <;> first|exact h|cases hd
theorem Ev.data{g:G}{β:Nat->Nat}{sl:qu}{a:Act}{ev:Operand->D}(e:Ev g β sl a ev){x:Operand}(h:isD (ev x)=true):R g (ev x) (a.eval x) :=
 R.ofRS0 (e.ok x (fun hj=>by rw[hj]at h;cases h)) h
theorem jq{d:D}(h:isD d=true):vk d=true:=by cases d <;> first|rfl|cases h
theorem DOk.ofD{sl:qu}{d:D}(h:isD d=true):DOk sl d:=⟨jq h,fun s hs=>by cases d <;> first|exact Bool.noConfusion (show false=true from h)|cases hs⟩
theorem R.isD{g:G}{d:D}{v:Value}(h:R g d v):isD d=true:=by cases d <;> first|rfl|(simp[R]at h)
theorem VOk.plain[Lay]{P:Program}{g:G}{β:Nat->Nat}{U:Nat->Prop}{h:Heap}{a:Act}{o:Oper}{w:World}{d:D}{v:Value}(i:Inv g U h w)
  (hr:(execOp a.eval o).run P w = .ok (.value v) w) (hv:RS0 g β d v):VOk P g β a o w d:=⟨v,w,g,.inl hr,Ext.refl i,hv⟩
mutual
theorem R.ofVal(g:G):∀(v:Value),isD (ofVal v)=true->R g (ofVal v) v
 | .bool _,_=>by simp[Ab.ofVal,R]
 | .int _ _,_=>by simp[Ab.ofVal,R]
 | .string s,h=>by
  simp only[Ab.ofVal]at h⊢
  cases hb:Nat.ble s.data.toList.length jt with
  |true=>simp only[cond_true,R];exact⟨trivial,Nat.le_of_ble_eq_true hb⟩
  |false=>rw[hb]at h;cases h
 | .pointer none,_=>by simp[Ab.ofVal,R]
 | .pointer (some _),h=>by simp[Ab.ofVal,Ab.isD]at h
 | .slice none 0 0,_=>by
  simp only[Ab.ofVal,R]
  exact⟨Nat.zero_le _,none,0,rfl,Nat.le_refl _,rfl,fun i hi=>absurd hi (by omega)⟩
 | .slice none 0 (n+1),h=>by simp[Ab.ofVal,Ab.isD]at h
 | .slice none (n+1) _,h=>by simp[Ab.ofVal,Ab.isD]at h
 | .slice (some _) _ _,h=>by simp[Ab.ofVal,Ab.isD]at h
 | .map none,_=>by simp[Ab.ofVal,R]
 | .map (some _),h=>by simp[Ab.ofVal,Ab.isD]at h
 | .nilFunc,_=>by simp[Ab.ofVal,R]
 | .nilIface,_=>by simp[Ab.ofVal,R]
 | .agg ⟨cs⟩,h=>by
  simp only[Ab.ofVal]at h⊢
  cases hb:(ofVals cs).all Ab.isD with
  |true=>simp only[cond_true,R];exact⟨cs,rfl,Rs.ofVals g cs hb⟩
  |false=>rw[hb]at h;cases h
 | .tuple ⟨cs⟩,h=>by
  simp only[Ab.ofVal]at h⊢
  cases hb:(ofVals cs).all Ab.isD with
  |true=>simp only[cond_true,R];exact⟨cs,rfl,Rs.ofVals g cs hb⟩
  |false=>rw[hb]at h;cases h
 | .float _ _,h | .complex _ _ _,h | .chan _,h | .func _ _ _,h | .iface _ _,h=>by simp[Ab.ofVal,Ab.isD]at h
theorem Rs.ofVals(g:G):∀(vs:List Value),(ofVals vs).all Ab.isD=true->Rs g (ofVals vs) vs
 | [],_=>by simp[Ab.ofVals,Rs]
 |v::r,h=>by
  simp only[Ab.ofVals,List.all_cons,Bool.and_eq_true]at h
  simp only[Ab.ofVals,Rs]
  exact⟨v,r,rfl,R.ofVal g v h.1,Rs.ofVals g r h.2⟩
end
theorem RS0.ofVal(g:G)(β:Nat->Nat)(v:Value)(h:ofVal v≠ .junk):RS0 g β (ofVal v) v:=by
 refine RS0.ofR (R.ofVal g v ?_)
 have key:∀v,Ab.isD (Ab.ofVal v)=true\/Ab.ofVal v = .junk:=by
  intro v
  unfold Ab.ofVal
  split <;> first
   |exact .inl rfl
   |exact .inr rfl
   |(rename_i s;cases Nat.ble s.data.toList.length jt <;> first|exact .inl rfl|exact .inr rfl)
   |(rename_i cs;cases (ofVals cs).all Ab.isD <;> first|exact .inl rfl|exact .inr rfl)
 exact(key v).resolve_right h
theorem j8{P:Program}{t:Nat}{d:D}(h:gj P t=some d)(hd:isD d=true)(w:World):∃z,(zeroValue t).run P w = .ok z w/\∀g,R g d z:=by
 unfold gj at h
 cases hi:P.info? t with
 |none=>rw[hi]at h;cases h
 |some i =>
  rw[hi]at h
  cases hz:i.zero with
  |none=>simp[hz]at h
  |some z =>
   simp only[Option.bind_some,hz,Option.map_some,Option.some.injEq]at h
   subst h
   refine⟨z,?_,fun g=>R.ofVal g z hd⟩
   simp only[zeroValue,Sem.run_bind,run_typeInfo w hi,Result.andThen_ok,hz,Sem.run_pure]
theorem jo{P:Program}{t n:Nat}(h:ya P t=some n)(w:World):(sizeOf t).run P w = .ok n w:=by
 unfold ya at h
 cases hi:P.info? t with
 |none=>rw[hi]at h;cases h
 |some i =>
  rw[hi]at h
  simp only[Option.map_some,Option.some.injEq]at h
  simp only[sizeOf,Sem.run_bind,run_typeInfo w hi,Result.andThen_ok,Sem.run_pure,h]
theorem xp{P:Program}{t n:Nat}(h:bytesOf P t=some n):∃i,P.info? t=some i/\i.bytes=n:=by
 unfold bytesOf at h
 cases hi:P.info? t with
 |none=>rw[hi]at h;cases h
 |some i=>rw[hi]at h;exact⟨i,rfl,by simpa using h⟩
theorem v6{P:Program}{t:Nat}{b:Bool}(h:sn P t=some b)(w:World):(isAgg t).run P w = .ok b w:=by
 unfold sn at h
 cases hu:P.underlying t with
 |none=>rw[hu]at h;cases h
 |some d =>
  rw[hu]at h
  simp only[Option.map_some,Option.some.injEq]at h
  simp only[isAgg,Sem.run_bind,run_underlying hu,Result.andThen_ok]
  subst h
  cases d <;> rfl
theorem j5(b o j:Nat):(⟨b,o,none⟩:Addr).add j=⟨b,o+j,none⟩:=by
 unfold Addr.add;split
 ·rename_i h;subst h;rfl
 ·rfl
def qch(w:World)(b o:Nat)(vs:List Value):Prop:=∀j v,vs[j]? = some v->w.cell? ⟨b,o+j,none⟩=some v
theorem yc{P:Program}{g:G}{t:Nat}{cs:List D}{vs:List Value}{d:D}{w:World}{b o:Nat}(hs:Rs g cs vs)(hc:qch w b o vs)(h:g8 P t cs=some d) :
  ∃v,(loadVar t ⟨b,o,none⟩).run P w = .ok v w/\R g d v:=by
 unfold g8 at h
 cases ha:sn P t with
 |none=>rw[ha]at h;cases h
 |some ag =>
  rw[ha]at h
  cases ag with
  |true =>
   simp only at h
   cases hz:ya P t with
   |none=>rw[hz]at h;cases h
   |some n =>
    rw[hz]at h
    simp only at h
    cases hb:Nat.ble n cs.length with
    |false=>rw[hb]at h;cases h
    |true =>
     rw[hb]at h
     simp only[cond_true,Option.some.injEq]at h
     subst h
     have hn:=Nat.le_of_ble_eq_true hb
     have hl:(vs.take n).length=n:=by rw[List.length_take,hs.length];omega
     refine⟨.agg (vs.take n).toArray,?_,?_⟩
     ·simp only[loadVar,Sem.run_bind,v6 ha,jo hz,Result.andThen_ok,if_true]
      have:=run_loadCells_list (P:=P) (w:=w) ⟨b,o,none⟩ (vs.take n) (fun j v hj=>by
       rw[j5]
       rw[List.getElem?_take]at hj
       split at hj
       ·exact hc j v hj
       ·cases hj)
      rw[hl]at this
      simp[this]
     ·simp only[R]
      exact⟨_,rfl,hs.take n⟩
  |false =>
   simp only at h
   cases cs with
   |nil=>cases h
   |cons c r =>
    simp only[List.head?_cons,Option.some.injEq]at h
    subst h
    simp only[Rs]at hs
    obtain⟨v,s,rfl,hv,_⟩:=hs
    refine⟨v,?_,hv⟩
    have:=hc 0 v rfl
    simp only[Nat.add_zero]at this
    simp[loadVar,v6 ha,this]
theorem wd{g:G}{w:World}{b:Nat}{cs:List D}(h:RowAt g w b (.lit cs))(off:Nat):∃vs,Rs g (cs.drop off) vs/\qch w b off vs:=by
 obtain⟨T,vals,hb,hs⟩:=h
 refine⟨vals.toList.drop off,hs.drop off,fun j v hj=> ?_⟩
 rw[List.getElem?_drop]at hj
 simp only[World.cell?,hb]
 simpa using hj
theorem vm{P:Program}{w:World}{f:Nat}(h:yx P f)(vs:Array Value):(callFunc f vs).run P w = .ok (.enter f vs) w:=by
 obtain⟨fn,h1,h2,h3⟩:=h
 have h3':¬fn.name = "runtime.NumGoroutine" :=by simpa using h3
 have h2':¬fn.body=none:=by intro h;rw[h]at h2;cases h2
 simp[callFunc,h1,h2',h3']
def j6[Lay](P:Program)(n:Nat)(g:G)(β:Nat->Nat)(U:Nat->Prop)(y:Nat->Bool->Prop)(st:St)(a:Act)(w:World)(o:Oper):Res->Prop
 | .val d=>DOk st.sl d/\VOk P g β a o w d
 | .nd p d=>DOk st.sl d/\(p->VOk P g β a o w d)
 | .asm p d=>p/\DOk st.sl d/\VOk P g β a o w d
 | .new cs=>o.dst≠none/\∃T vals,qdu P a o w (.pointer (some ⟨w.heap.size,0,none⟩)) (w.alloc (.cells vals T (0,0)))/\Rs g cs vals.toList
 | .eff p st' d=>p->∃v w' g',qdu P a o w v w'/\Rel n g' β U y st' a w'/\Grow U g g'/\Kept U w w'/\RS0 g' β d v/\isD d=true
 | .call f args=>∃vs:List Value,(execOp a.eval o).run P w=(callFunc f vs.toArray).run P w/\Rs g args vs
 | .ycall l args=>∃(b:Nat) (vs:List Value),g.μ l=some b/\Rs g args vs/\∀x w',(Instr.yield b vs.toArray).run P w = .ok x w'->(execOp a.eval o).run P w = .ok x w'
 | .bad=>True
section
variable {P:Program} {n:Nat} {g:G} {β:Nat->Nat} {U:Nat->Prop} {y:Nat->Bool->Prop} {st:St} {a:Act} {w:World} {ev:Operand->D} {o:Oper}
theorem qt[Lay](r:Rel n g β U y st a w){d:D}{v:Value}(hr:(execOp a.eval o).run P w = .ok (.value v) w)(hv:R g d v):j6 P n g β U y st a w o (.val d) :=
 ⟨DOk.ofD hv.isD,VOk.plain r.inv hr (RS0.ofR hv)⟩
theorem xq[Lay](r:Rel n g β U y st a w){p:Prop}{d:D}(hd:isD d=true)(hr:p->∃v,(execOp a.eval o).run P w = .ok (.value v) w/\R g d v):j6 P n g β U y st a w o (.nd p d) :=
 ⟨DOk.ofD hd,fun hp=>by obtain⟨v,h1,h2⟩:=hr hp;exact VOk.plain r.inv h1 (RS0.ofR h2)⟩
theorem bq{sl:qu}{s:Nat}{cs:List D}(h:wx sl s=some cs):qo sl s=some (.own cs):=by
 unfold wx at h
 split at h
 ·cases h;assumption
 ·cases h
theorem yj{t:Nat}{cs:List D}{d:D}{b off:Nat}{vs:List Value}{x:Operand}(ho:o.op = .load t x)(hx:a.eval x = .pointer (some ⟨b,off,none⟩))(hs:Rs g cs vs)(hc:qch w b off vs)
  (h:g8 P t cs=some d):∃v,(execOp a.eval o).run P w = .ok (.value v) w/\R g d v:=by
 obtain⟨v,h1,h2⟩:=yc hs hc h
 refine⟨v,?_,h2⟩
 simp[execOp,ho,hx,Instr.loadAt,Instr.sureAddr,h1]
theorem Inv.vecCell[Lay]{h:Heap}(i:Inv g U h w){t m q sz j:Nat}{f:Nat->D}{v:Value}(hv:h.vw t=some f)(hn:h.hw t=some m)(hr:R g (.be t m q sz j) v) :
  ∃(b:Nat) (k:Tok) (u:Value) (T:Nat) (vals:Array Value),v = .pointer (some ⟨b,q*sz+j,none⟩)/\RowB w b vals T/\R g (f q) u/\(u.cells.size=sz/\ones (f q)=true)/\(∀p,p<sz->vals[q*sz+p]? = u.cells[p]?)/\
   g.τ t=some k/\k.n=m/\k.sz=sz/\q<m/\k.a=some ⟨b,0,none⟩/\gq k (some f)/\TokAt g w U k (some f):=by
 simp only[R]at hr
 obtain⟨b,o,rfl,h1,k,h3,h4,h5,h6⟩:=hr
 obtain⟨k',e1,e2,e3⟩:=i.tok t m hn
 rw[h3]at e1;cases e1
 obtain⟨h7,h8,hact⟩:=h6 e2.symm
 rw[hv]at e3
 have hact:gq k (some f):=hact
 have e4:=e3 hact
 have e4':=e4
 obtain⟨b',c1,c2,T,vals,c3,c4,c5,c6⟩:=e4
 rw[h7]at c1;cases c1
 obtain⟨u,d1,d2,d3⟩:=(c6 f rfl).2 q (by omega)
 subst h4
 exact⟨b,k,u,T,vals,by rw[h8],c3,d1,d2,d3,h3,e2,rfl,h1,h7,hact,e4'⟩
theorem qmk[Lay](r:Rel n g β U y st a w)(e:Ev g β st.sl a ev){t:Nat}{x:Operand}(ho:o.op = .load t x):j6 P n g β U y st a w o (fc P st t (ev x)):=by
 unfold fc
 cases hx:ev x with
 |lp s off =>
  simp only
  cases hc:wx st.sl s with
  |none=>trivial
  |some cs =>
   simp only
   cases hl:g8 P t (cs.drop off) with
   |none=>trivial
   |some d =>
    have h0:=e.ok x (by rw[hx];simp)
    rw[hx]at h0
    obtain⟨vs,h1,h2⟩:=wd (r.own s cs (bq hc)).1 off
    obtain⟨v,h3,h4⟩:=yj ho h0 h1 h2 hl
    exact qt r h3 h4
 |ep cs =>
  simp only
  cases hl:g8 P t cs with
  |none=>trivial
  |some d =>
   have h0:=e.data (x:=x) (by rw[hx];rfl)
   rw[hx]at h0
   simp only[R]at h0
   obtain⟨p,vs,h1,h2,h3,h4⟩:=h0
   have h5:a.eval x = .pointer (some ⟨p.block,p.off,none⟩):=by rw[h1];cases p;simp_all
   obtain⟨v,h6,h7⟩:=yj ho h5 h3 (fun j v hj=>by
    have hjl:j<vs.length:=by
     rcases Nat.lt_or_ge j vs.length with h|h
     ·exact h
     ·rw[List.getElem?_eq_none h]at hj;cases hj
    exact(r.inv.sub _ _ ((h4 j hjl).trans hj)).1) hl
   exact qt r h6 h7
 |bp l off =>
  simp only
  cases hb:st.h.box l with
  |none=>trivial
  |some row =>
   simp only
   have h0:=e.data (x:=x) (by rw[hx];rfl)
   rw[hx]at h0
   simp only[R]at h0
   obtain⟨b,h1,h2⟩:=h0
   obtain⟨b',h3,h4,_,_⟩:=r.inv.box l row hb
   rw[h1]at h3;cases h3
   cases row with
   |loop _ _=>trivial
   |map _ _ _=>trivial
   |litT T cs =>
    obtain⟨vals,hb1,hs1⟩:=h4
    have h4:RowAt g w b (.lit cs):=⟨T,vals,hb1,hs1⟩
    simp only[mt]
    cases hl:g8 P t (cs.drop off) with
    |none=>trivial
    |some d =>
     obtain⟨vs,h5,h6⟩:=wd h4 off
     obtain⟨v,h7,h8⟩:=yj ho h2 h5 h6 hl
     exact qt r h7 h8
   |lit cs =>
    simp only[mt]
    cases hl:g8 P t (cs.drop off) with
    |none=>trivial
    |some d =>
     obtain⟨vs,h5,h6⟩:=wd h4 off
     obtain⟨v,h7,h8⟩:=yj ho h2 h5 h6 hl
     exact qt r h7 h8
   |arr m get =>
    obtain⟨T,vals,hb1,hm,hg⟩:=h4
    simp only[mt]
    split
    ·rename_i ha hz
     cases hd:isD (get off) with
     |false=>trivial
     |true =>
      refine xq r hd fun hp=> ?_
      obtain⟨v,hv,hr⟩:=hg off hp
      have hc:w.cell? ⟨b,off,none⟩=some v:=by simp only[World.cell?,hb1];simpa using hv
      exact⟨v,by simp[execOp,ho,h2,Instr.loadAt,Instr.sureAddr,loadVar,v6 ha,hc],hr⟩
    ·rename_i k ha hz
     refine xq r rfl fun hp=> ?_
     have hl:∀j,j<k->∃v,vals[off+j]? = some v/\R g (get (off+j)) v:=fun j hj=>hg (off+j) (by omega)
     have hvl:((vals.toList.drop off).take k).length=k:=by rw[List.length_take,List.length_drop,Array.length_toList];omega
     have hcl:=run_loadCells_list (P:=P) (w:=w) ⟨b,off,none⟩ ((vals.toList.drop off).take k) (fun j v hj=>by
      rw[List.getElem?_take]at hj
      split at hj
      ·rw[List.getElem?_drop]at hj
       rw[j5]
       simp only[World.cell?,hb1]
       simpa using hj
      ·cases hj)
     rw[hvl]at hcl
     refine⟨.agg ((vals.toList.drop off).take k).toArray,?_,?_⟩
     ·simp[execOp,ho,h2,Instr.loadAt,Instr.sureAddr,loadVar,v6 ha,jo hz,hcl]
     ·simp only[R]
      refine⟨_,rfl,Rs.of_get (by rw[hvl];simp) fun i d v h5 h6=> ?_⟩
      rw[List.getElem?_map]at h5
      have hik:i<k:=by
       rcases Nat.lt_or_ge i k with h|h
       ·exact h
       ·rw[List.getElem?_eq_none (by simpa using h)]at h5;cases h5
      rw[List.getElem?_range hik]at h5
      simp only[Option.map_some,Option.some.injEq]at h5
      subst h5
      obtain⟨v',hv',hr⟩:=hl i hik
      rw[List.getElem?_take,if_pos hik,List.getElem?_drop]at h6
      have:vals[off+i]? = some v:=by simpa using h6
      rw[this]at hv';cases hv';exact hr
    ·trivial
 |be t' m i sz j =>
  simp only
  cases hv:st.h.vw t' with
  |none=>trivial
  |some f =>
   simp only
   cases hl:g8 P t ((ql (f i)).drop j) with
   |none=>trivial
   |some d =>
    simp only
    cases hd:isD d with
    |false=>trivial
    |true =>
     refine xq r hd fun hp=> ?_
     have h0:=e.data (x:=x) (by rw[hx];rfl)
     rw[hx]at h0
     obtain⟨b,ba,u,T,vals,h1,h2,h3,h4,h5,_⟩:=r.inv.vecCell hv hp h0
     have h6:Rs g ((ql (f i)).drop j) (u.cells.toList.drop j):=(R.cells h3).drop j
     exact yj ho h1 h6 (fun q v hq=>by
      rw[List.getElem?_drop]at hq
      have hlt:j+q<u.cells.size:=by
       rcases Nat.lt_or_ge (j+q) u.cells.size with h|h
       ·exact h
       ·rw[List.getElem?_eq_none (by simpa using h)]at hq;cases hq
      rw[h2.cell]
      have:=h5 (j+q) (by omega)
      rw[Nat.add_assoc,show i*sz+(j+q)=i*sz+(j+q) from rfl]
      simpa[this] using hq) hl
 |_=>trivial
theorem nc{t f off sz:Nat}(h:cu P t f=some (off,sz)):∃fs x,P.underlying t=some (.struct fs)/\fs[f]? = some x/\x.offset=off/\ya P x.type=some sz/\sz≠0:=by
 unfold cu at h
 split at h
 ·rename_i fs hu
  split at h
  ·rename_i x hx
   split at h
   ·rename_i m hm
    simp only[Option.some.injEq,Prod.mk.injEq]at h
    exact⟨fs,x,hu,hx,h.1,by rw[hm];exact congrArg some h.2,by omega⟩
   ·cases h
  ·cases h
 ·cases h
theorem qjr[Lay](r:Rel n g β U y st a w){s off:Nat}{v:Value}(hr:(execOp a.eval o).run P w = .ok (.value v) w)(hv:v = .pointer (some ⟨β s,off,none⟩))(hb:∃cs,qo st.sl s=some (.own cs)) :
  j6 P n g β U y st a w o (.val (.lp s off)) :=
 ⟨⟨rfl,fun s' hs=>by cases hs;exact hb⟩,VOk.plain r.inv hr (by simpa[RS0] using hv)⟩
theorem yz{t f off sz:Nat}(h:cu P t f=some (off,sz)){x:Operand}(ho:o.op = .fieldAddr t x f){b k:Nat}(hx:a.eval x = .pointer (some ⟨b,k,none⟩)) :
  (execOp a.eval o).run P w = .ok (.value (.pointer (some ⟨b,k+off,none⟩))) w:=by
 obtain⟨fs,y,h1,h2,h3,h4,h5⟩:=nc h
 simp[execOp,ho,hx,Instr.fieldAt,run_underlying h1,h2,Instr.sureAddr,fieldPlace,jo h4,h5,h3,j5]
theorem qaq[Lay](r:Rel n g β U y st a w)(e:Ev g β st.sl a ev){t f:Nat}{x:Operand}(ho:o.op = .fieldAddr t x f):j6 P n g β U y st a w o (xv P t f (ev x)):=by
 unfold xv
 cases hf:cu P t f with
 |none=>trivial
 |some p =>
  obtain⟨off,sz⟩:=p
  simp only
  cases hx:ev x with
  |lp s k =>
   have h0:=e.ok x (by rw[hx];simp)
   rw[hx]at h0
   exact qjr r (yz hf ho h0) rfl (e.base x s k hx)
  |bp l k =>
   have h0:=e.data (x:=x) (by rw[hx];rfl)
   rw[hx]at h0
   simp only[R]at h0
   obtain⟨b,h1,h2⟩:=h0
   exact qt r (yz hf ho h2) (by simp only[R];exact⟨b,h1,rfl⟩)
  |ep cs =>
   have h0:=e.data (x:=x) (by rw[hx];rfl)
   rw[hx]at h0
   simp only[R]at h0
   obtain⟨p,vs,h1,h2,h3,h4⟩:=h0
   have h5:a.eval x = .pointer (some ⟨p.block,p.off,none⟩):=by rw[h1];cases p;simp_all
   refine qt r (yz hf ho h5) ?_
   simp only[R]
   refine⟨⟨p.block,p.off+off,none⟩,vs.drop off,rfl,rfl,h3.drop off,fun j hj=> ?_⟩
   rw[List.length_drop]at hj
   rw[List.getElem?_drop,<-h4 (off+j) (by omega)]
   simp[Nat.add_assoc]
  |be t' m i sz' j =>
   have h0:=e.data (x:=x) (by rw[hx];rfl)
   rw[hx]at h0
   simp only[R]at h0
   obtain⟨b,q,h1,h2,k,h3,h4,h5,h6⟩:=h0
   refine qt r (yz hf ho h1) ?_
   simp only[R]
   exact⟨b,q+off,rfl,h2,k,h3,h4,h5,fun hn=>⟨(h6 hn).1,by rw[(h6 hn).2.1,Nat.add_assoc],(h6 hn).2.2⟩⟩
  |_=>trivial
theorem qar{P:Program}{w:World}{t f:Nat}{name:String}(h:qan P t name=some f)(n:Nat)(v:Value):(nilAhead (n+1) t v name).run P w = .ok (some false) w:=by
 unfold qan at h
 split at h
 ·rename_i i hi
  split at h
  ·rename_i m hm
   split at h
   ·rename_i g hf hp hu
    cases h
    have hp':m.path.toList=[]:=hp
    simp[nilAhead,typeInfo,hi,hm,hp',hf,followBlind]
   ·cases h
   ·rename_i g d hne hf hp hu
    cases h
    have hp':m.path.toList=[]:=hp
    have hu':=run_underlying (w:=w) hu
    cases d <;> first|exact(hne _ rfl).elim|simp[nilAhead,typeInfo,hi,hm,hp',hf,followBlind,hu']
   ·cases h
  ·cases h
 ·cases h
theorem qci[Lay](r:Rel n g β U y st a w)(e:Ev g β st.sl a ev){x:Operand}(ho:o.op = .nilCheck x):j6 P n g β U y st a w o (yh P (ev x)):=by
 unfold yh
 cases hx:ev x with
 |lp s k =>
  have h0:=e.ok x (by rw[hx];simp)
  rw[hx]at h0
  simp only[RS0]at h0
  exact qjr r (v:=a.eval x) (by simp[execOp,ho,h0]) h0 (e.base x s k hx)
 |bp l k =>
  have h0:=e.data (x:=x) (by rw[hx];rfl)
  rw[hx]at h0
  have h0':=h0
  simp only[R]at h0'
  obtain⟨b,h1,h2⟩:=h0'
  exact qt r (v:=a.eval x) (by simp[execOp,ho,h2]) h0
 |ep cs =>
  have h0:=e.data (x:=x) (by rw[hx];rfl)
  rw[hx]at h0
  have h0':=h0
  simp only[R]at h0'
  obtain⟨p,vs,h1,h2,_⟩:=h0'
  exact qt r (v:=a.eval x) (by simp[execOp,ho,h1]) h0
 |clo f cs =>
  have h0:=e.data (x:=x) (by rw[hx];rfl)
  rw[hx]at h0
  have h0':=h0
  simp only[R]at h0'
  obtain⟨vs,h1,_⟩:=h0'
  exact qt r (v:=a.eval x) (by simp[execOp,ho,h1]) h0
 |mv f cs =>
  have h0:=e.data (x:=x) (by rw[hx];rfl)
  rw[hx]at h0
  have h0':=h0
  simp only[R]at h0'
  obtain⟨vs,h1,_⟩:=h0'
  exact qt r (v:=a.eval x) (by simp[execOp,ho,h1]) h0
 |fnp t m =>
  simp only
  cases hm:(qan P t m).isSome with
  |false=>trivial
  |true =>
   have h0:=e.data (x:=x) (by rw[hx];rfl)
   rw[hx]at h0
   have h0':=h0
   simp only[R]at h0'
   obtain⟨u,h1⟩:=h0'
   obtain⟨f,hf⟩:=Option.isSome_iff_exists.1 hm
   have hn:=qar (P:=P) (w:=w) hf (P.types.size+(Made.depth-1)) u
   have hn':(nilAhead (P.types.size+Made.depth) t u m).run P w = .ok (some false) w:=hn
   exact qt r (v:=a.eval x) (by simp[execOp,ho,h1,hn']) h0
 |be t' m i sz' j =>
  have h0:=e.data (x:=x) (by rw[hx];rfl)
  rw[hx]at h0
  have h0':=h0
  simp only[R]at h0'
  obtain⟨b,q,h1,_⟩:=h0'
  exact qt r (v:=a.eval x) (by simp[execOp,ho,h1]) h0
 |_=>trivial
theorem qgt[Lay](r:Rel n g β U y st a w)(e:Ev g β st.sl a ev){x:Operand}(ho:o.op = .move x\/o.op = .assign x) :
  j6 P n g β U y st a w o (match ev x with | .junk=> .bad | .own _=> .bad | .may _ _ _=> .bad|d=> .val d):=by
 have hr:(execOp a.eval o).run P w = .ok (.value (a.eval x)) w:=by rcases ho with ho|ho <;> simp[execOp,ho]
 cases hx:ev x with
 |lp s k =>
  have h0:=e.ok x (by rw[hx];simp)
  rw[hx]at h0
  exact qjr r hr h0 (e.base x s k hx)
 |junk=>trivial
 |own _=>trivial
 |may _ _ _=>trivial
 |_ =>
  have h0:=e.data (x:=x) (by rw[hx];rfl)
  rw[hx]at h0
  exact qt r hr h0
end
end Go.Ab
namespace Go.Ab
section
variable {P:Program} {n:Nat} {g:G} {β:Nat->Nat} {U:Nat->Prop} {y:Nat->Bool->Prop} {st:St} {a:Act} {w:World} {ev:Operand->D} {o:Oper}
theorem ja{op:BinOp}{t t':Nat}{x z:Operand}{v:Value}(ho:o.op = .binOp op t x z t')(hg:(eqGuard op t x z (a.eval x) (a.eval z)).run P w = .ok () w)
  (hb:(binOp op t (a.eval x) (a.eval z)).run P w = .ok v w):(execOp a.eval o).run P w = .ok (.value v) w:=by
 simp[execOp,ho,hg,hb]
theorem qcj{op:BinOp}{t:Nat}{x z:Operand}{j k:IntKind}{p q:Int}:(eqGuard op t x z (.int j p) (.int k q)).run P w = .ok () w:=by
 unfold eqGuard;cases op <;> simp
theorem qck{op:BinOp}{t:Nat}{x z:Operand}{p q:ByteArray}:(eqGuard op t x z (.string p) (.string q)).run P w = .ok () w:=by
 unfold eqGuard;cases op <;> simp
theorem qas{op:BinOp}{t:Nat}{x z:Operand}{p q:Bool}:(eqGuard op t x z (.bool p) (.bool q)).run P w = .ok () w:=by
 unfold eqGuard;cases op <;> simp
theorem qqw{j k:IntKind}(h:(j==k)=true):j=k:=by simpa using h
theorem tf{t off:Nat}{cs:List D}{vs:List Value}{d:D}(hs:Rs g cs vs)(h:qjl P t cs off=some d):∃v,(part t vs.toArray off).run P w = .ok v w/\R g d v:=by
 unfold qjl at h
 split at h
 ·rename_i m ha hz
  cases hb:Nat.ble (off+m) cs.length with
  |false=>rw[hb]at h;cases h
  |true =>
   rw[hb]at h
   simp only[cond_true,Option.some.injEq]at h
   subst h
   have hm:=Nat.le_of_ble_eq_true hb
   refine⟨.agg ((vs.drop off).take m).toArray,?_,by simp only[R];exact⟨_,rfl,(hs.drop off).take m⟩⟩
   simp only[part,Sem.run_bind,v6 ha,jo hz,Result.andThen_ok,if_true,Sem.run_pure]
   congr 2
   apply Array.ext'
   simp[List.extract_eq_take_drop]
 ·rename_i ha
  obtain⟨v,hv,hr⟩:=hs.get _ _ h
  refine⟨v,?_,hr⟩
  simp[part,v6 ha,hv]
 ·cases h
theorem mw:∀(m k t:Nat) (x z:D) (r:Bool) (vx vz:Value),eqTy P m t x z=some r->R g x vx->R g z vz->(Op.equalIn (m+k) t vx vz).run P w = .ok r w
 |0,_,_,_,_,_,_,_,h,_,_=>by simp[eqTy]at h
 |m+1,k,t,x,z,r,vx,vz,h,hx,hz=>by
  have e:m+1+k=(m+k)+1:=by omega
  rw[e]
  unfold eqTy at h
  split at h
  ·rename_i hu
   simp only[R]at hx hz;subst hx;subst hz;cases h
   exact run_equalIn_bool' w _ _ _ _ hu
  ·rename_i kk j p k2 q hu
   simp only[R]at hx hz;subst hx;subst hz
   cases hk:(j==k2) with
   |false=>rw[hk]at h;cases h
   |true =>
    obtain rfl:=qqw hk
    rw[hk]at h
    simp only[cond_true,Option.some.injEq]at h
    subst h
    exact run_equalIn_int w _ t j kk p q hu
  ·rename_i hu
   simp only[R]at hx hz
   obtain⟨rfl,_⟩:=hx
   obtain⟨rfl,_⟩:=hz
   cases h
   rw[run_equalIn_string w _ _ _ _ hu]
   simp
  ·rename_i fs xs ys hu
   simp only[R]at hx hz
   obtain⟨us,rfl,hus⟩:=hx
   obtain⟨ws,rfl,hws⟩:=hz
   cases hst:P.stoodInHeld t with
   |true=>rw[hst]at h;cases h
   |false =>
    rw[hst]at h
    simp only[cond_false]at h
    have hf:P.fieldsOf t=fs:=by simp[Program.fieldsOf,hu]
    rw[run_equalIn_struct w _ _ _ _ (by rw[hf];exact hu) hst,hf]
    clear hu hf hst
    generalize fs.toList=l at h
    induction l generalizing r with
    |nil=>simp only[eqTy.eqFs,Option.some.injEq]at h;subst h;rfl
    |cons f l ih =>
     simp only[eqTy.eqFs]at h
     cases hn:(f.name == "_") with
     |true=>rw[hn]at h;cases h
     |false =>
      rw[hn]at h
      simp only[cond_false]at h
      have hne:f.name≠ "_" :=by simpa using hn
      split at h
      ·rename_i p q hp hq
       split at h
       ·rename_i u hu
        obtain⟨vp,hp1,hp2⟩:=tf (P:=P) (w:=w) hus hp
        obtain⟨vq,hq1,hq2⟩:=tf (P:=P) (w:=w) hws hq
        have h1:=mw m k _ _ _ _ _ _ hu hp2 hq2
        simp only[Op.eqFields,hne,ne_eq,not_false_iff,if_true,Sem.run_bind,hp1,hq1,h1,Result.andThen_ok]
        cases l with
        |nil =>
         simp only[Option.some.injEq]at h
         subst h
         cases u <;> simp[Op.eqFields]
        |cons f' l' =>
         simp only at h
         split at h
         ·rename_i v hv
          simp only[Option.some.injEq]at h
          subst h
          have h2:=ih v hv
          cases u with
          |true=>simp only[Bool.not_true,Bool.false_eq_true,if_false,Bool.true_and];exact h2
          |false=>simp
         ·cases h
       ·cases h
      ·cases h
  ·cases h
theorem qfk[Lay](r:Rel n g β U y st a w){op:BinOp}{t t':Nat}{x z:Operand}(ho:o.op = .binOp op t x z t'){k k':IntKind}{p q:Int}(hx:a.eval x = .int k p)(hz:a.eval z = .int k' q) :
  j6 P n g β U y st a w o (qjb P op t (.int k p) (.int k' q)):=by
 have hg:(eqGuard op t x z (a.eval x) (a.eval z)).run P w = .ok () w:=by rw[hx,hz];exact qcj
 have key:∀v,(binOp op t (.int k p) (.int k' q)).run P w = .ok v w->(execOp a.eval o).run P w = .ok (.value v) w:=fun v h=>ja ho hg (by rw[hx,hz];exact h)
 cases op
 case shl =>
  refine xq r rfl fun hp=>⟨_,key (.int k (qq9 k p q)) ?_,by simp[R]⟩
  simp[binOp_shl,Op.shift,qq9,Int.not_lt.2 hp]
 case shr =>
  refine xq r rfl fun hp=>⟨_,key (.int k (ay k p q)) ?_,by simp[R]⟩
  simp[binOp_shr,Op.shift,ay,Int.not_lt.2 hp]
 all_goals
  simp only[qjb]
  cases hk:(k==k') with
  |false=>trivial
  |true=> ?_
 all_goals (obtain rfl:=qqw hk;simp only[cond_true])
 case add=>exact qt (v:= .int k (qg k p q)) r (key _ (by simp[binOp_add,Op.intArith,qg])) (by simp[R])
 case sub=>exact qt (v:= .int k (qj k p q)) r (key _ (by simp[binOp_sub,Op.intArith,qj])) (by simp[R])
 case mul=>exact qt (v:= .int k (yt k p q)) r (key _ (by simp[binOp_mul,Op.intArith,yt])) (by simp[R])
 case and=>exact qt (v:= .int k (iv k p q)) r (key _ (by simp[binOp_and,Op.intBits,iv])) (by simp[R])
 case or=>exact qt (v:= .int k (orI k p q)) r (key _ (by simp[binOp_or,Op.intBits,orI])) (by simp[R])
 case xor=>exact qt (v:= .int k (qn0 k p q)) r (key _ (by simp[binOp_xor,Op.intBits,qn0])) (by simp[R])
 case andNot=>exact qt (v:= .int k (qcf k p q)) r (key _ (by simp[binOp_andNot,Op.intBits,qcf])) (by simp[R])
 case quo=>exact xq r rfl fun hp=>⟨.int k (qb8 k p q),key _ (by simp[binOp_quo,Op.intDiv,qb8,hp]),by simp[R]⟩
 case rem=>exact xq r rfl fun hp=>⟨.int k (p.tmod q),key _ (by simp[binOp_rem,Op.intDiv,hp]),by simp[R]⟩
 case eql=>exact qt (v:= .bool (p==q)) r (key _ (by simp[binOp_eql])) (by simp[R])
 case neq=>exact qt (v:= .bool (p !=q)) r (key _ (by simp[binOp_neq])) (by simp[R])
 case lss=>exact qt (v:= .bool (decide (p<q))) r (key _ (by simp[binOp_lss])) (by simp[R])
 case leq=>exact qt (v:= .bool (decide (p<=q))) r (key _ (by simp[binOp_leq])) (by simp[R])
 case gtr=>exact qt (v:= .bool (decide (p > q))) r (key _ (by simp[binOp_gtr])) (by simp[R])
 case geq=>exact qt (v:= .bool (decide (p>=q))) r (key _ (by simp[binOp_geq])) (by simp[R])
 all_goals trivial
theorem qfl[Lay](r:Rel n g β U y st a w){op:BinOp}{t t':Nat}{x z:Operand}(ho:o.op = .binOp op t x z t'){p q:List UInt8}(hx:R g (.str p) (a.eval x))(hz:R g (.str q) (a.eval z)) :
  j6 P n g β U y st a w o (qjb P op t (.str p) (.str q)):=by
 simp only[R]at hx hz
 have hg:(eqGuard op t x z (a.eval x) (a.eval z)).run P w = .ok () w:=by rw[hx.1,hz.1];exact qck
 have key:∀v,(binOp op t (.string ⟨p.toArray⟩) (.string ⟨q.toArray⟩)).run P w = .ok v w->(execOp a.eval o).run P w = .ok (.value v) w:=fun v h=>ja ho hg (by rw[hx.1,hz.1];exact h)
 cases op
 case add =>
  refine xq r rfl fun hp=>⟨_,key (.string ⟨(p++q).toArray⟩) ?_,by simp only[R];exact⟨trivial,by rw[List.length_append];exact hp⟩⟩
  have hs:((⟨p.toArray⟩:ByteArray).size)=p.length:=by simp[ByteArray.size]
  have hs':((⟨q.toArray⟩:ByteArray).size)=q.length:=by simp[ByteArray.size]
  have hcat:((⟨p.toArray⟩:ByteArray)++⟨q.toArray⟩)=⟨(p++q).toArray⟩:=by
   have:=Joins.data_append (⟨p.toArray⟩:ByteArray) ⟨q.toArray⟩
   apply ByteArray.ext
   apply Array.ext'
   rw[this]
  have hle:¬((p.length:Int)+q.length > IntKind.max .i64):=by
   have:(IntKind.max .i64)=9223372036854775807:=by decide
   unfold jt at hp
   omega
  simp only[binOp_string_add,Op.stringOp,hs,hs',hcat]
  rw[if_neg (by simpa using hle)]
  rfl
 case eql=>exact qt (v:= .bool (p==q)) r (key _ (by simp[binOp_string_eql])) (by simp[R])
 case neq=>exact qt (v:= .bool (!(p==q))) r (key _ (by simp[binOp_string_neq])) (by simp[R])
 case lss=>exact qt (v:= .bool (Op.bytesLess p q)) r (key _ (by simp[binOp_string_lss])) (by simp[R])
 case leq=>exact qt (v:= .bool (Op.bytesLess p q || p==q)) r (key _ (by simp[binOp_string_leq])) (by simp[R])
 case gtr=>exact qt (v:= .bool (!(Op.bytesLess p q || p==q))) r (key _ (by simp[binOp_string_gtr])) (by simp[R])
 case geq=>exact qt (v:= .bool (!(Op.bytesLess p q))) r (key _ (by simp[binOp_string_geq])) (by simp[R])
 all_goals trivial
theorem qoe[Lay](r:Rel n g β U y st a w)(e:Ev g β st.sl a ev){op:BinOp}{t t':Nat}{x z:Operand}(ho:o.op = .binOp op t x z t'):j6 P n g β U y st a w o (qjb P op t (ev x) (ev z)):=by
 have dx:∀d,ev x=d->isD d=true->R g d (a.eval x):=fun d h1 h2=>by rw[<-h1];exact e.data (by rw[h1];exact h2)
 have dz:∀d,ev z=d->isD d=true->R g d (a.eval z):=fun d h1 h2=>by rw[<-h1];exact e.data (by rw[h1];exact h2)
 cases hx:ev x with
 |int k p =>
  cases hz:ev z with
  |int k' q =>
   have h1:=dx _ hx rfl;have h2:=dz _ hz rfl
   simp only[R]at h1 h2
   exact qfk r ho h1 h2
  |_=>trivial
 |str p =>
  cases hz:ev z with
  |str q=>exact qfl r ho (dx _ hx rfl) (dz _ hz rfl)
  |_=>trivial
 |bool p =>
  cases hz:ev z with
  |bool q =>
   have h1:=dx _ hx rfl;have h2:=dz _ hz rfl
   simp only[R]at h1 h2
   have hg:(eqGuard op t x z (a.eval x) (a.eval z)).run P w = .ok () w:=by rw[h1,h2];exact qas
   simp only[qjb]
   split
   ·rename_i hu
    exact qt (v:= .bool (p==q)) r (ja ho hg (by rw[h1,h2];simp[binOp,Op.equal,Op.maxDepth,run_equalIn_bool' w _ _ _ _ hu])) (by simp[R])
   ·rename_i hu
    exact qt (v:= .bool (!(p==q))) r (ja ho hg (by rw[h1,h2];simp[binOp,Op.equal,Op.maxDepth,run_equalIn_bool' w _ _ _ _ hu])) (by simp[R])
   ·trivial
  |_=>trivial
 |agg p =>
  cases hz:ev z with
  |agg q =>
   have h1:=dx _ hx rfl;have h2:=dz _ hz rfl
   have h1':=h1;have h2':=h2
   simp only[R]at h1' h2'
   obtain⟨us,hu,_⟩:=h1'
   obtain⟨ws,hw,_⟩:=h2'
   simp only[qjb]
   cases hq:P.eqGuardType P.depth t with
   |true=>trivial
   |false =>
    have hg:(eqGuard op t x z (a.eval x) (a.eval z)).run P w = .ok () w:=by rw[hu,hw];exact run_eqGuard_agg w op t x z _ _ hq
    simp only[cond_false]
    rw[hu]at h1;rw[hw]at h2
    split
    ·rename_i b hb
     have h3:=mw (w:=w) 10 9990 t _ _ _ _ _ hb h1 h2
     refine qt (v:= .bool b) r (ja ho hg ?_) (by simp[R])
     rw[hu,hw,run_eql_struct,h3];rfl
    ·rename_i b hb
     have h3:=mw (w:=w) 10 9990 t _ _ _ _ _ hb h1 h2
     refine qt (v:= .bool (!b)) r (ja ho hg ?_) (by simp[R])
     rw[hu,hw,run_neq_struct,h3];rfl
    ·trivial
  |_=>trivial
 |nili =>
  cases hz:ev z with
  |iface t1 d1 =>
   simp only[qjb]
   cases hd:isD (.iface t1 d1) with
   |false=>trivial
   |true =>
    have h1:=dx _ hx rfl
    have h2:=dz _ hz hd
    simp only[R]at h1 h2
    obtain⟨u,h2,_⟩:=h2
    have hg:(eqGuard op t x z (a.eval x) (a.eval z)).run P w = .ok () w:=by
     rw[h1,h2];unfold eqGuard;cases op <;> simp
    have hq:∀{ms},P.underlying t=some (.interface ms)->(Op.equalIn Op.maxDepth t .nilIface (.iface t1 u)).run P w = .ok false w:=fun hu=>by
     rw[show Op.maxDepth=(Op.maxDepth-1)+1 from rfl]
     unfold Op.equalIn
     simp[run_underlying hu]
    simp only[cond_true]
    split
    ·rename_i hu
     refine qt r (v:= .bool false) (ja ho hg ?_) (by simp[R])
     rw[h1,h2];simp only[binOp,Op.equal,Sem.run_bind,hq hu,Result.andThen_ok,Sem.run_pure]
    ·rename_i hu
     refine qt r (v:= .bool true) (ja ho hg ?_) (by simp[R])
     rw[h1,h2];simp only[binOp,Op.equal,Sem.run_bind,hq hu,Result.andThen_ok,Sem.run_pure];rfl
    ·trivial
  |_=>trivial
 |_=>trivial
theorem uz{el:Nat}{t:Nat}(hu:P.underlying t=some (.slice el))(d:Nat)(p:Addr)(m cap:Nat):(Op.equalIn (d+1) t (.slice (some p) m cap) (.slice none 0 0)).run P w = .ok false w:=by
 unfold Op.equalIn
 simp[run_underlying hu]
theorem qof[Lay](r:Rel n g β U y st a w)(e:Ev g β st.sl a ev){op:BinOp}{t t':Nat}{x z:Operand}(ho:o.op = .binOp op t x z t')(hz:r7 z=true):j6 P n g β U y st a w o (qqv P op t (ev x)):=by
 have hzc:a.eval z = .slice none 0 0:=by
  unfold r7 at hz
  split at hz
  ·rfl
  ·cases hz
 have nz:∀{el m sz:Nat} {f:Nat->D} {c:Bool},P.underlying t=some (.slice el)->ev x = .list m sz f (.nz c)->(Op.equalIn Op.maxDepth t (a.eval x) (.slice none 0 0)).run P w = .ok c w/\∃ba k cap,a.eval x = .slice ba k cap:=by
  intro el m sz f c hu hx
  have h1:R g (.list m sz f (.nz c)) (a.eval x):=by rw[<-hx];exact e.data (by rw[hx];rfl)
  simp only[R]at h1
  obtain⟨_,ba,cap,hv,_,hb,_⟩:=h1
  have hb':c=ba.isNone:=hb
  refine⟨?_,ba,m,cap,hv⟩
  rw[hv,hb',show Op.maxDepth=(Op.maxDepth-1)+1 from rfl]
  unfold Op.equalIn
  cases ba <;> simp[run_underlying hu]
 unfold qqv
 split
 ·rename_i el m sz f c hu hx
  obtain⟨h1,ba,k,cap,hv⟩:=nz hu hx
  refine qt r (v:= .bool c) (ja ho ?_ ?_) (by simp[R])
  ·rw[hv,hzc];unfold eqGuard;simp
  ·rw[hv]at h1;rw[hv,hzc];simp only[binOp,Op.equal,Sem.run_bind,h1,Result.andThen_ok,Sem.run_pure]
 ·rename_i el m sz f c hu hx
  obtain⟨h1,ba,k,cap,hv⟩:=nz hu hx
  refine qt r (v:= .bool (!c)) (ja ho ?_ ?_) (by simp[R])
  ·rw[hv,hzc];unfold eqGuard;simp
  ·rw[hv]at h1;rw[hv,hzc];simp only[binOp,Op.equal,Sem.run_bind,h1,Result.andThen_ok,Sem.run_pure]
 ·rename_i el m sz f own _ hu hx
  refine xq r rfl fun hp=>⟨.bool false,?_,by simp[R]⟩
  have h1:R g (.list m sz f own) (a.eval x):=by rw[<-hx];exact e.data (by rw[hx];rfl)
  simp only[R]at h1
  obtain⟨_,ba,cap,hv,_,_,hel⟩:=h1
  obtain⟨p,_,hb,_⟩:=hel 0 hp
  subst hb
  refine ja ho ?_ ?_
  ·rw[hv,hzc];unfold eqGuard;simp
  ·rw[hv,hzc]
   have:=uz (P:=P) (w:=w) hu (Op.maxDepth-1) p m cap
   rw[show Op.maxDepth-1+1=Op.maxDepth from rfl]at this
   simp only[binOp,Op.equal,Sem.run_bind,this,Result.andThen_ok,Sem.run_pure]
 ·rename_i el m sz f own _ hu hx
  refine xq r rfl fun hp=>⟨.bool true,?_,by simp[R]⟩
  have h1:R g (.list m sz f own) (a.eval x):=by rw[<-hx];exact e.data (by rw[hx];rfl)
  simp only[R]at h1
  obtain⟨_,ba,cap,hv,_,_,hel⟩:=h1
  obtain⟨p,_,hb,_⟩:=hel 0 hp
  subst hb
  refine ja ho ?_ ?_
  ·rw[hv,hzc];unfold eqGuard;simp
  ·rw[hv,hzc]
   have:=uz (P:=P) (w:=w) hu (Op.maxDepth-1) p m cap
   rw[show Op.maxDepth-1+1=Op.maxDepth from rfl]at this
   simp only[binOp,Op.equal,Sem.run_bind,this,Result.andThen_ok,Sem.run_pure];rfl
 ·trivial
theorem qml[Lay](r:Rel n g β U y st a w)(e:Ev g β st.sl a ev){op:BinOp}{t t':Nat}{x z:Operand}(ho:o.op = .binOp op t x z t')(hz:bj z=true):j6 P n g β U y st a w o (qjm P op t (ev x)):=by
 have hzc:z = .const .nilIface:=by
  unfold bj at hz
  split at hz
  ·rfl
  ·cases hz
 subst hzc
 have hzv:a.eval (.const .nilIface) = .nilIface:=rfl
 have hg:∀v,(eqGuard op t x (.const .nilIface) v .nilIface).run P w = .ok () w:=fun v=>by
  unfold eqGuard
  cases op <;> cases v <;> simp
 have q1:∀{ms},P.underlying t=some (.interface ms)->(Op.equalIn Op.maxDepth t .nilIface .nilIface).run P w = .ok true w:=fun hu=>by
  rw[show Op.maxDepth=(Op.maxDepth-1)+1 from rfl]
  unfold Op.equalIn
  simp[run_underlying hu]
 have q2:∀{ms u v},P.underlying t=some (.interface ms)->(Op.equalIn Op.maxDepth t (.iface u v) .nilIface).run P w = .ok false w:=fun hu=>by
  rw[show Op.maxDepth=(Op.maxDepth-1)+1 from rfl]
  unfold Op.equalIn
  simp[run_underlying hu]
 unfold qjm
 split
 ·rename_i ms hu hx
  have h1:R g .nili (a.eval x):=by rw[<-hx];exact e.data (by rw[hx];rfl)
  simp only[R]at h1
  refine qt r (v:= .bool true) (ja ho (by rw[hzv];exact hg _) ?_) (by simp[R])
  rw[h1,hzv];simp only[binOp,Op.equal,Sem.run_bind,q1 hu,Result.andThen_ok,Sem.run_pure]
 ·rename_i ms hu hx
  have h1:R g .nili (a.eval x):=by rw[<-hx];exact e.data (by rw[hx];rfl)
  simp only[R]at h1
  refine qt r (v:= .bool false) (ja ho (by rw[hzv];exact hg _) ?_) (by simp[R])
  rw[h1,hzv];simp only[binOp,Op.equal,Sem.run_bind,q1 hu,Result.andThen_ok,Sem.run_pure];rfl
 ·rename_i ms t1 d1 hu hx
  cases hd:isD (.iface t1 d1) with
  |false=>trivial
  |true =>
   have h1:R g (.iface t1 d1) (a.eval x):=by rw[<-hx];exact e.data (by rw[hx];exact hd)
   simp only[R]at h1
   obtain⟨u,h1,_⟩:=h1
   refine qt r (v:= .bool false) (ja ho (by rw[hzv];exact hg _) ?_) (by simp[R])
   rw[h1,hzv];simp only[binOp,Op.equal,Sem.run_bind,q2 hu,Result.andThen_ok,Sem.run_pure]
 ·rename_i ms t1 d1 hu hx
  cases hd:isD (.iface t1 d1) with
  |false=>trivial
  |true =>
   have h1:R g (.iface t1 d1) (a.eval x):=by rw[<-hx];exact e.data (by rw[hx];exact hd)
   simp only[R]at h1
   obtain⟨u,h1,_⟩:=h1
   refine qt r (v:= .bool true) (ja ho (by rw[hzv];exact hg _) ?_) (by simp[R])
   rw[h1,hzv];simp only[binOp,Op.equal,Sem.run_bind,q2 hu,Result.andThen_ok,Sem.run_pure];rfl
 ·trivial
theorem qmm[Lay](r:Rel n g β U y st a w)(e:Ev g β st.sl a ev){op:BinOp}{t t':Nat}{x z:Operand}(ho:o.op = .binOp op t x z t'):j6 P n g β U y st a w o (qgk P op t z (ev x) (ev z)):=by
 unfold qgk
 cases hz:r7 z with
 |true=>exact qof r e ho hz
 |false =>
  simp only[cond_false]
  cases hy:bj z with
  |true=>exact qml r e ho hy
  |false=>exact qoe r e ho
theorem qrf[Lay](r:Rel n g β U y st a w)(e:Ev g β st.sl a ev){op:UnOp}{t:Nat}{x:Operand}(ho:o.op = .unOp op t x):j6 P n g β U y st a w o (unD op (ev x)):=by
 have key:∀v,(Op.unary op (a.eval x)).run P w = .ok v w->(execOp a.eval o).run P w = .ok (.value v) w:=fun v h=>by simp[execOp,ho,h]
 have dx:∀d,ev x=d->isD d=true->R g d (a.eval x):=fun d h1 h2=>by rw[<-h1];exact e.data (by rw[h1];exact h2)
 unfold unD
 split
 ·rename_i b hx
  have h1:=dx _ hx rfl
  simp only[R]at h1
  exact qt (v:= .bool (!b)) r (key _ (by rw[h1];simp[Op.unary])) (by simp[R])
 ·rename_i k m hx
  have h1:=dx _ hx rfl
  simp only[R]at h1
  exact qt (v:= .int k (qj k 0 m)) r (key _ (by rw[h1];simp[Op.unary,Op.intArith,qj])) (by simp[R])
 ·rename_i k m hx
  have h1:=dx _ hx rfl
  simp only[R]at h1
  exact qt (v:= .int k (qn0 k (if k.signed then -1 else k.max) m)) r (key _ (by rw[h1];simp[Op.unary,Op.intBits,qn0])) (by simp[R])
 ·trivial
theorem qmn[Lay](r:Rel n g β U y st a w)(e:Ev g β st.sl a ev){s t:Nat}{x:Operand}(ho:o.op = .convert s t x):j6 P n g β U y st a w o (qjn P s t (ev x)):=by
 have key:∀v,(convert s t (a.eval x)).run P w = .ok v w->(execOp a.eval o).run P w = .ok (.value v) w:=fun v h=>by simp[execOp,ho,h]
 have dx:∀d,ev x=d->isD d=true->R g d (a.eval x):=fun d h1 h2=>by rw[<-h1];exact e.data (by rw[h1];exact h2)
 unfold qjn
 split
 ·rename_i d k k' m hs ht hx
  have h1:=dx _ hx rfl
  simp only[R]at h1
  exact qt (v:= .int k (k.wrap m)) r (key _ (by rw[h1];simp[convert,run_underlying hs,run_underlying ht,Conv.intToInt])) (by simp[R])
 ·rename_i d m hs ht hx
  have h1:=dx _ hx rfl
  have h1':=h1
  simp only[R]at h1'
  exact qt (v:=a.eval x) r (key _ (by rw[h1'.1];simp[convert,run_underlying hs,run_underlying ht])) h1
 ·trivial
theorem tg(e:Ev g β st.sl a ev):∀(l:List Operand),ax (l.map ev)=true->Rs g (l.map ev) (l.map a.eval)
 | [],_=>by simp[Rs]
 |x::r,h=>by
  simp only[ax,List.map_cons,List.all_cons,Bool.and_eq_true]at h
  simp only[List.map_cons,Rs]
  exact⟨_,_,rfl,e.data h.1,tg e r h.2⟩
theorem qcl[Lay](r:Rel n g β U y st a w)(e:Ev g β st.sl a ev){f:Nat}{first caps:Array Operand}(ho:o.op = .makeFunc (.func f) first caps) :
  j6 P n g β U y st a w o (bif first.isEmpty&&ax (caps.toList.map ev) then .val (.clo f (caps.toList.map ev)) else bif caps.isEmpty&&ax (first.toList.map ev) then .val (.mv f (first.toList.map ev)) else .bad):=by
 cases h:(first.isEmpty&&ax (caps.toList.map ev)) with
 |false =>
  simp only[cond_false]
  cases h:(caps.isEmpty&&ax (first.toList.map ev)) with
  |false=>trivial
  |true =>
   simp only[Bool.and_eq_true]at h
   have hf:caps = #[]:=by simpa using h.1
   refine qt (v:= .func (.func f) (first.toList.map a.eval).toArray #[]) r ?_ (by simp only[R];exact⟨_,rfl,tg e _ h.2⟩)
   simp[execOp,ho,Instr.makeFunc,hf]
   cases first;simp
 |true =>
  simp only[Bool.and_eq_true]at h
  have hf:first = #[]:=by simpa using h.1
  refine qt (v:= .func (.func f) #[] (caps.toList.map a.eval).toArray) r ?_ (by simp only[R];exact⟨_,rfl,tg e _ h.2⟩)
  simp[execOp,ho,Instr.makeFunc,hf]
  cases caps;simp
theorem qcm[Lay](r:Rel n g β U y st a w)(e:Ev g β st.sl a ev){m:String}{first caps:Array Operand}(ho:o.op = .makeFunc (.method m) first caps) :
  j6 P n g β U y st a w o (qgn m caps.isEmpty (first.toList.map ev)):=by
 unfold qgn
 split
 ·rename_i t d hd
  cases h:caps.isEmpty with
  |false=>trivial
  |true =>
   have hf:caps = #[]:=by simpa using h
   have hl:first.toList.length=1:=by have:=congrArg List.length hd;simpa using this
   obtain⟨x,hx⟩:=List.length_eq_one_iff.1 hl
   rw[hx]at hd
   simp only[List.map_cons,List.map_nil,List.cons.injEq,and_true]at hd
   have h0:=e.data (x:=x) (by rw[hd];rfl)
   rw[hd]at h0
   simp only[R]at h0
   obtain⟨u,h1,_⟩:=h0
   have hfx:first = #[x]:=by
    cases first;simp at hx;rw[hx]
   refine qt (v:= .func (.method m) #[.iface t u] #[]) r ?_ (by simp only[R];exact⟨_,rfl⟩)
   simp[execOp,ho,Instr.makeFunc,hf,hfx,h1]
 ·trivial
theorem qfm[Lay](r:Rel n g β U y st a w)(e:Ev g β st.sl a ev){x:Operand}{i:Nat}(ho:o.op = .extract x i) :
  j6 P n g β U y st a w o (match ev x with | .tup ds=>ul ds[i]? | _=> .bad):=by
 have dx:∀d,ev x=d->isD d=true->R g d (a.eval x):=fun d h1 h2=>by rw[<-h1];exact e.data (by rw[h1];exact h2)
 cases hx:ev x with
 |tup ds =>
  simp only
  cases hd:ds[i]? with
  |none=>trivial
  |some d =>
   have h1:=dx _ hx rfl
   simp only[R]at h1
   obtain⟨vs,h2,h3⟩:=h1
   obtain⟨v,hv,hr⟩:=h3.get i d hd
   exact qt (v:=v) r (by simp[execOp,ho,Instr.extract,h2,hv]) hr
 |_=>trivial
theorem qjs[Lay](r:Rel n g β U y st a w)(e:Ev g β st.sl a ev){t:Nat}{x i:Operand}(ho:o.op = .index t x i):j6 P n g β U y st a w o (sq P t (ev x) (ev i)):=by
 have dx:∀d,ev x=d->isD d=true->R g d (a.eval x):=fun d h1 h2=>by rw[<-h1];exact e.data (by rw[h1];exact h2)
 have di:∀d,ev i=d->isD d=true->R g d (a.eval i):=fun d h1 h2=>by rw[<-h1];exact e.data (by rw[h1];exact h2)
 unfold sq
 split
 ·rename_i s k m hu hx hi
  have h1:=dx _ hx rfl;have h2:=di _ hi rfl
  simp only[R]at h1 h2
  refine xq r rfl fun hp=>⟨.int .u8 (s.getD m.toNat 0).toNat,?_,by simp[R]⟩
  have hm:m.toNat<s.length:=by omega
  have hg:(⟨s.toArray⟩:ByteArray)[m.toNat]? = some (s.getD m.toNat 0):=by
   have hsz:m.toNat<(⟨s.toArray⟩:ByteArray).size:=by simpa[ByteArray.size] using hm
   rw[getElem?_pos (⟨s.toArray⟩:ByteArray) m.toNat hsz]
   have:s.getD m.toNat 0=s[m.toNat]:=by simp[List.getD,hm]
   rw[this];rfl
  simp[execOp,ho,h1.1,h2,Instr.index,asIntOf,run_underlying hu,hp.1,hg]
 ·trivial
end
def addBlock(g:G)(b:Nat)(vals:Array Value):G:={g with σ:=fun a=>if a.block=b then(if a.spot=none then vals[a.off]? else none) else g.σ a}
theorem th(g:G)(b:Nat)(vals:Array Value)(j:Nat):(addBlock g b vals).σ ⟨b,j,none⟩=vals[j]? :=by simp[addBlock]
theorem Ext.addBlock[Lay]{g:G}{U:Nat->Prop}{h:Heap}{w:World}(i:Inv g U h w)(vals:Array Value)(T:Nat):Ext g w (addBlock g w.heap.size vals) (w.alloc (.cells vals T (0,0))):=by
 have old:∀a v,g.σ a=some v->(Ab.addBlock g w.heap.size vals).σ a=some v:=fun a v e=>by
  have:=i.cellLt e
  simp only[Ab.addBlock]
  rw[if_neg (by omega)];exact e
 refine⟨⟨old,fun _ _ e=>e,fun _ k e=>⟨k,e,rfl,Nat.le_refl _,fun _=>rfl⟩⟩,rfl,rfl,fun a v e=> ?_,fun a v e=> ?_,zr w _⟩
 ·simp only[Ab.addBlock]at e
  split at e
  ·rename_i hb;exact .inr (by omega)
  ·exact .inl e
 ·simp only[Ab.addBlock]at e
  split at e
  ·rename_i hb
   split at e
   ·rename_i hs
    refine⟨?_,hs⟩
    simp only[World.cell?,hb,jh,hs]
    simpa using e
   ·cases e
  ·exact⟨(World.cell?_alloc_lt w _ a (i.cellLt e)).trans (i.sub a v e).1,(i.sub a v e).2⟩
section
variable {P:Program} {n:Nat} {g:G} {β:Nat->Nat} {U:Nat->Prop} {y:Nat->Bool->Prop} {st:St} {a:Act} {w:World} {ev:Operand->D} {o:Oper}
def RowOf(g:G)(T:Nat)(vals:Array Value)(row:Row):Prop :=
 match row with
 | .lit cs=>Rs g cs vals.toList
 | .arr n get=>n<=vals.size/\∀i,i<n->∃v,vals[i]? = some v/\R g (get i) v
 | .loop _ _=>False
 | .litT T' cs=>T'=T/\Rs g cs vals.toList
 | .map _ _ _=>False
theorem RowAt.of{g:G}{w:World}{b T:Nat}{vals:Array Value}{row:Row}(h:w.heap[b]? = some (.cells vals T (0,0)))(hr:RowOf g T vals row):RowAt g w b row:=by
 cases row <;> first|exact⟨T,vals,h,hr⟩|exact hr.elim|(obtain⟨rfl,hr⟩:=hr;exact⟨vals,h,hr⟩)
theorem RowOf.mono{g g':G}{T:Nat}{vals:Array Value}{row:Row}(h:RowOf g T vals row)(l:G.le g g'):RowOf g' T vals row:=by
 cases row with
 |lit cs=>exact Rs.mono l _ _ h
 |arr n get=>exact⟨h.1,fun i hi=>by obtain⟨v,hv,h1⟩:=h.2 i hi;exact⟨v,hv,R.mono l _ _ h1⟩⟩
 |loop _ _=>exact h.elim
 |litT T' cs=>exact⟨h.1,Rs.mono l _ _ h.2⟩
 |map _ _ _=>exact h.elim
def ji(g:G)(l b:Nat):G:={g with μ:=upd g.μ l (some b)}
theorem qb{α:Type}(f:Nat->α)(k:Nat)(v:α):upd f k v k=v:=by simp[upd]
theorem qd{α:Type}(f:Nat->α){k i:Nat}(v:α)(h:i≠k):upd f k v i=f i:=by simp only[upd];rw[xn.2 h];rfl
theorem kh{g : G}{l b : Nat}(h : g.μ l = none) : G.le g (ji g l b) :=
  ⟨fun _ _ e => e, fun l' b' e => by
    simp only[ji]
    rw[qd _ _ (by intro hl;subst hl;rw[h]at e;cases e)];exact e,
   fun _ k e => ⟨k, e, rfl, Nat.le_refl _, fun _ => rfl⟩⟩
theorem Rel.newBoxO[Lay](r:Rel n g β U y st a w){row:Row}{o:Obj}(hr:RowAt (ji g st.h.nl w.heap.size) (w.alloc o) w.heap.size row) :
  Rel n (ji g st.h.nl w.heap.size) β U y {st with h:={st.h with box:=upd st.h.box st.h.nl (some row),nl:=st.h.nl+1}} a (w.alloc o):=by
 have hnone:=r.inv.frL st.h.nl (Nat.le_refl _)
 have le:=kh (b:=w.heap.size) hnone
 have r1:=r.ext (Ext.alloc r.inv o)
 refine⟨r1.defers,r1.size,r1.keys,fun t d h=>(r1.slot t d h).mono le,r1.base,fun t cs h=> ?_,r1.ownInj,?_⟩
 ·obtain⟨h1,h2,h3,h4,h5⟩:=r1.own t cs h
  refine⟨h1.mono le rfl,h2,h3,fun l hl e=> ?_,h5⟩
  by_cases hx:l=st.h.nl
  ·subst hx
   simp only[ji,qb,Option.some.injEq]at e
   have:=(r.own t cs h).1.lt;omega
  ·simp only[ji,qd _ _ hx]at e hl
   exact h4 l hl e
 ·have i:=r1.inv
  refine⟨i.sub,i.ub,fun l b e=> ?_,fun l row' e=> ?_,fun l l' b e e' e1 e2=> ?_,fun t m e=> ?_,fun t m k b l e e1 e2 e3 e4 e5=> ?_,i.tokInj,fun l hl=> ?_,i.frT,i.frV,i.ltab⟩
  ·by_cases hx:l=st.h.nl
   ·subst hx
    simp only[ji,qb,Option.some.injEq]at e
    subst e;simp
   ·simp only[ji,qd _ _ hx]at e
    exact i.muLt l b e
  ·have e':upd st.h.box st.h.nl (some row) l=some row':=e
   clear e
   by_cases hx:l=st.h.nl
   ·subst hx
    simp only[qb,Option.some.injEq]at e'
    subst e'
    refine⟨w.heap.size,by simp[ji,qb],hr,fun hu=>absurd (r.inv.ub _ hu) (by omega),fun x v hv=> ?_⟩
    have:=r.inv.cellLt hv;omega
   ·rw[qd _ _ hx]at e'
    obtain⟨b,e1,e2,e3,e4⟩:=i.box l row' e'
    exact⟨b,by simp only[ji,qd _ _ hx];exact e1,e2.mono le rfl,e3,e4⟩
  ·by_cases hx:l=st.h.nl
   ·subst hx
    simp only[ji,qb,Option.some.injEq]at e1
    by_cases hx':l'=st.h.nl
    ·exact hx'.symm
    ·simp only[ji,qd _ _ hx']at e2
     have:=r.inv.muLt l' b e2;omega
   ·simp only[qd _ _ hx]at e
    simp only[ji,qd _ _ hx]at e1
    by_cases hx':l'=st.h.nl
    ·subst hx'
     simp only[ji,qb,Option.some.injEq]at e2
     have:=r.inv.muLt l b e1;omega
    ·simp only[ji,qd _ _ hx']at e2
     exact i.boxInj l l' b e (by simpa only[qd _ _ hx'] using e') e1 e2
  ·obtain⟨k,e1,e2,e3⟩:=i.tok t m e
   exact⟨k,e1,e2,fun hk=>(e3 hk).mono le fun _ _ _=>⟨rfl,fun _ h=>h⟩⟩
  ·by_cases hx:l=st.h.nl
   ·subst hx
    simp only[ji,qb,Option.some.injEq]at e5
    obtain⟨k',f1,f2,f3⟩:=r.inv.tok t m e
    have e1':g.τ t=some k:=e1
    have:k'=k:=by rw[f1]at e1';cases e1';rfl
    subst this
    obtain⟨b',g1,g2,_⟩:=(f3 e2).blockLt
    rw[g1]at e3;simp at e3
   ·simp only[qd _ _ hx]at e4
    simp only[ji,qd _ _ hx]at e5
    exact i.tokBox t m k b l e e1 e2 e3 e4 e5
  ·simp only[ji]
   have hl':st.h.nl+1<=l:=hl
   rw[qd _ _ (by omega)]
   exact i.frL l (by omega)
theorem Rel.newBox[Lay](r:Rel n g β U y st a w){row:Row}{vals:Array Value}{T:Nat}(hr:RowOf g T vals row) :
  Rel n (ji g st.h.nl w.heap.size) β U y {st with h:={st.h with box:=upd st.h.box st.h.nl (some row),nl:=st.h.nl+1}} a (w.alloc (.cells vals T (0,0))) :=
 r.newBoxO (RowAt.of (jh w _) (hr.mono (kh (r.inv.frL st.h.nl (Nat.le_refl _)))))
theorem qdv(P:Program)(t:Nat):∀t',qff P t=some t'->t'=t:=by
 intro t' h
 unfold qff at h
 split at h
 ·split at h
  ·rename_i x y _
   cases hc:(x.name == "addr" && y.name == "buf") <;> rw[hc]at h <;> cases h
   rfl
  ·cases h
 ·cases h
theorem qat[Lay](r:Rel n g β U y st a w){cfg:Cfg}{cs:List D}{vals:Array Value}{T:Nat}(hr:(execOp a.eval o).run P w = .ok (.value (.pointer (some ⟨w.heap.size,0,none⟩))) (w.alloc (.cells vals T (0,0))))
  (hs:Rs g cs vals.toList) {tag:Option Nat} (ht:∀t,tag=some t->t=T):j6 P n g β U y st a w o (ux cfg st o.dst tag cs):=by
 unfold ux
 cases hd:o.dst with
 |none=>trivial
 |some d =>
  simp only
  cases cfg.esc d with
  |false=>exact⟨by rw[hd];simp,T,vals,.inl hr,hs⟩
  |true =>
   simp only[cond_true]
   intro _
   have hn:=r.inv.frL st.h.nl (Nat.le_refl _)
   exact⟨_,_,ji g st.h.nl w.heap.size,.inl hr,Rel.newBox r (row:=qgl tag cs) (by cases tag with|none=>exact hs|some t=>exact⟨ht t rfl,hs⟩),Grow.sameσ (kh hn) rfl,(Ext.alloc r.inv _).kept r.inv.ub,by simp only[RS0,R];exact⟨w.heap.size,by simp[ji,qb],rfl⟩,rfl⟩
theorem qjt[Lay](r:Rel n g β U y st a w){cfg:Cfg}{t:Nat}(ho:o.op = .alloc t) :
  j6 P n g β U y st a w o (match gj P t with|some z=>bif isD z then ux cfg st o.dst (qff P t) (ql z) else .bad|none=> .bad):=by
 cases hz:gj P t with
 |none=>trivial
 |some z =>
  simp only
  cases hd:isD z with
  |false=>trivial
  |true =>
   obtain⟨v,h1,h2⟩:=j8 hz hd w
   refine qat r (vals:=v.cells) (T:=t) ?_ (h2 g).cells (qdv P t)
   simp[execOp,ho,Instr.alloc,h1,newVar,newRow]
theorem qog[Lay](r:Rel n g β U y st a w)(e:Ev g β st.sl a ev){cfg:Cfg}{t:Nat}{x:Operand}(ho:o.op = .box t x) :
  j6 P n g β U y st a w o (bif isD (ev x) then ux cfg st o.dst (qff P t) (ql (ev x)) else .bad):=by
 cases hd:isD (ev x) with
 |false=>trivial
 |true =>
  refine qat r (vals:=(a.eval x).cells) (T:=t) ?_ (e.data hd).cells (qdv P t)
  simp[execOp,ho,Instr.box,newVar,newRow]
theorem ti(off:Nat):∀(vs:List Value) (k:Nat) (cells:Array Value),off+k+vs.length<=cells.size ->
  ((vs.zipIdx k).foldl (fun(cs:Array Value) (x:Value×Nat)=>cs.setIfInBounds (off+x.2) x.1) cells).toList=cells.toList.take (off+k)++vs++cells.toList.drop (off+k+vs.length)
 | [],k,cells,h=>by simp
 |v::r,k,cells,h=>by
  simp only[List.zipIdx_cons,List.foldl_cons]
  rw[ti off r (k+1) _ (by simp at h⊢;omega)]
  simp only[List.length_cons]at h
  have hk:off+k<cells.toList.length:=by simp;omega
  obtain⟨A,x,B,hL,hA⟩:∃A x B,cells.toList=A++x::B/\A.length=off+k :=
   ⟨cells.toList.take (off+k),cells.toList[off+k],cells.toList.drop (off+k+1),by rw[<-List.drop_eq_getElem_cons hk,List.take_append_drop],by rw[List.length_take];omega⟩
  have hset:(cells.setIfInBounds (off+k) v).toList=A++v::B:=by
   rw[Array.toList_setIfInBounds,hL,<-hA,List.set_append_right _ _ (Nat.le_refl _)];simp
  rw[hset,hL,<-hA]
  have e1:(A++v::B).take (off+(k+1))=A++[v]:=by
   have:off+(k+1)=A.length+1:=by omega
   rw[this,List.take_append,List.take_of_length_le (Nat.le_succ _)];simp
  have e2:(A++v::B).drop (off+(k+1)+r.length)=B.drop r.length:=by
   have:off+(k+1)+r.length=A.length+(r.length+1):=by omega
   rw[this,List.drop_append];simp
  have e3:(A++x::B).drop (A.length+(v::r).length)=B.drop r.length:=by
   rw[List.drop_append];simp
  rw[e1,e2,e3]
  simp
theorem fg{place placeM:Nat->Option (Nat×Nat)}(hp:∀i q,place i=some q->placeM i=some q) :
  ∀(l:List (Nat×D)) (l':List (Nat×Value)) (cs:List D) (cells:Array Value) (out:List D),l.length=l'.length->(∀(i:Nat) (x:Nat×D) (z:Nat×Value),l[i]? = some x->l'[i]? = some z->x.1=z.1/\(isD x.2=true->R g x.2 z.2))->
   Rs g cs cells.toList->qaj place cs l=some out->∃res,Instr.fill placeM cells l'=some res/\Rs g out res.toList
 | [],[],cs,cells,out,_,_,hs,h=>by
  simp only[qaj,Option.some.injEq]at h;subst h
  exact⟨cells,rfl,hs⟩
 | [],_::_,_,_,_,hl,_,_,_=>by simp at hl
 |_::_,[],_,_,_,hl,_,_,_=>by simp at hl
 |(i,d)::l,(i',v)::l',cs,cells,out,hl,hx,hs,h=>by
  obtain⟨rfl,hd⟩:=hx 0 _ _ rfl rfl
  simp only at hd
  simp only[qaj]at h
  cases hq:place i with
  |none=>rw[hq]at h;cases h
  |some q =>
   obtain⟨off,size⟩:=q
   rw[hq]at h
   simp only at h
   cases hb:(isD d&&Nat.beq (ql d).length size&&Nat.ble (off+size) cs.length) with
   |false=>rw[hb]at h;cases h
   |true =>
    rw[hb]at h
    simp only[cond_true]at h
    simp only[Bool.and_eq_true]at hb
    obtain⟨⟨h1,h2⟩,h3⟩:=hb
    have hr:=(hd h1).cells
    have h2':=qq.1 h2
    have h3':=Nat.le_of_ble_eq_true h3
    have hvl:v.cells.size=size:=by have:=hr.length;simp at this;omega
    have hcl:cells.size=cs.length:=by have:=hs.length;simpa using this
    have hfold:((v.cells.zipIdx.foldl (fun(cs:Array Value) (x:Value×Nat)=>cs.setIfInBounds (off+x.2) x.1) cells)).toList=cells.toList.take off++v.cells.toList++cells.toList.drop (off+v.cells.toList.length):=by
     have:=ti off v.cells.toList 0 cells (by simp;omega)
     rw[<-Array.foldl_toList,Array.toList_zipIdx]
     simpa using this
    have:=fg hp l l' (wv cs off (ql d)) _ out (by simpa using hl) (fun j x z h4 h5=>hx (j+1) x z (by simpa using h4) (by simpa using h5))
     (by rw[hfold];unfold wv;have hll:v.cells.toList.length=(ql d).length:=hr.length;rw[hll];exact((hs.take off).append hr).append (hs.drop _)) h
    obtain⟨res,h6,h7⟩:=this
    refine⟨res,?_,h7⟩
    simp only[Instr.fill,hp _ _ hq]
    rw[if_neg (by simp;omega)]
    exact h6
theorem tj:∀(fs:List Field),fs.all (fun f=>(ya P f.type).isSome)=true ->
  (fs.mapM fun f=>(do pure (f.offset,<-sizeOf f.type):Sem (Nat×Nat))).run P w = .ok (fs.map fun f=>(f.offset,(ya P f.type).getD 0)) w
 | [],_=>by simp
 |f::r,h=>by
  simp only[List.all_cons,Bool.and_eq_true]at h
  cases hz:ya P f.type with
  |none=>rw[hz]at h;simp at h
  |some m =>
   have ih:=tj r h.2
   simp only[List.mapM_cons,Sem.run_bind,jo hz,Result.andThen_ok,Sem.run_pure,List.map_cons,hz,Option.getD_some]
   rw[ih]
   rfl
theorem qau(e:Ev g β st.sl a ev)(parts:Array (Nat×Operand))(i:Nat)(x:Nat×D)(z:Nat×Value)(h1:(parts.toList.map fun(q:Nat×Operand)=>(q.1,ev q.2))[i]? = some x)
  (h2:(parts.toList.map fun(q:Nat×Operand)=>(q.1,a.eval q.2))[i]? = some z):x.1=z.1/\(isD x.2=true->R g x.2 z.2):=by
 rw[List.getElem?_map]at h1 h2
 cases hp:parts.toList[i]? with
 |none=>rw[hp]at h1;cases h1
 |some q =>
  rw[hp]at h1 h2
  simp only[Option.map_some,Option.some.injEq]at h1 h2
  subst h1;subst h2
  exact⟨rfl,fun hd=>e.data hd⟩
theorem qju[Lay](r:Rel n g β U y st a w)(e:Ev g β st.sl a ev){t:Nat}{parts:Array (Nat×Operand)}(ho:o.op = .build t parts) :
  j6 P n g β U y st a w o (ul (qgm P t (parts.toList.map fun(x:Nat×Operand)=>(x.1,ev x.2)))):=by
 unfold qgm
 split
 ·rename_i z fs hz hu
  cases hc:(isD z&&fs.toList.all (fun f=>(ya P f.type).isSome)) with
  |false=>trivial
  |true =>
   simp only[Bool.and_eq_true]at hc
   simp only[cond_true]
   cases hf:qaj (cu P t) (ql z) (parts.toList.map fun(x:Nat×Operand)=>(x.1,ev x.2)) with
   |none=>trivial
   |some cs =>
    obtain⟨v,h1,h2⟩:=j8 hz hc.1 w
    have hplace:∀i q,cu P t i=some q->(fs.toList.map fun f=>(f.offset,(ya P f.type).getD 0))[i]? = some q:=by
     intro i q hq
     obtain⟨off,sz⟩:=q
     obtain⟨fs',x,h3,h4,h5,h6,_⟩:=nc hq
     rw[hu]at h3;cases h3
     rw[List.getElem?_map]
     have:fs.toList[i]? = some x:=by simpa using h4
     rw[this];simp[h5,h6]
    obtain⟨res,h3,h4⟩:=fg (g:=g) hplace _ (parts.toList.map fun(q:Nat×Operand)=>(q.1,a.eval q.2)) (ql z) v.cells cs (by simp) (qau e parts) (h2 g).cells hf
    refine qt (v:= .agg res) r ?_ (by simp only[R];exact⟨res.toList,by simp,h4⟩)
    have hm:(fs.mapM fun f=>(do pure (f.offset,<-sizeOf f.type):Sem (Nat×Nat))).run P w = .ok (fs.toList.map fun f=>(f.offset,(ya P f.type).getD 0)).toArray w:=by
     rw[Array.mapM_eq_mapM_toList,Sem.run_map,tj fs.toList hc.2];rfl
    have hpl:(parts.map fun(i,x)=>(i,a.eval x)).toList=parts.toList.map fun(q:Nat×Operand)=>(q.1,a.eval q.2):=by simp
    have hfill:Instr.fill (fun x=>(fs.toList.map fun f=>(f.offset,(ya P f.type).getD 0)).toArray[x]?) v.cells (parts.toList.map fun(q:Nat×Operand)=>(q.1,a.eval q.2))=some res:=by
     rw[<-h3];congr 1;funext i;simp
    simp only[execOp,ho,Instr.build,Sem.run_bind,h1,Result.andThen_ok,run_underlying hu,hm,hpl,hfill,Sem.run_pure]
 ·rename_i z len el hz hu
  split
  ·rename_i m hm
   cases hc:isD z with
   |false=>trivial
   |true =>
    simp only[cond_true]
    cases hf:qaj (fun i=>some (i*m,m)) (ql z) (parts.toList.map fun(x:Nat×Operand)=>(x.1,ev x.2)) with
    |none=>trivial
    |some cs =>
     obtain⟨v,h1,h2⟩:=j8 hz hc w
     obtain⟨res,h3,h4⟩:=fg (g:=g) (placeM:=fun i=>some (i*m,m)) (fun _ _ h=>h) _ (parts.toList.map fun(q:Nat×Operand)=>(q.1,a.eval q.2)) (ql z) v.cells cs (by simp) (qau e parts) (h2 g).cells hf
     refine qt (v:= .agg res) r ?_ (by simp only[R];exact⟨res.toList,by simp,h4⟩)
     have hpl:(parts.map fun(i,x)=>(i,a.eval x)).toList=parts.toList.map fun(q:Nat×Operand)=>(q.1,a.eval q.2):=by simp
     simp only[execOp,ho,Instr.build,Sem.run_bind,h1,Result.andThen_ok,run_underlying hu,jo hm,hpl,h3,Sem.run_pure]
  ·trivial
 ·trivial
theorem iz(sz:Nat):∀(vs:List Value) (k:Nat) (cells:Array Value),(∀v∈vs,v.cells.size=sz)->(k+vs.length)*sz<=cells.size ->
  ∃out,Instr.fill (fun i=>some (i*sz,sz)) cells (vs.zipIdx k |>.map fun x=>(x.2,x.1))=some out/\out.size=cells.size/\(∀j,j<k*sz->out[j]? = cells[j]?)/\
   ∀i v,vs[i]? = some v->∀j,j<sz->out[(k+i)*sz+j]? = v.cells[j]?
 | [],k,cells,_,_=>⟨cells,rfl,rfl,fun _ _=>rfl,fun i v h=>by simp at h⟩
 |v::r,k,cells,hv,hl=>by
  have hs:v.cells.size=sz:=hv v (List.mem_cons_self ..)
  have hlen:(v::r).length=r.length+1:=rfl
  rw[hlen]at hl
  have hb:k*sz+sz<=cells.size:=by
   have:(k+1)*sz<=(k+(r.length+1))*sz:=Nat.mul_le_mul_right _ (by omega)
   rw[Nat.add_mul]at this;omega
  have hfold:=ti (k*sz) v.cells.toList 0 cells (by simp;omega)
  let mid:=v.cells.zipIdx.foldl (fun(cs:Array Value) (x:Value×Nat)=>cs.setIfInBounds (k*sz+x.2) x.1) cells
  have hmid:mid.toList=cells.toList.take (k*sz)++v.cells.toList++cells.toList.drop (k*sz+sz):=by
   show(v.cells.zipIdx.foldl _ cells).toList=_
   rw[<-Array.foldl_toList,Array.toList_zipIdx]
   simpa[hs] using hfold
  have hmsz:mid.size=cells.size:=by
   have:=congrArg List.length hmid
   simp at this;omega
  have hkr:k+1+r.length=k+(r.length+1):=by omega
  obtain⟨out,h1,h2,h3,h4⟩:=iz sz r (k+1) mid (fun x hx=>hv x (List.mem_cons_of_mem _ hx)) (by rw[hmsz,hkr];exact hl)
  have hk1:(k+1)*sz=k*sz+sz:=by rw[Nat.add_mul,Nat.one_mul]
  have midget:∀j,j<k*sz+sz->mid[j]? = if j<k*sz then cells[j]? else v.cells[j-k*sz]? :=by
   intro j hj
   have:mid[j]? = mid.toList[j]? :=by simp
   rw[this,hmid]
   by_cases hjk:j<k*sz
   ·rw[if_pos hjk,List.append_assoc,List.getElem?_append_left (by simp;omega),List.getElem?_take,if_pos hjk];simp
   ·rw[if_neg hjk,List.append_assoc,List.getElem?_append_right (by simp;omega)]
    have hlt:(cells.toList.take (k*sz)).length=k*sz:=by simp;omega
    rw[hlt,List.getElem?_append_left (by simp;omega)];simp
  refine⟨out,?_,by rw[h2,hmsz],fun j hj=> ?_,fun i u hu j hj=> ?_⟩
  ·simp only[List.zipIdx_cons,List.map_cons,Instr.fill]
   rw[if_neg (by simp;omega)]
   exact h1
  ·rw[h3 j (by rw[hk1];omega),midget j (by omega),if_pos hj]
  ·cases i with
   |zero =>
    simp only[List.getElem?_cons_zero,Option.some.injEq]at hu
    subst hu
    rw[Nat.add_zero,h3 _ (by rw[hk1];omega),midget _ (by omega),if_neg (by omega)]
    congr 1;omega
   |succ i =>
    have:=h4 i u (by simpa using hu) j hj
    rw[show k+(i+1)=k+1+i from by omega]
    exact this
theorem yd(e:Ev g β st.sl a ev):∀(l:List (Nat×Operand)) (k:Nat) (ds:List D),pv k (l.map fun(q:Nat×Operand)=>(q.1,ev q.2))=some ds ->
  ∃vs:List Value,(l.map fun(q:Nat×Operand)=>(q.1,a.eval q.2))=((vs.zipIdx k).map fun x=>(x.2,x.1))/\Rs g ds vs
 | [],k,ds,h=>by simp only[List.map_nil,pv,Option.some.injEq]at h;subst h;exact⟨[],rfl,rfl⟩
 |(i,x)::l,k,ds,h=>by
  simp only[List.map_cons,pv]at h
  cases hb:(Nat.beq k i&&isD (ev x)) with
  |false=>rw[hb]at h;cases h
  |true =>
   rw[hb]at h
   simp only[cond_true,Bool.and_eq_true]at h hb
   cases hr:pv (k+1) (l.map fun(q:Nat×Operand)=>(q.1,ev q.2)) with
   |none=>rw[hr]at h;cases h
   |some ds' =>
    rw[hr]at h
    simp only[Option.map_some,Option.some.injEq]at h
    subst h
    obtain⟨vs,h1,h2⟩:=yd e l (k+1) ds' hr
    have hk:=qq.1 hb.1
    subst hk
    refine⟨a.eval x::vs,?_,?_⟩
    ·simp only[List.map_cons,List.zipIdx_cons,h1]
    ·simp only[Rs];exact⟨_,_,rfl,e.data hb.2,h2⟩
theorem R.newList[Lay]{g:G}{U:Nat->Prop}{h:Heap}{w:World}(i:Inv g U h w){ds:List D}{vs:List Value}{cells:Array Value}{sz cap T:Nat}(hs:Rs g ds vs)(hsz:∀v∈vs,v.cells.size=sz)
  (hc:∀(i:Nat) (v:Value),vs[i]? = some v->∀j,j<sz->cells[i*sz+j]? = v.cells[j]?) (h1:∀d∈ds,ones d=true) (hn:vs.length<=q8) (hcap:vs.length<=cap) (own:Own) (hown:own = .none\/(own = .full/\cap=vs.length)) :
  R (addBlock g w.heap.size cells) (.list vs.length sz (zf ds) own) (.slice (some ⟨w.heap.size,0,none⟩) vs.length cap):=by
 have le:=(Ext.addBlock i cells T).le
 simp only[R]
 refine⟨hn,_,_,rfl,hcap,?_,fun k hk=> ?_⟩
 ·rcases hown with rfl|⟨rfl,h⟩
  ·trivial
  ·exact h
 ·have hv:vs[k]? = some vs[k]:=List.getElem?_eq_getElem hk
  have hdk:k<ds.length:=by rw[<-hs.length];exact hk
  obtain⟨v',hv',hr⟩:=hs.get k ds[k] (List.getElem?_eq_getElem hdk)
  rw[hv]at hv';cases hv'
  have hlk:zf ds k=ds[k]:=by simp[zf,hdk]
  refine⟨_,vs[k],rfl,rfl,?_,⟨hsz _ (List.getElem_mem hk),by rw[hlk];exact h1 _ (List.getElem_mem hdk)⟩,fun j hj=> ?_⟩
  ·have:zf ds k=ds[k]:=by simp[zf,hdk]
   rw[this];exact R.mono le _ _ hr
  ·rw[th,<-hc k _ hv j hj];simp
theorem i6[Lay](r:Rel n g β U y st a w)(e:Ev g β st.sl a ev){t len:Nat}{parts:Array (Nat×Operand)}(ho:o.op = .buildSlice t len parts) :
  j6 P n g β U y st a w o (ul (kr P t len (parts.toList.map fun(x:Nat×Operand)=>(x.1,ev x.2)))):=by
 unfold kr
 split
 ·rename_i el hu
  split
  ·rename_i sz z ds hz hze hp
   cases hc:(isD z&&Nat.beq (ql z).length sz&&Nat.beq ds.length len&&Nat.ble len 65536&&Nat.ble (len*sz) 65536&&ds.all (fun d=>Nat.beq (ql d).length sz)&&ds.all ones) with
   |false=>trivial
   |true =>
    simp only[Bool.and_eq_true,List.all_eq_true]at hc
    obtain⟨⟨⟨⟨⟨⟨h1,h2⟩,h3⟩,h40⟩,h4⟩,h5⟩,h11⟩:=hc
    have h2:=qq.1 h2
    have h3:=qq.1 h3
    have h4:=Nat.le_of_ble_eq_true h4
    have h40:=Nat.le_of_ble_eq_true h40
    obtain⟨vs,h6,h7⟩:=yd e _ 0 ds hp
    obtain⟨zv,h8,h9⟩:=j8 hze h1 w
    have hzs:zv.cells.size=sz:=by have:=(h9 g).cells.length;simp at this;omega
    have hvl:vs.length=len:=by rw[h7.length];exact h3
    have hvs:∀v∈vs,v.cells.size=sz:=by
     intro v hv
     obtain⟨k,hk,rfl⟩:=List.getElem_of_mem hv
     have hdk:k<ds.length:=by rw[<-h7.length];exact hk
     obtain⟨v',hv',hr⟩:=h7.get k ds[k] (List.getElem?_eq_getElem hdk)
     rw[List.getElem?_eq_getElem hk]at hv';cases hv'
     have:=hr.cells.length
     have h10:=qq.1 (h5 _ (List.getElem_mem hdk))
     simp at this;omega
    let base:Array Value:=(Array.range (len*sz)).map (zv.cells[· % zv.cells.size]!)
    have hbs:base.size=len*sz:=by simp[base]
    obtain⟨out,f1,f2,_,f4⟩:=iz sz vs 0 base hvs (by rw[hbs,hvl];simp)
    have hrun:(execOp a.eval o).run P w = .ok (.value (.slice (some ⟨w.heap.size,0,none⟩) len len)) (w.alloc (.cells out el (0,0))):=by
     have hpl:(parts.map fun(i,x)=>(i,a.eval x)).toList=parts.toList.map fun(q:Nat×Operand)=>(q.1,a.eval q.2):=by simp
     have hle:¬(len*sz > 2^24):=by omega
     simp only[execOp,ho,Instr.buildSlice,Sem.run_bind,run_underlying hu,Result.andThen_ok,jo hz]
     rw[if_neg hle]
     have hfill:Instr.fill (fun i=>some (i*sz,sz)) base (parts.map fun(i,x)=>(i,a.eval x)).toList=some out:=by rw[hpl,h6];exact f1
     by_cases h0:len*sz=0
     ·have hb0:base=(Array.range (len*sz)).map fun i=>(#[]:Array Value)[i % (#[]:Array Value).size]! :=by simp[base,h0]
      rw[hb0]at hfill
      rw[if_pos h0]
      simp only[Result.andThen_ok,Sem.run_bind,Sem.run_pure,hfill]
      simp[newRow]
     ·rw[if_neg h0]
      simp only[Result.andThen_ok,Sem.run_bind,Sem.run_pure,h8]
      have:Instr.fill (fun i=>some (i*sz,sz)) ((Array.range (len*sz)).map fun x=>zv.cells[x % zv.cells.size]!) (parts.map fun(i,x)=>(i,a.eval x)).toList=some out:=hfill
      simp only[this]
      simp[newRow]
    have hx:=Ext.addBlock r.inv out el
    refine⟨DOk.ofD rfl,⟨_,_,_,.inl hrun,hx,?_⟩⟩
    have:=R.newList r.inv (T:=el) h7 hvs (cells:=out) (by simpa using f4) h11 (by rw[hvl];unfold q8;omega) (cap:=vs.length) (Nat.le_refl _) .full (.inr ⟨rfl,rfl⟩)
    rw[hvl]at this
    refine RS0.ofR ?_
    cases hs:(Nat.blt 0 ds.length&&ds.all qal) with
    |false=>exact this
    |true =>
     simp only[Bool.and_eq_true,List.all_eq_true]at hs
     have hg:∀i,i<len->strL ds i=zf ds i:=fun i hi=>by
      have hd:i<ds.length:=by omega
      have h1:zf ds i=ds[i]:=by simp[zf,hd]
      have h2:=hs.2 ds[i] (List.getElem_mem hd)
      rw[h1]
      simp only[strL,List.getD,List.getElem?_map,List.getElem?_eq_getElem hd,Option.map_some,Option.getD_some]
      cases hx:ds[i] <;> rw[hx]at h2 <;> first|rfl|cases h2
     simp only[cond_true]
     simp only[R]at this⊢
     obtain⟨q1,a1,cap1,q2,q3,q4,q5⟩:=this
     exact⟨q1,a1,cap1,q2,q3,q4,fun i hi=>by rw[hg i hi];exact q5 i hi⟩
  ·trivial
 ·trivial
end
structure Turn0(b:Nat)(w w':World):Prop where
 os:w'.os=w.os
 tape:w'.tape=w.tape
 output:w'.output=w.output
 size:w'.heap.size=w.heap.size
 other:∀k,k≠b->w'.heap[k]? = w.heap[k]?
structure Turn(b:Nat)(w w':World):Prop extends Turn0 b w w' where
 defs:DefsKept w w'
theorem Turn.kept{b:Nat}{w w':World}(t:Turn b w w'){U:Nat->Prop}(h:¬U b):Kept U w w' :=
 ⟨t.os,t.tape,t.output,by rw[t.size];exact Nat.le_refl _,fun k hk=>t.other k fun e=>h (e▸hk),t.defs⟩
theorem qcn(w:World)(b:Nat)(cs:Array Value):DefsKept w (w.setRow b cs):=fun k e=>by
 by_cases hk:k=b
 ·subst hk
  simp only[World.setRow]
  rw[Array.getElem?_modify,if_pos rfl,e];rfl
 ·rw[setRow_other w b k cs hk];exact e
theorem jm(w:World)(b:Nat)(cs:Array Value):Turn b w (w.setRow b cs) :=
 ⟨⟨rfl,rfl,rfl,size_setRow _ _ _,fun k hk=>setRow_other w b k cs hk⟩,qcn w b cs⟩
theorem RowB.setRow{w:World}{b:Nat}{vals:Array Value}{T:Nat}(h:RowB w b vals T)(arr:Array Value)(hs:arr.size=vals.size):RowB (w.setRow b arr) b arr T:=by
 obtain⟨fz,h1,h2⟩:=h
 exact⟨fz,setRow_heap w b vals arr T fz h1,fun j hj=>h2 j (by omega)⟩
theorem uo{P:Program}(g o:Nat)(t:Nat)(fz:Nat×Nat):∀(vs:List Value) (i:Nat) (cur:Array Value) (w:World),w.heap[g]? = some (.cells cur t fz)->qre fz cur.size->o+i+vs.length<=cur.size->(∀v∈vs,v.oneCell'=true)->
  (storeCells ⟨g,o,none⟩ vs i).run P w = .ok () (w.setRow g (cur.toList.take (o+i)++vs++cur.toList.drop (o+i+vs.length)).toArray)
 | [],i,cur,w,hg,_,_,_=>by
  simp only[storeCells,List.append_nil,List.length_nil,Nat.add_zero,List.take_append_drop,Array.toArray_toList]
  rw[setRow_self w g cur t fz hg]
  rfl
 |v::rest,i,cur,w,hg,hz,hl,h1=>by
  have hi:o+i<cur.size:=by simp at hl;omega
  have hadd:(⟨g,o,none⟩:Addr).add i=⟨g,o+i,none⟩:=by unfold Addr.add;split <;> simp_all
  have hcell:w.cell? ⟨g,o+i,none⟩=some cur[o+i]:=by simp[World.cell?,hg,hi]
  have hfro:w.frozen? ⟨g,o+i,none⟩=false:=by
   have:=hz (o+i) hi
   simp[World.frozen?,hg]
   omega
  have hst:(store ((⟨g,o,none⟩:Addr).add i) v).run P w = .ok () (w.setRow g (cur.setIfInBounds (o+i) v)):=by
   rw[hadd,run_store P w _ v _ (h1 v (by simp)),hcell]
   simp[hfro,setCell_eq_setRow w g (o+i) cur t fz v hg]
  have ih:=uo (P:=P) g o t fz rest (i+1) (cur.setIfInBounds (o+i) v) (w.setRow g (cur.setIfInBounds (o+i) v)) (setRow_heap w g cur _ t _ hg) (by simpa using hz) (by simp at hl⊢;omega) (fun x hx=>h1 x (by simp[hx]))
  simp only[storeCells,Sem.run_bind,hst,Result.andThen_ok,ih,setRow_setRow]
  congr 3
  have e:=list_seg_step cur.toList (o+i) v rest (by simp at hl⊢;omega)
  simpa[Array.toList_setIfInBounds,Nat.add_assoc] using e
theorem RowB.store{P:Program}{w:World}{b:Nat}{vals:Array Value}{T:Nat}(h:RowB w b vals T)(o:Nat)(vs:List Value)(i:Nat)(hl:o+i+vs.length<=vals.size)(h1:∀v∈vs,v.oneCell'=true) :
  (storeCells ⟨b,o,none⟩ vs i).run P w = .ok () (w.setRow b (vals.toList.take (o+i)++vs++vals.toList.drop (o+i+vs.length)).toArray):=by
 obtain⟨fz,h2,h3⟩:=h
 exact uo b o T fz vs i vals w h2 h3 hl h1
theorem cell?_of_heap{w w':World}{x:Addr}(h:w'.heap[x.block]? = w.heap[x.block]?):w'.cell? x=w.cell? x:=by simp[World.cell?,h]
theorem Inv.turn[Lay]{g:G}{U:Nat->Prop}{h:Heap}{w w':World}{b:Nat}(i:Inv g U h w)(t:Turn0 b w w')(h2:∀a v,g.σ a=some v->a.block≠b)(h3:∀l,h.box l≠none->g.μ l≠some b)
  (h4:∀t n k,h.hw t=some n->g.τ t=some k->gq k (h.vw t)->k.a≠some ⟨b,0,none⟩):Inv g U h w' where
 sub a v e:=⟨(cell?_of_heap (t.other _ (h2 a v e))).trans (i.sub a v e).1,(i.sub a v e).2⟩
 ub b hb:=by rw[t.size];exact i.ub b hb
 muLt l b e:=by rw[t.size];exact i.muLt l b e
 box l row e:=by
  obtain⟨b',e1,e2,e3,e4⟩:=i.box l row e
  have:b'≠b:=fun hb=>by subst hb;exact h3 l (by rw[e];simp) e1
  exact⟨b',e1,e2.mono (G.le.refl g) (t.other _ this),e3,e4⟩
 boxInj:=i.boxInj
 tok t' n e:=by
  obtain⟨k,e1,e2,e3⟩:=i.tok t' n e
  refine⟨k,e1,e2,fun hk=> ?_⟩
  obtain⟨b',f1,f2,T,vals,f3,f4,f5⟩:=e3 hk
  have:b'≠b:=fun hb=>by subst hb;exact h4 t' n k e e1 hk f1
  exact⟨b',f1,f2,T,vals,f3.congr (t.other _ this),f4,f5⟩
 tokBox:=i.tokBox
 tokInj:=i.tokInj
 frL:=i.frL
 frT:=i.frT
 frV:=i.frV
 ltab:=i.ltab.turn (G.le.refl g) fun a v e=>t.other _ (h2 a v e)
theorem cells_of_cell?{w:World}{a:Addr}{v:Value}(h:w.cell? a=some v):∃vals T z,w.heap[a.block]? = some (.cells vals T z):=by
 unfold World.cell? at h
 split at h
 ·rename_i hb;exact⟨_,_,_,hb⟩
 ·cases h
theorem Inv.noCells[Lay]{g:G}{U:Nat->Prop}{h:Heap}{w w':World}{b:Nat}(i:Inv g U h w)(t:Turn0 b w w')(hnc:∀vals T z,w.heap[b]? ≠some (.cells vals T z))(hrow:∀l,h.box l≠none->g.μ l≠some b):Inv g U h w' :=
 i.turn t (fun a v e hb=>by obtain⟨vals,T,z,hc⟩:=cells_of_cell? (i.sub a v e).1;rw[hb]at hc;exact hnc _ _ _ hc) hrow fun t n k e1 e2 e3 e4=>by
  obtain⟨k',f1,f2,f3⟩:=i.tok t n e1
  rw[e2]at f1;cases f1
  obtain⟨b',c1,_,T,vals,c2,_⟩:=f3 e3
  rw[e4]at c1;cases c1
  obtain⟨_,c2,_⟩:=c2
  exact hnc _ _ _ c2
theorem Rel.noCells[Lay]{n:Nat}{g:G}{β:Nat->Nat}{U:Nat->Prop}{y:Nat->Bool->Prop}{st:St}{a:Act}{w:World}(r:Rel n g β U y st a w){b:Nat}{w':World}{ds:List Deferred}(t:Turn0 b w w')(hnc:∀vals T z,w.heap[b]? ≠some (.cells vals T z))(hrow:∀l,st.h.box l≠none->g.μ l≠some b)(hd:DefOk U ds w') :
  Rel n g β U y st {a with defers:=ds} w':=by
 refine⟨hd,r.size,r.keys,r.slot,r.base,fun s cs h=> ?_,r.ownInj,r.inv.noCells t hnc hrow⟩
 obtain⟨h1,h2⟩:=r.own s cs h
 refine⟨?_,h2⟩
 obtain⟨T,vals,e1,e2⟩:=h1
 exact⟨T,vals,(t.other _ fun hb=>hnc _ _ _ (hb▸e1)).trans e1,e2⟩
theorem y0(w:World)(b:Nat)(o:Obj):Turn0 b w (w.putObj b o):=⟨rfl,rfl,rfl,World.putObj_size,fun _ hk=>World.putObj_heap_other hk⟩
def setOwn(sl:qu)(s:Nat)(cs:List D):qu:=sl.map fun(x:Nat×D)=>bif Nat.beq x.1 s then(s,D.own cs) else x
theorem tl(sl:qu)(s:Nat)(cs:List D):(setOwn sl s cs).map (·.1)=sl.map (·.1):=by
 simp only[setOwn,List.map_map]
 apply List.map_congr_left
 intro x _
 simp only[Function.comp]
 cases hb:Nat.beq x.1 s with
 |true=>exact(qq.1 hb).symm
 |false=>rfl
theorem qy:∀(sl:qu) (s:Nat) (cs:List D) (t:Nat),t≠s->qo (setOwn sl s cs) t=qo sl t
 | [],_,_,_,_=>rfl
 |(u,d)::r,s,cs,t,h=>by
  have ih:=qy r s cs t h
  simp only[setOwn,List.map_cons]at ih⊢
  cases hb:Nat.beq u s with
  |true =>
   have:=qq.1 hb;subst this
   simp only[cond_true,qo,xn.2 (Ne.symm h),cond_false]
   exact ih
  |false =>
   simp only[cond_false,qo]
   cases Nat.beq u t with
   |true=>rfl
   |false=>exact ih
theorem jj:∀(sl:qu) (s:Nat) (cs:List D) {d:D},qo sl s=some d->qo (setOwn sl s cs) s=some (.own cs)
 | [],_,_,_,h=>by cases h
 |(u,d)::r,s,cs,d',h=>by
  simp only[setOwn,List.map_cons]
  cases hb:Nat.beq u s with
  |true=>simp only[cond_true,qo,Nat.beq_refl]
  |false =>
   simp only[cond_false,qo,hb]
   simp only[qo,hb,cond_false]at h
   exact jj r s cs h
theorem i7{α:Type}(f:Nat->α){k:Nat}{v:α}(h:f k=v):upd f k v=f:=by
 funext i
 by_cases hx:i=k
 ·subst hx;rw[qb,h]
 ·rw[qd _ _ hx]
def qav(g:G)(t:Nat)(k:Tok):G:={g with τ:=upd g.τ t (some k)}
def qgg(h:Heap)(t m nt:Nat)(f:Nat->D):Heap:={h with hw:=upd h.hw t (some m),nt:=nt,vw:=upd h.vw t (some f)}
theorem u0{g:G}{t:Nat}{k:Tok}(hle:∀k0,g.τ t=some k0->k.sz=k0.sz/\k0.n<=k.n/\(k0.n=k.n->k=k0)):G.le g (qav g t k) :=
 ⟨fun _ _ e=>e,fun _ _ e=>e,fun t' k0 e=>by
  by_cases hx:t'=t
  ·subst hx;exact⟨k,by simp[qav,qb],hle k0 e⟩
  ·exact⟨k0,by simp only[qav,qd _ _ hx];exact e,rfl,Nat.le_refl _,fun _=>rfl⟩⟩
structure qjv(g:G)(β:Nat->Nat)(st:St)(t b:Nat):Prop where
 σ:∀x v,g.σ x=some v->x.block≠b
 μ:∀l,st.h.box l≠none->g.μ l≠some b
 own:∀s cs,qo st.sl s=some (.own cs)->β s≠b
 tok:∀t' m k,t'≠t->st.h.hw t'=some m->g.τ t'=some k->gq k (st.h.vw t')->k.a≠some ⟨b,0,none⟩
section
variable {P:Program} {n:Nat} {g:G} {β:Nat->Nat} {U:Nat->Prop} {y:Nat->Bool->Prop} {st:St} {a:Act} {w:World}
theorem Rel.vecTo[Lay](r:Rel n g β U y st a w){t nt:Nat}{k:Tok}{f:Nat->D}{w':World}(ht:t<nt)(hnt:st.h.nt<=nt)(hle:∀k0,g.τ t=some k0->k.sz=k0.sz/\k0.n<=k.n/\(k0.n=k.n->k=k0))
  (hdef:DefsKept w w') (hsize:w.heap.size<=w'.heap.size) (hkeep:∀c,c<w.heap.size->(∀b,0<k.cap->k.a=some ⟨b,0,none⟩->c≠b)->w'.heap[c]? = w.heap[c]?)
  (hact:0<k.cap->∃b T vals,k.a=some ⟨b,0,none⟩/\¬U b/\RowB w' b vals T/\(k.cap*k.sz<=vals.size/\T=k.ty)/\k.n<=k.cap /\
   (∀i,i<k.n->∃u,R g (f i) u/\(u.cells.size=k.sz/\ones (f i)=true)/\∀j,j<k.sz->vals[i*k.sz+j]? = u.cells[j]?)/\qjv g β st t b) :
  Rel n (qav g t k) β U y {st with h:=qgg st.h t k.n nt f} a w':=by
 have le:=u0 hle
 have i:=r.inv
 have free:∀b,0<k.cap->k.a=some ⟨b,0,none⟩->qjv g β st t b:=fun b h1 h2=>by
  obtain⟨b',_,_,e1,_,_,_,_,_,e2⟩:=hact h1
  rw[e1]at h2;cases h2;exact e2
 have tokOld:∀{t':Nat} {k':Tok},t'≠t->(qav g t k).τ t'=some k'->g.τ t'=some k':=fun hx e=>by simpa only[qav,qd _ _ hx] using e
 have hwOld:∀{t' m':Nat},t'≠t->(qgg st.h t k.n nt f).hw t'=some m'->st.h.hw t'=some m':=fun hx e=>by simpa only[qgg,qd _ _ hx] using e
 have vwOld:∀{t':Nat},t'≠t->(qgg st.h t k.n nt f).vw t'=st.h.vw t':=fun hx=>by simp only[qgg,qd _ _ hx]
 have tokT:∀{k':Tok},(qav g t k).τ t=some k'->k'=k:=fun e=>by simp only[qav,qb,Option.some.injEq]at e;exact e.symm
 have actT:gq k ((qgg st.h t k.n nt f).vw t)->0<k.cap:=fun e=>by
  simp only[qgg,qb]at e;exact e
 refine⟨r.defers.kept hdef,r.size,r.keys,fun s d h=>(r.slot s d h).mono le,r.base,fun s cs h=> ?_,r.ownInj,?_⟩
 ·obtain⟨h1,h2,h3,h4,h5⟩:=r.own s cs h
  refine⟨h1.mono le (hkeep _ h1.lt fun b e1 e2=>(free b e1 e2).own s cs h),h2,h3,h4,fun t' m' k' e1 e2 e3 e4=> ?_⟩
  by_cases hx:t'=t
  ·subst hx
   have:=tokT e2;subst this
   exact(free _ (actT e3) e4).own s cs h rfl
  ·rw[vwOld hx]at e3
   exact h5 t' m' k' (hwOld hx e1) (tokOld hx e2) e3 e4
 ·refine⟨fun x v e=> ?_,fun c hc=>Nat.lt_of_lt_of_le (i.ub c hc) hsize,fun l c e=>Nat.lt_of_lt_of_le (i.muLt l c e) hsize,fun l row e=> ?_,i.boxInj,fun t' m' e=> ?_,fun t' m' k' c l e1 e2 e3 e4 e5=> ?_,fun t1 t2 m1 m2 k1 k2 c e1 e2 f1 f2 g1 g2 c1 c2=> ?_,i.frL,fun t' ht'=> ?_,fun t' ht'=> ?_,i.ltab.turn le fun x v e=>hkeep _ (i.cellLt e) fun b h1 h2=>(free b h1 h2).σ x v e⟩
  ·have e':g.σ x=some v:=e
   exact⟨(cell?_of_heap (hkeep _ (i.cellLt e') fun b h1 h2=>(free b h1 h2).σ x v e')).trans (i.sub x v e').1,(i.sub x v e').2⟩
  ·have e':st.h.box l=some row:=e
   obtain⟨c,e1,e2,e3,e4⟩:=i.box l row e'
   exact⟨c,e1,e2.mono le (hkeep _ e2.lt fun b h1 h2 hc=>(free b h1 h2).μ l (by rw[e'];simp) (by rw[e1,hc])),e3,e4⟩
  ·by_cases hx:t'=t
   ·subst hx
    have e':upd st.h.hw t' (some k.n) t'=some m':=e
    rw[qb]at e';cases e'
    refine⟨k,by simp[qav,qb],rfl,fun hk=> ?_⟩
    obtain⟨b,T,vals,c1,c2,c3,c4,c5,c6,c7⟩:=hact (actT hk)
    refine⟨b,c1,c2,T,vals,c3,c4,fun j _=> ?_,fun get hg=> ?_⟩
    ·cases hs:(qav g t' k).σ ⟨b,j,none⟩ with
     |none=>rfl
     |some v=>exact absurd rfl (c7.σ _ v hs)
    ·simp only[qgg,qb,Option.some.injEq]at hg
     subst hg
     exact⟨c5,fun q hq=>by obtain⟨u,h1,h2⟩:=c6 q hq;exact⟨u,R.mono le _ _ h1,h2⟩⟩
   ·obtain⟨k',f1,f2,f3⟩:=i.tok t' m' (hwOld hx e)
    refine⟨k',by simp only[qav,qd _ _ hx];exact f1,f2,fun hk=> ?_⟩
    rw[vwOld hx]at hk⊢
    refine(f3 hk).mono le fun c h1 h2=>⟨hkeep _ h2 fun b h3 h4 hc=> ?_,fun _ h=>h⟩
    subst hc
    exact(free c h3 h4).tok t' m' k' hx (hwOld hx e) f1 hk h1
  ·by_cases hx:t'=t
   ·subst hx
    have:=tokT e2;subst this
    exact(free c (actT e3) e4).μ l e5
   ·rw[vwOld hx]at e3
    exact i.tokBox t' m' k' c l (hwOld hx e1) (tokOld hx e2) e3 e4 e5
  ·by_cases hx1:t1=t
   ·by_cases hx2:t2=t
    ·rw[hx1,hx2]
    ·subst hx1
     have:=tokT f1;subst this
     rw[vwOld hx2]at g2
     exact absurd c2 ((free c (actT g1) c1).tok t2 m2 k2 hx2 (hwOld hx2 e2) (tokOld hx2 f2) g2)
   ·by_cases hx2:t2=t
    ·subst hx2
     have:=tokT f2;subst this
     rw[vwOld hx1]at g1
     exact absurd c1 ((free c (actT g2) c2).tok t1 m1 k1 hx1 (hwOld hx1 e1) (tokOld hx1 f1) g1)
    ·rw[vwOld hx1]at g1
     rw[vwOld hx2]at g2
     exact i.tokInj t1 t2 m1 m2 k1 k2 c (hwOld hx1 e1) (hwOld hx2 e2) (tokOld hx1 f1) (tokOld hx2 f2) g1 g2 c1 c2
  ·have ht'':nt<=t':=ht'
   simp only[qav]
   rw[qd _ _ (by omega)]
   exact i.frT t' (by omega)
  ·have ht'':nt<=t':=ht'
   show upd st.h.vw t (some f) t'=none
   rw[qd _ _ (by omega)]
   exact i.frV t' (by omega)
theorem Rel.ntLt[Lay](r:Rel n g β U y st a w){t:Nat}{k:Tok}(hk:g.τ t=some k):t<st.h.nt:=by
 rcases Nat.lt_or_ge t st.h.nt with h|h
 ·exact h
 ·rw[r.inv.frT t h]at hk;cases hk
theorem Rel.freeOld[Lay](r:Rel n g β U y st a w){t b m:Nat}{k:Tok}{f:Nat->D}(hv:st.h.vw t=some f)(hn:st.h.hw t=some m)(hk:g.τ t=some k)(hc:0<k.cap)(ha:k.a=some ⟨b,0,none⟩):qjv g β st t b where
 σ x v e hx:=by
  obtain⟨k',e1,_,e3⟩:=r.inv.tok t m hn
  rw[hk]at e1;cases e1
  rw[hv]at e3
  obtain⟨b',c1,_,_,_,_,_,c5,_⟩:=e3 hc
  rw[ha]at c1;cases c1
  have hs:=(r.inv.sub x v e).2
  have:x=⟨b,x.off,none⟩:=by cases x;simp_all
  rw[this,c5 x.off (by simp[sd])]at e;cases e
 μ l hl:=r.inv.tokBox t m k b l hn hk (by rw[hv];exact hc) ha hl
 own s cs h e:=(r.own s cs h).2.2.2.2 t m k hn hk (by rw[hv];exact hc) (by rw[ha,e])
 tok t' m' k' hx h1 h2 h3 h4:=hx (r.inv.tokInj t' t m' m k' k b h1 hn h2 hk h3 (by rw[hv];exact hc) h4 ha)
theorem Rel.freeNew[Lay](r:Rel n g β U y st a w)(t:Nat){b:Nat}(hb:w.heap.size<=b):qjv g β st t b where
 σ x v e hx:=by have:=r.inv.cellLt e;omega
 μ l _ e:=by have:=r.inv.muLt l b e;omega
 own s cs h e:=by have:=(r.own s cs h).1.lt;omega
 tok t' m' k' _ h1 h2 h3 h4:=by
  obtain⟨k0,e1,_,e3⟩:=r.inv.tok t' m' h1
  rw[h2]at e1;cases e1
  obtain⟨b',c1,c2,_⟩:=(e3 h3).blockLt
  rw[h4]at c1;cases c1;omega
end
section
variable {P:Program} {n:Nat} {g:G} {β:Nat->Nat} {U:Nat->Prop} {y:Nat->Bool->Prop} {st:St} {a:Act} {w:World} {ev:Operand->D} {o:Oper}
theorem Rel.setOwn[Lay](r:Rel n g β U y st a w){s:Nat}{cs cs':List D}(hs:qo st.sl s=some (.own cs)){arr:Array Value}(ha:Rs g cs' arr.toList) :
  Rel n g β U y {st with sl:=Ab.setOwn st.sl s cs' } a (w.setRow (β s) arr):=by
 obtain⟨⟨T,vals,hb,_⟩,h2,h3,h4,h5⟩:=r.own s cs hs
 have t:=jm w (β s) arr
 refine⟨r.defers.kept t.defs,r.size,by rw[tl];exact r.keys,fun u d h=> ?_,fun u d v h hl hu=> ?_,fun u c h=> ?_,fun u u' c c' h h' e=> ?_,r.inv.turn t.toTurn0 h3 h4 h5⟩
 ·by_cases hx:u=s
  ·subst hx
   rw[jj _ _ _ hs]at h;cases h
   have h9:=r.slot u _ hs
   simp only[RS]at h9⊢
   exact h9
  ·rw[qy _ _ _ _ hx]at h
   exact r.slot u d h
 ·have hu':qo st.sl u=some d:=by
   by_cases hx:u=s
   ·subst hx
    rw[jj _ _ _ hs]at h;cases h;cases hu
   ·rw[qy _ _ _ _ hx]at h;exact h
  obtain⟨c,hc⟩:=r.base u d v hu' hl hu
  by_cases hx:v=s
  ·subst hx;exact⟨_,jj _ _ _ hc⟩
  ·exact⟨c,by rw[qy _ _ _ _ hx];exact hc⟩
 ·by_cases hx:u=s
  ·subst hx
   rw[jj _ _ _ hs]at h;cases h
   exact⟨⟨T,arr,setRow_heap w _ vals arr T (0,0) hb,ha⟩,h2,h3,h4,h5⟩
  ·rw[qy _ _ _ _ hx]at h
   obtain⟨g1,g2⟩:=r.own u c h
   have hne:β u≠β s:=fun e=>hx (r.ownInj u s _ _ h hs e)
   exact⟨g1.mono (G.le.refl g) (t.other _ hne),g2⟩
 ·have key:∀v c,qo (Ab.setOwn st.sl s cs') v=some (.own c)->∃c',qo st.sl v=some (.own c'):=fun v c hv=>by
   by_cases hx:v=s
   ·subst hx;exact⟨_,hs⟩
   ·rw[qy _ _ _ _ hx]at hv;exact⟨_,hv⟩
  obtain⟨d,hd⟩:=key u c h
  obtain⟨d',hd'⟩:=key u' c' h'
  exact r.ownInj u u' d d' hd hd' e
theorem Rel.setBoxO[Lay](r:Rel n g β U y st a w){l b:Nat}{row row':Row}(hl:st.h.box l=some row)(hb:g.μ l=some b){w':World}(t:Turn b w w')(ha:RowAt g w' b row') :
  Rel n g β U y {st with h:={st.h with box:=upd st.h.box l (some row')}} a w':=by
 obtain⟨b',e1,_,e3,e4⟩:=r.inv.box l row hl
 rw[hb]at e1;cases e1
 have hlive:∀l',(upd st.h.box l (some row')) l'≠none->st.h.box l'≠none:=fun l' h=>by
  by_cases hx:l'=l
  ·subst hx;rw[hl];simp
  ·rw[qd _ _ hx]at h;exact h
 refine⟨r.defers.kept t.defs,r.size,r.keys,r.slot,r.base,fun u c h=> ?_,r.ownInj,?_⟩
 ·obtain⟨h1,h2,h3,h4,h5⟩:=r.own u c h
  have hne:β u≠b:=fun e=>h4 l (by rw[hl];simp) (by rw[hb,e])
  exact⟨h1.mono (G.le.refl g) (t.other _ hne),h2,h3,fun l' hl'=>h4 l' (hlive l' hl'),h5⟩
 ·have i:=r.inv
  refine⟨fun x v e=>⟨(cell?_of_heap (t.other _ (e4 x v e))).trans (i.sub x v e).1,(i.sub x v e).2⟩,fun c hc=>by rw[t.size];exact i.ub c hc,fun l' c e=>by rw[t.size];exact i.muLt l' c e,fun l' row'' e=> ?_,fun l' l'' c e e'=>i.boxInj l' l'' c (hlive l' e) (hlive l'' e'),
   fun t' m e=> ?_,fun t' m k c l' e1 e2 e3 e4 e5=>i.tokBox t' m k c l' e1 e2 e3 e4 (hlive l' e5),i.tokInj,i.frL,i.frT,i.frV,i.ltab.turn (G.le.refl g) fun a v e=>t.other _ (e4 a v e)⟩
  ·have e':upd st.h.box l (some row') l'=some row'':=e
   by_cases hx:l'=l
   ·subst hx
    simp only[qb,Option.some.injEq]at e'
    subst e'
    exact⟨b,hb,ha,e3,e4⟩
   ·rw[qd _ _ hx]at e'
    obtain⟨c,f1,f2,f3,f4⟩:=i.box l' row'' e'
    have hne:c≠b:=fun hc=>hx (i.boxInj l' l b (by rw[e'];simp) (by rw[hl];simp) (by rw[f1,hc]) hb)
    exact⟨c,f1,f2.mono (G.le.refl g) (t.other _ hne),f3,f4⟩
  ·obtain⟨k,f1,f2,f3⟩:=i.tok t' m e
   refine⟨k,f1,f2,fun hk=>(f3 hk).mono (G.le.refl g) fun c h1 _=>⟨t.other _ fun hc=> ?_,fun _ h=>h⟩⟩
   subst hc;exact i.tokBox t' m k c l e f1 hk h1 (by rw[hl];simp) hb
theorem Rel.setBox[Lay](r:Rel n g β U y st a w){l b:Nat}{row row':Row}(hl:st.h.box l=some row)(hb:g.μ l=some b){arr:Array Value}{T:Nat}(ha:RowOf g T arr row'){vals:Array Value}(e2:w.heap[b]? = some (.cells vals T (0,0))) :
  Rel n g β U y {st with h:={st.h with box:=upd st.h.box l (some row')}} a (w.setRow b arr) :=
 r.setBoxO hl hb (jm w b arr) (RowAt.of (setRow_heap w _ vals arr T (0,0) e2) ha)
theorem py {d : D} {v : Value} (h : R g d v) (h1 : qce d = true) : v.oneCell' = true := by
  cases d <;> first
    | exact Bool.noConfusion (show false = true from h1)
    | (simp only [R] at h; done)
    | (simp only [R] at h
       first
         | (subst h; rfl)
         | (obtain ⟨rfl, _⟩ := h; rfl)
         | (obtain ⟨_, _, _, rfl, _⟩ := h; rfl)
         | (obtain ⟨_, _, rfl, _⟩ := h; rfl)
         | (obtain ⟨_, _, rfl⟩ := h; rfl)
         | (obtain ⟨_, _, _, _, rfl, _⟩ := h; rfl)
         | (obtain ⟨_, rfl, _⟩ := h; rfl))
theorem we{t m:Nat}{x z:Operand}(ho:o.op = .store t x z){b off:Nat}(hx:a.eval x = .pointer (some ⟨b,off,none⟩))(hz:ya P t=some m){d:D}(hd:R g d (a.eval z))(hl:(ql d).length=m)
  (h1:(ql d).all qce=true) {vals:Array Value} {T:Nat} (hb:RowB w b vals T) (hin:off+m<=vals.size) :
  (execOp a.eval o).run P w = .ok .skip (w.setRow b (vals.toList.take off++(a.eval z).cells.toList++vals.toList.drop (off+m)).toArray):=by
 have hc:=hd.cells
 have hcl:(a.eval z).cells.toList.length=m:=by rw[hc.length,hl]
 have h1c:∀v∈(a.eval z).cells.toList,v.oneCell'=true:=by
  intro v hv
  obtain⟨k,hk,rfl⟩:=List.getElem_of_mem hv
  have hdk:k<(ql d).length:=by rw[<-hc.length];exact hk
  obtain⟨v',hv',hr⟩:=hc.get k _ (List.getElem?_eq_getElem hdk)
  rw[List.getElem?_eq_getElem hk]at hv';cases hv'
  exact py hr (List.all_eq_true.1 h1 _ (List.getElem_mem hdk))
 have hst:=hb.store (P:=P) off (a.eval z).cells.toList 0 (by rw[hcl];omega) h1c
 simp only[Nat.add_zero,hcl]at hst
 have hsz:(a.eval z).cells.size=m:=by simpa using hcl
 simp only[execOp,ho,Instr.storeAt,hx,Instr.sureAddr,storeVar,Sem.run_bind,Sem.run_pure,Result.andThen_ok,jo hz,hsz]
 rw[if_neg (by simp)]
 simp only[hst,Result.andThen_ok]
theorem pz{α:Type}(l zs:List α)(off p:Nat)(h:off+zs.length<=l.length):(l.take off++zs++l.drop (off+zs.length))[p]? = if p<off then l[p]? else if p<off+zs.length then zs[p-off]? else l[p]? :=by
 have h1:(l.take off).length=off:=by simp;omega
 rw[List.append_assoc]
 split
 ·rename_i hp
  rw[List.getElem?_append_left (by omega),List.getElem?_take,if_pos hp]
 ·rename_i hp
  rw[List.getElem?_append_right (by omega),h1]
  split
  ·rename_i hq
   rw[List.getElem?_append_left (by omega)]
  ·rename_i hq
   rw[List.getElem?_append_right (by omega),List.getElem?_drop]
   congr 1;omega
theorem qjw {sz j m : Nat} {old v : D} {u vz : Value} (h : R g old u) (hs : u.cells.size = sz) (h1 : ones old = true) (hz : R g v vz) (hzl : (ql v).length = m) (hz1 : (ql v).all qce = true) (hj : j + m <= sz) :
    ∃ u', R g (az sz old j v) u' /\ (u'.cells.size = sz /\ ones (az sz old j v) = true) /\ u'.cells.toList = u.cells.toList.take j ++ vz.cells.toList ++ u.cells.toList.drop (j + vz.cells.toList.length) := by
  have hvl : vz.cells.toList.length = m := by rw [hz.cells.length, hzl]
  have hol : (ql old).length = sz := by have := h.cells.length; simp at this; omega
  unfold az
  cases hb : (Nat.beq j 0 && Nat.beq (ql v).length sz) with
  | true =>
    simp only [Bool.and_eq_true] at hb
    have hj0 := qq.1 hb.1
    have hms := qq.1 hb.2
    simp only [cond_true]
    refine ⟨vz, hz, ⟨by have : vz.cells.size = m := by simpa using hvl
                        omega, hz1⟩, ?_⟩
    rw [hj0, List.take_zero, List.nil_append, List.drop_of_length_le (by simp; simp at hvl; omega), List.append_nil]
  | false =>
    simp only [cond_false]
    refine ⟨.agg (u.cells.toList.take j ++ vz.cells.toList ++ u.cells.toList.drop (j + vz.cells.toList.length)).toArray, ?_, ⟨?_, ?_⟩, by simp [Value.cells]⟩
    · simp only [R, wv]
      refine ⟨_, rfl, ?_⟩
      rw [hvl, hzl]
      exact ((h.cells.take j).append hz.cells).append (h.cells.drop _)
    · have h9 : u.cells.toList.length = sz := by simpa using hs
      show (u.cells.toList.take j ++ vz.cells.toList ++ u.cells.toList.drop (j + vz.cells.toList.length)).toArray.size = sz
      simp only [List.size_toArray, List.length_append, List.length_take, List.length_drop]
      omega
    · unfold ones at h1 ⊢
      simp only [ql, wv, List.all_append, Bool.and_eq_true]
      rw [List.all_eq_true] at h1
      exact ⟨⟨List.all_eq_true.2 fun x hx => h1 x (List.mem_of_mem_take hx), hz1⟩, List.all_eq_true.2 fun x hx => h1 x (List.mem_of_mem_drop hx)⟩
theorem wg:R g (.tup []) undef:=by simp only[R];exact⟨[],rfl,rfl⟩
theorem qjx[Lay](r:Rel n g β U y st a w)(e:Ev g β st.sl a ev){t:Nat}{x z:Operand}(ho:o.op = .store t x z):j6 P n g β U y st a w o (xa P st t (ev x) (ev z)):=by
 unfold xa
 split
 ·rename_i m hz hd
  cases hc:(Nat.beq (ql (ev z)).length m&&(ql (ev z)).all qce) with
  |false=>trivial
  |true =>
   simp only[Bool.and_eq_true]at hc
   have hl:=qq.1 hc.1
   have hdz:=e.data hd
   have hvl:(a.eval z).cells.toList.length=m:=by rw[hdz.cells.length,hl]
   simp only[cond_true]
   split
   ·rename_i s off hx
    split
    ·rename_i cs hcs
     cases hin:Nat.ble (off+m) cs.length with
     |false=>trivial
     |true =>
      simp only[cond_true]
      intro _
      have hin:=Nat.le_of_ble_eq_true hin
      have h0:=e.ok x (by rw[hx];simp)
      rw[hx]at h0
      simp only[RS0]at h0
      have hlk:=bq hcs
      obtain⟨⟨T,vals,hb,hs⟩,hU,_⟩:=r.own s cs hlk
      have hsl:vals.size=cs.length:=by have:=hs.length;simpa using this
      have hrun:=we ho h0 hz hdz hl hc.2 (RowB.of hb) (by omega)
      refine⟨undef,_,g,.inr ⟨hrun,rfl⟩,Rel.setOwn r hlk ?_,Grow.refl U g,(jm w _ _).kept hU,RS0.ofR wg,rfl⟩
      simp only[wv,hl]
      exact((hs.take off).append hdz.cells).append (hs.drop _)
    ·trivial
   ·rename_i l off hx
    split
    ·rename_i row hrow
     split
     ·rename_i p row' hst
      intro hp
      have h0:=e.data (x:=x) (by rw[hx];rfl)
      rw[hx]at h0
      simp only[R]at h0
      obtain⟨b,h1,h2⟩:=h0
      obtain⟨b',h3,h3r,hU,_⟩:=r.inv.box l row hrow
      rw[h1]at h3;cases h3
      cases row with
      |loop _ _=>exact absurd hst (by simp[yu])
      |map _ _ _=>exact absurd hst (by simp[yu])
      |litT T cs =>
       obtain⟨vals,hb,hs⟩:=h3r
       simp only[yu]at hst
       cases hin:Nat.ble (off+(ql (ev z)).length) cs.length with
       |false=>rw[hin]at hst;cases hst
       |true =>
        rw[hin]at hst
        simp only[cond_true,Option.some.injEq,Prod.mk.injEq]at hst
        obtain⟨rfl,rfl⟩:=hst
        have hin:=Nat.le_of_ble_eq_true hin
        have hs:Rs g cs vals.toList:=hs
        have hsl:vals.size=cs.length:=by have:=hs.length;simpa using this
        have hrun:=we ho h2 hz hdz hl hc.2 (RowB.of hb) (by omega)
        refine⟨undef,_,g,.inr ⟨hrun,rfl⟩,Rel.setBox r hrow h1 (row':= .litT T (wv cs off (ql (ev z)))) ?_ hb,Grow.refl U g,(jm w _ _).kept hU,RS0.ofR wg,rfl⟩
        refine⟨rfl,?_⟩
        simp only[wv,hl]
        exact((hs.take off).append hdz.cells).append (hs.drop _)
      |lit cs =>
       obtain⟨T,vals,hb,hs⟩:=h3r
       simp only[yu]at hst
       cases hin:Nat.ble (off+(ql (ev z)).length) cs.length with
       |false=>rw[hin]at hst;cases hst
       |true =>
        rw[hin]at hst
        simp only[cond_true,Option.some.injEq,Prod.mk.injEq]at hst
        obtain⟨rfl,rfl⟩:=hst
        have hin:=Nat.le_of_ble_eq_true hin
        have hs:Rs g cs vals.toList:=hs
        have hsl:vals.size=cs.length:=by have:=hs.length;simpa using this
        have hrun:=we ho h2 hz hdz hl hc.2 (RowB.of hb) (by omega)
        refine⟨undef,_,g,.inr ⟨hrun,rfl⟩,Rel.setBox r hrow h1 (row':= .lit (wv cs off (ql (ev z)))) ?_ hb,Grow.refl U g,(jm w _ _).kept hU,RS0.ofR wg,rfl⟩
        show Rs g _ _
        simp only[wv,hl]
        exact((hs.take off).append hdz.cells).append (hs.drop _)
      |arr k get =>
       obtain⟨T,vals,hb,hs⟩:=h3r
       simp only[yu,Option.some.injEq,Prod.mk.injEq]at hst
       obtain⟨rfl,rfl⟩:=hst
       have hs:k<=vals.size/\∀i,i<k->∃v,vals[i]? = some v/\R g (get i) v:=hs
       have hrun:=we ho h2 hz hdz hl hc.2 (RowB.of hb) (by omega)
       refine⟨undef,_,g,.inr ⟨hrun,rfl⟩,Rel.setBox r hrow h1 (row':= .arr k _) ?_ hb,Grow.refl U g,(jm w _ _).kept hU,RS0.ofR wg,rfl⟩
       have hlt:(vals.toList.take off).length=off:=by simp;omega
       have hvl':(a.eval z).cells.size=m:=by simpa using hvl
       refine⟨by simp only[List.size_toArray,List.length_append,hlt,hvl,List.length_drop,Array.length_toList];omega,fun i hi=> ?_⟩
       by_cases h4:off<=i/\i<off+m
       ·have hdl:i-off<(ql (ev z)).length:=by omega
        obtain⟨v,hv,hr⟩:=hdz.cells.get (i-off) _ (List.getElem?_eq_getElem hdl)
        refine⟨v,?_,?_⟩
        ·rw[List.getElem?_toArray,List.append_assoc,List.getElem?_append_right (by omega),hlt,List.getElem?_append_left (by omega)]
         exact hv
        ·have hb1:Nat.ble off i=true:=Nat.ble_eq_true_of_le h4.1
         have hb2:Nat.blt i (off+(ql (ev z)).length)=true:=by rw[hl];exact Nat.ble_eq_true_of_le h4.2
         simp only[hb1,hb2,Bool.and_self,cond_true]
         rw[List.getD_eq_getElem?_getD,List.getElem?_eq_getElem hdl];exact hr
       ·have hb:(Nat.ble off i&&Nat.blt i (off+(ql (ev z)).length))=false:=by
         cases hx1:Nat.ble off i with
         |false=>rfl
         |true =>
          cases hx2:Nat.blt i (off+(ql (ev z)).length) with
          |false=>rfl
          |true =>
           have:=Nat.le_of_ble_eq_true hx1
           have hx2':i+1<=off+(ql (ev z)).length:=Nat.le_of_ble_eq_true hx2
           omega
        obtain⟨v,hv,hr⟩:=hs.2 i hi
        refine⟨v,?_,by simp only[hb,cond_false];exact hr⟩
        rw[<-hv]
        rw[List.getElem?_toArray]
        by_cases h5:i<off
        ·rw[List.append_assoc,List.getElem?_append_left (by omega),List.getElem?_take,if_pos h5];simp
        ·rw[List.getElem?_append_right (by simp only[List.length_append,hlt,hvl];omega),List.getElem?_drop]
         simp only[List.length_append,hlt,hvl,Array.getElem?_toList]
         congr 1;omega
     ·trivial
    ·trivial
   ·rename_i t' n' q sz j hx
    split
    ·rename_i f hv
     cases hin:Nat.ble (j+m) sz with
     |false=>trivial
     |true =>
      simp only[cond_true]
      intro hn
      have hin:=Nat.le_of_ble_eq_true hin
      have h0:=e.data (x:=x) (by rw[hx];rfl)
      rw[hx]at h0
      obtain⟨b,k,u,T,vals,h1,h2,h3,h4,h5,h6,h7,h8,h9,h10,h11,h12⟩:=r.inv.vecCell hv hn h0
      have hcap:0<k.cap:=h11
      obtain⟨b',c1,c2,T',vals',c3,c4,c5,c6⟩:=h12
      rw[h10]at c1;cases c1
      obtain⟨rfl,rfl⟩:=h2.uniq c3
      obtain⟨c6a,c6b⟩:=c6 f rfl
      subst h8
      subst h7
      have hq1:(q+1)*k.sz<=vals.size:=Nat.le_trans (Nat.mul_le_mul_right _ (by omega)) c4.1
      rw[Nat.add_mul,Nat.one_mul]at hq1
      have hrun:=we ho h1 hz hdz hl hc.2 h2 (by omega)
      obtain⟨u',d1,d2,d3⟩:=qjw (j:=j) h3 h4.1 h4.2 hdz hl hc.2 hin
      have hst:({st with h:={st.h with vw:=upd st.h.vw t' (some (ny f q (az k.sz (f q) j (ev z))))}}:St)={st with h:=qgg st.h t' k.n st.h.nt (ny f q (az k.sz (f q) j (ev z)))}:=by
       simp only[qgg,i7 _ hn]
      have hgg:qav g t' k=g:=by simp only[qav,i7 _ h6]
      have har:∀p,(vals.toList.take (q*k.sz+j)++(a.eval z).cells.toList++vals.toList.drop (q*k.sz+j+m)).toArray[p]? = if p<q*k.sz+j then vals[p]? else if p<q*k.sz+j+m then(a.eval z).cells.toList[p-(q*k.sz+j)]? else vals[p]? :=fun p=>by
       have:=pz vals.toList (a.eval z).cells.toList (q*k.sz+j) p (by rw[hvl];simp;omega)
       rw[hvl]at this
       simpa using this
      have r1:=Rel.vecTo r (t:=t') (nt:=st.h.nt) (k:=k) (f:=ny f q (az k.sz (f q) j (ev z))) (w':=w.setRow b (vals.toList.take (q*k.sz+j)++(a.eval z).cells.toList++vals.toList.drop (q*k.sz+j+m)).toArray) (r.ntLt h6) (Nat.le_refl _) (fun k0 e=>by rw[h6]at e;cases e;exact⟨rfl,Nat.le_refl _,fun _=>rfl⟩) (jm w b _).defs
       (by rw[(jm w b _).size];exact Nat.le_refl _) (fun c hc hcb=>(jm w b _).other c (hcb b hcap h10)) (fun _=>⟨b,T,_,h10,c2,h2.setRow _ (by simp only[List.size_toArray,List.length_append,List.length_take,List.length_drop,Array.length_toList,hvl];have:=c4.1;omega),⟨by
        simp only[List.size_toArray,List.length_append,List.length_take,List.length_drop,Array.length_toList,hvl];have:=c4.1;omega,c4.2⟩,c6a,fun i hi=> ?_,r.freeOld hv hn h6 hcap h10⟩)
      ·rw[hst]
       rw[hgg]at r1
       exact⟨undef,_,g,.inr ⟨hrun,rfl⟩,r1,Grow.refl U g,(jm w _ _).kept c2,RS0.ofR wg,rfl⟩
      ·by_cases hiq:i=q
       ·subst hiq
        have hg:ny f i (az k.sz (f i) j (ev z)) i=az k.sz (f i) j (ev z):=by simp[ny]
        rw[hg]
        refine⟨u',d1,d2,fun p hp=> ?_⟩
        rw[har,<-Array.getElem?_toList (xs:=u'.cells),d3,pz _ _ _ _ (by rw[hvl];simp;omega),hvl]
        have h5p:=h5 p hp
        by_cases e1:p<j
        ·rw[if_pos (by omega),if_pos e1,h5p,Array.getElem?_toList]
        ·rw[if_neg (by omega),if_neg e1]
         by_cases e2:p<j+m
         ·rw[if_pos (by omega),if_pos e2];congr 1;omega
         ·rw[if_neg (by omega),if_neg e2,h5p,Array.getElem?_toList]
       ·have hg:ny f q (az k.sz (f q) j (ev z)) i=f i:=by simp[ny,xn.2 hiq]
        rw[hg]
        obtain⟨v,g1,g2,g3⟩:=c6b i hi
        refine⟨v,g1,g2,fun p hp=> ?_⟩
        rw[har,<-g3 p hp]
        rcases Nat.lt_or_gt_of_ne hiq with hlt|hlt
        ·have:(i+1)*k.sz<=q*k.sz:=Nat.mul_le_mul_right _ hlt
         rw[Nat.add_mul,Nat.one_mul]at this
         rw[if_pos (by omega)]
        ·have:(q+1)*k.sz<=i*k.sz:=Nat.mul_le_mul_right _ hlt
         rw[Nat.add_mul,Nat.one_mul]at this
         rw[if_neg (by omega),if_neg (by omega)]
    ·trivial
   ·trivial
 ·trivial
end
end Go.Ab
