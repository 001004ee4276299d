/- Comparing small sources: what Signals comes to; the plain law. -/
import Derived.Test.YtiekphbkomddfaaGreatDoorCSG6
import Derived.Lib.MakeNoZero
namespace Go.Proofs.YtiekphbkomddfaaGreatDoor.S1
open Go Go.Ab Go.Proofs
attribute [local instance] qda
def occ(l:List Chg)(u:Int):Prop:=∃x∈l,x.time=u
theorem qir(l:List Chg)(s:Int):(tmI l).any (inP s)=true↔(0<=s/\s<=1099511627776)/\occ l s:=by
 unfold tmI
 rw[(xe _).2]
 by_cases hs:0<=s/\s<=1099511627776
 ·rw[zb hs,List.any_map,List.any_eq_true]
  refine⟨fun⟨x,hx,h⟩=>⟨hs,x,hx,?_⟩,fun⟨_,x,hx,h⟩=>⟨x,hx,je.2 (by show x.time<=s/\s<=x.time;omega)⟩⟩
  have:x.time<=s/\s<=x.time:=je.1 h
  omega
 ·rw[uh hs];simp[hs]
theorem qqa(l:List Chg){q e:Int}(h0:0<=q)(h1:q<=1099511627776)(hE:0<=e/\e<=1099511627776)(s:Int) :
  (yp (tmI l) (qj .i64 0 q) q 0 e).any (inP s)=true↔(0<=s/\s<=e)/\∃u,(0<=u/\u<=1099511627776)/\occ l u/\s-q<=u/\u<=s+q:=by
 rw[jy (a:=0) (by omega) (by omega),(qex _ 0 e (by omega) (by omega) h1).2,qt1,show hiT e=e by unfold hiT;split <;> omega]
 refine and_congr_right fun hs=>⟨fun⟨u,h,g1,g2⟩=> ?_,fun⟨u,hu,h,g1,g2⟩=>⟨u,?_,by omega,by omega⟩⟩
 ·by_cases hu:0<=u/\u<=1099511627776
  ·rw[zb hu,qir]at h
   exact⟨u,hu,h.2,by omega,by omega⟩
  ·rw[uh hu]at h;cases h
 ·rw[zb hu,qir];exact⟨hu,h⟩
theorem qqb{x y:List Chg}{q e:Int}(h0:0<=q)(h1:q<=1099511627776)(hE:0<=e/\e<=1099511627776)(hx:∀u,occ x u->0<=u/\u<=e)(hy:∀u,occ y u->0<=u/\u<=e) :
  Nor 0 (evI q e x y)/\∀s,(evI q e x y).any (inP s)=true↔(occ x s/\¬ ∃u,occ y u/\s-q<=u/\u<=s+q)\/(occ y s/\¬ ∃u,occ x u/\s-q<=u/\u<=s+q):=by
 refine⟨(gh 0 _ _).1,fun s=> ?_⟩
 unfold evI
 have half:∀(a b:List Chg),(∀u,occ a u->0<=u/\u<=e)->(∀u,occ b u->0<=u/\u<=e)->(inI (cmR 2 (tmI a) (yp (tmI b) (qj .i64 0 q) q 0 e)) s=true↔occ a s/\¬ ∃u,occ b u/\s-q<=u/\u<=s+q):=fun a b ha hb=>by
  by_cases hs:0<=s/\s<=1099511627776
  ·rw[zb hs,(gh 2 _ _).2,decide_eq_true hs,Bool.true_and,zb hs,zb hs]
   have e2:∀p r,okR 2 p r=true↔p=true/\¬r=true:=fun p r=>by cases p <;> cases r <;> decide
   rw[e2,qir,qqa b h0 h1 hE]
   refine⟨fun⟨⟨_,g1⟩,g2⟩=>⟨g1,fun⟨u,k1,k2⟩=>g2 ⟨ha s g1,u,?_,k1,k2⟩⟩,fun⟨g1,g2⟩=>⟨⟨hs,g1⟩,fun⟨_,u,_,k1,k2⟩=>g2 ⟨u,k1,k2⟩⟩⟩
   have:=hb u k1
   omega
  ·rw[uh hs]
   refine⟨fun h=>(by cases h),fun⟨h,_⟩=>absurd ⟨(ha s h).1,by have:=(ha s h).2;omega⟩ hs⟩
 rw[(gh 0 _ _).2,Bool.and_eq_true,decide_eq_true_eq]
 have e0:∀p r,okR 0 p r=true↔p=true\/r=true:=fun p r=>by cases p <;> cases r <;> decide
 rw[e0,half x y hx hy,half y x hy hx]
 refine⟨fun h=>h.2,fun h=>⟨?_,h⟩⟩
 rcases h with h|h
 ·have:=hx s h.1;omega
 ·have:=hy s h.1;omega
theorem Nor.len:∀{l:List Iv} {lo e:Int},Nor lo l->(∀s,l.any (inP s)=true->s<=e)->lo<=e+1->(l.length:Int)<=e+1-lo
 | [],_,_,_,_,h=>by simp only[List.length_nil];omega
 | [x],lo,e,h,hb,_=>by
  obtain⟨h1,h2,h3,h4⟩:=h
  have:=hb x.to (by rw[List.any_cons,je.2 ⟨h2,Int.le_refl _⟩];rfl)
  simp only[List.length_cons,List.length_nil];omega
 |x::y::r,lo,e,h,hb,_=>by
  obtain⟨h1,h2,h3,h4⟩:=h
  have h5:=h4
  obtain⟨g1,g2,_,_⟩:=h4
  have hy:=hb y.to (by rw[List.any_cons,List.any_cons,je.2 ⟨g2,Int.le_refl _⟩];simp)
  have:=Nor.len h5 (fun s hs=>hb s (by rw[List.any_cons,hs,Bool.or_true])) (by omega)
  rw[List.length_cons,Int.natCast_add];omega
abbrev inS(w:Wv)(i:Int):Prop:=0<=i/\i<(w.sig.length:Int)
def qjk(v:Wv)(i en:Int):List Sp:=qhk (jd (qm v i) 0) (cut (qm v i).chg 0 en) 0 en
def gl(v w:Wv)(i k:Int)(t:Tol):List Iv :=
 if(qm v i).kind=3 then evI t.time (ka v w) (inR (qm v i).chg 0 (ka v w)) (inR (qm w k).chg 0 (ka v w))
 else spI (qm v i).kind t (qjk v i (ka v w)) (qjk w k (ka v w)) (ka v w)
def erF(v w:Wv)(i k:Int)(t:Tol):Int :=
 if yq t=false then 1 else if ¬(inS v i/\inS w k) then 2 else if(qm v i).kind≠(qm w k).kind then 7 else if(qm v i).width≠(qm w k).width then 8 else 0
def nA(v w:Wv)(i:Int):Int:=if(qm v i).kind=3 then 2 else 2+ofN v i 0 (ka v w)
def nB(v w:Wv)(k:Int):Int:=if(qm w k).kind=3 then 2 else 1+ofN w k 0 (ka v w)
theorem yr{t:Tol}(h:yq t=true):0<=t.time/\t.time<=1099511627776:=by
 unfold yq at h
 by_cases h1:t.time>=0
 ·by_cases h2:t.time<=1099511627776
  ·exact⟨h1,h2⟩
  ·rw[decide_eq_true h1,decide_eq_false h2]at h;cases h
 ·rw[decide_eq_false h1]at h;cases h
def dfP(v:Wv)(i:Int)(w:Wv)(k:Int)(t:Tol)(e s:Int):Prop :=
 (0<=s/\s<=e)/\
 (((qm v i).kind=3/\((occ (qm v i).chg s/\¬ ∃u,u<=e/\occ (qm w k).chg u/\s-t.time<=u/\u<=s+t.time)\/(occ (qm w k).chg s/\¬ ∃u,u<=e/\occ (qm v i).chg u/\s-t.time<=u/\u<=s+t.time))) \/
 ((qm v i).kind≠3/\saF (qm v i).kind t (jd (qm v i) s) (jd (qm w k) s)=false/\¬(co (qm v i).kind t (jd (qm w k)) (jd (qm v i) s) e s/\co (qm v i).kind t (jd (qm v i)) (jd (qm w k) s) e s)))
theorem cq{l:List Chg}{e:Int}(h:Inc (-1) l)(u:Int):occ (inR l 0 e) u↔occ l u/\u<=e:=by
 unfold occ inR
 constructor
 ·rintro⟨x,hx,rfl⟩
  rw[List.mem_filter,Bool.and_eq_true,decide_eq_true_eq,decide_eq_true_eq]at hx
  exact⟨⟨x,hx.1,rfl⟩,hx.2.2⟩
 ·rintro⟨⟨x,hx,rfl⟩,hu⟩
  have:=Inc.gt h x hx
  exact⟨x,by rw[List.mem_filter,Bool.and_eq_true,decide_eq_true_eq,decide_eq_true_eq];exact⟨hx,by omega,hu⟩,rfl⟩
theorem qb1{l:List Chg}(h:Inc (-1) l){u:Int}(hu:occ l u):0<=u:=by
 obtain⟨x,hx,rfl⟩:=hu
 have:=Inc.gt h x hx
 omega
theorem ap(v w:Wv):ka v w<=v.fin/\ka v w<=w.fin:=by unfold ka;split <;> omega
theorem aq{v w:Wv}(hv:SmOk v)(hw:SmOk w):0<=ka v w/\ka v w<=1099511627776:=by
 have:=hv.fin
 have:=hw.fin
 unfold ka;split <;> omega
theorem qn9{v:Wv}{i e:Int}(hi:inS v i)(hk:(qm v i).kind≠3)(h0:0<=e)(he:e<=v.fin):Ask v i 0 e:=⟨hi,hk,Int.le_refl _,h0,he⟩
theorem ar{k:Int}{t:Tol}{B C:Int->Str}{v:Str}{e s:Int}(h:∀u,0<=u->u<=e->B u=C u):co k t B v e s↔co k t C v e s:=by
 unfold co
 exact⟨fun⟨u,h1,h2,h3,h4,h5⟩=>⟨u,h1,h2,h3,h4,by rw[<-h u h1 h2];exact h5⟩,fun⟨u,h1,h2,h3,h4,h5⟩=>⟨u,h1,h2,h3,h4,by rw[h u h1 h2];exact h5⟩⟩
theorem uk{v w:Wv}(hv:SmOk v)(hw:SmOk w){i k:Int}{t:Tol}(h:erF v w i k t=0) :
  Nor 0 (gl v w i k t)/\∀s,(gl v w i k t).any (inP s)=true↔dfP v i w k t (ka v w) s:=by
 obtain⟨e1,e2⟩:=aq hv hw
 obtain⟨m1,m2⟩:=ap v w
 unfold erF at h
 split at h
 ·cases h
 rename_i ht
 split at h
 ·cases h
 rename_i hin
 have hin:=Classical.not_not.1 hin
 split at h
 ·cases h
 rename_i hk
 have hk:=Classical.not_not.1 hk
 obtain⟨t1,t2⟩:=yr (by simpa using ht)
 obtain⟨_,_,q1⟩:=hv.at hin.1
 obtain⟨_,_,q2⟩:=hw.at hin.2
 unfold gl dfP
 generalize ka v w=e at *
 by_cases h3:(qm v i).kind=3
 ·rw[if_pos h3]
  obtain⟨n1,n2⟩:=qqb (x:=inR (qm v i).chg 0 e) (y:=inR (qm w k).chg 0 e) t1 t2 ⟨e1,e2⟩ (fun u hu=>⟨qb1 q1 ((cq q1 u).1 hu).1,((cq q1 u).1 hu).2⟩) (fun u hu=>⟨qb1 q2 ((cq q2 u).1 hu).1,((cq q2 u).1 hu).2⟩)
  refine⟨n1,fun s=> ?_⟩
  rw[n2]
  simp only[cq q1,cq q2]
  constructor
  ·rintro(⟨⟨g1,g2⟩,g3⟩|⟨⟨g1,g2⟩,g3⟩)
   ·exact⟨⟨qb1 q1 g1,g2⟩,.inl ⟨h3,.inl ⟨g1,fun⟨u,k1,k2,k3⟩=>g3 ⟨u,⟨k2,k1⟩,k3⟩⟩⟩⟩
   ·exact⟨⟨qb1 q2 g1,g2⟩,.inl ⟨h3,.inr ⟨g1,fun⟨u,k1,k2,k3⟩=>g3 ⟨u,⟨k2,k1⟩,k3⟩⟩⟩⟩
  ·rintro⟨⟨s0,s1⟩,⟨_,(⟨g1,g2⟩|⟨g1,g2⟩)⟩|⟨hn,_⟩⟩
   ·exact .inl ⟨⟨g1,s1⟩,fun⟨u,⟨k1,k2⟩,k3⟩=>g2 ⟨u,k2,k1,k3⟩⟩
   ·exact .inr ⟨⟨g1,s1⟩,fun⟨u,⟨k1,k2⟩,k3⟩=>g2 ⟨u,k2,k1,k3⟩⟩
   ·exact absurd h3 hn
 ·rw[if_neg h3]
  have oa:=qq2 hv (qn9 hin.1 h3 e1 m1)
  have ob:=qq2 hw (qn9 hin.2 (by rw[<-hk];exact h3) e1 m2)
  obtain⟨n1,n2⟩:=qnn (k:=(qm v i).kind) (t:=t) oa.vl ob.vl oa.ne ob.ne oa.last ob.last t1 t2 e1
  refine⟨n1,fun s=> ?_⟩
  unfold qjk
  rw[n2]
  refine and_congr_right fun hs=> ?_
  rw[oa.at_ s hs.1 hs.2,ob.at_ s hs.1 hs.2,ar (fun u a b=>oa.at_ u a b),ar (fun u a b=>ob.at_ u a b)]
  exact⟨fun g=> .inr ⟨h3,g⟩,fun g=>(g.resolve_left fun g=>h3 g.1).2⟩
theorem neF{a b:Int}(h:a=b):(a !=b)=false:=by rw[h];exact bne_self_eq_false _
theorem neT{a b:Int}(h:a≠b):(a !=b)=true:=bne_iff_ne.2 h
abbrev lOk(l n:Int):Prop:=l<0\/n<=l
theorem cr{w:Wv}{l c i:Int}(h:inS w i)(h0:0<=c)(h1:c<=1000):jp w l c i=if lOk l (c+1) then 0 else 14:=by
 rw[qec h,qc3 h0 (by omega)]
 by_cases hl:lOk l (c+1)
 ·rw[if_pos hl,decide_eq_false (by omega)];rfl
 ·rw[if_neg hl,decide_eq_true (by omega)];rfl
theorem au{w:Wv}{l c i:Int}(h:inS w i)(h0:0<=c)(h1:c<=1000)(hl:lOk l (c+1)):qs w l c i=((qm w i).kind,(qm w i).width,0):=by
 unfold qs;rw[cr h h0 h1,if_pos hl,if_pos rfl]
theorem qdl{w:Wv}{l c i:Int}(h:inS w i)(h0:0<=c)(h1:c<=1000)(hl:¬lOk l (c+1)):qs w l c i=(0,0,14):=by
 unfold qs;rw[cr h h0 h1,if_neg hl,if_neg (by decide)]
theorem qmb{w:Wv}{l c i e:Int}(h:inS w i)(h0:0<=c)(h1:c<=1000)(he:0<=e/\e<=w.fin)(hl:lOk l (c+1)):gk w l c i 0 e=(inR (qm w i).chg 0 e,0):=by
 unfold gk;rw[cr h h0 h1,if_pos hl,if_neg (by decide),if_neg (by omega)]
theorem qmc{w:Wv}{l c i e:Int}(h:inS w i)(h0:0<=c)(h1:c<=1000)(hl:¬lOk l (c+1)):gk w l c i 0 e=([],14):=by
 unfold gk;rw[cr h h0 h1,if_neg hl,if_pos (by decide)]
theorem qk6{w:Wv}(hw:SmOk w){sig to lim c:Int}(a:Ask w sig 0 to)(h0:0<=c)(h1:c<=900) :
  (lOk lim (c+ofN w sig 0 to)->ofR w lim c sig 0 to=(qjk w sig to,0,c+ofN w sig 0 to))/\
  (¬lOk lim (c+ofN w sig 0 to)->(ofR w lim c sig 0 to).1=[]/\(ofR w lim c sig 0 to).2.1=14):=by
 obtain⟨hs,hk,g0,g1,g2⟩:=a
 obtain⟨q1,_,q3⟩:=hw.at hs
 have e1:qg .i64 c 1=c+1:=jk (by omega) (by omega)
 have e2:qg .i64 (c+1) 1=c+2:=by rw[jk (by omega) (by omega)];omega
 unfold ofR
 rw[if_neg (by omega),e1,cr hs h0 (by omega),cr (c:=c+1) hs (show 0<=c+1 by omega) (show c+1<=1000 by omega),e2]
 obtain⟨_,_,_,e3⟩:=q3.aft 0
 have hl:=qm8 (qm w sig).chg 0
 have ih:=qbn to lim (aft (qm w sig).chg 0) 0 (c+2) [⟨0,0,jd (qm w sig) 0⟩] e3 (by omega) (by omega)
 rw[qm7]at ih
 unfold ofN qjk
 refine⟨fun h=> ?_,fun h=> ?_⟩
 ·rw[if_pos (show lOk lim (c+1) by unfold lOk at *;omega),if_neg (by decide),if_neg hk,if_pos (show lOk lim (c+1+1) by unfold lOk at *;omega),if_neg (by decide)]
  simp only
  rw[ih.1 (by unfold lOk at *;omega)]
  simp only[ne_eq,not_true_eq_false,if_false]
  unfold qhk
  congr 2
  omega
 ·by_cases c1:lOk lim (c+1)
  ·rw[if_pos c1,if_neg (by decide),if_neg hk]
   by_cases c2:lOk lim (c+1+1)
   ·rw[if_pos c2,if_neg (by decide)]
    simp only
    have:=ih.2 (by unfold lOk at *;omega)
    rw[if_pos (by rw[this];decide)]
    exact⟨rfl,this⟩
   ·rw[if_neg c2,if_pos (by decide)];exact⟨rfl,rfl⟩
  ·rw[if_neg c1,if_pos (by decide)];exact⟨rfl,rfl⟩
theorem bf{v w:Wv}(hv:SmOk v)(hw:SmOk w)(h40:v.fin<=40){i k:Int}{t:Tol}(h:erF v w i k t=0):(gl v w i k t).length<=41:=by
 obtain⟨n1,n2⟩:=uk hv hw h
 have he:=(aq hv hw).1
 have hm:=(ap v w).1
 have:=n1.len (e:=ka v w) (fun s hs=>((n2 s).1 hs).1.2) (by omega)
 omega
theorem sk{v w:Wv}{i k:Int}{t:Tol}(h:erF v w i k t=0):yq t=true/\inS v i/\inS w k/\(qm v i).kind=(qm w k).kind/\(qm v i).width=(qm w k).width:=by
 unfold erF at h
 split at h
 ·cases h
 rename_i ht
 split at h
 ·cases h
 rename_i hin
 have hin:=Classical.not_not.1 hin
 split at h
 ·cases h
 rename_i hk
 split at h
 ·cases h
 rename_i hd
 exact⟨by simpa using ht,hin.1,hin.2,Classical.not_not.1 hk,Classical.not_not.1 hd⟩
theorem qe2{w:Wv}(i e:Int):3<=ofN w i 0 e:=by unfold ofN;omega
theorem qmd{w:Wv}(hw:SmOk w){i:Int}(e:Int)(hi:inS w i):ofN w i 0 e<=23:=by
 obtain⟨q1,_⟩:=hw.at hi
 have:(cut (qm w i).chg 0 e).length<=(qm w i).chg.length:=List.length_filter_le _ _
 unfold ofN;omega
theorem qb2{v w:Wv}(hv:SmOk v)(hw:SmOk w)(h40:v.fin<=40){i k:Int}{t:Tol}(h:erF v w i k t=0)(l m:Int) :
  (lOk l (nA v w i)/\lOk m (nB v w k)->sgR v l 0 w m 0 i k t=⟨gl v w i k t,0,nA v w i,nB v w k⟩)/\
  (¬(lOk l (nA v w i)/\lOk m (nB v w k))->(sgR v l 0 w m 0 i k t).out=[]/\(sgR v l 0 w m 0 i k t).err=14):=by
 obtain⟨ht,hi,hk,ek,ew⟩:=sk h
 obtain⟨e1,e2⟩:=aq hv hw
 obtain⟨m1,m2⟩:=ap v w
 have hol:=bf hv hw h40 h
 have oa:=qe2 (w:=v) i (ka v w)
 have ob:=qe2 (w:=w) k (ka v w)
 have pa:=qmd hv (ka v w) hi
 have pb:=qmd hw (ka v w) hk
 have a1:qg .i64 0 1=1:=rfl
 have hbad:∀(c d:Int),(⟨[],14,c,d⟩:Sg).out=[]/\(⟨[],14,c,d⟩:Sg).err=14:=fun _ _=>⟨rfl,rfl⟩
 have na:2<=nA v w i:=by unfold nA;split <;> omega
 have nb:2<=nB v w k:=by unfold nB;split <;> omega
 unfold sgR
 rw[ht,a1,show(!true)=false from rfl,cond_false]
 by_cases l1:lOk l (0+1)
 ·rw[au hi (by omega) (by omega) l1,show((0:Int)!=0)=false from rfl,cond_false]
  by_cases r1:lOk m (0+1)
  ·rw[au hk (by omega) (by omega) r1,show((0:Int)!=0)=false from rfl,cond_false]
   simp only
   rw[neF ek,neF ew,cond_false,cond_false,decide_eq_false (show ¬ka v w<0 by omega),cond_false]
   have fine:∀(c d:Int),sgE ⟨gl v w i k t,0,c,d⟩=⟨gl v w i k t,0,c,d⟩:=fun c d=>by
    unfold sgE
    rw[show((0:Int)!=0)=false from rfl,cond_false]
    simp only
    rw[decide_eq_false (by omega),cond_false]
   have bad:∀(x:Sg),x.err=14->(sgE x).out=[]/\(sgE x).err=14:=fun x hx=>by
    unfold sgE
    rw[hx,show((14:Int)!=0)=true from rfl,cond_true];exact⟨rfl,rfl⟩
   by_cases h3:(qm v i).kind=3
   ·have eA:nA v w i=2:=by unfold nA;rw[if_pos h3]
    have eB:nB v w k=2:=by unfold nB;rw[if_pos (by rw[<-ek];exact h3)]
    rw[eA,eB]
    have eO:gl v w i k t=evI t.time (ka v w) (inR (qm v i).chg 0 (ka v w)) (inR (qm w k).chg 0 (ka v w)):=by unfold gl;rw[if_pos h3]
    unfold sgV
    rw[h3,show((3:Int)==3)=true from rfl,cond_true]
    unfold evR
    by_cases l2:lOk l (1+1)
    ·rw[qmb hi (by omega) (by omega) ⟨e1,m1⟩ l2,show((0:Int)!=0)=false from rfl,cond_false]
     by_cases r2:lOk m (1+1)
     ·rw[qmb hk (by omega) (by omega) ⟨e1,m2⟩ r2,show((0:Int)!=0)=false from rfl,cond_false]
      simp only
      rw[<-eO,fine]
      exact⟨fun _=>rfl,fun hn=>absurd ⟨l2,r2⟩ hn⟩
     ·rw[qmc hk (by omega) (by omega) r2,show((14:Int)!=0)=true from rfl,cond_true]
      exact⟨fun hn=>absurd hn.2 r2,fun _=>bad _ rfl⟩
    ·rw[qmc hi (by omega) (by omega) l2,show((14:Int)!=0)=true from rfl,cond_true]
     exact⟨fun hn=>absurd hn.1 l2,fun _=>bad _ rfl⟩
   ·have hw3:(qm w k).kind≠3:=by rw[<-ek];exact h3
    have eA:nA v w i=1+ofN v i 0 (ka v w)+1:=by unfold nA;rw[if_neg h3];omega
    have eB:nB v w k=1+ofN w k 0 (ka v w):=by unfold nB;rw[if_neg hw3]
    rw[eA,eB]
    have eO:gl v w i k t=spI (qm v i).kind t (qjk v i (ka v w)) (qjk w k (ka v w)) (ka v w):=by unfold gl;rw[if_neg h3]
    unfold sgV
    rw[show((qm v i).kind==3)=false from beq_eq_false_iff_ne.2 h3,cond_false]
    unfold vaR
    obtain⟨y1,n1⟩:=qk6 hv (lim:=l) (c:=1) (qn9 hi h3 e1 m1) (by omega) (by omega)
    obtain⟨y2,n2⟩:=qk6 hw (lim:=m) (c:=1) (qn9 hk hw3 e1 m2) (by omega) (by omega)
    by_cases l2:lOk l (1+ofN v i 0 (ka v w))
    ·rw[y1 l2,show((0:Int)!=0)=false from rfl,cond_false]
     by_cases r2:lOk m (1+ofN w k 0 (ka v w))
     ·rw[y2 r2,show((0:Int)!=0)=false from rfl,cond_false]
      simp only
      by_cases l3:lOk l (1+ofN v i 0 (ka v w)+1)
      ·rw[au hi (by omega) (by omega) l3,show((0:Int)!=0)=false from rfl,cond_false]
       simp only
       rw[<-eO,fine,jk (by omega) (by omega)]
       exact⟨fun _=>rfl,fun hn=>absurd ⟨l3,r2⟩ hn⟩
      ·rw[qdl hi (by omega) (by omega) l3,show((14:Int)!=0)=true from rfl,cond_true]
       exact⟨fun hn=>absurd hn.1 l3,fun _=>bad _ rfl⟩
     ·rw[(n2 r2).2,show((14:Int)!=0)=true from rfl,cond_true]
      exact⟨fun hn=>absurd hn.2 r2,fun _=>bad _ rfl⟩
    ·rw[(n1 l2).2,show((14:Int)!=0)=true from rfl,cond_true]
     exact⟨fun hn=>absurd (show lOk l (1+ofN v i 0 (ka v w)) by have:=hn.1;unfold lOk at *;omega) l2,fun _=>bad _ rfl⟩
  ·rw[qdl hk (by omega) (by omega) r1,show((14:Int)!=0)=true from rfl,cond_true]
   exact⟨fun hn=>absurd hn.2 (by unfold lOk at *;omega),fun _=>hbad _ _⟩
 ·rw[qdl hi (by omega) (by omega) l1,show((14:Int)!=0)=true from rfl,cond_true]
  exact⟨fun hn=>absurd hn.1 (by unfold lOk at *;omega),fun _=>hbad _ _⟩
theorem qis{v w:Wv}{i k:Int}{t:Tol}(h:erF v w i k t≠0):(sgR v (-1) 0 w (-1) 0 i k t).out=[]/\(sgR v (-1) 0 w (-1) 0 i k t).err=erF v w i k t:=by
 have out:∀{u:Wv} {j:Int},¬inS u j->qs u (-1) 0 j=(0,0,2):=fun{u j} hj=>by
  have:jp u (-1) 0 j=2:=by
   unfold jp
   rw[show decide ((-1:Int)>=0)=false from rfl]
   simp only[cond_false]
   by_cases h1:j<0
   ·rw[decide_eq_true h1];rfl
   ·rw[decide_eq_false h1,decide_eq_true (show j>=(u.sig.length:Int) by unfold inS at hj;omega)];rfl
  unfold qs
  rw[this,if_neg (by decide)]
 unfold erF at *
 unfold sgR
 by_cases ht:yq t=false
 ·rw[if_pos ht,ht];exact⟨rfl,rfl⟩
 rw[if_neg ht]at h⊢
 rw[show yq t=true by simpa using ht,show(!true)=false from rfl,cond_false]
 by_cases hi:inS v i
 ·rw[au hi (by omega) (by omega) (.inl (by omega)),show((0:Int)!=0)=false from rfl,cond_false]
  by_cases hk:inS w k
  ·rw[au hk (by omega) (by omega) (.inl (by omega)),show((0:Int)!=0)=false from rfl,cond_false]
   rw[if_neg (not_not_intro ⟨hi,hk⟩)]at h⊢
   simp only
   by_cases c1:(qm v i).kind≠(qm w k).kind
   ·rw[if_pos c1,neT c1];exact⟨rfl,rfl⟩
   ·rw[if_neg c1]at h⊢
    rw[neF (Classical.not_not.1 c1),cond_false]
    by_cases c2:(qm v i).width≠(qm w k).width
    ·rw[if_pos c2,neT c2];exact⟨rfl,rfl⟩
    ·rw[if_neg c2]at h;exact absurd rfl h
  ·rw[out hk,if_pos (fun g=>hk g.2)];exact⟨rfl,rfl⟩
 ·rw[out hi,if_pos (fun g=>hi g.1)];exact⟨rfl,rfl⟩
theorem qqc{v w:Wv}(hv:SmOk v)(hw:SmOk w)(h40:v.fin<=40)(l m i k:Int):(qs v l 0 i).2.2=0->(qs w m 0 k).2.2=0->(qs v l 0 i).1=(qs w m 0 k).1->0<=ka v w->(qs v l 0 i).1≠3->(ofR v l (qg .i64 0 1) i 0 (ka v w)).2.1=0->(ofR w m (qg .i64 0 1) k 0 (ka v w)).2.1=0->qvh (ofR v l (qg .i64 0 1) i 0 (ka v w)).1 (ofR w m (qg .i64 0 1) k 0 (ka v w)).1:=by
 intro h1 h2 h3 h4 h5 h6 h7
 have hin:∀{u:Wv} {n j:Int},(qs u n 0 j).2.2=0->inS u j/\(qs u n 0 j).1=(qm u j).kind:=fun{u n j} hj=>by
  unfold qs at *
  by_cases hc:jp u n 0 j=0
  ·rw[if_pos hc]
   have:=p9 (w:=u) (lim:=n) (c:=0) (sig:=j) (by rw[hc];rfl)
   exact⟨⟨by omega,by omega⟩,rfl⟩
  ·rw[if_neg hc]at hj;exact absurd hj hc
 obtain⟨i1,i2⟩:=hin h1
 obtain⟨k1,k2⟩:=hin h2
 obtain⟨m1,m2⟩:=ap v w
 rw[i2]at h3 h5
 rw[k2]at h3
 have a1:qg .i64 0 1=1:=rfl
 rw[a1]at h6 h7⊢
 have aa:=qn9 i1 h5 h4 m1
 have ab:=qn9 k1 (by rw[<-h3];exact h5) h4 m2
 obtain⟨y1,n1⟩:=qk6 hv (lim:=l) (c:=1) aa (by omega) (by omega)
 obtain⟨y2,n2⟩:=qk6 hw (lim:=m) (c:=1) ab (by omega) (by omega)
 by_cases l2:lOk l (1+ofN v i 0 (ka v w))
 ·by_cases r2:lOk m (1+ofN w k 0 (ka v w))
  ·rw[y1 l2,y2 r2]
   have oa:=qq2 hv aa
   have ob:=qq2 hw ab
   obtain⟨z1,z2⟩:=qij oa.vl ob.vl oa.ne ob.ne oa.last ob.last (Int.le_refl 0) h4
   have:=z2.len (by omega)
   have h9:(rk (qjk v i (ka v w)) (qjk w k (ka v w))).length<=100:=by unfold qjk;omega
   exact⟨z1,oa.len,ob.len,h9⟩
  ·rw[(n2 r2).2]at h7;cases h7
 ·rw[(n1 l2).2]at h6;cases h6
theorem q4w:OkF 166 Tryz.f166:=⟨by kernel_rfl,by kernel_rfl,by kernel_rfl⟩
def qvi:List (List Nat×List Nat):=[]
noncomputable def qvj:List Nat->Nat->Option Ans:=qf []
theorem q4x(n:Int)(K:D->Prop):qn (En Tryz.f166) (fi Tryz.f166 K) (qvj ) qvi 200 [.code []] ⟨qc 0 [.int .u64 1,.int .u64 n],.empty⟩ =
 ((0:Int)<=32/\(0:Int)<=32/\(0:Int)<=32/\(0:Int)<=32/\(0:Int)<=32/\K (.tup [D.int IntKind.u64 (qg IntKind.u64 (qg IntKind.u64 (yt IntKind.u64 (ay IntKind.u64 1 32) (ay IntKind.u64 n 32)) (ay IntKind.u64 (qg IntKind.u64 (yt IntKind.u64 (ay IntKind.u64 1 32) (iv IntKind.u64 n 4294967295)) (ay IntKind.u64 (yt IntKind.u64 (iv IntKind.u64 1 4294967295) (iv IntKind.u64 n 4294967295)) 32)) 32)) (ay IntKind.u64 (qg IntKind.u64 (iv IntKind.u64 (qg IntKind.u64 (yt IntKind.u64 (ay IntKind.u64 1 32) (iv IntKind.u64 n 4294967295)) (ay IntKind.u64 (yt IntKind.u64 (iv IntKind.u64 1 4294967295) (iv IntKind.u64 n 4294967295)) 32)) 4294967295) (yt IntKind.u64 (iv IntKind.u64 1 4294967295) (ay IntKind.u64 n 32))) 32)),D.int IntKind.u64 (yt IntKind.u64 1 n)])):=by kernel_rfl
def sm(n:Int):Int:=qg .u64 (qg .u64 (yt .u64 (ay .u64 1 32) (ay .u64 n 32)) (ay .u64 (qg .u64 (yt .u64 (ay .u64 1 32) (iv .u64 n 4294967295)) (ay .u64 (yt .u64 (iv .u64 1 4294967295) (iv .u64 n 4294967295)) 32)) 32)) (ay .u64 (qg .u64 (iv .u64 (qg .u64 (yt .u64 (ay .u64 1 32) (iv .u64 n 4294967295)) (ay .u64 (yt .u64 (iv .u64 1 4294967295) (iv .u64 n 4294967295)) 32)) 4294967295) (yt .u64 (iv .u64 1 4294967295) (ay .u64 n 32))) 32)
theorem q4y:OkF 142 Tryz.f142:=⟨by kernel_rfl,by kernel_rfl,by kernel_rfl⟩
def qvk:List (List Nat×List Nat):=[]
noncomputable def qvl(n:Int):List Nat->Nat->Option Ans:=qf [([1,1,0],2,Ans.pure [D.int IntKind.u64 1,D.int IntKind.u64 n] (.tup [D.int IntKind.u64 (sm n),D.int IntKind.u64 (yt IntKind.u64 1 n)]))]
theorem q4z(n:Int)(K:D->Prop):qn (En Tryz.f142) (fi Tryz.f142 K) (qvl n) qvk 200 [.code []] ⟨qc 0 [.int .u64 1,.int .u64 n],.empty⟩ =
 (PQ PP 166 [D.int IntKind.u64 1,D.int IntKind.u64 n] (.tup [D.int IntKind.u64 (sm n),D.int IntKind.u64 (yt IntKind.u64 1 n)])/\K (.tup [D.int IntKind.u64 (sm n),D.int IntKind.u64 (yt IntKind.u64 1 n)])):=by kernel_rfl
theorem q40:OkF 122 Tryz.f122:=⟨by kernel_rfl,by kernel_rfl,by kernel_rfl⟩
def qnp:List (List Nat×List Nat):=[([1,1,1,1,1,1,1,1,1,0],[0,7,8]),([1,1,1,1,1,1,1,1,1,1,1,0,0],[7,8,9,10])]
noncomputable def q41(n:Int):List Nat->Nat->Option Ans:=qf [([1,1,1,0],5,Ans.pure [D.int IntKind.u64 1,D.int IntKind.u64 (IntKind.u64.wrap n)] (.tup [D.int IntKind.u64 (sm (IntKind.u64.wrap n)),D.int IntKind.u64 (yt IntKind.u64 1 (IntKind.u64.wrap n))]))]
theorem nRp(n:Int)(K:D->Heap->Prop):qn (En Tryz.f122) (fh Tryz.f122 K) (q41 n) qnp 200 [.code []] ⟨qc 0 [.list 1 1 (zf [.int .u8 48]) .full,I n],.empty⟩ =
 (bif n==0 then K (.list 0 1 (zf []) .full) Heap.empty else bif decide (n<0) then False else 1<=q8->PQ PP 142 [D.int IntKind.u64 1,D.int IntKind.u64 (IntKind.u64.wrap n)] (.tup [D.int IntKind.u64 (sm (IntKind.u64.wrap n)),D.int IntKind.u64 (yt IntKind.u64 1 (IntKind.u64.wrap n))])/\bif bif decide (sm (IntKind.u64.wrap n) > 0) then true else decide (yt IntKind.u64 1 (IntKind.u64.wrap n) > 9223372036854775807) then False else 1<=q8->bif decide (IntKind.i64.wrap (yt IntKind.u64 1 (IntKind.u64.wrap n)) > 8192) then 1<=q8->(↑1:Int)≠0/\(1<=q8->At (En Tryz.f122) (fh Tryz.f122 K) [It.code [1,1,1,1,1,1,1,1,1,0],It.code [1,1,1,1,1,1,1,1,1,1]] {sl:=[(0,.list 1 1 (zf [D.int IntKind.u8 48]) .full),(7,I (IntKind.i64.wrap (yt IntKind.u64 1 (IntKind.u64.wrap n)))),(8,I (yt .i64 (qb8 .i64 8192 (↑1:Int)) (↑1:Int)))],h:=Heap.empty:St}) else At (En Tryz.f122) (fh Tryz.f122 K) [It.code [1,1,1,1,1,1,1,1,1,0],It.code [1,1,1,1,1,1,1,1,1,1]] {sl:=[(0,.list 1 1 (zf [D.int IntKind.u8 48]) .full),(7,I (IntKind.i64.wrap (yt IntKind.u64 1 (IntKind.u64.wrap n)))),(8,I (IntKind.i64.wrap (yt IntKind.u64 1 (IntKind.u64.wrap n))))],h:=Heap.empty:St}):=by kernel_rfl
def hRp(n:Nat)(f:Nat->D):Heap:=⟨upd (fun _=>none) 0 (some (.arr n f)),1,fun _=>none,0,fun _=>none⟩
def SRp(n:Nat)(f:Nat->D)(c b:Int):St:=⟨[(7,I n),(8,I c),(9,.sl 0 0 n),(10,I b)],hRp n f⟩
noncomputable def qvm:List Nat->Nat->Option Ans:=qf []
theorem q42(n:Nat)(f:Nat->D)(c:Int)(K:D->Heap->Prop):qn (En Tryz.f122) (fh Tryz.f122 K) (qvm ) qnp 200 [.ops [1,1,1,1,1,1,1,1,1,0] 2,.code [1,1,1,1,1,1,1,1,1,1]] ⟨[(54,.sl 0 0 n),(53,I n),(0,.list 1 1 (zf [.int .u8 48]) .full),(7,I n),(8,I c)],hRp n f⟩ =
 (((0:Int)<=0/\0<=(↑n:Int)/\(↑n:Int)<=(↑n:Int)/\(↑n:Int)=(↑n:Int))/\(0+((↑n:Int).toNat-0)<=n/\∀(i:Nat),i<1->qce (zf [D.int IntKind.u8 48] i)=true)/\At (En Tryz.f122) (fh Tryz.f122 K) [It.code [1,1,1,1,1,1,1,1,1,1,1,0,0],It.blk 0,It.code [1,1,1,1,1,1,1,1,1,1,1,1]] {sl:=[(7,I (↑n:Int)),(8,I c),(9,D.sl 0 0 ((↑n:Int).toNat-0)),(10,I (↑(min 1 ((↑n:Int).toNat-0)):Int))],h:={box:=upd (upd (fun _=>none) 0 (some (Row.arr n f))) 0 (some (Row.arr n (g9 f 0 (min 1 ((↑n:Int).toNat-0)) (zf [D.int IntKind.u8 48])))),nl:=1,hw:=fun _=>none,nt:=0,vw:=fun _=>none:Heap}:St}):=by kernel_rfl
noncomputable def qvn:List Nat->Nat->Option Ans:=qf []
theorem q43(n:Nat)(f:Nat->D)(c b:Int)(J:St->Prop)(K:D->Heap->Prop):qn (En Tryz.f122) (fh Tryz.f122 K) (qvn ) qnp 200 [.code [1,1,1,1,1,1,1,1,1,1,1,0,0,0],stp [7,8,9,10] J,.blk 0,.code [1,1,1,1,1,1,1,1,1,1,1,1]] (SRp n f c b)=
 (bif decide (b<(↑n:Int)) then(0<=b/\b<=(↑n:Int))/\((0:Int)<=0/\(0<=if c<b then c else b)/\(if c<b then c else b)<=(↑n:Int))/\(0+b.toNat*1+(n-b.toNat)<=n/\0+((if c<b then c else b).toNat-0)<=n/\∀(i:Nat),i<(if c<b then c else b).toNat-0->qce (f (0+i))=true)/\J {sl:=[(7,I (↑n:Int)),(8,I c),(9,D.sl 0 0 n),(10,I (qg .i64 b (↑(min ((if c<b then c else b).toNat-0) (n-b.toNat)):Int)))],h:={box:=upd (upd (fun _=>none) 0 (some (Row.arr n f))) 0 (some (Row.arr n (g9 f (0+b.toNat*1) (min ((if c<b then c else b).toNat-0) (n-b.toNat)) (jx f 0)))),nl:=1,hw:=fun _=>none,nt:=0,vw:=fun _=>none:Heap}:St} else K (D.sl 0 0 n) {box:=upd (fun _=>none) 0 (some (Row.arr n f)),nl:=1,hw:=fun _=>none,nt:=0,vw:=fun _=>none:Heap}):=by kernel_rfl
def qqd:Option Code->Bool
 |some (.region _ _ false)=>true
 |_=>false
theorem qnq{E:Env}{fin:St->Prop}{p:List Nat}{td:List It}{st:St}(hs:qqd (sub E.root p)=true)(hok:yw E.nt (km E.root p)=true)
  (he:vj E.P E.cfg (CallE E.P) (CallY E.P) (PCall E.P) (km E.root p) (fun _=>false) (fun i st=>At E fin (.ops p i::td) st) 0 (km E.root p) ⟨xh st.sl,st.h⟩ (At E fin td)):At E fin (.code p::td) st:=by
 unfold qqd at hs
 split at hs
 ·rename_i id ops h
  have hops:km E.root p=ops.toList:=by simp[km,h]
  rw[hops]at hok he
  exact⟨_,h,lm (fun h=> .inr h) h (fun st h=>h.it) hok he⟩
 ·cases hs
theorem q44(n:Int):Pure PP 166 [.int .u64 1,.int .u64 n] (.tup [.int .u64 (sm n),.int .u64 (yt .u64 1 n)]) :=
 pu q4w (by kernel_rfl) (of_eq (q4x n _) ⟨by decide,by decide,by decide,by decide,by decide,Wk.refl _⟩)
theorem q45(n:Int):Pure PP 142 [.int .u64 1,.int .u64 n] (.tup [.int .u64 (sm n),.int .u64 (yt .u64 1 n)]) :=
 pu q4y (by kernel_rfl) (of_eq (q4z n _) ⟨PureW.mk (q44 n),Wk.refl _⟩)
theorem q46(n:Nat)(h:n<=1000):sm n=0/\yt .u64 1 n=n/\IntKind.u64.wrap n=n/\IntKind.i64.wrap n=n:=by
 have:∀n∈List.range 1001,sm (n:Int)=0/\yt .u64 1 (n:Int)=n/\IntKind.u64.wrap (n:Int)=n/\IntKind.i64.wrap (n:Int)=n:=by decide +kernel
 exact this n (List.mem_range.2 (by omega))
theorem qb3:∀(n t:Nat) (acc:Array Value),(∀v∈acc.toList,∃k:Int,v = .int .u8 k)->∀v∈(Extern.BytealgMakeNoZero.digits n t acc).toList,∃k:Int,v = .int .u8 k
 |0,_,_,h=>h
 |n+1,t,acc,h=>qb3 n (t / 256) _ fun v hv=>by
  rw[Array.toList_push,List.mem_append]at hv
  rcases hv with hv|hv
  ·exact h v hv
  ·exact⟨_,by simpa using hv⟩
theorem qnr{P:Program}(w:World)(ps:Array TypeId){t e:TypeId}(ht:P.underlying t=some (.slice e)){n:Nat}(hn:n<=281474976710656) :
  ∃m q,n<=m/\(Extern.BytealgMakeNoZero.makeNoZero ps #[t] #[.int .i64 n]).run P w = .ok (.slice (some ⟨w.heap.size,0,none⟩) n m) (w.drew.drew.alloc (.cells (Extern.BytealgMakeNoZero.digits m q #[]) e)):=by
 refine⟨grownCap w n 0 e,(Question.extern "internal/bytealg.MakeNoZero.bytes" 0).cut (w.tape (w.drawn+1) (.extern "internal/bytealg.MakeNoZero.bytes" 0)),by simpa using grownCap_ge w n 0 e,?_⟩
 have h1:¬(n:Int)<0:=by omega
 have h2:¬(281474976710656:Int)<(n:Int):=by omega
 rw[show Extern.BytealgMakeNoZero.makeNoZero ps #[t] #[.int .i64 n]=(underlying t >>= fun d=>_) from rfl]
 simp[run_underlying ht,h1,h2,Question.forced,newRow,Lib.size_digits,grownCap]
def qvo:Option Value->D
 |some (.int k n)=> .int k n
 |_=> .int .u8 0
theorem q47(n:Nat)(hn:n<=100000)(h:Heap)(K:D->Heap->Prop)(hK:∀f:Nat->D,K (.sl h.nl 0 n) {h with box:=upd h.box h.nl (some (.arr n f)),nl:=h.nl+1}):CallE PP 143 [I n] h K:=by
 refine⟨fun g U w vs i hs=> ?_⟩
 simp only[Rs,R]at hs
 obtain⟨v,_,rfl,rfl,rfl⟩:=hs
 obtain⟨m,q,hm,hr⟩:=qnr (P:=PP) w #[3] (t:=84) (e:=5) (by kernel_rfl) (n:=n) (by omega)
 have hrun:=run_callFunc_extern (P:=PP) (f:=143) (fn:=Tryz.f143) (by kernel_rfl) (by kernel_rfl) (by kernel_rfl) (by kernel_rfl) (e:=Extern.BytealgMakeNoZero.makeNoZero #[3] #[84]) (by kernel_rfl) #[.int .i64 n] w
 rw[hr]at hrun
 have hd:=qb3 m q #[] (by simp)
 have hsz:=Lib.size_digits m q #[]
 generalize Extern.BytealgMakeNoZero.digits m q #[]=cs at *
 have e1:=xd i
 have i1:=i.ext e1
 have e2:=xd i1
 have i2:=i1.ext e2
 have e3:=Ext.alloc i2 (.cells cs 5)
 have r2:Rel 0 g (fun _=>0) U noY ⟨[],h⟩ {tmps:= #[],defers:=[]} w.drew.drew:=⟨DefOk.nil U _,rfl,List.nodup_nil,fun _ _ h=>(by cases h),fun _ _ _ h=>(by cases h),fun _ _ h=>(by cases h),fun _ _ _ _ h=>(by cases h),i2⟩
 have r3:=r2.newBox (row:= .arr n fun j=>qvo cs[j]?) (vals:=cs) (T:=5) ⟨by simp at hsz;omega,fun j hj=>by
  have hj':j<cs.size:=by simp at hsz;omega
  obtain⟨k,hk⟩:=hd cs[j] (by simp)
  exact⟨_,Array.getElem?_eq_getElem hj',by show R g (qvo cs[j]?) cs[j];rw[Array.getElem?_eq_getElem hj',hk];simp only[qvo,R]⟩⟩
 refine⟨_,_,_,.sl h.nl 0 n,_,hrun,?_,r3.inv,Grow.sameσ (kh (i2.frL _ (Nat.le_refl _))) rfl,(e1.kept i.ub).trans ((e2.kept i1.ub).trans (e3.kept i2.ub)),hK _⟩
 simp only[R]
 exact⟨w.heap.size,qb _ _ _,_,_,rfl,hm,by unfold q8;omega,fun _=>rfl⟩
theorem qaa{f g:Nat->D}{o c i:Nat}(h1:o<=i)(h2:i<o+c):g9 f o c g i=g (i-o):=by
 unfold g9
 rw[Nat.ble_eq_true_of_le h1,show Nat.blt i (o+c)=true from Nat.ble_eq_true_of_le h2];rfl
theorem qe3{f g:Nat->D}{o c i:Nat}(h1:i<o):g9 f o c g i=f i:=by
 unfold g9
 rw[show Nat.ble o i=false by rw[<-Bool.not_eq_true,Nat.ble_eq];omega];rfl
theorem q48(n:Nat)(h1:1<=n)(h:n<=1000):Does PP 122 [.list 1 1 (zf [.int .u8 48]) .full,I n] .empty (.sl 0 0 n) (hRp n fun _=>qk 48):=by
 obtain⟨m1,m2,m3,m4⟩:=q46 n h
 refine du q40 (by kernel_rfl) (of_eq (nRp n _) (qa (fun h=> ?_) fun _=>qa (fun h=> ?_) fun _ _=>⟨PureW.mk (q45 _),qa (fun h=> ?_) fun _ _=>qa (fun h=> ?_) fun _=> ?_⟩))
 ·have:(n:Int)=0:=by simpa using h
  omega
 ·have:(n:Int)<0:=by simpa using h
  omega
 ·rw[m3,m1,m2]at h
  have:(n:Int) > 9223372036854775807:=by simpa using h
  omega
 ·rw[m3,m2,m4]at h
  have:(n:Int) > 8192:=by simpa using h
  omega
 ·rw[m3,m2,m4]
  refine qnq (by kernel_rfl) (by kernel_rfl) (of_eq (q:=CallE PP 143 [I n] .empty fun v h'=>At (En Tryz.f122) (fh Tryz.f122 fun d h''=>RetLe d h'' (.sl 0 0 n) (hRp n fun _=>qk 48)) [.ops [1,1,1,1,1,1,1,1,1,0] 2,.code [1,1,1,1,1,1,1,1,1,1]] ⟨j4 [(53,I n),(0,.list 1 1 (zf [.int .u8 48]) .full),(7,I n),(8,I n)] (some 54) v,h'⟩) (by kernel_rfl) (q47 n (by omega) _ _ fun f=> ?_))
  refine qe jv _ _ _ (of_eq (q42 n f n _) ⟨⟨by omega,by omega,by omega,rfl⟩,⟨by omega,fun i hi=>(by obtain rfl:i=0:=(by omega);rfl)⟩,?_⟩)
  rw[Int.toNat_natCast,Nat.sub_zero,q6]
  refine lp (fn:=Tryz.f122) (fun x:Nat×(Nat->D)=>1<=x.1/\x.1<=n/\∀i,i<x.1->x.2 i=qk 48) (fun x=>SRp n x.2 n x.1) (fun x=>n-x.1) [7,8,9,10] (by kernel_rfl) (fun x hx=>of_eq (q43 n x.2 n x.1 _ _) (qa (fun hlt=> ?_) fun hge=> ?_)) (min 1 n,g9 f 0 (min 1 n) (zf [.int .u8 48])) ⟨by omega,by omega,fun i hi=> ?_⟩
  ·obtain⟨b,f⟩:=x
   obtain⟨x1,x2,x3⟩:=hx
   simp only at x1 x2 x3 hlt⊢
   have hlt:=ltI hlt
   rw[if_neg (by omega),Int.toNat_natCast,Nat.sub_zero]
   refine⟨⟨by omega,by omega⟩,⟨by omega,by omega,by omega⟩,⟨by omega,by omega,fun i hi=> ?_⟩,Nx.of (b+min b (n-b),g9 f b (min b (n-b)) f) ⟨by simp only;omega,by simp only;omega,fun i hi=> ?_⟩ (by simp only;omega) ?_⟩
   ·rw[Nat.zero_add,x3 i hi];rfl
   ·simp only at hi⊢
    rcases Nat.lt_or_ge i b with hb|hb
    ·rw[qe3 hb];exact x3 i hb
    ·rw[qaa hb hi];exact x3 _ (by omega)
   ·rw[q6,Nat.zero_add,Nat.mul_one,qbg,jk (by omega) (by omega)]
    exact(StLe.refl _ _).cast (by kernel_rfl)
  ·obtain⟨b,f⟩:=x
   obtain⟨x1,x2,x3⟩:=hx
   simp only at x1 x2 x3 hge⊢
   have hge:=geI hge
   exact RetLe.of (Wk.refl _) (HeapLe.row (.arr fun i hi=>by rw[x3 i (by omega)];exact Wk.refl _))
  ·simp only at hi⊢
   rw[qaa (by omega) (by omega)]
   have:i=0:=by omega
   subst this;rfl
theorem q49(n:Int)(h1:1<=n)(h:n<=1000):Does PP 122 [.list 1 1 (zf [.int .u8 48]) .full,I n] .empty (.sl 0 0 n.toNat) (hRp n.toNat fun _=>qk 48):=by
 have:=q48 n.toNat (by omega) (by omega)
 rw[show((n.toNat:Nat):Int)=n by omega]at this
 exact this
theorem F70:OkF 70 Tryz.f70:=⟨by kernel_rfl,by kernel_rfl,by kernel_rfl⟩
def q5a:List (List Nat×List Nat):=[]
noncomputable def q5b(n:Int):List Nat->Nat->Option Ans:=qf [([1,0],2,Ans.eff (D.sl 0 0 n.toNat) (hRp n.toNat fun x=>qk 48))]
theorem nAl(x:Nm)(e n:Int)(K:D->Heap->Prop):qn (En Tryz.f70) (fh Tryz.f70 K) (q5b n) q5a 200 [.code []] ⟨qc 0 [x.d,I e,I n],.empty⟩ =
 (Does PP 122 [.list 1 1 (zf [D.int IntKind.u8 48]) .full,I n] Heap.empty (D.sl 0 0 n.toNat) (hRp n.toNat fun x=>qk 48)/\(List.length x.dig<=q8->(0<=qj .i64 (qj .i64 n (↑(List.length x.dig):Int)) (qj .i64 x.ex e)/\qj .i64 (qj .i64 n (↑(List.length x.dig):Int)) (qj .i64 x.ex e)<=(↑n.toNat:Int))/\(0+(qj .i64 (qj .i64 n (↑(List.length x.dig):Int)) (qj .i64 x.ex e)).toNat*1+(n.toNat-(qj .i64 (qj .i64 n (↑(List.length x.dig):Int)) (qj .i64 x.ex e)).toNat)<=n.toNat/\∀(i:Nat),i<List.length x.dig->qce (qk (List.getD x.dig i default))=true)/\K (D.sl 0 0 n.toNat) {box:=upd (upd (fun _=>none) 0 (some (Row.arr n.toNat fun x=>qk 48))) 0 (some (Row.arr n.toNat (g9 (fun x=>qk 48) (0+(qj .i64 (qj .i64 n (↑(List.length x.dig):Int)) (qj .i64 x.ex e)).toNat*1) (min (List.length x.dig) (n.toNat-(qj .i64 (qj .i64 n (↑(List.length x.dig):Int)) (qj .i64 x.ex e)).toNat)) fun i=>qk (List.getD x.dig i default)))),nl:=1,hw:=fun _=>none,nt:=0,vw:=fun _=>none:Heap})):=by kernel_rfl
theorem e70(x:Nm)(e n:Int)(h1:1<=n)(h:n<=1000)(he:e<=x.ex)(hl:x.dig.length+(x.ex-e).toNat<=n.toNat)(hx : -1000000<=e/\x.ex<=1000000) :
  Does PP 70 [x.d,I e,I n] .empty (.sl 0 0 n.toNat) (hRp n.toNat fun i=>qk ((zy x e n.toNat).getD i 0)):=by
 have e1:qj .i64 (qj .i64 n x.dig.length) (qj .i64 x.ex e)=((n.toNat-x.dig.length-(x.ex-e).toNat:Nat):Int):=by
  rw[jy (a:=n) (by omega) (by omega),jy (a:=x.ex) (by omega) (by omega),jy (by omega) (by omega)];omega
 refine du F70 (by kernel_rfl) (of_eq (nAl x e n _) ⟨q49 n h1 h,fun _=> ?_⟩)
 rw[e1,Int.toNat_natCast]
 refine⟨⟨by omega,by omega⟩,⟨by omega,fun i hi=>rfl⟩,?_⟩
 rw[q6]
 refine RetLe.of (Wk.refl _) (HeapLe.row (.arr fun i hi=>Wk.of_eq ?_))
 have hz:∀k j,(zs k).getD j 0=if j<k then 48 else 0:=fun k j=>by
  unfold zs
  rw[List.getD_eq_getElem?_getD,List.getElem?_replicate]
  split <;> rfl
 unfold zy
 generalize ho:n.toNat-x.dig.length-(x.ex-e).toNat=o
 generalize hk:(x.ex-e).toNat=k at *
 rw[List.getD_eq_getElem?_getD]
 rcases Nat.lt_or_ge i (0+o*1) with h2|h2
 ·rw[qe3 h2,List.getElem?_append_left (by rw[ko];omega),<-List.getD_eq_getElem?_getD,hz,if_pos (by omega)]
 ·rw[List.getElem?_append_right (by rw[ko];omega),ko]
  rcases Nat.lt_or_ge i (o+x.dig.length) with h3|h3
  ·rw[qaa h2 (by omega),List.getElem?_append_left (by omega),<-List.getD_eq_getElem?_getD]
   rw[show i-(0+o*1)=i-o by omega];rfl
  ·have hout:g9 (fun _=>qk 48) (0+o*1) (min x.dig.length (n.toNat-o)) (fun i=>qk (x.dig.getD i default)) i=qk 48:=by
    unfold g9
    rw[show Nat.blt i (0+o*1+min x.dig.length (n.toNat-o))=false by rw[<-Bool.not_eq_true,Nat.blt_eq];omega,Bool.and_false];rfl
   rw[hout,List.getElem?_append_right (by omega),<-List.getD_eq_getElem?_getD,hz,if_pos (by omega)]
theorem qb4(c:UInt8):qfg (qk c)=c:=by
 show UInt8.ofNat ((c.toNat:Int)).toNat=c
 rw[Int.toNat_natCast,UInt8.ofNat_toNat]
theorem eTr(ng:Bool)(N:Nat)(F:Nat->D)(e:Int)(hF:∀i,i<N->F i=qk (qfg (F i)))(hl:N<=1000000)(h1 : -1000000000<=e)(h2:e<=1000000000) :
  Does PP 71 [.agg [B ng,.sl 0 0 N,I e]] ⟨upd (fun _=>none) 0 (some (.arr N F)),1,fun _=>none,0,fun _=>none⟩ (qx ⟨ng,qp N F,e⟩).d ⟨fun _=>none,1,fun _=>none,0,fun _=>none⟩:=by
 have hlen:(qp N F).length=N:=by simp[qp]
 have p:=c71 ⟨ng,qp N F,e⟩ (by rw[hlen];exact hl) h1 h2
 refine Does.of_calls p.ok fun g U w vs i hs=> ?_
 obtain⟨g',i',h2,h3⟩:=i.lay (l:=0) (m:=N) (cg:=F) rfl
 have i2:Inv g' U ⟨fun _=>none,1,fun _=>none,0,fun _=>none⟩ w:=by
  have e:qmx ⟨upd (fun _=>none) 0 (some (.arr N F)),1,fun _=>none,0,fun _=>none⟩ 0=⟨fun _=>none,1,fun _=>none,0,fun _=>none⟩:=by
   unfold qmx
   congr 1
   funext l
   rcases l with _|l <;> rfl
  rw[<-e];exact i'
 have hs':Rs g' [Nm.d ⟨ng,qp N F,e⟩] vs:=by
  simp only[Rs]at hs⊢
  obtain⟨v,r,rfl,hv,hr⟩:=hs
  refine⟨v,r,rfl,?_,hr⟩
  simp only[R,Rs,Nm.d]at hv⊢
  obtain⟨us,rfl,b,q,rfl,hb,s,q2,rfl,hs2,k,q3,rfl,hk,rfl⟩:=hv
  refine⟨_,rfl,b,_,rfl,hb,s,_,rfl,?_,k,_,rfl,hk,rfl⟩
  have h4:=h3 s 0 N 1 (fun i=>qk ((qp N F).getD i default)) (by simpa only[R] using hs2) (by omega) (ElemsOf.one fun j hj=>⟨rfl,rfl,rfl,by
   rw[Nat.zero_add,hF j hj]
   congr 1
   simp[qp,List.getD,hj]⟩)
  show R g' (.list (qp N F).length 1 _ .none) s
  rw[hlen];exact h4
 refine Calls.mono (p.calls g' w vs i2.ltab i2.sub hs') fun e w' ⟨x,σ',e1,e2,e3,e4,e5,e6⟩=> ?_
 have ex:Ext g' w ⟨σ',g'.μ,g'.τ⟩ w':=⟨⟨e3,fun _ _ h=>h,fun _ k h=>⟨k,h,rfl,Nat.le_refl _,fun _=>rfl⟩⟩,rfl,rfl,e5,e4,e6⟩
 exact⟨x,_,e1,e2,i2.ext ex,h2.trans (ex.grow i2.ub),ex.kept i2.ub⟩
theorem F43:OkF 43 Tryz.f43:=⟨by kernel_rfl,by kernel_rfl,by kernel_rfl⟩
def qyh:List (List Nat×List Nat):=[([1,1,1,1,1,1,0],[2,3,4,5,6]),([1,1,1,1,1,1,1,1,0,1,0],[2,3,4,5,7,8,9,10]),([1,1,1,1,1,1,1,1,0,1,0,0,1,0,0,1,1,0],[2,3,4,5,7,8,10,11]),([1,1,1,1,1,1,1,1,0,1,0,0,1,0,0,1,1,1,1],[2,3,4,5,7,8,9,10,11]),([1,1,1,1,1,1,1,1,1],[2,4,5,7])]
noncomputable def q5c(a:Nm)(b:Nm):List Nat->Nat->Option Ans:=qf [([1,1,1,1,0],1,Ans.pure [a.d] (I a.fst)),([1,1,1,1,0],3,Ans.pure [b.d] (I b.fst)),([1,1,1,1,1,0,0],2,Ans.pure [a.d,b.d] (I (nv a b)))]
theorem nAd(a b:Nm)(K:D->Heap->Prop):qn (En Tryz.f43) (fh Tryz.f43 K) (q5c a b) qyh 200 [.code []] ⟨qc 0 [a.d,b.d],.empty⟩ =
 (List.length a.dig<=q8->bif(↑(List.length a.dig):Int)==0 then True/\K (.agg [B b.neg,L b.dig 1 qk,I b.ex]) Heap.empty else List.length b.dig<=q8->bif(↑(List.length b.dig):Int)==0 then True/\K (.agg [B a.neg,L a.dig 1 qk,I a.ex]) Heap.empty else PQ PP 68 [a.d] (I a.fst)/\PQ PP 68 [b.d] (I b.fst)/\PQ PP 69 [a.d,b.d] (I (nv a b))/\bif decide (nv a b<0) then True/\True/\At (En Tryz.f43) (fh Tryz.f43 K) [It.code [1,1,1,1,1,1,0],It.code [1,1,1,1,1,1,1]] {sl:=[(2,.own [B b.neg,L b.dig 1 qk,I b.ex]),(3,.own [B a.neg,L a.dig 1 qk,I a.ex]),(4,.own [B false,.list 0 0 (fun _=>D.junk) .full,I 0]),(5,I (if b.ex<a.ex then b.ex else a.ex)),(6,I (qg .i64 (qj .i64 (if b.fst > a.fst then b.fst else a.fst) (if b.ex<a.ex then b.ex else a.ex)) 2))],h:=Heap.empty:St} else At (En Tryz.f43) (fh Tryz.f43 K) [It.code [1,1,1,1,1,1,0],It.code [1,1,1,1,1,1,1]] {sl:=[(2,.own [B a.neg,L a.dig 1 qk,I a.ex]),(3,.own [B b.neg,L b.dig 1 qk,I b.ex]),(4,.own [B false,.list 0 0 (fun _=>D.junk) .full,I 0]),(5,I (if b.ex<a.ex then b.ex else a.ex)),(6,I (qg .i64 (qj .i64 (if b.fst > a.fst then b.fst else a.fst) (if b.ex<a.ex then b.ex else a.ex)) 2))],h:=Heap.empty:St}):=by kernel_rfl
def hAd(N:Nat)(f g:Nat->D):Heap:=⟨upd (upd (fun _=>none) 0 (some (.arr N f))) 1 (some (.arr N g)),2,fun _=>none,0,fun _=>none⟩
def qvp:List (List Nat×List Nat):=[([1,1,1,1,1,1,1,1,0,1,0],[2,3,4,5,7,8,9,10])]
noncomputable def qvq(a:Nm)(b:Nm)(e:Int)(n:Int):List Nat->Nat->Option Ans:=qf [([1,1,1,1,1,1,0],3,Ans.eff (D.sl 0 0 n.toNat) (hRp n.toNat fun i=>qk (List.getD (zy a e n.toNat) i 0))),([1,1,1,1,1,1,0],7,Ans.eff (ren (rnm [] 1) (rnm [] 0) (D.sl 0 0 n.toNat)) (qh [] [] {box:=upd (fun _=>none) 0 (some (Row.arr n.toNat fun i=>qk (List.getD (zy a e n.toNat) i 0))),nl:=1,hw:=fun _=>none,nt:=0,vw:=fun _=>none:Heap} (hRp n.toNat fun i=>qk (List.getD (zy b e n.toNat) i 0))))]
theorem q5d(a b:Nm)(e n:Int)(K:D->Heap->Prop):qn (En Tryz.f43) (fh Tryz.f43 K) (qvq a b e n) qvp 200 [.code [1,1,1,1,1,1,0],.code [1,1,1,1,1,1,1]] ⟨[(2,.own [B a.neg,L a.dig 1 qk,I a.ex]),(3,.own [B b.neg,L b.dig 1 qk,I b.ex]),(4,.own [B false,.list 0 0 (fun _=> .junk) .full,I 0]),(5,I e),(6,I n)],.empty⟩ =
 (Does PP 70 [.agg [B a.neg,L a.dig 1 qk,I a.ex],I e,I n] Heap.empty (D.sl 0 0 n.toNat) (hRp n.toNat fun i=>qk (List.getD (zy a e n.toNat) i 0))/\Does PP 70 [.agg [B b.neg,L b.dig 1 qk,I b.ex],I e,I n] {box:=upd (fun _=>none) 0 (some (Row.arr n.toNat fun i=>qk (List.getD (zy a e n.toNat) i 0))),nl:=1,hw:=fun _=>none,nt:=0,vw:=fun _=>none:Heap} (ren (rnm [] 1) (rnm [] 0) (D.sl 0 0 n.toNat)) (qh [] [] {box:=upd (fun _=>none) 0 (some (Row.arr n.toNat fun i=>qk (List.getD (zy a e n.toNat) i 0))),nl:=1,hw:=fun _=>none,nt:=0,vw:=fun _=>none:Heap} (hRp n.toNat fun i=>qk (List.getD (zy b e n.toNat) i 0)))/\At (En Tryz.f43) (fh Tryz.f43 K) [It.code [1,1,1,1,1,1,1,1,0,1,0],It.blk 0,It.code [1,1,1,1,1,1,1,1,1]] {sl:=[(2,.own [B a.neg,L a.dig 1 qk,I a.ex]),(3,.own [B b.neg,L b.dig 1 qk,I b.ex]),(4,.own [B false,.list 0 0 (fun _=>D.junk) .full,I 0]),(5,I e),(7,D.sl 0 0 n.toNat),(8,D.sl 1 0 n.toNat),(9,I 0),(10,I (qj .i64 n 1))],h:={box:=upd (upd (fun _=>none) 0 (some (Row.arr n.toNat fun i=>qk (List.getD (zy a e n.toNat) i 0)))) 1 (some (Row.arr n.toNat fun i=>qk (List.getD (zy b e n.toNat) i 0))),nl:=2,hw:=fun _=>none,nt:=0,vw:=fun _=>none:Heap}:St}):=by kernel_rfl
def SAd(a b:Nm)(e:Int)(N:Nat)(f g:Nat->D)(c i:Int):St:=⟨[(2,.own [B a.neg,L a.dig 1 qk,I a.ex]),(3,.own [B b.neg,L b.dig 1 qk,I b.ex]),(4,.own [B false,.list 0 0 (fun _=> .junk) .full,I 0]),(5,I e),(7,.sl 0 0 N),(8,.sl 1 0 N),(9,I c),(10,I i)],hAd N f g⟩
def SAe(a b:Nm)(e:Int)(N:Nat)(f g:Nat->D)(i d:Int):St:=⟨[(2,.own [B a.neg,L a.dig 1 qk,I a.ex]),(3,.own [B b.neg,L b.dig 1 qk,I b.ex]),(4,.own [B false,.list 0 0 (fun _=> .junk) .full,I 0]),(5,I e),(7,.sl 0 0 N),(8,.sl 1 0 N),(10,I i),(11,I d)],hAd N f g⟩
def SAf(a b:Nm)(e:Int)(N:Nat)(f g:Nat->D)(c i d:Int):St:=⟨[(2,.own [B a.neg,L a.dig 1 qk,I a.ex]),(3,.own [B b.neg,L b.dig 1 qk,I b.ex]),(4,.own [B false,.list 0 0 (fun _=> .junk) .full,I 0]),(5,I e),(7,.sl 0 0 N),(8,.sl 1 0 N),(9,I c),(10,I i),(11,I d)],hAd N f g⟩
noncomputable def qvr:List Nat->Nat->Option Ans:=qf []
theorem q5e(a b:Nm)(e:Int)(N:Nat)(f g:Nat->UInt8)(c i:Int)(J:St->Prop)(K:D->Heap->Prop):qn (En Tryz.f43) (fh Tryz.f43 K) (qvr ) qyh 200 [.code [1,1,1,1,1,1,1,1,0,1,0,0],stp [2,3,4,5,7,8,9,10] J,.blk 0,.code [1,1,1,1,1,1,1,1,1]] (SAd a b e N (fun j=>qk (f j)) (fun j=>qk (g j)) c i)=
 (bif decide (i>=0) then
 (0<=i/\i<(↑N:Int))/\
  0+i.toNat*1<N /\
   bif a.neg==b.neg then(0<=i/\i<(↑N:Int))/\0+i.toNat*1<N/\At (En Tryz.f43) (fh Tryz.f43 K) [It.code [1,1,1,1,1,1,1,1,0,1,0,0,1,0,0,1,1,0],It.code [1,1,1,1,1,1,1,1,0,1,0,0,1,0,0,1,1,1],It.blk 1,It.code [1,1,1,1,1,1,1,1,0,1,0,0,1,1],stp [2,3,4,5,7,8,9,10] J,It.blk 0,It.code [1,1,1,1,1,1,1,1,1]] {sl:=[(2,.own [B a.neg,L a.dig 1 qk,I a.ex]),(3,.own [B b.neg,L b.dig 1 qk,I b.ex]),(4,.own [B false,nilL,I 0]),(5,I e),(7,.sl 0 0 N),(8,.sl 1 0 N),(10,I i),(11,I (qg .i64 (qg .i64 (IntKind.i64.wrap (qj IntKind.u8 (↑(f (0+i.toNat*1)).toNat:Int) 48)) c) (IntKind.i64.wrap (qj IntKind.u8 (↑(g (0+i.toNat*1)).toNat:Int) 48))))],h:=(hAd N (fun j=>qk (f j)) fun j=>qk (g j)):St}
   else(0<=i/\i<(↑N:Int))/\0+i.toNat*1<N/\At (En Tryz.f43) (fh Tryz.f43 K) [It.code [1,1,1,1,1,1,1,1,0,1,0,0,1,0,0,1,1,0],It.code [1,1,1,1,1,1,1,1,0,1,0,0,1,0,0,1,1,1],It.blk 1,It.code [1,1,1,1,1,1,1,1,0,1,0,0,1,1],stp [2,3,4,5,7,8,9,10] J,It.blk 0,It.code [1,1,1,1,1,1,1,1,1]] {sl:=[(2,.own [B a.neg,L a.dig 1 qk,I a.ex]),(3,.own [B b.neg,L b.dig 1 qk,I b.ex]),(4,.own [B false,nilL,I 0]),(5,I e),(7,.sl 0 0 N),(8,.sl 1 0 N),(10,I i),(11,I (qj .i64 (qg .i64 (IntKind.i64.wrap (qj IntKind.u8 (↑(f (0+i.toNat*1)).toNat:Int) 48)) c) (IntKind.i64.wrap (qj IntKind.u8 (↑(g (0+i.toNat*1)).toNat:Int) 48))))],h:=(hAd N (fun j=>qk (f j)) fun j=>qk (g j)):St}
 else At (En Tryz.f43) (fh Tryz.f43 K) [It.code [1,1,1,1,1,1,1,1,1]] {sl:=[(2,.own [B a.neg,L a.dig 1 qk,I a.ex]),(4,.own [B false,.list 0 0 (fun _=>D.junk) .full,I 0]),(5,I e),(7,D.sl 0 0 N)],h:=(hAd N (fun j=>qk (f j)) fun j=>qk (g j)):St}):=by kernel_rfl
def qvs:List (List Nat×List Nat):=[([1,1,1,1,1,1,1,1,0,1,0,0,1,0,0,1,1,1,1],[2,3,4,5,7,8,9,10,11])]
noncomputable def qvt:List Nat->Nat->Option Ans:=qf []
theorem q5f(a b:Nm)(e:Int)(N:Nat)(f g:Nat->UInt8)(i d:Int)(J:St->Prop)(K:D->Heap->Prop):qn (En Tryz.f43) (fh Tryz.f43 K) (qvt ) qvs 200 [.code [1,1,1,1,1,1,1,1,0,1,0,0,1,0,0,1,1,0],.code [1,1,1,1,1,1,1,1,0,1,0,0,1,0,0,1,1,1],.blk 1,.code [1,1,1,1,1,1,1,1,0,1,0,0,1,1],stp [2,3,4,5,7,8,9,10] J,.blk 0,.code [1,1,1,1,1,1,1,1,1]] (SAe a b e N (fun j=>qk (f j)) (fun j=>qk (g j)) i d)=
 (bif decide (d > 9) then At (En Tryz.f43) (fh Tryz.f43 K) [It.code [1,1,1,1,1,1,1,1,0,1,0,0,1,0,0,1,1,1,1],It.blk 1,It.code [1,1,1,1,1,1,1,1,0,1,0,0,1,1],stp [2,3,4,5,7,8,9,10] J,It.blk 0,It.code [1,1,1,1,1,1,1,1,1]] {sl:=[(2,.own [B a.neg,L a.dig 1 qk,I a.ex]),(3,.own [B b.neg,L b.dig 1 qk,I b.ex]),(4,.own [B false,nilL,I 0]),(5,I e),(7,.sl 0 0 N),(8,.sl 1 0 N),(9,I 1),(10,I i),(11,I (qj .i64 d 10))],h:=(hAd N (fun j=>qk (f j)) fun j=>qk (g j)):St}
 else bif decide (d<0) then At (En Tryz.f43) (fh Tryz.f43 K) [It.code [1,1,1,1,1,1,1,1,0,1,0,0,1,0,0,1,1,1,1],It.blk 1,It.code [1,1,1,1,1,1,1,1,0,1,0,0,1,1],stp [2,3,4,5,7,8,9,10] J,It.blk 0,It.code [1,1,1,1,1,1,1,1,1]] {sl:=[(2,.own [B a.neg,L a.dig 1 qk,I a.ex]),(3,.own [B b.neg,L b.dig 1 qk,I b.ex]),(4,.own [B false,nilL,I 0]),(5,I e),(7,.sl 0 0 N),(8,.sl 1 0 N),(9,I (-1)),(10,I i),(11,I (qg .i64 d 10))],h:=(hAd N (fun j=>qk (f j)) fun j=>qk (g j)):St} else At (En Tryz.f43) (fh Tryz.f43 K) [It.code [1,1,1,1,1,1,1,1,0,1,0,0,1,0,0,1,1,1,1],It.blk 1,It.code [1,1,1,1,1,1,1,1,0,1,0,0,1,1],stp [2,3,4,5,7,8,9,10] J,It.blk 0,It.code [1,1,1,1,1,1,1,1,1]] {sl:=[(2,.own [B a.neg,L a.dig 1 qk,I a.ex]),(3,.own [B b.neg,L b.dig 1 qk,I b.ex]),(4,.own [B false,nilL,I 0]),(5,I e),(7,.sl 0 0 N),(8,.sl 1 0 N),(9,I 0),(10,I i),(11,I d)],h:=(hAd N (fun j=>qk (f j)) fun j=>qk (g j)):St}):=by kernel_rfl
noncomputable def qvu:List Nat->Nat->Option Ans:=qf []
theorem q5g(a b:Nm)(e:Int)(N:Nat)(f g:Nat->UInt8)(c i d:Int)(J:St->Prop)(K:D->Heap->Prop):qn (En Tryz.f43) (fh Tryz.f43 K) (qvu ) p8 200 [.code [1,1,1,1,1,1,1,1,0,1,0,0,1,0,0,1,1,1,1],.blk 1,.code [1,1,1,1,1,1,1,1,0,1,0,0,1,1],stp [2,3,4,5,7,8,9,10] J,.blk 0,.code [1,1,1,1,1,1,1,1,1]] (SAf a b e N (fun j=>qk (f j)) (fun j=>qk (g j)) c i d)=
 ((0<=i/\i<(↑N:Int))/\0+i.toNat*1+1<=N/\J {sl:=[(2,.own [B a.neg,L a.dig 1 qk,I a.ex]),(3,.own [B b.neg,L b.dig 1 qk,I b.ex]),(4,.own [B false,nilL,I 0]),(5,I e),(7,.sl 0 0 N),(8,.sl 1 0 N),(9,I c),(10,I (qj .i64 i 1))],h:={box:=upd ((hAd N (fun j=>qk (f j)) fun j=>qk (g j)).box) 0 (some (Row.arr N fun i_1=>bif(0+i.toNat*1).ble i_1&&i_1.blt (0+i.toNat*1+1) then[D.int IntKind.u8 (IntKind.u8.wrap (qg .i64 48 d))].getD (i_1-(0+i.toNat*1)) D.junk else qk (f i_1))),nl:=2,hw:=fun _=>none,nt:=0,vw:=fun _=>none:Heap}:St}):=by kernel_rfl
noncomputable def qvv(x:Nm)(e:Int)(N:Nat)(f:Nat->UInt8)(g:Nat->UInt8):List Nat->Nat->Option Ans:=qf [([1,1,1,1,1,1,1,1,1,0],5,Ans.eff (ren (rnm [0] 2) (rnm [] 0) (qx (⟨x.neg,qp N fun j=>qk (f j),e⟩:Nm)).d) (qh [0] [] (hAd N (fun j=>qk (f j)) fun j=>qk (g j)) {box:=fun _=>none,nl:=1,hw:=fun _=>none,nt:=0,vw:=fun _=>none:Heap}))]
theorem q5h(x:Nm)(e:Int)(N:Nat)(f g:Nat->UInt8)(K:D->Heap->Prop):qn (En Tryz.f43) (fh Tryz.f43 K) (qvv x e N f g) p8 200 [.code [1,1,1,1,1,1,1,1,1]] ⟨[(2,.own [B x.neg,L x.dig 1 qk,I x.ex]),(4,.own [B false,.list 0 0 (fun _=> .junk) .full,I 0]),(5,I e),(7,.sl 0 0 N)],hAd N (fun j=>qk (f j)) (fun j=>qk (g j))⟩ =
 (Does PP 71 [.agg [B x.neg,D.sl 0 0 N,I e]] (hAd N (fun j=>qk (f j)) fun j=>qk (g j)) (ren (rnm [0] 2) (rnm [] 0) (qx (⟨x.neg,qp N fun j=>qk (f j),e⟩:Nm)).d) (qh [0] [] (hAd N (fun j=>qk (f j)) fun j=>qk (g j)) {box:=fun _=>none,nl:=1,hw:=fun _=>none,nt:=0,vw:=fun _=>none:Heap})/\True/\K (.agg [B (qx (⟨x.neg,qp N fun j=>qk (f j),e⟩:Nm)).neg,L (qx (⟨x.neg,qp N fun j=>qk (f j),e⟩:Nm)).dig 1 qk,I (qx (⟨x.neg,qp N fun j=>qk (f j),e⟩:Nm)).ex]) {box:=upd ((hAd N (fun j=>qk (f j)) fun j=>qk (g j)).box) 0 none,nl:=2,hw:=fun _=>none,nt:=0,vw:=fun _=>none:Heap}):=by kernel_rfl
theorem bg{c:UInt8}(h:zl c=true):IntKind.i64.wrap (qj .u8 (c.toNat:Int) 48)=dgt c:=by
 have:=of_decide_eq_true h
 unfold qj dgt
 rw[IntWalk.u8_in _ (by omega),IntWalk.i64_in _ (by omega)];omega
theorem qab{d:Int}(h0:0<=d)(h1:d<=9):IntKind.u8.wrap (qg .i64 48 d)=((chD d).toNat:Int):=by
 rw[jk (by omega) (by omega),IntWalk.u8_in _ (by omega)]
 unfold chD
 rw[UInt8.toNat_ofNat'];omega
def adA(sb:Bool)(X Y:Str)(m j:Nat):UInt8:=if j<m then X.getD j 0 else(kf sb (X.drop m) (Y.drop m)).1.getD (j-m) 0
def adC(sb:Bool)(X Y:Str)(m:Nat):Int:=(kf sb (X.drop m) (Y.drop m)).2
def adD(sb:Bool)(X Y:Str)(m:Nat):Int:=(dgt (X.getD m 0):Int)+adC sb X Y (m+1)+(if sb then-(dgt (Y.getD m 0):Int) else(dgt (Y.getD m 0):Int))
theorem jz{l:Str}{i:Nat}(h:i<l.length):l.drop i=l.getD i 0::l.drop (i+1):=by
 rw[List.drop_eq_getElem_cons h,List.getD_eq_getElem?_getD,List.getElem?_eq_getElem h];rfl
theorem qdm{sb:Bool}{X Y:Str}{m:Nat}(hx:m<X.length)(hy:m<Y.length) :
  adC sb X Y m=(xl (adD sb X Y m)).2/\∀j,adA sb X Y m j=if j=m then(xl (adD sb X Y m)).1 else adA sb X Y (m+1) j:=by
 have e:kf sb (X.drop m) (Y.drop m)=((xl (adD sb X Y m)).1::(kf sb (X.drop (m+1)) (Y.drop (m+1))).1,(xl (adD sb X Y m)).2):=by
  rw[jz hx,jz hy,kf]
  rfl
 refine⟨by unfold adC;rw[e],fun j=> ?_⟩
 unfold adA
 rw[e]
 by_cases h1:j=m
 ·subst h1
  rw[if_neg (by omega),if_pos rfl,Nat.sub_self];rfl
 ·rw[if_neg h1]
  by_cases h2:j<m
  ·rw[if_pos h2,if_pos (by omega)]
  ·rw[if_neg h2,if_neg (by omega),show j-m=(j-(m+1))+1 by omega];rfl
theorem qe4{sb:Bool}{X Y:Str}(hl:X.length=Y.length)(hx:X.all zl=true)(hy:Y.all zl=true)(m:Nat) : -1<=adC sb X Y m/\adC sb X Y m<=1:=by
 have d:∀q:Str,q.all zl=true->(q.drop m).all zl=true:=fun q h=>by
  rw[List.all_eq_true]at h⊢
  exact fun x hm=>h x (List.mem_of_mem_drop hm)
 have:=vo sb (X.drop m) (Y.drop m) (by rw[List.length_drop,List.length_drop,hl]) (d X hx) (d Y hy)
 exact⟨this.2.2.1,this.2.2.2.1⟩
theorem qns{q:Str}(h:q.all zl=true){m:Nat}(hm:m<q.length):zl (q.getD m 0)=true:=by
 rw[List.getD_eq_getElem?_getD,List.getElem?_eq_getElem hm]
 exact List.all_eq_true.1 h _ (List.getElem_mem hm)
theorem qnt(sb:Bool)(X Y:Str)(hl:X.length=Y.length)(hx:X.all zl=true)(hy:Y.all zl=true):qp X.length (fun j=>qk (adA sb X Y 0 j))=(kf sb X Y).1:=by
 have h1:=(vo sb X Y hl hx hy).1
 unfold qp
 refine List.ext_getElem (by simp[h1]) fun i h2 h3=> ?_
 rw[List.getElem_map,List.getElem_range,qb4]
 unfold adA
 rw[if_neg (Nat.not_lt_zero _),List.drop_zero,List.drop_zero,Nat.sub_zero,List.getD_eq_getElem?_getD,List.getElem?_eq_getElem h3];rfl
instance roSl{l o n:Nat}:RO (.sl l o n):=⟨trivial⟩
instance rbArr{f:Nat->Option Row}{k n:Nat}{get:Nat->D}[h:RB f][r:∀i,DD (get i)]:RB (upd f k (some (.arr n get))):=⟨fun l row e=>by
 by_cases hx:l=k
 ·subst hx;rw[qb]at e;cases e;exact fun i _=>(r i).p
 ·rw[qd _ _ hx]at e;exact h.p l row e⟩
theorem qit{K:D->Heap->Prop}(a b:Nm)(e:Int)(n:Nat)(ha:a.dig.all zl=true)(hb:b.dig.all zl=true)(e1:e<=a.ex)(e2:e<=b.ex)(he : -100000<=e)(ea:a.ex<=100000)(eb:b.ex<=100000)(la:a.dig.length+(a.ex-e).toNat<n)(lb:b.dig.length+(b.ex-e).toNat<n)(hn:n<=1000)
  (hK:∀h,K (qx ⟨a.neg,(kf (a.neg !=b.neg) (zy a e n) (zy b e n)).1,e⟩).d h) :
  At (En Tryz.f43) (fh Tryz.f43 K) [.code [1,1,1,1,1,1,0],.code [1,1,1,1,1,1,1]] ⟨[(2,.own [B a.neg,L a.dig 1 qk,I a.ex]),(3,.own [B b.neg,L b.dig 1 qk,I b.ex]),(4,.own [B false,.list 0 0 (fun _=> .junk) .full,I 0]),(5,I e),(6,I n)],.empty⟩:=by
 have lx:=w8 (x:=a) (e:=e) (n:=n) (by omega)
 have ly:=w8 (x:=b) (e:=e) (n:=n) (by omega)
 have dx:=xk e n ha
 have dy:=xk e n hb
 refine qe jv _ _ _ (of_eq (q5d a b e n _) ⟨e70 a e n (by omega) (by omega) e1 (by omega) ⟨by omega,by omega⟩,fr (e70 b e n (by omega) (by omega) e2 (by omega) ⟨by omega,by omega⟩) [] [],?_⟩)
 rw[Int.toNat_natCast]
 generalize zy a e n=X at *
 generalize zy b e n=Y at *
 generalize hsb:(a.neg !=b.neg)=sb at *
 have fin0:=qnt sb X Y (by omega) dx dy
 rw[lx]at fin0
 refine jc (st':=SAd a b e n (fun j=>qk (adA sb X Y n j)) (fun j=>qk (Y.getD j 0)) (adC sb X Y n) ((n:Int)-1)) ?_ (StLe.trans (b:=⟨[(2,.own [B a.neg,L a.dig 1 qk,I a.ex]),(3,.own [B b.neg,L b.dig 1 qk,I b.ex]),(4,.own [B false,.list 0 0 (fun _=> .junk) .full,I 0]),(5,I e),(7,.sl 0 0 n),(8,.sl 1 0 n),(9,I 0),(10,I ((n:Int)-1))],hAd n (fun j=>qk (X.getD j 0)) (fun j=>qk (Y.getD j 0))⟩) ((StLe.refl _ _).cast (by rw[jy (by omega) (by omega)];rfl)) ((StLe.heapLe (h:=hAd n (fun j=>qk (X.getD j 0)) (fun j=>qk (Y.getD j 0))) (h':=hAd n (fun j=>qk (adA sb X Y n j)) (fun j=>qk (Y.getD j 0))) ⟨fun l row' h=> ?_,Nat.le_refl _,fun _ _ h=>(by cases h),Nat.le_refl _,fun _ _ h=>(by cases h),fun _ _=>rfl⟩).cast ?_))
 ·refine lp (fn:=Tryz.f43) (fun m:Nat=>m<=n) (fun m=>SAd a b e n (fun j=>qk (adA sb X Y m j)) (fun j=>qk (Y.getD j 0)) (adC sb X Y m) ((m:Int)-1)) (fun m=>m) [2,3,4,5,7,8,9,10] (by kernel_rfl) (fun m hm=>of_eq (q5e a b e n (adA sb X Y m) (fun j=>Y.getD j 0) (adC sb X Y m) ((m:Int)-1) _ _) (qa (fun h=> ?_) fun h=> ?_)) n (Nat.le_refl _)
  ·obtain⟨i,rfl⟩:∃i,m=i+1:=⟨m-1,(by have h:(m:Int)-1>=0:=(by simpa using h);omega)⟩
   have ei:(((i+1:Nat):Int)-1)=(i:Int):=by omega
   rw[ei,Int.toNat_natCast,Nat.zero_add,Nat.mul_one]
   have hX:adA sb X Y (i+1) i=X.getD i 0:=by unfold adA;rw[if_pos (by omega)]
   have gX:=qns dx (m:=i) (by omega)
   have gY:=qns dy (m:=i) (by omega)
   have b1:=ac gX
   have b2:=ac gY
   have b3:=qe4 (sb:=sb) (X:=X) (Y:=Y) (by omega) dx dy (i+1)
   obtain⟨s1,s2⟩:=qdm (sb:=sb) (X:=X) (Y:=Y) (m:=i) (by omega) (by omega)
   have last:∀d,d=adD sb X Y i->At (En Tryz.f43) (fh Tryz.f43 K) [.code [1,1,1,1,1,1,1,1,0,1,0,0,1,0,0,1,1,0],.code [1,1,1,1,1,1,1,1,0,1,0,0,1,0,0,1,1,1],.blk 1,.code [1,1,1,1,1,1,1,1,0,1,0,0,1,1],stp [2,3,4,5,7,8,9,10] (Nx (En Tryz.f43).nt (fun m:Nat=>m<=n) (fun m=>SAd a b e n (fun j=>qk (adA sb X Y m j)) (fun j=>qk (Y.getD j 0)) (adC sb X Y m) ((m:Int)-1)) (fun m=>m) (i+1)),.blk 0,.code [1,1,1,1,1,1,1,1,1]] (SAe a b e n (fun j=>qk (adA sb X Y (i+1) j)) (fun j=>qk (Y.getD j 0)) i d):=fun d hd=>by
    have hdb : -10<=d/\d<=19:=by
     rw[hd]
     unfold adD
     cases sb
     ·simp only[Bool.false_eq_true,if_false];omega
     ·simp only[if_true];omega
    have put:∀c' d',0<=d'->d'<=9->xl d=(chD d',c')->At (En Tryz.f43) (fh Tryz.f43 K) [.code [1,1,1,1,1,1,1,1,0,1,0,0,1,0,0,1,1,1,1],.blk 1,.code [1,1,1,1,1,1,1,1,0,1,0,0,1,1],stp [2,3,4,5,7,8,9,10] (Nx (En Tryz.f43).nt (fun m:Nat=>m<=n) (fun m=>SAd a b e n (fun j=>qk (adA sb X Y m j)) (fun j=>qk (Y.getD j 0)) (adC sb X Y m) ((m:Int)-1)) (fun m=>m) (i+1)),.blk 0,.code [1,1,1,1,1,1,1,1,1]] (SAf a b e n (fun j=>qk (adA sb X Y (i+1) j)) (fun j=>qk (Y.getD j 0)) c' i d'):=fun c' d' g0 g1 hst=>by
     rw[<-hd,hst]at s1 s2
     refine qe jv _ _ _ (of_eq (q5g a b e n (adA sb X Y (i+1)) (fun j=>Y.getD j 0) c' i d' _ _) ⟨⟨by omega,by omega⟩,by rw[Int.toNat_natCast];omega,Nx.of i (by omega) (by omega) ?_⟩)
     rw[Int.toNat_natCast,Nat.zero_add,Nat.mul_one,jy (by omega) (by omega),qab g0 g1,s1]
     refine StLe.trans (StLe.heapLe (h':=hAd n (fun j=>qk (adA sb X Y i j)) (fun j=>qk (Y.getD j 0))) ⟨fun l row' h=> ?_,Nat.le_refl _,fun _ _ h=>(by cases h),Nat.le_refl _,fun _ _ h=>(by cases h),fun _ _=>rfl⟩) ((StLe.refl _ _).cast (by kernel_rfl))
     rcases l with _|_|l
     ·cases h
      refine⟨_,rfl,.arr fun j hj=>Wk.of_eq ?_⟩
      rw[s2 j]
      by_cases hji:j=i
      ·subst hji
       rw[if_pos rfl,Nat.ble_eq_true_of_le (Nat.le_refl _),show Nat.blt j (j+1)=true from Nat.ble_eq_true_of_le (Nat.le_refl _),Nat.sub_self];rfl
      ·rw[if_neg hji]
       have:(Nat.ble i j&&Nat.blt j (i+1))=false:=by
        rw[<-Bool.not_eq_true,Bool.and_eq_true,Nat.ble_eq,Nat.blt_eq];omega
       rw[this];rfl
     ·cases h;exact⟨_,rfl,RowLe.refl _⟩
     ·cases h
    refine qe jv _ _ _ (of_eq (q5f a b e n (adA sb X Y (i+1)) (fun j=>Y.getD j 0) i d _ _) (qa (fun h1=> ?_) fun h1=>qa (fun h2=> ?_) fun h2=> ?_))
    ·have h1:d > 9:=by simpa using h1
     rw[jy (by omega) (by omega)]
     exact put 1 (d-10) (by omega) (by omega) (by unfold xl;rw[if_pos h1])
    ·have h1:¬d > 9:=by simpa using h1
     have h2:d<0:=by simpa using h2
     rw[jk (by omega) (by omega)]
     exact put (-1) (d+10) (by omega) (by omega) (by unfold xl;rw[if_neg h1,if_pos h2])
    ·have h1:¬d > 9:=by simpa using h1
     have h2:¬d<0:=by simpa using h2
     exact put 0 d (by omega) (by omega) (by unfold xl;rw[if_neg h1,if_neg h2])
   rw[hX,bg gX,bg gY]
   refine⟨⟨by omega,by omega⟩,by omega,qa (fun hs=> ?_) fun hs=> ?_⟩
   ·have hs:sb=false:=by rw[<-hsb];simpa using hs
    refine⟨⟨by omega,by omega⟩,by omega,last _ ?_⟩
    rw[jk (a:=(dgt (X.getD i 0):Int)) (by omega) (by omega),jk (by omega) (by omega)]
    unfold adD
    rw[hs];rfl
   ·have hs:sb=true:=by rw[<-hsb];simpa using hs
    refine⟨⟨by omega,by omega⟩,by omega,last _ ?_⟩
    rw[jk (a:=(dgt (X.getD i 0):Int)) (by omega) (by omega),jy (by omega) (by omega)]
    unfold adD
    rw[hs];rfl
  ·have hm0:m=0:=by
    have:¬(m:Int)-1>=0:=by simpa using h
    omega
   subst hm0
   refine qe jv _ _ _ (of_eq (q5h a e n (adA sb X Y 0) (fun j=>Y.getD j 0) _) ⟨fr (eTr a.neg n (fun j=>qk (adA sb X Y 0 j)) e (fun i _=>by rw[qb4]) (by omega) (by omega) (by omega)) [0] [],trivial,?_⟩)
   rw[fin0]
   exact hK _
 ·rcases l with _|_|l
  ·cases h
   refine⟨_,rfl,.arr fun j hj=>Wk.of_eq ?_⟩
   unfold adA
   rw[if_pos hj]
  ·cases h;exact⟨_,rfl,RowLe.refl _⟩
  ·cases h
 ·have:adC sb X Y n=0:=by
   unfold adC
   rw[List.drop_of_length_le (by omega),List.drop_of_length_le (by omega),kf]
   intro _ _ _ _ h;cases h
  rw[this];rfl
theorem qb5(x:Nm):(qx x).ex<=max 0 (x.ex+x.dig.length):=by
 have:=nw x.dig
 unfold qx
 split
 ·show(0:Int)<=_;omega
 ·show x.ex+_<=_;omega
theorem qiu{a b:Nm}(ha:CN a)(hb:CN b):yg a b<=1000:=by
 obtain⟨_,a2,a3,a4⟩:=ha
 obtain⟨_,b2,b3,b4⟩:=hb
 unfold yg Nm.fst;omega
theorem c43{a b:Nm}(ha:CN a)(hb:CN b):Pure PP 43 [a.d,b.d] (uw a b).d:=by
 have hn:=qiu ha hb
 obtain⟨a1,a2,a3,a4⟩:=ha
 obtain⟨b1,b2,b3,b4⟩:=hb
 have e1:(if b.ex<a.ex then b.ex else a.ex)=min a.ex b.ex:=by split <;> omega
 have e2:qg .i64 (qj .i64 (if b.fst > a.fst then b.fst else a.fst) (min a.ex b.ex)) 2=(yg a b:Int):=by
  rw[show(if b.fst > a.fst then b.fst else a.fst)=max a.fst b.fst by split <;> omega]
  unfold yg Nm.fst
  rw[jy (by omega) (by omega),jk (by omega) (by omega)];omega
 obtain⟨k1,k2⟩:=qei (a:=a) (b:=b)
 refine pr F43 (by kernel_rfl) (of_eq (nAd a b _) fun _=>qa (fun h=>⟨trivial,?_⟩) fun h _=>qa (fun h1=>⟨trivial,?_⟩) fun h1=>⟨PureW.mk (c68 a (by omega) (by omega) (by omega)),PureW.mk (c68 b (by omega) (by omega) (by omega)),PureW.mk (c69 a b (by omega) (by omega)),?_⟩)
 ·have h:a.dig=[]:=by simpa using h
  have e:uw a b=b:=by unfold uw;rw[if_pos h]
  rw[e];exact⟨_,RetLe.refl _ _⟩
 ·have h:¬a.dig=[]:=by simpa using h
  have h1:b.dig=[]:=by simpa using h1
  have e:uw a b=a:=by unfold uw;rw[if_neg h,if_pos h1]
  rw[e];exact⟨_,RetLe.refl _ _⟩
 ·have h:¬a.dig=[]:=by simpa using h
  have h1:¬b.dig=[]:=by simpa using h1
  rw[e1,e2]
  refine qa (fun h2=>⟨trivial,trivial,?_⟩) fun h2=> ?_
  ·have h2:nv a b<0:=by simpa using h2
   have e:uw a b=qx ⟨b.neg,(kf (b.neg !=a.neg) (zy b (min a.ex b.ex) (yg a b)) (zy a (min a.ex b.ex) (yg a b))).1,min a.ex b.ex⟩:=by unfold uw;rw[if_neg h,if_neg h1,if_pos h2]
   rw[e]
   exact qit b a _ _ b1.dg a1.dg (by omega) (by omega) (by omega) (by omega) (by omega) k2 k1 hn fun h=>⟨_,RetLe.refl _ _⟩
  ·have h2:¬nv a b<0:=by simpa using h2
   have e:uw a b=qx ⟨a.neg,(kf (a.neg !=b.neg) (zy a (min a.ex b.ex) (yg a b)) (zy b (min a.ex b.ex) (yg a b))).1,min a.ex b.ex⟩:=by unfold uw;rw[if_neg h,if_neg h1,if_neg h2]
   rw[e]
   exact qit a b _ _ a1.dg b1.dg (by omega) (by omega) (by omega) (by omega) (by omega) k1 k2 hn fun h=>⟨_,RetLe.refl _ _⟩
theorem zc{q:Str}(h:(qv q).2=true):CN (qv q).1:=by
 obtain⟨h1,h2⟩:=qbu q
 rw[h]at h1
 rw[h2 h1.symm]
 obtain⟨c1,c2,c3,c4⟩:=ak h1.symm
 exact⟨c1,c2,c3,c4⟩
theorem F25:OkF 25 Tryz.f25:=⟨by kernel_rfl,by kernel_rfl,by kernel_rfl⟩
def q5i:List (List Nat×List Nat):=[]
noncomputable def qvw(a:Str)(b:Str)(t:Str):List Nat->Nat->Option Ans:=qf [([1,0],1,Ans.pure [.str a] (.tup [(qv a).fst.d,B (qv a).snd])),([1,1,0],1,Ans.pure [.str b] (.tup [(qv b).fst.d,B (qv b).snd])),([1,1,1,0],1,Ans.pure [.str t] (.tup [(qv t).fst.d,B (qv t).snd])),([1,1,1,1,1,0],2,Ans.pure [(qv b).fst.d] (zp (qv b).fst).d),([1,1,1,1,1,0],3,Ans.pure [(qv a).fst.d,(zp (qv b).fst).d] (uw (qv a).fst (zp (qv b).fst)).d),([1,1,1,1,1,1,1,0],2,Ans.pure [{neg:=false,dig:=(uw (qv a).fst (zp (qv b).fst)).dig,ex:=(uw (qv a).fst (zp (qv b).fst)).ex:Nm}.d,(qv t).fst.d] (I (qko {neg:=false,dig:=(uw (qv a).fst (zp (qv b).fst)).dig,ex:=(uw (qv a).fst (zp (qv b).fst)).ex:Nm} (qv t).fst)))]
theorem q5j(a b t:Str)(K:D->Prop):qn (En Tryz.f25) (fi Tryz.f25 K) (qvw a b t) q5i 200 [.code []] ⟨qc 0 [.str a,.str b,.str t],.empty⟩ =
 (PQ PP 42 [.str a] (.tup [(qv a).fst.d,B (qv a).snd])/\True/\PQ PP 42 [.str b] (.tup [(qv b).fst.d,B (qv b).snd])/\True/\PQ PP 42 [.str t] (.tup [(qv t).fst.d,B (qv t).snd])/\True/\bif bif bif !(qv a).snd then true else !(qv b).snd then true else !(qv t).snd then K (B false) else PQ PP 44 [(qv b).fst.d] (zp (qv b).fst).d/\PQ PP 43 [(qv a).fst.d,(zp (qv b).fst).d] (uw (qv a).fst (zp (qv b).fst)).d/\True/\True/\PQ PP 45 [{neg:=false,dig:=(uw (qv a).fst (zp (qv b).fst)).dig,ex:=(uw (qv a).fst (zp (qv b).fst)).ex:Nm}.d,(qv t).fst.d] (I (qko {neg:=false,dig:=(uw (qv a).fst (zp (qv b).fst)).dig,ex:=(uw (qv a).fst (zp (qv b).fst)).ex:Nm} (qv t).fst))/\K (B (decide (qko {neg:=false,dig:=(uw (qv a).fst (zp (qv b).fst)).dig,ex:=(uw (qv a).fst (zp (qv b).fst)).ex:Nm} (qv t).fst<=0)))):=by kernel_rfl
theorem qk7{a b:Nm}(ha:CN a)(hb:CN b):(uw a b).ex<=10000:=by
 have hn:=qiu ha hb
 obtain⟨a1,a2,a3,a4⟩:=ha
 obtain⟨b1,b2,b3,b4⟩:=hb
 obtain⟨k1,k2⟩:=qei (a:=a) (b:=b)
 have l1:=w8 (x:=a) (e:=min a.ex b.ex) (n:=yg a b) (by omega)
 have l2:=w8 (x:=b) (e:=min a.ex b.ex) (n:=yg a b) (by omega)
 unfold uw
 split
 ·omega
 ·split
  ·omega
  ·split
   ·have t1:=qb5 ⟨b.neg,(kf (b.neg !=a.neg) (zy b (min a.ex b.ex) (yg a b)) (zy a (min a.ex b.ex) (yg a b))).1,min a.ex b.ex⟩
    have t3:=(vo (b.neg !=a.neg) (zy b (min a.ex b.ex) (yg a b)) (zy a (min a.ex b.ex) (yg a b)) (by rw[l1,l2]) (xk _ _ b1.dg) (xk _ _ a1.dg)).1
    simp only at t1
    omega
   ·have t1:=qb5 ⟨a.neg,(kf (a.neg !=b.neg) (zy a (min a.ex b.ex) (yg a b)) (zy b (min a.ex b.ex) (yg a b))).1,min a.ex b.ex⟩
    have t3:=(vo (a.neg !=b.neg) (zy a (min a.ex b.ex) (yg a b)) (zy b (min a.ex b.ex) (yg a b)) (by rw[l1,l2]) (xk _ _ a1.dg) (xk _ _ b1.dg)).1
    simp only at t1
    omega
theorem c25(a b t:Str):Pure PP 25 [.str a,.str b,.str t] (B (wiB a b t)):=by
 refine pu F25 (by kernel_rfl) (of_eq (q5j a b t _) ⟨PureW.mk (c42 a),trivial,PureW.mk (c42 b),trivial,PureW.mk (c42 t),trivial,qa (fun h=> ?_) fun h=> ?_⟩)
 ·unfold wiB
  rw[h];exact Wk.refl _
 ·unfold wiB
  rw[h,cond_false]
  have h3:(qv a).2=true/\(qv b).2=true/\(qv t).2=true:=by
   cases h1:(qv a).2 <;> cases h2:(qv b).2 <;> cases h3:(qv t).2 <;> simp_all
  have ca:=zc h3.1
  have cb:=zc h3.2.1
  have ct:=zc h3.2.2
  generalize (qv a).1=x at *
  generalize (qv b).1=y at *
  generalize (qv t).1=z at *
  have cm:=cb.min
  obtain⟨s1,s2⟩:=qh6 ca cm
  have s3:=qk7 ca cm
  obtain⟨v1,n1⟩:=qbs ca.n cm.n (by have:=ca.e1;omega) (by have:=cm.e1;omega) (by have:=ca.l;omega) (by have:=cm.l;omega)
  obtain⟨v2,n2⟩:=ru n1
  have z1:=ct.l
  have z2:=ct.e1
  have z3:=ct.e2
  have hm : -1<=nv (qji (uw x (zp y))) z/\nv (qji (uw x (zp y))) z<=1:=by
   rw[oo n2 ct.n s1 (by omega) s2 (by omega)]
   rcases ql1 ((qji (uw x (zp y))).mag-z.mag) with ⟨_,e⟩|⟨_,e⟩|⟨_,e⟩ <;> rw[e] <;> omega
  exact⟨PureW.mk (c44 _),PureW.mk (c43 ca cm),trivial,trivial,PureW.mk (c45 (qji (uw x (zp y))) z ⟨Nat.le_trans s2 (by omega),(by show -1000000<=(uw x (zp y)).ex;omega),(by show(uw x (zp y)).ex<=1000000;omega)⟩ ⟨by omega,by omega,by omega⟩ hm),Wk.refl _⟩
instance hasW:qga:=⟨c25⟩
theorem q5k:OkF 151 Tryz.f151:=⟨by kernel_rfl,by kernel_rfl,by kernel_rfl⟩
def qvx:List (List Nat×List Nat):=[]
noncomputable def q5l:List Nat->Nat->Option Ans:=qf []
theorem nXd(c:UInt8)(K:D->Prop):qn (En Tryz.f151) (fi Tryz.f151 K) (q5l ) qvx 200 [.code []] ⟨qc 0 [qk c],.empty⟩ =
 (K (B (bif decide ((↑c.toNat:Int)>=48) then decide ((↑c.toNat:Int)<=57) else false))):=by kernel_rfl
theorem q5m(c:UInt8):Pure PP 151 [qk c] (B (zl c)):=by
 have e:(bif decide ((c.toNat:Int)>=48) then decide ((c.toNat:Int)<=57) else false)=zl c:=by
  unfold zl
  by_cases h1:(c.toNat:Int)>=48
  ·rw[decide_eq_true h1,cond_true,decide_eq_decide];omega
  ·rw[decide_eq_false h1,cond_false];exact(decide_eq_false (by omega)).symm
 exact pu q5k (by kernel_rfl) (of_eq (nXd c _) (Wk.of_eq (by rw[e])))
theorem q5n:OkF 126 Tryz.f126:=⟨by kernel_rfl,by kernel_rfl,by kernel_rfl⟩
def qqe:List (List Nat×List Nat):=[([1,1,0,0],[0,1,5])]
noncomputable def q5o:List Nat->Nat->Option Ans:=qf []
theorem nXs(z:Str)(a:Int)(K:D->Prop):qn (En Tryz.f126) (fi Tryz.f126 K) (q5o ) qqe 200 [.code []] ⟨qc 0 [.str z,I a],.empty⟩ =
 (At (En Tryz.f126) (fi Tryz.f126 K) [It.code [1,1,0,0],It.blk 0,It.code [1,1,1]] {sl:=[(0,.str z),(1,I a),(5,I 0)],h:=Heap.empty:St}):=by kernel_rfl
def SXs(z:Str)(a n:Int):St:=⟨[(0,.str z),(1,I a),(5,I n)],.empty⟩
noncomputable def qvy(z:Str)(a:Int)(n:Int):List Nat->Nat->Option Ans:=qf [([1,1,0,0,0,0,0],12,Ans.pure [qk (List.getD z (qg .i64 a n).toNat 0)] (B (zl (List.getD z (qg .i64 a n).toNat 0))))]
theorem q5p(z:Str)(a n:Int)(J:St->Prop)(K:D->Prop):qn (En Tryz.f126) (fi Tryz.f126 K) (qvy z a n) qqe 200 [.code [1,1,0,0,0],stp [0,1,5] J,.blk 0,.code [1,1,1]] (SXs z a n)=
 (List.length z<=jt->(decide (qg .i64 a n<(↑(List.length z):Int))=true->0<=qg .i64 a n/\qg .i64 a n<(↑(List.length z):Int))/\(decide (qg .i64 a n<(↑(List.length z):Int))=true->PQ PP 151 [qk (List.getD z (qg .i64 a n).toNat 0)] (B (zl (List.getD z (qg .i64 a n).toNat 0))))/\bif bif decide (qg .i64 a n<(↑(List.length z):Int)) then zl (List.getD z (qg .i64 a n).toNat 0) else false then J {sl:=[(0,.str z),(1,I a),(5,I (qg .i64 n 1))],h:=Heap.empty:St} else K (I n)):=by kernel_rfl
theorem qyi:OkF 127 Tryz.f127:=⟨by kernel_rfl,by kernel_rfl,by kernel_rfl⟩
def qvz:List (List Nat×List Nat):=[]
noncomputable def q5q(n:Int):List Nat->Nat->Option Ans:=qf [([1,0,1,0,0],2,Ans.pure [I (qj .i64 0 n)] (.str (Lib.itoa (qj .i64 0 n)))),([1,1,1,0,1,0],2,Ans.pure [I (qb8 .i64 n 10)] (.str (Lib.itoa (qb8 .i64 n 10))))]
theorem nXc(n:Int)(K:D->Prop):qn (En Tryz.f127) (fi Tryz.f127 K) (q5q n) qvz 200 [.code []] ⟨qc 0 [I n],.empty⟩ =
 (bif decide (n<0) then PQ PP 127 [I (qj .i64 0 n)] (.str (Lib.itoa (qj .i64 0 n)))/\1+(Lib.itoa (qj .i64 0 n)).length<=jt/\K (.str ({data:= #[45]:ByteArray}.data.toList++Lib.itoa (qj .i64 0 n))) else(10:Int)≠0/\xi 1 (zf [D.int IntKind.u8 (IntKind.u8.wrap (qg .i64 48 (n.tmod 10)))])/\bif decide (n>=10) then(10:Int)≠0/\PQ PP 127 [I (qb8 .i64 n 10)] (.str (Lib.itoa (qb8 .i64 n 10)))/\(Lib.itoa (qb8 .i64 n 10)).length+(qp 1 (zf [D.int IntKind.u8 (IntKind.u8.wrap (qg .i64 48 (n.tmod 10)))])).length<=jt/\K (.str (Lib.itoa (qb8 .i64 n 10)++qp 1 (zf [D.int IntKind.u8 (IntKind.u8.wrap (qg .i64 48 (n.tmod 10)))]))) else K (.str (qp 1 (zf [D.int IntKind.u8 (IntKind.u8.wrap (qg .i64 48 (n.tmod 10)))])))):=by kernel_rfl
structure Pa where (neg:Bool) (dig:Str) (e:Int) deriving Inhabited,DecidableEq
def Pa.d(x:Pa):D:= .agg [B x.neg,.str x.dig,I x.e]
instance ddPa{x:Pa}:DD x.d:=inferInstanceAs (DD (.agg _))
theorem F79:OkF 79 Tryz.f79:=⟨by kernel_rfl,by kernel_rfl,by kernel_rfl⟩
def qv0:List (List Nat×List Nat):=[([1,0,0],[1,2]),([1,1,0,0],[1,2]),([1,1,1],[1,2])]
noncomputable def q5r:List Nat->Nat->Option Ans:=qf []
theorem nXt(x:Pa)(K:D->Prop):qn (En Tryz.f79) (fi Tryz.f79 K) (q5r ) qv0 200 [.code []] ⟨qc 0 [x.d],.empty⟩ =
 (At (En Tryz.f79) (fi Tryz.f79 K) [It.code [1,0,0],It.blk 0,It.code [1,1]] {sl:=[(1,.own [B x.neg,.str x.dig,I x.e]),(2,.own [B false,.str {data:= #[]:ByteArray}.data.toList,I 0])],h:=Heap.empty:St}):=by kernel_rfl
def SXt(n:Bool)(q:Str)(e:Int):St:=⟨[(1,.own [B n,.str q,I e]),(2,.own [B false,.str [],I 0])],.empty⟩
noncomputable def qv1:List Nat->Nat->Option Ans:=qf []
theorem q5s(n:Bool)(q:Str)(e:Int)(J:St->Prop)(K:D->Prop):qn (En Tryz.f79) (fi Tryz.f79 K) (qv1 ) qv0 200 [.code [1,0,0,0],stp [1,2] J,.blk 0,.code [1,1]] (SXt n q e)=
 (List.length q<=jt->(decide ((↑(List.length q):Int) > 0)=true->(0:Int)<=0/\0<(↑(List.length q):Int))/\bif bif decide ((↑(List.length q):Int) > 0) then(↑(List.getD q 0 0).toNat:Int)==48 else false then((0:Int)<=1/\1<=(↑(List.length q):Int))/\True/\True/\J {sl:=[(1,.own [B n,.str (List.drop 1 q),I (qj .i64 e 1)]),(2,.own [B false,.str [],I 0])],h:=Heap.empty:St} else At (En Tryz.f79) (fi Tryz.f79 K) [It.code [1,1,0,0],It.blk 2,It.code [1,1,1]] {sl:=[(1,.own [B n,.str q,I e]),(2,.own [B false,.str [],I 0])],h:=Heap.empty:St}):=by kernel_rfl
noncomputable def qv2:List Nat->Nat->Option Ans:=qf []
theorem q5t(n:Bool)(q:Str)(e:Int)(J:St->Prop)(K:D->Prop):qn (En Tryz.f79) (fi Tryz.f79 K) (qv2 ) qv0 200 [.code [1,1,0,0,0],stp [1,2] J,.blk 2,.code [1,1,1]] (SXt n q e)=
 (List.length q<=jt->(decide ((↑(List.length q):Int) > 0)=true->List.length q<=jt)->(decide ((↑(List.length q):Int) > 0)=true->0<=qj .i64 (↑(List.length q):Int) 1/\qj .i64 (↑(List.length q):Int) 1<(↑(List.length q):Int))/\bif bif decide ((↑(List.length q):Int) > 0) then(↑(List.getD q (qj .i64 (↑(List.length q):Int) 1).toNat 0).toNat:Int)==48 else false then List.length q<=jt->((0:Int)<=0/\0<=qj .i64 (↑(List.length q):Int) 1/\qj .i64 (↑(List.length q):Int) 1<=(↑(List.length q):Int))/\True/\J {sl:=[(1,.own [B n,.str (List.drop 0 (List.take (qj .i64 (↑(List.length q):Int) 1).toNat q)),I e]),(2,.own [B false,.str [],I 0])],h:=Heap.empty:St} else At (En Tryz.f79) (fi Tryz.f79 K) [It.code [1,1,1]] {sl:=[(1,.own [B n,.str q,I e]),(2,.own [B false,.str [],I 0])],h:=Heap.empty:St}):=by kernel_rfl
noncomputable def qv3:List Nat->Nat->Option Ans:=qf []
theorem q5u(n:Bool)(q:Str)(e:Int)(K:D->Prop):qn (En Tryz.f79) (fi Tryz.f79 K) (qv3 ) p8 200 [.code [1,1,1]] (SXt n q e)=
 (bif q=={data:= #[]:ByteArray}.data.toList then True/\K (.agg [B false,.str {data:= #[]:ByteArray}.data.toList,I 0]) else True/\K (.agg [B n,.str q,I e])):=by kernel_rfl
theorem qqf:∀(q:Str) (n:Nat),n<=(qi q).1.length->(n<(qi q).1.length↔(n<q.length/\zl (q.getD n 0)=true))
 | [],n,h=>by
  have h:n<=0:=h
  simp[qi]
 |c::r,n,h=>by
  rw[qi]at h⊢
  by_cases hc:zl c=true
  ·rw[if_pos hc]at h⊢
   cases n with
   |zero=>simp[hc]
   |succ n =>
    have:=qqf r n (by simpa using h)
    simp only[List.length_cons,Nat.add_lt_add_iff_right,List.getD_cons_succ]
    exact this
  ·rw[if_neg hc]at h⊢
   have h:n<=0:=h
   obtain rfl:n=0:=by omega
   simp only[List.length_nil,Nat.lt_irrefl,false_iff,not_and]
   exact fun _=>hc
theorem qyj(z:Str)(a:Nat)(ha:a<=z.length)(hz:z.length<=1000000):Pure PP 126 [.str z,I a] (I ((qi (z.drop a)).1.length:Nat)):=by
 have hs:=po (z.drop a)
 rw[List.length_drop]at hs
 have key:=qqf (z.drop a)
 have hg:∀n,(z.drop a).getD n 0=z.getD (a+n) 0:=fun n=>by rw[List.getD_eq_getElem?_getD,List.getElem?_drop,<-List.getD_eq_getElem?_getD]
 refine pu q5n (by kernel_rfl) (of_eq (nXs z a _) ?_)
 refine lp (fn:=Tryz.f126) (fun n:Nat=>n<=(qi (z.drop a)).1.length) (fun n=>SXs z a n) (fun n=>z.length-n) [0,1,5] (by kernel_rfl) (fun n hn=>of_eq (q5p z a n _ _) fun _=> ?_) 0 (Nat.zero_le _)
 have k:=key n hn
 rw[hg,List.length_drop]at k
 rw[jk (by omega) (by omega),show((a:Int)+(n:Int)).toNat=a+n by omega]
 refine⟨fun h=>⟨by omega,by have:=of_decide_eq_true h;omega⟩,fun _=>PureW.mk (q5m _),qa (fun h=> ?_) fun h=> ?_⟩
 ·have hlt:n<(qi (z.drop a)).1.length:=by
   refine k.2 ?_
   by_cases h1:(a:Int)+(n:Int)<(z.length:Int)
   ·rw[decide_eq_true h1]at h;exact⟨by omega,h⟩
   ·rw[decide_eq_false h1]at h;cases h
  rw[jk (by omega) (by omega)]
  exact Nx.mk (n+1) hlt (by omega)
 ·have hge:¬n<(qi (z.drop a)).1.length:=fun h1=>by
   obtain⟨h2,h3⟩:=k.1 h1
   rw[decide_eq_true (by omega),h3]at h;cases h
  rw[show(qi (z.drop a)).1.length=n by omega];exact Wk.refl _
theorem qgc(c:UInt8):qp 1 (zf [D.int IntKind.u8 (c.toNat:Int)])=[c]:=by
 show[UInt8.ofNat ((c.toNat:Int)).toNat]=[c]
 rw[Int.toNat_natCast,UInt8.ofNat_toNat]
theorem q5v(n:Nat)(h:n<10):IntKind.u8.wrap (qg .i64 48 (n:Int))=(((UInt8.ofNat (48+n)).toNat:Nat):Int):=by
 rw[jk (by omega) (by omega),UInt8.toNat_ofNat',IntWalk.u8_in _ ⟨by omega,by omega⟩]
 omega
theorem qv4(c:UInt8):xi 1 (zf [D.int IntKind.u8 (c.toNat:Int)]):=fun j hj=>by
 have:j=0:=by omega
 subst this
 exact⟨c,rfl⟩
theorem qqg(n:Nat)(hn:n<=1000000000):Pure PP 127 [I n] (.str (Lib.itoa n)):=by
 induction n using Nat.strongRecOn with
 |_ n ih =>
  refine pu qyi (by kernel_rfl) (of_eq (nXc n _) (qa (fun h=>absurd (of_decide_eq_true h) (by omega)) fun _=> ?_))
  have hr:(n:Int).tmod 10=((n % 10:Nat):Int):=rfl
  have hq:qb8 .i64 (n:Int) 10=((n / 10:Nat):Int):=by
   unfold qb8
   have:((n:Int)).tdiv 10=((n / 10:Nat):Int):=rfl
   rw[this,IntWalk.i64_in _ ⟨by omega,by omega⟩]
  rw[hr,hq,q5v _ (Nat.mod_lt _ (by omega)),qgc]
  refine⟨by decide,qv4 _,qa (fun h=>⟨by decide,PureW.mk (ih (n / 10) (by have:=of_decide_eq_true h;omega) (by omega)),?_,?_⟩) fun h=> ?_⟩
  ·have:=Lib.itoa_length_le (n / 10:Nat) (by omega) (by omega)
   simp only[List.length_cons,List.length_nil];unfold jt;omega
  ·rw[Lib.itoa_nonneg,Lib.itoa_nonneg]
   have h:¬n<10:=by have:=of_decide_eq_true h;omega
   conv=>rhs;rw[Lib.decDigits,dif_neg h]
   exact Wk.refl _
  ·have h:n<10:=by have:=of_decide_eq_false h;omega
   rw[Lib.itoa_nonneg,Lib.decDigits_one h,Nat.mod_eq_of_lt h];exact Wk.refl _
theorem q5w(n:Int)(h1 : -1000000000<=n)(h2:n<=1000000000):Pure PP 127 [I n] (.str (Lib.itoa n)):=by
 rcases Int.lt_or_le n 0 with h|h
 ·have e:qj .i64 0 n=((n.natAbs:Nat):Int):=by rw[jy (by omega) (by omega)];omega
  refine pu qyi (by kernel_rfl) (of_eq (nXc n _) ?_)
  rw[decide_eq_true h,cond_true,e]
  have hl:=Lib.itoa_length_le (n.natAbs:Nat) (by omega) (by omega)
  refine⟨PureW.mk (qqg n.natAbs (by omega)),by unfold jt;omega,Wk.of_eq ?_⟩
  have:Lib.itoa n=45::Lib.decDigits n.natAbs:=by unfold Lib.itoa;rw[if_pos h]
  rw[this,Lib.itoa_nonneg];rfl
 ·have:=qqg n.toNat (by omega)
  rw[show((n.toNat:Nat):Int)=n by omega]at this
  exact this
def Nm.pa(x:Nm):Pa:=⟨x.neg,x.dig,x.pe⟩
def Pa.nm(x:Pa):Nm:=⟨x.neg,x.dig,x.e+1-x.dig.length⟩
def stR(x:Pa):Pa:=(qx x.nm).pa
theorem qiv{q:Str}(h:q=[]\/q.getD 0 0≠48):tL q=q:=by
 cases q with
 |nil=>rfl
 |cons c r =>
  rcases h with h|h
  ·cases h
  ·rw[tL,if_neg (show ¬c=48 from h)]
theorem qnu{q:Str}(h:q=[]\/q.getD (q.length-1) 0≠48):tR q=q:=by
 unfold tR
 rw[qiv,List.reverse_reverse]
 rcases h with h|h
 ·left;rw[h];rfl
 ·cases hq:q with
  |nil=>left;rfl
  |cons c r =>
   right
   rw[<-hq]
   have hl:0<q.length:=by rw[hq];simp
   rw[List.getD_eq_getElem?_getD,List.getElem?_reverse hl,<-List.getD_eq_getElem?_getD,Nat.sub_zero]
   exact h
theorem qv5{q:Str}(h:0<q.length)(h1:q.getD (q.length-1) 0=48):tR q=tR (q.take (q.length-1)):=by
 have e:q=q.take (q.length-1)++[48]:=by
  conv=>lhs;rw[<-List.take_append_drop (q.length-1) q]
  congr 1
  rw[jz (by omega),h1,show q.length-1+1=q.length by omega,List.drop_length]
 conv=>lhs;rw[e]
 unfold tR
 rw[List.reverse_append]
 rfl
theorem c79(x:Pa)(h1 : -1000000000<=x.e)(h2:x.e<=1000000000)(hl:x.dig.length<=1000000):Pure PP 79 [x.d] (stR x).d:=by
 refine pu F79 (by kernel_rfl) (of_eq (nXt x _) ?_)
 obtain⟨n,q0,e0⟩:=x
 simp only at h1 h2 hl
 refine jc (st':=SXt n q0 e0) ?_ ((StLe.refl _ _).cast (by kernel_rfl))
 refine lp (fn:=Tryz.f79) (fun y:Str×Int=>tL y.1=tL q0/\y.1.length<=q0.length/\y.2=e0-q0.length+y.1.length) (fun y=>SXt n y.1 y.2) (fun y=>y.1.length) [1,2] (by kernel_rfl) (fun y hy=>of_eq (q5s n y.1 y.2 _ _) fun _=>⟨fun h=>⟨by omega,of_decide_eq_true h⟩,qa (fun h=> ?_) fun h=> ?_⟩) (q0,e0) ⟨rfl,Nat.le_refl _,by simp only;omega⟩
 ·obtain⟨q,e⟩:=y
  obtain⟨y1,y2,y3⟩:=hy
  simp only at y1 y2 y3 h⊢
  cases q with
  |nil=>cases h
  |cons c r =>
   have hc:c=48:=by
    rw[decide_eq_true (by simp only[List.length_cons];omega),cond_true]at h
    have h:(c.toNat:Int)=48:=by simpa using h
    exact UInt8.toNat_inj.1 (by rw[show c.toNat=48 by omega];rfl)
   simp only[List.length_cons]at y2 y3
   refine⟨⟨by omega,by simp only[List.length_cons];omega⟩,trivial,trivial,Nx.of (r,e-1) ⟨by rw[<-y1,tL,if_pos hc],by simp only;omega,by simp only;omega⟩ (by simp) ?_⟩
   rw[jy (by omega) (by omega)]
   exact(StLe.refl _ _).cast (by kernel_rfl)
 ·obtain⟨q,e⟩:=y
  obtain⟨y1,y2,y3⟩:=hy
  simp only at y1 y2 y3 h⊢
  have hq:tL q=q:=qiv (by
   cases q with
   |nil=>exact .inl rfl
   |cons c r =>
    right
    rw[decide_eq_true (by simp only[List.length_cons];omega),cond_true]at h
    have h:¬(c.toNat:Int)=48:=by simpa using h
    exact fun e=>h (by rw[show c=48 from e];rfl))
  rw[hq]at y1
  refine lp (fn:=Tryz.f79) (fun z:Str=>tR z=tR q/\z.length<=q.length) (fun z=>SXt n z e) (fun z=>z.length) [1,2] (by kernel_rfl) (fun z hz=>of_eq (q5t n z e _ _) fun _ _=>⟨?_,qa (fun h=> ?_) fun h=> ?_⟩) q ⟨rfl,Nat.le_refl _⟩
  ·obtain⟨z1,z2⟩:=hz
   exact fun h=>by
    have h:=of_decide_eq_true h
    rw[jy (by omega) (by omega)];omega
  ·obtain⟨z1,z2⟩:=hz
   have hl0:0<z.length:=by
    rcases Nat.eq_zero_or_pos z.length with h0|h0
    ·rw[h0]at h;cases h
    ·exact h0
   rw[decide_eq_true (by omega),cond_true,pi hl0 (by unfold q8;omega),Int.toNat_natCast]at h
   have h48:z.getD (z.length-1) 0=48:=by
    have h:((z.getD (z.length-1) 0).toNat:Int)=48:=by simpa using h
    exact UInt8.toNat_inj.1 (by rw[show(z.getD (z.length-1) 0).toNat=48 by omega];rfl)
   rw[pi hl0 (by unfold q8;omega),Int.toNat_natCast]
   refine fun _=>⟨⟨by omega,by omega,by omega⟩,trivial,Nx.of (z.take (z.length-1)) ⟨by rw[<-z1,qv5 hl0 h48],by rw[List.length_take];omega⟩ (by rw[List.length_take];omega) ?_⟩
   exact(StLe.refl _ _).cast (by kernel_rfl)
  ·obtain⟨z1,z2⟩:=hz
   have hz:tR z=z:=qnu (by
    rcases Nat.eq_zero_or_pos z.length with h0|h0
    ·exact .inl (List.eq_nil_of_length_eq_zero h0)
    ·right
     rw[decide_eq_true (by omega),cond_true,pi h0 (by unfold q8;omega),Int.toNat_natCast]at h
     have h:¬((z.getD (z.length-1) 0).toNat:Int)=48:=by simpa using h
     exact fun e=>h (by rw[e];rfl))
   rw[hz]at z1
   have hst:stR ⟨n,q0,e0⟩=if z=[] then⟨false,[],0⟩ else⟨n,z,e⟩:=by
    unfold stR qx Pa.nm
    rw[<-y1,<-z1]
    split
    ·rfl
    ·rename_i hne
     unfold Nm.pa Nm.pe Nm.fst
     rw[if_neg hne]
     simp only[Pa.mk.injEq,true_and]
     have:=nw q0
     omega
   refine qe jv _ _ _ (of_eq (q5u n z e _) (qa (fun h=>⟨trivial,?_⟩) fun h=>⟨trivial,?_⟩))
   ·rw[hst,if_pos (by simpa using h)];exact Wk.refl _
   ·rw[hst,if_neg (by intro h0;rw[h0]at h;cases h)];exact Wk.refl _
theorem F74:OkF 74 Tryz.f74:=⟨by kernel_rfl,by kernel_rfl,by kernel_rfl⟩
def q5x:List (List Nat×List Nat):=[([1,1,1,1,1,1],[1,4]),([1,1,1,1,1,1,1],[1,4])]
noncomputable def q5y(x:Pa):List Nat->Nat->Option Ans:=qf [([1,0],1,Ans.pure [x.d] (stR x).d)]
theorem nXT(x:Pa)(K:D->Prop):qn (En Tryz.f74) (fi Tryz.f74 K) (q5y x) q5x 200 [.code []] ⟨qc 0 [x.d],.empty⟩ =
 (PQ PP 79 [x.d] (stR x).d/\True/\bif(stR x).dig=={data:= #[]:ByteArray}.data.toList then K (.tup [.str {data:= #[48]:ByteArray}.data.toList,I 0]) else List.length (stR x).dig<=jt->bif bif bif decide ((↑(List.length (stR x).dig):Int) > 17) then true else decide ((stR x).e < -400) then true else decide ((stR x).e > 400) then K (.tup [.str {data:= #[]:ByteArray}.data.toList,I 9]) else((0:Int)<=0/\(0:Int)<=1/\1<=(↑(List.length (stR x).dig):Int))/\(List.length (stR x).dig<=jt->bif decide ((↑(List.length (stR x).dig):Int) > 1) then(List.drop 0 (List.take 1 (stR x).dig)).length+1<=jt/\((0:Int)<=1/\1<=(↑(List.length (stR x).dig):Int))/\(List.drop 0 (List.take 1 (stR x).dig)++{data:= #[46]:ByteArray}.data.toList).length+(List.drop 1 (stR x).dig).length<=jt/\At (En Tryz.f74) (fi Tryz.f74 K) [It.code [1,1,1,1,1,1]] {sl:=[(1,.own [B (stR x).neg,.str (stR x).dig,I (stR x).e]),(4,.str (List.drop 0 (List.take 1 (stR x).dig)++{data:= #[46]:ByteArray}.data.toList++List.drop 1 (stR x).dig))],h:=Heap.empty:St} else At (En Tryz.f74) (fi Tryz.f74 K) [It.code [1,1,1,1,1,1]] {sl:=[(1,.own [B (stR x).neg,.str (stR x).dig,I (stR x).e]),(4,.str (List.drop 0 (List.take 1 (stR x).dig)))],h:=Heap.empty:St})):=by kernel_rfl
def q5z:List (List Nat×List Nat):=[([1,1,1,1,1,1,1],[1,4])]
noncomputable def qv6:List Nat->Nat->Option Ans:=qf []
theorem q50(n:Bool)(q:Str)(e:Int)(z:Str)(K:D->Prop):qn (En Tryz.f74) (fi Tryz.f74 K) (qv6 ) q5z 200 [.code [1,1,1,1,1,1]] ⟨[(1,.own [B n,.str q,I e]),(4,.str z)],.empty⟩ =
 (bif n then 1+List.length z<=jt/\At (En Tryz.f74) (fi Tryz.f74 K) [It.code [1,1,1,1,1,1,1]] {sl:=[(1,.own [B n,.str q,I e]),(4,.str ({data:= #[45]:ByteArray}.data.toList++z))],h:=Heap.empty:St} else At (En Tryz.f74) (fi Tryz.f74 K) [It.code [1,1,1,1,1,1,1]] {sl:=[(1,.own [B n,.str q,I e]),(4,.str z)],h:=Heap.empty:St}):=by kernel_rfl
noncomputable def qv7(e:Int):List Nat->Nat->Option Ans:=qf [([1,1,1,1,1,1,1,0],4,Ans.pure [I e] (.str (Lib.itoa e)))]
theorem q51(n:Bool)(q:Str)(e:Int)(z:Str)(K:D->Prop):qn (En Tryz.f74) (fi Tryz.f74 K) (qv7 e) p8 200 [.code [1,1,1,1,1,1,1]] ⟨[(1,.own [B n,.str q,I e]),(4,.str z)],.empty⟩ =
 (List.length z+1<=jt/\PQ PP 127 [I e] (.str (Lib.itoa e))/\(z++{data:= #[101]:ByteArray}.data.toList).length+(Lib.itoa e).length<=jt/\K (.tup [.str (z++{data:= #[101]:ByteArray}.data.toList++Lib.itoa e),I 0])):=by kernel_rfl
theorem F73:OkF 73 Tryz.f73:=⟨by kernel_rfl,by kernel_rfl,by kernel_rfl⟩
def qyk:List (List Nat×List Nat):=[([1,1,1,1],[0,2,4,5]),([1,1,1,1,1,1,1,1],[0,2,4,5]),([1,1,1,1,1,1,1,1,0,1,0,1,1,1],[0,2,4,5,7]),([1,1,1,1,1,1,1,1,0,1,0,1,1,1,1,1,1,0,1,0],[0,2,4,5,6,7,8,9]),([1,1,1,1,1,1,1,1,1],[0,2,4,5])]
noncomputable def q52:List Nat->Nat->Option Ans:=qf []
theorem nXR(z:Str)(K:D->Prop):qn (En Tryz.f73) (fi Tryz.f73 K) (q52 ) qyk 200 [.code []] ⟨qc 0 [.str z],.empty⟩ =
 (True/\(List.length z<=jt->(decide ((↑(List.length z):Int) > 0)=true->(0:Int)<=0/\0<(↑(List.length z):Int))/\((decide ((↑(List.length z):Int) > 0) && !(↑(List.getD z 0 0).toNat:Int)==43)=true->(0:Int)<=0/\0<(↑(List.length z):Int))/\bif bif decide ((↑(List.length z):Int) > 0) then bif(↑(List.getD z 0 0).toNat:Int)==43 then true else(↑(List.getD z 0 0).toNat:Int)==45 else false then((0:Int)<=0/\0<(↑(List.length z):Int))/\True/\At (En Tryz.f73) (fi Tryz.f73 K) [It.code [1,1,1,1]] {sl:=[(0,.str z),(2,.own [B false,.str {data:= #[]:ByteArray}.data.toList,I 0]),(4,.own [B ((↑(List.getD z 0 0).toNat:Int)==45),.str {data:= #[]:ByteArray}.data.toList,I 0]),(5,I 1)],h:=Heap.empty:St} else At (En Tryz.f73) (fi Tryz.f73 K) [It.code [1,1,1,1]] {sl:=[(0,.str z),(2,.own [B false,.str {data:= #[]:ByteArray}.data.toList,I 0]),(4,.own [B false,.str {data:= #[]:ByteArray}.data.toList,I 0]),(5,I 0)],h:=Heap.empty:St})):=by kernel_rfl
def SXR(z:Str)(n:Bool)(q:Str)(e a:Int):St:=⟨[(0,.str z),(2,.own [B false,.str [],I 0]),(4,.own [B n,.str q,I e]),(5,I a)],.empty⟩
def q53:List (List Nat×List Nat):=[([1,1,1,1,1,1,1,0],[0,2,4,5])]
noncomputable def qv8(z:Str)(a:Int):List Nat->Nat->Option Ans:=qf [([1,1,1,1,0],2,Ans.pure [.str z,I a] (I (↑(List.length (qi (List.drop a.toNat z)).fst):Int)))]
theorem q54(z:Str)(n:Bool)(a:Int)(K:D->Prop):qn (En Tryz.f73) (fi Tryz.f73 K) (qv8 z a) q53 200 [.code [1,1,1,1]] (SXR z n [] 0 a)=
 (PQ PP 126 [.str z,I a] (I (↑(List.length (qi (List.drop a.toNat z)).fst):Int))/\(((!(↑(List.length (qi (List.drop a.toNat z)).fst):Int)==0)=true->List.length z<=jt)->bif bif(↑(List.length (qi (List.drop a.toNat z)).fst):Int)==0 then true else decide ((↑(List.length z):Int) > 64) then True/\K (.tup [.agg [B false,.str {data:= #[]:ByteArray}.data.toList,I 0],B false]) else(0<=a/\a<=qg .i64 a (↑(List.length (qi (List.drop a.toNat z)).fst):Int)/\qg .i64 a (↑(List.length (qi (List.drop a.toNat z)).fst):Int)<=(↑(List.length z):Int))/\True/\True/\At (En Tryz.f73) (fi Tryz.f73 K) [It.code [1,1,1,1,1,1,1,0],It.code [1,1,1,1,1,1,1,1]] {sl:=[(0,.str z),(2,.own [B false,.str [],I 0]),(4,.own [B n,.str (List.drop a.toNat (List.take (qg .i64 a (↑(List.length (qi (List.drop a.toNat z)).fst):Int)).toNat z)),I (qj .i64 (↑(List.length (qi (List.drop a.toNat z)).fst):Int) 1)]),(5,I (qg .i64 a (↑(List.length (qi (List.drop a.toNat z)).fst):Int)))],h:=Heap.empty:St})):=by kernel_rfl
def q55:List (List Nat×List Nat):=[([1,1,1,1,1,1,1,1,0],[0,2,4,5])]
noncomputable def qv9(z:Str)(a:Int):List Nat->Nat->Option Ans:=qf [([1,1,1,1,1,1,1,0,1,0,0],3,Ans.pure [.str z,I (qg .i64 a 1)] (I (↑(List.length (qi (List.drop (qg .i64 a 1).toNat z)).fst):Int)))]
theorem q56(z:Str)(n:Bool)(q:Str)(e a:Int)(K:D->Prop):qn (En Tryz.f73) (fi Tryz.f73 K) (qv9 z a) q55 200 [.code [1,1,1,1,1,1,1,0],.code [1,1,1,1,1,1,1,1]] (SXR z n q e a)=
 (List.length z<=jt ->
 (decide (a<(↑(List.length z):Int))=true->0<=a/\a<(↑(List.length z):Int))/\
  bif bif decide (a<(↑(List.length z):Int)) then(↑(List.getD z a.toNat 0).toNat:Int)==46 else false then PQ PP 126 [.str z,I (qg .i64 a 1)] (I (↑(List.length (qi (List.drop (qg .i64 a 1).toNat z)).fst):Int))/\bif(↑(List.length (qi (List.drop (qg .i64 a 1).toNat z)).fst):Int)==0 then True/\K (.tup [.agg [B false,.str {data:= #[]:ByteArray}.data.toList,I 0],B false]) else(0<=qg .i64 a 1/\qg .i64 a 1<=qg .i64 (qg .i64 a 1) (↑(List.length (qi (List.drop (qg .i64 a 1).toNat z)).fst):Int)/\qg .i64 (qg .i64 a 1) (↑(List.length (qi (List.drop (qg .i64 a 1).toNat z)).fst):Int)<=(↑(List.length z):Int))/\List.length q+(List.drop (qg .i64 a 1).toNat (List.take (qg .i64 (qg .i64 a 1) (↑(List.length (qi (List.drop (qg .i64 a 1).toNat z)).fst):Int)).toNat z)).length<=jt/\True/\At (En Tryz.f73) (fi Tryz.f73 K) [It.code [1,1,1,1,1,1,1,1,0],It.code [1,1,1,1,1,1,1,1,1]] {sl:=[(0,.str z),(2,.own [B false,.str [],I 0]),(4,.own [B n,.str (q++List.drop (qg .i64 a 1).toNat (List.take (qg .i64 (qg .i64 a 1) (↑(List.length (qi (List.drop (qg .i64 a 1).toNat z)).fst):Int)).toNat z)),I e]),(5,I (qg .i64 (qg .i64 a 1) (↑(List.length (qi (List.drop (qg .i64 a 1).toNat z)).fst):Int)))],h:=Heap.empty:St}
  else At (En Tryz.f73) (fi Tryz.f73 K) [It.code [1,1,1,1,1,1,1,1,0],It.code [1,1,1,1,1,1,1,1,1]] {sl:=[(0,.str z),(2,.own [B false,.str [],I 0]),(4,.own [B n,.str q,I e]),(5,I a)],h:=Heap.empty:St}):=by kernel_rfl
def q57:List (List Nat×List Nat):=[([1,1,1,1,1,1,1,1,1],[0,2,4,5]),([1,1,1,1,1,1,1,1,0,1,0,1,1,1],[0,2,4,5,7])]
noncomputable def qwa:List Nat->Nat->Option Ans:=qf []
theorem q58(z:Str)(n:Bool)(q:Str)(e a:Int)(K:D->Prop):qn (En Tryz.f73) (fi Tryz.f73 K) (qwa ) q57 200 [.code [1,1,1,1,1,1,1,1,0],.code [1,1,1,1,1,1,1,1,1]] (SXR z n q e a)=
 (List.length z<=jt ->
 (decide (a<(↑(List.length z):Int))=true->0<=a/\a<(↑(List.length z):Int))/\
  ((decide (a<(↑(List.length z):Int)) && !(↑(List.getD z a.toNat 0).toNat:Int)==101)=true->0<=a/\a<(↑(List.length z):Int))/\
   bif bif decide (a<(↑(List.length z):Int)) then bif(↑(List.getD z a.toNat 0).toNat:Int)==101 then true else(↑(List.getD z a.toNat 0).toNat:Int)==69 else false then
    List.length z<=jt->(decide (qg .i64 a 1<(↑(List.length z):Int))=true->0<=qg .i64 a 1/\qg .i64 a 1<(↑(List.length z):Int))/\(List.length z<=jt->(decide (qg .i64 a 1<(↑(List.length z):Int))=true->0<=qg .i64 a 1/\qg .i64 a 1<(↑(List.length z):Int))/\((decide (qg .i64 a 1<(↑(List.length z):Int)) && !(↑(List.getD z (qg .i64 a 1).toNat 0).toNat:Int)==43)=true->0<=qg .i64 a 1/\qg .i64 a 1<(↑(List.length z):Int))/\bif bif decide (qg .i64 a 1<(↑(List.length z):Int)) then bif(↑(List.getD z (qg .i64 a 1).toNat 0).toNat:Int)==43 then true else(↑(List.getD z (qg .i64 a 1).toNat 0).toNat:Int)==45 else false then At (En Tryz.f73) (fi Tryz.f73 K) [It.code [1,1,1,1,1,1,1,1,0,1,0,1,1,1],It.code [1,1,1,1,1,1,1,1,1]] {sl:=[(0,.str z),(2,.own [B false,.str [],I 0]),(4,.own [B n,.str q,I e]),(5,I (qg .i64 (qg .i64 a 1) 1)),(7,B (bif decide (qg .i64 a 1<(↑(List.length z):Int)) then(↑(List.getD z (qg .i64 a 1).toNat 0).toNat:Int)==45 else false))],h:=Heap.empty:St} else At (En Tryz.f73) (fi Tryz.f73 K) [It.code [1,1,1,1,1,1,1,1,0,1,0,1,1,1],It.code [1,1,1,1,1,1,1,1,1]] {sl:=[(0,.str z),(2,.own [B false,.str [],I 0]),(4,.own [B n,.str q,I e]),(5,I (qg .i64 a 1)),(7,B (bif decide (qg .i64 a 1<(↑(List.length z):Int)) then(↑(List.getD z (qg .i64 a 1).toNat 0).toNat:Int)==45 else false))],h:=Heap.empty:St})
   else At (En Tryz.f73) (fi Tryz.f73 K) [It.code [1,1,1,1,1,1,1,1,1]] {sl:=[(0,.str z),(2,.own [B false,.str [],I 0]),(4,.own [B n,.str q,I e]),(5,I a)],h:=Heap.empty:St}):=by kernel_rfl
def q59:List (List Nat×List Nat):=[([1,1,1,1,1,1,1,1,1],[0,2,4,5]),([1,1,1,1,1,1,1,1,0,1,0,1,1,1,1,1,1,0,1,0],[0,2,4,5,6,7,8,9])]
noncomputable def qwb(z:Str)(a:Int):List Nat->Nat->Option Ans:=qf [([1,1,1,1,1,1,1,1,0,1,0,1,1,1,0],2,Ans.pure [.str z,I a] (I (↑(List.length (qi (List.drop a.toNat z)).fst):Int)))]
theorem q6a(z:Str)(n:Bool)(q:Str)(e a:Int)(w:Bool)(K:D->Prop):qn (En Tryz.f73) (fi Tryz.f73 K) (qwb z a) q59 200 [.code [1,1,1,1,1,1,1,1,0,1,0,1,1,1],.code [1,1,1,1,1,1,1,1,1]] ⟨[(0,.str z),(2,.own [B false,.str [],I 0]),(4,.own [B n,.str q,I e]),(5,I a),(7,B w)],.empty⟩ =
 (PQ PP 126 [.str z,I a] (I (↑(List.length (qi (List.drop a.toNat z)).fst):Int))/\bif(↑(List.length (qi (List.drop a.toNat z)).fst):Int)==0 then True/\K (.tup [.agg [B false,.str {data:= #[]:ByteArray}.data.toList,I 0],B false]) else At (En Tryz.f73) (fi Tryz.f73 K) [It.code [1,1,1,1,1,1,1,1,0,1,0,1,1,1,1,1,1,0,1,0],It.blk 0,It.code [1,1,1,1,1,1,1,1,0,1,0,1,1,1,1,1,1,1],It.code [1,1,1,1,1,1,1,1,1]] {sl:=[(0,.str z),(2,.own [B false,.str [],I 0]),(4,.own [B n,.str q,I e]),(5,I a),(6,I (↑(List.length (qi (List.drop a.toNat z)).fst):Int)),(7,B w),(8,I 0),(9,I 0)],h:=Heap.empty:St}):=by kernel_rfl
def SXl(z:Str)(n:Bool)(q:Str)(e a m:Int)(w:Bool)(x i:Int):St:=⟨[(0,.str z),(2,.own [B false,.str [],I 0]),(4,.own [B n,.str q,I e]),(5,I a),(6,I m),(7,B w),(8,I x),(9,I i)],.empty⟩
noncomputable def qwc:List Nat->Nat->Option Ans:=qf []
theorem q6b(z:Str)(n:Bool)(q:Str)(e a m:Int)(w:Bool)(x i:Int)(J:St->Prop)(K:D->Prop):qn (En Tryz.f73) (fi Tryz.f73 K) (qwc ) qyk 200 [.code [1,1,1,1,1,1,1,1,0,1,0,1,1,1,1,1,1,0,1,0,0],stp [0,2,4,5,6,7,8,9] J,.blk 0,.code [1,1,1,1,1,1,1,1,0,1,0,1,1,1,1,1,1,1],.code [1,1,1,1,1,1,1,1,1]] (SXl z n q e a m w x i)=
 (bif decide (i<m) then(0<=qg .i64 a i/\qg .i64 a i<(↑(List.length z):Int))/\J {sl:=[(0,.str z),(2,.own [B false,.str [],I 0]),(4,.own [B n,.str q,I e]),(5,I a),(6,I m),(7,B w),(8,I (if 100000<qg .i64 (yt .i64 10 x) (IntKind.i64.wrap (qj IntKind.u8 (↑(List.getD z (qg .i64 a i).toNat 0).toNat:Int) 48)) then 100000 else qg .i64 (yt .i64 10 x) (IntKind.i64.wrap (qj IntKind.u8 (↑(List.getD z (qg .i64 a i).toNat 0).toNat:Int) 48)))),(9,I (qg .i64 i 1))],h:=Heap.empty:St} else bif w then True/\At (En Tryz.f73) (fi Tryz.f73 K) [It.code [1,1,1,1,1,1,1,1,1]] {sl:=[(0,.str z),(2,.own [B false,.str [],I 0]),(4,.own [B n,.str q,I (qg .i64 e (qj .i64 0 x))]),(5,I (qg .i64 a m))],h:=Heap.empty:St} else True/\At (En Tryz.f73) (fi Tryz.f73 K) [It.code [1,1,1,1,1,1,1,1,1]] {sl:=[(0,.str z),(2,.own [B false,.str [],I 0]),(4,.own [B n,.str q,I (qg .i64 e x)]),(5,I (qg .i64 a m))],h:=Heap.empty:St}):=by kernel_rfl
noncomputable def qwd:List Nat->Nat->Option Ans:=qf []
theorem q6c(z:Str)(n:Bool)(q:Str)(e a:Int)(K:D->Prop):qn (En Tryz.f73) (fi Tryz.f73 K) (qwd ) p8 200 [.code [1,1,1,1,1,1,1,1,1]] (SXR z n q e a)=
 (List.length z<=jt->True/\K (.tup [.agg [B n,.str q,I e],B (a==(↑(List.length z):Int))])):=by kernel_rfl
def txR(x:Nm):Str×Int:=match wu x with
 |some z=>(z,0)
 |none=>([],9)
theorem c74(x:Pa)(h1 : -1000000000<=x.e)(h2:x.e<=1000000000)(hl:x.dig.length<=1000000):Pure PP 74 [x.d] (.tup [.str (txR (qx x.nm)).1,I (txR (qx x.nm)).2]):=by
 refine pu F74 (by kernel_rfl) (of_eq (nXT x _) ⟨PureW.mk (c79 x h1 h2 hl),trivial,?_⟩)
 have hs:stR x=(qx x.nm).pa:=rfl
 rw[hs]
 have hlen:=d9 x.nm
 have hl2:(qx x.nm).dig.length<=1000000:=Nat.le_trans hlen hl
 generalize qx x.nm=y at *
 refine qa (fun h=> ?_) fun h _=>qa (fun h3=> ?_) fun h3=> ?_
 ·have h:(y.dig==[])=true:=h
  have h:y.dig=[]:=by simpa using h
  have e:txR y=([48],0):=by unfold txR wu;rw[if_pos h]
  rw[e];exact Wk.refl _
 ·have h:¬y.dig=[]:=by intro h0;rw[show y.pa.dig=y.dig from rfl,h0]at h;cases h
  have hp:y.pa.e=y.fst:=by show y.pe=_;unfold Nm.pe;rw[if_neg h]
  rw[hp]at h3
  have h4:y.dig.length > 17\/y.fst < -400\/y.fst > 400:=by
   have h3:(bif bif decide ((y.dig.length:Int) > 17) then true else decide (y.fst < -400) then true else decide (y.fst > 400))=true:=h3
   by_cases c1:(y.dig.length:Int) > 17
   ·left;omega
   ·rw[decide_eq_false c1,cond_false]at h3
    by_cases c2:y.fst < -400
    ·exact .inr (.inl c2)
    ·rw[decide_eq_false c2,cond_false]at h3
     exact .inr (.inr (of_decide_eq_true h3))
  have e:txR y=([],9):=by unfold txR wu;rw[if_neg h,if_pos h4]
  rw[e];exact Wk.refl _
 ·have h:¬y.dig=[]:=by intro h0;rw[show y.pa.dig=y.dig from rfl,h0]at h;cases h
  have hp:y.pa.e=y.fst:=by show y.pe=_;unfold Nm.pe;rw[if_neg h]
  rw[hp]at h3⊢
  have h4:¬(y.dig.length > 17\/y.fst < -400\/y.fst > 400):=by
   have h3:(bif bif decide ((y.dig.length:Int) > 17) then true else decide (y.fst < -400) then true else decide (y.fst > 400))=false:=h3
   rintro(c|c|c)
   ·rw[decide_eq_true (by omega)]at h3;cases h3
   ·rw[decide_eq_true c]at h3
    cases hd:decide ((y.dig.length:Int) > 17) <;> rw[hd]at h3 <;> cases h3
   ·rw[decide_eq_true c]at h3
    cases hd:decide ((y.dig.length:Int) > 17) <;> cases hd2:decide (y.fst < -400) <;> rw[hd,hd2]at h3 <;> cases h3
  have h5:∀b,b=(y.dig.take 1++(if y.dig.length > 1 then[46]++y.dig.drop 1 else[]))->At (En Tryz.f74) (fi Tryz.f74 fun d=>Wk d (.tup [.str (txR y).1,I (txR y).2])) [.code [1,1,1,1,1,1]] ⟨[(1,.own [B y.neg,.str y.dig,I y.fst]),(4,.str b)],.empty⟩:=fun b hb=>by
   have e:txR y=((if y.neg then[45] else[])++b++[101]++Lib.itoa y.fst,0):=by unfold txR wu;rw[if_neg h,if_neg h4,hb]
   have hbl:b.length<=20:=by
    rw[hb,List.length_append,List.length_take]
    split
    ·simp only[List.length_append,List.length_drop,List.length_singleton];omega
    ·simp only[List.length_nil];omega
   have hi:=Lib.itoa_length_le y.fst (by omega) (by omega)
   have last:∀q:Str,q.length<=21->q=(if y.neg then[45] else[])++b->At (En Tryz.f74) (fi Tryz.f74 fun d=>Wk d (.tup [.str (txR y).1,I (txR y).2])) [.code [1,1,1,1,1,1,1]] ⟨[(1,.own [B y.neg,.str y.dig,I y.fst]),(4,.str q)],.empty⟩:=fun q hq hqe=>by
    refine qe jv _ _ _ (of_eq (q51 y.neg y.dig y.fst q _) ⟨by unfold jt;omega,PureW.mk (q5w _ (by omega) (by omega)),?_,?_⟩)
    ·have:∀w:Str,w.length<=1->(q++w).length+(Lib.itoa y.fst).length<=jt:=fun w hw=>by rw[List.length_append];unfold jt;omega
     exact this [101] (by decide)
    ·rw[e,<-hqe];exact Wk.refl _
   refine qe jv _ _ _ (of_eq (q50 y.neg y.dig y.fst b _) (qa (fun hn=>⟨by unfold jt;omega,?_⟩) fun hn=> ?_))
   ·exact last (45::b) (by simp only[List.length_cons];omega) (by rw[hn];rfl)
   ·exact last b (by omega) (by rw[hn];rfl)
  have hl0:0<y.dig.length:=List.length_pos_iff.2 h
  refine⟨⟨by omega,by omega,by show(1:Int)<=(y.dig.length:Int);omega⟩,fun _=>qa (fun h6=> ?_) fun h6=> ?_⟩
  ·have h6:(y.dig.length:Int) > 1:=of_decide_eq_true h6
   refine⟨?_,⟨by omega,by show(1:Int)<=(y.dig.length:Int);omega⟩,?_,h5 _ ?_⟩
   ·show(List.drop 0 (List.take 1 y.dig)).length+1<=jt
    rw[List.drop_zero,List.length_take];unfold jt;omega
   ·show(List.drop 0 (List.take 1 y.dig)++[46]).length+(List.drop 1 y.dig).length<=jt
    rw[List.drop_zero,List.length_append,List.length_take,List.length_drop,List.length_singleton];unfold jt;omega
   ·rw[if_pos (by omega)]
    show List.drop 0 (List.take 1 y.dig)++[46]++List.drop 1 y.dig=_
    rw[List.drop_zero,List.append_assoc]
  ·have h6:¬(y.dig.length:Int) > 1:=of_decide_eq_false h6
   refine h5 _ ?_
   rw[if_neg (by omega),List.append_nil];rfl
end Go.Proofs.YtiekphbkomddfaaGreatDoor.S1
