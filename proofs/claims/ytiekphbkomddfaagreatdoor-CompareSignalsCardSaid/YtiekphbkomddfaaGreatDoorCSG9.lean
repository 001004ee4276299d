/- Comparing small sources: symmetric, and less with more tolerance; the plain law. -/
import Derived.Test.YtiekphbkomddfaaGreatDoorCSG8
namespace Go.Proofs.YtiekphbkomddfaaGreatDoor.S1
open Go Go.Ab Go.Proofs
attribute [local instance] qda
theorem qi1(u:Bool)(x y:UInt8):qgb u x y=qgb u y x:=by
 unfold qgb
 have h:((x.toNat:Int)!=(y.toNat:Int))=((y.toNat:Int)!=(x.toNat:Int)):=bne_comm
 rw[h]
 cases ((y.toNat:Int)!=(x.toNat:Int)) <;> cases u <;> cases nx x <;> cases nx y <;> rfl
theorem qi2(u:Bool)(x:UInt8):qgb u x x=false:=by
 unfold qgb
 rw[bne_self_eq_false];rfl
theorem qgd(u:Bool)(a b:Str):uj u a b=uj u b a:=by
 unfold uj
 by_cases h:a.length=b.length
 ·rw[decide_eq_true h,decide_eq_true h.symm,h]
  simp only[qi1 u]
 ·rw[decide_eq_false h,decide_eq_false fun e=>h e.symm];rfl
theorem qge(u:Bool)(a:Str):uj u a a=true:=by
 unfold uj
 rw[decide_eq_true rfl,Bool.true_and,List.all_eq_true]
 intro i _
 rw[qi2];rfl
theorem qk9(a b t:Str):wiB a b t=wiB b a t:=by
 unfold wiB
 cases ha:(qv a).2 <;> cases hb:(qv b).2 <;> cases ht:(qv t).2 <;> try rfl
 show ql2 (qv a).1 (qv b).1 (qv t).1=ql2 (qv b).1 (qv a).1 (qv t).1
 rw[me (zc ha) (zc hb) (zc ht),me (zc hb) (zc ha) (zc ht),decide_eq_decide]
 omega
theorem qla{a b t:Str}(h:wiB a b t=true):(qv a).2=true/\(qv b).2=true/\(qv t).2=true/\(((qv a).1.val-(qv b).1.val).natAbs:Int)<=(qv t).1.val:=by
 unfold wiB at h
 cases ha:(qv a).2 <;> cases hb:(qv b).2 <;> cases ht:(qv t).2 <;> rw[ha,hb,ht]at h <;> try (cases h)
 have h:ql2 (qv a).1 (qv b).1 (qv t).1=true:=h
 rw[me (zc ha) (zc hb) (zc ht)]at h
 exact⟨rfl,rfl,rfl,of_decide_eq_true h⟩
theorem qmi{a b t:Str}(ha:(qv a).2=true)(hb:(qv b).2=true)(ht:(qv t).2=true)(h:(((qv a).1.val-(qv b).1.val).natAbs:Int)<=(qv t).1.val):wiB a b t=true:=by
 unfold wiB
 rw[ha,hb,ht]
 show ql2 (qv a).1 (qv b).1 (qv t).1=true
 rw[me (zc ha) (zc hb) (zc ht)]
 exact decide_eq_true h
theorem qlb(k:Int)(t:Tol)(a b:Str):saF k t a b=saF k t b a:=by
 unfold saF
 rw[qgd,qk9,show(a==b)=(b==a) from BEq.comm]
theorem qi3(v w:Wv):ka v w=ka w v:=by unfold ka;split <;> split <;> omega
theorem qaf(v w:Wv)(i k:Int)(t:Tol):erF v w i k t=erF w v k i t:=by
 unfold erF
 simp only[and_comm (a:=inS v i),ne_comm (a:=(qm v i).kind),ne_comm (a:=(qm v i).width)]
theorem qe9{v w:Wv}{i k:Int}{t:Tol}{e s:Int}(hk:(qm v i).kind=(qm w k).kind)(h:dfP v i w k t e s):dfP w k v i t e s:=by
 unfold dfP at *
 rw[<-hk]
 refine⟨h.1,?_⟩
 rcases h.2 with ⟨h3,h4⟩|⟨h3,h4,h5⟩
 ·exact .inl ⟨h3,h4.symm⟩
 ·exact .inr ⟨h3,by rw[qlb];exact h4,fun g=>h5 ⟨g.2,g.1⟩⟩
theorem qi4{a b:List Iv}{P:Int->Prop}(h1:∀s,a.any (inP s)=true↔P s)(h2:∀s,b.any (inP s)=true↔P s):∀s,a.any (inP s)=b.any (inP s):=fun s=>by
 rw[Bool.eq_iff_iff,h1,h2]
theorem qi5{v w:Wv}(hv:SmOk v)(hw:SmOk w){i k:Int}{t:Tol}(h:erF v w i k t=0):gl v w i k t=gl w v k i t:=by
 obtain⟨n1,n2⟩:=uk hv hw h
 obtain⟨m1,m2⟩:=uk hw hv (by rw[<-qaf];exact h)
 have hk:=(sk h).2.2.2.1
 refine qkw n1 m1 (qi4 n2 fun s=> ?_)
 rw[m2,qi3]
 exact⟨qe9 hk.symm,qe9 hk⟩
theorem qlc{v w:Wv}{i k:Int}{t u:Tol}{e s:Int}(ht:t.time<=u.time)(hs:∀a b,saF (qm v i).kind t a b=true->saF (qm v i).kind u a b=true)(h:dfP v i w k u e s):dfP v i w k t e s:=by
 have hn:∀(B:Int->Str) (z:Str),co (qm v i).kind t B z e s->co (qm v i).kind u B z e s:=fun B z ⟨x,h1,h2,h3,h4,h5⟩=>⟨x,h1,h2,by omega,by omega,hs _ _ h5⟩
 unfold dfP at *
 refine⟨h.1,?_⟩
 rcases h.2 with ⟨h3,h4⟩|⟨h3,h4,h5⟩
 ·refine .inl ⟨h3,?_⟩
  rcases h4 with ⟨g1,g2⟩|⟨g1,g2⟩
  ·exact .inl ⟨g1,fun⟨x,k1,k2,k3,k4⟩=>g2 ⟨x,k1,k2,by omega,by omega⟩⟩
  ·exact .inr ⟨g1,fun⟨x,k1,k2,k3,k4⟩=>g2 ⟨x,k1,k2,by omega,by omega⟩⟩
 ·refine .inr ⟨h3,?_,fun g=>h5 ⟨hn _ _ g.1,hn _ _ g.2⟩⟩
  cases hc:saF (qm v i).kind t (jd (qm v i) s) (jd (qm w k) s) with
  |false=>rfl
  |true=>rw[hs _ _ hc]at h4;cases h4
theorem qi6:∀{l:List Iv} {lo:Int},Nor lo l->(∀s,l.any (inP s)=false)->l=[]
 | [],_,_,_=>rfl
 |x::r,_,h,hs=>by
  have:=hs x.frm
  rw[List.any_cons,je.2 ⟨Int.le_refl _,h.2.1⟩]at this
  cases this
theorem qqq{z x:List Iv}(h:∀s,z.any (inP s)=true->x.any (inP s)=true):cmR 2 z x=[]:=by
 obtain⟨n1,n2⟩:=gh 2 z x
 refine qi6 n1 fun s=> ?_
 rw[n2]
 by_cases hs:0<=s/\s<=1099511627776
 ·rw[zb hs,zb hs]
  cases hz:z.any (inP s) with
  |false=>cases x.any (inP s) <;> simp[okR]
  |true=>rw[h s hz];simp[okR]
 ·rw[decide_eq_false hs];rfl
theorem qag{v w:Wv}(hv:SmOk v)(hw:SmOk w){i k:Int}{t u:Tol}(h:erF v w i k t=0)(h2:erF v w i k u=0)(ht:t.time<=u.time)(hs:∀a b,saF (qm v i).kind t a b=true->saF (qm v i).kind u a b=true):cmR 2 (gl v w i k u) (gl v w i k t)=[] :=
 qqq fun s g=>((uk hv hw h).2 s).2 (qlc ht hs (((uk hv hw h2).2 s).1 g))
theorem qny{k:Int}{t:Tol}{a b:Str}(h:saF k t a b=true):saF k ⟨t.time,t.val,true⟩ a b=true:=by
 unfold saF at *
 have e:yq ⟨t.time,t.val,true⟩=yq t:=rfl
 rw[e]
 cases ht:yq t with
 |false=>rw[ht]at h;cases h
 |true =>
  rw[ht]at h
  cases k0:k==0 with
  |true =>
   rw[k0]at h
   have h:uj t.unk a b=true:=h
   show uj true a b=true
   unfold uj at *
   rw[Bool.and_eq_true]at h⊢
   refine⟨h.1,List.all_eq_true.2 fun i hi=> ?_⟩
   have:=List.all_eq_true.1 h.2 i hi
   rw[Bool.not_eq_true']at this⊢
   unfold qgb at *
   cases hc:((((a.getD i 0).toNat:Int))!=((b.getD i 0).toNat:Int)) with
   |false=>rfl
   |true =>
    rw[hc]at this
    cases hu:t.unk with
    |false=>rw[hu]at this;cases this
    |true=>rw[hu]at this;exact this
  |false=>rw[k0]at h;exact h
theorem qld{k:Int}{t:Tol}{a b:Str}{x:Int}(hx:0<=x/\x<=1099511627776)(h:saF k t a b=true):saF k ⟨x,t.val,t.unk⟩ a b=true:=by
 unfold saF at *
 cases ht:yq t with
 |false=>rw[ht]at h;cases h
 |true =>
  have e:yq ⟨x,t.val,t.unk⟩=true:=by
   unfold yq at ht⊢
   have tt:=yr (t:=t) ht
   rw[decide_eq_true (show t.time>=0 by omega),decide_eq_true tt.2]at ht
   simp only
   rw[decide_eq_true (show x>=0 by omega),decide_eq_true hx.2]
   exact ht
  rw[e]
  rw[ht]at h
  exact h
theorem aw:∀(l:List Chg) (v:Str) (s:Int),xt v l s=v\/∃x∈l,xt v l s=x.val
 | [],v,s=> .inl rfl
 |y::r,v,s=>by
  rw[vi]
  rcases aw r (bif decide (y.time<=s) then y.val else v) s with h|⟨x,hx,h⟩
  ·rw[h]
   cases decide (y.time<=s)
   ·exact .inl rfl
   ·exact .inr ⟨y,List.mem_cons_self,rfl⟩
  ·exact .inr ⟨x,List.mem_cons_of_mem _ hx,h⟩
theorem qb6{v:Wv}{i:Int}(hi:inS v i):qm v i∈v.sig:=by
 have:i.toNat<v.sig.length:=by omega
 unfold qm
 rw[List.getD_eq_getElem?_getD,List.getElem?_eq_getElem this]
 exact List.getElem_mem this
theorem qle{v:Wv}(hb:smB v=true)(hc:clB v=true){i:Int}(hi:inS v i){t:Tol}(ht:yq t=true)(h3:(qm v i).kind≠3)(s:Int):saF (qm v i).kind t (jd (qm v i) s) (jd (qm v i) s)=true:=by
 have hm:=qb6 hi
 obtain⟨⟨k0,k3⟩,_⟩:=qdo hb _ hm
 have hq:=List.all_eq_true.1 hc _ hm
 generalize qm v i=q at *
 unfold saF
 rw[ht]
 have:q.kind=0\/q.kind=1\/q.kind=2:=by omega
 rcases this with e|e|e
 ·rw[e];exact qge _ _
 ·rw[e]
  have hv:(qv (jd q s)).2=true:=by
   unfold jd
   rw[if_neg h3]
   have hi0:ini q=[48]:=by unfold ini;rw[if_pos e]
   rcases aw q.chg (ini q) s with h|⟨x,hx,h⟩
   ·rw[h,hi0];decide +kernel
   ·rw[h]
    have:=List.all_eq_true.1 hq x hx
    rw[e]at this
    cases hx2:(qv x.val).2 with
    |true=>rfl
    |false=>rw[hx2]at this;cases this
  have htv:(qv t.val).2=true/\dsF t.val>=0:=by
   unfold yq at ht
   cases h1:(qv t.val).2 with
   |true =>
    refine⟨rfl,?_⟩
    by_cases h2:dsF t.val>=0
    ·exact h2
    ·rw[decide_eq_false h2]at ht
     simp at ht
   |false=>rw[h1]at ht;simp at ht
  refine qmi hv hv htv.1 ?_
  have hn:=(zc htv.1).n
  have h2:=htv.2
  unfold dsF at h2
  rw[if_pos htv.1,al hn]at h2
  have:0<=(qv t.val).1.val:=by
   rcases ql1 (qv t.val).1.val with ⟨g,e⟩|⟨g,_⟩|⟨g,_⟩
   ·rw[e]at h2;omega
   ·omega
   ·omega
  rw[Int.sub_self];exact this
 ·rw[e];exact beq_self_eq_true _
theorem qlf{v:Wv}(hv:SmOk v)(hb:smB v=true)(hc:clB v=true){i:Int}{t:Tol}(h:erF v v i i t=0):gl v v i i t=[]:=by
 obtain⟨n1,n2⟩:=uk hv hv h
 obtain⟨ht,hi,_⟩:=sk h
 have tt:=yr ht
 refine qi6 n1 fun s=> ?_
 cases hs:(gl v v i i t).any (inP s) with
 |false=>rfl
 |true =>
  obtain⟨⟨s0,s1⟩,h4⟩:=(n2 s).1 hs
  rcases h4 with ⟨_,⟨g1,g2⟩|⟨g1,g2⟩⟩|⟨h3,g,_⟩
  ·exact absurd ⟨s,s1,g1,by omega,by omega⟩ g2
  ·exact absurd ⟨s,s1,g1,by omega,by omega⟩ g2
  ·rw[qle hb hc hi ht h3 s]at g;cases g
theorem qds{v w:Wv}{i k:Int}{t u:Tol}(h:erF v w i k t=0)(hu:yq u=true):erF v w i k u=0:=by
 obtain⟨_,h1,h2,h3,h4⟩:=sk h
 unfold erF
 rw[if_neg (by rw[hu];simp),if_neg (not_not_intro ⟨h1,h2⟩),if_neg (not_not_intro h3),if_neg (not_not_intro h4)]
theorem qlg{v w:Wv}{i k:Int}{t:Tol}(h:erF v w i k t=0):erF v v i i t=0:=by
 obtain⟨h0,h1,h2,h3,h4⟩:=sk h
 unfold erF
 rw[if_neg (by rw[h0];simp),if_neg (not_not_intro ⟨h1,h1⟩),if_neg (not_not_intro rfl),if_neg (not_not_intro rfl)]
def e9:Str:=[49,101,57]
theorem qlh:(qv e9).2=true/\(qv e9).1=⟨false,[49],9⟩/\dsF e9=1:=by decide +kernel
theorem qi7{t:Tol}(h:yq t=true):yq ⟨t.time,e9,t.unk⟩=true:=by
 have tt:=yr h
 unfold yq
 simp only
 rw[decide_eq_true (show t.time>=0 by omega),decide_eq_true tt.2,qlh.1,qlh.2.2];rfl
theorem qqr{k:Int}{t:Tol}{a b:Str}(h0:¬dsF t.val > 0)(h:saF k t a b=true):saF k ⟨t.time,e9,t.unk⟩ a b=true:=by
 unfold saF at *
 cases ht:yq t with
 |false=>rw[ht]at h;cases h
 |true =>
  rw[qi7 ht]
  rw[ht]at h
  cases k0:k==0 with
  |true=>rw[k0]at h;exact h
  |false =>
   rw[k0]at h
   cases k1:k==1 with
   |false=>rw[k1]at h;exact h
   |true =>
    rw[k1]at h
    have h:wiB a b t.val=true:=h
    obtain⟨ha,hb,htv,hle⟩:=qla h
    show wiB a b e9=true
    refine qmi ha hb qlh.1 ?_
    have hn:=(zc htv).n
    unfold dsF at h0
    rw[if_pos htv,al hn]at h0
    have h1:(qv t.val).1.val<=0:=by
     rcases ql1 (qv t.val).1.val with ⟨g,_⟩|⟨g,_⟩|⟨g,e⟩
     ·omega
     ·omega
     ·rw[e]at h0;omega
    have h2:0<=(qv e9).1.val:=by
     rw[qlh.2.1]
     exact qeh _
    omega
theorem r6(z:Str):mn z=dsF z:=by
 unfold mn dsF
 obtain⟨h1,h2⟩:=qbu z
 have hc:ck ra z=ck jw z:=aj (by decide) (by decide) z
 rw[h1,hc]
 cases hb:ck jw z with
 |false=>rfl
 |true =>
  rw[h2 (by rw[hc];exact hb),if_pos rfl,(rt (c1:=ra) (c2:=jw) (by decide) (by decide) (by rw[hc];exact hb)).2];rfl
noncomputable def wiS(x y:Str):Pa:=qe8 (kg jw x).pa (qk8 (kg jw y).pa)
noncomputable def wiA(x y:Str):Pa:=qk8 ⟨false,(wiS x y).dig,(wiS x y).e⟩
theorem F29:OkF 29 Tryz.f29:=⟨by kernel_rfl,by kernel_rfl,by kernel_rfl⟩
def q7o:List (List Nat×List Nat):=[]
noncomputable def q7p(x:Str)(y:Str)(t:Str):List Nat->Nat->Option Ans:=qf [([1,0,0],1,Ans.pure [.str x] (B (qv x).snd)),([1,0,0],5,Ans.pure [.str y] (B (qv y).snd)),([1,0,0],10,Ans.pure [.str t] (B (qv t).snd)),([1,1,0],1,Ans.pure [.str x] (kg jw x).pa.d),([1,1,0],3,Ans.pure [.str y] (kg jw y).pa.d),([1,1,0],4,Ans.pure [(kg jw y).pa.d] (qk8 (kg jw y).pa).d),([1,1,0],5,Ans.pure [(kg jw x).pa.d,(qk8 (kg jw y).pa).d] (wiS x y).d),([1,1,1,1,0],1,Ans.pure [.str t] (kg jw t).pa.d),([1,1,1,1,0],3,Ans.pure [{neg:=false,dig:=(wiS x y).dig,e:=(wiS x y).e:Pa}.d] (wiA x y).d),([1,1,1,1,0],4,Ans.pure [(kg jw t).pa.d,(wiA x y).d] (qe8 (kg jw t).pa (wiA x y)).d),([1,1,1,1,0],5,Ans.pure [(qe8 (kg jw t).pa (wiA x y)).d] (I (sgP (qe8 (kg jw t).pa (wiA x y)))))]
theorem nYw(x y t:Str)(K:D->Prop):qn (En Tryz.f29) (fi Tryz.f29 K) (q7p x y t) q7o 200 [.code []] ⟨qc 0 [.str x,.str y,.str t],.empty⟩ =
 (PQ PP 28 [.str x] (B (qv x).snd)/\
 ((!!(qv x).snd)=true->PQ PP 28 [.str y] (B (qv y).snd))/\
  ((!bif !(qv x).snd then true else !(qv y).snd)=true->PQ PP 28 [.str t] (B (qv t).snd))/\
   bif bif bif !(qv x).snd then true else !(qv y).snd then true else !(qv t).snd then K (B false)
   else
    PQ PP 48 [.str x] (kg jw x).pa.d /\
     PQ PP 48 [.str y] (kg jw y).pa.d /\
      PQ PP 49 [(kg jw y).pa.d] (qk8 (kg jw y).pa).d /\
       PQ PP 47 [(kg jw x).pa.d,(qk8 (kg jw y).pa).d] (wiS x y).d /\
        True/\True/\PQ PP 48 [.str t] (kg jw t).pa.d/\PQ PP 49 [{neg:=false,dig:=(wiS x y).dig,e:=(wiS x y).e:Pa}.d] (wiA x y).d/\PQ PP 47 [(kg jw t).pa.d,(wiA x y).d] (qe8 (kg jw t).pa (wiA x y)).d/\PQ PP 50 [(qe8 (kg jw t).pa (wiA x y)).d] (I (sgP (qe8 (kg jw t).pa (wiA x y))))/\K (B (decide (sgP (qe8 (kg jw t).pa (wiA x y))>=0)))):=by kernel_rfl
theorem F26:OkF 26 Tryz.f26:=⟨by kernel_rfl,by kernel_rfl,by kernel_rfl⟩
def q7q:List (List Nat×List Nat):=[]
noncomputable def q7r(t:Tol):List Nat->Nat->Option Ans:=qf [([1,0],11,Ans.pure [.str t.val] (B (qv t.val).snd)),([1,0],16,Ans.pure [.str t.val] (I (mn t.val)))]
theorem nZv(t:Tol)(K:D->Prop):qn (En Tryz.f26) (fi Tryz.f26 K) (q7r t) q7q 200 [.code []] ⟨qc 0 [t.d],.empty⟩ =
 (((bif decide (t.time>=0) then decide (t.time<=1099511627776) else false)=true->PQ PP 28 [.str t.val] (B (qv t.val).snd))/\((bif bif decide (t.time>=0) then decide (t.time<=1099511627776) else false then(qv t.val).snd else false)=true->PQ PP 18 [.str t.val] (I (mn t.val)))/\K (B (bif bif bif decide (t.time>=0) then decide (t.time<=1099511627776) else false then(qv t.val).snd else false then decide (mn t.val>=0) else false))):=by kernel_rfl
theorem F27:OkF 27 Tryz.f27:=⟨by kernel_rfl,by kernel_rfl,by kernel_rfl⟩
def q7s:List (List Nat×List Nat):=[]
noncomputable def q7t:List Nat->Nat->Option Ans:=qf []
theorem nZu(c:UInt8)(K:D->Prop):qn (En Tryz.f27) (fi Tryz.f27 K) (q7t ) q7s 200 [.code []] ⟨qc 0 [qk c],.empty⟩ =
 (K (B (bif(↑c.toNat:Int)==120 then true else(↑c.toNat:Int)==122))):=by kernel_rfl
theorem F10:OkF 10 Tryz.f10:=⟨by kernel_rfl,by kernel_rfl,by kernel_rfl⟩
def qyt:List (List Nat×List Nat):=[([1,1,0,1,0,1,0,0,1,0],[1,2,7,9])]
noncomputable def q7u(x:Str)(y:Str)(t:Tol):List Nat->Nat->Option Ans:=qf [([1,0,0],1,Ans.pure [t.d] (B (yq t))),([1,1,0,1,0,1,1,1,0,0],1,Ans.pure [.str x] (B (qv x).snd)),([1,1,0,1,0,1,1,1,0,0],4,Ans.pure [.str y] (B (qv y).snd)),([1,1,0,1,0,1,1,1,0,0],11,Ans.pure [.str x,.str y,.str t.val] (B (wiB x y t.val)))]
theorem nZs(k:Int)(x y:Str)(t:Tol)(K:D->Prop):qn (En Tryz.f10) (fi Tryz.f10 K) (q7u x y t) qyt 200 [.code []] ⟨qc 0 [I k,.str x,.str y,t.d],.empty⟩ =
 (PQ PP 26 [t.d] (B (yq t))/\bif !yq t then K (B false) else bif k==0 then At (En Tryz.f10) (fi Tryz.f10 K) [It.code [1,1,0,1,0,1,0,0,1,0],It.blk 1,It.code [1,1,0,1,0,1,0,1],It.blk 0,It.code [1,1,1]] {sl:=[(1,.str x),(2,.str y),(7,.own [I t.time,.str t.val,B t.unk]),(9,I 0)],h:=Heap.empty:St} else bif k==1 then PQ PP 28 [.str x] (B (qv x).snd)/\((qv x).snd=true->PQ PP 28 [.str y] (B (qv y).snd))/\((bif(qv x).snd then(qv y).snd else false)=true->PQ PP 29 [.str x,.str y,.str t.val] (B (wiB x y t.val)))/\K (B (bif bif(qv x).snd then(qv y).snd else false then wiB x y t.val else false)) else bif k==2 then K (B (x==y)) else K (B (k==3))):=by kernel_rfl
def SZs(x y:Str)(t:Tol)(i:Int):St:=⟨[(1,.str x),(2,.str y),(7,.own [I t.time,.str t.val,B t.unk]),(9,I i)],.empty⟩
noncomputable def qwz(x:Str)(y:Str)(i:Int):List Nat->Nat->Option Ans:=qf [([1,1,0,1,0,1,0,0,1,0,0,1,0,0,0],15,Ans.pure [qk (List.getD x i.toNat 0)] (B (nx (List.getD x i.toNat 0)))),([1,1,0,1,0,1,0,0,1,0,0,1,0,0,0],21,Ans.pure [qk (List.getD y i.toNat 0)] (B (nx (List.getD y i.toNat 0))))]
theorem q7v(x y:Str)(t:Tol)(i:Int)(J:St->Prop)(K:D->Prop):qn (En Tryz.f10) (fi Tryz.f10 K) (qwz x y i) qyt 200 [.code [1,1,0,1,0,1,0,0,1,0,0],stp [1,2,7,9] J,.blk 1,.code [1,1,0,1,0,1,0,1],.blk 0,.code [1,1,1]] (SZs x y t i)=
 (List.length x<=jt->(decide (i<(↑(List.length x):Int))=true->List.length y<=jt)->bif bif decide (i<(↑(List.length x):Int)) then decide (i<(↑(List.length y):Int)) else false then(0<=i/\i<(↑(List.length x):Int))/\(0<=i/\i<(↑(List.length y):Int))/\(((↑(List.getD x i.toNat 0).toNat:Int)!=(↑(List.getD y i.toNat 0).toNat:Int) && !!t.unk)=true->0<=i/\i<(↑(List.length x):Int))/\(((↑(List.getD x i.toNat 0).toNat:Int)!=(↑(List.getD y i.toNat 0).toNat:Int) && !!t.unk)=true->PQ PP 27 [qk (List.getD x i.toNat 0)] (B (nx (List.getD x i.toNat 0))))/\(((↑(List.getD x i.toNat 0).toNat:Int)!=(↑(List.getD y i.toNat 0).toNat:Int) && !!t.unk && !nx (List.getD x i.toNat 0))=true->0<=i/\i<(↑(List.length y):Int))/\(((↑(List.getD x i.toNat 0).toNat:Int)!=(↑(List.getD y i.toNat 0).toNat:Int) && !!t.unk && !nx (List.getD x i.toNat 0))=true->PQ PP 27 [qk (List.getD y i.toNat 0)] (B (nx (List.getD y i.toNat 0))))/\bif bif(↑(List.getD x i.toNat 0).toNat:Int)!=(↑(List.getD y i.toNat 0).toNat:Int) then bif !t.unk then true else bif !nx (List.getD x i.toNat 0) then !nx (List.getD y i.toNat 0) else false else false then K (B false) else J {sl:=[(1,.str x),(2,.str y),(7,.own [I t.time,.str t.val,B t.unk]),(9,I (qg .i64 i 1))],h:=Heap.empty:St} else List.length x<=jt->List.length y<=jt->K (B ((↑(List.length x):Int)==(↑(List.length y):Int)))):=by kernel_rfl
theorem F3:OkF 3 Tryz.f3:=⟨by kernel_rfl,by kernel_rfl,by kernel_rfl⟩
def lv3:List (List Nat×List Nat):=[]
noncomputable def q7w(k:Int)(x:Str)(y:Str)(t:Tol):List Nat->Nat->Option Ans:=qf [([1,0,1,0,0],0,Ans.pure [] (B true)),([1,1,0],4,Ans.pure [I k,.str x,.str y,t.d] (B (saF k t x y))),([1,1,0],9,Ans.pure [I k,.str x,.str y,t.d] (B (saF k t x y))),([1,1,0],12,Ans.pure [] (B true))]
theorem nCS(k:Int)(x y:Str)(t:Tol)(K:D->Prop):qn (En Tryz.f3) (fi Tryz.f3 K) (q7w k x y t) lv3 200 [.code []] ⟨qc 0 [I k,.str x,.str y,t.d],.empty⟩ =
 (List.length x<=jt->((!decide ((↑(List.length x):Int) > 130))=true->List.length y<=jt)->((!bif decide ((↑(List.length x):Int) > 130) then true else decide ((↑(List.length y):Int) > 130))=true->List.length t.val<=jt)->bif bif bif decide ((↑(List.length x):Int) > 130) then true else decide ((↑(List.length y):Int) > 130) then true else decide ((↑(List.length t.val):Int) > 130) then PQ PP 8 [] (B true)/\K (B true) else PQ PP 9 [I k,.str x,.str y,t.d] (B (saF k t x y))/\PQ PP 10 [I k,.str x,.str y,t.d] (B (saF k t x y))/\((saF k t x y==saF k t x y)=true->PQ PP 8 [] (B true))/\K (B (bif saF k t x y==saF k t x y then true else false))):=by kernel_rfl
theorem qi8(x:Nm):(qx x).ex+(qx x).dig.length<=max 0 (x.ex+x.dig.length):=by
 have h1:=nw x.dig
 have h2:=qbr (tL x.dig)
 unfold qx
 split
 ·show(0:Int)+((0:Nat):Int)<=_;omega
 ·show x.ex+(((tL x.dig).length-(tR (tL x.dig)).length:Nat):Int)+((tR (tL x.dig)).length:Int)<=_;omega
theorem PaB.of{x:Nm}(hn:Nrm x)(l:x.dig.length<=2000)(e1 : -1000<=x.ex)(e2:x.ex+x.dig.length<=1000):PaB x.pa:=by
 have : -2000<=x.pe/\x.pe<=2000:=by
  unfold Nm.pe Nm.fst
  split <;> omega
 exact⟨hn.dg,l,this.1,this.2⟩
theorem qqs{x y t:Str}(hx:ck jw x=true)(hy:ck jw y=true)(ht:ck jw t=true) :
  PaB (kg jw x).pa/\PaB (qk8 (kg jw y).pa)/\PaB (kg jw t).pa/\PaB (wiA x y)/\decide (sgP (qe8 (kg jw t).pa (wiA x y))>=0)=qpe (kg jw x) (kg jw y) (kg jw t):=by
 obtain⟨a1,a2,a3,a4⟩:=ak hx
 obtain⟨b1,b2,b3,b4⟩:=ak hy
 obtain⟨t1,t2,t3,t4⟩:=ak ht
 have hm:=gd b1
 have eS:wiS x y=(qcb (kg jw x) (zp (kg jw y))).pa:=by unfold wiS;rw[qdr,qiz]
 have eA:wiA x y=(zp (qji (qcb (kg jw x) (zp (kg jw y))))).pa:=by unfold wiA;rw[eS];exact qdr (qji _)
 rw[eA,qiz,qqo,qdr]
 unfold qpe
 generalize kg jw x=a at *
 generalize kg jw y=b at *
 generalize kg jw t=c at *
 obtain⟨v2,n2⟩:=ai a1 hm.2 (by omega) (show -1000<=b.ex by omega)
 have s1:=qh7 (a:=a) (b:=zp b) (by omega) (show -1000<=b.ex by omega)
 have sl:(qcb a (zp b)).dig.length<=2000/\(qcb a (zp b)).ex+(qcb a (zp b)).dig.length<=1000:=by
  have p1 : -500<=a.pe/\a.pe<=500:=by unfold Nm.pe Nm.fst;split <;> omega
  have p2 : -500<=(zp b).pe/\(zp b).pe<=500:=by
   have:(zp b).pe=b.pe:=rfl
   rw[this]
   unfold Nm.pe Nm.fst;split <;> omega
  have l2:(zp b).dig.length<=17:=b2
  have hn:0<=xz a (zp b)/\xz a (zp b)<=600:=by unfold xz;omega
  have f1:(kq a (xz a (zp b))).length<=700+xz a (zp b)/\(kq (zp b) (xz a (zp b))).length<=700+xz a (zp b):=by
   unfold kq
   rw[List.length_append,List.length_append,ko,ko];omega
  have hk:ah (kq a (xz a (zp b))) (kq (zp b) (xz a (zp b)))<=700+xz a (zp b)/\(kq a (xz a (zp b))).length<=ah (kq a (xz a (zp b))) (kq (zp b) (xz a (zp b)))/\(kq (zp b) (xz a (zp b))).length<=ah (kq a (xz a (zp b))) (kq (zp b) (xz a (zp b))):=by unfold ah;omega
  unfold qcb
  simp only
  generalize xz a (zp b)=n at *
  generalize ah (kq a n) (kq (zp b) n)=k at *
  have g1:=gb hk.2.1
  have g2:=gb hk.2.2
  generalize zm (kq a n) k=p at *
  generalize zm (kq (zp b) n) k=q at *
  have key:∀(s:Bool) (z:Str),z.length<=k+1->(qx ⟨s,z,-n⟩).dig.length<=2000/\(qx ⟨s,z,-n⟩).ex+(qx ⟨s,z,-n⟩).dig.length<=1000:=fun s z hz=>by
   have h1:=d9 ⟨s,z,-n⟩
   have h2:=qi8 ⟨s,z,-n⟩
   simp only at h1 h2
   omega
  split
  ·refine key _ _ ?_
   have:=w9 false p q (by omega)
   unfold zx
   rw[List.length_cons];omega
  ·split
   ·refine key _ _ ?_
    have:=w9 true q p (by omega)
    unfold uf;omega
   ·refine key _ _ ?_
    have:=w9 true p q (by omega)
    unfold uf;omega
 generalize qcb a (zp b)=d at *
 have n3:=(ru n2).2
 have n4:=(gd n3).2
 exact⟨PaB.of a1 (by omega) (by omega) (by omega),PaB.of hm.2 (show b.dig.length<=2000 by omega) (show -1000<=b.ex by omega) (show b.ex+(b.dig.length:Int)<=1000 by omega),PaB.of t1 (by omega) (by omega) (by omega),PaB.of n4 (show d.dig.length<=2000 by omega) (show -1000<=d.ex by omega) (show d.ex+(d.dig.length:Int)<=1000 by omega),rfl⟩
theorem qi9{z:Str}(h:(qv z).2=true):ck jw z=true/\(qv z).1=kg jw z:=by
 obtain⟨h1,h2⟩:=qbu z
 rw[h]at h1
 exact⟨by rw[aj (c1:=jw) (c2:=ra) (by decide) (by decide)];exact h1.symm,by rw[h2 h1.symm];exact(rt (c1:=jw) (c2:=ra) (by decide) (by decide) (by rw[aj (c1:=jw) (c2:=ra) (by decide) (by decide)];exact h1.symm)).2⟩
theorem c29(x y t:Str)(lx:x.length<=1000)(ly:y.length<=1000)(lt:t.length<=1000):Pure PP 29 [.str x,.str y,.str t] (B (wiB x y t)):=by
 refine pu F29 (by kernel_rfl) (of_eq (nYw x y t _) ⟨PureW.mk (c28 x lx),fun _=>PureW.mk (c28 y ly),fun _=>PureW.mk (c28 t lt),qa (fun h=> ?_) fun h=> ?_⟩)
 ·unfold wiB;rw[h];exact Wk.refl _
 ·have h0:=h
  have hx:(qv x).2=true:=by cases c:(qv x).2 with|true=>rfl|false=>rw[c]at h;cases h
  have hy:(qv y).2=true:=by cases c:(qv y).2 with|true=>rfl|false=>rw[hx,c]at h;cases h
  have ht:(qv t).2=true:=by cases c:(qv t).2 with|true=>rfl|false=>rw[hx,hy,c]at h;cases h
  have gx:=qi9 hx
  have gy:=qi9 hy
  have gt:=qi9 ht
  obtain⟨p1,p2,p3,p4,p5⟩:=qqs gx.1 gy.1 gt.1
  have e:wiB x y t=decide (sgP (qe8 (kg jw t).pa (wiA x y))>=0):=by
   unfold wiB
   rw[h0,cond_false,p5,qpf (zc hx) (zc hy) (zc ht),gx.2,gy.2,gt.2]
  rw[e]
  exact⟨PureW.mk (c48 x lx),PureW.mk (c48 y ly),PureW.mk (c49 _),PureW.mk (c47 _ _ p1 p2),trivial,trivial,PureW.mk (c48 t lt),PureW.mk (c49 _),PureW.mk (c47 _ _ p3 p4),PureW.mk (c50 _),Wk.refl _⟩
theorem c26(t:Tol)(lt:t.val.length<=1000):Pure PP 26 [t.d] (B (yq t)):=by
 refine pu F26 (by kernel_rfl) (of_eq (nZv t _) ⟨fun _=>PureW.mk (c28 _ lt),fun _=>PureW.mk (c18 _ lt),?_⟩)
 rw[r6];exact Wk.refl _
theorem c27(c:UInt8):Pure PP 27 [qk c] (B (nx c)):=pu F27 (by kernel_rfl) (of_eq (nZu c _) (Wk.refl _))
theorem qw0(x y t:Str):(bif bif(qv x).2 then(qv y).2 else false then wiB x y t else false)=wiB x y t:=by
 unfold wiB
 cases (qv x).2 <;> cases (qv y).2 <;> rfl
theorem qqt(u:Bool)(x y:UInt8):(bif(x.toNat:Int)!=(y.toNat:Int) then bif !u then true else bif !nx x then !nx y else false else false)=qgb u x y:=by
 unfold qgb
 cases (x.toNat:Int)!=(y.toNat:Int) <;> cases u <;> cases nx x <;> cases nx y <;> rfl
theorem c10(k:Int)(x y:Str)(t:Tol)(lx:x.length<=1000)(ly:y.length<=1000)(lt:t.val.length<=1000):Pure PP 10 [I k,.str x,.str y,t.d] (B (saF k t x y)):=by
 refine pu F10 (by kernel_rfl) (of_eq (nZs k x y t _) ⟨PureW.mk (c26 t lt),?_⟩)
 unfold saF
 refine qa (fun h=>by rw[h];exact Wk.refl _) fun h=> ?_
 rw[h,cond_false]
 refine qa (fun h0=> ?_) fun h0=> ?_
 ·rw[h0,cond_true]
  refine lp (fn:=Tryz.f10) (fun i:Nat=>i<=x.length/\i<=y.length/\∀j,j<i->qgb t.unk (x.getD j 0) (y.getD j 0)=false) (fun i=>SZs x y t i) (fun i=>x.length-i) [1,2,7,9] (by kernel_rfl) (fun i hi=>of_eq (q7v x y t i _ _) fun _ _=>qa (fun hlt=> ?_) fun hge _ _=> ?_) 0 ⟨Nat.zero_le _,Nat.zero_le _,fun _ h=>absurd h (Nat.not_lt_zero _)⟩
  ·obtain⟨i1,i2,i3⟩:=hi
   have hl:i<x.length/\i<y.length:=by
    by_cases c:(i:Int)<(x.length:Int)
    ·rw[decide_eq_true c,cond_true]at hlt
     have:=of_decide_eq_true hlt
     omega
    ·rw[decide_eq_false c]at hlt;cases hlt
   rw[Int.toNat_natCast,qqt,jk (by omega) (by omega)]
   refine⟨⟨by omega,by omega⟩,⟨by omega,by omega⟩,fun _=>⟨by omega,by omega⟩,fun _=>PureW.mk (c27 _),fun _=>⟨by omega,by omega⟩,fun _=>PureW.mk (c27 _),qa (fun h1=> ?_) fun h1=> ?_⟩
   ·have e:uj t.unk x y=false:=by
     unfold uj
     by_cases c:x.length=y.length
     ·rw[decide_eq_true c,Bool.true_and,List.all_eq_false]
      exact⟨i,List.mem_range.2 hl.1,by rw[h1];simp⟩
     ·rw[decide_eq_false c];rfl
    rw[e];exact Wk.refl _
   ·refine Nx.of (i+1) ⟨hl.1,hl.2,fun j hj=> ?_⟩ (by omega) (StLe.refl _ _)
    by_cases c:j=i
    ·rw[c];exact h1
    ·exact i3 j (by omega)
  ·obtain⟨i1,i2,i3⟩:=hi
   have hi2:i=x.length\/i=y.length:=by
    by_cases c:(i:Int)<(x.length:Int)
    ·rw[decide_eq_true c,cond_true]at hge
     have:=of_decide_eq_false hge
     omega
    ·omega
   have e:uj t.unk x y=((x.length:Int)==(y.length:Int)):=by
    unfold uj
    by_cases c:x.length=y.length
    ·rw[decide_eq_true c,Bool.true_and,c,beq_self_eq_true,List.all_eq_true]
     exact fun j hj=>by rw[i3 j (by have:=List.mem_range.1 hj;omega)];rfl
    ·rw[decide_eq_false c,show((x.length:Int)==(y.length:Int))=false from beq_eq_false_iff_ne.2 (by omega)];rfl
   rw[e];exact Wk.refl _
 ·rw[h0,cond_false]
  refine qa (fun h1=> ?_) fun h1=> ?_
  ·rw[h1,cond_true]
   refine⟨PureW.mk (c28 x lx),fun _=>PureW.mk (c28 y ly),fun _=>PureW.mk (c29 x y _ lx ly lt),?_⟩
   rw[qw0];exact Wk.refl _
  ·rw[h1,cond_false]
   refine qa (fun h2=>by rw[h2];exact Wk.refl _) fun h2=>by rw[h2];exact Wk.refl _
theorem c3(k:Int)(x y:Str)(t:Tol):Pure PP 3 [I k,.str x,.str y,t.d] (B true):=by
 refine pu F3 (by kernel_rfl) (of_eq (nCS k x y t _) fun _ _ _=>qa (fun _=>⟨PureW.mk c8,Wk.refl _⟩) fun h=> ?_)
 have hl:x.length<=130/\y.length<=130/\t.val.length<=130:=by
  by_cases c1:(x.length:Int) > 130
  ·rw[decide_eq_true c1]at h;cases h
  ·by_cases c2:(y.length:Int) > 130
   ·rw[decide_eq_false c1,decide_eq_true c2]at h;cases h
   ·rw[decide_eq_false c1,decide_eq_false c2]at h
    have:¬(t.val.length:Int) > 130:=of_decide_eq_false h
    omega
 rw[beq_self_eq_true]
 exact⟨PureW.mk (c9 k x y t),PureW.mk (c10 k x y t (by omega) (by omega) (by omega)),fun _=>PureW.mk c8,Wk.refl _⟩
def sgO(v w:Wv)(i k:Int)(t:Tol):List Iv:=if erF v w i k t=0 then gl v w i k t else[]
theorem F5:OkF 5 Tryz.f5:=⟨by kernel_rfl,by kernel_rfl,by kernel_rfl⟩
def qw1:List (List Nat×List Nat):=[([1,1,0],[2,3,5,6,7,10])]
noncomputable def qw2(v:Wv)(w:Wv)(t:Tol):List Nat->Nat->Option Ans:=qf [([1,0,0],3,Ans.pure [v.d,w.d,t.d] (B (ur v w t))),([1,0,0],7,Ans.pure [v.d] (B (clB v))),([1,0,0],12,Ans.pure [w.d] (B (clB w))),([1,0,1,0,0],0,Ans.pure [] (B true))]
theorem q7x(v w:Wv)(i k:Int)(t:Tol)(n:Int)(K:D->Prop):qn (En Tryz.f5) (fi Tryz.f5 K) (qw2 v w t) qw1 200 [.code []] ⟨qc 0 [v.d,w.d,I i,I k,t.d,I n],.empty⟩ =
 (PQ PP 11 [v.d,w.d,t.d] (B (ur v w t))/\((!!ur v w t)=true->PQ PP 12 [v.d] (B (clB v)))/\((!bif !ur v w t then true else !clB v)=true->PQ PP 12 [w.d] (B (clB w)))/\bif bif bif bif bif !ur v w t then true else !clB v then true else !clB w then true else decide (n<0) then true else decide (n > 100) then PQ PP 8 [] (B true)/\K (B true) else At (En Tryz.f5) (fi Tryz.f5 K) [It.code [1,1,0],It.code [1,1,1]] {sl:=[(2,I i),(3,I k),(5,I n),(6,.own [L v.sig 3 Sig.d,L v.gap 2 Iv.d,I v.fin]),(7,.own [L w.sig 3 Sig.d,L w.gap 2 Iv.d,I w.fin]),(10,.own [I t.time,.str t.val,B t.unk])],h:=Heap.empty:St}):=by kernel_rfl
def sMe(v w:Wv)(i k n:Int)(t:Tol):List (Nat×D):=[(2,I i),(3,I k),(5,I n),(6,.own [L v.sig 3 Sig.d,L v.gap 2 Iv.d,I v.fin]),(7,.own [L w.sig 3 Sig.d,L w.gap 2 Iv.d,I w.fin]),(10,.own [I t.time,.str t.val,B t.unk])]
def hBl(n:Nat):Heap:=⟨fun _=>none,n,fun _=>none,0,fun _=>none⟩
def qw3:List (List Nat×List Nat):=[([1,1,1,0],[2,3,5,6,7,10,13,14])]
noncomputable def qw4(v:Wv)(w:Wv)(i:Int)(k:Int)(t:Tol):List Nat->Nat->Option Ans:=qf [([1,1,0],1,Ans.eff (D.bp 0 0) (hM v (-1) 0)),([1,1,0],5,Ans.eff (ren (rnm [] 1) (rnm [] 0) (D.bp 0 0)) (qh [] [] {box:=upd (fun _=>none) 0 (some (qw v (-1) 0)),nl:=1,hw:=fun _=>none,nt:=0,vw:=fun _=>none:Heap} (hM w (-1) 0))),([1,1,0],9,Ans.eff (.tup [L (sgO v w i k t) 2 Iv.d,I (erF v w i k t)]) (hBl 2))]
theorem q7y(v w:Wv)(i k n:Int)(t:Tol)(K:D->Prop):qn (En Tryz.f5) (fi Tryz.f5 K) (qw4 v w i k t) qw3 200 [.code [1,1,0],.code [1,1,1]] ⟨sMe v w i k n t,.empty⟩ =
 (Does PP 14 [.agg [L v.sig 3 Sig.d,L v.gap 2 Iv.d,I v.fin]] Heap.empty (D.bp 0 0) (hM v (-1) 0)/\
 Does PP 14 [.agg [L w.sig 3 Sig.d,L w.gap 2 Iv.d,I w.fin]] {box:=upd (fun _=>none) 0 (some (qw v (-1) 0)),nl:=1,hw:=fun _=>none,nt:=0,vw:=fun _=>none:Heap} (ren (rnm [] 1) (rnm [] 0) (D.bp 0 0)) (qh [] [] {box:=upd (fun _=>none) 0 (some (qw v (-1) 0)),nl:=1,hw:=fun _=>none,nt:=0,vw:=fun _=>none:Heap} (hM w (-1) 0))/\Does PP 13 [D.iface 36 (D.bp 0 0),I i,D.iface 36 (D.bp 1 0),I k,.agg [I t.time,.str t.val,B t.unk]] {box:=upd (upd (fun _=>none) 0 (some (qw v (-1) 0))) 1 (some (qw w (-1) 0)),nl:=2,hw:=fun _=>none,nt:=0,vw:=fun _=>none:Heap} (.tup [L (sgO v w i k t) 2 Iv.d,I (erF v w i k t)]) (hBl 2)/\At (En Tryz.f5) (fi Tryz.f5 K) [It.code [1,1,1,0],It.code [1,1,1,1]] {sl:=[(2,I i),(3,I k),(5,I n),(6,.own [L v.sig 3 Sig.d,L v.gap 2 Iv.d,I v.fin]),(7,.own [L w.sig 3 Sig.d,L w.gap 2 Iv.d,I w.fin]),(10,.own [I t.time,.str t.val,B t.unk]),(13,L (sgO v w i k t) 2 Iv.d),(14,I (erF v w i k t))],h:=(hBl 2):St}):=by kernel_rfl
def qw5:List (List Nat×List Nat):=[([1,1,1,1,1,1,0],[2,3,5,6,7,10,13])]
noncomputable def qw6(v:Wv)(w:Wv)(i:Int)(k:Int)(t:Tol)(x:List Iv):List Nat->Nat->Option Ans:=qf [([1,1,1,0],1,Ans.eff (ren (rnm [] 2) (rnm [] 0) (D.bp 0 0)) (qh [] [] (hBl 2) (hM w (-1) 0))),([1,1,1,0],5,Ans.eff (ren (rnm [] 3) (rnm [] 0) (D.bp 0 0)) (qh [] [] {box:=upd (fun _=>none) 2 (some (qw w (-1) 0)),nl:=3,hw:=fun _=>none,nt:=0,vw:=fun _=>none:Heap} (hM v (-1) 0))),([1,1,1,0],9,Ans.eff (ren (rnm [2,3] 4) (rnm [] 0) (.tup [L (sgO w v k i t) 2 Iv.d,I (erF w v k i t)])) (qh [2,3] [] {box:=upd (upd (fun _=>none) 2 (some (qw w (-1) 0))) 3 (some (qw v (-1) 0)),nl:=4,hw:=fun _=>none,nt:=0,vw:=fun _=>none:Heap} (hBl 2))),([1,1,1,1,0,0],10,Ans.pure [L x 2 Iv.d,L (sgO w v k i t) 2 Iv.d] (B true)),([1,1,1,1,1,0,1,0,0],0,Ans.pure [] (B true))]
theorem q7z(v w:Wv)(i k n:Int)(t:Tol)(x:List Iv)(e:Int)(K:D->Prop):qn (En Tryz.f5) (fi Tryz.f5 K) (qw6 v w i k t x) qw5 200 [.code [1,1,1,0],.code [1,1,1,1]] ⟨sMe v w i k n t++[(13,L x 2 Iv.d),(14,I e)],hBl 2⟩ =
 (Does PP 14 [.agg [L w.sig 3 Sig.d,L w.gap 2 Iv.d,I w.fin]] (hBl 2) (ren (rnm [] 2) (rnm [] 0) (D.bp 0 0)) (qh [] [] (hBl 2) (hM w (-1) 0))/\
 Does PP 14 [.agg [L v.sig 3 Sig.d,L v.gap 2 Iv.d,I v.fin]] {box:=upd (fun _=>none) 2 (some (qw w (-1) 0)),nl:=3,hw:=fun _=>none,nt:=0,vw:=fun _=>none:Heap} (ren (rnm [] 3) (rnm [] 0) (D.bp 0 0)) (qh [] [] {box:=upd (fun _=>none) 2 (some (qw w (-1) 0)),nl:=3,hw:=fun _=>none,nt:=0,vw:=fun _=>none:Heap} (hM v (-1) 0))/\
  Does PP 13 [D.iface 36 (D.bp 2 0),I k,D.iface 36 (D.bp 3 0),I i,.agg [I t.time,.str t.val,B t.unk]] {box:=upd (upd (fun _=>none) 2 (some (qw w (-1) 0))) 3 (some (qw v (-1) 0)),nl:=4,hw:=fun _=>none,nt:=0,vw:=fun _=>none:Heap} (ren (rnm [2,3] 4) (rnm [] 0) (.tup [L (sgO w v k i t) 2 Iv.d,I (erF w v k i t)])) (qh [2,3] [] {box:=upd (upd (fun _=>none) 2 (some (qw w (-1) 0))) 3 (some (qw v (-1) 0)),nl:=4,hw:=fun _=>none,nt:=0,vw:=fun _=>none:Heap} (hBl 2))/\
   ((!bif e !=erF w v k i t then e !=2 else false)=true->PQ PP 16 [L x 2 Iv.d,L (sgO w v k i t) 2 Iv.d] (B true))/\bif bif bif e !=erF w v k i t then e !=2 else false then true else false then K (B false) else bif e !=0 then PQ PP 8 [] (B true)/\K (B true) else At (En Tryz.f5) (fi Tryz.f5 K) [It.code [1,1,1,1,1,1,0],It.code [1,1,1,1,1,1,1]] {sl:=[(2,I i),(3,I k),(5,I n),(6,.own [L v.sig 3 Sig.d,L v.gap 2 Iv.d,I v.fin]),(7,.own [L w.sig 3 Sig.d,L w.gap 2 Iv.d,I w.fin]),(10,.own [I t.time,.str t.val,B t.unk]),(13,L x 2 Iv.d)],h:={box:=upd (upd (upd (upd (fun _=>none) 2 (some (qw w (-1) 0))) 3 (some (qw v (-1) 0))) 2 none) 3 none,nl:=4,hw:=fun _=>none,nt:=0,vw:=fun _=>none:Heap}:St}):=by kernel_rfl
def qw7:List (List Nat×List Nat):=[([1,1,1,1,1,1,1,1,1,0],[2,3,5,6,7,10,13,17,18,19])]
noncomputable def qw8(v:Wv)(i:Int)(t:Tol):List Nat->Nat->Option Ans:=qf [([1,1,1,1,1,1,0],1,Ans.eff (ren (rnm [] 4) (rnm [] 0) (D.bp 0 0)) (qh [] [] {box:=fun _=>none,nl:=4,hw:=fun _=>none,nt:=0,vw:=fun _=>none:Heap} (hM v (-1) 0))),([1,1,1,1,1,1,0],5,Ans.eff (ren (rnm [] 5) (rnm [] 0) (D.bp 0 0)) (qh [] [] {box:=upd (fun _=>none) 4 (some (qw v (-1) 0)),nl:=5,hw:=fun _=>none,nt:=0,vw:=fun _=>none:Heap} (hM v (-1) 0))),([1,1,1,1,1,1,0],9,Ans.eff (ren (rnm [4,5] 6) (rnm [] 0) (.tup [L (sgO v v i i t) 2 Iv.d,I (erF v v i i t)])) (qh [4,5] [] {box:=upd (upd (fun _=>none) 4 (some (qw v (-1) 0))) 5 (some (qw v (-1) 0)),nl:=6,hw:=fun _=>none,nt:=0,vw:=fun _=>none:Heap} (hBl 2)))]
theorem q70(v w:Wv)(i k n:Int)(t:Tol)(x:List Iv)(K:D->Prop):qn (En Tryz.f5) (fi Tryz.f5 K) (qw8 v i t) qw7 200 [.code [1,1,1,1,1,1,0],.code [1,1,1,1,1,1,1]] ⟨sMe v w i k n t++[(13,L x 2 Iv.d)],hBl 4⟩ =
 (Does PP 14 [.agg [L v.sig 3 Sig.d,L v.gap 2 Iv.d,I v.fin]] {box:=fun _=>none,nl:=4,hw:=fun _=>none,nt:=0,vw:=fun _=>none:Heap} (ren (rnm [] 4) (rnm [] 0) (D.bp 0 0)) (qh [] [] {box:=fun _=>none,nl:=4,hw:=fun _=>none,nt:=0,vw:=fun _=>none:Heap} (hM v (-1) 0))/\
 Does PP 14 [.agg [L v.sig 3 Sig.d,L v.gap 2 Iv.d,I v.fin]] {box:=upd (fun _=>none) 4 (some (qw v (-1) 0)),nl:=5,hw:=fun _=>none,nt:=0,vw:=fun _=>none:Heap} (ren (rnm [] 5) (rnm [] 0) (D.bp 0 0)) (qh [] [] {box:=upd (fun _=>none) 4 (some (qw v (-1) 0)),nl:=5,hw:=fun _=>none,nt:=0,vw:=fun _=>none:Heap} (hM v (-1) 0))/\
  Does PP 13 [D.iface 36 (D.bp 4 0),I i,D.iface 36 (D.bp 5 0),I i,.agg [I t.time,.str t.val,B t.unk]] {box:=upd (upd (fun _=>none) 4 (some (qw v (-1) 0))) 5 (some (qw v (-1) 0)),nl:=6,hw:=fun _=>none,nt:=0,vw:=fun _=>none:Heap} (ren (rnm [4,5] 6) (rnm [] 0) (.tup [L (sgO v v i i t) 2 Iv.d,I (erF v v i i t)])) (qh [4,5] [] {box:=upd (upd (fun _=>none) 4 (some (qw v (-1) 0))) 5 (some (qw v (-1) 0)),nl:=6,hw:=fun _=>none,nt:=0,vw:=fun _=>none:Heap} (hBl 2))/\
   True/\True/\At (En Tryz.f5) (fi Tryz.f5 K) [It.code [1,1,1,1,1,1,1,1,1,0],It.code [1,1,1,1,1,1,1,1,1,1]] {sl:=[(2,I i),(3,I k),(5,I n),(6,.own [L v.sig 3 Sig.d,L v.gap 2 Iv.d,I v.fin]),(7,.own [L w.sig 3 Sig.d,L w.gap 2 Iv.d,I w.fin]),(10,.own [I t.time,.str t.val,B t.unk]),(13,L x 2 Iv.d),(17,L (sgO v v i i t) 2 Iv.d),(18,I (erF v v i i t)),(19,.own [I t.time,.str t.val,B true])],h:={box:=upd (upd (upd (upd (fun _=>none) 4 (some (qw v (-1) 0))) 5 (some (qw v (-1) 0))) 4 none) 5 none,nl:=6,hw:=fun _=>none,nt:=0,vw:=fun _=>none:Heap}:St}):=by kernel_rfl
def qw9:List (List Nat×List Nat):=[([1,1,1,1,1,1,1,1,1,1,1,1,1,0],[2,3,5,6,7,10,13,19])]
noncomputable def qxa(v:Wv)(w:Wv)(i:Int)(k:Int)(x:List Iv)(um:Int)(uv:Str)(uu:Bool):List Nat->Nat->Option Ans:=qf [([1,1,1,1,1,1,1,1,1,0],1,Ans.eff (ren (rnm [] 6) (rnm [] 0) (D.bp 0 0)) (qh [] [] {box:=fun _=>none,nl:=6,hw:=fun _=>none,nt:=0,vw:=fun _=>none:Heap} (hM v (-1) 0))),([1,1,1,1,1,1,1,1,1,0],5,Ans.eff (ren (rnm [] 7) (rnm [] 0) (D.bp 0 0)) (qh [] [] {box:=upd (fun _=>none) 6 (some (qw v (-1) 0)),nl:=7,hw:=fun _=>none,nt:=0,vw:=fun _=>none:Heap} (hM w (-1) 0))),([1,1,1,1,1,1,1,1,1,0],9,Ans.eff (ren (rnm [6,7] 8) (rnm [] 0) (.tup [L (sgO v w i k ⟨um,uv,uu⟩) 2 Iv.d,I (erF v w i k ⟨um,uv,uu⟩)])) (qh [6,7] [] {box:=upd (upd (fun _=>none) 6 (some (qw v (-1) 0))) 7 (some (qw w (-1) 0)),nl:=8,hw:=fun _=>none,nt:=0,vw:=fun _=>none:Heap} (hBl 2))),([1,1,1,1,1,1,1,1,1,1,0,0],14,Ans.pure [L (sgO v w i k ⟨um,uv,uu⟩) 2 Iv.d,L x 2 Iv.d] (L (cmR 2 (sgO v w i k ⟨um,uv,uu⟩) x) 2 Iv.d))]
theorem q71(v w:Wv)(i k n:Int)(t:Tol)(x y:List Iv)(g um:Int)(uv:Str)(uu:Bool)(K:D->Prop):qn (En Tryz.f5) (fi Tryz.f5 K) (qxa v w i k x um uv uu) qw9 200 [.code [1,1,1,1,1,1,1,1,1,0],.code [1,1,1,1,1,1,1,1,1,1]] ⟨sMe v w i k n t++[(13,L x 2 Iv.d),(17,L y 2 Iv.d),(18,I g),(19,.own [I um,.str uv,B uu])],hBl 6⟩ =
 (Does PP 14 [.agg [L v.sig 3 Sig.d,L v.gap 2 Iv.d,I v.fin]] {box:=fun _=>none,nl:=6,hw:=fun _=>none,nt:=0,vw:=fun _=>none:Heap} (ren (rnm [] 6) (rnm [] 0) (D.bp 0 0)) (qh [] [] {box:=fun _=>none,nl:=6,hw:=fun _=>none,nt:=0,vw:=fun _=>none:Heap} (hM v (-1) 0))/\
 Does PP 14 [.agg [L w.sig 3 Sig.d,L w.gap 2 Iv.d,I w.fin]] {box:=upd (fun _=>none) 6 (some (qw v (-1) 0)),nl:=7,hw:=fun _=>none,nt:=0,vw:=fun _=>none:Heap} (ren (rnm [] 7) (rnm [] 0) (D.bp 0 0)) (qh [] [] {box:=upd (fun _=>none) 6 (some (qw v (-1) 0)),nl:=7,hw:=fun _=>none,nt:=0,vw:=fun _=>none:Heap} (hM w (-1) 0))/\
  Does PP 13 [D.iface 36 (D.bp 6 0),I i,D.iface 36 (D.bp 7 0),I k,.agg [I um,.str uv,B uu]] {box:=upd (upd (fun _=>none) 6 (some (qw v (-1) 0))) 7 (some (qw w (-1) 0)),nl:=8,hw:=fun _=>none,nt:=0,vw:=fun _=>none:Heap} (ren (rnm [6,7] 8) (rnm [] 0) (.tup [L (sgO v w i k ⟨um,uv,uu⟩) 2 Iv.d,I (erF v w i k ⟨um,uv,uu⟩)])) (qh [6,7] [] {box:=upd (upd (fun _=>none) 6 (some (qw v (-1) 0))) 7 (some (qw w (-1) 0)),nl:=8,hw:=fun _=>none,nt:=0,vw:=fun _=>none:Heap} (hBl 2))/\
   (((!g !=0)=true->y.length<=q8)->((!bif bif g !=0 then true else decide ((↑y.length:Int) > 0) then true else erF v w i k ⟨um,uv,uu⟩!=0)=true->PQ PP 17 [L (sgO v w i k ⟨um,uv,uu⟩) 2 Iv.d,L x 2 Iv.d] (L (cmR 2 (sgO v w i k ⟨um,uv,uu⟩) x) 2 Iv.d))/\(((!bif bif g !=0 then true else decide ((↑y.length:Int) > 0) then true else erF v w i k ⟨um,uv,uu⟩!=0)=true->(cmR 2 (sgO v w i k ⟨um,uv,uu⟩) x).length<=q8)->bif bif bif bif g !=0 then true else decide ((↑y.length:Int) > 0) then true else erF v w i k ⟨um,uv,uu⟩!=0 then true else decide ((↑(cmR 2 (sgO v w i k ⟨um,uv,uu⟩) x).length:Int) > 0) then K (B false) else True/\True/\At (En Tryz.f5) (fi Tryz.f5 K) [It.code [1,1,1,1,1,1,1,1,1,1,1,1,1,0],It.code [1,1,1,1,1,1,1,1,1,1,1,1,1,1]] {sl:=[(2,I i),(3,I k),(5,I n),(6,.own [L v.sig 3 Sig.d,L v.gap 2 Iv.d,I v.fin]),(7,.own [L w.sig 3 Sig.d,L w.gap 2 Iv.d,I w.fin]),(10,.own [I t.time,.str t.val,B t.unk]),(13,L x 2 Iv.d),(19,.own [I (qg .i64 t.time n),.str t.val,B t.unk])],h:={box:=upd (upd (upd (upd (fun _=>none) 6 (some (qw v (-1) 0))) 7 (some (qw w (-1) 0))) 6 none) 7 none,nl:=8,hw:=fun _=>none,nt:=0,vw:=fun _=>none:Heap}:St}))):=by kernel_rfl
def qxb:List (List Nat×List Nat):=[([1,1,1,1,1,1,1,1,1,1,1,1,1,1,1,1,1,0],[2,3,5,6,7,10,13,19])]
noncomputable def qxc(v:Wv)(w:Wv)(i:Int)(k:Int)(x:List Iv)(um:Int)(uv:Str)(uu:Bool):List Nat->Nat->Option Ans:=qf [([1,1,1,1,1,1,1,1,1,1,1,1,1,0],1,Ans.eff (ren (rnm [] 8) (rnm [] 0) (D.bp 0 0)) (qh [] [] {box:=fun _=>none,nl:=8,hw:=fun _=>none,nt:=0,vw:=fun _=>none:Heap} (hM v (-1) 0))),([1,1,1,1,1,1,1,1,1,1,1,1,1,0],5,Ans.eff (ren (rnm [] 9) (rnm [] 0) (D.bp 0 0)) (qh [] [] {box:=upd (fun _=>none) 8 (some (qw v (-1) 0)),nl:=9,hw:=fun _=>none,nt:=0,vw:=fun _=>none:Heap} (hM w (-1) 0))),([1,1,1,1,1,1,1,1,1,1,1,1,1,0],9,Ans.eff (ren (rnm [8,9] 10) (rnm [] 0) (.tup [L (sgO v w i k ⟨um,uv,uu⟩) 2 Iv.d,I (erF v w i k ⟨um,uv,uu⟩)])) (qh [8,9] [] {box:=upd (upd (fun _=>none) 8 (some (qw v (-1) 0))) 9 (some (qw w (-1) 0)),nl:=10,hw:=fun _=>none,nt:=0,vw:=fun _=>none:Heap} (hBl 2))),([1,1,1,1,1,1,1,1,1,1,1,1,1,1,0,0],9,Ans.pure [L (sgO v w i k ⟨um,uv,uu⟩) 2 Iv.d,L x 2 Iv.d] (L (cmR 2 (sgO v w i k ⟨um,uv,uu⟩) x) 2 Iv.d))]
theorem q72(v w:Wv)(i k n:Int)(t:Tol)(x:List Iv)(um:Int)(uv:Str)(uu:Bool)(K:D->Prop):qn (En Tryz.f5) (fi Tryz.f5 K) (qxc v w i k x um uv uu) qxb 200 [.code [1,1,1,1,1,1,1,1,1,1,1,1,1,0],.code [1,1,1,1,1,1,1,1,1,1,1,1,1,1]] ⟨sMe v w i k n t++[(13,L x 2 Iv.d),(19,.own [I um,.str uv,B uu])],hBl 8⟩ =
 (Does PP 14 [.agg [L v.sig 3 Sig.d,L v.gap 2 Iv.d,I v.fin]] {box:=fun _=>none,nl:=8,hw:=fun _=>none,nt:=0,vw:=fun _=>none:Heap} (ren (rnm [] 8) (rnm [] 0) (D.bp 0 0)) (qh [] [] {box:=fun _=>none,nl:=8,hw:=fun _=>none,nt:=0,vw:=fun _=>none:Heap} (hM v (-1) 0))/\
 Does PP 14 [.agg [L w.sig 3 Sig.d,L w.gap 2 Iv.d,I w.fin]] {box:=upd (fun _=>none) 8 (some (qw v (-1) 0)),nl:=9,hw:=fun _=>none,nt:=0,vw:=fun _=>none:Heap} (ren (rnm [] 9) (rnm [] 0) (D.bp 0 0)) (qh [] [] {box:=upd (fun _=>none) 8 (some (qw v (-1) 0)),nl:=9,hw:=fun _=>none,nt:=0,vw:=fun _=>none:Heap} (hM w (-1) 0))/\
  Does PP 13 [D.iface 36 (D.bp 8 0),I i,D.iface 36 (D.bp 9 0),I k,.agg [I um,.str uv,B uu]] {box:=upd (upd (fun _=>none) 8 (some (qw v (-1) 0))) 9 (some (qw w (-1) 0)),nl:=10,hw:=fun _=>none,nt:=0,vw:=fun _=>none:Heap} (ren (rnm [8,9] 10) (rnm [] 0) (.tup [L (sgO v w i k ⟨um,uv,uu⟩) 2 Iv.d,I (erF v w i k ⟨um,uv,uu⟩)])) (qh [8,9] [] {box:=upd (upd (fun _=>none) 8 (some (qw v (-1) 0))) 9 (some (qw w (-1) 0)),nl:=10,hw:=fun _=>none,nt:=0,vw:=fun _=>none:Heap} (hBl 2))/\
   ((decide (um<=1099511627776) && !erF v w i k ⟨um,uv,uu⟩!=0)=true->PQ PP 17 [L (sgO v w i k ⟨um,uv,uu⟩) 2 Iv.d,L x 2 Iv.d] (L (cmR 2 (sgO v w i k ⟨um,uv,uu⟩) x) 2 Iv.d))/\(((decide (um<=1099511627776) && !erF v w i k ⟨um,uv,uu⟩!=0)=true->(cmR 2 (sgO v w i k ⟨um,uv,uu⟩) x).length<=q8)->bif bif decide (um<=1099511627776) then bif erF v w i k ⟨um,uv,uu⟩!=0 then true else decide ((↑(cmR 2 (sgO v w i k ⟨um,uv,uu⟩) x).length:Int) > 0) else false then K (B false) else True/\True/\At (En Tryz.f5) (fi Tryz.f5 K) [It.code [1,1,1,1,1,1,1,1,1,1,1,1,1,1,1,1,1,0],It.code [1,1,1,1,1,1,1,1,1,1,1,1,1,1,1,1,1,1]] {sl:=[(2,I i),(3,I k),(5,I n),(6,.own [L v.sig 3 Sig.d,L v.gap 2 Iv.d,I v.fin]),(7,.own [L w.sig 3 Sig.d,L w.gap 2 Iv.d,I w.fin]),(10,.own [I t.time,.str t.val,B t.unk]),(13,L x 2 Iv.d),(19,.own [I t.time,.str {data:= #[49,101,57]:ByteArray}.data.toList,B t.unk])],h:={box:=upd (upd (upd (upd (fun _=>none) 8 (some (qw v (-1) 0))) 9 (some (qw w (-1) 0))) 8 none) 9 none,nl:=10,hw:=fun _=>none,nt:=0,vw:=fun _=>none:Heap}:St})):=by kernel_rfl
noncomputable def qxd(v:Wv)(w:Wv)(i:Int)(k:Int)(t:Tol)(x:List Iv)(um:Int)(uv:Str)(uu:Bool):List Nat->Nat->Option Ans:=qf [([1,1,1,1,1,1,1,1,1,1,1,1,1,1,1,1,1,0],1,Ans.eff (ren (rnm [] 10) (rnm [] 0) (D.bp 0 0)) (qh [] [] {box:=fun _=>none,nl:=10,hw:=fun _=>none,nt:=0,vw:=fun _=>none:Heap} (hM v (-1) 0))),([1,1,1,1,1,1,1,1,1,1,1,1,1,1,1,1,1,0],5,Ans.eff (ren (rnm [] 11) (rnm [] 0) (D.bp 0 0)) (qh [] [] {box:=upd (fun _=>none) 10 (some (qw v (-1) 0)),nl:=11,hw:=fun _=>none,nt:=0,vw:=fun _=>none:Heap} (hM w (-1) 0))),([1,1,1,1,1,1,1,1,1,1,1,1,1,1,1,1,1,0],9,Ans.eff (ren (rnm [10,11] 12) (rnm [] 0) (.tup [L (sgO v w i k ⟨um,uv,uu⟩) 2 Iv.d,I (erF v w i k ⟨um,uv,uu⟩)])) (qh [10,11] [] {box:=upd (upd (fun _=>none) 10 (some (qw v (-1) 0))) 11 (some (qw w (-1) 0)),nl:=12,hw:=fun _=>none,nt:=0,vw:=fun _=>none:Heap} (hBl 2))),([1,1,1,1,1,1,1,1,1,1,1,1,1,1,1,1,1,1,0],5,Ans.pure [.str t.val] (I (mn t.val))),([1,1,1,1,1,1,1,1,1,1,1,1,1,1,1,1,1,1,0],10,Ans.pure [L (sgO v w i k ⟨um,uv,uu⟩) 2 Iv.d,L x 2 Iv.d] (L (cmR 2 (sgO v w i k ⟨um,uv,uu⟩) x) 2 Iv.d)),([1,1,1,1,1,1,1,1,1,1,1,1,1,1,1,1,1,1,0],16,Ans.pure [] (B true))]
theorem q73(v w:Wv)(i k n:Int)(t:Tol)(x:List Iv)(um:Int)(uv:Str)(uu:Bool)(K:D->Prop):qn (En Tryz.f5) (fi Tryz.f5 K) (qxd v w i k t x um uv uu) p8 200 [.code [1,1,1,1,1,1,1,1,1,1,1,1,1,1,1,1,1,0],.code [1,1,1,1,1,1,1,1,1,1,1,1,1,1,1,1,1,1]] ⟨sMe v w i k n t++[(13,L x 2 Iv.d),(19,.own [I um,.str uv,B uu])],hBl 10⟩ =
 (Does PP 14 [.agg [L v.sig 3 Sig.d,L v.gap 2 Iv.d,I v.fin]] {box:=fun _=>none,nl:=10,hw:=fun _=>none,nt:=0,vw:=fun _=>none:Heap} (ren (rnm [] 10) (rnm [] 0) (D.bp 0 0)) (qh [] [] {box:=fun _=>none,nl:=10,hw:=fun _=>none,nt:=0,vw:=fun _=>none:Heap} (hM v (-1) 0))/\
 Does PP 14 [.agg [L w.sig 3 Sig.d,L w.gap 2 Iv.d,I w.fin]] {box:=upd (fun _=>none) 10 (some (qw v (-1) 0)),nl:=11,hw:=fun _=>none,nt:=0,vw:=fun _=>none:Heap} (ren (rnm [] 11) (rnm [] 0) (D.bp 0 0)) (qh [] [] {box:=upd (fun _=>none) 10 (some (qw v (-1) 0)),nl:=11,hw:=fun _=>none,nt:=0,vw:=fun _=>none:Heap} (hM w (-1) 0))/\
  Does PP 13 [D.iface 36 (D.bp 10 0),I i,D.iface 36 (D.bp 11 0),I k,.agg [I um,.str uv,B uu]] {box:=upd (upd (fun _=>none) 10 (some (qw v (-1) 0))) 11 (some (qw w (-1) 0)),nl:=12,hw:=fun _=>none,nt:=0,vw:=fun _=>none:Heap} (ren (rnm [10,11] 12) (rnm [] 0) (.tup [L (sgO v w i k ⟨um,uv,uu⟩) 2 Iv.d,I (erF v w i k ⟨um,uv,uu⟩)])) (qh [10,11] [] {box:=upd (upd (fun _=>none) 10 (some (qw v (-1) 0))) 11 (some (qw w (-1) 0)),nl:=12,hw:=fun _=>none,nt:=0,vw:=fun _=>none:Heap} (hBl 2))/\
   ((erF v w i k ⟨um,uv,uu⟩==0)=true->PQ PP 18 [.str t.val] (I (mn t.val)))/\((erF v w i k ⟨um,uv,uu⟩==0 && !decide (mn t.val > 0))=true->PQ PP 17 [L (sgO v w i k ⟨um,uv,uu⟩) 2 Iv.d,L x 2 Iv.d] (L (cmR 2 (sgO v w i k ⟨um,uv,uu⟩) x) 2 Iv.d))/\(((erF v w i k ⟨um,uv,uu⟩==0 && !decide (mn t.val > 0))=true->(cmR 2 (sgO v w i k ⟨um,uv,uu⟩) x).length<=q8)->((bif erF v w i k ⟨um,uv,uu⟩==0 then bif decide (mn t.val > 0) then true else(↑(cmR 2 (sgO v w i k ⟨um,uv,uu⟩) x).length:Int)==0 else false)=true->PQ PP 8 [] (B true))/\K (B (bif bif erF v w i k ⟨um,uv,uu⟩==0 then bif decide (mn t.val > 0) then true else(↑(cmR 2 (sgO v w i k ⟨um,uv,uu⟩) x).length:Int)==0 else false then true else false)))):=by kernel_rfl
theorem Does.wk{f:Nat}{args:List D}{h h1 h2:Heap}{v w:D}(c:Does PP f args h v h1)(hr:RetLe v h1 w h2):Does PP f args h w h2:=Does.of_call (c (fun d h''=>RetLe d h'' w h2) hr)
theorem qoa(bx:Nat->Option Row)(n:Nat):HeapLe ⟨bx,n,fun _=>none,0,fun _=>none⟩ (hBl n):=⟨fun _ _ e=>(by cases e),Nat.le_refl _,fun _ _ h=>h,Nat.le_refl _,fun _ _ _=>VwLe.refl _ _,fun _ h=>h⟩
theorem qnz{v w:Wv}(hv:SmOk v)(hw:SmOk w)(h40:v.fin<=40)(i k:Int)(t:Tol):Does PP 13 [xy,I i,qe0,I k,t.d] (hM2 v (-1) 0 w (-1) 0) (.tup [L (sgO v w i k t) 2 Iv.d,I (erF v w i k t)]) ⟨fun _=>none,2,fun _=>none,0,fun _=>none⟩:=by
 have c:=eSg hv hw h40 (-1) (-1) i k t
 unfold sgO
 by_cases h:erF v w i k t=0
 ·rw[(qb2 hv hw h40 h (-1) (-1)).1 ⟨.inl (by decide),.inl (by decide)⟩]at c
  rw[if_pos h,h]
  exact Does.wk c (RetLe.of (Wk.refl _) (qoa _ _))
 ·rw[(qis h).1,(qis h).2]at c
  rw[if_neg h]
  exact Does.wk c (RetLe.of (Wk.refl _) (qoa _ _))
theorem qxe{a b:List Iv}(ha:a.length<=10000)(hb:b.length<=10000)(h:cmR 2 a b=[]):Pure PP 17 [L a 2 Iv.d,L b 2 Iv.d] (L ([]:List Iv) 2 Iv.d):=by
 have:=c17 a b ha hb
 rw[h]at this
 exact this
section
variable {v w:Wv} (hv:SmOk v) (hw:SmOk w) (h40:v.fin<=40) {i k n:Int} {t:Tol} (hl:t.val.length<=1000) (h:erF v w i k t=0)
include hv hw h40 hl h
theorem meG:At (En Tryz.f5) (fi Tryz.f5 fun d=>Wk d (B true)) [.code [1,1,1,1,1,1,1,1,1,1,1,1,1,1,1,1,1,0],.code [1,1,1,1,1,1,1,1,1,1,1,1,1,1,1,1,1,1]] ⟨sMe v w i k n t++[(13,L (gl v w i k t) 2 Iv.d),(19,.own [I t.time,.str e9,B t.unk])],hBl 10⟩:=by
 have ht:=(sk h).1
 have he:erF v w i k ⟨t.time,e9,t.unk⟩=0:=qds h (qi7 ht)
 have ho:sgO v w i k ⟨t.time,e9,t.unk⟩=gl v w i k ⟨t.time,e9,t.unk⟩:=by unfold sgO;rw[if_pos he]
 have l1:=bf hv hw h40 h
 have l2:=bf hv hw h40 he
 refine qe jv _ _ _ (of_eq (q73 v w i k n t _ t.time e9 t.unk _) ⟨fr (e14 v) [] [],fr (e14 w) [] [],fr (qnz hv hw h40 i k ⟨t.time,e9,t.unk⟩) [10,11] [],?_⟩)
 rw[ho,he,r6]
 by_cases hp:dsF t.val > 0
 ·rw[decide_eq_true hp]
  exact⟨fun _=>PureW.mk (by rw[<-r6];exact c18 _ hl),fun h=>(by cases h),fun _=>⟨fun _=>PureW.mk c8,Wk.refl _⟩⟩
 ·have hz:=qag hv hw h he (Int.le_refl _) fun a b=>qqr hp
  rw[decide_eq_false hp,hz]
  exact⟨fun _=>PureW.mk (by rw[<-r6];exact c18 _ hl),fun _=>PureW.mk (qxe (by omega) (by omega) hz),fun _=>⟨fun _=>PureW.mk c8,Wk.refl _⟩⟩
theorem meF(hn:0<=n/\n<=100):At (En Tryz.f5) (fi Tryz.f5 fun d=>Wk d (B true)) [.code [1,1,1,1,1,1,1,1,1,1,1,1,1,0],.code [1,1,1,1,1,1,1,1,1,1,1,1,1,1]] ⟨sMe v w i k n t++[(13,L (gl v w i k t) 2 Iv.d),(19,.own [I (qg .i64 t.time n),.str t.val,B t.unk])],hBl 8⟩:=by
 have ht:=(sk h).1
 have tt:=yr ht
 have l1:=bf hv hw h40 h
 rw[jk (by omega) (by omega)]
 refine qe jv _ _ _ (of_eq (q72 v w i k n t _ (t.time+n) t.val t.unk _) ⟨fr (e14 v) [] [],fr (e14 w) [] [],fr (qnz hv hw h40 i k ⟨t.time+n,t.val,t.unk⟩) [8,9] [],?_⟩)
 have fin:=jc (meG hv hw h40 hl h (n:=n)) (StLe.heapLe (qoa (upd (upd (upd (upd (fun _=>none) 8 (some (qw v (-1) 0))) 9 (some (qw w (-1) 0))) 8 none) 9 none) 10))
 by_cases hm:t.time+n<=1099511627776
 ·have hu:yq ⟨t.time+n,t.val,t.unk⟩=true:=by
   unfold yq at ht⊢
   rw[decide_eq_true (show t.time>=0 by omega),decide_eq_true tt.2]at ht
   simp only
   rw[decide_eq_true (show t.time+n>=0 by omega),decide_eq_true hm]
   exact ht
  have he:erF v w i k ⟨t.time+n,t.val,t.unk⟩=0:=qds h hu
  have ho:sgO v w i k ⟨t.time+n,t.val,t.unk⟩=gl v w i k ⟨t.time+n,t.val,t.unk⟩:=by unfold sgO;rw[if_pos he]
  have l2:=bf hv hw h40 he
  have hz:=qag hv hw h he (show t.time<=t.time+n by omega) fun a b=>qld ⟨by omega,hm⟩
  rw[ho,he,hz,decide_eq_true hm]
  exact⟨fun _=>PureW.mk (qxe (by omega) (by omega) hz),fun _=>qa (fun h=>(by cases h)) fun _=>⟨trivial,trivial,fin⟩⟩
 ·rw[decide_eq_false hm]
  exact⟨fun h=>(by cases h),fun _=>qa (fun h=>(by cases h)) fun _=>⟨trivial,trivial,fin⟩⟩
theorem meE(hn:0<=n/\n<=100):At (En Tryz.f5) (fi Tryz.f5 fun d=>Wk d (B true)) [.code [1,1,1,1,1,1,1,1,1,0],.code [1,1,1,1,1,1,1,1,1,1]] ⟨sMe v w i k n t++[(13,L (gl v w i k t) 2 Iv.d),(17,L ([]:List Iv) 2 Iv.d),(18,I 0),(19,.own [I t.time,.str t.val,B true])],hBl 6⟩:=by
 have l1:=bf hv hw h40 h
 have he:erF v w i k ⟨t.time,t.val,true⟩=0:=qds h (sk h).1
 have ho:sgO v w i k ⟨t.time,t.val,true⟩=gl v w i k ⟨t.time,t.val,true⟩:=by unfold sgO;rw[if_pos he]
 have l2:=bf hv hw h40 he
 have hz:=qag hv hw h he (Int.le_refl _) fun a b=>qny
 refine qe jv _ _ _ (of_eq (q71 v w i k n t _ [] 0 t.time t.val true _) ⟨fr (e14 v) [] [],fr (e14 w) [] [],fr (qnz hv hw h40 i k ⟨t.time,t.val,true⟩) [6,7] [],?_⟩)
 rw[ho,he,hz]
 exact fun _=>⟨fun _=>PureW.mk (qxe (by omega) (by omega) hz),fun _=>qa (fun h=>(by cases h)) fun _=>⟨trivial,trivial,jc (meF hv hw h40 hl h hn) (StLe.heapLe (qoa _ _))⟩⟩
theorem meD(hb:smB v=true)(hc:clB v=true)(hn:0<=n/\n<=100):At (En Tryz.f5) (fi Tryz.f5 fun d=>Wk d (B true)) [.code [1,1,1,1,1,1,0],.code [1,1,1,1,1,1,1]] ⟨sMe v w i k n t++[(13,L (gl v w i k t) 2 Iv.d)],hBl 4⟩:=by
 have he:erF v v i i t=0:=qlg h
 have ho:sgO v v i i t=[]:=by unfold sgO;rw[if_pos he,qlf hv hb hc he]
 refine qe jv _ _ _ (of_eq (q70 v w i k n t _ _) ⟨fr (e14 v) [] [],fr (e14 v) [] [],fr (qnz hv hv h40 i i t) [4,5] [],trivial,trivial,?_⟩)
 rw[ho,he]
 exact jc (meE hv hw h40 hl h hn) (StLe.heapLe (qoa _ _))
end
theorem c5(v w:Wv)(i k:Int)(t:Tol)(n:Int):Pure PP 5 [v.d,w.d,I i,I k,t.d,I n] (B true):=by
 have hf:(!!ur v w t)=true->ur v w t=true:=fun h=>by simpa using h
 refine pu F5 (by kernel_rfl) (of_eq (q7x v w i k t n _) ⟨PureW.mk (c11 v w t),fun h=>PureW.mk (c12 v (g7 (hf h)).1),fun h=> ?_,qa (fun _=>⟨PureW.mk c8,Wk.refl _⟩) fun h=> ?_⟩)
 ·cases hb:ur v w t with
  |false=>rw[hb]at h;cases h
  |true=>exact PureW.mk (c12 w (g7 hb).2.1)
 have hb:ur v w t=true/\clB v=true/\0<=n/\n<=100:=by
  cases hb:ur v w t with
  |false=>rw[hb]at h;cases h
  |true =>
   cases hc:clB v with
   |false=>rw[hb,hc]at h;cases h
   |true =>
    by_cases h1:n<0
    ·rw[hb,hc,decide_eq_true h1]at h
     cases hw2:clB w <;> rw[hw2]at h <;> cases h
    ·by_cases h2:n > 100
     ·rw[hb,hc,decide_eq_false h1,decide_eq_true h2]at h
      cases hw2:clB w <;> rw[hw2]at h <;> cases h
     ·exact⟨rfl,rfl,by omega,by omega⟩
 obtain⟨hb,hc,hn⟩:=hb
 obtain⟨s1,s2,hx,hy⟩:=g7 hb
 have hv:=kn s1
 have hw:=kn s2
 have hl:t.val.length<=1000:=by
  unfold ur at hb
  by_cases hl:(t.val.length:Int)<=40
  ·omega
  ·rw[decide_eq_false hl]at hb
   simp at hb
 refine jc (st':=⟨sMe v w i k n t,.empty⟩) ?_ ((StLe.refl _ _).cast (by kernel_rfl))
 refine qe jv _ _ _ (of_eq (q7y v w i k n t _) ⟨e14 v,fr (e14 w) [] [],qnz hv hw hx i k t,?_⟩)
 refine jc (st':=⟨sMe v w i k n t++[(13,L (sgO v w i k t) 2 Iv.d),(14,I (erF v w i k t))],hBl 2⟩) ?_ ((StLe.refl _ _).cast (by kernel_rfl))
 refine qe jv _ _ _ (of_eq (q7z v w i k n t _ _ _) ⟨fr (e14 w) [] [],fr (e14 v) [] [],fr (qnz hw hv hy k i t) [2,3] [],?_⟩)
 have hos:sgO w v k i t=sgO v w i k t:=by
  unfold sgO
  rw[qaf w v k i t]
  by_cases he:erF v w i k t=0
  ·rw[if_pos he,if_pos he,qi5 hv hw he]
  ·rw[if_neg he,if_neg he]
 rw[hos,qaf w v k i t,bne_self_eq_false]
 refine⟨fun _=>PureW.mk (c16 _),qa (fun h=>(by cases h)) fun _=>qa (fun _=>⟨PureW.mk c8,Wk.refl _⟩) fun he=> ?_⟩
 have he:erF v w i k t=0:=by simpa using he
 have ho:sgO v w i k t=gl v w i k t:=by unfold sgO;rw[if_pos he]
 rw[ho]
 exact jc (meD hv hw hx hl he s1 hc hn) (StLe.heapLe (qoa _ _))
def mr(l:List Chg)(t:Int):Bool:=l.any fun x=>x.time==t
theorem F93:OkF 93 Tryz.f93:=⟨by kernel_rfl,by kernel_rfl,by kernel_rfl⟩
def qyu:List (List Nat×List Nat):=[([1,0,1,0],[1,2,5])]
noncomputable def q74:List Nat->Nat->Option Ans:=qf []
theorem nQo(q:Sig)(t:Int)(K:D->Prop):qn (En Tryz.f93) (fi Tryz.f93 K) (q74 ) qyu 200 [.code []] ⟨qc 0 [q.d,I t],.empty⟩ =
 (At (En Tryz.f93) (fi Tryz.f93 K) [It.code [1,0,1,0],It.blk 0,It.code [1,1]] {sl:=[(1,I t),(2,.own [I q.kind,I q.width,L q.chg 2 Chg.d]),(5,I 0)],h:=Heap.empty:St}):=by kernel_rfl
def SQo(q:Sig)(t i:Int):St:=⟨[(1,I t),(2,.own [I q.kind,I q.width,L q.chg 2 Chg.d]),(5,I i)],.empty⟩
noncomputable def qxf:List Nat->Nat->Option Ans:=qf []
theorem q75(q:Sig)(t i:Int)(J:St->Prop)(K:D->Prop):qn (En Tryz.f93) (fi Tryz.f93 K) (qxf ) qyu 200 [.code [1,0,1,0,0],stp [1,2,5] J,.blk 0,.code [1,1]] (SQo q t i)=
 (q.chg.length<=q8->bif decide (i<(↑q.chg.length:Int)) then(0<=i/\i<(↑q.chg.length:Int))/\bif(q.chg.getD i.toNat default).time==t then K (B true) else J {sl:=[(1,I t),(2,.own [I q.kind,I q.width,L q.chg 2 Chg.d]),(5,I (qg .i64 i 1))],h:=Heap.empty:St} else K (B false)):=by kernel_rfl
theorem F94:OkF 94 Tryz.f94:=⟨by kernel_rfl,by kernel_rfl,by kernel_rfl⟩
def qyv:List (List Nat×List Nat):=[([1,1,0,1,0],[2,5,6,9,12,13])]
noncomputable def q76:List Nat->Nat->Option Ans:=qf []
theorem nQn(a b:Sig)(t e:Int)(l:Tol)(K:D->Prop):qn (En Tryz.f94) (fi Tryz.f94 K) (q76 ) qyv 200 [.code []] ⟨qc 0 [a.d,b.d,I t,I e,l.d],.empty⟩ =
 (At (En Tryz.f94) (fi Tryz.f94 K) [It.code [1,1,0,1,0],It.blk 0,It.code [1,1,1]] {sl:=[(2,I t),(5,.own [I a.kind,I a.width,L a.chg 2 Chg.d]),(6,.own [I b.kind,I b.width,L b.chg 2 Chg.d]),(9,.own [I l.time,.str l.val,B l.unk]),(12,I (if qg .i64 t l.time<e then qg .i64 t l.time else e)),(13,I (if qj .i64 t l.time > 0 then qj .i64 t l.time else 0))],h:=Heap.empty:St}):=by kernel_rfl
def SQn(a b:Sig)(t:Int)(l:Tol)(h u:Int):St:=⟨[(2,I t),(5,.own [I a.kind,I a.width,L a.chg 2 Chg.d]),(6,.own [I b.kind,I b.width,L b.chg 2 Chg.d]),(9,.own [I l.time,.str l.val,B l.unk]),(12,I h),(13,I u)],.empty⟩
noncomputable def qxg(a:Sig)(b:Sig)(t:Int)(l:Tol)(u:Int):List Nat->Nat->Option Ans:=qf [([1,1,0,1,0,0,1,0,0,0],6,Ans.pure [b.d,I u] (B (mr b.chg u))),([1,1,0,1,0,0,1,0,0,0],17,Ans.pure [a.d,I t] (.str (jd a t))),([1,1,0,1,0,0,1,0,0,0],20,Ans.pure [b.d,I u] (.str (jd b u))),([1,1,0,1,0,0,1,0,0,0],22,Ans.pure [I a.kind,.str (jd a t),.str (jd b u),l.d] (B (saF a.kind l (jd a t) (jd b u))))]
theorem q77(a b:Sig)(t:Int)(l:Tol)(h u:Int)(J:St->Prop)(K:D->Prop):qn (En Tryz.f94) (fi Tryz.f94 K) (qxg a b t l u) qyv 200 [.code [1,1,0,1,0,0],stp [2,5,6,9,12,13] J,.blk 0,.code [1,1,1]] (SQn a b t l h u)=
 (bif decide (u<=h) then((a.kind==3)=true->PQ PP 93 [b.d,I u] (B (mr b.chg u)))/\(((!bif a.kind==3 then mr b.chg u else false)&&a.kind !=3)=true->PQ PP 95 [a.d,I t] (.str (jd a t)))/\(((!bif a.kind==3 then mr b.chg u else false)&&a.kind !=3)=true->PQ PP 95 [b.d,I u] (.str (jd b u)))/\(((!bif a.kind==3 then mr b.chg u else false)&&a.kind !=3)=true->PQ PP 10 [I a.kind,.str (jd a t),.str (jd b u),l.d] (B (saF a.kind l (jd a t) (jd b u))))/\bif bif bif a.kind==3 then mr b.chg u else false then true else bif a.kind !=3 then saF a.kind l (jd a t) (jd b u) else false then K (B true) else J {sl:=[(2,I t),(5,.own [I a.kind,I a.width,L a.chg 2 Chg.d]),(6,.own [I b.kind,I b.width,L b.chg 2 Chg.d]),(9,.own [I l.time,.str l.val,B l.unk]),(12,I h),(13,I (qg .i64 u 1))],h:=Heap.empty:St} else K (B false)):=by kernel_rfl
def nrP(a b:Sig)(t:Int)(l:Tol)(u:Int):Bool:=bif a.kind==3 then mr b.chg u else saF a.kind l (jd a t) (jd b u)
def qfa(t:Int):Int:=if t > 0 then t else 0
def qmj(e t:Int):Int:=if t<e then t else e
def kz(a b:Sig)(t e:Int)(l:Tol):Bool:=(List.range (qmj e (t+l.time)+1-qfa (t-l.time)).toNat).any fun j=>nrP a b t l (qfa (t-l.time)+j)
theorem F56:OkF 56 Tryz.f56:=⟨by kernel_rfl,by kernel_rfl,by kernel_rfl⟩
def q78:List (List Nat×List Nat):=[]
noncomputable def q79(a:Sig)(b:Sig)(t:Int)(e:Int)(l:Tol):List Nat->Nat->Option Ans:=qf [([1,0,1,0,0],2,Ans.pure [a.d,I t] (B (mr a.chg t))),([1,0,1,0,0],9,Ans.pure [a.d,b.d,I t,I e,l.d] (B (kz a b t e l))),([1,0,1,0,0],15,Ans.pure [b.d,I t] (B (mr b.chg t))),([1,0,1,0,0],22,Ans.pure [b.d,a.d,I t,I e,l.d] (B (kz b a t e l))),([1,1,0,0],4,Ans.pure [a.d,I t] (.str (jd a t))),([1,1,0,0],7,Ans.pure [b.d,I t] (.str (jd b t))),([1,1,0,0],9,Ans.pure [I a.kind,.str (jd a t),.str (jd b t),l.d] (B (saF a.kind l (jd a t) (jd b t)))),([1,1,1,0],5,Ans.pure [a.d,b.d,I t,I e,l.d] (B (kz a b t e l))),([1,1,1,0],13,Ans.pure [b.d,a.d,I t,I e,l.d] (B (kz b a t e l)))]
theorem nQd(a b:Sig)(t e:Int)(l:Tol)(K:D->Prop):qn (En Tryz.f56) (fi Tryz.f56 K) (q79 a b t e l) q78 200 [.code []] ⟨qc 0 [a.d,b.d,I t,I e,l.d],.empty⟩ =
 (bif a.kind==3 then PQ PP 93 [a.d,I t] (B (mr a.chg t))/\(mr a.chg t=true->PQ PP 94 [a.d,b.d,I t,I e,l.d] (B (kz a b t e l)))/\((!bif mr a.chg t then !kz a b t e l else false)=true->PQ PP 93 [b.d,I t] (B (mr b.chg t)))/\(((!bif mr a.chg t then !kz a b t e l else false)&&mr b.chg t)=true->PQ PP 94 [b.d,a.d,I t,I e,l.d] (B (kz b a t e l)))/\K (B (bif bif mr a.chg t then !kz a b t e l else false then true else bif mr b.chg t then !kz b a t e l else false)) else PQ PP 95 [a.d,I t] (.str (jd a t))/\PQ PP 95 [b.d,I t] (.str (jd b t))/\PQ PP 10 [I a.kind,.str (jd a t),.str (jd b t),l.d] (B (saF a.kind l (jd a t) (jd b t)))/\bif saF a.kind l (jd a t) (jd b t) then K (B false) else PQ PP 94 [a.d,b.d,I t,I e,l.d] (B (kz a b t e l))/\((!!kz a b t e l)=true->PQ PP 94 [b.d,a.d,I t,I e,l.d] (B (kz b a t e l)))/\K (B (bif !kz a b t e l then true else !kz b a t e l))):=by kernel_rfl
def qgf(a b:Sig)(t e:Int)(l:Tol):Bool :=
 bif a.kind==3 then(mr a.chg t && !kz a b t e l) || (mr b.chg t && !kz b a t e l)
 else !saF a.kind l (jd a t) (jd b t)&&(!kz a b t e l || !kz b a t e l)
theorem F32:OkF 32 Tryz.f32:=⟨by kernel_rfl,by kernel_rfl,by kernel_rfl⟩
def q8a:List (List Nat×List Nat):=[([1,1,0,1,0],[2,4,5,7,9,10])]
noncomputable def q8b:List Nat->Nat->Option Ans:=qf []
theorem nQt(a b:Sig)(e:Int)(l:Tol)(K:D->Prop):qn (En Tryz.f32) (fi Tryz.f32 K) (q8b ) q8a 200 [.code []] ⟨qc 0 [a.d,b.d,I e,l.d],.empty⟩ =
 (At (En Tryz.f32) (fi Tryz.f32 K) [It.code [1,1,0,1,0],It.blk 0,It.code [1,1,1]] {sl:=[(2,I e),(4,.own [I a.kind,I a.width,L a.chg 2 Chg.d]),(5,.own [I b.kind,I b.width,L b.chg 2 Chg.d]),(7,.own [I l.time,.str l.val,B l.unk]),(9,.list 0 2 (zf []) .full),(10,I 0)],h:=Heap.empty:St}):=by kernel_rfl
def SQt(a b:Sig)(e:Int)(l:Tol)(out:List Iv)(t:Int):St:=⟨[(2,I e),(4,.own [I a.kind,I a.width,L a.chg 2 Chg.d]),(5,.own [I b.kind,I b.width,L b.chg 2 Chg.d]),(7,.own [I l.time,.str l.val,B l.unk]),(9,LT out 2 Iv.d 0),(10,I t)],hN out.length 1⟩
def q8c:List (List Nat×List Nat):=[([1,1,1],[9])]
noncomputable def qxh(a:Sig)(b:Sig)(e:Int)(l:Tol)(t:Int):List Nat->Nat->Option Ans:=qf [([1,1,0,1,0,0,1,0,0,0],5,Ans.pure [a.d,b.d,I t,I e,l.d] (B (qgf a b t e l)))]
theorem q8d(a b:Sig)(e:Int)(l:Tol)(out:List Iv)(t:Int)(J:St->Prop)(K:D->Prop):qn (En Tryz.f32) (fi Tryz.f32 K) (qxh a b e l t) q8c 200 [.code [1,1,0,1,0,0],stp [2,4,5,7,9,10] J,.blk 0,.code [1,1,1]] (SQt a b e l out t)=
 (bif decide (t<=e) then PQ PP 56 [a.d,b.d,I t,I e,l.d] (B (qgf a b t e l))/\bif qgf a b t e l then(upd (fun _=>none) 0 (some out.length) 0=some out.length/\(out.length+1)*16<=q7)/\J {sl:=[(2,I e),(4,.own [I a.kind,I a.width,L a.chg 2 Chg.d]),(5,.own [I b.kind,I b.width,L b.chg 2 Chg.d]),(7,.own [I l.time,.str l.val,B l.unk]),(9,.list (out.length+1) 2 (zo out.length (fun i=>(out.getD i default).d) (zf [.agg [I t,I t]])) (.tok 0 2)),(10,I (qg .i64 t 1))],h:={box:=fun _=>none,nl:=0,hw:=upd (upd (fun _=>none) 0 (some out.length)) 0 (some (out.length+1)),nt:=1,vw:=fun _=>none:Heap}:St} else J {sl:=[(2,I e),(4,.own [I a.kind,I a.width,L a.chg 2 Chg.d]),(5,.own [I b.kind,I b.width,L b.chg 2 Chg.d]),(7,.own [I l.time,.str l.val,B l.unk]),(9,.list out.length 2 (fun i=>(out.getD i default).d) (.tok 0 2)),(10,I (qg .i64 t 1))],h:={box:=fun _=>none,nl:=0,hw:=upd (fun _=>none) 0 (some out.length),nt:=1,vw:=fun _=>none:Heap}:St} else At (En Tryz.f32) (fi Tryz.f32 K) [It.code [1,1,1]] {sl:=[(9,.list out.length 2 (fun i=>(out.getD i default).d) (.tok 0 2))],h:={box:=fun _=>none,nl:=0,hw:=upd (fun _=>none) 0 (some out.length),nt:=1,vw:=fun _=>none:Heap}:St}):=by kernel_rfl
noncomputable def qxi(out:List Iv):List Nat->Nat->Option Ans:=qf [([1,1,1,0],1,Ans.pure [L out 2 Iv.d] (L (qkm out) 2 Iv.d))]
theorem q8e(out:List Iv)(K:D->Prop):qn (En Tryz.f32) (fi Tryz.f32 K) (qxi out) p8 200 [.code [1,1,1]] ⟨[(9,L out 2 Iv.d)],hT1⟩ =
 (PQ PP 57 [L out 2 Iv.d] (L (qkm out) 2 Iv.d)/\K (L (qkm out) 2 Iv.d)):=by kernel_rfl
def tmR(a b:Sig)(e:Int)(l:Tol):List Iv:=qkm (((List.range (e+1).toNat).filter fun(t:Nat)=>qgf a b t e l).map fun(t:Nat)=>⟨(t:Int),(t:Int)⟩)
theorem F15:OkF 15 Tryz.f15:=⟨by kernel_rfl,by kernel_rfl,by kernel_rfl⟩
def q8f:List (List Nat×List Nat):=[]
noncomputable def q8g(v:Wv)(i:Int)(w:Wv)(k:Int)(t:Tol):List Nat->Nat->Option Ans:=qf [([1,0,0],1,Ans.pure [t.d] (B (yq t))),([1,1,1,1,1,1,0],8,Ans.pure [(v.sig.getD i.toNat default).d,(w.sig.getD k.toNat default).d,I (if w.fin<v.fin then w.fin else v.fin),t.d] (L (tmR (v.sig.getD i.toNat default) (w.sig.getD k.toNat default) (if w.fin<v.fin then w.fin else v.fin) t) 2 Iv.d))]
theorem nQs(v:Wv)(i:Int)(w:Wv)(k:Int)(t:Tol)(K:D->Prop):qn (En Tryz.f15) (fi Tryz.f15 K) (q8g v i w k t) q8f 200 [.code []] ⟨qc 0 [v.d,I i,w.d,I k,t.d],.empty⟩ =
 (PQ PP 26 [t.d] (B (yq t))/\bif !yq t then K (.tup [.list 0 0 (fun _=>D.junk) .full,I 1]) else((!decide (i<0))=true->v.sig.length<=q8)->((!bif bif decide (i<0) then true else decide (i>=(↑v.sig.length:Int)) then true else decide (k<0))=true->w.sig.length<=q8)->bif bif bif bif decide (i<0) then true else decide (i>=(↑v.sig.length:Int)) then true else decide (k<0) then true else decide (k>=(↑w.sig.length:Int)) then K (.tup [.list 0 0 (fun _=>D.junk) .full,I 2]) else(0<=i/\i<(↑v.sig.length:Int))/\(0<=k/\k<(↑w.sig.length:Int))/\True/\True/\bif(v.sig.getD i.toNat default).kind !=(w.sig.getD k.toNat default).kind then K (.tup [.list 0 0 (fun _=>D.junk) .full,I 7]) else bif(v.sig.getD i.toNat default).width !=(w.sig.getD k.toNat default).width then K (.tup [.list 0 0 (fun _=>D.junk) .full,I 8]) else PQ PP 32 [(v.sig.getD i.toNat default).d,(w.sig.getD k.toNat default).d,I (if w.fin<v.fin then w.fin else v.fin),t.d] (L (tmR (v.sig.getD i.toNat default) (w.sig.getD k.toNat default) (if w.fin<v.fin then w.fin else v.fin) t) 2 Iv.d)/\K (.tup [L (tmR (v.sig.getD i.toNat default) (w.sig.getD k.toNat default) (if w.fin<v.fin then w.fin else v.fin) t) 2 Iv.d,I 0])):=by kernel_rfl
theorem F4:OkF 4 Tryz.f4:=⟨by kernel_rfl,by kernel_rfl,by kernel_rfl⟩
def lv4:List (List Nat×List Nat):=[]
noncomputable def q8h(v:Wv)(w:Wv)(i:Int)(k:Int)(t:Tol):List Nat->Nat->Option Ans:=qf [([1,0,0],3,Ans.pure [v.d,w.d,t.d] (B (ur v w t))),([1,0,0],7,Ans.pure [v.d] (B (clB v))),([1,0,0],12,Ans.pure [w.d] (B (clB w))),([1,0,1,0,0],0,Ans.pure [] (B true)),([1,1,0],1,Ans.eff (D.bp 0 0) (hM v (-1) 0)),([1,1,0],5,Ans.eff (ren (rnm [] 1) (rnm [] 0) (D.bp 0 0)) (qh [] [] {box:=upd (fun _=>none) 0 (some (qw v (-1) 0)),nl:=1,hw:=fun _=>none,nt:=0,vw:=fun _=>none:Heap} (hM w (-1) 0))),([1,1,0],9,Ans.eff (.tup [L (sgO v w i k t) 2 Iv.d,I (erF v w i k t)]) (hBl 2)),([1,1,1,0],5,Ans.pure [v.d,I i,w.d,I k,t.d] (.tup [L (sgO v w i k t) 2 Iv.d,I (erF v w i k t)])),([1,1,1,1,0],6,Ans.pure [L (sgO v w i k t) 2 Iv.d,L (sgO v w i k t) 2 Iv.d] (B true)),([1,1,1,1,0],9,Ans.pure [] (B true))]
theorem nCG(v w:Wv)(i k:Int)(t:Tol)(K:D->Prop):qn (En Tryz.f4) (fi Tryz.f4 K) (q8h v w i k t) lv4 200 [.code []] ⟨qc 0 [v.d,w.d,I i,I k,t.d],.empty⟩ =
 (PQ PP 11 [v.d,w.d,t.d] (B (ur v w t))/\
 ((!!ur v w t)=true->PQ PP 12 [v.d] (B (clB v)))/\
  ((!bif !ur v w t then true else !clB v)=true->PQ PP 12 [w.d] (B (clB w)))/\
   bif bif bif !ur v w t then true else !clB v then true else !clB w then PQ PP 8 [] (B true)/\K (B true)
   else
    Does PP 14 [.agg [L v.sig 3 Sig.d,L v.gap 2 Iv.d,I v.fin]] Heap.empty (D.bp 0 0) (hM v (-1) 0)/\
     Does PP 14 [.agg [L w.sig 3 Sig.d,L w.gap 2 Iv.d,I w.fin]] {box:=upd (fun _=>none) 0 (some (qw v (-1) 0)),nl:=1,hw:=fun _=>none,nt:=0,vw:=fun _=>none:Heap} (ren (rnm [] 1) (rnm [] 0) (D.bp 0 0)) (qh [] [] {box:=upd (fun _=>none) 0 (some (qw v (-1) 0)),nl:=1,hw:=fun _=>none,nt:=0,vw:=fun _=>none:Heap} (hM w (-1) 0))/\Does PP 13 [D.iface 36 (D.bp 0 0),I i,D.iface 36 (D.bp 1 0),I k,.agg [I t.time,.str t.val,B t.unk]] {box:=upd (upd (fun _=>none) 0 (some (qw v (-1) 0))) 1 (some (qw w (-1) 0)),nl:=2,hw:=fun _=>none,nt:=0,vw:=fun _=>none:Heap} (.tup [L (sgO v w i k t) 2 Iv.d,I (erF v w i k t)]) (hBl 2)/\PQ PP 15 [v.d,I i,w.d,I k,t.d] (.tup [L (sgO v w i k t) 2 Iv.d,I (erF v w i k t)])/\((erF v w i k t==erF v w i k t)=true->PQ PP 16 [L (sgO v w i k t) 2 Iv.d,L (sgO v w i k t) 2 Iv.d] (B true))/\((bif erF v w i k t==erF v w i k t then true else false)=true->PQ PP 8 [] (B true))/\K (B (bif bif erF v w i k t==erF v w i k t then true else false then true else false))):=by kernel_rfl
structure SgS(q:Sig):Prop where
 w:q.width<=1000000
 c:q.chg.length<=1000
 v:∀s,(jd q s).length<=1000
theorem SgS.of{w:Wv}(hb:smB w=true){i:Int}(hi:inS w i):SgS (qm w i):=by
 have hm:=qb6 hi
 obtain⟨h1,h2,_⟩:=(kn hb).at hi
 obtain⟨_,h3⟩:=qdo hb _ hm
 generalize qm w i=q at *
 have hini:(ini q).length<=64:=by
  unfold ini
  split
  ·decide
  ·split
   ·rw[List.length_replicate];omega
   ·decide
 refine⟨by omega,by omega,fun s=> ?_⟩
 unfold jd
 split
 ·omega
 ·rcases aw q.chg (ini q) s with e|⟨x,hx,e⟩
  ·rw[e];omega
  ·rw[e]
   have:=h3 x hx
   omega
theorem c93(q:Sig)(t:Int):Pure PP 93 [q.d,I t] (B (mr q.chg t)):=by
 refine pu F93 (by kernel_rfl) (of_eq (nQo q t _) ?_)
 refine lp (fn:=Tryz.f93) (fun i:Nat=>i<=q.chg.length/\mr q.chg t=(q.chg.drop i).any fun x=>x.time==t) (fun i=>SQo q t i) (fun i=>q.chg.length-i) [1,2,5] (by kernel_rfl) (fun i hi=>of_eq (q75 q t i _ _) fun hl=>qa (fun hlt=> ?_) fun hge=> ?_) 0 ⟨Nat.zero_le _,rfl⟩
 ·have hlt:=ltI hlt
  obtain⟨_,he⟩:=hi
  rw[jb _ _ hlt,List.any_cons]at he
  rw[Int.toNat_natCast,bi hlt hl]
  refine⟨⟨by omega,by omega⟩,qa (fun h=> ?_) fun h=> ?_⟩
  ·rw[h]at he;rw[he];exact Wk.refl _
  ·rw[h]at he;exact Nx.mk (i+1) ⟨hlt,he⟩ (by omega)
 ·rw[hi.2,List.drop_of_length_le (geI hge)];exact Wk.refl _
theorem qxj(a b:Sig)(t:Int)(l:Tol)(u:Int):(bif bif a.kind==3 then mr b.chg u else false then true else bif a.kind !=3 then saF a.kind l (jd a t) (jd b u) else false)=nrP a b t l u:=by
 unfold nrP bne
 cases (a.kind==3) <;> cases mr b.chg u <;> rfl
theorem c94(a b:Sig)(t e:Int)(l:Tol)(ha:SgS a)(hb:SgS b)(ht:0<=t/\t<=1000)(he:0<=e/\e<=1000)(hl:0<=l.time/\l.time<=1099511627776)(hv:l.val.length<=1000):Pure PP 94 [a.d,b.d,I t,I e,l.d] (B (kz a b t e l)):=by
 refine pu F94 (by kernel_rfl) (of_eq (nQn a b t e l _) ?_)
 rw[jk (by omega) (by omega),jy (by omega) (by omega)]
 have f0:0<=qfa (t-l.time)/\qfa (t-l.time)<=1000:=by unfold qfa;split <;> omega
 have h0:0<=qmj e (t+l.time)/\qmj e (t+l.time)<=1000:=by unfold qmj;split <;> omega
 unfold kz
 show At _ _ _ (SQn a b t l (qmj e (t+l.time)) (qfa (t-l.time)))
 generalize qmj e (t+l.time)=h at *
 generalize qfa (t-l.time)=f at *
 refine jc (st':=SQn a b t l h (f+((0:Nat):Int))) ?_ (StLe.eqJ (by rw[show f+((0:Nat):Int)=f by omega]))
 refine lp (fn:=Tryz.f94) (fun j:Nat=>(∀m:Nat,m<j->nrP a b t l (f+m)=false)/\(j=0\/f+j<=h+1)) (fun j=>SQn a b t l h (f+j)) (fun j=>(h+1-(f+j)).toNat) [2,5,6,9,12,13] (by kernel_rfl) (fun j hj=>of_eq (q77 a b t l h _ _ _) (qa (fun hlt=> ?_) fun hge=> ?_)) 0 ⟨fun _ h=>absurd h (Nat.not_lt_zero _),.inl rfl⟩
 ·have hlt:=of_decide_eq_true hlt
  obtain⟨j1,j2⟩:=hj
  rw[qxj,jk (by omega) (by omega)]
  refine⟨fun _=>PureW.mk (c93 _ _),fun _=>PureW.mk (c95 _ _ ha.w),fun _=>PureW.mk (c95 _ _ hb.w),fun _=>PureW.mk (c10 _ _ _ _ (ha.v _) (hb.v _) hv),qa (fun h1=> ?_) fun h1=> ?_⟩
  ·have:((List.range (h+1-f).toNat).any fun j=>nrP a b t l (f+j))=true:=List.any_eq_true.2 ⟨j,List.mem_range.2 (by omega),h1⟩
   rw[this];exact Wk.refl _
  ·refine Nx.of (j+1) ⟨fun m hm=> ?_,.inr (by omega)⟩ (by omega) (StLe.eqJ (by rw[show f+((j+1:Nat):Int)=f+j+1 by omega];rfl))
   by_cases c:m=j
   ·rw[c];exact h1
   ·exact j1 m (by omega)
 ·have hge:=of_decide_eq_false hge
  have:((List.range (h+1-f).toNat).any fun j=>nrP a b t l (f+j))=false:=List.any_eq_false.2 fun m hm=>by
   have:=List.mem_range.1 hm
   rw[hj.1 m (by omega)];simp
  rw[this];exact Wk.refl _
theorem c56(a b:Sig)(t e:Int)(l:Tol)(ha:SgS a)(hb:SgS b)(ht:0<=t/\t<=1000)(he:0<=e/\e<=1000)(hl:0<=l.time/\l.time<=1099511627776)(hv:l.val.length<=1000):Pure PP 56 [a.d,b.d,I t,I e,l.d] (B (qgf a b t e l)):=by
 have n1:=PureW.mk (c94 a b t e l ha hb ht he hl hv)
 have n2:=PureW.mk (c94 b a t e l hb ha ht he hl hv)
 have o1:=PureW.mk (c93 a t)
 have o2:=PureW.mk (c93 b t)
 refine pu F56 (by kernel_rfl) (of_eq (nQd a b t e l _) ?_)
 unfold qgf
 refine qa (fun h=> ?_) fun h=> ?_
 ·rw[h,cond_true]
  refine⟨o1,fun _=>n1,fun _=>o2,fun _=>n2,Wk.of_eq (congrArg B ?_)⟩
  cases mr a.chg t <;> cases kz a b t e l <;> cases mr b.chg t <;> rfl
 ·rw[h,cond_false]
  refine⟨PureW.mk (c95 _ _ ha.w),PureW.mk (c95 _ _ hb.w),PureW.mk (c10 _ _ _ _ (ha.v _) (hb.v _) hv),qa (fun h1=>by rw[h1];exact Wk.refl _) fun h1=>⟨n1,fun _=>n2,?_⟩⟩
  rw[h1]
  refine Wk.of_eq (congrArg B ?_)
  cases kz a b t e l <;> rfl
def otR(a b:Sig)(e:Int)(l:Tol)(n:Nat):List Iv:=((List.range n).filter fun(t:Nat)=>qgf a b t e l).map fun(t:Nat)=>⟨(t:Int),(t:Int)⟩
theorem qli(a b:Sig)(e:Int)(l:Tol)(n:Nat):otR a b e l (n+1)=if qgf a b n e l=true then otR a b e l n++[⟨(n:Int),(n:Int)⟩] else otR a b e l n:=by
 unfold otR
 rw[List.range_succ,List.filter_append,List.map_append]
 by_cases h:qgf a b n e l=true
 ·rw[if_pos h];simp[h]
 ·rw[if_neg h];simp[h]
theorem qja(a b:Sig)(e:Int)(l:Tol)(n:Nat):(otR a b e l n).length<=n:=by
 unfold otR
 rw[List.length_map]
 have:=List.length_filter_le (fun(t:Nat)=>qgf a b t e l) (List.range n)
 rw[List.length_range]at this;exact this
theorem c32(a b:Sig)(e:Int)(l:Tol)(ha:SgS a)(hb:SgS b)(he:0<=e/\e<=40)(hl:0<=l.time/\l.time<=1099511627776)(hv:l.val.length<=1000):Pure PP 32 [a.d,b.d,I e,l.d] (L (tmR a b e l) 2 Iv.d):=by
 refine pu F32 (by kernel_rfl) (of_eq (nQt a b e l _) ?_)
 refine jc (st':=SQt a b e l (otR a b e l 0) ((0:Nat):Int)) ?_ ((StLe.idle _ none 9 2 (fun i=>Iv.d (([]:List Iv).getD i default)) rfl).cast (by kernel_rfl))
 refine lp (fn:=Tryz.f32) (fun n:Nat=>(n:Int)<=e+1) (fun n=>SQt a b e l (otR a b e l n) n) (fun n=>(e+1-n).toNat) [2,4,5,7,9,10] (by kernel_rfl) (fun n hn=>of_eq (q8d a b e l _ n _ _) (qa (fun hlt=> ?_) fun hge=> ?_)) 0 (by omega)
 ·have hlt:=of_decide_eq_true hlt
  have hs:=qli a b e l n
  have hol:=qja a b e l n
  rw[jk (by omega) (by omega),show(n:Int)+1=((n+1:Nat):Int) by omega]
  refine⟨PureW.mk (c56 _ _ _ _ _ ha hb ⟨by omega,by omega⟩ ⟨he.1,by omega⟩ hl hv),qa (fun h=> ?_) fun h=> ?_⟩
  ·rw[if_pos h]at hs
   refine⟨⟨qb _ _ _,by unfold q7;omega⟩,Nx.of (n+1) (by omega) (by omega) ?_⟩
   rw[hs]
   generalize otR a b e l n=out
   unfold SQt hN
   rw[List.length_append,List.length_singleton,q6]
   exact(StLe.set 9 rfl (Wk.snoc (enc:=Iv.d) (x:=(⟨(n:Int),(n:Int)⟩:Iv))) rfl rfl).cast (by kernel_rfl)
  ·rw[if_neg (by rw[h];simp)]at hs
   refine Nx.of (n+1) (by omega) (by omega) (StLe.eqJ ?_)
   rw[hs];rfl
 ·have hge:=of_decide_eq_false hge
  have hn2:n=(e+1).toNat:=by omega
  have hol:=qja a b e l n
  have ht:tmR a b e l=qkm (otR a b e l n):=by unfold tmR otR;rw[hn2]
  rw[ht]
  generalize otR a b e l n=out at hol
  refine jc (st':=⟨[(9,L out 2 Iv.d)],hT1⟩) (qe jv _ _ _ (of_eq (q8e _ _) ⟨PureW.mk (c57 _ (by omega)),Wk.refl _⟩)) ?_
  exact((StLe.set 9 (d':=L out 2 Iv.d) rfl Wk.tokL rfl rfl).trans (StLe.heapLe qew)).cast (by kernel_rfl)
theorem qah(l:List Chg)(t:Int):mr l t=true↔occ l t:=by
 unfold mr occ
 rw[List.any_eq_true]
 exact⟨fun⟨x,h1,h2⟩=>⟨x,h1,beq_iff_eq.1 h2⟩,fun⟨x,h1,h2⟩=>⟨x,h1,beq_iff_eq.2 h2⟩⟩
theorem qb7(a b:Sig)(t e:Int)(l:Tol):kz a b t e l=true↔∃u,0<=u/\u<=e/\t-l.time<=u/\u<=t+l.time/\nrP a b t l u=true:=by
 have hf:∀u,qfa (t-l.time)<=u↔0<=u/\t-l.time<=u:=fun u=>by unfold qfa;split <;> omega
 have hh:∀u,u<=qmj e (t+l.time)↔u<=e/\u<=t+l.time:=fun u=>by unfold qmj;split <;> omega
 unfold kz
 rw[List.any_eq_true]
 constructor
 ·rintro⟨j,hj,h⟩
  have hj:=List.mem_range.1 hj
  have h1:=(hf (qfa (t-l.time)+j)).1 (by omega)
  have h2:=(hh (qfa (t-l.time)+j)).1 (by omega)
  exact⟨_,h1.1,h2.1,h1.2,h2.2,h⟩
 ·rintro⟨u,h1,h2,h3,h4,h⟩
  have g1:=(hf u).2 ⟨h1,h3⟩
  have g2:=(hh u).2 ⟨h2,h4⟩
  refine⟨(u-qfa (t-l.time)).toNat,List.mem_range.2 (by omega),?_⟩
  rw[show qfa (t-l.time)+((u-qfa (t-l.time)).toNat:Int)=u by omega];exact h
theorem qfb{a b:Sig}(h3:a.kind=3)(hb:Inc (-1) b.chg)(t e:Int)(l:Tol):kz a b t e l=true↔∃u,u<=e/\occ b.chg u/\t-l.time<=u/\u<=t+l.time:=by
 rw[qb7]
 have e1:∀u,nrP a b t l u=mr b.chg u:=fun u=>by unfold nrP;rw[show(a.kind==3)=true from beq_iff_eq.2 h3];rfl
 simp only[e1,qah]
 exact⟨fun⟨u,h1,h2,h4,h5,h6⟩=>⟨u,h2,h6,h4,h5⟩,fun⟨u,h2,h6,h4,h5⟩=>⟨u,qb1 hb h6,h2,h4,h5,h6⟩⟩
theorem qfc{a b:Sig}(h3:a.kind≠3)(t e:Int)(l:Tol):kz a b t e l=true↔co a.kind l (jd b) (jd a t) e t:=by
 rw[qb7]
 have e1:∀u,nrP a b t l u=saF a.kind l (jd a t) (jd b u):=fun u=>by unfold nrP;rw[show(a.kind==3)=false from beq_eq_false_iff_ne.2 h3];rfl
 simp only[e1];exact Iff.rfl
theorem qfd{v w:Wv}(hv:SmOk v)(hw:SmOk w){i k:Int}{t:Tol}(h:erF v w i k t=0){e s:Int}(hs:0<=s/\s<=e):qgf (qm v i) (qm w k) s e t=true↔dfP v i w k t e s:=by
 obtain⟨_,hi,hk,hkd,_⟩:=sk h
 have q1:=(hv.at hi).2.2
 have q2:=(hw.at hk).2.2
 have nt:∀{b:Bool} {p:Prop},(b=true↔p)->((!b)=true↔¬p):=fun h=>by rw[<-h];simp
 unfold qgf dfP
 by_cases h3:(qm v i).kind=3
 ·have h3':(qm w k).kind=3:=hkd▸h3
  rw[show((qm v i).kind==3)=true from beq_iff_eq.2 h3,cond_true,Bool.or_eq_true,Bool.and_eq_true,Bool.and_eq_true,qah,qah,nt (qfb h3 q2 s e t),nt (qfb h3' q1 s e t)]
  constructor
  ·exact fun g=>⟨hs,.inl ⟨h3,g⟩⟩
  ·rintro⟨_,⟨_,g⟩|⟨g,_⟩⟩
   ·exact g
   ·exact absurd h3 g
 ·have h3':(qm w k).kind≠3:=hkd▸h3
  rw[show((qm v i).kind==3)=false from beq_eq_false_iff_ne.2 h3,cond_false,Bool.and_eq_true,Bool.not_eq_true',Bool.or_eq_true,nt (qfc h3 s e t),nt (qfc h3' s e t),<-hkd]
  constructor
  ·rintro⟨g1,g2⟩
   exact⟨hs,.inr ⟨h3,g1,fun g=>g2.elim (fun x=>x g.1) fun x=>x g.2⟩⟩
  ·rintro⟨_,⟨g,_⟩|⟨_,g1,g2⟩⟩
   ·exact absurd g h3
   ·refine⟨g1,?_⟩
    by_cases c:co (qm v i).kind t (jd (qm w k)) (jd (qm v i) s) e s
    ·exact .inr fun d=>g2 ⟨c,d⟩
    ·exact .inl c
theorem qqu{v w:Wv}(hv:SmOk v)(hw:SmOk w){i k:Int}{t:Tol}(h:erF v w i k t=0):tmR (qm v i) (qm w k) (ka v w) t=gl v w i k t:=by
 obtain⟨n1,n2⟩:=uk hv hw h
 obtain⟨e1,e2⟩:=aq hv hw
 unfold tmR
 obtain⟨m1,m2⟩:=qkz (((List.range (ka v w+1).toNat).filter fun(s:Nat)=>qgf (qm v i) (qm w k) s (ka v w) t).map fun(s:Nat)=>⟨(s:Int),(s:Int)⟩)
 refine qkw m1 n1 fun s=> ?_
 rw[m2,Bool.eq_iff_iff,n2]
 unfold inI
 rw[Bool.and_eq_true,Bool.and_eq_true,decide_eq_true_eq,decide_eq_true_eq,List.any_eq_true]
 constructor
 ·rintro⟨_,_,x,hx,hp⟩
  obtain⟨j,hj,rfl⟩:=List.mem_map.1 hx
  rw[List.mem_filter,List.mem_range]at hj
  have hp:(j:Int)<=s/\s<=(j:Int):=je.1 hp
  have e:(j:Int)=s:=by omega
  obtain⟨hj1,hj2⟩:=hj
  rw[e]at hj2
  exact(qfd hv hw h ⟨by omega,by omega⟩).1 hj2
 ·intro g
  have hs:=g.1
  refine⟨hs.1,by omega,⟨s,s⟩,List.mem_map.2 ⟨s.toNat,?_,by rw[show((s.toNat:Nat):Int)=s by omega]⟩,je.2 ⟨Int.le_refl _,Int.le_refl _⟩⟩
  rw[List.mem_filter,List.mem_range,show((s.toNat:Nat):Int)=s by omega]
  exact⟨by omega,(qfd hv hw h hs).2 g⟩
theorem qq8{n:Int}:Wk (.tup [.list 0 0 (fun _=> .junk) .full,I n]) (.tup [L ([]:List Iv) 2 Iv.d,I n]):=Wk.tup (Wks.cons Wk.nilL (Wks.refl _))
theorem c15(v w:Wv)(i k:Int)(t:Tol)(hb:ur v w t=true):Pure PP 15 [v.d,I i,w.d,I k,t.d] (.tup [L (sgO v w i k t) 2 Iv.d,I (erF v w i k t)]):=by
 obtain⟨s1,s2,hx,hy⟩:=g7 hb
 have hv:=kn s1
 have hw:=kn s2
 have hl:t.val.length<=1000:=by
  unfold ur at hb
  by_cases hl:(t.val.length:Int)<=40
  ·omega
  ·rw[decide_eq_false hl]at hb
   simp at hb
 refine pu F15 (by kernel_rfl) (of_eq (nQs v i w k t _) ⟨PureW.mk (c26 t hl),qa (fun h=> ?_) fun h=>fun _ _=>qa (fun h1=> ?_) fun h1=> ?_⟩)
 ·have e:erF v w i k t=1:=by unfold erF;rw[if_pos (by simpa using h)]
  unfold sgO
  rw[e,if_neg (by decide)];exact qq8
 ·have ht:¬yq t=false:=by rw[show yq t=true by simpa using h];simp
  have hn:¬(inS v i/\inS w k):=fun⟨g1,g2⟩=>by
   rw[decide_eq_false (show ¬i<0 by omega),decide_eq_false (show ¬i>=(v.sig.length:Int) by omega),decide_eq_false (show ¬k<0 by omega),decide_eq_false (show ¬k>=(w.sig.length:Int) by omega)]at h1
   cases h1
  have e:erF v w i k t=2:=by unfold erF;rw[if_neg ht,if_pos hn]
  unfold sgO
  rw[e,if_neg (by decide)];exact qq8
 ·have ht:¬yq t=false:=by rw[show yq t=true by simpa using h];simp
  have hin:inS v i/\inS w k:=by
   by_cases c1:i<0
   ·rw[decide_eq_true c1]at h1;cases h1
   ·by_cases c2:i>=(v.sig.length:Int)
    ·rw[decide_eq_false c1,decide_eq_true c2]at h1;cases h1
    ·by_cases c3:k<0
     ·rw[decide_eq_false c1,decide_eq_false c2,decide_eq_true c3]at h1;cases h1
     ·rw[decide_eq_false c1,decide_eq_false c2,decide_eq_false c3]at h1
      have:¬k>=(w.sig.length:Int):=of_decide_eq_false h1
      exact⟨⟨by omega,by omega⟩,⟨by omega,by omega⟩⟩
  refine⟨hin.1,hin.2,trivial,trivial,qa (fun h2=> ?_) fun h2=>qa (fun h3=> ?_) fun h3=> ?_⟩
  ·have e:erF v w i k t=7:=by unfold erF;rw[if_neg ht,if_neg (not_not_intro hin),if_pos (by simpa using h2)]
   unfold sgO
   rw[e,if_neg (by decide)];exact qq8
  ·have e:erF v w i k t=8:=by unfold erF;rw[if_neg ht,if_neg (not_not_intro hin),if_neg (not_not_intro (by simpa using h2)),if_pos (by simpa using h3)]
   unfold sgO
   rw[e,if_neg (by decide)];exact qq8
  ·have e:erF v w i k t=0:=by unfold erF;rw[if_neg ht,if_neg (not_not_intro hin),if_neg (not_not_intro (by simpa using h2)),if_neg (not_not_intro (by simpa using h3))]
   have tt:=yr (sk e).1
   have m:=aq hv hw
   have ml:=ap v w
   have c:=c32 (qm v i) (qm w k) (ka v w) t (SgS.of s1 hin.1) (SgS.of s2 hin.2) ⟨m.1,by omega⟩ tt hl
   have ho:sgO v w i k t=tmR (qm v i) (qm w k) (ka v w) t:=by unfold sgO;rw[if_pos e,qqu hv hw e]
   rw[ho,e]
   exact⟨PureW.mk c,Wk.refl _⟩
theorem c4(v w:Wv)(i k:Int)(t:Tol):Pure PP 4 [v.d,w.d,I i,I k,t.d] (B true):=by
 have hf:(!!ur v w t)=true->ur v w t=true:=fun h=>by simpa using h
 have hg:(!bif !ur v w t then true else !clB v)=true->ur v w t=true:=fun h=>by
  cases hb:ur v w t with
  |false=>rw[hb]at h;cases h
  |true=>rfl
 refine pu F4 (by kernel_rfl) (of_eq (nCG v w i k t _) ⟨PureW.mk (c11 v w t),fun h=>PureW.mk (c12 v (g7 (hf h)).1),fun h=>PureW.mk (c12 w (g7 (hg h)).2.1),qa (fun _=>⟨PureW.mk c8,Wk.refl _⟩) fun h=> ?_⟩)
 have hb:ur v w t=true:=by
  cases hb:ur v w t with
  |false=>rw[hb]at h;cases h
  |true=>rfl
 obtain⟨s1,s2,hx,_⟩:=g7 hb
 rw[beq_self_eq_true]
 exact⟨e14 v,fr (e14 w) [] [],qnz (kn s1) (kn s2) hx i k t,PureW.mk (c15 v w i k t hb),fun _=>PureW.mk (c16 _),fun _=>PureW.mk c8,Wk.refl _⟩
end Go.Proofs.YtiekphbkomddfaaGreatDoor.S1
