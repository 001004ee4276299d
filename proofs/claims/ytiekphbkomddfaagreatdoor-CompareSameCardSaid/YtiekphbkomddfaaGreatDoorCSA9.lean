/- The reference's Within, Valid and Same; CompareSame: the code's parts. -/
import Derived.Test.YtiekphbkomddfaaGreatDoorCSA8
namespace Go.Proofs.YtiekphbkomddfaaGreatDoor.S1
open Go Go.Ab Go.Proofs

attribute [local instance] yh
noncomputable def wiS(x y:Str):Pa:=qea (v8 ju x).pa (qj0 (v8 ju y).pa)
noncomputable def wiA(x y:Str):Pa:=qj0 ⟨false,(wiS x y).dig,(wiS x y).e⟩
theorem F29:OkF 29 Tryz.f29:=⟨by kernel_rfl,by kernel_rfl,by kernel_rfl⟩
def q4b:List (List Nat×List Nat):=[]
noncomputable def q4c(x:Str)(y:Str)(t:Str):List Nat->Nat->Option Ans:=qf [([1,0,0],1,Ans.pure [.str x] (B (q7 x).snd)),([1,0,0],5,Ans.pure [.str y] (B (q7 y).snd)),([1,0,0],10,Ans.pure [.str t] (B (q7 t).snd)),([1,1,0],1,Ans.pure [.str x] (v8 ju x).pa.d),([1,1,0],3,Ans.pure [.str y] (v8 ju y).pa.d),([1,1,0],4,Ans.pure [(v8 ju y).pa.d] (qj0 (v8 ju y).pa).d),([1,1,0],5,Ans.pure [(v8 ju x).pa.d,(qj0 (v8 ju y).pa).d] (wiS x y).d),([1,1,1,1,0],1,Ans.pure [.str t] (v8 ju t).pa.d),([1,1,1,1,0],3,Ans.pure [{neg:=false,dig:=(wiS x y).dig,e:=(wiS x y).e:Pa}.d] (wiA x y).d),([1,1,1,1,0],4,Ans.pure [(v8 ju t).pa.d,(wiA x y).d] (qea (v8 ju t).pa (wiA x y)).d),([1,1,1,1,0],5,Ans.pure [(qea (v8 ju t).pa (wiA x y)).d] (I (sgP (qea (v8 ju t).pa (wiA x y)))))]
theorem nYw(x y t:Str)(K:D->Prop):qn (En Tryz.f29) (fi Tryz.f29 K) (q4c x y t) q4b 200 [.code []] ⟨qc 0 [.str x,.str y,.str t],.empty⟩ =
 (PQ PP 28 [.str x] (B (q7 x).snd) /\
 ((!!(q7 x).snd)=true->PQ PP 28 [.str y] (B (q7 y).snd)) /\
  ((!bif !(q7 x).snd then true else !(q7 y).snd)=true->PQ PP 28 [.str t] (B (q7 t).snd)) /\
   bif bif bif !(q7 x).snd then true else !(q7 y).snd then true else !(q7 t).snd then K (B false)
   else
    PQ PP 48 [.str x] (v8 ju x).pa.d /\
     PQ PP 48 [.str y] (v8 ju y).pa.d /\
      PQ PP 49 [(v8 ju y).pa.d] (qj0 (v8 ju y).pa).d /\
       PQ PP 47 [(v8 ju x).pa.d,(qj0 (v8 ju y).pa).d] (wiS x y).d /\
        True/\True/\PQ PP 48 [.str t] (v8 ju t).pa.d/\PQ PP 49 [{neg:=false,dig:=(wiS x y).dig,e:=(wiS x y).e:Pa}.d] (wiA x y).d/\PQ PP 47 [(v8 ju t).pa.d,(wiA x y).d] (qea (v8 ju t).pa (wiA x y)).d/\PQ PP 50 [(qea (v8 ju t).pa (wiA x y)).d] (I (sgP (qea (v8 ju t).pa (wiA x y))))/\K (B (decide (sgP (qea (v8 ju t).pa (wiA x y))>=0)))):=by kernel_rfl
theorem F26:OkF 26 Tryz.f26:=⟨by kernel_rfl,by kernel_rfl,by kernel_rfl⟩
def q4d:List (List Nat×List Nat):=[]
noncomputable def q4e(t:Tol):List Nat->Nat->Option Ans:=qf [([1,0],11,Ans.pure [.str t.val] (B (q7 t.val).snd)),([1,0],16,Ans.pure [.str t.val] (I (qa9 t.val)))]
theorem nZv(t:Tol)(K:D->Prop):qn (En Tryz.f26) (fi Tryz.f26 K) (q4e t) q4d 200 [.code []] ⟨qc 0 [t.d],.empty⟩ =
 (((bif decide (t.time>=0) then decide (t.time<=1099511627776) else false)=true->PQ PP 28 [.str t.val] (B (q7 t.val).snd))/\((bif bif decide (t.time>=0) then decide (t.time<=1099511627776) else false then(q7 t.val).snd else false)=true->PQ PP 18 [.str t.val] (I (qa9 t.val)))/\K (B (bif bif bif decide (t.time>=0) then decide (t.time<=1099511627776) else false then(q7 t.val).snd else false then decide (qa9 t.val>=0) else false))):=by kernel_rfl
theorem F27:OkF 27 Tryz.f27:=⟨by kernel_rfl,by kernel_rfl,by kernel_rfl⟩
def q4f:List (List Nat×List Nat):=[]
noncomputable def q4g:List Nat->Nat->Option Ans:=qf []
theorem nZu(c:UInt8)(K:D->Prop):qn (En Tryz.f27) (fi Tryz.f27 K) (q4g ) q4f 200 [.code []] ⟨qc 0 [qi c],.empty⟩ =
 (K (B (bif(↑c.toNat:Int)==120 then true else(↑c.toNat:Int)==122))):=by kernel_rfl
theorem F10:OkF 10 Tryz.f10:=⟨by kernel_rfl,by kernel_rfl,by kernel_rfl⟩
def qv4:List (List Nat×List Nat):=[([1,1,0,1,0,1,0,0,1,0],[1,2,7,9])]
noncomputable def q4h(x:Str)(y:Str)(t:Tol):List Nat->Nat->Option Ans:=qf [([1,0,0],1,Ans.pure [t.d] (B (ef t))),([1,1,0,1,0,1,1,1,0,0],1,Ans.pure [.str x] (B (q7 x).snd)),([1,1,0,1,0,1,1,1,0,0],4,Ans.pure [.str y] (B (q7 y).snd)),([1,1,0,1,0,1,1,1,0,0],11,Ans.pure [.str x,.str y,.str t.val] (B (wiB x y t.val)))]
theorem nZs(k:Int)(x y:Str)(t:Tol)(K:D->Prop):qn (En Tryz.f10) (fi Tryz.f10 K) (q4h x y t) qv4 200 [.code []] ⟨qc 0 [I k,.str x,.str y,t.d],.empty⟩ =
 (PQ PP 26 [t.d] (B (ef t))/\bif !ef t then K (B false) else bif k==0 then At (En Tryz.f10) (fi Tryz.f10 K) [It.code [1,1,0,1,0,1,0,0,1,0],It.blk 1,It.code [1,1,0,1,0,1,0,1],It.blk 0,It.code [1,1,1]] {sl:=[(1,.str x),(2,.str y),(7,.own [I t.time,.str t.val,B t.unk]),(9,I 0)],h:=Heap.empty:St} else bif k==1 then PQ PP 28 [.str x] (B (q7 x).snd)/\((q7 x).snd=true->PQ PP 28 [.str y] (B (q7 y).snd))/\((bif(q7 x).snd then(q7 y).snd else false)=true->PQ PP 29 [.str x,.str y,.str t.val] (B (wiB x y t.val)))/\K (B (bif bif(q7 x).snd then(q7 y).snd else false then wiB x y t.val else false)) else bif k==2 then K (B (x==y)) else K (B (k==3))):=by kernel_rfl
def SZs(x y:Str)(t:Tol)(i:Int):St:=⟨[(1,.str x),(2,.str y),(7,.own [I t.time,.str t.val,B t.unk]),(9,I i)],.empty⟩
noncomputable def quy(x:Str)(y:Str)(i:Int):List Nat->Nat->Option Ans:=qf [([1,1,0,1,0,1,0,0,1,0,0,1,0,0,0],15,Ans.pure [qi (List.getD x i.toNat 0)] (B (nv (List.getD x i.toNat 0)))),([1,1,0,1,0,1,0,0,1,0,0,1,0,0,0],21,Ans.pure [qi (List.getD y i.toNat 0)] (B (nv (List.getD y i.toNat 0))))]
theorem q4i(x y:Str)(t:Tol)(i:Int)(J:St->Prop)(K:D->Prop):qn (En Tryz.f10) (fi Tryz.f10 K) (quy x y i) qv4 200 [.code [1,1,0,1,0,1,0,0,1,0,0],stp [1,2,7,9] J,.blk 1,.code [1,1,0,1,0,1,0,1],.blk 0,.code [1,1,1]] (SZs x y t i) =
 (List.length x<=jr->(decide (i<(↑(List.length x):Int))=true->List.length y<=jr)->bif bif decide (i<(↑(List.length x):Int)) then decide (i<(↑(List.length y):Int)) else false then(0<=i/\i<(↑(List.length x):Int))/\(0<=i/\i<(↑(List.length y):Int))/\(((↑(List.getD x i.toNat 0).toNat:Int)!=(↑(List.getD y i.toNat 0).toNat:Int) && !!t.unk)=true->0<=i/\i<(↑(List.length x):Int))/\(((↑(List.getD x i.toNat 0).toNat:Int)!=(↑(List.getD y i.toNat 0).toNat:Int) && !!t.unk)=true->PQ PP 27 [qi (List.getD x i.toNat 0)] (B (nv (List.getD x i.toNat 0))))/\(((↑(List.getD x i.toNat 0).toNat:Int)!=(↑(List.getD y i.toNat 0).toNat:Int) && !!t.unk && !nv (List.getD x i.toNat 0))=true->0<=i/\i<(↑(List.length y):Int))/\(((↑(List.getD x i.toNat 0).toNat:Int)!=(↑(List.getD y i.toNat 0).toNat:Int) && !!t.unk && !nv (List.getD x i.toNat 0))=true->PQ PP 27 [qi (List.getD y i.toNat 0)] (B (nv (List.getD y i.toNat 0))))/\bif bif(↑(List.getD x i.toNat 0).toNat:Int)!=(↑(List.getD y i.toNat 0).toNat:Int) then bif !t.unk then true else bif !nv (List.getD x i.toNat 0) then !nv (List.getD y i.toNat 0) else false else false then K (B false) else J {sl:=[(1,.str x),(2,.str y),(7,.own [I t.time,.str t.val,B t.unk]),(9,I (qg .i64 i 1))],h:=Heap.empty:St} else List.length x<=jr->List.length y<=jr->K (B ((↑(List.length x):Int)==(↑(List.length y):Int)))):=by kernel_rfl
theorem F3:OkF 3 Tryz.f3:=⟨by kernel_rfl,by kernel_rfl,by kernel_rfl⟩
def lv3:List (List Nat×List Nat):=[]
noncomputable def q4j(k:Int)(x:Str)(y:Str)(t:Tol):List Nat->Nat->Option Ans:=qf [([1,0,1,0,0],0,Ans.pure [] (B true)),([1,1,0],4,Ans.pure [I k,.str x,.str y,t.d] (B (saF k t x y))),([1,1,0],9,Ans.pure [I k,.str x,.str y,t.d] (B (saF k t x y))),([1,1,0],12,Ans.pure [] (B true))]
theorem nCS(k:Int)(x y:Str)(t:Tol)(K:D->Prop):qn (En Tryz.f3) (fi Tryz.f3 K) (q4j k x y t) lv3 200 [.code []] ⟨qc 0 [I k,.str x,.str y,t.d],.empty⟩ =
 (List.length x<=jr->((!decide ((↑(List.length x):Int) > 130))=true->List.length y<=jr)->((!bif decide ((↑(List.length x):Int) > 130) then true else decide ((↑(List.length y):Int) > 130))=true->List.length t.val<=jr)->bif bif bif decide ((↑(List.length x):Int) > 130) then true else decide ((↑(List.length y):Int) > 130) then true else decide ((↑(List.length t.val):Int) > 130) then PQ PP 8 [] (B true)/\K (B true) else PQ PP 9 [I k,.str x,.str y,t.d] (B (saF k t x y))/\PQ PP 10 [I k,.str x,.str y,t.d] (B (saF k t x y))/\((saF k t x y==saF k t x y)=true->PQ PP 8 [] (B true))/\K (B (bif saF k t x y==saF k t x y then true else false))):=by kernel_rfl
end Go.Proofs.YtiekphbkomddfaaGreatDoor.S1
namespace Go.Proofs.YtiekphbkomddfaaGreatDoor.S1
open Go Go.Ab Go.Proofs

attribute [local instance] yh
theorem qh2(x:Nm):(qv x).ex+(qv x).dig.length<=max 0 (x.ex+x.dig.length):=by
 have h1:=cf x.dig
 have h2:=qav (tL x.dig)
 unfold qv
 split
 ·show(0:Int)+((0:Nat):Int)<=_;omega
 ·show x.ex+(((tL x.dig).length-(tR (tL x.dig)).length:Nat):Int)+((tR (tL x.dig)).length:Int)<=_;omega
theorem PaB.of{x:Nm}(hn:Nrm x)(l:x.dig.length<=2000)(e1 : -1000<=x.ex)(e2:x.ex+x.dig.length<=1000):PaB x.pa:=by
 have : -2000<=x.pe/\x.pe<=2000:=by
  unfold Nm.pe Nm.fst
  split <;> omega
 exact⟨hn.dg,l,this.1,this.2⟩
theorem qo2{x y t:Str}(hx:me ju x=true)(hy:me ju y=true)(ht:me ju t=true) :
  PaB (v8 ju x).pa/\PaB (qj0 (v8 ju y).pa)/\PaB (v8 ju t).pa/\PaB (wiA x y)/\decide (sgP (qea (v8 ju t).pa (wiA x y))>=0)=qno (v8 ju x) (v8 ju y) (v8 ju t):=by
 obtain⟨a1,a2,a3,a4⟩:=lc hx
 obtain⟨b1,b2,b3,b4⟩:=lc hy
 obtain⟨t1,t2,t3,t4⟩:=lc ht
 have hm:=po b1
 have eS:wiS x y=(qbe (v8 ju x) (zi (v8 ju y))).pa:=by unfold wiS;rw[qcu,qh0]
 have eA:wiA x y=(zi (qib (qbe (v8 ju x) (zi (v8 ju y))))).pa:=by unfold wiA;rw[eS];exact qcu (qib _)
 rw[eA,qh0,qo0,qcu]
 unfold qno
 generalize v8 ju x=a at *
 generalize v8 ju y=b at *
 generalize v8 ju t=c at *
 obtain⟨v2,n2⟩:=t7 a1 hm.2 (by omega) (show -1000<=b.ex by omega)
 have s1:=qg6 (a:=a) (b:=zi b) (by omega) (show -1000<=b.ex by omega)
 have sl:(qbe a (zi b)).dig.length<=2000/\(qbe a (zi b)).ex+(qbe a (zi b)).dig.length<=1000:=by
  have p1 : -500<=a.pe/\a.pe<=500:=by unfold Nm.pe Nm.fst;split <;> omega
  have p2 : -500<=(zi b).pe/\(zi b).pe<=500:=by
   have:(zi b).pe=b.pe:=rfl
   rw[this]
   unfold Nm.pe Nm.fst;split <;> omega
  have l2:(zi b).dig.length<=17:=b2
  have hn:0<=xr a (zi b)/\xr a (zi b)<=600:=by unfold xr;omega
  have f1:(kg a (xr a (zi b))).length<=700+xr a (zi b)/\(kg (zi b) (xr a (zi b))).length<=700+xr a (zi b):=by
   unfold kg
   rw[List.length_append,List.length_append,kf,kf];omega
  have hk:tr (kg a (xr a (zi b))) (kg (zi b) (xr a (zi b)))<=700+xr a (zi b)/\(kg a (xr a (zi b))).length<=tr (kg a (xr a (zi b))) (kg (zi b) (xr a (zi b)))/\(kg (zi b) (xr a (zi b))).length<=tr (kg a (xr a (zi b))) (kg (zi b) (xr a (zi b))):=by unfold tr;omega
  unfold qbe
  simp only
  generalize xr a (zi b)=n at *
  generalize tr (kg a n) (kg (zi b) n)=k at *
  have g1:=pn hk.2.1
  have g2:=pn hk.2.2
  generalize zh (kg a n) k=p at *
  generalize zh (kg (zi b) n) k=q at *
  have key:∀(s:Bool) (z:Str),z.length<=k+1->(qv ⟨s,z,-n⟩).dig.length<=2000/\(qv ⟨s,z,-n⟩).ex+(qv ⟨s,z,-n⟩).dig.length<=1000:=fun s z hz=>by
   have h1:=b5 ⟨s,z,-n⟩
   have h2:=qh2 ⟨s,z,-n⟩
   simp only at h1 h2
   omega
  split
  ·refine key _ _ ?_
   have:=wx false p q (by omega)
   unfold zo
   rw[List.length_cons];omega
  ·split
   ·refine key _ _ ?_
    have:=wx true q p (by omega)
    unfold y7;omega
   ·refine key _ _ ?_
    have:=wx true p q (by omega)
    unfold y7;omega
 generalize qbe a (zi b)=d at *
 have n3:=(nr n2).2
 have n4:=(po n3).2
 exact⟨PaB.of a1 (by omega) (by omega) (by omega),PaB.of hm.2 (show b.dig.length<=2000 by omega) (show -1000<=b.ex by omega) (show b.ex+(b.dig.length:Int)<=1000 by omega),PaB.of t1 (by omega) (by omega) (by omega),PaB.of n4 (show d.dig.length<=2000 by omega) (show -1000<=d.ex by omega) (show d.ex+(d.dig.length:Int)<=1000 by omega),rfl⟩
theorem qh3{z:Str}(h:(q7 z).2=true):me ju z=true/\(q7 z).1=v8 ju z:=by
 obtain⟨h1,h2⟩:=qay z
 rw[h]at h1
 exact⟨by rw[t8 (c1:=ju) (c2:=co) (by decide) (by decide)];exact h1.symm,by rw[h2 h1.symm];exact(np (c1:=ju) (c2:=co) (by decide) (by decide) (by rw[t8 (c1:=ju) (c2:=co) (by decide) (by decide)];exact h1.symm)).2⟩
theorem c29(x y t:Str)(lx:x.length<=1000)(ly:y.length<=1000)(lt:t.length<=1000):Pure PP 29 [.str x,.str y,.str t] (B (wiB x y t)):=by
 refine pu F29 (by kernel_rfl) (of_eq (nYw x y t _) ⟨PureW.mk (c28 x lx),fun _=>PureW.mk (c28 y ly),fun _=>PureW.mk (c28 t lt),qa (fun h=> ?_) fun h=> ?_⟩)
 ·unfold wiB;rw[h];exact Wk.refl _
 ·have h0:=h
  have hx:(q7 x).2=true:=by cases c:(q7 x).2 with|true=>rfl|false=>rw[c]at h;cases h
  have hy:(q7 y).2=true:=by cases c:(q7 y).2 with|true=>rfl|false=>rw[hx,c]at h;cases h
  have ht:(q7 t).2=true:=by cases c:(q7 t).2 with|true=>rfl|false=>rw[hx,hy,c]at h;cases h
  have gx:=qh3 hx
  have gy:=qh3 hy
  have gt:=qh3 ht
  obtain⟨p1,p2,p3,p4,p5⟩:=qo2 gx.1 gy.1 gt.1
  have e:wiB x y t=decide (sgP (qea (v8 ju t).pa (wiA x y))>=0):=by
   unfold wiB
   rw[h0,cond_false,p5,qnp (mj hx) (mj hy) (mj ht),gx.2,gy.2,gt.2]
  rw[e]
  exact⟨PureW.mk (c48 x lx),PureW.mk (c48 y ly),PureW.mk (c49 _),PureW.mk (c47 _ _ p1 p2),trivial,trivial,PureW.mk (c48 t lt),PureW.mk (c49 _),PureW.mk (c47 _ _ p3 p4),PureW.mk (c50 _),Wk.refl _⟩
theorem c26(t:Tol)(lt:t.val.length<=1000):Pure PP 26 [t.d] (B (ef t)):=by
 refine pu F26 (by kernel_rfl) (of_eq (nZv t _) ⟨fun _=>PureW.mk (c28 _ lt),fun _=>PureW.mk (c18 _ lt),?_⟩)
 rw[qj1];exact Wk.refl _
theorem c27(c:UInt8):Pure PP 27 [qi c] (B (nv c)):=pu F27 (by kernel_rfl) (of_eq (nZu c _) (Wk.refl _))
theorem quz(x y t:Str):(bif bif(q7 x).2 then(q7 y).2 else false then wiB x y t else false)=wiB x y t:=by
 unfold wiB
 cases (q7 x).2 <;> cases (q7 y).2 <;> rfl
theorem qo3(u:Bool)(x y:UInt8):(bif(x.toNat:Int)!=(y.toNat:Int) then bif !u then true else bif !nv x then !nv y else false else false)=qlx u x y:=by
 unfold qlx
 cases (x.toNat:Int)!=(y.toNat:Int) <;> cases u <;> cases nv x <;> cases nv y <;> rfl
theorem c10(k:Int)(x y:Str)(t:Tol)(lx:x.length<=1000)(ly:y.length<=1000)(lt:t.val.length<=1000):Pure PP 10 [I k,.str x,.str y,t.d] (B (saF k t x y)):=by
 refine pu F10 (by kernel_rfl) (of_eq (nZs k x y t _) ⟨PureW.mk (c26 t lt),?_⟩)
 unfold saF
 refine qa (fun h=>by rw[h];exact Wk.refl _) fun h=> ?_
 rw[h,cond_false]
 refine qa (fun h0=> ?_) fun h0=> ?_
 ·rw[h0,cond_true]
  refine lp (fn:=Tryz.f10) (fun i:Nat=>i<=x.length/\i<=y.length/\∀j,j<i->qlx t.unk (x.getD j 0) (y.getD j 0)=false) (fun i=>SZs x y t i) (fun i=>x.length-i) [1,2,7,9] (by kernel_rfl) (fun i hi=>of_eq (q4i x y t i _ _) fun _ _=>qa (fun hlt=> ?_) fun hge _ _=> ?_) 0 ⟨Nat.zero_le _,Nat.zero_le _,fun _ h=>absurd h (Nat.not_lt_zero _)⟩
  ·obtain⟨i1,i2,i3⟩:=hi
   have hl:i<x.length/\i<y.length:=by
    by_cases c:(i:Int)<(x.length:Int)
    ·rw[decide_eq_true c,cond_true]at hlt
     have:=of_decide_eq_true hlt
     omega
    ·rw[decide_eq_false c]at hlt;cases hlt
   rw[Int.toNat_natCast,qo3,jm (by omega) (by omega)]
   refine⟨⟨by omega,by omega⟩,⟨by omega,by omega⟩,fun _=>⟨by omega,by omega⟩,fun _=>PureW.mk (c27 _),fun _=>⟨by omega,by omega⟩,fun _=>PureW.mk (c27 _),qa (fun h1=> ?_) fun h1=> ?_⟩
   ·have e:li t.unk x y=false:=by
     unfold li
     by_cases c:x.length=y.length
     ·rw[decide_eq_true c,Bool.true_and,List.all_eq_false]
      exact⟨i,List.mem_range.2 hl.1,by rw[h1];simp⟩
     ·rw[decide_eq_false c];rfl
    rw[e];exact Wk.refl _
   ·refine Nx.of (i+1) ⟨hl.1,hl.2,fun j hj=> ?_⟩ (by omega) (StLe.refl _ _)
    by_cases c:j=i
    ·rw[c];exact h1
    ·exact i3 j (by omega)
  ·obtain⟨i1,i2,i3⟩:=hi
   have hi2:i=x.length\/i=y.length:=by
    by_cases c:(i:Int)<(x.length:Int)
    ·rw[decide_eq_true c,cond_true]at hge
     have:=of_decide_eq_false hge
     omega
    ·omega
   have e:li t.unk x y=((x.length:Int)==(y.length:Int)):=by
    unfold li
    by_cases c:x.length=y.length
    ·rw[decide_eq_true c,Bool.true_and,c,beq_self_eq_true,List.all_eq_true]
     exact fun j hj=>by rw[i3 j (by have:=List.mem_range.1 hj;omega)];rfl
    ·rw[decide_eq_false c,show((x.length:Int)==(y.length:Int))=false from beq_eq_false_iff_ne.2 (by omega)];rfl
   rw[e];exact Wk.refl _
 ·rw[h0,cond_false]
  refine qa (fun h1=> ?_) fun h1=> ?_
  ·rw[h1,cond_true]
   refine⟨PureW.mk (c28 x lx),fun _=>PureW.mk (c28 y ly),fun _=>PureW.mk (c29 x y _ lx ly lt),?_⟩
   rw[quz];exact Wk.refl _
  ·rw[h1,cond_false]
   refine qa (fun h2=>by rw[h2];exact Wk.refl _) fun h2=>by rw[h2];exact Wk.refl _
theorem c3(k:Int)(x y:Str)(t:Tol):Pure PP 3 [I k,.str x,.str y,t.d] (B true):=by
 refine pu F3 (by kernel_rfl) (of_eq (nCS k x y t _) fun _ _ _=>qa (fun _=>⟨PureW.mk c8,Wk.refl _⟩) fun h=> ?_)
 have hl:x.length<=130/\y.length<=130/\t.val.length<=130:=by
  by_cases c1:(x.length:Int) > 130
  ·rw[decide_eq_true c1]at h;cases h
  ·by_cases c2:(y.length:Int) > 130
   ·rw[decide_eq_false c1,decide_eq_true c2]at h;cases h
   ·rw[decide_eq_false c1,decide_eq_false c2]at h
    have:¬ (t.val.length:Int) > 130:=of_decide_eq_false h
    omega
 rw[beq_self_eq_true]
 exact⟨PureW.mk (c9 k x y t),PureW.mk (c10 k x y t (by omega) (by omega) (by omega)),fun _=>PureW.mk c8,Wk.refl _⟩
end Go.Proofs.YtiekphbkomddfaaGreatDoor.S1
