/- strings.Trim, strings.Repeat. -/
import Derived.Test.YtiekphbkomddfaaGreatDoorCSG2
import Derived.Ground.NamesProg
import Derived.Lib.ItoaLen
import Derived.Shelf.Strconv.Itoa4
import Derived.Lib.AppendIntMem
namespace Go.Proofs.YtiekphbkomddfaaGreatDoor.S1
open Go Go.Ab Go.Proofs
theorem size_toArray(s:Str):(⟨s.toArray⟩:ByteArray).size=s.length:=by show s.toArray.size=_;simp
abbrev qk(b:UInt8):D:= .int .u8 b.toNat
instance ddEncB{b:UInt8}:DD (qk b):=inferInstanceAs (DD (.int _ _))
def dgt(c:UInt8):Nat:=c.toNat-48
def zl(c:UInt8):Bool:=decide (48<=c.toNat/\c.toNat<=57)
def js:Str->Nat
 | []=>0
 |c::r=>dgt c*10^r.length+js r
theorem ac{c:UInt8}(h:zl c=true):dgt c<=9:=by
 unfold zl at h
 have:=of_decide_eq_true h
 unfold dgt;omega
theorem p10(n:Nat):0<10^n:=Nat.pow_pos (by decide)
theorem wq:∀(q:Str),q.all zl=true->js q<10^q.length
 | [],_=>by decide
 |c::r,h=>by
  rw[List.all_cons,Bool.and_eq_true]at h
  have h1:=wq r h.2
  have h2:=ac h.1
  have h3:dgt c*10^r.length<=9*10^r.length:=Nat.mul_le_mul_right _ h2
  rw[js,List.length_cons,Nat.pow_succ];omega
theorem ue:∀(a b:Str),js (a++b)=js a*10^b.length+js b
 | [],b=>by simp[js]
 |c::a,b=>by
  rw[List.cons_append,js,js,ue a b,List.length_append,Nat.pow_add,Nat.add_mul,Nat.mul_assoc];omega
theorem yn:∀n:Nat,js (List.replicate n 48)=0
 |0=>rfl
 |n+1=>by
  rw[List.replicate_succ,js,yn n]
  show(48-48)*_+0=0
  simp
def ae:Str->Str->Int
 | [],[]=>0
 | [],_::_=> -1
 |_::_,[]=>1
 |a::u,b::v=>if a.toNat<b.toNat then -1 else if b.toNat<a.toNat then 1 else ae u v
def qc5(q:Str):Prop:=q=[]\/q.getLast? ≠some 48
theorem cf{c:UInt8}{r:Str}(h:qc5 (c::r)):qc5 r:=by
 rcases h with h|h
 ·cases h
 ·cases r with
  |nil=>exact .inl rfl
  |cons d r=>right;rwa [List.getLast?_cons_cons]at h
theorem rp:∀(q:Str),q.all zl=true->q≠[]->qc5 q->0<js q
 | [],_,h,_=>absurd rfl h
 | [c],h,_,he=>by
  have hc:c≠48:=by
   rcases he with he|he
   ·cases he
   ·intro e;rw[e]at he;exact he rfl
  rw[List.all_cons,Bool.and_eq_true]at h
  have h1:=of_decide_eq_true h.1
  have h2:c.toNat≠48:=fun e=>hc (UInt8.toNat_inj.1 (by rw[e];rfl))
  rw[js,js];unfold dgt
  simp;omega
 |c::d::r,h,_,he=>by
  rw[List.all_cons,Bool.and_eq_true]at h
  have:=rp (d::r) h.2 (by simp) (cf he)
  rw[js];omega
theorem xj{x:Int}(h:x<0):x.sign = -1:=Int.sign_eq_neg_one_of_neg h
theorem kw{x:Int}(h:0<x):x.sign=1:=Int.sign_eq_one_of_pos h
theorem qh0{k x:Int}(h:0<k):(k*x).sign=x.sign:=by rw[Int.sign_mul,kw h,Int.one_mul]
theorem qbq:∀(u v:Str),u.all zl=true->v.all zl=true->qc5 u->qc5 v->ae u v=((js u:Int)*(10:Int)^v.length-(js v:Int)*(10:Int)^u.length).sign
 | [],[],_,_,_,_=>by simp[ae,js]
 | [],d::v,_,hv,_,ev=>by
  have:=rp (d::v) hv (by simp) ev
  rw[ae,xj]
  simp only[js,List.length_nil,Int.pow_zero]at this⊢
  omega
 |c::u,[],hu,_,eu,_=>by
  have:=rp (c::u) hu (by simp) eu
  rw[ae,kw]
  simp only[js,List.length_nil,Int.pow_zero]at this⊢
  omega
 |c::u,d::v,hu,hv,eu,ev=>by
  rw[List.all_cons,Bool.and_eq_true]at hu hv
  have ih:=qbq u v hu.2 hv.2 (cf eu) (cf ev)
  have hX:=wq u hu.2
  have hY:=wq v hv.2
  have hc:=of_decide_eq_true hu.1
  have hd:=of_decide_eq_true hv.1
  have e:(js (c::u):Int)*(10:Int)^(d::v).length-(js (d::v):Int)*(10:Int)^(c::u).length =
    10*(((dgt c:Int)-(dgt d:Int))*((10:Int)^u.length*(10:Int)^v.length)+((js u:Int)*(10:Int)^v.length-(js v:Int)*(10:Int)^u.length)):=by
   simp only[js,List.length_cons,Int.pow_succ,Int.natCast_add,Int.natCast_mul,Int.natCast_pow]
   show _=_
   generalize (10:Int)^u.length=A
   generalize (10:Int)^v.length=B
   have:((10:Nat):Int)=10:=rfl
   simp only[Int.add_mul,Int.sub_mul,Int.mul_add,Int.mul_sub,Int.mul_comm,Int.mul_left_comm,Int.mul_assoc]
   omega
  rw[e,qh0 (by decide)]
  have hP:(0:Int)<(10:Int)^u.length:=Int.pow_pos (by decide)
  have hQ:(0:Int)<(10:Int)^v.length:=Int.pow_pos (by decide)
  have hX':(js u:Int)<(10:Int)^u.length:=by exact_mod_cast hX
  have hY':(js v:Int)<(10:Int)^v.length:=by exact_mod_cast hY
  have hXm:(js u:Int)*(10:Int)^v.length<(10:Int)^u.length*(10:Int)^v.length:=Int.mul_lt_mul_of_pos_right hX' hQ
  have hYm:(js v:Int)*(10:Int)^u.length<(10:Int)^u.length*(10:Int)^v.length:=by
   rw[Int.mul_comm ((10:Int)^u.length)];exact Int.mul_lt_mul_of_pos_right hY' hP
  have hX0:0<=(js u:Int)*(10:Int)^v.length:=Int.mul_nonneg (by omega) (by omega)
  have hY0:0<=(js v:Int)*(10:Int)^u.length:=Int.mul_nonneg (by omega) (by omega)
  have hPQ:0<(10:Int)^u.length*(10:Int)^v.length:=Int.mul_pos hP hQ
  rw[ae]
  generalize (js u:Int)*(10:Int)^v.length=X at *
  generalize (js v:Int)*(10:Int)^u.length=Y at *
  generalize (10:Int)^u.length*(10:Int)^v.length=Z at *
  by_cases h1:c.toNat<d.toNat
  ·rw[if_pos h1,xj]
   have:((dgt c:Int)-(dgt d:Int))*Z<=(-1)*Z:=Int.mul_le_mul_of_nonneg_right (by unfold dgt;omega) (by omega)
   omega
  ·rw[if_neg h1]
   by_cases h2:d.toNat<c.toNat
   ·rw[if_pos h2,kw]
    have:1*Z<=((dgt c:Int)-(dgt d:Int))*Z:=Int.mul_le_mul_of_nonneg_right (by unfold dgt;omega) (by omega)
    omega
   ·rw[if_neg h2,ih]
    have:(dgt c:Int)-(dgt d:Int)=0:=by unfold dgt;omega
    rw[this,Int.zero_mul,Int.zero_add]
structure Nm where (neg:Bool) (dig:Str) (ex:Int) deriving Inhabited,DecidableEq
def Nm.d(x:Nm):D:= .agg [B x.neg,L x.dig 1 qk,I x.ex]
def nm0:Nm:=⟨false,[],0⟩
def Nm.mag(x:Nm):Int:=(js x.dig:Int)*(10:Int)^(x.ex+3000).toNat
def Nm.val(x:Nm):Int:=if x.neg then-x.mag else x.mag
def Nm.fst(x:Nm):Int:=x.ex+x.dig.length-1
structure Nrm(x:Nm):Prop where
 dg:x.dig.all zl=true
 hd:x.dig.head? ≠some 48
 lt:qc5 x.dig
 z:x.dig=[]->x=nm0
theorem qm9{q:Str}(h:q.all zl=true)(h0:q≠[])(hd:q.head? ≠some 48):10^(q.length-1)<=js q:=by
 cases q with
 |nil=>exact absurd rfl h0
 |cons c r =>
  rw[List.all_cons,Bool.and_eq_true]at h
  have h1:=of_decide_eq_true h.1
  have h2:c.toNat≠48:=fun e=>hd (by rw[List.head?_cons];congr 1;exact UInt8.toNat_inj.1 (by rw[e];rfl))
  have h3:1*10^r.length<=dgt c*10^r.length:=Nat.mul_le_mul_right _ (by unfold dgt;omega)
  rw[js,List.length_cons,Nat.add_sub_cancel];omega
theorem pm:nm0.mag=0:=by
 unfold Nm.mag
 rw[show js nm0.dig=0 from rfl]
 exact Int.zero_mul _
def nv(a b:Nm):Int :=
 if a.dig=[]\/b.dig=[] then((a.dig.length:Int)-(b.dig.length:Int)).sign
 else if a.fst<b.fst then -1 else if b.fst<a.fst then 1 else ae a.dig b.dig
theorem qh1{a b:Int}(h:a<=b):(10:Int)^a.toNat<=(10:Int)^b.toNat:=by
 have:10^a.toNat<=10^b.toNat:=Nat.pow_le_pow_right (by decide) (by omega)
 exact_mod_cast this
theorem qlz{x:Nm}(h:x.dig.all zl=true)(hx : -2000<=x.ex):x.mag<(10:Int)^(x.ex+x.dig.length+3000).toNat:=by
 have h1:(js x.dig:Int)<(10:Int)^x.dig.length:=by have:=wq _ h;exact_mod_cast this
 have e:(10:Int)^(x.ex+x.dig.length+3000).toNat=(10:Int)^x.dig.length*(10:Int)^(x.ex+3000).toNat:=by
  rw[<-Int.pow_add];congr 1;omega
 rw[e]
 exact Int.mul_lt_mul_of_pos_right h1 (Int.pow_pos (by decide))
theorem ql0{x:Nm}(h:Nrm x)(h0:x.dig≠[])(hx : -2000<=x.ex):(10:Int)^(x.fst+3000).toNat<=x.mag:=by
 have hl:=List.length_pos_iff.2 h0
 have h1:(10:Int)^(x.dig.length-1)<=(js x.dig:Int):=by have:=qm9 h.dg h0 h.hd;exact_mod_cast this
 have e:(10:Int)^(x.fst+3000).toNat=(10:Int)^(x.dig.length-1)*(10:Int)^(x.ex+3000).toNat:=by
  rw[<-Int.pow_add];congr 1;unfold Nm.fst;omega
 rw[e]
 exact Int.mul_le_mul_of_nonneg_right h1 (Int.le_of_lt (Int.pow_pos (by decide)))
theorem qeh(x:Nm):0<=x.mag:=Int.mul_nonneg (by omega) (Int.le_of_lt (Int.pow_pos (by decide)))
theorem qc6{x:Nm}(h:Nrm x)(h0:x.dig≠[]):0<x.mag:=by
 have:=rp _ h.dg h0 h.lt
 exact Int.mul_pos (by omega) (Int.pow_pos (by decide))
theorem oo{a b:Nm}(ha:Nrm a)(hb:Nrm b)(ea : -1000<=a.ex)(eb : -1000<=b.ex)(la:a.dig.length<=1900)(lb:b.dig.length<=1900):nv a b=(a.mag-b.mag).sign:=by
 unfold nv
 by_cases h0:a.dig=[]\/b.dig=[]
 ·rw[if_pos h0]
  by_cases h1:a.dig=[]
  ·rw[ha.z h1,pm,show(nm0.dig.length:Int)=0 from rfl]
   by_cases h2:b.dig=[]
   ·rw[hb.z h2,pm,show(nm0.dig.length:Int)=0 from rfl]
   ·have:=qc6 hb h2
    have hl:=List.length_pos_iff.2 h2
    rw[xj (show 0-b.mag<0 by omega),xj (by omega)]
  ·have h2:b.dig=[]:=h0.resolve_left h1
   rw[hb.z h2,pm,show(nm0.dig.length:Int)=0 from rfl]
   have:=qc6 ha h1
   have hl:=List.length_pos_iff.2 h1
   rw[kw (show 0<a.mag-0 by omega),kw (by omega)]
 rw[if_neg h0]
 obtain⟨h1,h2⟩:=not_or.1 h0
 by_cases h3:a.fst<b.fst
 ·rw[if_pos h3,xj]
  have g1:=qlz ha.dg (by omega)
  have g2:=ql0 hb h2 (by omega)
  have g3:=qh1 (a:=a.ex+a.dig.length+3000) (b:=b.fst+3000) (by unfold Nm.fst at *;omega)
  omega
 rw[if_neg h3]
 by_cases h4:b.fst<a.fst
 ·rw[if_pos h4,kw]
  have g1:=qlz hb.dg (by omega)
  have g2:=ql0 ha h1 (by omega)
  have g3:=qh1 (a:=b.ex+b.dig.length+3000) (b:=a.fst+3000) (by unfold Nm.fst at *;omega)
  omega
 rw[if_neg h4,qbq _ _ ha.dg hb.dg ha.lt hb.lt]
 have hE:a.ex-b.dig.length=b.ex-a.dig.length:=by unfold Nm.fst at *;omega
 have e1:a.mag=(10:Int)^(a.ex+3000-b.dig.length).toNat*((js a.dig:Int)*(10:Int)^b.dig.length):=by
  unfold Nm.mag
  have:(10:Int)^(a.ex+3000).toNat=(10:Int)^(a.ex+3000-b.dig.length).toNat*(10:Int)^b.dig.length:=by
   rw[<-Int.pow_add];congr 1;omega
  rw[this,Int.mul_left_comm]
 have e2:b.mag=(10:Int)^(a.ex+3000-b.dig.length).toNat*((js b.dig:Int)*(10:Int)^a.dig.length):=by
  unfold Nm.mag
  have:(10:Int)^(b.ex+3000).toNat=(10:Int)^(a.ex+3000-b.dig.length).toNat*(10:Int)^a.dig.length:=by
   rw[<-Int.pow_add];congr 1;omega
  rw[this,Int.mul_left_comm]
 rw[e1,e2,<-Int.mul_sub,qh0 (Int.pow_pos (by decide))]
def zs(n:Nat):Str:=List.replicate n 48
theorem ko(n:Nat):(zs n).length=n:=by unfold zs;simp
theorem qf2(n:Nat):(zs n).all zl=true:=by
 unfold zs
 rw[List.all_replicate]
 split <;> rfl
def tL:Str->Str
 | []=>[]
 |c::r=>if c=48 then tL r else c::r
def tR(q:Str):Str:=(tL q.reverse).reverse
theorem af:∀q:Str,∃n,q=zs n++tL q/\(tL q).head? ≠some 48
 | []=>⟨0,rfl,by simp[tL]⟩
 |c::r=>by
  rw[tL]
  by_cases h:c=48
  ·obtain⟨n,h1,h2⟩:=af r
   rw[if_pos h]
   refine⟨n+1,?_,h2⟩
   have:zs (n+1)=48::zs n:=by unfold zs;rw[List.replicate_succ]
   rw[this,List.cons_append,<-h1,h]
  ·rw[if_neg h]
   exact⟨0,rfl,by rw[List.head?_cons];intro e;exact h (Option.some.inj e)⟩
theorem qc7(q:Str):∃n,q=tR q++zs n/\qc5 (tR q):=by
 obtain⟨n,h1,h2⟩:=af q.reverse
 refine⟨n,?_,?_⟩
 ·have:=congrArg List.reverse h1
  rw[List.reverse_reverse,List.reverse_append]at this
  have hz:(zs n).reverse=zs n:=by unfold zs;rw[List.reverse_replicate]
  rw[hz]at this
  exact this
 ·right
  unfold tR
  rw[List.getLast?_reverse]
  exact h2
def qx(x:Nm):Nm :=
 if tR (tL x.dig)=[] then nm0 else⟨x.neg,tR (tL x.dig),x.ex+((tL x.dig).length-(tR (tL x.dig)).length:Nat)⟩
theorem qh2{p:UInt8->Bool}{a b:Str}(h:(a++b).all p=true):a.all p=true/\b.all p=true:=by
 rw[List.all_append,Bool.and_eq_true]at h;exact h
theorem pn(x:Nm)(h:x.dig.all zl=true):Nrm (qx x):=by
 obtain⟨n,h1,h2⟩:=af x.dig
 obtain⟨m,h3,h4⟩:=qc7 (tL x.dig)
 have h5:(tR (tL x.dig)).all zl=true:=by
  rw[h1]at h
  have h6:=(qh2 h).2
  rw[h3]at h6
  exact(qh2 h6).1
 unfold qx
 by_cases h0:tR (tL x.dig)=[]
 ·rw[if_pos h0]
  exact⟨rfl,by simp[nm0],.inl rfl,fun _=>rfl⟩
 ·rw[if_neg h0]
  refine⟨h5,?_,h4,fun e=>absurd e h0⟩
  intro e
  apply h2
  rw[h3]
  cases hq:tR (tL x.dig) with
  |nil=>exact absurd hq h0
  |cons c r =>
   simp only[hq,List.head?_cons]at e
   rw[List.cons_append,List.head?_cons];exact e
theorem d8(x:Nm)(hx : -3000<=x.ex):(qx x).val=x.val/\(qx x).mag=x.mag:=by
 obtain⟨n,h1,_⟩:=af x.dig
 obtain⟨m,h3,_⟩:=qc7 (tL x.dig)
 have hl:(tL x.dig).length-(tR (tL x.dig)).length=m:=by
  have:=congrArg List.length h3
  rw[List.length_append,ko]at this;omega
 have hz:∀k,js (zs k)=0:=fun k=>yn k
 have hv:js x.dig=js (tR (tL x.dig))*10^m:=by
  have e1:js x.dig=js (tL x.dig):=by
   conv=>lhs;rw[h1,ue,hz]
   simp
  have e2:js (tL x.dig)=js (tR (tL x.dig))*10^m:=by
   conv=>lhs;rw[h3,ue,hz,ko]
   omega
  rw[e1,e2]
 unfold qx
 by_cases h0:tR (tL x.dig)=[]
 ·rw[if_pos h0]
  rw[h0]at hv
  have:x.mag=0:=by unfold Nm.mag;rw[hv];simp[js]
  unfold Nm.val
  rw[this,pm]
  simp
 ·rw[if_neg h0,hl]
  have:Nm.mag ⟨x.neg,tR (tL x.dig),x.ex+(m:Int)⟩=x.mag:=by
   unfold Nm.mag
   rw[hv]
   have e:(10:Int)^(x.ex+(m:Int)+3000).toNat=(10:Int)^m*(10:Int)^(x.ex+3000).toNat:=by
    rw[<-Int.pow_add];congr 1;omega
   show(js (tR (tL x.dig)):Int)*(10:Int)^(x.ex+(m:Int)+3000).toNat=_
   rw[e,Int.natCast_mul,Int.natCast_pow,Int.mul_assoc];rfl
  unfold Nm.val
  rw[this]
  exact⟨rfl,rfl⟩
theorem nw(q:Str):(tL q).length<=q.length:=by
 obtain⟨n,h,_⟩:=af q
 have:=congrArg List.length h
 rw[List.length_append,ko]at this;omega
theorem qbr(q:Str):(tR q).length<=q.length:=by
 have:=nw q.reverse
 unfold tR
 rw[List.length_reverse]at *;omega
theorem d9(x:Nm):(qx x).dig.length<=x.dig.length:=by
 have h1:=nw x.dig
 have h2:=qbr (tL x.dig)
 unfold qx
 split
 ·show 0<=_;omega
 ·show(tR (tL x.dig)).length<=_;omega
def zy(x:Nm)(e:Int)(n:Nat):Str:=zs (n-x.dig.length-(x.ex-e).toNat)++(x.dig++zs (x.ex-e).toNat)
theorem oq(x:Nm)(e:Int)(n:Nat):js (zy x e n)=js x.dig*10^(x.ex-e).toNat:=by
 unfold zy
 have hz:∀k,js (zs k)=0:=fun k=>yn k
 rw[ue,hz,ue,hz,ko];omega
theorem w8{x:Nm}{e:Int}{n:Nat}(h:x.dig.length+(x.ex-e).toNat<=n):(zy x e n).length=n:=by
 unfold zy
 rw[List.length_append,List.length_append,ko,ko];omega
theorem xk{x:Nm}(e:Int)(n:Nat)(h:x.dig.all zl=true):(zy x e n).all zl=true:=by
 unfold zy
 rw[List.all_append,List.all_append,qf2,qf2,h];rfl
def chD(n:Int):UInt8:=UInt8.ofNat (48+n.toNat)
theorem rq{n:Int}(h0:0<=n)(h1:n<=9):zl (chD n)=true/\(dgt (chD n):Int)=n:=by
 have e:(chD n).toNat=48+n.toNat:=by unfold chD;rw[UInt8.toNat_ofNat'];omega
 refine⟨?_,?_⟩
 ·unfold zl;rw[e];exact decide_eq_true (by omega)
 ·unfold dgt;rw[e];omega
def xl(d:Int):UInt8×Int:=if d > 9 then(chD (d-10),1) else if d<0 then(chD (d+10),-1) else(chD d,0)
def kf(sb:Bool):Str->Str->Str×Int
 |x::r,y::q=>((xl ((dgt x:Int)+(kf sb r q).2+(if sb then-(dgt y:Int) else(dgt y:Int)))).1::(kf sb r q).1,(xl ((dgt x:Int)+(kf sb r q).2+(if sb then-(dgt y:Int) else(dgt y:Int)))).2)
 |_,_=>([],0)
theorem vo(sb:Bool):∀(x y:Str),x.length=y.length->x.all zl=true->y.all zl=true ->
  (kf sb x y).1.length=x.length/\(kf sb x y).1.all zl=true/\ -1<=(kf sb x y).2/\(kf sb x y).2<=1 /\
  (js (kf sb x y).1:Int)+(kf sb x y).2*(10:Int)^x.length=(js x:Int)+(if sb then-(js y:Int) else(js y:Int))
 | [],[],_,_,_=>by
  rw[kf]
  ·refine⟨rfl,rfl,by decide,by decide,?_⟩
   cases sb <;> rfl
  ·intro _ _ _ _ h;cases h
 | [],_::_,h,_,_=>by simp at h
 |_::_,[],h,_,_=>by simp at h
 |c::x,d::y,h,hx,hy=>by
  rw[List.all_cons,Bool.and_eq_true]at hx hy
  have hl:x.length=y.length:=by simpa using h
  obtain⟨h1,h2,h3,h4,h5⟩:=vo sb x y hl hx.2 hy.2
  have hc:=ac hx.1
  have hd:=ac hy.1
  rw[kf]
  generalize (kf sb x y).2=cy at *
  generalize (kf sb x y).1=z at *
  generalize hs:(dgt c:Int)+cy+(if sb then-(dgt d:Int) else(dgt d:Int))=s at *
  have hsb : -10<=s/\s<=19:=by
   cases sb
   ·have e:(dgt c:Int)+cy+(dgt d:Int)=s:=hs
    omega
   ·have e:(dgt c:Int)+cy + -(dgt d:Int)=s:=hs
    omega
  have hst:zl (xl s).1=true/\ -1<=(xl s).2/\(xl s).2<=1/\(dgt (xl s).1:Int)+10*(xl s).2=s:=by
   unfold xl
   by_cases k1:s > 9
   ·rw[if_pos k1]
    obtain⟨m1,m2⟩:=rq (n:=s-10) (by omega) (by omega)
    exact⟨m1,by simp only;omega,by simp only;omega,by simp only;omega⟩
   ·rw[if_neg k1]
    by_cases k2:s<0
    ·rw[if_pos k2]
     obtain⟨m1,m2⟩:=rq (n:=s+10) (by omega) (by omega)
     exact⟨m1,by simp only;omega,by simp only;omega,by simp only;omega⟩
    ·rw[if_neg k2]
     obtain⟨m1,m2⟩:=rq (n:=s) (by omega) (by omega)
     exact⟨m1,by simp only;omega,by simp only;omega,by simp only;omega⟩
  obtain⟨g1,g2,g3,g4⟩:=hst
  refine⟨by simp only[List.length_cons];omega,by rw[List.all_cons,g1,h2];rfl,g2,g3,?_⟩
  simp only[js,List.length_cons,Int.natCast_add,Int.natCast_mul,Int.natCast_pow,Int.pow_succ]
  have e10:((10:Nat):Int)=10:=rfl
  rw[h1,e10]
  generalize (xl s).2=c2 at *
  generalize (dgt (xl s).1:Int)=z0 at *
  have hm:z0*(10:Int)^x.length+c2*((10:Int)^x.length*10)=s*(10:Int)^x.length:=by
   rw[<-g4,Int.add_mul,Int.mul_comm ((10:Int)^x.length) 10,<-Int.mul_assoc,Int.mul_comm c2 10]
  rw[<-hl]
  generalize (js z:Int)=Z at *
  cases sb
  ·have e:(dgt c:Int)+cy+(dgt d:Int)=s:=hs
   have h5:Z+cy*(10:Int)^x.length=(js x:Int)+(js y:Int):=h5
   show z0*(10:Int)^x.length+Z+c2*((10:Int)^x.length*10)=(dgt c:Int)*(10:Int)^x.length+(js x:Int)+((dgt d:Int)*(10:Int)^x.length+(js y:Int))
   rw[<-e,Int.add_mul,Int.add_mul]at hm
   omega
  ·have e:(dgt c:Int)+cy + -(dgt d:Int)=s:=hs
   have h5:Z+cy*(10:Int)^x.length=(js x:Int) + -(js y:Int):=h5
   show z0*(10:Int)^x.length+Z+c2*((10:Int)^x.length*10)=(dgt c:Int)*(10:Int)^x.length+(js x:Int) + -((dgt d:Int)*(10:Int)^x.length+(js y:Int))
   rw[<-e,Int.add_mul,Int.add_mul,Int.neg_mul]at hm
   omega
def yg(a b:Nm):Nat:=(max a.fst b.fst-min a.ex b.ex+2).toNat
def uw(a b:Nm):Nm :=
 if a.dig=[] then b else if b.dig=[] then a
 else if nv a b<0 then qx ⟨b.neg,(kf (b.neg !=a.neg) (zy b (min a.ex b.ex) (yg a b)) (zy a (min a.ex b.ex) (yg a b))).1,min a.ex b.ex⟩
 else qx ⟨a.neg,(kf (a.neg !=b.neg) (zy a (min a.ex b.ex) (yg a b)) (zy b (min a.ex b.ex) (yg a b))).1,min a.ex b.ex⟩
theorem qei{a b:Nm}:a.dig.length+(a.ex-min a.ex b.ex).toNat<yg a b/\b.dig.length+(b.ex-min a.ex b.ex).toNat<yg a b:=by
 unfold yg Nm.fst
 constructor <;> omega
theorem qej{a b:Nm}(e:Int)(n:Nat)(ha:a.dig.all zl=true)(hb:b.dig.all zl=true)(e1:e<=a.ex)(e2:e<=b.ex)(he : -3000<=e)(la:a.dig.length+(a.ex-e).toNat<n)(lb:b.dig.length+(b.ex-e).toNat<n)(hm:b.mag<=a.mag) :
  (qx ⟨a.neg,(kf (a.neg !=b.neg) (zy a e n) (zy b e n)).1,e⟩).val=a.val+b.val/\Nrm (qx ⟨a.neg,(kf (a.neg !=b.neg) (zy a e n) (zy b e n)).1,e⟩)/\
  (kf (a.neg !=b.neg) (zy a e n) (zy b e n)).1.length=n:=by
 have l1:=w8 (x:=a) (e:=e) (n:=n) (by omega)
 have l2:=w8 (x:=b) (e:=e) (n:=n) (by omega)
 obtain⟨h1,h2,h3,h4,h5⟩:=vo (a.neg !=b.neg) (zy a e n) (zy b e n) (by rw[l1,l2]) (xk e n ha) (xk e n hb)
 refine⟨?_,pn _ h2,by rw[h1,l1]⟩
 rw[(d8 _ he).1]
 rw[l1]at h1 h5
 have va:a.mag=(js (zy a e n):Int)*(10:Int)^(e+3000).toNat:=by
  unfold Nm.mag
  rw[oq,Int.natCast_mul,Int.natCast_pow,Int.mul_assoc]
  have:(10:Int)^(a.ex+3000).toNat=(10:Int)^(a.ex-e).toNat*(10:Int)^(e+3000).toNat:=by
   rw[<-Int.pow_add];congr 1;omega
  rw[this];rfl
 have vb:b.mag=(js (zy b e n):Int)*(10:Int)^(e+3000).toNat:=by
  unfold Nm.mag
  rw[oq,Int.natCast_mul,Int.natCast_pow,Int.mul_assoc]
  have:(10:Int)^(b.ex+3000).toNat=(10:Int)^(b.ex-e).toNat*(10:Int)^(e+3000).toNat:=by
   rw[<-Int.pow_add];congr 1;omega
  rw[this];rfl
 have hP:(0:Int)<(10:Int)^(e+3000).toNat:=Int.pow_pos (by decide)
 have hle:(js (zy b e n):Int)<=(js (zy a e n):Int):=by
  rw[va,vb]at hm
  exact Int.le_of_mul_le_mul_right hm hP
 have bnd:∀x:Nm,x.dig.all zl=true->x.dig.length+(x.ex-e).toNat<n->(js (zy x e n):Int)*10<(10:Int)^n:=fun x hx hl=>by
  have q1:=wq _ hx
  have q2:js (zy x e n)<10^(n-1):=by
   rw[oq]
   refine Nat.lt_of_lt_of_le (Nat.mul_lt_mul_of_pos_right q1 (p10 _)) ?_
   rw[<-Nat.pow_add]
   exact Nat.pow_le_pow_right (by decide) (by omega)
  have q3:10^n=10^(n-1)*10:=by rw[<-Nat.pow_succ];congr 1;omega
  have q4:js (zy x e n)*10<10^n:=by rw[q3];omega
  exact_mod_cast q4
 have ba:=bnd a ha la
 have bb:=bnd b hb lb
 have hz:(js (kf (a.neg !=b.neg) (zy a e n) (zy b e n)).1:Int)<(10:Int)^n:=by
  have:=wq _ h2
  rw[h1]at this
  exact_mod_cast this
 generalize (kf (a.neg !=b.neg) (zy a e n) (zy b e n)).2=cy at *
 generalize (kf (a.neg !=b.neg) (zy a e n) (zy b e n)).1=z at *
 have hQ:(0:Int)<(10:Int)^n:=Int.pow_pos (by decide)
 generalize (10:Int)^n=Q at *
 have hcy:cy=0:=by
  have:cy = -1\/cy=0\/cy=1:=by omega
  rcases this with rfl|rfl|rfl
  ·cases hs:(a.neg !=b.neg) <;> rw[hs]at h5 <;> simp only[if_true,if_false,Bool.false_eq_true]at h5 <;> omega
  ·rfl
  ·cases hs:(a.neg !=b.neg) <;> rw[hs]at h5 <;> simp only[if_true,if_false,Bool.false_eq_true]at h5 <;> omega
 rw[hcy,Int.zero_mul,Int.add_zero]at h5
 have hv:Nm.mag ⟨a.neg,z,e⟩=a.mag+(if(a.neg !=b.neg) then-b.mag else b.mag):=by
  show(js z:Int)*(10:Int)^(e+3000).toNat=_
  rw[h5,va,vb]
  cases hs:(a.neg !=b.neg)
  ·simp only[Bool.false_eq_true,if_false,hs];rw[Int.add_mul]
  ·simp only[if_true,hs];rw[Int.add_mul,Int.neg_mul]
 unfold Nm.val
 rw[hv]
 show(if a.neg=true then -(a.mag+_) else a.mag+_)=_
 cases a.neg <;> cases b.neg <;> simp <;> omega
theorem qbs{a b:Nm}(ha:Nrm a)(hb:Nrm b)(ea : -1000<=a.ex)(eb : -1000<=b.ex)(la:a.dig.length<=1900)(lb:b.dig.length<=1900):(uw a b).val=a.val+b.val/\Nrm (uw a b):=by
 have hz:nm0.val=0:=by unfold Nm.val;rw[pm];rfl
 unfold uw
 by_cases h1:a.dig=[]
 ·rw[if_pos h1,ha.z h1,hz,Int.zero_add];exact⟨rfl,hb⟩
 rw[if_neg h1]
 by_cases h2:b.dig=[]
 ·rw[if_pos h2,hb.z h2,hz,Int.add_zero];exact⟨rfl,ha⟩
 rw[if_neg h2]
 have hm:=oo ha hb ea eb la lb
 obtain⟨k1,k2⟩:=qei (a:=a) (b:=b)
 by_cases h3:nv a b<0
 ·rw[if_pos h3]
  have h4:a.mag-b.mag<0:=by rw[hm]at h3;exact Int.sign_neg_iff.1 h3
  obtain⟨r1,r2,_⟩:=qej (a:=b) (b:=a) (min a.ex b.ex) (yg a b) hb.dg ha.dg (by omega) (by omega) (by omega) k2 k1 (by omega)
  exact⟨by rw[r1];omega,r2⟩
 ·rw[if_neg h3]
  have h4:b.mag<=a.mag:=by
   apply Classical.byContradiction
   intro h
   apply h3
   rw[hm]
   exact Int.sign_neg_iff.2 (by omega)
  obtain⟨r1,r2,_⟩:=qej (a:=a) (b:=b) (min a.ex b.ex) (yg a b) ha.dg hb.dg (by omega) (by omega) (by omega) k1 k2 h4
  exact⟨r1,r2⟩
def Nm.pe(x:Nm):Int:=if x.dig=[] then 0 else x.fst
def Nm.p(x:Nm):D:= .agg [B x.neg,.str x.dig,I x.pe]
def xz(a b:Nm):Int:=max 0 (max ((a.dig.length:Int)-1-a.pe) ((b.dig.length:Int)-1-b.pe))
def kq(x:Nm)(n:Int):Str:=x.dig++zs (n-((x.dig.length:Int)-1-x.pe)).toNat
def zm(q:Str)(n:Nat):Str:=zs (n-q.length)++q
def ah(x y:Str):Nat:=max (max x.length y.length) 1
def zx(x y:Str):Str:=chD (kf false x y).2::(kf false x y).1
def uf(x y:Str):Str:=(kf true x y).1
def qcb(a b:Nm):Nm :=
 let n:=xz a b
 let k:=ah (kq a n) (kq b n)
 let x:=zm (kq a n) k
 let y:=zm (kq b n) k
 if a.neg=b.neg then qx ⟨a.neg,zx x y,- n⟩
 else if ae x y<0 then qx ⟨b.neg,uf y x,- n⟩ else qx ⟨a.neg,uf x y,- n⟩
theorem qek{x:Nm}(hx:Nrm x){n:Int}(h:(x.dig.length:Int)-1-x.pe<=n)(hn:0<=n)(hn3:n<=3000):(js (kq x n):Int)*(10:Int)^(3000-n).toNat=x.mag/\(kq x n).all zl=true:=by
 have hz:∀k,js (zs k)=0:=fun k=>yn k
 have hd:(kq x n).all zl=true:=by unfold kq;rw[List.all_append,hx.dg,qf2];rfl
 refine⟨?_,hd⟩
 unfold kq
 rw[ue,hz,ko]
 by_cases h0:x.dig=[]
 ·rw[hx.z h0,pm,show js nm0.dig=0 from rfl]
  simp
 ·unfold Nm.pe at *
  rw[if_neg h0]at *
  unfold Nm.mag
  unfold Nm.fst at *
  have e:(10:Int)^(x.ex+3000).toNat=(10:Int)^(n-((x.dig.length:Int)-1-(x.ex+x.dig.length-1))).toNat*(10:Int)^(3000-n).toNat:=by
   rw[<-Int.pow_add];congr 1;omega
  rw[e,Nat.add_zero,Int.natCast_mul,Int.natCast_pow,Int.mul_assoc];rfl
theorem qel(q:Str)(n:Nat):js (zm q n)=js q:=by
 have hz:∀k,js (zs k)=0:=fun k=>yn k
 unfold zm
 rw[ue,hz];omega
theorem gb{q:Str}{n:Nat}(h:q.length<=n):(zm q n).length=n:=by
 unfold zm
 rw[List.length_append,ko];omega
theorem ot{q:Str}(n:Nat)(h:q.all zl=true):(zm q n).all zl=true:=by
 unfold zm
 rw[List.all_append,qf2,h];rfl
theorem qh3:∀(u v:Str),u.length=v.length->u.all zl=true->v.all zl=true->ae u v=((js u:Int)-(js v:Int)).sign
 | [],[],_,_,_=>rfl
 | [],_::_,h,_,_=>by simp at h
 |_::_,[],h,_,_=>by simp at h
 |c::u,d::v,h,hu,hv=>by
  rw[List.all_cons,Bool.and_eq_true]at hu hv
  have hl:u.length=v.length:=by simpa using h
  have ih:=qh3 u v hl hu.2 hv.2
  have hX:=wq u hu.2
  have hY:=wq v hv.2
  have hc:=of_decide_eq_true hu.1
  have hd:=of_decide_eq_true hv.1
  rw[ae,js,js,<-hl]
  rw[<-hl]at hY
  by_cases h1:c.toNat<d.toNat
  ·rw[if_pos h1,xj]
   have:(dgt c+1)*10^u.length<=dgt d*10^u.length:=Nat.mul_le_mul_right _ (by unfold dgt;omega)
   rw[Nat.add_mul]at this
   omega
  ·rw[if_neg h1]
   by_cases h2:d.toNat<c.toNat
   ·rw[if_pos h2,kw]
    have:(dgt d+1)*10^u.length<=dgt c*10^u.length:=Nat.mul_le_mul_right _ (by unfold dgt;omega)
    rw[Nat.add_mul]at this
    omega
   ·rw[if_neg h2,ih]
    have:dgt c=dgt d:=by unfold dgt;omega
    rw[this]
    congr 1
    omega
theorem qh4{x y:Str}(h:x.length=y.length)(hx:x.all zl=true)(hy:y.all zl=true):js (zx x y)=js x+js y/\(zx x y).all zl=true/\(zx x y).length=x.length+1/\0<=(kf false x y).2:=by
 obtain⟨h1,h2,h3,h4,h5⟩:=vo false x y h hx hy
 have h5:(js (kf false x y).1:Int)+(kf false x y).2*(10:Int)^x.length=(js x:Int)+(js y:Int):=h5
 have hz:(js (kf false x y).1:Int)<(10:Int)^x.length:=by
  have:=wq _ h2
  rw[h1]at this
  exact_mod_cast this
 unfold zx
 rw[js,h1,List.all_cons,h2,List.length_cons,h1]
 generalize (kf false x y).2=c at *
 generalize (kf false x y).1=z at *
 have hQ:(0:Int)<(10:Int)^x.length:=Int.pow_pos (by decide)
 have hc:c=0\/c=1:=by
  have:c = -1\/c=0\/c=1:=by omega
  rcases this with rfl|h|h
  ·omega
  ·exact .inl h
  ·exact .inr h
 obtain⟨m1,m2⟩:=rq (n:=c) (by omega) (by omega)
 refine⟨?_,by rw[m1];rfl,rfl,by omega⟩
 have:((dgt (chD c)*10^x.length+js z:Nat):Int)=((js x+js y:Nat):Int):=by
  rw[Int.natCast_add,Int.natCast_mul,Int.natCast_pow,m2,Int.natCast_add,<-h5,Int.add_comm];rfl
 exact_mod_cast this
theorem qem{x y:Str}(h:x.length=y.length)(hx:x.all zl=true)(hy:y.all zl=true)(hle:js y<=js x):js (uf x y)+js y=js x/\(uf x y).all zl=true/\(uf x y).length=x.length:=by
 obtain⟨h1,h2,h3,h4,h5⟩:=vo true x y h hx hy
 have h5:(js (kf true x y).1:Int)+(kf true x y).2*(10:Int)^x.length=(js x:Int) + -(js y:Int):=h5
 have hz:(js (kf true x y).1:Int)<(10:Int)^x.length:=by
  have:=wq _ h2
  rw[h1]at this
  exact_mod_cast this
 have hxl:(js x:Int)<(10:Int)^x.length:=by have:=wq _ hx;exact_mod_cast this
 refine⟨?_,h2,h1⟩
 unfold uf
 generalize (kf true x y).2=c at *
 generalize (kf true x y).1=z at *
 have hc:c=0:=by
  have:c = -1\/c=0\/c=1:=by omega
  rcases this with rfl|h|rfl
  ·omega
  ·exact h
  ·omega
 rw[hc,Int.zero_mul]at h5
 omega
theorem ai{a b:Nm}(ha:Nrm a)(hb:Nrm b)(ea : -1000<=a.ex)(eb : -1000<=b.ex):(qcb a b).val=a.val+b.val/\Nrm (qcb a b):=by
 have hpa:(a.dig.length:Int)-1-a.pe<=1000:=by
  unfold Nm.pe Nm.fst
  split
  ·rename_i h;rw[h];simp
  ·omega
 have hpb:(b.dig.length:Int)-1-b.pe<=1000:=by
  unfold Nm.pe Nm.fst
  split
  ·rename_i h;rw[h];simp
  ·omega
 have hn:0<=xz a b/\xz a b<=1000/\(a.dig.length:Int)-1-a.pe<=xz a b/\(b.dig.length:Int)-1-b.pe<=xz a b:=by
  unfold xz;omega
 unfold qcb
 generalize xz a b=n at *
 obtain⟨n0,n1,na,nb⟩:=hn
 obtain⟨va,da⟩:=qek ha na n0 (by omega)
 obtain⟨vb,db⟩:=qek hb nb n0 (by omega)
 have hk:(kq a n).length<=ah (kq a n) (kq b n)/\(kq b n).length<=ah (kq a n) (kq b n):=by unfold ah;omega
 simp only
 generalize ah (kq a n) (kq b n)=k at *
 have lx:=gb hk.1
 have ly:=gb hk.2
 have dx:=ot k da
 have dy:=ot k db
 have vx:(js (zm (kq a n) k):Int)*(10:Int)^(3000-n).toNat=a.mag:=by rw[qel];exact va
 have vy:(js (zm (kq b n) k):Int)*(10:Int)^(3000-n).toNat=b.mag:=by rw[qel];exact vb
 generalize zm (kq a n) k=x at *
 generalize zm (kq b n) k=y at *
 have hP:(0:Int)<(10:Int)^(3000-n).toNat:=Int.pow_pos (by decide)
 have hmag:∀(s:Bool) (z:Str),Nm.mag ⟨s,z,-n⟩=(js z:Int)*(10:Int)^(3000-n).toNat:=fun s z=>by
  unfold Nm.mag
  rw[show(-n+3000).toNat=(3000-n).toNat by congr 1;omega]
 have hlxy:x.length=y.length:=by rw[lx,ly]
 by_cases hs:a.neg=b.neg
 ·rw[if_pos hs]
  obtain⟨p1,p2,_,_⟩:=qh4 hlxy dx dy
  refine⟨?_,pn _ p2⟩
  rw[(d8 _ (show -3000<= -n by omega)).1]
  unfold Nm.val
  rw[hmag,p1,Int.natCast_add,Int.add_mul,vx,vy]
  show(if a.neg=true then _ else _)=_
  rw[<-hs]
  cases a.neg <;> simp <;> omega
 rw[if_neg hs]
 have hc:=qh3 x y hlxy dx dy
 by_cases hl:ae x y<0
 ·rw[if_pos hl]
  have hlt:js x<=js y:=by
   rw[hc]at hl
   have:=Int.sign_neg_iff.1 hl
   omega
  obtain⟨p1,p2,_⟩:=qem hlxy.symm dy dx hlt
  refine⟨?_,pn _ p2⟩
  rw[(d8 _ (show -3000<= -n by omega)).1]
  have e:Nm.mag ⟨b.neg,uf y x,-n⟩=b.mag-a.mag:=by
   rw[hmag,<-vx,<-vy,<-Int.sub_mul]
   congr 1;omega
  unfold Nm.val
  rw[e]
  show(if b.neg=true then _ else _)=_
  cases ha':a.neg <;> cases hb':b.neg <;> simp[ha',hb']at hs⊢ <;> omega
 ·rw[if_neg hl]
  have hlt:js y<=js x:=by
   apply Classical.byContradiction
   intro h
   apply hl
   rw[hc]
   exact Int.sign_neg_iff.2 (by omega)
  obtain⟨p1,p2,_⟩:=qem hlxy dx dy hlt
  refine⟨?_,pn _ p2⟩
  rw[(d8 _ (show -3000<= -n by omega)).1]
  have e:Nm.mag ⟨a.neg,uf x y,-n⟩=a.mag-b.mag:=by
   rw[hmag,<-vx,<-vy,<-Int.sub_mul]
   congr 1;omega
  unfold Nm.val
  rw[e]
  show(if a.neg=true then _ else _)=_
  cases ha':a.neg <;> cases hb':b.neg <;> simp[ha',hb']at hs⊢ <;> omega
def qi:Str->Str×Str
 | []=>([],[])
 |c::r=>if zl c=true then(c::(qi r).1,(qi r).2) else([],c::r)
theorem mc:∀q:Str,q=(qi q).1++(qi q).2
 | []=>rfl
 |c::r=>by
  rw[qi]
  split
  ·simp only[List.cons_append];rw[<-mc r]
  ·rfl
theorem md:∀q:Str,(qi q).1.all zl=true
 | []=>rfl
 |c::r=>by
  rw[qi]
  split
  ·rename_i h;rw[List.all_cons,h,md r];rfl
  ·rfl
theorem po(q:Str):(qi q).1.length+(qi q).2.length=q.length:=by
 have:=congrArg List.length (mc q)
 rw[List.length_append]at this;omega
def ky:Str->Bool×Str
 | []=>(false,[])
 |c::r=>if c=45 then(true,r) else if c=43 then(false,r) else(false,c::r)
theorem qkn(q:Str):(ky q).2.length<=q.length:=by
 cases q with
 |nil=>exact Nat.le_refl _
 |cons c r =>
  rw[ky]
  split
  ·simp
  ·split <;> simp
structure Rd[Lay] where (neg:Bool) (dig:Str) (fr:Nat) (en:Bool) (ed:Str) (ok:Bool)
def rdE[Lay](ng:Bool)(dg:Str)(f:Nat):Str->Option Rd
 | []=>some ⟨ng,dg,f,false,[],true⟩
 |c::r=>if c=101\/c=69 then
   (if(qi (ky r).2).1=[] then none else some ⟨ng,dg,f,(ky r).1,(qi (ky r).2).1,decide ((qi (ky r).2).2=[])⟩)
  else some ⟨ng,dg,f,false,[],false⟩
def rdF[Lay](ng:Bool)(dg:Str):Str->Option Rd
 | []=>rdE ng dg 0 []
 |c::r=>if c=46 then(if(qi r).1=[] then none else rdE ng (dg++(qi r).1) (qi r).1.length (qi r).2) else rdE ng dg 0 (c::r)
def rdP[Lay](q:Str):Option Rd :=
 if q.length > 64\/(qi (ky q).2).1=[] then none else rdF (ky q).1 (qi (ky q).2).1 (qi (ky q).2).2
def ug(cap:Nat)(q:Str):Nat:=q.foldl (fun e c=>min cap (10*e+dgt c)) 0
theorem qen(cap:Nat):∀(q:Str) (e:Nat),q.foldl (fun e c=>min cap (10*e+dgt c)) (min cap e)=min cap (e*10^q.length+js q)
 | [],e=>by simp[js]
 |c::r,e=>by
  have h:min cap (10*min cap e+dgt c)=min cap (10*e+dgt c):=by omega
  rw[List.foldl_cons,h,qen cap r,js,List.length_cons,Nat.pow_succ]
  congr 1
  rw[Nat.add_mul,<-Nat.mul_assoc,Nat.mul_comm 10 e,Nat.mul_right_comm e 10]
  omega
theorem ou(cap:Nat)(q:Str):ug cap q=min cap (js q):=by
 have:=qen cap q 0
 rw[Nat.min_zero,Nat.zero_mul,Nat.zero_add]at this
 exact this
def Rd.e[Lay](cap:Nat)(x:Rd):Int:=if x.en then-(ug cap x.ed:Int) else(ug cap x.ed:Int)
def Rd.nm[Lay](cap:Nat)(x:Rd):Nm:=⟨x.neg,x.dig,x.e cap-x.fr⟩
theorem ch[Lay]{ng:Bool}{dg:Str}{f:Nat}{q:Str}{x:Rd}(h:rdE ng dg f q=some x):x.dig=dg/\x.fr=f/\x.neg=ng:=by
 cases q with
 |nil=>cases h;exact⟨rfl,rfl,rfl⟩
 |cons c r =>
  rw[rdE]at h
  split at h
  ·split at h
   ·cases h
   ·cases h;exact⟨rfl,rfl,rfl⟩
  ·cases h;exact⟨rfl,rfl,rfl⟩
theorem qna[Lay]{ng:Bool}{dg q:Str}{x:Rd}(h:rdF ng dg q=some x)(h3:dg≠[])(h4:dg.all zl=true):x.dig≠[]/\x.dig.all zl=true:=by
 cases q with
 |nil =>
  rw[rdF]at h
  rw[(ch h).1];exact⟨h3,h4⟩
 |cons c r =>
  rw[rdF]at h
  split at h
  ·split at h
   ·cases h
   ·rw[(ch h).1]
    exact⟨by simp[h3],by rw[List.all_append,h4,md];rfl⟩
  ·rw[(ch h).1];exact⟨h3,h4⟩
theorem qpd[Lay]{ng:Bool}{dg q:Str}{x:Rd}(h:rdF ng dg q=some x):x.dig.length<=dg.length+q.length/\x.fr<=q.length:=by
 cases q with
 |nil =>
  rw[rdF]at h
  obtain⟨e1,e2,_⟩:=ch h
  rw[e1,e2];simp
 |cons c r =>
  rw[rdF]at h
  have hs:=po r
  split at h
  ·split at h
   ·cases h
   ·obtain⟨e1,e2,_⟩:=ch h
    rw[e1,e2,List.length_append,List.length_cons];omega
  ·obtain⟨e1,e2,_⟩:=ch h
   rw[e1,e2];simp
theorem qeo[Lay]{q:Str}{x:Rd}(h:rdP q=some x):x.dig≠[]/\x.dig.all zl=true/\x.dig.length<=64/\x.fr<=64:=by
 unfold rdP at h
 split at h
 ·cases h
 ·rename_i hc
  obtain⟨c1,c2⟩:=not_or.1 hc
  obtain⟨s1,s2⟩:=qpd h
  obtain⟨r1,r2⟩:=qna h c2 (md _)
  have:=po (ky q).2
  have:=qkn q
  exact⟨r1,r2,by omega,by omega⟩
def wu(x:Nm):Option Str :=
 if x.dig=[] then some [48]
 else if x.dig.length > 17\/x.fst < -400\/x.fst > 400 then none
 else some ((if x.neg then[45] else[])++(x.dig.take 1++(if x.dig.length > 1 then[46]++x.dig.drop 1 else[]))++[101]++Lib.itoa x.fst)
def ck[Lay](cap:Nat)(q:Str):Bool:=match rdP q with
 |none=>false
 |some x=>x.ok&&decide (wu (qx (x.nm cap))=some q)
def kg[Lay](cap:Nat)(q:Str):Nm:=match rdP q with
 |none=>nm0
 |some x=>qx (x.nm cap)
theorem ov[Lay](x:Rd)(cap:Nat):(tR (tL x.dig)=[]/\qx (x.nm cap)=nm0)\/(tR (tL x.dig)≠[]/\qx (x.nm cap)=⟨x.neg,tR (tL x.dig),x.e cap-x.fr+((tL x.dig).length-(tR (tL x.dig)).length:Nat)⟩):=by
 unfold qx Rd.nm
 simp only
 by_cases h:tR (tL x.dig)=[]
 ·rw[if_pos h];exact .inl ⟨h,rfl⟩
 ·rw[if_neg h];exact .inr ⟨h,rfl⟩
theorem rt[Lay]{c1 c2:Nat}(h1:1000<=c1)(h2:1000<=c2){q:Str}(h:ck c1 q=true):ck c2 q=true/\kg c2 q=kg c1 q:=by
 unfold ck kg at *
 cases hr:rdP q with
 |none=>rw[hr]at h;cases h
 |some x =>
  rw[hr]at h
  simp only[Bool.and_eq_true]at h⊢
  obtain⟨h3,h4⟩:=h
  have h4:=of_decide_eq_true h4
  obtain⟨r1,r2,r3,r4⟩:=qeo hr
  have key:qx (x.nm c2)=qx (x.nm c1):=by
   rcases ov x c1 with ⟨k1,k2⟩|⟨k1,k2⟩
   ·rcases ov x c2 with ⟨j1,j2⟩|⟨j1,j2⟩
    ·rw[k2,j2]
    ·exact absurd k1 j1
   ·rcases ov x c2 with ⟨j1,j2⟩|⟨j1,j2⟩
    ·exact absurd j1 k1
    ·rw[k2,j2]
     rw[k2]at h4
     unfold wu at h4
     rw[if_neg k1]at h4
     have hin:¬((tR (tL x.dig)).length > 17\/Nm.fst ⟨x.neg,tR (tL x.dig),x.e c1-x.fr+((tL x.dig).length-(tR (tL x.dig)).length:Nat)⟩ < -400\/Nm.fst ⟨x.neg,tR (tL x.dig),x.e c1-x.fr+((tL x.dig).length-(tR (tL x.dig)).length:Nat)⟩ > 400):=fun hc=>by
      rw[if_pos hc]at h4;cases h4
     have t1:=nw x.dig
     have t2:=qbr (tL x.dig)
     unfold Nm.fst at hin
     simp only at hin
     have he:x.e c1=x.e c2:=by
      unfold Rd.e at *
      rw[ou,ou]at *
      cases hn:x.en <;> simp only[hn,if_true,if_false,Bool.false_eq_true]at * <;> omega
     rw[he]
  rw[key]
  exact⟨⟨h3,decide_eq_true h4⟩,rfl⟩
theorem aj[Lay]{c1 c2:Nat}(h1:1000<=c1)(h2:1000<=c2)(q:Str):ck c1 q=ck c2 q:=by
 rw[Bool.eq_iff_iff]
 exact⟨fun h=>(rt h1 h2 h).1,fun h=>(rt h2 h1 h).1⟩
theorem ak[Lay]{c:Nat}{q:Str}(h:ck c q=true):Nrm (kg c q)/\(kg c q).dig.length<=17/\ -416<=(kg c q).ex/\(kg c q).ex<=400:=by
 unfold ck kg at *
 cases hr:rdP q with
 |none=>rw[hr]at h;cases h
 |some x =>
  rw[hr]at h
  simp only[Bool.and_eq_true]at h⊢
  have h4:=of_decide_eq_true h.2
  obtain⟨r1,r2,r3,r4⟩:=qeo hr
  have hn:=pn (x.nm c) r2
  refine⟨hn,?_⟩
  generalize qx (x.nm c)=y at *
  by_cases h0:y.dig=[]
  ·rw[hn.z h0];exact⟨by decide,by decide,by decide⟩
  ·unfold wu at h4
   rw[if_neg h0]at h4
   by_cases hc:y.dig.length > 17\/y.fst < -400\/y.fst > 400
   ·rw[if_pos hc]at h4;cases h4
   ·unfold Nm.fst at hc
    have:=List.length_pos_iff.2 h0
    omega
def zp(x:Nm):Nm:=⟨!x.neg&&decide (x.dig≠[]),x.dig,x.ex⟩
def qji(x:Nm):Nm:=⟨false,x.dig,x.ex⟩
def xm(x:Nm):Int:=if x.dig=[] then 0 else if x.neg=true then -1 else 1
def qko(a b:Nm):Int:=if(xm a-xm b).sign≠0 then(xm a-xm b).sign else xm a*nv a b
theorem gd{x:Nm}(h:Nrm x):(zp x).val = - x.val/\Nrm (zp x):=by
 by_cases h0:x.dig=[]
 ·have hz:nm0.val=0:=by unfold Nm.val;rw[pm];rfl
  have hm:zp nm0=nm0:=rfl
  rw[h.z h0,hm,hz]
  exact⟨rfl,⟨rfl,by simp[nm0],.inl rfl,fun _=>rfl⟩⟩
 ·have e:zp x=⟨!x.neg,x.dig,x.ex⟩:=by
   unfold zp
   rw[decide_eq_true h0,Bool.and_true]
  rw[e]
  refine⟨?_,⟨h.dg,h.hd,h.lt,fun hd=>absurd hd h0⟩⟩
  have hm:Nm.mag ⟨!x.neg,x.dig,x.ex⟩=x.mag:=rfl
  unfold Nm.val
  rw[hm]
  cases x.neg <;> simp
theorem ru{x:Nm}(h:Nrm x):(qji x).val=x.mag/\Nrm (qji x):=by
 refine⟨rfl,⟨h.dg,h.hd,h.lt,fun hd=> ?_⟩⟩
 rw[h.z hd];rfl
theorem al{x:Nm}(h:Nrm x):xm x=x.val.sign:=by
 unfold xm
 by_cases h0:x.dig=[]
 ·have hz:nm0.val=0:=by unfold Nm.val;rw[pm];rfl
  rw[if_pos h0,h.z h0,hz];rfl
 ·rw[if_neg h0]
  have:=qc6 h h0
  unfold Nm.val
  cases hn:x.neg
  ·rw[if_neg (by simp),if_neg (by simp),kw this]
  ·rw[if_pos rfl,if_pos rfl,xj (by omega)]
theorem qh5(x:Nm):x.mag=x.val.natAbs:=by
 have:=qeh x
 unfold Nm.val
 split <;> omega
theorem ql1(x:Int):(x<0/\x.sign = -1)\/(x=0/\x.sign=0)\/(0<x/\x.sign=1):=by
 rcases Int.lt_trichotomy x 0 with h|h|h
 ·exact .inl ⟨h,xj h⟩
 ·exact .inr (.inl ⟨h,by rw[h];rfl⟩)
 ·exact .inr (.inr ⟨h,kw h⟩)
theorem qkp{a b:Nm}(ha:Nrm a)(hb:Nrm b)(ea : -1000<=a.ex)(eb : -1000<=b.ex)(la:a.dig.length<=1900)(lb:b.dig.length<=1900):qko a b=(a.val-b.val).sign:=by
 have hm:=oo ha hb ea eb la lb
 unfold qko
 rw[al ha,al hb,hm]
 have ma:=qeh a
 have mb:=qeh b
 rcases ql1 a.val with ⟨h1,e1⟩|⟨h1,e1⟩|⟨h1,e1⟩ <;> rcases ql1 b.val with ⟨h2,e2⟩|⟨h2,e2⟩|⟨h2,e2⟩ <;> rw[e1,e2]
 ·have k1:a.val = - a.mag:=by unfold Nm.val at *;split <;> simp_all <;> omega
  have k2:b.val = - b.mag:=by unfold Nm.val at *;split <;> simp_all <;> omega
  rw[if_neg (by decide),k1,k2,show -a.mag - -b.mag = -(a.mag-b.mag) by omega,Int.sign_neg]
  omega
 ·rw[if_pos (by decide),xj (show a.val-b.val<0 by omega)];rfl
 ·rw[if_pos (by decide),xj (show a.val-b.val<0 by omega)];rfl
 ·rw[if_pos (by decide),kw (show 0<a.val-b.val by omega)];rfl
 ·rw[if_neg (by decide),h1,h2];simp
 ·rw[if_pos (by decide),xj (show a.val-b.val<0 by omega)];rfl
 ·rw[if_pos (by decide),kw (show 0<a.val-b.val by omega)];rfl
 ·rw[if_pos (by decide),kw (show 0<a.val-b.val by omega)];rfl
 ·have k1:a.val=a.mag:=by unfold Nm.val at *;split <;> simp_all <;> omega
  have k2:b.val=b.mag:=by unfold Nm.val at *;split <;> simp_all <;> omega
  rw[if_neg (by decide),k1,k2]
  omega
structure CN(x:Nm):Prop where
 n:Nrm x
 l:x.dig.length<=17
 e1 : -416<=x.ex
 e2:x.ex<=400
theorem pp(x:Nm):min 0 x.ex<=(qx x).ex:=by
 unfold qx
 split
 ·show _<=(0:Int);omega
 ·show _<=x.ex+_;omega
theorem qh6{a b:Nm}(ha:CN a)(hb:CN b) : -1000<=(uw a b).ex/\(uw a b).dig.length<=1900:=by
 obtain⟨a1,a2,a3,a4⟩:=ha
 obtain⟨b1,b2,b3,b4⟩:=hb
 obtain⟨k1,k2⟩:=qei (a:=a) (b:=b)
 have hk:yg a b<=1000:=by unfold yg Nm.fst;omega
 have l1:=w8 (x:=a) (e:=min a.ex b.ex) (n:=yg a b) (by omega)
 have l2:=w8 (x:=b) (e:=min a.ex b.ex) (n:=yg a b) (by omega)
 unfold uw
 split
 ·omega
 ·split
  ·omega
  ·split
   ·have t1:=pp ⟨b.neg,(kf (b.neg !=a.neg) (zy b (min a.ex b.ex) (yg a b)) (zy a (min a.ex b.ex) (yg a b))).1,min a.ex b.ex⟩
    have t2:=d9 ⟨b.neg,(kf (b.neg !=a.neg) (zy b (min a.ex b.ex) (yg a b)) (zy a (min a.ex b.ex) (yg a b))).1,min a.ex b.ex⟩
    have t3:=(vo (b.neg !=a.neg) (zy b (min a.ex b.ex) (yg a b)) (zy a (min a.ex b.ex) (yg a b)) (by rw[l1,l2]) (xk _ _ b1.dg) (xk _ _ a1.dg)).1
    simp only at t1 t2
    omega
   ·have t1:=pp ⟨a.neg,(kf (a.neg !=b.neg) (zy a (min a.ex b.ex) (yg a b)) (zy b (min a.ex b.ex) (yg a b))).1,min a.ex b.ex⟩
    have t2:=d9 ⟨a.neg,(kf (a.neg !=b.neg) (zy a (min a.ex b.ex) (yg a b)) (zy b (min a.ex b.ex) (yg a b))).1,min a.ex b.ex⟩
    have t3:=(vo (a.neg !=b.neg) (zy a (min a.ex b.ex) (yg a b)) (zy b (min a.ex b.ex) (yg a b)) (by rw[l1,l2]) (xk _ _ a1.dg) (xk _ _ b1.dg)).1
    simp only at t1 t2
    omega
theorem CN.min{x:Nm}(h:CN x):CN (zp x):=⟨(gd h.n).2,h.l,h.e1,h.e2⟩
def ql2(a b t:Nm):Bool:=decide (qko (qji (uw a (zp b))) t<=0)
theorem me{a b t:Nm}(ha:CN a)(hb:CN b)(ht:CN t):ql2 a b t=decide ((a.val-b.val).natAbs<=t.val):=by
 obtain⟨v1,n1⟩:=gd hb.n
 obtain⟨v2,n2⟩:=qbs ha.n n1 (by have:=ha.e1;omega) (by have:=hb.min.e1;omega) (by have:=ha.l;omega) (by have:=hb.min.l;omega)
 obtain⟨s1,s2⟩:=qh6 ha hb.min
 obtain⟨v3,n3⟩:=ru n2
 unfold ql2
 rw[qkp n3 ht.n s1 (by have:=ht.e1;omega) s2 (by have:=ht.l;omega),v3,qh5,v2,v1]
 rw[decide_eq_decide,show a.val + -b.val=a.val-b.val by omega]
 rcases ql1 (((a.val-b.val).natAbs:Int)-t.val) with ⟨h,e⟩|⟨h,e⟩|⟨h,e⟩ <;> rw[e]
 ·exact⟨fun _=>by omega,fun _=>by decide⟩
 ·exact⟨fun _=>by omega,fun _=>by decide⟩
 ·exact⟨fun h=>absurd h (by decide),fun _=>by omega⟩
theorem qh7{a b:Nm}(ha : -1000<=a.ex)(hb : -1000<=b.ex) : -1000<=(qcb a b).ex:=by
 have hpa:(a.dig.length:Int)-1-a.pe<=1000:=by
  unfold Nm.pe Nm.fst
  split
  ·rename_i h;rw[h];simp
  ·omega
 have hpb:(b.dig.length:Int)-1-b.pe<=1000:=by
  unfold Nm.pe Nm.fst
  split
  ·rename_i h;rw[h];simp
  ·omega
 have hn:xz a b<=1000:=by unfold xz;omega
 unfold qcb
 simp only
 split
 ·have:=pp ⟨a.neg,zx (zm (kq a (xz a b)) (ah (kq a (xz a b)) (kq b (xz a b)))) (zm (kq b (xz a b)) (ah (kq a (xz a b)) (kq b (xz a b)))),-xz a b⟩
  simp only at this;omega
 ·split
  ·have:=pp ⟨b.neg,uf (zm (kq b (xz a b)) (ah (kq a (xz a b)) (kq b (xz a b)))) (zm (kq a (xz a b)) (ah (kq a (xz a b)) (kq b (xz a b)))),-xz a b⟩
   simp only at this;omega
  ·have:=pp ⟨a.neg,uf (zm (kq a (xz a b)) (ah (kq a (xz a b)) (kq b (xz a b)))) (zm (kq b (xz a b)) (ah (kq a (xz a b)) (kq b (xz a b)))),-xz a b⟩
   simp only at this;omega
def qpe(a b t:Nm):Bool:=decide (xm (qcb t (zp (qji (qcb a (zp b)))))>=0)
theorem qkq{a b t:Nm}(ha:CN a)(hb:CN b)(ht:CN t):qpe a b t=decide ((a.val-b.val).natAbs<=t.val):=by
 obtain⟨v1,n1⟩:=gd hb.n
 have a1:=ha.e1
 have b1:=hb.e1
 have t1:=ht.e1
 have m1 : -1000<=(zp b).ex:=by show -1000<=b.ex;omega
 obtain⟨v2,n2⟩:=ai ha.n n1 (by omega) m1
 have s1:=qh7 (a:=a) (b:=zp b) (by omega) m1
 obtain⟨v3,n3⟩:=ru n2
 obtain⟨v4,n4⟩:=gd n3
 obtain⟨v5,n5⟩:=ai ht.n n4 (by omega) s1
 unfold qpe
 rw[al n5,v5,v4,v3,qh5,v2,v1]
 rw[decide_eq_decide,show a.val + -b.val=a.val-b.val by omega]
 rcases ql1 (t.val + -((a.val-b.val).natAbs:Int)) with ⟨h,e⟩|⟨h,e⟩|⟨h,e⟩ <;> rw[e]
 ·exact⟨fun h=>absurd h (by decide),fun _=>by omega⟩
 ·exact⟨fun _=>by omega,fun _=>by decide⟩
 ·exact⟨fun _=>by omega,fun _=>by decide⟩
theorem qpf{a b t:Nm}(ha:CN a)(hb:CN b)(ht:CN t):ql2 a b t=qpe a b t:=by rw[me ha hb ht,qkq ha hb ht]
end Go.Proofs.YtiekphbkomddfaaGreatDoor.S1
namespace Go.Proofs
open Go.Shelf
def Tryz.ito_ren:Go.Shelf.Ren:=⟨fun|171=>120|243=>140|246=>164|283=>176|284=>177|285=>178|286=>179|129=>109|317=>183|318=>184|319=>185|320=>186|337=>187|338=>188|n=>n,fun|3=>3|9=>9|2=>2|4=>4|171=>233|0=>0|53=>167|37=>84|5=>5|173=>235|212=>241|51=>165|20=>20|213=>242|46=>123|232=>247|233=>248|n=>n,fun|17=>1|18=>4|19=>5|n=>n⟩
theorem Tryz.ito:Go.Proofs.LaysM.n171 Tryz.prog Tryz.ito_ren:={
 mixed:=by kernel_rfl
 f129:=Tryz.func109.trans (congrArg some (by kernel_rfl))
 f171:=Tryz.func120.trans (congrArg some (by kernel_rfl))
 f243:=Tryz.func140.trans (congrArg some (by kernel_rfl))
 f246:=Tryz.func164.trans (congrArg some (by kernel_rfl))
 f283:=Tryz.func176.trans (congrArg some (by kernel_rfl))
 f284:=Tryz.func177.trans (congrArg some (by kernel_rfl))
 f285:=Tryz.func178.trans (congrArg some (by kernel_rfl))
 f286:=Tryz.func179.trans (congrArg some (by kernel_rfl))
 f317:=Tryz.func183.trans (congrArg some (by kernel_rfl))
 f318:=Tryz.func184.trans (congrArg some (by kernel_rfl))
 f319:=Tryz.func185.trans (congrArg some (by kernel_rfl))
 f320:=Tryz.func186.trans (congrArg some (by kernel_rfl))
 f337:=Tryz.func187.trans (congrArg some (by kernel_rfl))
 f338:=Tryz.func188.trans (congrArg some (by kernel_rfl))
 t0:=Tryz.underlying0
 a0:=Tryz.isAgg0
 z0:=Tryz.sizeOf0
 v0:=Tryz.zeroValue0
 t2:=Tryz.underlying2
 a2:=Tryz.isAgg2
 z2:=Tryz.sizeOf2
 v2:=Tryz.zeroValue2
 t3:=Tryz.underlying3
 a3:=Tryz.isAgg3
 z3:=Tryz.sizeOf3
 v3:=Tryz.zeroValue3
 t4:=Tryz.underlying4
 a4:=Tryz.isAgg4
 z4:=Tryz.sizeOf4
 v4:=Tryz.zeroValue4
 t5:=Tryz.underlying5
 a5:=Tryz.isAgg5
 z5:=Tryz.sizeOf5
 v5:=Tryz.zeroValue5
 t9:=Tryz.underlying9
 a9:=Tryz.isAgg9
 z9:=Tryz.sizeOf9
 v9:=Tryz.zeroValue9
 t20:=Tryz.underlying20
 a20:=Tryz.isAgg20
 z20:=Tryz.sizeOf20
 v20:=Tryz.zeroValue20
 t37:=Tryz.underlying84
 a37:=Tryz.isAgg84
 z37:=Tryz.sizeOf84
 v37:=Tryz.zeroValue84
 t46:=Tryz.underlying123
 a46:=Tryz.isAgg123
 z46:=Tryz.sizeOf123
 v46:=Tryz.zeroValue123
 t51:=Tryz.underlying165
 a51:=Tryz.isAgg165
 z51:=Tryz.sizeOf165
 v51:=Tryz.zeroValue165
 t53:=Tryz.underlying167
 a53:=Tryz.isAgg167
 z53:=Tryz.sizeOf167
 v53:=Tryz.zeroValue167
 t171:=Tryz.underlying233
 a171:=Tryz.isAgg233
 z171:=Tryz.sizeOf233
 v171:=Tryz.zeroValue233
 t173:=Tryz.underlying235
 a173:=Tryz.isAgg235
 z173:=Tryz.sizeOf235
 v173:=Tryz.zeroValue235
 t212:=Tryz.underlying241
 a212:=Tryz.isAgg241
 z212:=Tryz.sizeOf241
 v212:=Tryz.zeroValue241
 t213:=Tryz.underlying242
 a213:=Tryz.isAgg242
 z213:=Tryz.sizeOf242
 t232:=Tryz.underlying247
 a232:=Tryz.isAgg247
 z232:=Tryz.sizeOf247
 v232:=Tryz.zeroValue247
 t233:=Tryz.underlying248
 a233:=Tryz.isAgg248
 z233:=Tryz.sizeOf248
 v233:=Tryz.zeroValue248
 g17:=by kernel_rfl
 g18:=by kernel_rfl
 g19:=by kernel_rfl
 i0:=by kernel_rfl
 i2:=by kernel_rfl
 i3:=by kernel_rfl
 i4:=by kernel_rfl
 i5:=by kernel_rfl
 i9:=by kernel_rfl
 i20:=by kernel_rfl
 i37:=by kernel_rfl
 i46:=by kernel_rfl
 i51:=by kernel_rfl
 i53:=by kernel_rfl
 i171:=by kernel_rfl
 i173:=by kernel_rfl
 i212:=by kernel_rfl
 i232:=by kernel_rfl
 i233:=by kernel_rfl
 m17:=by kernel_rfl
 m18:=by kernel_rfl
 m19:=by kernel_rfl}
end Go.Proofs
namespace Go.Proofs.YtiekphbkomddfaaGreatDoor.S1
open Go Go.Ab Go.Proofs
noncomputable def qkr:Nat:=(PP.globalNamed "internal/strconv.uint64pow10").getD 0
theorem qc8:PP.globalNamed "internal/strconv.uint64pow10" = some qkr:=by kernel_rfl
noncomputable def powRow:Array Value:=(Lib.pow10Tab.map fun z=>Value.int .u64 z).toArray
theorem qc9:powRow.size=20:=by kernel_rfl
noncomputable abbrev qda:Lay where
 tab:=fun a=>if a.block=qkr/\a.spot=none then powRow[a.off]? else none
 row:=fun b=>if b=qkr then some powRow else none
 has:=fun b cs h=>by
  split at h
  ·rename_i e
   cases h
   refine⟨by rw[qc9];omega,fun i hi=>⟨powRow[i],?_⟩⟩
   rw[if_pos ⟨e,rfl⟩,Array.getElem?_eq_getElem hi]
  ·cases h
theorem qks {g:G} {w:World} (h : @LayOk qda g w):Lib.TabIs PP w "internal/strconv.uint64pow10" .u64 Lib.pow10Tab:=by
 obtain⟨T,fz,h1⟩:=h.2 qkr powRow (if_pos rfl)
 unfold Lib.TabIs World.var?
 rw[qc8]
 simp only[Option.bind_some,h1]
 rfl
theorem qkt {g:G} {w:World} (h:Lib.TabIs PP w "internal/strconv.uint64pow10" .u64 Lib.pow10Tab) (hg:∀b cs T fz i v,w.heap[b]? = some (.cells cs T fz)->cs[i]? = some v->g.σ ⟨b,i,none⟩=some v) : @LayOk qda g w:=by
 have h1:∃T fz,w.heap[qkr]? = some (.cells powRow T fz):=by
  unfold Lib.TabIs World.var? at h
  rw[qc8]at h
  simp only[Option.bind_some]at h
  split at h
  ·rename_i cs T fz e
   cases h
   exact⟨T,fz,e⟩
  ·cases h
 refine⟨fun a v e=> ?_,fun b cs e=> ?_⟩
 ·have e':(if a.block=qkr/\a.spot=none then powRow[a.off]? else none)=some v:=e
  split at e'
  ·rename_i hc
   obtain⟨T,fz,h2⟩:=h1
   have:=hg qkr powRow T fz a.off v h2 e'
   have ha:a=⟨qkr,a.off,none⟩:=by cases a;simp_all
   rw[ha];exact this
  ·cases e'
 ·have e':(if b=qkr then some powRow else none)=some cs:=e
  split at e'
  ·rename_i hc;cases e';subst hc;exact h1
  ·cases e'
end Go.Proofs.YtiekphbkomddfaaGreatDoor.S1
namespace Go.Proofs.YtiekphbkomddfaaGreatDoor.S1
open Go Go.Ab Go.Proofs
attribute [local instance] qda
theorem qsv{f:Nat}{args:List D}{v:D}(ok:yx PP f)[da:DS args][dv:DD v](h:∀(g:G) (w:World) (vs:List Value),LayOk g w->Rs g args vs->∃x,R g v x/\Calls PP f vs.toArray w fun e w'=>e = .returned x/\RowKit.Below w.heap.size w w'):Pure PP f args v :=
 ⟨ok,da.p,dv.p,fun g w vs hl sub hs=>by
  obtain⟨x,hx,hc⟩:=h g w vs hl hs
  refine hc.mono fun e w' ⟨he,hb⟩=>⟨x,g.σ,he,R.mono ⟨fun _ _ h=>h,fun _ _ h=>h,fun _ k h=>⟨k,h,rfl,Nat.le_refl _,fun _=>rfl⟩⟩ _ _ hx,fun _ _ h=>h,fun a y hy=> ?_,fun _ _ h=> .inl h,hb⟩
  obtain⟨h1,h2⟩:=sub a y hy
  have hl:a.block<w.heap.size:=World.block_lt_of_cell? w a h1
  exact⟨(cell?_of_heap (hb.block _ hl)).trans h1,h2⟩⟩
theorem q0r(n:Int)(h0 : -9223372036854775808<=n)(h1:n<=9223372036854775807):Pure PP 120 [I n] (.str (Lib.itoa n)):=by
 refine qsv ⟨Tryz.f120,by kernel_rfl,by kernel_rfl,by kernel_rfl⟩ fun g w vs hl h=> ?_
 simp only[Rs,R]at h
 obtain⟨_,_,rfl,rfl,rfl⟩:=h
 refine⟨.string ⟨(Lib.itoa n).toArray⟩,by simp only[R,true_and];have:=Lib.itoa_length_le n h0 h1;unfold jt;omega,?_⟩
 exact(Any.strconv_Itoa Tryz.ito n h0 h1 w (qks hl)).mono fun e w' ⟨he,k,os,hw⟩=>⟨he,by subst hw;exact Lib.below_grow _ _ (Nat.le_refl _) _ _⟩
end Go.Proofs.YtiekphbkomddfaaGreatDoor.S1
namespace Go.Proofs.YtiekphbkomddfaaGreatDoor.S1
open Go Go.Ab Go.Proofs
theorem q0s:OkF 144 Tryz.f144:=⟨by kernel_rfl,by kernel_rfl,by kernel_rfl⟩
def qpg:List (List Nat×List Nat):=[([1,0,0],[0,1])]
noncomputable def qsw:List Nat->Nat->Option Ans:=qf []
theorem q0t[Lay](q:Str)(K:D->Prop):qn (En Tryz.f144) (fi Tryz.f144 K) (qsw ) qpg 200 [.code []] ⟨qc 0 [L q 1 qk,.int .u8 48],.empty⟩ =
 (At (En Tryz.f144) (fi Tryz.f144 K) [It.code [1,0,0],It.blk 0,It.code [1,1]] {sl:=[(0,L q 1 qk),(1,D.int IntKind.u8 48)],h:=Heap.empty:St}):=by kernel_rfl
def STB(q:Str):St:=⟨[(0,L q 1 qk),(1,.int .u8 48)],.empty⟩
noncomputable def qph:List Nat->Nat->Option Ans:=qf []
theorem qsx[Lay](q:Str)(J:St->Prop)(K:D->Prop):qn (En Tryz.f144) (fi Tryz.f144 K) (qph ) qpg 200 [.code [1,0,0,0],stp [0,1] J,.blk 0,.code [1,1]] (STB q)=
 (List.length q<=q8->(decide ((↑(List.length q):Int) > 0)=true->(0:Int)<=0/\0<(↑(List.length q):Int))/\bif bif decide ((↑(List.length q):Int) > 0) then(↑(List.getD q 0 default).toNat:Int)==48 else false then((0:Int)<=1/\1<=(↑(List.length q):Int))/\J {sl:=[(0,.list (List.length q-1) 1 (jx (fun i=>qk (List.getD q i default)) 1) .none),(1,D.int IntKind.u8 48)],h:=Heap.empty:St} else List.length q<=q8->bif(↑(List.length q):Int)==0 then K (.list 0 0 (fun _=>D.junk) .full) else K (L q 1 qk)):=by kernel_rfl
theorem q0u:OkF 148 Tryz.f148:=⟨by kernel_rfl,by kernel_rfl,by kernel_rfl⟩
def qpi:List (List Nat×List Nat):=[([1,0,0],[0,1])]
noncomputable def qsy:List Nat->Nat->Option Ans:=qf []
theorem q0v[Lay](q:Str)(K:D->Prop):qn (En Tryz.f148) (fi Tryz.f148 K) (qsy ) qpi 200 [.code []] ⟨qc 0 [L q 1 qk,.int .u8 48],.empty⟩ =
 (At (En Tryz.f148) (fi Tryz.f148 K) [It.code [1,0,0],It.blk 0,It.code [1,1]] {sl:=[(0,L q 1 qk),(1,D.int IntKind.u8 48)],h:=Heap.empty:St}):=by kernel_rfl
noncomputable def qpj:List Nat->Nat->Option Ans:=qf []
theorem qsz[Lay](q:Str)(J:St->Prop)(K:D->Prop):qn (En Tryz.f148) (fi Tryz.f148 K) (qpj ) qpi 200 [.code [1,0,0,0],stp [0,1] J,.blk 0,.code [1,1]] (STB q)=
 (List.length q<=q8->(decide ((↑(List.length q):Int) > 0)=true->List.length q<=q8)->(decide ((↑(List.length q):Int) > 0)=true->0<=qj .i64 (↑(List.length q):Int) 1/\qj .i64 (↑(List.length q):Int) 1<(↑(List.length q):Int))/\bif bif decide ((↑(List.length q):Int) > 0) then(↑(List.getD q (qj .i64 (↑(List.length q):Int) 1).toNat default).toNat:Int)==48 else false then List.length q<=q8->((0:Int)<=0/\0<=qj .i64 (↑(List.length q):Int) 1/\qj .i64 (↑(List.length q):Int) 1<=(↑(List.length q):Int))/\J {sl:=[(0,.list ((qj .i64 (↑(List.length q):Int) 1).toNat-0) 1 (jx (fun i=>qk (List.getD q i default)) 0) .none),(1,D.int IntKind.u8 48)],h:=Heap.empty:St} else K (L q 1 qk)):=by kernel_rfl
instance ddNm{x:Nm}:DD x.d:=inferInstanceAs (DD (.agg _))
theorem am(q:Str)(k n:Nat)(h:k+n<=q.length):qp n (jx (fun i=>qk (q.getD i default)) k)=(q.drop k).take n:=by
 have hb:∀b:UInt8,qfg (qk b)=b:=fun b=>by
  show UInt8.ofNat ((b.toNat:Int)).toNat=b
  rw[Int.toNat_natCast,UInt8.ofNat_toNat]
 unfold qp
 refine List.ext_getElem (by simp;omega) fun i h1 h2=> ?_
 have hi:i<n:=by simpa using h1
 rw[List.getElem_map,List.getElem_range,List.getElem_take,List.getElem_drop]
 show qfg (qk (q.getD (k+i) default))=_
 rw[hb,List.getD_eq_getElem?_getD,List.getElem?_eq_getElem (by omega)];rfl
theorem qbt(q:Str)(k n:Nat):xi n (jx (fun i=>qk (q.getD i default)) k):=fun i _=>⟨q.getD (k+i) default,rfl⟩
theorem Wk.dropL(q:Str)(k n:Nat)(own:Own)(ho:own = .full\/own = .none)(r:Str)(hr:(q.drop k).take n=r)(hn:r.length=n):Wk (.list n 1 (jx (fun i=>qk (q.getD i default)) k) own) (L r 1 qk):=by
 subst hr
 refine Wk.list hn.symm (.inl rfl) (fun i hi=> ?_) (.inl rfl)
 show qk (q.getD (k+i) default)=qk (((q.drop k).take n).getD i default)
 have h1:i<((q.drop k).take n).length:=by omega
 rw[List.getD_eq_getElem?_getD,List.getD_eq_getElem?_getD,List.getElem?_take,List.getElem?_drop]
 rw[if_pos (by omega)]
theorem q0w[Lay](q:Str):Pure PP 144 [L q 1 qk,.int .u8 48] (L (tL q) 1 qk):=by
 refine pu q0s (by kernel_rfl) (of_eq (q0t q _) ?_)
 refine lp (fn:=Tryz.f144) (fun z:Str=>tL q=tL z) (fun z=>STB z) (fun z=>z.length) [0,1] (by kernel_rfl) (fun z hz=>of_eq (qsx z _ _) fun hlm=>⟨fun h=>⟨by omega,by have:=of_decide_eq_true h;omega⟩,?_⟩) q rfl
 cases z with
 |nil =>
  rw[hz]
  exact fun _=>Wk.nilL
 |cons c r =>
  have h1:decide (((c::r).length:Int) > 0)=true:=decide_eq_true (by rw[List.length_cons];omega)
  rw[h1]
  refine qa (fun h=>⟨⟨by omega,by simp;omega⟩,Nx.of r ?_ (by simp) ?_⟩) fun h=>fun _=> ?_
  ·have h:((c.toNat:Int)==48)=true:=h
   have hc:c=48:=UInt8.toNat_inj.1 (by have:=eq_of_beq h;show c.toNat=48;omega)
   rw[hz,tL,if_pos hc]
  ·exact StLe.set 0 rfl (Wk.dropL (c::r) 1 _ _ (.inr rfl) r (by simp) (by simp)) rfl rfl
  ·have h:((c.toNat:Int)==48)=false:=h
   have hc:c≠48:=fun e=>by rw[e]at h;exact absurd h (by decide)
   rw[hz,tL,if_neg hc]
   refine qa (fun h=> ?_) fun _=>Wk.refl _
   have:=eq_of_beq h
   simp at this;omega
theorem qh8(r:Str)(c:UInt8):tR (r++[c])=if c=48 then tR r else r++[c]:=by
 unfold tR
 rw[List.reverse_append,List.reverse_singleton,List.singleton_append,tL]
 split
 ·rfl
 ·rw[List.reverse_cons,List.reverse_reverse]
theorem q0x[Lay](q:Str):Pure PP 148 [L q 1 qk,.int .u8 48] (L (tR q) 1 qk):=by
 refine pu q0u (by kernel_rfl) (of_eq (q0v q _) ?_)
 refine lp (fn:=Tryz.f148) (fun z:Str=>tR q=tR z) (fun z=>STB z) (fun z=>z.length) [0,1] (by kernel_rfl) (fun z hz=>of_eq (qsz z _ _) fun hlm=> ?_) q rfl
 rcases List.eq_nil_or_concat z with rfl|⟨r,c,rfl⟩
 ·rw[hz]
  exact fun _=>⟨fun h=>absurd (of_decide_eq_true h) (by simp),Wk.refl _⟩
 ·rw[List.concat_eq_append]at hz hlm⊢
  have hl:(r++[c]).length=r.length+1:=by simp
  have h1:decide (((r++[c]).length:Int) > 0)=true:=decide_eq_true (by omega)
  have h2:qj .i64 ((r++[c]).length:Int) 1=(r.length:Int):=by rw[jy (by unfold q8 at hlm;omega) (by unfold q8 at hlm;omega)];omega
  have h3:(r++[c]).getD r.length default=c:=by simp[List.getD]
  rw[h1,h2,Int.toNat_natCast,h3]
  refine fun _=>⟨fun _=>⟨by omega,by omega⟩,qa (fun h=>fun _=>⟨⟨by omega,by omega,by omega⟩,Nx.of r ?_ (by omega) ?_⟩) fun h=> ?_⟩
  ·have h:((c.toNat:Int)==48)=true:=h
   have hc:c=48:=UInt8.toNat_inj.1 (by have:=eq_of_beq h;show c.toNat=48;omega)
   rw[hz,qh8,if_pos hc]
  ·exact StLe.set 0 rfl (Wk.dropL (r++[c]) 0 _ _ (.inr rfl) r (by simp) (by simp)) rfl rfl
  ·have h:((c.toNat:Int)==48)=false:=h
   have hc:c≠48:=fun e=>by rw[e]at h;exact absurd h (by decide)
   rw[hz,qh8,if_neg hc]
   exact Wk.refl _
theorem q0y:OkF 123 Tryz.f123:=⟨by kernel_rfl,by kernel_rfl,by kernel_rfl⟩
def qs0:List (List Nat×List Nat):=[]
noncomputable def q0z(q:Str):List Nat->Nat->Option Ans:=qf [([1,1,1,0,1,0,0],3,Ans.pure [L q 1 qk,D.int IntKind.u8 48] (L (tL q) 1 qk))]
theorem nTL[Lay](q:Str)(K:D->Prop):qn (En Tryz.f123) (fi Tryz.f123 K) (q0z q) qs0 200 [.code []] ⟨qc 0 [L q 1 qk,.str [48]],.empty⟩ =
 (List.length q<=q8->bif(↑(List.length q):Int)==0 then K (.list 0 0 (fun _=>D.junk) .full) else 1<=jt->(true=true->(0:Int)<=0/\0<(↑1:Int))/\((0:Int)<=0/\0<(↑1:Int))/\PureW PP 144 [L q 1 qk,D.int IntKind.u8 48] [L q 1 qk,D.int IntKind.u8 48] (L (tL q) 1 qk)/\K (L (tL q) 1 qk)):=by kernel_rfl
theorem q00:OkF 124 Tryz.f124:=⟨by kernel_rfl,by kernel_rfl,by kernel_rfl⟩
def qs1:List (List Nat×List Nat):=[]
noncomputable def q01(q:Str):List Nat->Nat->Option Ans:=qf [([1,1,0,1,0,0],3,Ans.pure [L q 1 qk,D.int IntKind.u8 48] (L (tR q) 1 qk))]
theorem nTR[Lay](q:Str)(K:D->Prop):qn (En Tryz.f124) (fi Tryz.f124 K) (q01 q) qs1 200 [.code []] ⟨qc 0 [L q 1 qk,.str [48]],.empty⟩ =
 (List.length q<=q8->bif bif(↑(List.length q):Int)==0 then true else false then K (L q 1 qk) else 1<=jt->(true=true->(0:Int)<=0/\0<(↑1:Int))/\((0:Int)<=0/\0<(↑1:Int))/\PureW PP 148 [L q 1 qk,D.int IntKind.u8 48] [L q 1 qk,D.int IntKind.u8 48] (L (tR q) 1 qk)/\K (L (tR q) 1 qk)):=by kernel_rfl
theorem q02[Lay](q:Str):Pure PP 123 [L q 1 qk,.str [48]] (L (tL q) 1 qk):=by
 refine pu q0y (by kernel_rfl) (of_eq (nTL q _) fun _=>qa (fun h=> ?_) fun _=>fun _=>⟨fun _=>⟨by omega,by omega⟩,⟨by omega,by omega⟩,PureW.mk (q0w q),Wk.refl _⟩)
 have h0:q=[]:=List.eq_nil_of_length_eq_zero (by have:=eq_of_beq h;omega)
 rw[h0];exact Wk.nilL
theorem q03[Lay](q:Str):Pure PP 124 [L q 1 qk,.str [48]] (L (tR q) 1 qk):=by
 refine pu q00 (by kernel_rfl) (of_eq (nTR q _) fun _=>qa (fun h=> ?_) fun _=>fun _=>⟨fun _=>⟨by omega,by omega⟩,⟨by omega,by omega⟩,PureW.mk (q0x q),Wk.refl _⟩)
 have h0:q=[]:=List.eq_nil_of_length_eq_zero (by
  cases hx:((q.length:Int)==0) with
  |true=>have:=eq_of_beq hx;omega
  |false=>rw[hx]at h;cases h)
 rw[h0];exact Wk.refl _
theorem q04:OkF 125 Tryz.f125:=⟨by kernel_rfl,by kernel_rfl,by kernel_rfl⟩
def qs2:List (List Nat×List Nat):=[]
noncomputable def qs3:List Nat->Nat->Option Ans:=qf []
theorem q05[Lay](a:Int)(K:D->Prop):qn (En Tryz.f125) (fi Tryz.f125 K) (qs3 ) qs2 200 [.code []] ⟨qc 0 [I a],.empty⟩ =
 (K (B (a !=a))):=by kernel_rfl
theorem qx3[Lay](a:Int):Pure PP 125 [I a] (B false):=pu q04 (by kernel_rfl) (of_eq (q05 a _) (by
 have:(a !=a)=false:=by simp
 rw[this];exact Wk.refl _))
theorem F72:OkF 72 Tryz.f72:=⟨by kernel_rfl,by kernel_rfl,by kernel_rfl⟩
def q06:List (List Nat×List Nat):=[]
noncomputable def q07(a:Int)(b:Int):List Nat->Nat->Option Ans:=qf [([1,0],1,Ans.pure [I a] (B false)),([1,1,0],1,Ans.pure [I b] (B false))]
theorem nCm[Lay](a b:Int)(K:D->Prop):qn (En Tryz.f72) (fi Tryz.f72 K) (q07 a b) q06 200 [.code []] ⟨qc 0 [I a,I b],.empty⟩ =
 (PureW PP 125 [I a] [I a] (B false)/\PureW PP 125 [I b] [I b] (B false)/\bif decide (a<b) then K (I (-1)) else bif decide (a > b) then K (I 1) else K (I 0)):=by kernel_rfl
theorem c72[Lay](a b:Int):Pure PP 72 [I a,I b] (I (a-b).sign):=by
 refine pu F72 (by kernel_rfl) (of_eq (nCm a b _) ⟨PureW.mk (qx3 a),PureW.mk (qx3 b),qa (fun h=> ?_) fun h=>qa (fun h2=> ?_) fun h2=> ?_⟩)
 ·have:=of_decide_eq_true h
  rw[xj (by omega)];exact Wk.refl _
 ·have:=of_decide_eq_true h2
  rw[kw (by omega)];exact Wk.refl _
 ·have h1:=of_decide_eq_false h
  have h2:=of_decide_eq_false h2
  rw[show a-b=0 by omega];exact Wk.refl _
theorem F71:OkF 71 Tryz.f71:=⟨by kernel_rfl,by kernel_rfl,by kernel_rfl⟩
def q08:List (List Nat×List Nat):=[]
noncomputable def qs4(x:Nm):List Nat->Nat->Option Ans:=qf [([1,0],2,Ans.pure [L x.dig 1 qk,.str [48]] (L (tL x.dig) 1 qk)),([1,1,0],2,Ans.pure [L (tL x.dig) 1 qk,.str [48]] (L (tR (tL x.dig)) 1 qk))]
theorem q09[Lay](x:Nm)(K:D->Prop):qn (En Tryz.f71) (fi Tryz.f71 K) (qs4 x) q08 200 [.code []] ⟨qc 0 [x.d],.empty⟩ =
 (PureW PP 123 [L x.dig 1 qk,.str [48]] [L x.dig 1 qk,.str [48]] (L (tL x.dig) 1 qk)/\True/\PureW PP 124 [L (tL x.dig) 1 qk,.str [48]] [L (tL x.dig) 1 qk,.str [48]] (L (tR (tL x.dig)) 1 qk)/\(List.length (tR (tL x.dig))<=q8->List.length (tL x.dig)<=q8->True/\((0:Int)<=0/\0<=(↑(List.length (tR (tL x.dig))):Int)/\(↑(List.length (tR (tL x.dig))):Int)<=(↑(List.length (tL x.dig)):Int)/\(↑(List.length (tR (tL x.dig))):Int)=(↑(List.length (tR (tL x.dig))):Int))/\True/\bif(↑(List.length (tR (tL x.dig))):Int)==0 then True/\K (.agg [B false,.list 0 0 (fun _=>D.junk) .full,I 0]) else True/\K (.agg [B x.neg,.list ((↑(List.length (tR (tL x.dig))):Int).toNat-0) 1 (jx (fun i=>qk (List.getD (tL x.dig) i default)) 0) .full,I (qg .i64 x.ex (qj .i64 (↑(List.length (tL x.dig)):Int) (↑(List.length (tR (tL x.dig))):Int)))]))):=by kernel_rfl
theorem qnb(q:Str):q.take (tR q).length=tR q:=by
 obtain⟨n,h,_⟩:=qc7 q
 conv=>lhs;rw[h]
 rw[List.take_left']
 exact congrArg List.length (by rw[<-h])
theorem c71[Lay](x:Nm)(hl:x.dig.length<=1000000)(h1 : -1000000000<=x.ex)(h2:x.ex<=1000000000):Pure PP 71 [x.d] (qx x).d:=by
 have t1:=nw x.dig
 have t2:=qbr (tL x.dig)
 refine pu F71 (by kernel_rfl) (of_eq (q09 x _) ⟨PureW.mk (q02 _),trivial,PureW.mk (q03 _),fun _=>fun _=>⟨trivial,⟨by omega,by omega,by omega,rfl⟩,trivial,qa (fun h=>⟨trivial,?_⟩) fun h=>⟨trivial,?_⟩⟩⟩)
 ·have h0:tR (tL x.dig)=[]:=List.eq_nil_of_length_eq_zero (by have:=eq_of_beq h;omega)
  unfold qx
  rw[if_pos h0]
  exact Wk.agg (Wks.cons (Wk.refl _) (Wks.cons Wk.nilL (Wks.refl _)))
 ·have h0:tR (tL x.dig)≠[]:=fun e=>by rw[e]at h;exact absurd h (by decide)
  unfold qx
  rw[if_neg h0,Int.toNat_natCast,Nat.sub_zero]
  rw[jy (by omega) (by omega),jk (by omega) (by omega),show x.ex+((tL x.dig).length-(tR (tL x.dig)).length:Int)=x.ex+(((tL x.dig).length-(tR (tL x.dig)).length:Nat):Int) by omega]
  exact Wk.agg (Wks.cons (Wk.refl _) (Wks.cons (Wk.dropL (tL x.dig) 0 _ _ (.inl rfl) _ (by rw[List.drop_zero,qnb]) rfl) (Wks.refl _)))
theorem F68:OkF 68 Tryz.f68:=⟨by kernel_rfl,by kernel_rfl,by kernel_rfl⟩
def q1a:List (List Nat×List Nat):=[]
noncomputable def q1b:List Nat->Nat->Option Ans:=qf []
theorem nNf[Lay](x:Nm)(K:D->Prop):qn (En Tryz.f68) (fi Tryz.f68 K) (q1b ) q1a 200 [.code []] ⟨qc 0 [x.d],.empty⟩ =
 (List.length x.dig<=q8->K (I (qj .i64 (qg .i64 x.ex (↑(List.length x.dig):Int)) 1))):=by kernel_rfl
theorem c68[Lay](x:Nm)(h1 : -2000000000<=x.ex)(h2:x.ex<=2000000000)(hl:x.dig.length<=1000000):Pure PP 68 [x.d] (I x.fst) :=
 pu F68 (by kernel_rfl) (of_eq (nNf x _) fun _=>by
  rw[jk (by omega) (by omega),jy (by omega) (by omega)];exact Wk.refl _)
theorem F65:OkF 65 Tryz.f65:=⟨by kernel_rfl,by kernel_rfl,by kernel_rfl⟩
def q1c:List (List Nat×List Nat):=[]
noncomputable def q1d:List Nat->Nat->Option Ans:=qf []
theorem nNs[Lay](x:Nm)(K:D->Prop):qn (En Tryz.f65) (fi Tryz.f65 K) (q1d ) q1c 200 [.code []] ⟨qc 0 [x.d],.empty⟩ =
 (List.length x.dig<=q8->bif(↑(List.length x.dig):Int)==0 then K (I 0) else bif x.neg then K (I (-1)) else K (I 1)):=by kernel_rfl
theorem qx4(q:Str):((q.length:Int)==0)=decide (q=[]):=by
 cases q with
 |nil=>rfl
 |cons c r =>
  have:((((c::r).length:Nat):Int)==0)=false:=by
   rw[beq_eq_false_iff_ne];simp;omega
  rw[this];rfl
theorem c65[Lay](x:Nm):Pure PP 65 [x.d] (I (xm x)):=by
 refine pu F65 (by kernel_rfl) (of_eq (nNs x _) fun _=> ?_)
 unfold xm
 rw[qx4]
 refine qa (fun h=> ?_) fun h=> ?_
 ·rw[if_pos (of_decide_eq_true h)];exact Wk.refl _
 ·rw[if_neg (of_decide_eq_false h)]
  cases x.neg
  ·exact Wk.refl _
  ·exact Wk.refl _
theorem F44:OkF 44 Tryz.f44:=⟨by kernel_rfl,by kernel_rfl,by kernel_rfl⟩
def q1e:List (List Nat×List Nat):=[]
noncomputable def q1f:List Nat->Nat->Option Ans:=qf []
theorem nNm[Lay](x:Nm)(K:D->Prop):qn (En Tryz.f44) (fi Tryz.f44 K) (q1f ) q1e 200 [.code []] ⟨qc 0 [x.d],.empty⟩ =
 (((!x.neg)=true->List.length x.dig<=q8)->True/\True/\K (.agg [B (bif !x.neg then decide ((↑(List.length x.dig):Int) > 0) else false),L x.dig 1 qk,I x.ex])):=by kernel_rfl
theorem c44[Lay](x:Nm):Pure PP 44 [x.d] (zp x).d:=by
 refine pu F44 (by kernel_rfl) (of_eq (nNm x _) fun _=>⟨trivial,trivial,?_⟩)
 have:(bif !x.neg then decide ((x.dig.length:Int) > 0) else false)=(zp x).neg:=by
  unfold zp
  have:decide ((x.dig.length:Int) > 0)=decide (x.dig≠[]):=decide_eq_decide.2 ⟨fun h e=>by rw[e]at h;simp at h,fun h=>by have:=List.length_pos_iff.2 h;omega⟩
  rw[this]
  cases x.neg <;> rfl
 rw[this];exact Wk.refl _
end Go.Proofs.YtiekphbkomddfaaGreatDoor.S1
namespace Go.Proofs.YtiekphbkomddfaaGreatDoor.S1
open Go Go.Ab Go.Proofs
attribute [local instance] qda
theorem F67:OkF 67 Tryz.f67:=⟨by kernel_rfl,by kernel_rfl,by kernel_rfl⟩
def q1g:List (List Nat×List Nat):=[]
noncomputable def qs5(x:Nm):List Nat->Nat->Option Ans:=qf [([1,1,0,0],6,Ans.pure [x.d] (I x.fst)),([1,1,0,0],11,Ans.pure [x.d] (I x.fst)),([1,1,1,1,1,1,0],3,Ans.pure [x.d] (I x.fst)),([1,1,1,1,1,1,0],4,Ans.pure [I x.fst] (.str (Lib.itoa x.fst)))]
theorem q1h(x:Nm)(K:D->Prop):qn (En Tryz.f67) (fi Tryz.f67 K) (qs5 x) q1g 200 [.code []] ⟨qc 0 [x.d],.empty⟩ =
 (List.length x.dig<=q8 ->
 bif(↑(List.length x.dig):Int)==0 then K (.tup [.str {data:= #[48]:ByteArray}.data.toList,I 0])
 else
  List.length x.dig<=q8 ->
   ((!decide ((↑(List.length x.dig):Int) > 17))=true->PureW PP 68 [x.d] [x.d] (I x.fst))/\
    ((!bif decide ((↑(List.length x.dig):Int) > 17) then true else decide (x.fst < -400))=true->PureW PP 68 [x.d] [x.d] (I x.fst))/\
     bif bif bif decide ((↑(List.length x.dig):Int) > 17) then true else decide (x.fst < -400) then true else decide (x.fst > 400) then K (.tup [.str {data:= #[]:ByteArray}.data.toList,I 9])
     else
      ((0:Int)<=0/\(0:Int)<=1/\1<=(↑(List.length x.dig):Int))/\
       xi 1 (jx (fun i=>qk (List.getD x.dig i default)) 0)/\
        (List.length x.dig<=q8 ->
         bif decide ((↑(List.length x.dig):Int) > 1) then
          ((0:Int)<=1/\1<=(↑(List.length x.dig):Int))/\
           xi (List.length x.dig-1) (jx (fun i=>qk (List.getD x.dig i default)) 1)/\
            1+(qp (List.length x.dig-1) (jx (fun i=>qk (List.getD x.dig i default)) 1)).length<=jt /\
             (qp 1 (jx (fun i=>qk (List.getD x.dig i default)) 0)).length+({data:= #[46]:ByteArray}.data.toList++qp (List.length x.dig-1) (jx (fun i=>qk (List.getD x.dig i default)) 1)).length<=jt /\
              bif x.neg then 1+(qp 1 (jx (fun i=>qk (List.getD x.dig i default)) 0)++({data:= #[46]:ByteArray}.data.toList++qp (List.length x.dig-1) (jx (fun i=>qk (List.getD x.dig i default)) 1))).length<=jt/\({data:= #[45]:ByteArray}.data.toList++(qp 1 (jx (fun i=>qk (List.getD x.dig i default)) 0)++({data:= #[46]:ByteArray}.data.toList++qp (List.length x.dig-1) (jx (fun i=>qk (List.getD x.dig i default)) 1)))).length+1<=jt/\PureW PP 68 [x.d] [x.d] (I x.fst)/\PureW PP 120 [I x.fst] [I x.fst] (.str (Lib.itoa x.fst))/\({data:= #[45]:ByteArray}.data.toList++(qp 1 (jx (fun i=>qk (List.getD x.dig i default)) 0)++({data:= #[46]:ByteArray}.data.toList++qp (List.length x.dig-1) (jx (fun i=>qk (List.getD x.dig i default)) 1)))++{data:= #[101]:ByteArray}.data.toList).length+(Lib.itoa x.fst).length<=jt/\K (.tup [.str ({data:= #[45]:ByteArray}.data.toList++(qp 1 (jx (fun i=>qk (List.getD x.dig i default)) 0)++({data:= #[46]:ByteArray}.data.toList++qp (List.length x.dig-1) (jx (fun i=>qk (List.getD x.dig i default)) 1)))++{data:= #[101]:ByteArray}.data.toList++Lib.itoa x.fst),I 0])
              else(qp 1 (jx (fun i=>qk (List.getD x.dig i default)) 0)++({data:= #[46]:ByteArray}.data.toList++qp (List.length x.dig-1) (jx (fun i=>qk (List.getD x.dig i default)) 1))).length+1<=jt/\PureW PP 68 [x.d] [x.d] (I x.fst)/\PureW PP 120 [I x.fst] [I x.fst] (.str (Lib.itoa x.fst))/\(qp 1 (jx (fun i=>qk (List.getD x.dig i default)) 0)++({data:= #[46]:ByteArray}.data.toList++qp (List.length x.dig-1) (jx (fun i=>qk (List.getD x.dig i default)) 1))++{data:= #[101]:ByteArray}.data.toList).length+(Lib.itoa x.fst).length<=jt/\K (.tup [.str (qp 1 (jx (fun i=>qk (List.getD x.dig i default)) 0)++({data:= #[46]:ByteArray}.data.toList++qp (List.length x.dig-1) (jx (fun i=>qk (List.getD x.dig i default)) 1))++{data:= #[101]:ByteArray}.data.toList++Lib.itoa x.fst),I 0])
         else bif x.neg then 1+(qp 1 (jx (fun i=>qk (List.getD x.dig i default)) 0)).length<=jt/\({data:= #[45]:ByteArray}.data.toList++qp 1 (jx (fun i=>qk (List.getD x.dig i default)) 0)).length+1<=jt/\PureW PP 68 [x.d] [x.d] (I x.fst)/\PureW PP 120 [I x.fst] [I x.fst] (.str (Lib.itoa x.fst))/\({data:= #[45]:ByteArray}.data.toList++qp 1 (jx (fun i=>qk (List.getD x.dig i default)) 0)++{data:= #[101]:ByteArray}.data.toList).length+(Lib.itoa x.fst).length<=jt/\K (.tup [.str ({data:= #[45]:ByteArray}.data.toList++qp 1 (jx (fun i=>qk (List.getD x.dig i default)) 0)++{data:= #[101]:ByteArray}.data.toList++Lib.itoa x.fst),I 0]) else(qp 1 (jx (fun i=>qk (List.getD x.dig i default)) 0)).length+1<=jt/\PureW PP 68 [x.d] [x.d] (I x.fst)/\PureW PP 120 [I x.fst] [I x.fst] (.str (Lib.itoa x.fst))/\(qp 1 (jx (fun i=>qk (List.getD x.dig i default)) 0)++{data:= #[101]:ByteArray}.data.toList).length+(Lib.itoa x.fst).length<=jt/\K (.tup [.str (qp 1 (jx (fun i=>qk (List.getD x.dig i default)) 0)++{data:= #[101]:ByteArray}.data.toList++Lib.itoa x.fst),I 0]))):=by kernel_rfl
def qdb(x:Nm):Str×Int:=match wu x with
 |some q=>(q,0)
 |none=>([],9)
theorem qku{n:Int}(h0 : -2000000<=n)(h1:n<=2000000):(Lib.itoa n).length<=100:=by
 have:=Lib.itoa_length_le n (by omega) (by omega)
 omega
theorem c67(x:Nm)(hl:x.dig.length<=1000000)(h1 : -2000000000<=x.ex)(h2:x.ex<=2000000000):Pure PP 67 [x.d] (.tup [.str (qdb x).1,I (qdb x).2]):=by
 have e48:({data:= #[48]:ByteArray}.data.toList:Str)=[48]:=rfl
 have e0:({data:= #[]:ByteArray}.data.toList:Str)=[]:=rfl
 have e46:({data:= #[46]:ByteArray}.data.toList:Str)=[46]:=rfl
 have e45:({data:= #[45]:ByteArray}.data.toList:Str)=[45]:=rfl
 have e101:({data:= #[101]:ByteArray}.data.toList:Str)=[101]:=rfl
 refine pu F67 (by kernel_rfl) (of_eq (q1h x _) fun _=> ?_)
 rw[qx4]
 refine qa (fun h=> ?_) fun h=>fun _=>⟨fun _=>PureW.mk (c68 x h1 h2 hl),fun _=>PureW.mk (c68 x h1 h2 hl),?_⟩
 ·have h:=of_decide_eq_true h
  unfold qdb wu
  rw[if_pos h];exact Wk.refl _
 have h0:=of_decide_eq_false h
 have hb:(bif bif decide ((x.dig.length:Int) > 17) then true else decide (x.fst < -400) then true else decide (x.fst > 400))=decide (x.dig.length > 17\/x.fst < -400\/x.fst > 400):=by
  rw[Bool.eq_iff_iff];simp[or_assoc];omega
 rw[hb]
 refine qa (fun h=> ?_) fun h=> ?_
 ·have h:=of_decide_eq_true h
  unfold qdb wu
  rw[if_neg h0,if_pos h];exact Wk.refl _
 have hc:=of_decide_eq_false h
 have hp:=List.length_pos_iff.2 h0
 have hfst:Pure PP 68 [x.d] (I x.fst):=c68 x h1 h2 hl
 have hit:Pure PP 120 [I x.fst] (.str (Lib.itoa x.fst)):=q0r x.fst (by omega) (by omega)
 have hil:=qku (n:=x.fst) (by omega) (by omega)
 have g1:qp 1 (jx (fun i=>qk (x.dig.getD i default)) 0)=x.dig.take 1:=by rw[am _ _ _ (by omega),List.drop_zero]
 have hT:qdb x=((if x.neg then[45] else[])++(x.dig.take 1++(if x.dig.length > 1 then[46]++x.dig.drop 1 else[]))++[101]++Lib.itoa x.fst,0):=by
  unfold qdb wu
  rw[if_neg h0,if_neg hc]
 have l1:(x.dig.take 1).length=1:=by rw[List.length_take];omega
 rw[hT,g1,e46,e45,e101]
 refine⟨⟨by omega,by omega,by omega⟩,qbt _ _ _,fun _=>qa (fun h=> ?_) fun h=> ?_⟩
 ·have h3:x.dig.length > 1:=by have:=of_decide_eq_true h;omega
  have g2:qp (x.dig.length-1) (jx (fun i=>qk (x.dig.getD i default)) 1)=x.dig.drop 1:=by
   rw[am _ _ _ (by omega)]
   exact List.take_of_length_le (by rw[List.length_drop];omega)
  have l2:(x.dig.drop 1).length<=1000000:=by rw[List.length_drop];omega
  rw[g2,if_pos h3]
  refine⟨⟨by omega,by omega⟩,qbt _ _ _,by unfold jt;omega,by simp only[List.length_append,List.length_singleton];unfold jt;omega,?_⟩
  cases x.neg
  ·refine⟨by simp only[List.length_append,List.length_singleton];unfold jt;omega,PureW.mk hfst,PureW.mk hit,by simp only[List.length_append,List.length_singleton];unfold jt;omega,Wk.refl _⟩
  ·refine⟨by simp only[List.length_append,List.length_singleton];unfold jt;omega,by simp only[List.length_append,List.length_singleton];unfold jt;omega,PureW.mk hfst,PureW.mk hit,by simp only[List.length_append,List.length_singleton];unfold jt;omega,Wk.refl _⟩
 ·have h3:¬x.dig.length > 1:=by have:=of_decide_eq_false h;omega
  rw[if_neg h3,List.append_nil]
  cases x.neg
  ·refine⟨by rw[l1];unfold jt;omega,PureW.mk hfst,PureW.mk hit,by simp only[List.length_append,List.length_singleton];unfold jt;omega,Wk.refl _⟩
  ·refine⟨by rw[l1];unfold jt;omega,by simp only[List.length_append,List.length_singleton];unfold jt;omega,PureW.mk hfst,PureW.mk hit,by simp only[List.length_append,List.length_singleton];unfold jt;omega,Wk.refl _⟩
end Go.Proofs.YtiekphbkomddfaaGreatDoor.S1
namespace Go.Proofs.YtiekphbkomddfaaGreatDoor.S1
open Go Go.Ab Go.Proofs
def hSc(q:Str)(a:Int):Heap:=⟨upd (upd (fun _=>none) 0 (some (.lit [.str q]))) 1 (some (.lit [I a])),2,fun _=>none,0,fun _=>none⟩
theorem q1i:OkF 118 Tryz.f118:=⟨by kernel_rfl,by kernel_rfl,by kernel_rfl⟩
def qpk:List (List Nat×List Nat):=[([1,0,1,0],[0,1,2,7,8])]
noncomputable def qs6:List Nat->Nat->Option Ans:=qf []
theorem q1j[Lay](e q:Str)(a:Int)(K:D->Heap->Prop):qn (En Tryz.f118) (fh Tryz.f118 K) (qs6 ) qpk 200 [.code []] ⟨qc 0 [.str e,.bp 1 0,.bp 0 0],hSc q a⟩ =
 (List.length e<=jt->At (En Tryz.f118) (fh Tryz.f118 K) [It.code [1,0,1,0],It.blk 0,It.code [1,1]] {sl:=[(0,.str e),(1,D.bp 1 0),(2,D.bp 0 0),(7,I (↑(List.length e):Int)),(8,I 0)],h:={box:=upd (upd (fun _=>none) 0 (some (Row.lit [.str q]))) 1 (some (Row.lit [I a])),nl:=2,hw:=fun _=>none,nt:=0,vw:=fun _=>none:Heap}:St}):=by kernel_rfl
def SOn(e q:Str)(a i:Int):St:=⟨[(0,.str e),(1,.bp 1 0),(2,.bp 0 0),(7,I e.length),(8,I i)],hSc q a⟩
noncomputable def qpl:List Nat->Nat->Option Ans:=qf []
theorem qs7[Lay](e q:Str)(a i:Int)(J:St->Prop)(K:D->Heap->Prop):qn (En Tryz.f118) (fh Tryz.f118 K) (qpl ) qpk 200 [.code [1,0,1,0,0],stp [0,1,2,7,8] J,.blk 0,.code [1,1]] (SOn e q a i)=
 (bif decide (i<(↑(List.length e):Int)) then List.length q<=jt->(decide (a<(↑(List.length q):Int))=true->0<=a/\a<(↑(List.length q):Int))/\(decide (a<(↑(List.length q):Int))=true->0<=i/\i<(↑(List.length e):Int))/\bif bif decide (a<(↑(List.length q):Int)) then(↑(List.getD q a.toNat 0).toNat:Int)==(↑(List.getD e i.toNat 0).toNat:Int) else false then True/\K (B true) {box:=upd (upd (upd (fun _=>none) 0 (some (Row.lit [.str q]))) 1 (some (Row.lit [I a]))) 1 (some (Row.lit [I (qg .i64 a 1)])),nl:=2,hw:=fun _=>none,nt:=0,vw:=fun _=>none:Heap} else J {sl:=[(0,.str e),(1,D.bp 1 0),(2,D.bp 0 0),(7,I (↑(List.length e):Int)),(8,I (qg .i64 i 1))],h:={box:=upd (upd (fun _=>none) 0 (some (Row.lit [.str q]))) 1 (some (Row.lit [I a])),nl:=2,hw:=fun _=>none,nt:=0,vw:=fun _=>none:Heap}:St} else K (B false) {box:=upd (upd (fun _=>none) 0 (some (Row.lit [.str q]))) 1 (some (Row.lit [I a])),nl:=2,hw:=fun _=>none,nt:=0,vw:=fun _=>none:Heap}):=by kernel_rfl
theorem q1k:OkF 119 Tryz.f119:=⟨by kernel_rfl,by kernel_rfl,by kernel_rfl⟩
def qpm:List (List Nat×List Nat):=[([1,1,0,0],[0,1,3])]
noncomputable def q1l:List Nat->Nat->Option Ans:=qf []
theorem nDg[Lay](q:Str)(a:Int)(K:D->Heap->Prop):qn (En Tryz.f119) (fh Tryz.f119 K) (q1l ) qpm 200 [.code []] ⟨qc 0 [.bp 1 0,.bp 0 0],hSc q a⟩ =
 (At (En Tryz.f119) (fh Tryz.f119 K) [It.code [1,1,0,0],It.blk 0,It.code [1,1,1]] {sl:=[(0,D.bp 1 0),(1,D.bp 0 0),(3,I a)],h:={box:=upd (upd (fun _=>none) 0 (some (Row.lit [.str q]))) 1 (some (Row.lit [I a])),nl:=2,hw:=fun _=>none,nt:=0,vw:=fun _=>none:Heap}:St}):=by kernel_rfl
def SDg(q:Str)(f a:Int):St:=⟨[(0,.bp 1 0),(1,.bp 0 0),(3,I f)],hSc q a⟩
noncomputable def qs8:List Nat->Nat->Option Ans:=qf []
theorem q1m[Lay](q:Str)(f a:Int)(J:St->Prop)(K:D->Heap->Prop):qn (En Tryz.f119) (fh Tryz.f119 K) (qs8 ) qpm 200 [.code [1,1,0,0,0],stp [0,1,3] J,.blk 0,.code [1,1,1]] (SDg q f a)=
 (List.length q<=jt->(decide (a<(↑(List.length q):Int))=true->0<=a/\a<(↑(List.length q):Int))/\((bif decide (a<(↑(List.length q):Int)) then decide ((↑(List.getD q a.toNat 0).toNat:Int)>=48) else false)=true->0<=a/\a<(↑(List.length q):Int))/\bif bif bif decide (a<(↑(List.length q):Int)) then decide ((↑(List.getD q a.toNat 0).toNat:Int)>=48) else false then decide ((↑(List.getD q a.toNat 0).toNat:Int)<=57) else false then True/\J {sl:=[(0,D.bp 1 0),(1,D.bp 0 0),(3,I f)],h:={box:=upd (upd (upd (fun _=>none) 0 (some (Row.lit [.str q]))) 1 (some (Row.lit [I a]))) 1 (some (Row.lit [I (qg .i64 a 1)])),nl:=2,hw:=fun _=>none,nt:=0,vw:=fun _=>none:Heap}:St} else(0<=f/\f<=a/\a<=(↑(List.length q):Int))/\K (.str (List.drop f.toNat (List.take a.toNat q))) {box:=upd (upd (fun _=>none) 0 (some (Row.lit [.str q]))) 1 (some (Row.lit [I a])),nl:=2,hw:=fun _=>none,nt:=0,vw:=fun _=>none:Heap}):=by kernel_rfl
def ge(e q:Str)(a:Int):Bool:=decide (a<(q.length:Int))&&e.contains (q.getD a.toNat 0)
def j9(e q:Str)(a:Int):Int:=if ge e q a=true then a+1 else a
theorem qdc(q:Str)(a b:Int):(⟨upd (upd (upd (fun _=>none) 0 (some (Row.lit [.str q]))) 1 (some (Row.lit [I a]))) 1 (some (Row.lit [I b])),2,fun _=>none,0,fun _=>none⟩:Heap)=hSc q b :=
 pj (fun k=>by rcases k with _|_|k <;> rfl) rfl rfl
theorem qn7[Lay](e q:Str)(a:Int)(h0:0<=a)(h1:a<=1000000)(he:e.length<=1000):Does PP 118 [.str e,.bp 1 0,.bp 0 0] (hSc q a) (B (ge e q a)) (hSc q (j9 e q a)):=by
 refine du q1i (by kernel_rfl) (of_eq (q1j e q a _) fun _=> ?_)
 refine lp (fn:=Tryz.f118) (fun i:Nat=>i<=e.length/\ge e q a=(decide (a<(q.length:Int))&&(e.drop i).contains (q.getD a.toNat 0))) (fun i=>SOn e q a i) (fun i=>e.length-i) [0,1,2,7,8] (by kernel_rfl) (fun i hi=>of_eq (qs7 e q a i _ _) ?_) 0 ⟨Nat.zero_le _,rfl⟩
 obtain⟨hi,hc⟩:=hi
 refine qa (fun hlt=>fun _=> ?_) fun hge=> ?_
 ·have hlt:=ltI hlt
  have hg:e.getD (i:Int).toNat 0=e.getD i default:=by rw[Int.toNat_natCast];rfl
  rw[jb _ _ hlt,List.contains_cons]at hc
  rw[hg,bi hlt (by unfold q8;omega)]
  refine⟨fun h=>⟨h0,of_decide_eq_true h⟩,fun _=>⟨by omega,by omega⟩,?_⟩
  by_cases hq:a<(q.length:Int)
  ·have hd:decide (a<(q.length:Int))=true:=decide_eq_true hq
   rw[hd]
   refine qa (fun h=>⟨trivial,?_⟩) fun h=> ?_
   ·have h:=eq_of_beq (show(((q.getD a.toNat 0).toNat:Int)==((e.getD i default).toNat:Int))=true from h)
    have hE:(q.getD a.toNat 0==e.getD i default)=true:=by
     rw[beq_iff_eq,<-UInt8.toNat_inj];omega
    rw[hE,Bool.true_or,Bool.and_true,hd]at hc
    rw[jk (by omega) (by omega),qdc]
    unfold j9
    rw[hc,if_pos rfl]
    exact RetLe.refl _ _
   ·have h:(((q.getD a.toNat 0).toNat:Int)==((e.getD i default).toNat:Int))=false:=h
    have hE:(q.getD a.toNat 0==e.getD i default)=false:=by
     rw[beq_eq_false_iff_ne]at h⊢
     intro e;exact h (by rw[e])
    rw[hE,Bool.false_or]at hc
    rw[hd]at hc
    exact Nx.mk (i+1) ⟨hlt,hc⟩ (by omega)
  ·have hd:decide (a<(q.length:Int))=false:=decide_eq_false hq
   rw[hd,Bool.false_and]at hc
   rw[hd]
   refine qa (fun h=>by cases h) fun _=> ?_
   exact Nx.mk (i+1) ⟨hlt,by rw[Bool.false_and];exact hc⟩ (by omega)
 ·rw[List.drop_of_length_le (geI hge)]at hc
  have hb:ge e q a=false:=by rw[hc];simp
  unfold j9
  rw[hb,if_neg (by simp)]
  exact RetLe.refl _ _
theorem qs9[Lay](q:Str)(a:Int)(h0:0<=a)(h1:a<=(q.length:Int))(hq:q.length<=1000000):Does PP 119 [.bp 1 0,.bp 0 0] (hSc q a) (.str (qi (q.drop a.toNat)).1) (hSc q (a+(qi (q.drop a.toNat)).1.length)):=by
 obtain⟨f,rfl⟩:∃n:Nat,a=n:=⟨a.toNat,by omega⟩
 rw[Int.toNat_natCast]
 refine du q1k (by kernel_rfl) (of_eq (nDg q f _) ?_)
 refine lp (fn:=Tryz.f119) (fun i:Nat=>f<=i/\i<=q.length/\(qi (q.drop f)).1=(q.take i).drop f++(qi (q.drop i)).1) (fun i=>SDg q f i) (fun i=>q.length-i) [0,1,3] (by kernel_rfl) (fun i hi=>of_eq (q1m q f i _ _) fun hlm=> ?_) f ⟨Nat.le_refl _,by omega,by
  have h9:(q.take f).drop f=[]:=List.drop_eq_nil_of_le (by rw[List.length_take];omega)
  rw[h9];rfl⟩
 obtain⟨hfi,hi,he⟩:=hi
 rw[Int.toNat_natCast]
 refine⟨fun h=>⟨by omega,of_decide_eq_true h⟩,fun h=> ?_,?_⟩
 ·by_cases hx:(i:Int)<(q.length:Int)
  ·exact⟨by omega,hx⟩
  ·rw[decide_eq_false hx]at h;cases h
 by_cases hx:i<q.length
 ·have hdg:(bif bif decide ((i:Int)<(q.length:Int)) then decide (((q.getD i 0).toNat:Int)>=48) else false then decide (((q.getD i 0).toNat:Int)<=57) else false)=zl (q.getD i default):=by
   rw[decide_eq_true (by omega)]
   unfold zl
   show(bif decide (((q.getD i default).toNat:Int)>=48) then decide (((q.getD i default).toNat:Int)<=57) else false)=_
   rw[Bool.eq_iff_iff];simp;omega
  rw[hdg]
  rw[jb _ _ hx,qi]at he
  refine qa (fun h=>⟨trivial,?_⟩) fun h=>⟨⟨by omega,by omega,by omega⟩,?_⟩
  ·rw[if_pos h]at he
   rw[jk (by omega) (by omega)]
   refine Nx.of (i+1) ⟨by omega,hx,?_⟩ (by omega) (StLe.heap (qdc q i ((i+1:Nat):Int)))
   rw[he,zu _ _ hx,List.drop_append_of_le_length (by rw[List.length_take];omega),List.append_assoc];rfl
  ·rw[if_neg (by rw[h];simp),List.append_nil]at he
   rw[he,Int.toNat_natCast,List.length_drop,List.length_take]
   refine RetLe.wk (Wk.refl _) ?_
   show hSc q (i:Int)=hSc q _
   congr 1;omega
 ·have hdg:(bif bif decide ((i:Int)<(q.length:Int)) then decide (((q.getD i 0).toNat:Int)>=48) else false then decide (((q.getD i 0).toNat:Int)<=57) else false)=false:=by
   rw[decide_eq_false (by omega)];rfl
  rw[hdg]
  have hd:q.drop i=[]:=List.drop_of_length_le (by omega)
  have hn:(qi ([]:Str)).1=[]:=rfl
  rw[hd,hn,List.append_nil]at he
  refine⟨⟨by omega,by omega,by omega⟩,?_⟩
  rw[he,Int.toNat_natCast,List.length_drop,List.length_take]
  refine RetLe.wk (Wk.refl _) ?_
  show hSc q (i:Int)=hSc q _
  congr 1;omega
end Go.Proofs.YtiekphbkomddfaaGreatDoor.S1
