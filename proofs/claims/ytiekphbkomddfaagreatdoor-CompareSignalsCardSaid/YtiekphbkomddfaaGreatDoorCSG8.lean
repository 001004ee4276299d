/- The reference's decimals: what is read, valid texts; the contracts. -/
import Derived.Test.YtiekphbkomddfaaGreatDoorCSG7
namespace Go.Proofs.YtiekphbkomddfaaGreatDoor.S1
open Go Go.Ab Go.Proofs
attribute [local instance] qda
abbrev jw:Nat:=100000
noncomputable def Rd.pa(x:Rd):Pa:=⟨x.neg,x.dig,(x.dig.length:Int)-x.fr-1+x.e jw⟩
noncomputable def rdV:Option Rd->Pa×Bool
 |none=>(⟨false,[],0⟩,false)
 |some x=>(x.pa,x.ok)
noncomputable def rdD(x:Option Rd):D:= .tup [(rdV x).1.d,B (rdV x).2]
theorem mj(c:UInt8)(k:Nat)(hk:k<256):((c.toNat:Int)==(k:Int))=decide (c=UInt8.ofNat k):=by
 rw[Bool.eq_iff_iff]
 simp only[beq_iff_eq,decide_eq_true_eq]
 constructor
 ·intro h
  exact UInt8.toNat_inj.1 (by rw[UInt8.toNat_ofNat'];omega)
 ·intro h
  rw[h,UInt8.toNat_ofNat'];omega
theorem qdn{z:Str}{a:Nat}(h:a<=z.length):(z.take (a+(qi (z.drop a)).1.length)).drop a=(qi (z.drop a)).1/\z.drop (a+(qi (z.drop a)).1.length)=(qi (z.drop a)).2/\a+(qi (z.drop a)).1.length<=z.length:=by
 have h1:=mc (z.drop a)
 have h2:=po (z.drop a)
 rw[List.length_drop]at h2
 refine⟨?_,?_,by omega⟩
 ·rw[List.drop_take,Nat.add_sub_cancel_left]
  generalize (qi (z.drop a)).1=u at *
  rw[h1,List.take_left]
 ·rw[<-List.drop_drop]
  generalize (qi (z.drop a)).1=u at *
  generalize (qi (z.drop a)).2=v at *
  rw[h1,List.drop_left]
theorem qyl(z:Str)(a:Nat)(ha:a<=z.length)(hz:z.length<=1000000):Pure PP 126 [.str z,I a] (I ((qi (z.drop (a:Int).toNat)).1.length:Nat)):=by
 rw[Int.toNat_natCast];exact qyj z a ha hz
section
variable {z:Str} {n:Bool} {q:Str} {K:D->Prop}
theorem qnv{e:Int}{a:Nat}(hK:K (.tup [Pa.d ⟨n,q,e⟩,B (decide (a=z.length))])):At (En Tryz.f73) (fi Tryz.f73 K) [.code [1,1,1,1,1,1,1,1,1]] (SXR z n q e a):=by
 refine qe jv _ _ _ (of_eq (q6c z n q e a K) fun _=>⟨trivial,?_⟩)
 have:((a:Int)==(z.length:Int))=decide (a=z.length):=by
  rw[Bool.eq_iff_iff];simp only[beq_iff_eq,decide_eq_true_eq];omega
 rw[this];exact hK
theorem qiw(cap:Nat)(q:Str)(c:UInt8):ug cap (q++[c])=min cap (10*ug cap q+dgt c):=by
 unfold ug
 rw[List.foldl_append];rfl
theorem qac(cap:Nat)(q:Str):ug cap q<=cap:=by
 rw[ou];omega
theorem qwe{e:Int}{a:Nat}{w:Bool}(ha:a<=z.length)(hz:z.length<=1000000)(he : -1000000<=e/\e<=1000000)
  (hK:(qi (z.drop a)).1=[]->K (rdD none)) (hK2:(qi (z.drop a)).1≠[]->K (.tup [Pa.d ⟨n,q,e+(if w then-(ug jw (qi (z.drop a)).1:Int) else(ug jw (qi (z.drop a)).1:Int))⟩,B (decide ((qi (z.drop a)).2=[]))])) :
  At (En Tryz.f73) (fi Tryz.f73 K) [.code [1,1,1,1,1,1,1,1,0,1,0,1,1,1],.code [1,1,1,1,1,1,1,1,1]] ⟨[(0,.str z),(2,.own [B false,.str [],I 0]),(4,.own [B n,.str q,I e]),(5,I a),(7,B w)],.empty⟩:=by
 obtain⟨t1,t2,t3⟩:=qdn ha
 have hdg:=md (z.drop a)
 refine qe jv _ _ _ (of_eq (q6a z n q e a w K) ⟨PureW.mk (qyl z a ha hz),?_⟩)
 rw[Int.toNat_natCast]
 refine qa (fun h=>⟨trivial,hK (List.eq_nil_of_length_eq_zero (by simpa using h))⟩) fun h=> ?_
 have hne:(qi (z.drop a)).1≠[]:=by intro h0;rw[h0]at h;cases h
 have hK2:=hK2 hne
 have hend:a+(qi (z.drop a)).1.length=z.length↔(qi (z.drop a)).2=[]:=by
  rw[<-t2]
  constructor
  ·intro h;rw[h,List.drop_length]
  ·intro h
   have:=congrArg List.length h
   rw[List.length_drop,List.length_nil]at this;omega
 have hget:∀i,i<(qi (z.drop a)).1.length->z.getD (a+i) 0=(qi (z.drop a)).1.getD i 0:=fun i hi=>by
  conv=>rhs;rw[<-t1]
  rw[List.getD_eq_getElem?_getD,List.getD_eq_getElem?_getD,List.getElem?_drop,List.getElem?_take,if_pos (by omega)]
 generalize (qi (z.drop a)).1=d at *
 generalize (qi (z.drop a)).2=r at *
 refine jc (st':=SXl z n q e a d.length w (ug jw (d.take 0)) ((0:Nat):Int)) ?_ ((StLe.refl _ _).cast (by kernel_rfl))
 refine lp (fn:=Tryz.f73) (fun i:Nat=>i<=d.length) (fun i=>SXl z n q e a d.length w (ug jw (d.take i)) i) (fun i=>d.length-i) [0,2,4,5,6,7,8,9] (by kernel_rfl) (fun i hi=>of_eq (q6b z n q e a d.length w (ug jw (d.take i)) i _ _) (qa (fun hlt=> ?_) fun hge=> ?_)) 0 (Nat.zero_le _)
 ·have hlt:=ltI hlt
  have hx:ug jw (d.take i)<=100000:=qac _ _
  have hb:=qns hdg hlt
  have hb2:=ac hb
  rw[jk (a:=(a:Int)) (by omega) (by omega),show((a:Int)+(i:Int)).toNat=a+i by omega,hget i hlt,bg hb]
  refine⟨⟨by omega,by omega⟩,Nx.of (i+1) hlt (by omega) ?_⟩
  have hs:ug jw (d.take (i+1))=min jw (10*ug jw (d.take i)+dgt (d.getD i 0)):=by
   rw[show d.take (i+1)=d.take i++[d.getD i 0] from zu d i hlt,qiw]
  have hm:yt .i64 10 (ug jw (d.take i):Int)=10*(ug jw (d.take i):Int):=IntWalk.i64_in _ (by omega)
  rw[hs,hm,jk (by omega) (by omega),jk (by omega) (by omega)]
  have:(if 100000<10*(ug jw (d.take i):Int)+(dgt (d.getD i 0):Int) then 100000 else 10*(ug jw (d.take i):Int)+(dgt (d.getD i 0):Int))=((min jw (10*ug jw (d.take i)+dgt (d.getD i 0)):Nat):Int):=by
   have:((min jw (10*ug jw (d.take i)+dgt (d.getD i 0)):Nat):Int)=min 100000 (10*(ug jw (d.take i):Int)+(dgt (d.getD i 0):Int)):=by
    rw[show jw=100000 from rfl];omega
   rw[this];split <;> omega
  rw[this]
  exact(StLe.refl _ _).cast (by kernel_rfl)
 ·have hge:=geI hge
  rw[List.take_of_length_le hge]
  have hx:ug jw d<=100000:=qac _ _
  refine qa (fun hw=>⟨trivial,?_⟩) fun hw=>⟨trivial,?_⟩
  ·rw[jy (a:=0) (by omega) (by omega),jk (a:=e) (by omega) (by omega),jk (by omega) (by omega)]
   refine jc (st':=SXR z n q (e+(0-(ug jw d:Int))) ((a+d.length:Nat):Int)) (qnv ?_) ((StLe.refl _ _).cast (by kernel_rfl))
   rw[hw,if_pos rfl]at hK2
   have:decide (a+d.length=z.length)=decide (r=[]):=by rw[decide_eq_decide];exact hend
   rw[this,show e+(0-(ug jw d:Int))=e + - (ug jw d:Int) by omega]
   exact hK2
  ·rw[jk (a:=e) (by omega) (by omega),jk (by omega) (by omega)]
   refine jc (st':=SXR z n q (e+(ug jw d:Int)) ((a+d.length:Nat):Int)) (qnv ?_) ((StLe.refl _ _).cast (by kernel_rfl))
   rw[hw,if_neg (by simp)]at hK2
   have:decide (a+d.length=z.length)=decide (r=[]):=by rw[decide_eq_decide];exact hend
   rw[this]
   exact hK2
end
theorem qqh{a n:Nat}{c:UInt8}{k:Nat}(hk:k<256):(bif decide ((a:Int)<(n:Int)) then((c.toNat:Int)==(k:Int)) else false)=decide (a<n/\c=UInt8.ofNat k):=by
 rw[mj c k hk]
 by_cases h:a<n
 ·rw[decide_eq_true (show(a:Int)<(n:Int) by omega),cond_true,decide_eq_decide]
  exact⟨fun h1=>⟨h,h1⟩,fun h1=>h1.2⟩
 ·rw[decide_eq_false (show ¬(a:Int)<(n:Int) by omega),cond_false]
  exact(decide_eq_false fun h1=>h h1.1).symm
theorem qix{a n:Nat}{c:UInt8}{k l:Nat}(hk:k<256)(hl:l<256):(bif decide ((a:Int)<(n:Int)) then bif((c.toNat:Int)==(k:Int)) then true else((c.toNat:Int)==(l:Int)) else false)=decide (a<n/\(c=UInt8.ofNat k\/c=UInt8.ofNat l)):=by
 rw[mj c k hk,mj c l hl]
 by_cases h:a<n
 ·rw[decide_eq_true (show(a:Int)<(n:Int) by omega),cond_true]
  by_cases h1:c=UInt8.ofNat k
  ·rw[decide_eq_true h1,cond_true];exact(decide_eq_true ⟨h,.inl h1⟩).symm
  ·rw[decide_eq_false h1,cond_false,decide_eq_decide]
   exact⟨fun h2=>⟨h,.inr h2⟩,fun h2=>h2.2.resolve_left h1⟩
 ·rw[decide_eq_false (show ¬(a:Int)<(n:Int) by omega),cond_false]
  exact(decide_eq_false fun h1=>h h1.1).symm
section
variable {z:Str} {n:Bool} {q:Str} {K:D->Prop}
theorem qme{e:Int}{f a:Nat}(ha:a<=z.length)(hz:z.length<=1000000)(hq:q.length<=100000)(hf:f<=100000)(he:e=(q.length:Int)-f-1)(hK:K (rdD (rdE n q f (z.drop a)))) :
  At (En Tryz.f73) (fi Tryz.f73 K) [.code [1,1,1,1,1,1,1,1,0],.code [1,1,1,1,1,1,1,1,1]] (SXR z n q e a):=by
 have cE:=qix (a:=a) (n:=z.length) (c:=z.getD a 0) (k:=101) (l:=69) (by omega) (by omega)
 refine qe jv _ _ _ (of_eq (q58 z n q e a K) fun _=> ?_)
 rw[Int.toNat_natCast]
 refine⟨fun h=>⟨by omega,of_decide_eq_true h⟩,fun h=>⟨by omega,by rw[Bool.and_eq_true]at h;exact of_decide_eq_true h.1⟩,?_⟩
 rw[show(bif decide ((a:Int)<(z.length:Int)) then bif((z.getD a 0).toNat:Int)==101 then true else((z.getD a 0).toNat:Int)==69 else false)=_ from cE]
 refine qa (fun h=> ?_) fun h=> ?_
 ·obtain⟨hl,hc⟩:=of_decide_eq_true h
  have hd:=jz hl
  rw[hd,rdE,if_pos (by exact hc)]at hK
  have key:∀(a':Nat) (w:Bool),a'<=z.length->z.drop a'=(ky (z.drop (a+1))).2->w=(ky (z.drop (a+1))).1->At (En Tryz.f73) (fi Tryz.f73 K) [.code [1,1,1,1,1,1,1,1,0,1,0,1,1,1],.code [1,1,1,1,1,1,1,1,1]] ⟨[(0,.str z),(2,.own [B false,.str [],I 0]),(4,.own [B n,.str q,I e]),(5,I a'),(7,B w)],.empty⟩:=fun a' w ha' hd' hw=>by
   refine qwe ha' hz ⟨by omega,by omega⟩ (fun h0=> ?_) fun h0=> ?_
   ·rw[hd']at h0
    rw[if_pos h0]at hK;exact hK
   ·rw[hd']at h0⊢
    rw[if_neg h0]at hK
    rw[hw,he]
    exact hK
  have ea:qg .i64 (a:Int) 1=((a+1:Nat):Int):=by rw[jk (by omega) (by omega)];rfl
  rw[ea,Int.toNat_natCast]
  have c1:=qix (a:=a+1) (n:=z.length) (c:=z.getD (a+1) 0) (k:=43) (l:=45) (by omega) (by omega)
  have c2:=qqh (a:=a+1) (n:=z.length) (c:=z.getD (a+1) 0) (k:=45) (by omega)
  refine fun _=>⟨fun h=>⟨by omega,of_decide_eq_true h⟩,fun _=>⟨fun h=>⟨by omega,of_decide_eq_true h⟩,fun h=>⟨by omega,by rw[Bool.and_eq_true]at h;exact of_decide_eq_true h.1⟩,?_⟩⟩
  rw[show(bif decide (((a+1:Nat):Int)<(z.length:Int)) then bif((z.getD (a+1) 0).toNat:Int)==43 then true else((z.getD (a+1) 0).toNat:Int)==45 else false)=_ from c1,show(bif decide (((a+1:Nat):Int)<(z.length:Int)) then((z.getD (a+1) 0).toNat:Int)==45 else false)=_ from c2]
  refine qa (fun h1=> ?_) fun h1=> ?_
  ·obtain⟨g1,g2⟩:=of_decide_eq_true h1
   have hd1:=jz g1
   have ea2:qg .i64 ((a+1:Nat):Int) 1=((a+1+1:Nat):Int):=by rw[jk (by omega) (by omega)];rfl
   rw[ea2]
   refine key (a+1+1) _ (by omega) ?_ ?_
   ·rw[hd1,ky]
    rcases g2 with g2|g2
    ·rw[if_neg (by rw[g2];decide),if_pos (by rw[g2];rfl)]
    ·rw[if_pos (by rw[g2];rfl)]
   ·rw[hd1,ky]
    rcases g2 with g2|g2
    ·rw[if_neg (by rw[g2];decide),if_pos (by rw[g2];rfl)]
     exact decide_eq_false fun h=>by rw[g2]at h;exact absurd h.2 (by decide)
    ·rw[if_pos (by rw[g2];rfl)]
     exact decide_eq_true ⟨g1,g2⟩
  ·have h1:=of_decide_eq_false h1
   refine key (a+1) _ (by omega) ?_ ?_
   ·rcases Nat.lt_or_ge (a+1) z.length with g1|g1
    ·rw[jz g1,ky,if_neg (show ¬z.getD (a+1) 0=45 from fun h=>h1 ⟨g1,.inr h⟩),if_neg (show ¬z.getD (a+1) 0=43 from fun h=>h1 ⟨g1,.inl h⟩)]
    ·rw[List.drop_of_length_le g1];rfl
   ·rcases Nat.lt_or_ge (a+1) z.length with g1|g1
    ·rw[jz g1,ky,if_neg (show ¬z.getD (a+1) 0=45 from fun h=>h1 ⟨g1,.inr h⟩),if_neg (show ¬z.getD (a+1) 0=43 from fun h=>h1 ⟨g1,.inl h⟩)]
     exact decide_eq_false fun h=>h1 ⟨h.1,.inr h.2⟩
    ·rw[List.drop_of_length_le g1]
     exact decide_eq_false fun h=>by omega
 ·have h:=of_decide_eq_false h
  refine qnv (z:=z) (n:=n) (q:=q) (e:=e) (a:=a) ?_
  rcases Nat.lt_or_ge a z.length with g|g
  ·rw[jz g,rdE,if_neg (show ¬(z.getD a 0=101\/z.getD a 0=69) from fun hc=>h ⟨g,hc⟩)]at hK
   rw[decide_eq_false (by omega),he]
   have e2:(q.length:Int)-f-1=(q.length:Int)-f-1+0:=by omega
   rw[e2];exact hK
  ·rw[List.drop_of_length_le g,rdE]at hK
   rw[decide_eq_true (by omega),he]
   have e2:(q.length:Int)-f-1=(q.length:Int)-f-1+0:=by omega
   rw[e2];exact hK
theorem qqi{a:Nat}(ha:a<=z.length)(hz:z.length<=1000)(hq:q.length<=1000)(hK:K (rdD (rdF n q (z.drop a)))) :
  At (En Tryz.f73) (fi Tryz.f73 K) [.code [1,1,1,1,1,1,1,0],.code [1,1,1,1,1,1,1,1]] (SXR z n q ((q.length:Int)-1) a):=by
 have cE:=qqh (a:=a) (n:=z.length) (c:=z.getD a 0) (k:=46) (by omega)
 have ea:qg .i64 (a:Int) 1=((a+1:Nat):Int):=by rw[jk (by omega) (by omega)];rfl
 refine qe jv _ _ _ (of_eq (q56 z n q _ a K) fun _=> ?_)
 rw[Int.toNat_natCast,ea,Int.toNat_natCast]
 refine⟨fun h=>⟨by omega,of_decide_eq_true h⟩,?_⟩
 rw[show(bif decide ((a:Int)<(z.length:Int)) then((z.getD a 0).toNat:Int)==46 else false)=_ from cE]
 refine qa (fun h=> ?_) fun h=> ?_
 ·obtain⟨hl,hc⟩:=of_decide_eq_true h
  obtain⟨t1,t2,t3⟩:=qdn (z:=z) (a:=a+1) (by omega)
  rw[jz hl,rdF,if_pos (by exact hc)]at hK
  refine⟨PureW.mk (qyj z (a+1) (by omega) (by omega)),qa (fun h1=>⟨trivial,?_⟩) fun h1=> ?_⟩
  ·have h1:(qi (z.drop (a+1))).1=[]:=List.eq_nil_of_length_eq_zero (by simpa using h1)
   rw[if_pos h1]at hK;exact hK
  ·have h1:(qi (z.drop (a+1))).1≠[]:=by intro h0;rw[h0]at h1;cases h1
   rw[if_neg h1]at hK
   have eb:qg .i64 ((a+1:Nat):Int) ((qi (z.drop (a+1))).1.length:Int)=((a+1+(qi (z.drop (a+1))).1.length:Nat):Int):=by rw[jk (by omega) (by omega)];rfl
   rw[eb,Int.toNat_natCast,t1]
   refine⟨⟨by omega,by omega,by omega⟩,by unfold jt;omega,trivial,qme (f:=(qi (z.drop (a+1))).1.length) t3 (by omega) (by rw[List.length_append];omega) (by omega) (by rw[List.length_append];omega) ?_⟩
   rw[t2];exact hK
 ·have h:=of_decide_eq_false h
  refine qme (f:=0) ha (by omega) (by omega) (by omega) (by omega) ?_
  rcases Nat.lt_or_ge a z.length with g|g
  ·rw[jz g,rdF,if_neg (show ¬z.getD a 0=46 from fun hc=>h ⟨g,hc⟩)]at hK
   rw[jz g];exact hK
  ·rw[List.drop_of_length_le g,rdF]at hK
   rw[List.drop_of_length_le g];exact hK
end
theorem c73(z:Str)(hz:z.length<=1000):Pure PP 73 [.str z] (.tup [.agg [B (rdV (rdP z)).1.neg,.str (rdV (rdP z)).1.dig,I (rdV (rdP z)).1.e],B (rdV (rdP z)).2]):=by
 have hgoal:∀(K:D->Prop),K (rdD (rdP z))->At (En Tryz.f73) (fi Tryz.f73 K) [.code []] ⟨qc 0 [.str z],.empty⟩:=fun K hK=>by
  have start:∀(n:Bool) (a:Nat),a<=z.length->z.drop a=(ky z).2->n=(ky z).1->At (En Tryz.f73) (fi Tryz.f73 K) [.code [1,1,1,1]] (SXR z n [] 0 a):=fun n a ha hd hn=>by
   obtain⟨t1,t2,t3⟩:=qdn (z:=z) (a:=a) ha
   refine qe jv _ _ _ (of_eq (q54 z n a K) ⟨PureW.mk (qyl z a ha (by omega)),fun _=> ?_⟩)
   rw[Int.toNat_natCast]
   have eb:qg .i64 (a:Int) ((qi (z.drop a)).1.length:Int)=((a+(qi (z.drop a)).1.length:Nat):Int):=by rw[jk (by omega) (by omega)];rfl
   unfold rdP at hK
   rw[<-hd,<-hn]at hK
   refine qa (fun h=>⟨trivial,?_⟩) fun h=> ?_
   ·have:z.length > 64\/(qi (z.drop a)).1=[]:=by
     cases h1:(((qi (z.drop a)).1.length:Int)==0) with
     |true=>exact .inr (List.eq_nil_of_length_eq_zero (by simpa using h1))
     |false =>
      rw[h1,cond_false]at h
      have:=of_decide_eq_true h
      exact .inl (by omega)
    rw[if_pos this]at hK;exact hK
   ·have hne:¬(z.length > 64\/(qi (z.drop a)).1=[]):=by
     rintro(h1|h1)
     ·cases h2:(((qi (z.drop a)).1.length:Int)==0) <;> rw[h2]at h
      ·rw[cond_false,decide_eq_true (by omega)]at h;cases h
      ·cases h
     ·rw[h1]at h;cases h
    rw[if_neg hne]at hK
    have hl0:0<(qi (z.drop a)).1.length:=List.length_pos_iff.2 fun h0=>hne (.inr h0)
    rw[eb,Int.toNat_natCast,t1,jy (by omega) (by omega)]
    refine⟨⟨by omega,by omega,by omega⟩,trivial,trivial,?_⟩
    exact qqi t3 hz (by omega) (by rw[t2];exact hK)
  refine qe jv _ _ _ (of_eq (nXR z K) ⟨trivial,fun _=>⟨fun h=>⟨by omega,of_decide_eq_true h⟩,fun h=>⟨by omega,by rw[Bool.and_eq_true]at h;exact of_decide_eq_true h.1⟩,?_⟩⟩)
  cases hzz:z with
  |nil =>
   rw[hzz]at start
   exact start false 0 (Nat.le_refl _) rfl rfl
  |cons c r =>
   rw[<-hzz]
   have hg:z.getD 0 0=c:=by rw[hzz];rfl
   have hl:0<z.length:=by rw[hzz];simp
   have c1:=qix (a:=0) (n:=z.length) (c:=z.getD 0 0) (k:=43) (l:=45) (by omega) (by omega)
   have c2:=mj (z.getD 0 0) 45 (by omega)
   rw[show(bif decide ((z.length:Int) > 0) then bif((z.getD 0 0).toNat:Int)==43 then true else((z.getD 0 0).toNat:Int)==45 else false)=_ from c1,show(((z.getD 0 0).toNat:Int)==45)=_ from c2]
   refine qa (fun h=> ?_) fun h=> ?_
   ·obtain⟨_,g⟩:=of_decide_eq_true h
    refine⟨⟨by omega,by omega⟩,trivial,start _ 1 (by omega) ?_ ?_⟩
    ·rw[hzz,ky]
     rw[hg]at g
     rcases g with g|g
     ·rw[if_neg (by rw[g];decide),if_pos (by rw[g];rfl)];rfl
     ·rw[if_pos (by rw[g];rfl)];rfl
    ·rw[hg,hzz,ky]
     rw[hg]at g
     rcases g with g|g
     ·rw[if_neg (by rw[g];decide),if_pos (by rw[g];rfl)]
      exact decide_eq_false (by rw[g];decide)
     ·rw[if_pos (by rw[g];rfl)]
      exact decide_eq_true g
   ·have g:=of_decide_eq_false h
    rw[hg]at g
    refine start _ 0 (Nat.zero_le _) ?_ ?_
    ·rw[List.drop_zero]
     conv=>rhs;rw[hzz]
     rw[ky,if_neg (show ¬c=45 from fun h=>g ⟨hl,.inr h⟩),if_neg (show ¬c=43 from fun h=>g ⟨hl,.inl h⟩)];exact hzz
    ·rw[hzz,ky,if_neg (show ¬c=45 from fun h=>g ⟨hl,.inr h⟩),if_neg (show ¬c=43 from fun h=>g ⟨hl,.inl h⟩)]
 exact pu F73 (by kernel_rfl) (lv:=p8) (N:=0) (sc:=fun _ _=>none) (by unfold qn;exact hgoal _ (Wk.refl _))
theorem F46:OkF 46 Tryz.f46:=⟨by kernel_rfl,by kernel_rfl,by kernel_rfl⟩
def q6d:List (List Nat×List Nat):=[]
noncomputable def q6e(z:Str):List Nat->Nat->Option Ans:=qf [([1,0],1,Ans.pure [.str z] (.tup [.agg [B (rdV (rdP z)).fst.neg,.str (rdV (rdP z)).fst.dig,I (rdV (rdP z)).fst.e],B (rdV (rdP z)).snd])),([1,1,1,0],1,Ans.pure [(rdV (rdP z)).fst.d] (.tup [.str (txR (qx (rdV (rdP z)).fst.nm)).fst,I (txR (qx (rdV (rdP z)).fst.nm)).snd]))]
theorem nXP(z:Str)(K:D->Prop):qn (En Tryz.f46) (fi Tryz.f46 K) (q6e z) q6d 200 [.code []] ⟨qc 0 [.str z],.empty⟩ =
 (PQ PP 73 [.str z] (.tup [.agg [B (rdV (rdP z)).fst.neg,.str (rdV (rdP z)).fst.dig,I (rdV (rdP z)).fst.e],B (rdV (rdP z)).snd])/\True/\bif !(rdV (rdP z)).snd then K (.tup [.str {data:= #[]:ByteArray}.data.toList,I 3]) else PQ PP 74 [(rdV (rdP z)).fst.d] (.tup [.str (txR (qx (rdV (rdP z)).fst.nm)).fst,I (txR (qx (rdV (rdP z)).fst.nm)).snd])/\K (.tup [.str (txR (qx (rdV (rdP z)).fst.nm)).fst,I (txR (qx (rdV (rdP z)).fst.nm)).snd])):=by kernel_rfl
theorem F48:OkF 48 Tryz.f48:=⟨by kernel_rfl,by kernel_rfl,by kernel_rfl⟩
def q6f:List (List Nat×List Nat):=[]
noncomputable def qwf(z:Str):List Nat->Nat->Option Ans:=qf [([1,0],1,Ans.pure [.str z] (.tup [.agg [B (rdV (rdP z)).fst.neg,.str (rdV (rdP z)).fst.dig,I (rdV (rdP z)).fst.e],B (rdV (rdP z)).snd])),([1,1,0],1,Ans.pure [(rdV (rdP z)).fst.d] (stR (rdV (rdP z)).fst).d)]
theorem q6g(z:Str)(K:D->Prop):qn (En Tryz.f48) (fi Tryz.f48 K) (qwf z) q6f 200 [.code []] ⟨qc 0 [.str z],.empty⟩ =
 (PQ PP 73 [.str z] (.tup [.agg [B (rdV (rdP z)).fst.neg,.str (rdV (rdP z)).fst.dig,I (rdV (rdP z)).fst.e],B (rdV (rdP z)).snd])/\True/\PQ PP 79 [(rdV (rdP z)).fst.d] (stR (rdV (rdP z)).fst).d/\True/\K (.agg [B (stR (rdV (rdP z)).fst).neg,.str (stR (rdV (rdP z)).fst).dig,I (stR (rdV (rdP z)).fst).e])):=by kernel_rfl
noncomputable def paV(z:Str):Str×Int:=bif(rdV (rdP z)).2 then txR (qx (rdV (rdP z)).1.nm) else([],3)
theorem F28:OkF 28 Tryz.f28:=⟨by kernel_rfl,by kernel_rfl,by kernel_rfl⟩
def q6h:List (List Nat×List Nat):=[]
noncomputable def q6i(z:Str):List Nat->Nat->Option Ans:=qf [([1,0],1,Ans.pure [.str z] (.tup [.str (paV z).fst,I (paV z).snd]))]
theorem nXV(z:Str)(K:D->Prop):qn (En Tryz.f28) (fi Tryz.f28 K) (q6i z) q6h 200 [.code []] ⟨qc 0 [.str z],.empty⟩ =
 (PQ PP 46 [.str z] (.tup [.str (paV z).fst,I (paV z).snd])/\K (B (bif(paV z).snd==0 then(paV z).fst==z else false))):=by kernel_rfl
theorem F18:OkF 18 Tryz.f18:=⟨by kernel_rfl,by kernel_rfl,by kernel_rfl⟩
def q6j:List (List Nat×List Nat):=[]
noncomputable def q6k(z:Str):List Nat->Nat->Option Ans:=qf [([1,0,0,0],1,Ans.pure [.str z] (B (ck jw z)))]
theorem nXS(z:Str)(K:D->Prop):qn (En Tryz.f18) (fi Tryz.f18 K) (q6k z) q6j 200 [.code []] ⟨qc 0 [.str z],.empty⟩ =
 (PQ PP 28 [.str z] (B (ck jw z))/\bif bif !ck jw z then true else z=={data:= #[48]:ByteArray}.data.toList then K (I 0) else((0:Int)<=0/\0<(↑(List.length z):Int))/\bif(↑(List.getD z 0 0).toNat:Int)==45 then K (I (-1)) else K (I 1)):=by kernel_rfl
theorem qmf(z:Str) : -1000000000<=(rdV (rdP z)).1.e/\(rdV (rdP z)).1.e<=1000000000/\(rdV (rdP z)).1.dig.length<=64:=by
 cases hr:rdP z with
 |none=>exact⟨by decide,by decide,by decide⟩
 |some x =>
  obtain⟨_,_,r3,r4⟩:=qeo hr
  have hc:ug jw x.ed<=100000:=qac jw x.ed
  have h1 : -100000<=x.e jw/\x.e jw<=100000:=by unfold Rd.e;split <;> omega
  show _<=(x.dig.length:Int)-x.fr-1+x.e jw/\(x.dig.length:Int)-x.fr-1+x.e jw<=_/\x.dig.length<=64
  omega
theorem qmg{z:Str}{x:Rd}(h:rdP z=some x):(rdV (rdP z)).1.nm=x.nm jw/\(rdV (rdP z)).2=x.ok:=by
 rw[h]
 refine⟨?_,rfl⟩
 show Nm.mk x.neg x.dig ((x.dig.length:Int)-x.fr-1+x.e jw+1-x.dig.length)=Nm.mk x.neg x.dig (x.e jw-x.fr)
 congr 1;omega
theorem c46(z:Str)(hz:z.length<=1000):Pure PP 46 [.str z] (.tup [.str (paV z).1,I (paV z).2]):=by
 obtain⟨b1,b2,b3⟩:=qmf z
 refine pu F46 (by kernel_rfl) (of_eq (nXP z _) ⟨PureW.mk (c73 z hz),trivial,qa (fun h=> ?_) fun h=>⟨PureW.mk (c74 _ b1 b2 (by omega)),?_⟩⟩)
 ·have h:(rdV (rdP z)).2=false:=by simpa using h
  unfold paV;rw[h];exact Wk.refl _
 ·have h:(rdV (rdP z)).2=true:=by simpa using h
  unfold paV;rw[h];exact Wk.refl _
theorem qwg(z:Str):(bif(paV z).2==0 then(paV z).1==z else false)=ck jw z:=by
 unfold ck
 cases hr:rdP z with
 |none=>unfold paV;rw[hr];rfl
 |some x =>
  obtain⟨h1,h2⟩:=qmg hr
  unfold paV
  rw[h1,h2]
  show _=(x.ok&&decide (wu (qx (x.nm jw))=some z))
  cases x.ok with
  |false=>rfl
  |true =>
   rw[cond_true,Bool.true_and]
   unfold txR
   cases wu (qx (x.nm jw)) with
   |none=>rfl
   |some w =>
    show(w==z)=decide (some w=some z)
    rw[Bool.eq_iff_iff];simp
theorem c28(z:Str)(hz:z.length<=1000):Pure PP 28 [.str z] (B (qv z).2):=by
 refine pu F28 (by kernel_rfl) (of_eq (nXV z _) ⟨PureW.mk (c46 z hz),?_⟩)
 rw[qwg,(qbu z).1,aj (c1:=ra) (c2:=jw) (by decide) (by decide)];exact Wk.refl _
theorem qqj(z:Str):qx (rdV (rdP z)).1.nm=kg jw z:=by
 unfold kg
 cases hr:rdP z with
 |none=>rfl
 |some x =>
  have h:=(qmg hr).1
  rw[hr]at h
  rw[h]
theorem c48(z:Str)(hz:z.length<=1000):Pure PP 48 [.str z] (kg jw z).pa.d:=by
 obtain⟨b1,b2,b3⟩:=qmf z
 refine pu F48 (by kernel_rfl) (of_eq (q6g z _) ⟨PureW.mk (c73 z hz),trivial,PureW.mk (c79 _ b1 b2 (by omega)),trivial,?_⟩)
 rw[<-qqj];exact Wk.refl _
theorem qmh{z:Str}(h:ck jw z=true):z≠[]/\(kg jw z).dig.isEmpty=(z==[48])/\(z≠[48]->(kg jw z).neg=decide (z.getD 0 0=45)):=by
 have hn:=(ak h).1
 have ht:wu (kg jw z)=some z:=by
  unfold ck kg at *
  cases hr:rdP z with
  |none=>rw[hr]at h;cases h
  |some x =>
   rw[hr]at h
   rw[Bool.and_eq_true]at h
   exact of_decide_eq_true h.2
 generalize kg jw z=y at *
 unfold wu at ht
 by_cases h0:y.dig=[]
 ·rw[if_pos h0]at ht
  cases ht
  rw[h0]
  exact⟨by simp,rfl,fun h=>absurd rfl h⟩
 ·rw[if_neg h0]at ht
  by_cases h1:y.dig.length > 17\/y.fst < -400\/y.fst > 400
  ·rw[if_pos h1]at ht;cases ht
  ·rw[if_neg h1]at ht
   have ht:=Option.some.inj ht
   cases hd:y.dig with
   |nil=>exact absurd hd h0
   |cons c r =>
    have hc:c≠48/\c≠45:=by
     have:=hn.hd
     rw[hd,List.head?_cons]at this
     refine⟨fun e=>this (by rw[e]),fun e=> ?_⟩
     have:=hn.dg
     rw[hd,List.all_cons,Bool.and_eq_true,e]at this
     exact absurd this.1 (by decide)
    rw[hd]at ht
    cases hg:y.neg with
    |true =>
     rw[hg]at ht
     rw[<-ht]
     exact⟨by simp,by simp,fun _=>rfl⟩
    |false =>
     rw[hg]at ht
     rw[<-ht]
     refine⟨by simp,?_,fun _=> ?_⟩
     ·simp[hc.1]
     ·simp[hc.2]
noncomputable def mn(z:Str):Int:=bif ck jw z then xm (kg jw z) else 0
theorem c18(z:Str)(hz:z.length<=1000):Pure PP 18 [.str z] (I (mn z)):=by
 have hv:=c28 z hz
 rw[(qbu z).1,aj (c1:=ra) (c2:=jw) (by decide) (by decide)]at hv
 refine pu F18 (by kernel_rfl) (of_eq (nXS z _) ⟨PureW.mk hv,qa (fun h=> ?_) fun h=> ?_⟩)
 ·unfold mn
  cases hb:ck jw z with
  |false=>exact Wk.refl _
  |true =>
   rw[hb]at h
   have h:(z==[48])=true:=h
   have:=(qmh hb).2.1
   rw[h,List.isEmpty_iff]at this
   rw[cond_true,xm,if_pos this];exact Wk.refl _
 ·unfold mn
  cases hb:ck jw z with
  |false=>rw[hb]at h;cases h
  |true =>
   rw[hb]at h
   have h:(z==[48])=false:=h
   obtain⟨g1,g2,g3⟩:=qmh hb
   rw[h,List.isEmpty_eq_false_iff]at g2
   have g3:=g3 (by intro e;rw[e]at h;cases h)
   have:=List.length_pos_iff.2 g1
   have hq:=mj (z.getD 0 0) 45 (by omega)
   refine⟨⟨by omega,by omega⟩,?_⟩
   rw[show(((z.getD 0 0).toNat:Int)==45)=_ from hq,cond_true,xm,if_neg g2,g3]
   by_cases h5:z.getD 0 0=45
   ·rw[decide_eq_true (show z.getD 0 0=UInt8.ofNat 45 from h5),decide_eq_true h5,if_pos rfl];exact Wk.refl _
   ·rw[decide_eq_false (show ¬z.getD 0 0=UInt8.ofNat 45 from h5),decide_eq_false h5,if_neg (by simp)];exact Wk.refl _
theorem F11:OkF 11 Tryz.f11:=⟨by kernel_rfl,by kernel_rfl,by kernel_rfl⟩
def q6l:List (List Nat×List Nat):=[]
noncomputable def qwh(v:Wv)(w:Wv):List Nat->Nat->Option Ans:=qf [([1,0],1,Ans.pure [v.d] (B (smB v))),([1,0],4,Ans.pure [w.d] (B (smB w)))]
theorem q6m(v w:Wv)(t:Tol)(K:D->Prop):qn (En Tryz.f11) (fi Tryz.f11 K) (qwh v w) q6l 200 [.code []] ⟨qc 0 [v.d,w.d,t.d],.empty⟩ =
 (PQ PP 19 [v.d] (B (smB v))/\(smB v=true->PQ PP 19 [w.d] (B (smB w)))/\(((bif bif bif smB v then smB w else false then decide (v.fin<=40) else false then decide (w.fin<=40) else false)=true->List.length t.val<=jt)->K (B (bif bif bif bif smB v then smB w else false then decide (v.fin<=40) else false then decide (w.fin<=40) else false then decide ((↑(List.length t.val):Int)<=40) else false)))):=by kernel_rfl
theorem F16:OkF 16 Tryz.f16:=⟨by kernel_rfl,by kernel_rfl,by kernel_rfl⟩
def qym:List (List Nat×List Nat):=[([1,1,0,1,0],[0,1,5])]
noncomputable def qwi:List Nat->Nat->Option Ans:=qf []
theorem q6n(a:List Iv)(K:D->Prop):qn (En Tryz.f16) (fi Tryz.f16 K) (qwi ) qym 200 [.code []] ⟨qc 0 [L a 2 Iv.d,L a 2 Iv.d],.empty⟩ =
 (a.length<=q8->a.length<=q8->bif(↑a.length:Int)!=(↑a.length:Int) then K (B false) else At (En Tryz.f16) (fi Tryz.f16 K) [It.code [1,1,0,1,0],It.blk 0,It.code [1,1,1]] {sl:=[(0,L a 2 Iv.d),(1,L a 2 Iv.d),(5,I 0)],h:=Heap.empty:St}):=by kernel_rfl
def qyn(a:List Iv)(i:Int):St:=⟨[(0,L a 2 Iv.d),(1,L a 2 Iv.d),(5,I i)],.empty⟩
noncomputable def qqk:List Nat->Nat->Option Ans:=qf []
theorem qwj(a:List Iv)(i:Int)(J:St->Prop)(K:D->Prop):qn (En Tryz.f16) (fi Tryz.f16 K) (qqk ) qym 200 [.code [1,1,0,1,0,0],stp [0,1,5] J,.blk 0,.code [1,1,1]] (qyn a i)=
 (a.length<=q8->bif decide (i<(↑a.length:Int)) then(0<=i/\i<(↑a.length:Int))/\(0<=i/\i<(↑a.length:Int))/\bif !((a.getD i.toNat default).frm==(a.getD i.toNat default).frm&&(a.getD i.toNat default).to==(a.getD i.toNat default).to) then K (B false) else J {sl:=[(0,L a 2 Iv.d),(1,L a 2 Iv.d),(5,I (qg .i64 i 1))],h:=Heap.empty:St} else K (B true)):=by kernel_rfl
theorem F12:OkF 12 Tryz.f12:=⟨by kernel_rfl,by kernel_rfl,by kernel_rfl⟩
def qwk:List (List Nat×List Nat):=[([1,0,1,0],[8,9,10]),([1,0,1,0,0,1,1,0,0,1,1,0],[4,8,9,10,15,16,17])]
noncomputable def q6o:List Nat->Nat->Option Ans:=qf []
theorem nCl(w:Wv)(K:D->Prop):qn (En Tryz.f12) (fi Tryz.f12 K) (q6o ) qwk 200 [.code []] ⟨qc 0 [w.d],.empty⟩ =
 (w.sig.length<=q8->At (En Tryz.f12) (fi Tryz.f12 K) [It.code [1,0,1,0],It.blk 0,It.code [1,1]] {sl:=[(8,L w.sig 3 Sig.d),(9,I (↑w.sig.length:Int)),(10,I 0)],h:=Heap.empty:St}):=by kernel_rfl
def SCl(w:Wv)(i:Int):St:=⟨[(8,L w.sig 3 Sig.d),(9,I w.sig.length),(10,I i)],.empty⟩
noncomputable def qwl:List Nat->Nat->Option Ans:=qf []
theorem q6p(w:Wv)(i:Int)(J:St->Prop)(K:D->Prop):qn (En Tryz.f12) (fi Tryz.f12 K) (qwl ) qwk 200 [.code [1,0,1,0,0],stp [8,9,10] J,.blk 0,.code [1,1]] (SCl w i)=
 (bif decide (i<(↑w.sig.length:Int)) then(0<=i/\i<(↑w.sig.length:Int))/\True/\((w.sig.getD i.toNat default).chg.length<=q8->At (En Tryz.f12) (fi Tryz.f12 K) [It.code [1,0,1,0,0,1,1,0,0,1,1,0],It.blk 2,It.blk 1,It.code [1,0,1,0,0,1,1,1],stp [8,9,10] J,It.blk 0,It.code [1,1]] {sl:=[(4,.own [I (w.sig.getD i.toNat default).kind,I (w.sig.getD i.toNat default).width,L (w.sig.getD i.toNat default).chg 2 Chg.d]),(8,L w.sig 3 Sig.d),(9,I (↑w.sig.length:Int)),(10,I i),(15,L (w.sig.getD i.toNat default).chg 2 Chg.d),(16,I (↑(w.sig.getD i.toNat default).chg.length:Int)),(17,I 0)],h:=Heap.empty:St}) else K (B true)):=by kernel_rfl
def qyo(w:Wv)(i:Int)(q:Sig)(k:Int):St:=⟨[(4,.own [I q.kind,I q.width,L q.chg 2 Chg.d]),(8,L w.sig 3 Sig.d),(9,I w.sig.length),(10,I i),(15,L q.chg 2 Chg.d),(16,I q.chg.length),(17,I k)],.empty⟩
noncomputable def qwm(q:Sig)(k:Int):List Nat->Nat->Option Ans:=qf [([1,0,1,0,0,1,1,0,0,1,1,0,0,1,1,0,0,1,0],6,Ans.pure [.str (q.chg.getD k.toNat default).val] (B (qv (q.chg.getD k.toNat default).val).snd))]
theorem q6q(w:Wv)(i:Int)(q:Sig)(k:Int)(J J2:St->Prop)(K:D->Prop):qn (En Tryz.f12) (fi Tryz.f12 K) (qwm q k) qwk 200 [.code [1,0,1,0,0,1,1,0,0,1,1,0,0],stp [4,8,9,10,15,16,17] J,.blk 2,.blk 1,.code [1,0,1,0,0,1,1,1],stp [8,9,10] J2,.blk 0,.code [1,1]] (qyo w i q k)=
 (bif decide (k<(↑q.chg.length:Int)) then(0<=k/\k<(↑q.chg.length:Int))/\True/\((q.kind==1)=true->PQ PP 28 [.str (q.chg.getD k.toNat default).val] (B (qv (q.chg.getD k.toNat default).val).snd))/\bif bif q.kind==1 then !(qv (q.chg.getD k.toNat default).val).snd else false then K (B false) else J {sl:=[(4,.own [I q.kind,I q.width,L q.chg 2 Chg.d]),(8,L w.sig 3 Sig.d),(9,I (↑w.sig.length:Int)),(10,I i),(15,L q.chg 2 Chg.d),(16,I (↑q.chg.length:Int)),(17,I (qg .i64 k 1))],h:=Heap.empty:St} else J2 {sl:=[(8,L w.sig 3 Sig.d),(9,I (↑w.sig.length:Int)),(10,I (qg .i64 i 1))],h:=Heap.empty:St}):=by kernel_rfl
def ur(v w:Wv)(t:Tol):Bool:=bif bif bif bif smB v then smB w else false then decide (v.fin<=40) else false then decide (w.fin<=40) else false then decide ((t.val.length:Int)<=40) else false
def clB(w:Wv):Bool:=w.sig.all fun q=>q.chg.all fun x=> !(bif q.kind==1 then !(qv x.val).2 else false)
theorem F21:OkF 21 Tryz.f21:=⟨by kernel_rfl,by kernel_rfl,by kernel_rfl⟩
def q6r:List (List Nat×List Nat):=[]
noncomputable def q6s(t:Int):List Nat->Nat->Option Ans:=qf [([1,0],7,Ans.eff (ren (rnm [] 0) (rnm [] 0) (D.bp 0 0)) (qh [] [] Heap.empty (hM {sig:=[{kind:=0,width:=1,chg:=[{time:=0,val:={data:= #[48]:ByteArray}.data.toList:Chg},{time:=t,val:={data:= #[49]:ByteArray}.data.toList:Chg}]:Sig}],gap:=[],fin:=9:Wv} (-1) 0)))]
theorem nRi(t:Int)(K:D->Heap->Prop):qn (En Tryz.f21) (fh Tryz.f21 K) (q6s t) q6r 200 [.code []] ⟨qc 0 [I t],.empty⟩ =
 (Does PP 14 [.agg [.list 1 3 (zf [.agg [I 0,I 1,.list 2 2 (zf [.agg [I 0,.str {data:= #[48]:ByteArray}.data.toList],.agg [I t,.str {data:= #[49]:ByteArray}.data.toList]]) .full]]) .full,.list 0 0 (fun _=>D.junk) .full,I 9]] Heap.empty (ren (rnm [] 0) (rnm [] 0) (D.bp 0 0)) (qh [] [] Heap.empty (hM {sig:=[{kind:=0,width:=1,chg:=[{time:=0,val:={data:= #[48]:ByteArray}.data.toList:Chg},{time:=t,val:={data:= #[49]:ByteArray}.data.toList:Chg}]:Sig}],gap:=[],fin:=9:Wv} (-1) 0))/\K (D.bp 0 0) {box:=upd (fun _=>none) 0 (some (Row.lit [L {sig:=[{kind:=0,width:=1,chg:=[{time:=0,val:={data:= #[48]:ByteArray}.data.toList:Chg},{time:=t,val:={data:= #[49]:ByteArray}.data.toList:Chg}]:Sig}],gap:=[],fin:=9:Wv}.sig 3 Sig.d,L {sig:=[{kind:=0,width:=1,chg:=[{time:=0,val:={data:= #[48]:ByteArray}.data.toList:Chg},{time:=t,val:={data:= #[49]:ByteArray}.data.toList:Chg}]:Sig}],gap:=[],fin:=9:Wv}.gap 2 Iv.d,I {sig:=[{kind:=0,width:=1,chg:=[{time:=0,val:={data:= #[48]:ByteArray}.data.toList:Chg},{time:=t,val:={data:= #[49]:ByteArray}.data.toList:Chg}]:Sig}],gap:=[],fin:=9:Wv}.fin,I (-1),I 0])),nl:=1,hw:=fun _=>none,nt:=0,vw:=fun _=>none:Heap}):=by kernel_rfl
def wA(t:Int):Wv:=⟨[⟨0,1,[⟨0,[48]⟩,⟨t,[49]⟩]⟩],[],9⟩
def sgA(q:Int):List Iv:=if q=1 then[⟨5,6⟩] else[]
theorem F8:OkF 8 Tryz.f8:=⟨by kernel_rfl,by kernel_rfl,by kernel_rfl⟩
def lv8:List (List Nat×List Nat):=[]
noncomputable def qwn:List Nat->Nat->Option Ans:=qf [([1,1,0],1,Ans.eff (D.bp 0 0) (hM (wA 5) (-1) 0)),([1,1,0],4,Ans.eff (ren (rnm [] 1) (rnm [] 0) (D.bp 0 0)) (qh [] [] {box:=upd (fun _=>none) 0 (some (qw (wA 5) (-1) 0)),nl:=1,hw:=fun _=>none,nt:=0,vw:=fun _=>none:Heap} (hM (wA 7) (-1) 0))),([1,1,0],7,Ans.eff (.tup [L (sgA 1) 2 Iv.d,I 0]) (hM2 (wA 5) (-1) 6 (wA 7) (-1) 5)),([1,1,1,0],1,Ans.eff (ren (rnm [] 2) (rnm [] 0) (D.bp 0 0)) (qh [] [] {box:=upd (upd (fun _=>none) 0 (some (qw (wA 5) (-1) 6))) 1 (some (qw (wA 7) (-1) 5)),nl:=2,hw:=fun _=>none,nt:=0,vw:=fun _=>none:Heap} (hM (wA 5) (-1) 0))),([1,1,1,0],4,Ans.eff (ren (rnm [] 3) (rnm [] 0) (D.bp 0 0)) (qh [] [] {box:=upd (upd (upd (fun _=>none) 0 (some (qw (wA 5) (-1) 6))) 1 (some (qw (wA 7) (-1) 5))) 2 (some (qw (wA 5) (-1) 0)),nl:=3,hw:=fun _=>none,nt:=0,vw:=fun _=>none:Heap} (hM (wA 7) (-1) 0))),
 ([1,1,1,0],7,Ans.eff (ren (rnm [2,3] 4) (rnm [] 0) (.tup [L (sgA 2) 2 Iv.d,I 0])) (qh [2,3] [] {box:=upd (upd (upd (upd (fun _=>none) 0 (some (qw (wA 5) (-1) 6))) 1 (some (qw (wA 7) (-1) 5))) 2 (some (qw (wA 5) (-1) 0))) 3 (some (qw (wA 7) (-1) 0)),nl:=4,hw:=fun _=>none,nt:=0,vw:=fun _=>none:Heap} (hM2 (wA 5) (-1) 6 (wA 7) (-1) 5))),([1,1,1,1,0],6,Ans.pure [L (sgA 1) 2 Iv.d,L [{frm:=5,to:=6:Iv}] 2 Iv.d] (B true)),([1,1,1,1,0],18,Ans.pure [qii] (I (-1)))]
theorem q6t(K:D->Prop):qn (En Tryz.f8) (fi Tryz.f8 K) (qwn ) lv8 200 [.code []] ⟨qc 0 [],.empty⟩ =
 (Does PP 21 [I 5] Heap.empty (D.bp 0 0) (hM (wA 5) (-1) 0)/\
 Does PP 21 [I 7] {box:=upd (fun _=>none) 0 (some (qw (wA 5) (-1) 0)),nl:=1,hw:=fun _=>none,nt:=0,vw:=fun _=>none:Heap} (ren (rnm [] 1) (rnm [] 0) (D.bp 0 0)) (qh [] [] {box:=upd (fun _=>none) 0 (some (qw (wA 5) (-1) 0)),nl:=1,hw:=fun _=>none,nt:=0,vw:=fun _=>none:Heap} (hM (wA 7) (-1) 0))/\
  Does PP 13 [D.iface 36 (D.bp 0 0),I 0,D.iface 36 (D.bp 1 0),I 0,.agg [I 1,.str {data:= #[48]:ByteArray}.data.toList,B false]] {box:=upd (upd (fun _=>none) 0 (some (qw (wA 5) (-1) 0))) 1 (some (qw (wA 7) (-1) 0)),nl:=2,hw:=fun _=>none,nt:=0,vw:=fun _=>none:Heap} (.tup [L (sgA 1) 2 Iv.d,I 0]) (hM2 (wA 5) (-1) 6 (wA 7) (-1) 5)/\
   Does PP 21 [I 5] {box:=upd (upd (fun _=>none) 0 (some (qw (wA 5) (-1) 6))) 1 (some (qw (wA 7) (-1) 5)),nl:=2,hw:=fun _=>none,nt:=0,vw:=fun _=>none:Heap} (ren (rnm [] 2) (rnm [] 0) (D.bp 0 0)) (qh [] [] {box:=upd (upd (fun _=>none) 0 (some (qw (wA 5) (-1) 6))) 1 (some (qw (wA 7) (-1) 5)),nl:=2,hw:=fun _=>none,nt:=0,vw:=fun _=>none:Heap} (hM (wA 5) (-1) 0))/\
    Does PP 21 [I 7] {box:=upd (upd (upd (fun _=>none) 0 (some (qw (wA 5) (-1) 6))) 1 (some (qw (wA 7) (-1) 5))) 2 (some (qw (wA 5) (-1) 0)),nl:=3,hw:=fun _=>none,nt:=0,vw:=fun _=>none:Heap} (ren (rnm [] 3) (rnm [] 0) (D.bp 0 0)) (qh [] [] {box:=upd (upd (upd (fun _=>none) 0 (some (qw (wA 5) (-1) 6))) 1 (some (qw (wA 7) (-1) 5))) 2 (some (qw (wA 5) (-1) 0)),nl:=3,hw:=fun _=>none,nt:=0,vw:=fun _=>none:Heap} (hM (wA 7) (-1) 0))/\
     Does PP 13 [D.iface 36 (D.bp 2 0),I 0,D.iface 36 (D.bp 3 0),I 0,.agg [I 2,.str {data:= #[48]:ByteArray}.data.toList,B false]] {box:=upd (upd (upd (upd (fun _=>none) 0 (some (qw (wA 5) (-1) 6))) 1 (some (qw (wA 7) (-1) 5))) 2 (some (qw (wA 5) (-1) 0))) 3 (some (qw (wA 7) (-1) 0)),nl:=4,hw:=fun _=>none,nt:=0,vw:=fun _=>none:Heap} (ren (rnm [2,3] 4) (rnm [] 0) (.tup [L (sgA 2) 2 Iv.d,I 0])) (qh [2,3] [] {box:=upd (upd (upd (upd (fun _=>none) 0 (some (qw (wA 5) (-1) 6))) 1 (some (qw (wA 7) (-1) 5))) 2 (some (qw (wA 5) (-1) 0))) 3 (some (qw (wA 7) (-1) 0)),nl:=4,hw:=fun _=>none,nt:=0,vw:=fun _=>none:Heap} (hM2 (wA 5) (-1) 6 (wA 7) (-1) 5))/\(true=true->PureW PP 16 [L (sgA 1) 2 Iv.d,.list 1 2 (zf [.agg [I 5,I 6]]) .full] [L (sgA 1) 2 Iv.d,L [{frm:=5,to:=6:Iv}] 2 Iv.d] (B true))/\((true=true->0<=q8)->(true=true->PQ PP 22 [qii] (I (-1)))/\K (B true))):=by kernel_rfl
theorem F7:OkF 7 Tryz.f7:=⟨by kernel_rfl,by kernel_rfl,by kernel_rfl⟩
def qwo:List (List Nat×List Nat):=[([1,1,1,1,1,0],[2,3,5,6,7,8,11,15,16,17])]
noncomputable def qwp(v:Wv)(w:Wv)(i:Int)(k:Int)(t:Tol):List Nat->Nat->Option Ans:=qf [([1,0,0],3,Ans.pure [v.d,w.d,t.d] (B (ur v w t))),([1,0,0],7,Ans.pure [v.d] (B (clB v))),([1,0,0],12,Ans.pure [w.d] (B (clB w))),([1,0,1,0,0],0,Ans.pure [] (B true)),([1,1,0],1,Ans.eff (D.bp 0 0) (hM v (-1) 0)),([1,1,0],3,Ans.eff (ren (rnm [] 1) (rnm [] 0) (D.bp 0 0)) (qh [] [] {box:=upd (fun _=>none) 0 (some (qw v (-1) 0)),nl:=1,hw:=fun _=>none,nt:=0,vw:=fun _=>none:Heap} (hM w (-1) 0))),([1,1,1,0],7,Ans.eff (.tup [L (sgR v (-1) 0 w (-1) 0 i k t).out 2 Iv.d,I (sgR v (-1) 0 w (-1) 0 i k t).err]) (hM2 v (-1) (sgR v (-1) 0 w (-1) 0 i k t).c w (-1) (sgR v (-1) 0 w (-1) 0 i k t).d)),([1,1,1,1,0,1,0,0],4,Ans.pure [] (B true))]
theorem q6u(v w:Wv)(i k:Int)(t:Tol)(n:Int)(sec:Bool)(K:D->Prop):qn (En Tryz.f7) (fi Tryz.f7 K) (qwp v w i k t) qwo 200 [.code []] ⟨qc 0 [v.d,w.d,I i,I k,t.d,.int .u8 n,B sec],.empty⟩ =
 (PQ PP 11 [v.d,w.d,t.d] (B (ur v w t))/\
 ((!!ur v w t)=true->PQ PP 12 [v.d] (B (clB v)))/\
  ((!bif !ur v w t then true else !clB v)=true->PQ PP 12 [w.d] (B (clB w)))/\
   bif bif bif !ur v w t then true else !clB v then true else !clB w then PQ PP 8 [] (B true)/\K (B true)
   else
    Does PP 14 [.agg [L v.sig 3 Sig.d,L v.gap 2 Iv.d,I v.fin]] Heap.empty (D.bp 0 0) (hM v (-1) 0)/\
     Does PP 14 [.agg [L w.sig 3 Sig.d,L w.gap 2 Iv.d,I w.fin]] {box:=upd (fun _=>none) 0 (some (qw v (-1) 0)),nl:=1,hw:=fun _=>none,nt:=0,vw:=fun _=>none:Heap} (ren (rnm [] 1) (rnm [] 0) (D.bp 0 0)) (qh [] [] {box:=upd (fun _=>none) 0 (some (qw v (-1) 0)),nl:=1,hw:=fun _=>none,nt:=0,vw:=fun _=>none:Heap} (hM w (-1) 0))/\
      Does PP 13 [D.iface 36 (D.bp 0 0),I i,D.iface 36 (D.bp 1 0),I k,.agg [I t.time,.str t.val,B t.unk]] {box:=upd (upd (fun _=>none) 0 (some (qw v (-1) 0))) 1 (some (qw w (-1) 0)),nl:=2,hw:=fun _=>none,nt:=0,vw:=fun _=>none:Heap} (.tup [L (sgR v (-1) 0 w (-1) 0 i k t).out 2 Iv.d,I (sgR v (-1) 0 w (-1) 0 i k t).err]) (hM2 v (-1) (sgR v (-1) 0 w (-1) 0 i k t).c w (-1) (sgR v (-1) 0 w (-1) 0 i k t).d)/\bif(sgR v (-1) 0 w (-1) 0 i k t).err !=0 then(sgR v (-1) 0 w (-1) 0 i k t).out.length<=q8->(((↑(sgR v (-1) 0 w (-1) 0 i k t).out.length:Int)==0)=true->PQ PP 8 [] (B true))/\K (B (bif(↑(sgR v (-1) 0 w (-1) 0 i k t).out.length:Int)==0 then true else false)) else At (En Tryz.f7) (fi Tryz.f7 K) [It.code [1,1,1,1,1,0],It.code [1,1,1,1,1,1]] {sl:=[(2,I i),(3,I k),(5,D.int IntKind.u8 n),(6,B sec),(7,.own [L v.sig 3 Sig.d,L v.gap 2 Iv.d,I v.fin]),(8,.own [L w.sig 3 Sig.d,L w.gap 2 Iv.d,I w.fin]),(11,.own [I t.time,.str t.val,B t.unk]),(15,D.bp 0 0),(16,D.bp 1 0),(17,L (sgR v (-1) 0 w (-1) 0 i k t).out 2 Iv.d)],h:={box:=upd (upd (fun _=>none) 0 (some (qw v (-1) (sgR v (-1) 0 w (-1) 0 i k t).c))) 1 (some (qw w (-1) (sgR v (-1) 0 w (-1) 0 i k t).d)),nl:=2,hw:=fun _=>none,nt:=0,vw:=fun _=>none:Heap}:St}):=by kernel_rfl
def SLR(v:Wv)(c:Int)(w:Wv)(d i k tm:Int)(tv:Str)(tu:Bool)(n:Int)(sec:Bool)(out:List Iv):St:=⟨[(2,I i),(3,I k),(5,.int .u8 n),(6,B sec),(7,.own [L v.sig 3 Sig.d,L v.gap 2 Iv.d,I v.fin]),(8,.own [L w.sig 3 Sig.d,L w.gap 2 Iv.d,I w.fin]),(11,.own [I tm,.str tv,B tu]),(15,.bp 0 0),(16,.bp 1 0),(17,L out 2 Iv.d)],hM2 v (-1) c w (-1) d⟩
def qwq:List (List Nat×List Nat):=[([1,1,1,1,1,1,1,1,0],[2,3,5,11,17,19,20,21])]
noncomputable def qwr(v:Wv)(w:Wv)(c:Int)(d:Int):List Nat->Nat->Option Ans:=qf [([1,1,1,1,1,0],1,Ans.eff (ren (rnm [] 2) (rnm [] 0) (D.bp 0 0)) (qh [] [] {box:=upd (upd (fun _=>none) 0 (some (qw v (-1) c))) 1 (some (qw w (-1) d)),nl:=2,hw:=fun _=>none,nt:=0,vw:=fun _=>none:Heap} (hM v (-1) 0))),([1,1,1,1,1,0],3,Ans.eff (ren (rnm [] 3) (rnm [] 0) (D.bp 0 0)) (qh [] [] {box:=upd (upd (upd (fun _=>none) 0 (some (qw v (-1) c))) 1 (some (qw w (-1) d))) 2 (some (qw v (-1) 0)),nl:=3,hw:=fun _=>none,nt:=0,vw:=fun _=>none:Heap} (hM w (-1) 0)))]
theorem q6v(v w:Wv)(c d i k tm:Int)(tv:Str)(tu:Bool)(n:Int)(sec:Bool)(out:List Iv)(K:D->Prop):qn (En Tryz.f7) (fi Tryz.f7 K) (qwr v w c d) qwq 200 [.code [1,1,1,1,1,0],.code [1,1,1,1,1,1]] (SLR v c w d i k tm tv tu n sec out)=
 (Does PP 14 [.agg [L v.sig 3 Sig.d,L v.gap 2 Iv.d,I v.fin]] {box:=upd (upd (fun _=>none) 0 (some (qw v (-1) c))) 1 (some (qw w (-1) d)),nl:=2,hw:=fun _=>none,nt:=0,vw:=fun _=>none:Heap} (ren (rnm [] 2) (rnm [] 0) (D.bp 0 0)) (qh [] [] {box:=upd (upd (fun _=>none) 0 (some (qw v (-1) c))) 1 (some (qw w (-1) d)),nl:=2,hw:=fun _=>none,nt:=0,vw:=fun _=>none:Heap} (hM v (-1) 0))/\
 Does PP 14 [.agg [L w.sig 3 Sig.d,L w.gap 2 Iv.d,I w.fin]] {box:=upd (upd (upd (fun _=>none) 0 (some (qw v (-1) c))) 1 (some (qw w (-1) d))) 2 (some (qw v (-1) 0)),nl:=3,hw:=fun _=>none,nt:=0,vw:=fun _=>none:Heap} (ren (rnm [] 3) (rnm [] 0) (D.bp 0 0)) (qh [] [] {box:=upd (upd (upd (fun _=>none) 0 (some (qw v (-1) c))) 1 (some (qw w (-1) d))) 2 (some (qw v (-1) 0)),nl:=3,hw:=fun _=>none,nt:=0,vw:=fun _=>none:Heap} (hM w (-1) 0))/\
  bif sec then(32:Int)≠0/\True/\At (En Tryz.f7) (fi Tryz.f7 K) [It.code [1,1,1,1,1,1,1,1,0],It.code [1,1,1,1,1,1,1,1,1]] {sl:=[(2,I i),(3,I k),(5,D.int IntKind.u8 n),(11,.own [I tm,.str tv,B tu]),(17,L out 2 Iv.d),(19,D.bp 2 0),(20,D.bp 3 0),(21,I d)],h:={box:=upd (upd (upd (upd (upd (fun _=>none) 0 (some (qw v (-1) c))) 1 (some (qw w (-1) d))) 2 (some (qw v (-1) 0))) 3 (some (qw w (-1) 0))) 3 (some (Row.lit [L w.sig 3 Sig.d,L w.gap 2 Iv.d,I w.fin,I (IntKind.i64.wrap (n.tmod 32)),I 0])),nl:=4,hw:=fun _=>none,nt:=0,vw:=fun _=>none:Heap}:St}
  else(32:Int)≠0/\True/\At (En Tryz.f7) (fi Tryz.f7 K) [It.code [1,1,1,1,1,1,1,1,0],It.code [1,1,1,1,1,1,1,1,1]] {sl:=[(2,I i),(3,I k),(5,D.int IntKind.u8 n),(11,.own [I tm,.str tv,B tu]),(17,L out 2 Iv.d),(19,D.bp 2 0),(20,D.bp 3 0),(21,I c)],h:={box:=upd (upd (upd (upd (upd (fun _=>none) 0 (some (qw v (-1) c))) 1 (some (qw w (-1) d))) 2 (some (qw v (-1) 0))) 3 (some (qw w (-1) 0))) 2 (some (Row.lit [L v.sig 3 Sig.d,L v.gap 2 Iv.d,I v.fin,I (IntKind.i64.wrap (n.tmod 32)),I 0])),nl:=4,hw:=fun _=>none,nt:=0,vw:=fun _=>none:Heap}:St}):=by kernel_rfl
def hM4(v:Wv)(l:Int)(w:Wv)(m:Int):Heap:=⟨upd (upd (fun _=>none) 2 (some (.lit [L v.sig 3 Sig.d,L v.gap 2 Iv.d,I v.fin,I l,I 0]))) 3 (some (.lit [L w.sig 3 Sig.d,L w.gap 2 Iv.d,I w.fin,I m,I 0])),4,fun _=>none,0,fun _=>none⟩
def qq5(v:Wv)(l:Int)(w:Wv)(m i k tm:Int)(tv:Str)(tu:Bool)(n:Int)(out:List Iv)(q:Int):St:=⟨[(2,I i),(3,I k),(5,.int .u8 n),(11,.own [I tm,.str tv,B tu]),(17,L out 2 Iv.d),(19,.bp 2 0),(20,.bp 3 0),(21,I q)],hM4 v l w m⟩
noncomputable def qws(v:Wv)(w:Wv)(l:Int)(m:Int)(i:Int)(k:Int)(tm:Int)(tv:Str)(tu:Bool)(out:List Iv):List Nat->Nat->Option Ans:=qf [([1,1,1,1,1,1,1,1,0],7,Ans.eff (ren (rnm [2,3] 4) (rnm [] 0) (.tup [L (sgR v l 0 w m 0 i k {time:=tm,val:=tv,unk:=tu:Tol}).out 2 Iv.d,I (sgR v l 0 w m 0 i k {time:=tm,val:=tv,unk:=tu:Tol}).err])) (qh [2,3] [] {box:=upd (upd (fun _=>none) 2 (some (qw v l 0))) 3 (some (qw w m 0)),nl:=4,hw:=fun _=>none,nt:=0,vw:=fun _=>none:Heap} (hM2 v l (sgR v l 0 w m 0 i k {time:=tm,val:=tv,unk:=tu:Tol}).c w m (sgR v l 0 w m 0 i k {time:=tm,val:=tv,unk:=tu:Tol}).d))),([1,1,1,1,1,1,1,1,1,0,1,0,0],5,Ans.pure [L out 2 Iv.d,L (sgR v l 0 w m 0 i k {time:=tm,val:=tv,unk:=tu:Tol}).out 2 Iv.d] (B true)),([1,1,1,1,1,1,1,1,1,0,1,0,0],8,Ans.pure [] (B true)),([1,1,1,1,1,1,1,1,1,1,0],8,Ans.pure [] (B true))]
theorem q6w(v w:Wv)(l m i k tm:Int)(tv:Str)(tu:Bool)(n:Int)(out:List Iv)(q:Int)(K:D->Prop):qn (En Tryz.f7) (fi Tryz.f7 K) (qws v w l m i k tm tv tu out) p8 200 [.code [1,1,1,1,1,1,1,1,0],.code [1,1,1,1,1,1,1,1,1]] (qq5 v l w m i k tm tv tu n out q)=
 (Does PP 13 [D.iface 36 (D.bp 2 0),I i,D.iface 36 (D.bp 3 0),I k,.agg [I tm,.str tv,B tu]] {box:=upd (upd (fun _=>none) 2 (some (qw v l 0))) 3 (some (qw w m 0)),nl:=4,hw:=fun _=>none,nt:=0,vw:=fun _=>none:Heap} (ren (rnm [2,3] 4) (rnm [] 0) (.tup [L (sgR v l 0 w m 0 i k {time:=tm,val:=tv,unk:=tu:Tol}).out 2 Iv.d,I (sgR v l 0 w m 0 i k {time:=tm,val:=tv,unk:=tu:Tol}).err])) (qh [2,3] [] {box:=upd (upd (fun _=>none) 2 (some (qw v l 0))) 3 (some (qw w m 0)),nl:=4,hw:=fun _=>none,nt:=0,vw:=fun _=>none:Heap} (hM2 v l (sgR v l 0 w m 0 i k {time:=tm,val:=tv,unk:=tu:Tol}).c w m (sgR v l 0 w m 0 i k {time:=tm,val:=tv,unk:=tu:Tol}).d))/\
 (32:Int)≠0/\bif decide (IntKind.i64.wrap (n.tmod 32)>=q) then(((sgR v l 0 w m 0 i k {time:=tm,val:=tv,unk:=tu:Tol}).err==0)=true->PQ PP 16 [L out 2 Iv.d,L (sgR v l 0 w m 0 i k {time:=tm,val:=tv,unk:=tu:Tol}).out 2 Iv.d] (B true))/\((bif(sgR v l 0 w m 0 i k {time:=tm,val:=tv,unk:=tu:Tol}).err==0 then true else false)=true->PQ PP 8 [] (B true))/\K (B (bif bif(sgR v l 0 w m 0 i k {time:=tm,val:=tv,unk:=tu:Tol}).err==0 then true else false then true else false)) else(((sgR v l 0 w m 0 i k {time:=tm,val:=tv,unk:=tu:Tol}).err==14)=true->(sgR v l 0 w m 0 i k {time:=tm,val:=tv,unk:=tu:Tol}).out.length<=q8)->((bif(sgR v l 0 w m 0 i k {time:=tm,val:=tv,unk:=tu:Tol}).err==14 then(↑(sgR v l 0 w m 0 i k {time:=tm,val:=tv,unk:=tu:Tol}).out.length:Int)==0 else false)=true->PQ PP 8 [] (B true))/\K (B (bif bif(sgR v l 0 w m 0 i k {time:=tm,val:=tv,unk:=tu:Tol}).err==14 then(↑(sgR v l 0 w m 0 i k {time:=tm,val:=tv,unk:=tu:Tol}).out.length:Int)==0 else false then true else false))):=by kernel_rfl
theorem c11(v w:Wv)(t:Tol):Pure PP 11 [v.d,w.d,t.d] (B (ur v w t)) :=
 pu F11 (by kernel_rfl) (of_eq (q6m v w t _) ⟨PureW.mk (c19 v),fun _=>PureW.mk (c19 w),fun _=>Wk.refl _⟩)
theorem c16(a:List Iv):Pure PP 16 [L a 2 Iv.d,L a 2 Iv.d] (B true):=by
 refine pu F16 (by kernel_rfl) (of_eq (q6n a _) fun hl _=>qa (fun h=>by simp at h) fun h=> ?_)
 refine lp (fn:=Tryz.f16) (fun i:Nat=>i<=a.length) (fun i=>qyn a i) (fun i=>a.length-i) [0,1,5] (by kernel_rfl) (fun i hi=>of_eq (qwj a i _ _) fun hl=>qa (fun hlt=> ?_) fun hge=> ?_) 0 (Nat.zero_le _)
 ·have hlt:=ltI hlt
  rw[bi hlt hl]
  refine⟨⟨by omega,by omega⟩,⟨by omega,by omega⟩,qa (fun h=>by simp at h) fun h=>Nx.mk (i+1) (by omega) (by omega)⟩
 ·exact Wk.refl _
theorem qdo{w:Wv}(h:smB w=true):∀q∈w.sig,(0<=q.kind/\q.kind<=3)/\∀x∈q.chg,x.val.length<=64:=fun q hq=>by
 unfold smB at h
 rw[Bool.and_eq_true,Bool.and_eq_true]at h
 have h1:=List.all_eq_true.1 h.2.1 q hq
 unfold si at h1
 rw[Bool.and_eq_true,Bool.not_eq_true']at h1
 obtain⟨w1,w2,w3,w4⟩:=pk h1.1
 refine⟨⟨w3,w4⟩,?_⟩
 have key:∀(l:List Chg) (p:Option Chg) (b:Str),oi w q p b l=true->∀x∈l,x.val.length<=64:=fun l=>by
  induction l with
  |nil=>intro p b _ x hx;cases hx
  |cons y r ih =>
   intro p b hc x hx
   rw[oi,Bool.and_eq_true,Bool.not_eq_true']at hc
   rcases List.mem_cons.1 hx with rfl|hx
   ·have hv:qjh q x.val=true:=by
     cases hv:qjh q x.val with
     |true=>rfl
     |false =>
      have h2:=hc.1
      unfold qbl at h2
      rw[hv]at h2
      simp only[Bool.cond_eq_ite]at h2
      simp at h2
    unfold qjh at hv
    by_cases k3:q.kind=3
    ·rw[show(q.kind==3)=true from beq_iff_eq.2 k3,cond_true]at hv
     rw[beq_iff_eq.1 hv];exact Nat.zero_le _
    ·rw[show(q.kind==3)=false from beq_eq_false_iff_ne.2 k3,cond_false]at hv
     by_cases k0:q.kind=0
     ·rw[show(q.kind==0)=true from beq_iff_eq.2 k0,cond_true,Bool.and_eq_true]at hv
      have:=beq_iff_eq.1 hv.2
      omega
     ·rw[show(q.kind==0)=false from beq_eq_false_iff_ne.2 k0,cond_false]at hv
      have:=of_decide_eq_true hv
      omega
   ·exact ih _ _ hc.2 x hx
 exact key _ _ _ h1.2
theorem c12(w:Wv)(h:smB w=true):Pure PP 12 [w.d] (B (clB w)):=by
 have hv:=qdo h
 have ho:=kn h
 refine pu F12 (by kernel_rfl) (of_eq (nCl w _) fun hl=> ?_)
 refine lp (fn:=Tryz.f12) (fun i:Nat=>i<=w.sig.length/\clB w=(w.sig.drop i).all fun q=>q.chg.all fun x=> !(bif q.kind==1 then !(qv x.val).2 else false)) (fun i=>SCl w i) (fun i=>w.sig.length-i) [8,9,10] (by kernel_rfl) (fun i hi=>of_eq (q6p w i _ _) (qa (fun hlt=> ?_) fun hge=> ?_)) 0 ⟨Nat.zero_le _,rfl⟩
 ·have hlt:=ltI hlt
  obtain⟨_,he⟩:=hi
  rw[rm hlt]at he
  rw[Int.toNat_natCast]
  have hm:w.sig.getD i default∈w.sig:=by
   rw[List.getD_eq_getElem?_getD,List.getElem?_eq_getElem hlt];exact List.getElem_mem hlt
  have hx:=(hv _ hm).2
  generalize w.sig.getD i default=q at *
  refine⟨⟨by omega,by omega⟩,trivial,fun hql=> ?_⟩
  refine lp (fn:=Tryz.f12) (fun k:Nat=>k<=q.chg.length/\(q.chg.all fun x=> !(bif q.kind==1 then !(qv x.val).2 else false))=(q.chg.drop k).all fun x=> !(bif q.kind==1 then !(qv x.val).2 else false)) (fun k=>qyo w i q k) (fun k=>q.chg.length-k) [4,8,9,10,15,16,17] (by kernel_rfl) (fun k hk=>of_eq (q6q w i q k _ _ _) (qa (fun hlt2=> ?_) fun hge2=> ?_)) 0 ⟨Nat.zero_le _,rfl⟩
  ·have hlt2:=ltI hlt2
   obtain⟨_,hc⟩:=hk
   rw[rm hlt2]at hc
   rw[Int.toNat_natCast,bi hlt2 hql]
   have hm2:q.chg.getD k default∈q.chg:=by
    rw[List.getD_eq_getElem?_getD,List.getElem?_eq_getElem hlt2];exact List.getElem_mem hlt2
   have hxl:=hx _ hm2
   refine⟨⟨by omega,by omega⟩,trivial,fun _=>PureW.mk (c28 _ (by omega)),qa (fun h1=> ?_) fun h1=> ?_⟩
   ·rw[h1]at hc
    rw[he,hc];exact Wk.refl _
   ·rw[h1]at hc
    exact Nx.mk (k+1) ⟨hlt2,hc⟩ (by omega)
  ·obtain⟨_,hc⟩:=hk
   rw[List.drop_of_length_le (geI hge2)]at hc
   rw[hc]at he
   rw[bi hlt hl]
   exact Nx.mk (i+1) ⟨hlt,he⟩ (by omega)
 ·rw[hi.2,List.drop_of_length_le (geI hge)];exact Wk.refl _
theorem Does.args{f:Nat}{args args':List D}{h h':Heap}{v:D}(c:Does PP f args' h v h')(hw:Wks args args'):Does PP f args h v h':=fun K hk=>⟨(c K hk).ok,fun g U w vs i hs=>(c K hk).calls g U w vs i (hw g vs hs)⟩
theorem e21(t:Int):Does PP 21 [I t] .empty (.bp 0 0) (hM (wA t) (-1) 0):=by
 refine du F21 (by kernel_rfl) (of_eq (nRi t _) ⟨Does.args (args':=[(wA t).d]) (fr (e14 (wA t)) [] []) ?_,RetLe.refl _ _⟩)
 refine Wks.cons (Wk.agg (Wks.cons (Wk.litW (l:=(wA t).sig) (enc:=Sig.d) rfl fun i hi=> ?_) (Wks.cons (Wk.nilL (α:=Iv) (sz':=2) (enc:=Iv.d)) (Wks.refl _)))) (Wks.refl _)
 rcases i with _|i
 ·exact⟨Wk.agg (Wks.cons (Wk.refl _) (Wks.cons (Wk.refl _) (Wks.cons (Wk.litL rfl rfl) (Wks.refl _)))),fun _=>rfl⟩
 ·exact absurd hi (by simp[wA])
theorem eSg{v w:Wv}(hv:SmOk v)(hw:SmOk w)(h40:v.fin<=40)(l m i k:Int)(t:Tol):Does PP 13 [xy,I i,qe0,I k,t.d] (hM2 v l 0 w m 0) (.tup [L (sgR v l 0 w m 0 i k t).out 2 Iv.d,I (sgR v l 0 w m 0 i k t).err]) (hM2 v l (sgR v l 0 w m 0 i k t).c w m (sgR v l 0 w m 0 i k t).d) :=
 e13 hv.of hw.of l 0 m 0 i k t (qqc hv hw h40 l m i k)
theorem qq6:smB (wA 5)=true:=by decide +kernel
theorem qq7:smB (wA 7)=true:=by decide +kernel
theorem q6x:sgR (wA 5) (-1) 0 (wA 7) (-1) 0 0 0 ⟨1,[48],false⟩=⟨[⟨5,6⟩],0,6,5⟩:=by
 have h:=(qb2 (kn qq6) (kn qq7) (i:=0) (k:=0) (t:=⟨1,[48],false⟩) (by decide) (by decide +kernel) (-1) (-1)).1 ⟨.inl (by decide),.inl (by decide)⟩
 rw[h]
 have h1:gl (wA 5) (wA 7) 0 0 ⟨1,[48],false⟩=[⟨5,6⟩]:=by decide +kernel
 have h2:nA (wA 5) (wA 7) 0=6:=by decide +kernel
 have h3:nB (wA 5) (wA 7) 0=5:=by decide +kernel
 rw[h1,h2,h3]
theorem q6y:sgR (wA 5) (-1) 0 (wA 7) (-1) 0 0 0 ⟨2,[48],false⟩=⟨[],0,6,5⟩:=by
 have h:=(qb2 (kn qq6) (kn qq7) (i:=0) (k:=0) (t:=⟨2,[48],false⟩) (by decide) (by decide +kernel) (-1) (-1)).1 ⟨.inl (by decide),.inl (by decide)⟩
 rw[h]
 have h1:gl (wA 5) (wA 7) 0 0 ⟨2,[48],false⟩=[]:=by decide +kernel
 have h2:nA (wA 5) (wA 7) 0=6:=by decide +kernel
 have h3:nB (wA 5) (wA 7) 0=5:=by decide +kernel
 rw[h1,h2,h3]
theorem c8:Pure PP 8 [] (B true):=by
 have h1:=eSg (kn qq6) (kn qq7) (by decide) (-1) (-1) 0 0 ⟨1,[48],false⟩
 have h2:=eSg (kn qq6) (kn qq7) (by decide) (-1) (-1) 0 0 ⟨2,[48],false⟩
 rw[q6x]at h1
 rw[q6y]at h2
 refine pu F8 (by kernel_rfl) (of_eq (q6t _) ⟨e21 5,fr (e21 7) [] [],h1,fr (e21 5) [] [],fr (e21 7) [] [],fr h2 [2,3] [],fun _=>⟨Wks.cons (Wk.refl _) (Wks.cons (Wk.litW rfl fun i hi=> ?_) (Wks.refl _)),c16 _⟩,fun _=>⟨fun _=>PureW.mk q4u,Wk.refl _⟩⟩)
 rcases i with _|i
 ·exact⟨Wk.refl _,fun _=>rfl⟩
 ·exact absurd hi (by simp)
theorem g7{v w:Wv}{t:Tol}(h:ur v w t=true):smB v=true/\smB w=true/\v.fin<=40/\w.fin<=40:=by
 unfold ur at h
 cases h1:smB v with
 |false=>rw[h1]at h;cases h
 |true =>
  cases h2:smB w with
  |false=>rw[h1,h2]at h;cases h
  |true =>
   by_cases h3:v.fin<=40
   ·by_cases h4:w.fin<=40
    ·exact⟨rfl,rfl,h3,h4⟩
    ·rw[h1,h2,decide_eq_true h3,decide_eq_false h4]at h;cases h
   ·rw[h1,h2,decide_eq_false h3]at h;cases h
theorem qql{bx:Nat->Option Row}{v w:Wv}{l m:Int}(h2:bx 2=some (qw v l 0))(h3:bx 3=some (qw w m 0)):HeapLe ⟨bx,4,fun _=>none,0,fun _=>none⟩ (hM4 v l w m):=by
 refine⟨fun k row' e=> ?_,Nat.le_refl _,fun _ _ h=>h,Nat.le_refl _,fun _ _ _=>VwLe.refl _ _,fun _ h=>h⟩
 rcases k with _|_|_|_|k
 ·cases e
 ·cases e
 ·cases e
  exact⟨_,h2,RowLe.refl _⟩
 ·cases e
  exact⟨_,h3,RowLe.refl _⟩
 ·cases e
theorem qqm{v w:Wv}(hv:SmOk v)(hw:SmOk w)(h40:v.fin<=40){i k:Int}{t:Tol}(h:erF v w i k t=0){l m n q:Int}(hn:0<=n)
  (hq:n.tmod 32>=q↔lOk l (nA v w i)/\lOk m (nB v w k)) :
  At (En Tryz.f7) (fi Tryz.f7 fun d=>Wk d (B true)) [.code [1,1,1,1,1,1,1,1,0],.code [1,1,1,1,1,1,1,1,1]] (qq5 v l w m i k t.time t.val t.unk n (gl v w i k t) q):=by
 have hkm:IntKind.wrap .i64 (n.tmod 32)=n.tmod 32:=IntWalk.i64_in _ ⟨by have:=Int.tmod_lt_of_pos n (show(0:Int)<32 by omega);have:=Int.tmod_nonneg 32 hn;omega,by have:=Int.tmod_lt_of_pos n (show(0:Int)<32 by omega);omega⟩
 refine qe jv _ _ _ (of_eq (q6w v w l m i k t.time t.val t.unk n _ q _) ⟨fr (eSg hv hw h40 l m i k t) [2,3] [],by decide,?_⟩)
 rw[hkm]
 obtain⟨y,x⟩:=qb2 hv hw h40 h l m
 refine qa (fun hc=> ?_) fun hc=> ?_
 ·rw[y (hq.1 (of_decide_eq_true hc))]
  exact⟨fun _=>PureW.mk (c16 _),fun _=>PureW.mk c8,Wk.refl _⟩
 ·obtain⟨x1,x2⟩:=x (fun g=>of_decide_eq_false hc (hq.2 g))
  rw[x1,x2]
  exact fun _=>⟨fun _=>PureW.mk c8,Wk.refl _⟩
theorem c7(v w:Wv)(i k:Int)(t:Tol)(n:Int)(hn:0<=n)(sec:Bool):Pure PP 7 [v.d,w.d,I i,I k,t.d,.int .u8 n,B sec] (B true):=by
 have hf:(!!ur v w t)=true->ur v w t=true:=fun h=>by simpa using h
 refine pu F7 (by kernel_rfl) (of_eq (q6u v w i k t n sec _) ⟨PureW.mk (c11 v w t),fun h=>PureW.mk (c12 v (g7 (hf h)).1),fun h=> ?_,qa (fun _=>⟨PureW.mk c8,Wk.refl _⟩) fun h=> ?_⟩)
 ·cases hb:ur v w t with
  |false=>rw[hb]at h;cases h
  |true=>exact PureW.mk (c12 w (g7 hb).2.1)
 have hb:ur v w t=true:=by
  cases hb:ur v w t with
  |false=>rw[hb]at h;cases h
  |true=>rfl
 obtain⟨s1,s2,h40,_⟩:=g7 hb
 have hv:=kn s1
 have hw:=kn s2
 refine⟨e14 v,fr (e14 w) [] [],eSg hv hw h40 (-1) (-1) i k t,?_⟩
 by_cases hz:erF v w i k t=0
 ·rw[(qb2 hv hw h40 hz (-1) (-1)).1 ⟨.inl (by decide),.inl (by decide)⟩]
  refine qa (fun h=>(by cases h)) fun _=> ?_
  have hA:2<=nA v w i:=by have:=qe2 (w:=v) i (ka v w);unfold nA;split <;> omega
  have hB:2<=nB v w k:=by have:=qe2 (w:=w) k (ka v w);unfold nB;split <;> omega
  have hl0:0<=n.tmod 32:=Int.tmod_nonneg 32 hn
  have hkm:IntKind.wrap .i64 (n.tmod 32)=n.tmod 32:=IntWalk.i64_in _ ⟨by have:=Int.tmod_lt_of_pos n (show(0:Int)<32 by omega);omega,by have:=Int.tmod_lt_of_pos n (show(0:Int)<32 by omega);omega⟩
  refine jc (st':=SLR v (nA v w i) w (nB v w k) i k t.time t.val t.unk n sec (gl v w i k t)) ?_ ((StLe.refl _ _).cast (by kernel_rfl))
  refine qe jv _ _ _ (of_eq (q6v v w _ _ i k t.time t.val t.unk n sec _ _) ⟨fr (e14 v) [] [],fr (e14 w) [] [],qa (fun hs=>⟨by decide,trivial,?_⟩) fun hs=>⟨by decide,trivial,?_⟩⟩)
  ·rw[hkm]
   refine jc (st':=qq5 v (-1) w (n.tmod 32) i k t.time t.val t.unk n (gl v w i k t) (nB v w k)) (qqm hv hw h40 hz hn ?_) (StLe.heapLe (qql rfl rfl))
   unfold lOk;omega
  ·rw[hkm]
   refine jc (st':=qq5 v (n.tmod 32) w (-1) i k t.time t.val t.unk n (gl v w i k t) (nA v w i)) (qqm hv hw h40 hz hn ?_) (StLe.heapLe (qql rfl rfl))
   unfold lOk;omega
 ·obtain⟨x1,x2⟩:=qis hz
  rw[x1,x2]
  refine qa (fun _ _=>⟨fun _=>PureW.mk c8,Wk.refl _⟩) fun h=> ?_
  exact absurd (by simpa using h) hz
end Go.Proofs.YtiekphbkomddfaaGreatDoor.S1
namespace Go.Proofs.YtiekphbkomddfaaGreatDoor.S1
open Go Go.Ab Go.Proofs
open Go.ChangeShapes Go.WideShapes Go.ChangeAt Go.RowKit Go.Joins
theorem cB:Tryz.prog.cellsOf 4=1:=by kernel_rfl
theorem q6z:Tryz.prog.cellsOf 23=3:=by kernel_rfl
theorem rB:Reads Tryz.prog 4 (fun n:Bool=>B n) any:=(Reads.bool Tryz.underlying4 cB).map (fun n=>n) (fun _=>rfl) (fun n=>⟨n,rfl⟩) fun _ _=>trivial
theorem q60:Reads Tryz.prog 23 Tol.d any:=by
 refine(Reads.struct (ok:=any) Tryz.underlying23 ?_).map (fun x:Int×Str×Bool×Unit=>(⟨x.1,x.2.1,x.2.2.1⟩:Tol)) (fun _=>rfl) (fun b=>⟨(b.time,b.val,b.unk,()),rfl⟩) fun _ _=>trivial
 rw[q6z]
 exact rc rI (rc qx0 (rc rB rn rfl rfl (by rw[cB])) rfl rfl (by rw[qsj])) rfl rfl (by rw[cI])
end Go.Proofs.YtiekphbkomddfaaGreatDoor.S1
namespace Go.Proofs.YtiekphbkomddfaaGreatDoor.S1
open Go Go.Ab Go.Proofs
attribute [local instance] qda
theorem F75:OkF 75 Tryz.f75:=⟨by kernel_rfl,by kernel_rfl,by kernel_rfl⟩
def q61:List (List Nat×List Nat):=[]
noncomputable def q62:List Nat->Nat->Option Ans:=qf []
theorem nYp(x y:Pa)(K:D->Prop):qn (En Tryz.f75) (fi Tryz.f75 K) (q62 ) q61 200 [.code []] ⟨qc 0 [x.d,y.d],.empty⟩ =
 (List.length x.dig<=jt->List.length y.dig<=jt->K (I (if qj .i64 (qj .i64 (↑(List.length y.dig):Int) 1) y.e > if qj .i64 (qj .i64 (↑(List.length x.dig):Int) 1) x.e > 0 then qj .i64 (qj .i64 (↑(List.length x.dig):Int) 1) x.e else 0 then qj .i64 (qj .i64 (↑(List.length y.dig):Int) 1) y.e else if qj .i64 (qj .i64 (↑(List.length x.dig):Int) 1) x.e > 0 then qj .i64 (qj .i64 (↑(List.length x.dig):Int) 1) x.e else 0))):=by kernel_rfl
theorem F76:OkF 76 Tryz.f76:=⟨by kernel_rfl,by kernel_rfl,by kernel_rfl⟩
def qyp:List (List Nat×List Nat):=[([1,1,0,1,0],[1,5,6])]
noncomputable def q63:List Nat->Nat->Option Ans:=qf []
theorem nYf(x:Pa)(n:Int)(K:D->Prop):qn (En Tryz.f76) (fi Tryz.f76 K) (q63 ) qyp 200 [.code []] ⟨qc 0 [x.d,I n],.empty⟩ =
 (List.length x.dig<=jt->At (En Tryz.f76) (fi Tryz.f76 K) [It.code [1,1,0,1,0],It.blk 0,It.code [1,1,1]] {sl:=[(1,I n),(5,.str x.dig),(6,I (qj .i64 (qj .i64 (↑(List.length x.dig):Int) 1) x.e))],h:=Heap.empty:St}):=by kernel_rfl
def SYf(n:Int)(z:Str)(k:Int):St:=⟨[(1,I n),(5,.str z),(6,I k)],.empty⟩
noncomputable def qwt:List Nat->Nat->Option Ans:=qf []
theorem q64(n:Int)(z:Str)(k:Int)(J:St->Prop)(K:D->Prop):qn (En Tryz.f76) (fi Tryz.f76 K) (qwt ) qyp 200 [.code [1,1,0,1,0,0],stp [1,5,6] J,.blk 0,.code [1,1,1]] (SYf n z k)=
 (bif decide (k<n) then List.length z+1<=jt/\J {sl:=[(1,I n),(5,.str (z++{data:= #[48]:ByteArray}.data.toList)),(6,I (qg .i64 k 1))],h:=Heap.empty:St} else K (.str z)):=by kernel_rfl
theorem q65:OkF 128 Tryz.f128:=⟨by kernel_rfl,by kernel_rfl,by kernel_rfl⟩
def qqn:List (List Nat×List Nat):=[([1,1,0,1,0],[0,3,4])]
noncomputable def q66:List Nat->Nat->Option Ans:=qf []
theorem nYz(n:Int)(K:D->Heap->Prop):qn (EnV [] [6] Tryz.f128) (fh Tryz.f128 K) (q66 ) qqn 200 [.code []] ⟨qc 0 [I n],.empty⟩ =
 ((0<=n/\n<=n/\n*((↑0:Int)+1)<=(↑q7:Int))/\At (EnV [] [6] Tryz.f128) (fh Tryz.f128 K) [It.code [1,1,0,1,0],It.blk 0,It.code [1,1,1]] {sl:=[(0,I n),(3,D.vec 0 n.toNat 1),(4,I 0)],h:={box:=fun _=>none,nl:=0,hw:=upd (fun _=>none) 0 (some n.toNat),nt:=1,vw:=upd (fun _=>none) 0 (some fun x=>ofVal (Value.int IntKind.u8 0)):Heap}:St}):=by kernel_rfl
def SYz(n:Int)(es:Str)(k:Int):St:=⟨[(0,I n),(3,.vec 0 es.length 1),(4,I k)],zn es qk⟩
noncomputable def qwu:List Nat->Nat->Option Ans:=qf []
theorem q67(n:Int)(es:Str)(k:Int)(J:St->Prop)(K:D->Heap->Prop):qn (EnV [] [6] Tryz.f128) (fh Tryz.f128 K) (qwu ) qqn 200 [.code [1,1,0,1,0,0],stp [0,3,4] J,.blk 0,.code [1,1,1]] (SYz n es k)=
 (bif decide (k<n) then(upd (fun _=>none) 0 (some (List.length es)) 0=some (List.length es)/\0<=k/\k<(↑(List.length es):Int))/\upd (fun _=>none) 0 (some (List.length es)) 0=some (List.length es)/\J {sl:=[(0,I n),(3,D.vec 0 (List.length es) 1),(4,I (qg .i64 k 1))],h:={box:=fun _=>none,nl:=0,hw:=upd (fun _=>none) 0 (some (List.length es)),nt:=1,vw:=upd (upd (fun _=>none) 0 (some (cv es qk))) 0 (some (ny (cv es qk) k.toNat (D.int IntKind.u8 48))):Heap}:St} else K (D.vec 0 (List.length es) 1) {box:=fun _=>none,nl:=0,hw:=upd (fun _=>none) 0 (some (List.length es)),nt:=1,vw:=upd (fun _=>none) 0 (some (cv es qk)):Heap}):=by kernel_rfl
theorem F77:OkF 77 Tryz.f77:=⟨by kernel_rfl,by kernel_rfl,by kernel_rfl⟩
def q68:List (List Nat×List Nat):=[]
noncomputable def q69(z:Str)(n:Int):List Nat->Nat->Option Ans:=qf [([1,1,0],4,Ans.pure [I (qj .i64 n (↑(List.length z):Int))] (L (zs (qj .i64 n (↑(List.length z):Int)).toNat) 1 qk))]
theorem nYd(z:Str)(n:Int)(K:D->Prop):qn (En Tryz.f77) (fi Tryz.f77 K) (q69 z n) q68 200 [.code []] ⟨qc 0 [.str z,I n],.empty⟩ =
 (List.length z<=jt->bif decide ((↑(List.length z):Int)>=n) then K (.str z) else List.length z<=jt->PQ PP 128 [I (qj .i64 n (↑(List.length z):Int))] (L (zs (qj .i64 n (↑(List.length z):Int)).toNat) 1 qk)/\(xi (List.length (zs (qj .i64 n (↑(List.length z):Int)).toNat)) fun i=>qk (List.getD (zs (qj .i64 n (↑(List.length z):Int)).toNat) i default))/\(qp (List.length (zs (qj .i64 n (↑(List.length z):Int)).toNat)) fun i=>qk (List.getD (zs (qj .i64 n (↑(List.length z):Int)).toNat) i default)).length+List.length z<=jt/\K (.str ((qp (List.length (zs (qj .i64 n (↑(List.length z):Int)).toNat)) fun i=>qk (List.getD (zs (qj .i64 n (↑(List.length z):Int)).toNat) i default))++z))):=by kernel_rfl
theorem F78:OkF 78 Tryz.f78:=⟨by kernel_rfl,by kernel_rfl,by kernel_rfl⟩
def qyq:List (List Nat×List Nat):=[([1,1,1,0,1,0],[0,1,5,6,7])]
noncomputable def q7a:List Nat->Nat->Option Ans:=qf []
theorem nYa(x y:Str)(K:D->Heap->Prop):qn (EnV [] [12] Tryz.f78) (fh Tryz.f78 K) (q7a ) qyq 200 [.code []] ⟨qc 0 [.str x,.str y],.empty⟩ =
 (List.length x<=jt->(0<=qg .i64 (↑(List.length x):Int) 1/\qg .i64 (↑(List.length x):Int) 1<=qg .i64 (↑(List.length x):Int) 1/\qg .i64 (↑(List.length x):Int) 1*((↑0:Int)+1)<=(↑q7:Int))/\(List.length x<=jt->At (EnV [] [12] Tryz.f78) (fh Tryz.f78 K) [It.code [1,1,1,0,1,0],It.blk 0,It.code [1,1,1,1]] {sl:=[(0,.str x),(1,.str y),(5,D.vec 0 (qg .i64 (↑(List.length x):Int) 1).toNat 1),(6,I 0),(7,I (qj .i64 (↑(List.length x):Int) 1))],h:={box:=fun _=>none,nl:=0,hw:=upd (fun _=>none) 0 (some (qg .i64 (↑(List.length x):Int) 1).toNat),nt:=1,vw:=upd (fun _=>none) 0 (some fun x=>ofVal (Value.int IntKind.u8 0)):Heap}:St})):=by kernel_rfl
def SYa(x y es:Str)(c k:Int):St:=⟨[(0,.str x),(1,.str y),(5,.vec 0 es.length 1),(6,I c),(7,I k)],zn es qk⟩
noncomputable def qwv:List Nat->Nat->Option Ans:=qf []
theorem q7b(x y es:Str)(c k:Int)(J:St->Prop)(K:D->Heap->Prop):qn (EnV [] [12] Tryz.f78) (fh Tryz.f78 K) (qwv ) qyq 200 [.code [1,1,1,0,1,0,0],stp [0,1,5,6,7] J,.blk 0,.code [1,1,1,1]] (SYa x y es c k)=
 (bif decide (k>=0) then(0<=k/\k<(↑(List.length x):Int))/\(0<=k/\k<(↑(List.length y):Int))/\(10:Int)≠0/\(10:Int)≠0/\(upd (fun _=>none) 0 (some (List.length es)) 0=some (List.length es)/\0<=qg .i64 k 1/\qg .i64 k 1<(↑(List.length es):Int))/\upd (fun _=>none) 0 (some (List.length es)) 0=some (List.length es)/\J {sl:=[(0,.str x),(1,.str y),(5,D.vec 0 (List.length es) 1),(6,I (qb8 .i64 (qg .i64 (qg .i64 (IntKind.i64.wrap (qj IntKind.u8 (↑(List.getD x k.toNat 0).toNat:Int) 48)) (IntKind.i64.wrap (qj IntKind.u8 (↑(List.getD y k.toNat 0).toNat:Int) 48))) c) 10)),(7,I (qj .i64 k 1))],h:={box:=fun _=>none,nl:=0,hw:=upd (fun _=>none) 0 (some (List.length es)),nt:=1,vw:=upd (upd (fun _=>none) 0 (some (cv es qk))) 0 (some (ny (cv es qk) (qg .i64 k 1).toNat (D.int IntKind.u8 (IntKind.u8.wrap (qg .i64 48 ((qg .i64 (qg .i64 (IntKind.i64.wrap (qj IntKind.u8 (↑(List.getD x k.toNat 0).toNat:Int) 48)) (IntKind.i64.wrap (qj IntKind.u8 (↑(List.getD y k.toNat 0).toNat:Int) 48))) c).tmod 10)))))):Heap}:St} else(upd (fun _=>none) 0 (some (List.length es)) 0=some (List.length es)/\(0:Int)<=0/\0<(↑(List.length es):Int))/\upd (fun _=>none) 0 (some (List.length es)) 0=some (List.length es)/\(upd (fun _=>none) 0 (some (List.length es)) 0=some (List.length es)/\xi (List.length es) (ny (cv es qk) 0 (D.int IntKind.u8 (IntKind.u8.wrap (qg .i64 48 c)))))/\K (.str (qp (List.length es) (ny (cv es qk) 0 (D.int IntKind.u8 (IntKind.u8.wrap (qg .i64 48 c)))))) {box:=fun _=>none,nl:=0,hw:=upd (fun _=>none) 0 (some (List.length es)),nt:=1,vw:=upd (upd (fun _=>none) 0 (some (cv es qk))) 0 (some (ny (cv es qk) 0 (D.int IntKind.u8 (IntKind.u8.wrap (qg .i64 48 c))))):Heap}):=by kernel_rfl
theorem F80:OkF 80 Tryz.f80:=⟨by kernel_rfl,by kernel_rfl,by kernel_rfl⟩
def qyr:List (List Nat×List Nat):=[([1,1,1,0,1,0],[0,1,5,6,7])]
noncomputable def q7c:List Nat->Nat->Option Ans:=qf []
theorem nYs(x y:Str)(K:D->Heap->Prop):qn (EnV [] [11] Tryz.f80) (fh Tryz.f80 K) (q7c ) qyr 200 [.code []] ⟨qc 0 [.str x,.str y],.empty⟩ =
 (List.length x<=jt->(0<=(↑(List.length x):Int)/\(↑(List.length x):Int)<=(↑(List.length x):Int)/\(↑(List.length x):Int)*((↑0:Int)+1)<=(↑q7:Int))/\(List.length x<=jt->At (EnV [] [11] Tryz.f80) (fh Tryz.f80 K) [It.code [1,1,1,0,1,0],It.blk 0,It.code [1,1,1,1]] {sl:=[(0,.str x),(1,.str y),(5,D.vec 0 (↑(List.length x):Int).toNat 1),(6,I 0),(7,I (qj .i64 (↑(List.length x):Int) 1))],h:={box:=fun _=>none,nl:=0,hw:=upd (fun _=>none) 0 (some (↑(List.length x):Int).toNat),nt:=1,vw:=upd (fun _=>none) 0 (some fun x=>ofVal (Value.int IntKind.u8 0)):Heap}:St})):=by kernel_rfl
noncomputable def qww:List Nat->Nat->Option Ans:=qf []
theorem q7d(x y es:Str)(c k:Int)(J:St->Prop)(K:D->Heap->Prop):qn (EnV [] [11] Tryz.f80) (fh Tryz.f80 K) (qww ) qyr 200 [.code [1,1,1,0,1,0,0],stp [0,1,5,6,7] J,.blk 0,.code [1,1,1,1]] (SYa x y es c k)=
 (bif decide (k>=0) then(0<=k/\k<(↑(List.length x):Int))/\(0<=k/\k<(↑(List.length y):Int))/\(10:Int)≠0/\(10:Int)≠0/\(upd (fun _=>none) 0 (some (List.length es)) 0=some (List.length es)/\0<=k/\k<(↑(List.length es):Int))/\upd (fun _=>none) 0 (some (List.length es)) 0=some (List.length es)/\J {sl:=[(0,.str x),(1,.str y),(5,D.vec 0 (List.length es) 1),(6,I (qj .i64 1 (qb8 .i64 (qg .i64 (qj .i64 (qj .i64 (IntKind.i64.wrap (qj IntKind.u8 (↑(List.getD x k.toNat 0).toNat:Int) 48)) (IntKind.i64.wrap (qj IntKind.u8 (↑(List.getD y k.toNat 0).toNat:Int) 48))) c) 10) 10))),(7,I (qj .i64 k 1))],h:={box:=fun _=>none,nl:=0,hw:=upd (fun _=>none) 0 (some (List.length es)),nt:=1,vw:=upd (upd (fun _=>none) 0 (some (cv es qk))) 0 (some (ny (cv es qk) k.toNat (D.int IntKind.u8 (IntKind.u8.wrap (qg .i64 48 ((qg .i64 (qj .i64 (qj .i64 (IntKind.i64.wrap (qj IntKind.u8 (↑(List.getD x k.toNat 0).toNat:Int) 48)) (IntKind.i64.wrap (qj IntKind.u8 (↑(List.getD y k.toNat 0).toNat:Int) 48))) c) 10).tmod 10)))))):Heap}:St} else(upd (fun _=>none) 0 (some (List.length es)) 0=some (List.length es)/\xi (List.length es) (cv es qk))/\K (.str (qp (List.length es) (cv es qk))) {box:=fun _=>none,nl:=0,hw:=upd (fun _=>none) 0 (some (List.length es)),nt:=1,vw:=upd (fun _=>none) 0 (some (cv es qk)):Heap}):=by kernel_rfl
theorem F49:OkF 49 Tryz.f49:=⟨by kernel_rfl,by kernel_rfl,by kernel_rfl⟩
def q7e:List (List Nat×List Nat):=[]
noncomputable def q7f:List Nat->Nat->Option Ans:=qf []
theorem nYn(x:Pa)(K:D->Prop):qn (En Tryz.f49) (fi Tryz.f49 K) (q7f ) q7e 200 [.code []] ⟨qc 0 [x.d],.empty⟩ =
 (True/\True/\K (.agg [B (bif !x.neg then !x.dig=={data:= #[]:ByteArray}.data.toList else false),.str x.dig,I x.e])):=by kernel_rfl
theorem F50:OkF 50 Tryz.f50:=⟨by kernel_rfl,by kernel_rfl,by kernel_rfl⟩
def q7g:List (List Nat×List Nat):=[]
noncomputable def q7h:List Nat->Nat->Option Ans:=qf []
theorem nYg(x:Pa)(K:D->Prop):qn (En Tryz.f50) (fi Tryz.f50 K) (q7h ) q7g 200 [.code []] ⟨qc 0 [x.d],.empty⟩ =
 (bif x.dig=={data:= #[]:ByteArray}.data.toList then K (I 0) else bif x.neg then K (I (-1)) else K (I 1)):=by kernel_rfl
def gm(x y:Pa):Int:=max 0 (max ((x.dig.length:Int)-1-x.e) ((y.dig.length:Int)-1-y.e))
def wr(x:Pa)(n:Int):Str:=x.dig++zs (n-((x.dig.length:Int)-1-x.e)).toNat
theorem F47:OkF 47 Tryz.f47:=⟨by kernel_rfl,by kernel_rfl,by kernel_rfl⟩
def q7i:List (List Nat×List Nat):=[([1,1,1,1,0],[2,3,4,5,6,7,8])]
noncomputable def q7j(x:Pa)(y:Pa):List Nat->Nat->Option Ans:=qf [([1,0],2,Ans.pure [x.d,y.d] (I (gm x y))),([1,1,0],2,Ans.pure [x.d,I (gm x y)] (.str (wr x (gm x y)))),([1,1,0],5,Ans.pure [y.d,I (gm x y)] (.str (wr y (gm x y))))]
theorem nYm(x y:Pa)(K:D->Prop):qn (En Tryz.f47) (fi Tryz.f47 K) (q7j x y) q7i 200 [.code []] ⟨qc 0 [x.d,y.d],.empty⟩ =
 (PQ PP 75 [x.d,y.d] (I (gm x y))/\PQ PP 76 [x.d,I (gm x y)] (.str (wr x (gm x y)))/\PQ PP 76 [y.d,I (gm x y)] (.str (wr y (gm x y)))/\(List.length (wr x (gm x y))<=jt->List.length (wr y (gm x y))<=jt->At (En Tryz.f47) (fi Tryz.f47 K) [It.code [1,1,1,1,0],It.code [1,1,1,1,1]] {sl:=[(2,.own [B x.neg,.str x.dig,I x.e]),(3,.own [B y.neg,.str y.dig,I y.e]),(4,.own [B false,.str {data:= #[]:ByteArray}.data.toList,I 0]),(5,I (gm x y)),(6,.str (wr x (gm x y))),(7,.str (wr y (gm x y))),(8,I (if 1 > if(↑(List.length (wr y (gm x y))):Int) > (↑(List.length (wr x (gm x y))):Int) then(↑(List.length (wr y (gm x y))):Int) else(↑(List.length (wr x (gm x y))):Int) then 1 else if(↑(List.length (wr y (gm x y))):Int) > (↑(List.length (wr x (gm x y))):Int) then(↑(List.length (wr y (gm x y))):Int) else(↑(List.length (wr x (gm x y))):Int)))],h:=Heap.empty:St})):=by kernel_rfl
def q7k:List (List Nat×List Nat):=[([1,1,1,1,1,1,1],[2,4,5,6,7])]
noncomputable def qwx(x:Pa)(n:Int)(p:Str)(q:Str)(k:Int):List Nat->Nat->Option Ans:=qf [([1,1,1,1,0],2,Ans.pure [.str p,I k] (.str (zm p k.toNat))),([1,1,1,1,0],5,Ans.pure [.str q,I k] (.str (zm q k.toNat))),([1,1,1,1,1,0,1,0,0],2,Ans.pure [.str (zm p k.toNat),.str (zm q k.toNat)] (.str (zx (zm p k.toNat) (zm q k.toNat)))),([1,1,1,1,1,0,1,0,1,0],9,Ans.pure [{neg:=x.neg,dig:=zx (zm p k.toNat) (zm q k.toNat),e:=qj .i64 (qj .i64 (↑(List.length (zx (zm p k.toNat) (zm q k.toNat))):Int) 1) n:Pa}.d] (stR {neg:=x.neg,dig:=zx (zm p k.toNat) (zm q k.toNat),e:=qj .i64 (qj .i64 (↑(List.length (zx (zm p k.toNat) (zm q k.toNat))):Int) 1) n:Pa}).d)]
theorem q7l(x y:Pa)(n:Int)(p q:Str)(k:Int)(K:D->Prop):qn (En Tryz.f47) (fi Tryz.f47 K) (qwx x n p q k) q7k 200 [.code [1,1,1,1,0],.code [1,1,1,1,1]] ⟨[(2,.own [B x.neg,.str x.dig,I x.e]),(3,.own [B y.neg,.str y.dig,I y.e]),(4,.own [B false,.str [],I 0]),(5,I n),(6,.str p),(7,.str q),(8,I k)],.empty⟩ =
 (PQ PP 77 [.str p,I k] (.str (zm p k.toNat))/\
 PQ PP 77 [.str q,I k] (.str (zm q k.toNat))/\
  bif x.neg==y.neg then PQ PP 78 [.str (zm p k.toNat),.str (zm q k.toNat)] (.str (zx (zm p k.toNat) (zm q k.toNat)))/\(List.length (zx (zm p k.toNat) (zm q k.toNat))<=jt->PQ PP 79 [{neg:=x.neg,dig:=zx (zm p k.toNat) (zm q k.toNat),e:=qj .i64 (qj .i64 (↑(List.length (zx (zm p k.toNat) (zm q k.toNat))):Int) 1) n:Pa}.d] (stR {neg:=x.neg,dig:=zx (zm p k.toNat) (zm q k.toNat),e:=qj .i64 (qj .i64 (↑(List.length (zx (zm p k.toNat) (zm q k.toNat))):Int) 1) n:Pa}).d/\True/\K (.agg [B (stR {neg:=x.neg,dig:=zx (zm p k.toNat) (zm q k.toNat),e:=qj .i64 (qj .i64 (↑(List.length (zx (zm p k.toNat) (zm q k.toNat))):Int) 1) n:Pa}).neg,.str (stR {neg:=x.neg,dig:=zx (zm p k.toNat) (zm q k.toNat),e:=qj .i64 (qj .i64 (↑(List.length (zx (zm p k.toNat) (zm q k.toNat))):Int) 1) n:Pa}).dig,I (stR {neg:=x.neg,dig:=zx (zm p k.toNat) (zm q k.toNat),e:=qj .i64 (qj .i64 (↑(List.length (zx (zm p k.toNat) (zm q k.toNat))):Int) 1) n:Pa}).e]))
  else bif Op.bytesLess (zm p k.toNat) (zm q k.toNat) then True/\At (En Tryz.f47) (fi Tryz.f47 K) [It.code [1,1,1,1,1,1,1]] {sl:=[(2,.own [B y.neg,.str y.dig,I y.e]),(4,.own [B false,.str [],I 0]),(5,I n),(6,.str (zm q k.toNat)),(7,.str (zm p k.toNat))],h:=Heap.empty:St} else At (En Tryz.f47) (fi Tryz.f47 K) [It.code [1,1,1,1,1,1,1]] {sl:=[(2,.own [B x.neg,.str x.dig,I x.e]),(4,.own [B false,.str [],I 0]),(5,I n),(6,.str (zm p k.toNat)),(7,.str (zm q k.toNat))],h:=Heap.empty:St}):=by kernel_rfl
noncomputable def qwy(x:Pa)(n:Int)(p:Str)(q:Str):List Nat->Nat->Option Ans:=qf [([1,1,1,1,1,1,1,0],2,Ans.pure [.str p,.str q] (.str (uf p q))),([1,1,1,1,1,1,1,1,0],9,Ans.pure [{neg:=x.neg,dig:=uf p q,e:=qj .i64 (qj .i64 (↑(List.length (uf p q)):Int) 1) n:Pa}.d] (stR {neg:=x.neg,dig:=uf p q,e:=qj .i64 (qj .i64 (↑(List.length (uf p q)):Int) 1) n:Pa}).d)]
theorem q7m(x:Pa)(n:Int)(p q:Str)(K:D->Prop):qn (En Tryz.f47) (fi Tryz.f47 K) (qwy x n p q) p8 200 [.code [1,1,1,1,1,1,1]] ⟨[(2,.own [B x.neg,.str x.dig,I x.e]),(4,.own [B false,.str [],I 0]),(5,I n),(6,.str p),(7,.str q)],.empty⟩ =
 (PQ PP 80 [.str p,.str q] (.str (uf p q))/\(List.length (uf p q)<=jt->PQ PP 79 [{neg:=x.neg,dig:=uf p q,e:=qj .i64 (qj .i64 (↑(List.length (uf p q)):Int) 1) n:Pa}.d] (stR {neg:=x.neg,dig:=uf p q,e:=qj .i64 (qj .i64 (↑(List.length (uf p q)):Int) 1) n:Pa}).d/\True/\K (.agg [B (stR {neg:=x.neg,dig:=uf p q,e:=qj .i64 (qj .i64 (↑(List.length (uf p q)):Int) 1) n:Pa}).neg,.str (stR {neg:=x.neg,dig:=uf p q,e:=qj .i64 (qj .i64 (↑(List.length (uf p q)):Int) 1) n:Pa}).dig,I (stR {neg:=x.neg,dig:=uf p q,e:=qj .i64 (qj .i64 (↑(List.length (uf p q)):Int) 1) n:Pa}).e]))):=by kernel_rfl
theorem StLe.eqJ{n:Nat}{a b:St}(h:a=b):StLe n a b:=h▸StLe.refl n a
structure PaB(x:Pa):Prop where
 dg:x.dig.all zl=true
 l:x.dig.length<=2000
 e1 : -2000<=x.e
 e2:x.e<=2000
theorem c75(x y:Pa)(hx:PaB x)(hy:PaB y):Pure PP 75 [x.d,y.d] (I (gm x y)):=by
 obtain⟨_,a1,a2,a3⟩:=hx
 obtain⟨_,b1,b2,b3⟩:=hy
 refine pu F75 (by kernel_rfl) (of_eq (nYp x y _) fun _ _=> ?_)
 rw[jy (a:=(x.dig.length:Int)) (by omega) (by omega),jy (a:=(y.dig.length:Int)) (by omega) (by omega),jy (by omega) (by omega),jy (by omega) (by omega)]
 refine Wk.of_eq (congrArg I ?_)
 unfold gm
 split <;> split <;> omega
theorem qnw{x y:Pa}(hx:PaB x)(hy:PaB y):0<=gm x y/\gm x y<=4000:=by
 obtain⟨_,a1,a2,a3⟩:=hx
 obtain⟨_,b1,b2,b3⟩:=hy
 unfold gm;omega
theorem qiy(n:Nat):zs (n+1)=zs n++[48]:=List.replicate_succ'
theorem qe5(x:Pa)(hx:PaB x){n:Int}(h:n<=4000):(wr x n).length<=8001:=by
 obtain⟨_,a1,a2,a3⟩:=hx
 unfold wr
 rw[List.length_append,ko];omega
theorem c76(x:Pa)(n:Int)(hx:PaB x)(h0:0<=n)(h1:n<=4000):Pure PP 76 [x.d,I n] (.str (wr x n)):=by
 obtain⟨_,a1,a2,a3⟩:=hx
 refine pu F76 (by kernel_rfl) (of_eq (nYf x n _) fun _=> ?_)
 rw[jy (a:=(x.dig.length:Int)) (by omega) (by omega),jy (by omega) (by omega)]
 refine jc (st':=SYf n (x.dig++zs 0) ((x.dig.length:Int)-1-x.e+(0:Nat))) ?_ (StLe.eqJ (by unfold SYf zs;rw[List.replicate_zero,List.append_nil];simp[Heap.empty]))
 refine lp (fn:=Tryz.f76) (fun m:Nat=>m=0\/(x.dig.length:Int)-1-x.e+m<=n) (fun m=>SYf n (x.dig++zs m) ((x.dig.length:Int)-1-x.e+m)) (fun m=>(n-((x.dig.length:Int)-1-x.e+m)).toNat) [1,5,6] (by kernel_rfl) (fun m hm=>of_eq (q64 n _ _ _ _) (qa (fun h=> ?_) fun h=> ?_)) 0 (.inl rfl)
 ·have h:=of_decide_eq_true h
  rw[jk (by omega) (by omega)]
  refine⟨by rw[List.length_append,ko];unfold jt;omega,Nx.of (m+1) (.inr (by omega)) (by omega) (StLe.eqJ ?_)⟩
  rw[qiy,<-List.append_assoc,show(x.dig.length:Int)-1-x.e+((m+1:Nat):Int)=(x.dig.length:Int)-1-x.e+m+1 by omega];rfl
 ·have h:=of_decide_eq_false h
  have e:m=(n-((x.dig.length:Int)-1-x.e)).toNat:=by omega
  unfold wr
  rw[<-e];exact Wk.refl _
theorem av(es:Str):qp es.length (fun i=>qk (es.getD i default))=es:=by
 unfold qp
 refine List.ext_getElem (by simp) fun i h1 h2=> ?_
 simp only[List.getElem_map,List.getElem_range,List.getD_eq_getElem?_getD,List.getElem?_eq_getElem h2,Option.getD_some]
 show UInt8.ofNat ((es[i].toNat:Int)).toNat=es[i]
 rw[Int.toNat_natCast,UInt8.ofNat_toNat]
theorem qdp(n:Nat)(es:Str):xi n fun i=>qk (es.getD i default):=fun i _=>⟨_,rfl⟩
theorem qnx(m n:Nat)(v:UInt8)(r:Str):(r++List.replicate (n+1) 0).set r.length v=(r++[v])++List.replicate n 0:=by
 rw[List.set_append_right _ _ (Nat.le_refl _),Nat.sub_self,List.replicate_succ,List.set_cons_zero,List.append_assoc];rfl
theorem q7n(n:Nat)(hn:n<=100000):Pure PP 128 [I n] (L (zs n) 1 qk):=by
 have hl:∀m,m<=n->(zs m++List.replicate (n-m) (0:UInt8)).length=n:=fun m hm=>by rw[List.length_append,ko,List.length_replicate];omega
 refine pr q65 (by kernel_rfl) (of_eq (nYz n _) ⟨⟨by omega,Int.le_refl _,by unfold q7;omega⟩,?_⟩)
 refine jc (st':=SYz n (zs 0++List.replicate (n-0) 0) ((0:Nat):Int)) ?_ ((StLe.vec (t:=0) (n:=n) (f':=cv (zs 0++List.replicate (n-0) (0:UInt8)) qk) (by rw[Int.toNat_natCast];exact qb _ _ _) fun i hi=> ?_).trans (StLe.eqJ ?_))
 ·refine lp (fn:=Tryz.f128) (fun m:Nat=>m<=n) (fun m=>SYz n (zs m++List.replicate (n-m) 0) m) (fun m=>n-m) [0,3,4] (by kernel_rfl) (fun m hm=>of_eq (q67 n _ m _ _) (qa (fun hlt=> ?_) fun hge=> ?_)) 0 (Nat.zero_le _)
  ·have hlt:=ltI hlt
   have hs:(zs m++List.replicate (n-m) (0:UInt8)).set m 48=zs (m+1)++List.replicate (n-(m+1)) 0:=by
    have:=qnx m (n-(m+1)) 48 (zs m)
    rw[ko,show n-(m+1)+1=n-m by omega]at this
    rw[this,qiy]
   have hlm:=hl m hm
   rw[bi hlt (by unfold q8;omega),Int.toNat_natCast]
   refine⟨⟨qb _ _ _,by omega,by rw[hlm];omega⟩,qb _ _ _,Nx.of (m+1) hlt (by omega) ?_⟩
   have hlm2:=hl (m+1) hlt
   rw[<-hs]at hlm2⊢
   unfold SYz zn
   rw[List.length_set,q6]
   exact StLe.vec (t:=0) (n:=_) (qb _ _ _) fun i _=>dw (enc:=qk) (k:=m) (x:=(48:UInt8)) (by rw[hlm];exact hlt) i
  ·have hge:=geI hge
   have:m=n:=by omega
   subst this
   rw[Nat.sub_self,List.replicate_zero,List.append_nil]
   exact⟨_,qly rfl⟩
 ·show _=qk _
  have:(zs 0++List.replicate (n-0) (0:UInt8)).getD i default=0:=by
   show(List.replicate n (0:UInt8)).getD i default=0
   rw[List.getD_eq_getElem?_getD,List.getElem?_replicate]
   split <;> rfl
  rw[this];rfl
 ·have h:=hl 0 (Nat.zero_le _)
  unfold SYz zn
  rw[h,Int.toNat_natCast];rfl
theorem c77(z:Str)(n:Nat)(hz:z.length<=100000)(hn:n<=100000):Pure PP 77 [.str z,I n] (.str (zm z n)):=by
 refine pu F77 (by kernel_rfl) (of_eq (nYd z n _) fun _=>qa (fun h=> ?_) fun h _=> ?_)
 ·have h:=of_decide_eq_true h
  unfold zm
  rw[show n-z.length=0 by omega];exact Wk.refl _
 ·have h:=of_decide_eq_false h
  rw[jy (by omega) (by omega),show(n:Int)-(z.length:Int)=((n-z.length:Nat):Int) by omega,Int.toNat_natCast,av]
  exact⟨PureW.mk (q7n _ (by omega)),qdp _ _,by rw[ko];unfold jt;omega,Wk.refl _⟩
def esA(sb:Bool)(X Y:Str)(o m:Nat):Str:=List.replicate (m+o) 0++(kf sb (X.drop m) (Y.drop m)).1
theorem w9(sb:Bool):∀X Y:Str,X.length=Y.length->(kf sb X Y).1.length=X.length
 | [],[],_=>by
  rw[kf]
  intro _ _ _ _ h;cases h
 | [],_::_,h=>by simp at h
 |_::_,[],h=>by simp at h
 |_::r,_::q,h=>by
  rw[kf,List.length_cons,List.length_cons,w9 sb r q (by simpa using h)]
theorem qdq{sb:Bool}{X Y:Str}(h:X.length=Y.length){o m:Nat}(hm:m<=X.length):(esA sb X Y o m).length=X.length+o:=by
 unfold esA
 rw[List.length_append,List.length_replicate,w9 _ _ _ (by rw[List.length_drop,List.length_drop,h]),List.length_drop];omega
theorem qe6{sb:Bool}{X Y:Str}(h:X.length=Y.length){o m:Nat}(hm:m<X.length):(esA sb X Y o (m+1)).set (m+o) (xl (adD sb X Y m)).1=esA sb X Y o m:=by
 have e:kf sb (X.drop m) (Y.drop m)=((xl (adD sb X Y m)).1::(kf sb (X.drop (m+1)) (Y.drop (m+1))).1,(xl (adD sb X Y m)).2):=by
  rw[jz hm,jz (l:=Y) (i:=m) (by omega),kf];rfl
 unfold esA
 rw[e,show m+1+o=m+o+1 by omega,List.replicate_succ',List.append_assoc,List.set_append_right _ _ (by rw[List.length_replicate];exact Nat.le_refl _),List.length_replicate,Nat.sub_self];rfl
theorem qad(sb:Bool)(X Y:Str)(h:X.length=Y.length)(o:Nat):esA sb X Y o X.length=List.replicate (X.length+o) 0:=by
 have e:(kf sb (X.drop X.length) (Y.drop X.length)).1=[]:=by
  have:=w9 sb (X.drop X.length) (Y.drop X.length) (by rw[List.length_drop,List.length_drop,h])
  rw[List.length_drop,Nat.sub_self]at this
  exact List.eq_nil_of_length_eq_zero this
 unfold esA
 rw[e,List.append_nil]
theorem qae(sb:Bool)(X Y:Str)(h:X.length=Y.length):adC sb X Y X.length=0:=by
 unfold adC
 rw[List.drop_length,h,List.drop_length,kf]
 intro _ _ _ _ h;cases h
theorem dgJ{q:Str}(h:q.all zl=true){i:Nat}(hi:i<q.length):zl (q.getD i 0)=true/\0<=(dgt (q.getD i 0):Int)/\(dgt (q.getD i 0):Int)<=9:=by
 have:zl (q.getD i 0)=true:=by
  rw[List.getD_eq_getElem?_getD,List.getElem?_eq_getElem hi]
  exact List.all_eq_true.1 h _ (List.getElem_mem hi)
 have h2:=of_decide_eq_true this
 refine⟨this,by omega,?_⟩
 unfold dgt;omega
theorem qys{N n:Nat}{sl:qu}{es:Str}(he:es=List.replicate n 0):StLe N ⟨sl,⟨fun _=>none,0,upd (fun _=>none) 0 (some n),1,upd (fun _=>none) 0 (some fun _=>ofVal (Value.int IntKind.u8 0))⟩⟩ ⟨sl,zn es qk⟩:=by
 subst he
 have h:=StLe.vec (N:=N) (sl:=sl) (b:=fun _=>none) (nl:=0) (nt:=1) (vw:=fun _=>none) (t:=0) (n:=n) (hw:=upd (fun _=>none) 0 (some n)) (f:=fun _=>ofVal (Value.int IntKind.u8 0)) (f':=cv (List.replicate n (0:UInt8)) qk) (qb _ _ _) fun i hi=>by
  show _=qk _
  rw[List.getD_eq_getElem?_getD,List.getElem?_replicate]
  split <;> rfl
 refine h.trans (StLe.eqJ ?_)
 unfold zn
 rw[List.length_replicate]
theorem qe7{d:Int}(h0:0<=d)(h1:d<=19):qb8 .i64 d 10=(if d > 9 then 1 else 0)/\d.tmod 10=(if d > 9 then d-10 else d):=by
 have:∀d∈List.range 20,qb8 .i64 (d:Int) 10=(if(d:Int) > 9 then 1 else 0)/\(d:Int).tmod 10=(if(d:Int) > 9 then(d:Int)-10 else(d:Int)):=by decide +kernel
 have:=this d.toNat (List.mem_range.2 (by omega))
 rw[show((d.toNat:Nat):Int)=d by omega]at this
 exact this
theorem c78(X Y:Str)(h:X.length=Y.length)(hl:X.length<=100000)(hx:X.all zl=true)(hy:Y.all zl=true):Pure PP 78 [.str X,.str Y] (.str (zx X Y)):=by
 refine pr F78 (by kernel_rfl) (of_eq (nYa X Y _) fun hm=> ?_)
 rw[jk (by omega) (by omega)]
 refine⟨⟨by omega,Int.le_refl _,by unfold q7;omega⟩,fun _=> ?_⟩
 rw[show(X.length:Int)+1=((X.length+1:Nat):Int) by omega,Int.toNat_natCast,jy (by omega) (by omega)]
 refine jc (st':=SYa X Y (esA false X Y 1 X.length) (adC false X Y X.length) ((X.length:Int)-1)) ?_ ((qys (qad false X Y h 1)).cast ?_)
 ·refine lp (fn:=Tryz.f78) (fun m:Nat=>m<=X.length/\0<=adC false X Y m) (fun m=>SYa X Y (esA false X Y 1 m) (adC false X Y m) ((m:Int)-1)) (fun m=>m) [0,1,5,6,7] (by kernel_rfl) (fun m hm=>of_eq (q7b X Y _ _ _ _ _) (qa (fun hlt=> ?_) fun hge=> ?_)) X.length ⟨Nat.le_refl _,by rw[qae _ _ _ h];exact Int.le_refl _⟩
  ·have hlt:=of_decide_eq_true hlt
   obtain⟨hm1,hm2⟩:=hm
   cases m with
   |zero=>omega
   |succ m =>
    have e1:((m+1:Nat):Int)-1=(m:Int):=by omega
    obtain⟨s1,_⟩:=qdm (sb:=false) (X:=X) (Y:=Y) (m:=m) (by omega) (by omega)
    have s3:=qe4 (sb:=false) h hx hy (m+1)
    obtain⟨x1,x2,x3⟩:=dgJ hx (i:=m) (by omega)
    obtain⟨y1,y2,y3⟩:=dgJ hy (i:=m) (by omega)
    have el:=qdq (sb:=false) h (o:=1) (m:=m+1) (by omega)
    have es:=qe6 (sb:=false) h (o:=1) (m:=m) (by omega)
    have hd:qg .i64 (qg .i64 (dgt (X.getD m 0):Int) (dgt (Y.getD m 0):Int)) (adC false X Y (m+1))=adD false X Y m:=by
     unfold adD
     rw[jk (a:=(dgt (X.getD m 0):Int)) (by omega) (by omega),jk (by omega) (by omega),if_neg (by decide)];omega
    have hb:0<=adD false X Y m/\adD false X Y m<=19:=by
     unfold adD
     rw[if_neg (by decide)];omega
    rw[e1,Int.toNat_natCast,bg x1,bg y1,hd,(qe7 hb.1 hb.2).1,(qe7 hb.1 hb.2).2,jk (by omega) (by omega),show(m:Int)+1=((m+1:Nat):Int) by omega,Int.toNat_natCast,jy (by omega) (by omega)]
    generalize adD false X Y m=d at *
    have hst:xl d=(chD (if d > 9 then d-10 else d),if d > 9 then 1 else 0):=by
     unfold xl
     by_cases c:d > 9
     ·rw[if_pos c,if_pos c,if_pos c]
     ·rw[if_neg c,if_neg c,if_neg c,if_neg (by omega)]
    rw[hst]at s1 es
    have hr:0<=(if d > 9 then d-10 else d)/\(if d > 9 then d-10 else d)<=9:=by split <;> omega
    generalize (if d > 9 then d-10 else d)=r at *
    rw[qab hr.1 hr.2]
    refine⟨⟨by omega,by omega⟩,⟨by omega,by omega⟩,by decide,by decide,⟨qb _ _ _,by omega,by omega⟩,qb _ _ _,Nx.of m ⟨by omega,by rw[s1];simp only;split <;> decide⟩ (by omega) ?_⟩
    rw[<-es,s1]
    unfold SYa zn
    rw[List.length_set,q6]
    exact StLe.vec (t:=0) (n:=_) (qb _ _ _) fun i _=>dw (enc:=qk) (k:=m+1) (x:=chD r) (by omega) i
  ·have hge:=of_decide_eq_false hge
   obtain⟨_,hm2⟩:=hm
   have hm0:m=0:=by omega
   subst hm0
   have s3:=qe4 (sb:=false) h hx hy 0
   have el:=qdq (sb:=false) h (o:=1) (m:=0) (by omega)
   have hs:(esA false X Y 1 0).set 0 (chD (adC false X Y 0))=zx X Y:=rfl
   have hc:ny (cv (esA false X Y 1 0) qk) 0 (qk (chD (adC false X Y 0)))=cv (zx X Y) qk:=by
    rw[<-hs]
    exact funext fun i=>dw (enc:=qk) (by omega) i
   rw[qab hm2 (by omega)]
   have hc:ny (cv (esA false X Y 1 0) qk) 0 (D.int .u8 ((chD (adC false X Y 0)).toNat:Int))=cv (zx X Y) qk:=hc
   have el2:(esA false X Y 1 0).length=(zx X Y).length:=by rw[<-hs,List.length_set]
   rw[hc,el2]
   have hby:qp (zx X Y).length (cv (zx X Y) qk)=zx X Y:=av _
   rw[hby]
   exact⟨⟨qb _ _ _,by omega,by omega⟩,qb _ _ _,⟨qb _ _ _,qdp _ _⟩,⟨_,RetLe.refl _ _⟩⟩
 ·unfold SYa
  rw[qae _ _ _ h,qad _ _ _ h,List.length_replicate]
theorem c80(X Y:Str)(h:X.length=Y.length)(hl:X.length<=100000)(hx:X.all zl=true)(hy:Y.all zl=true):Pure PP 80 [.str X,.str Y] (.str (uf X Y)):=by
 refine pr F80 (by kernel_rfl) (of_eq (nYs X Y _) fun hm=> ?_)
 refine⟨⟨by omega,Int.le_refl _,by unfold q7;omega⟩,fun _=> ?_⟩
 rw[Int.toNat_natCast,jy (by omega) (by omega)]
 refine jc (st':=SYa X Y (esA true X Y 0 X.length) (0-adC true X Y X.length) ((X.length:Int)-1)) ?_ ((qys (qad true X Y h 0)).cast ?_)
 ·refine lp (fn:=Tryz.f80) (fun m:Nat=>m<=X.length/\adC true X Y m<=0) (fun m=>SYa X Y (esA true X Y 0 m) (0-adC true X Y m) ((m:Int)-1)) (fun m=>m) [0,1,5,6,7] (by kernel_rfl) (fun m hm=>of_eq (q7d X Y _ _ _ _ _) (qa (fun hlt=> ?_) fun hge=> ?_)) X.length ⟨Nat.le_refl _,by rw[qae _ _ _ h];exact Int.le_refl _⟩
  ·have hlt:=of_decide_eq_true hlt
   obtain⟨hm1,hm2⟩:=hm
   cases m with
   |zero=>omega
   |succ m =>
    have e1:((m+1:Nat):Int)-1=(m:Int):=by omega
    obtain⟨s1,_⟩:=qdm (sb:=true) (X:=X) (Y:=Y) (m:=m) (by omega) (by omega)
    have s3:=qe4 (sb:=true) h hx hy (m+1)
    obtain⟨x1,x2,x3⟩:=dgJ hx (i:=m) (by omega)
    obtain⟨y1,y2,y3⟩:=dgJ hy (i:=m) (by omega)
    have el:=qdq (sb:=true) h (o:=0) (m:=m+1) (by omega)
    have es:=qe6 (sb:=true) h (o:=0) (m:=m) (by omega)
    have hd:qg .i64 (qj .i64 (qj .i64 (dgt (X.getD m 0):Int) (dgt (Y.getD m 0):Int)) (0-adC true X Y (m+1))) 10=adD true X Y m+10:=by
     unfold adD
     rw[jy (a:=(dgt (X.getD m 0):Int)) (b:=(dgt (Y.getD m 0):Int)) (by omega) (by omega),jy (b:=0-adC true X Y (m+1)) (by omega) (by omega),jk (by omega) (by omega),if_pos rfl];omega
    have hb : -10<=adD true X Y m/\adD true X Y m<=9:=by
     unfold adD
     rw[if_pos rfl];omega
    rw[e1,Int.toNat_natCast,bg x1,bg y1,hd,(qe7 (by omega) (by omega)).1,(qe7 (by omega) (by omega)).2,jy (a:=(m:Int)) (by omega) (by omega)]
    generalize adD true X Y m=d at *
    have hst:xl d=(chD (if d+10 > 9 then d+10-10 else d+10),if d+10 > 9 then 0 else -1):=by
     unfold xl
     by_cases c:d+10 > 9
     ·rw[if_neg (by omega),if_neg (by omega),if_pos c,if_pos c,show d+10-10=d by omega]
     ·rw[if_neg (by omega),if_pos (by omega),if_neg c,if_neg c]
    rw[hst]at s1 es
    have hr:0<=(if d+10 > 9 then d+10-10 else d+10)/\(if d+10 > 9 then d+10-10 else d+10)<=9:=by split <;> omega
    generalize (if d+10 > 9 then d+10-10 else d+10)=r at *
    have hbo:qj .i64 1 (if d+10 > 9 then 1 else 0)=0-adC true X Y m:=by
     rw[s1]
     by_cases c:d+10 > 9
     ·rw[if_pos c,if_pos c];rfl
     ·rw[if_neg c,if_neg c];rfl
    rw[qab hr.1 hr.2,hbo]
    refine⟨⟨by omega,by omega⟩,⟨by omega,by omega⟩,by decide,by decide,⟨qb _ _ _,by omega,by omega⟩,qb _ _ _,Nx.of m ⟨by omega,by rw[s1];simp only;split <;> decide⟩ (by omega) ?_⟩
    rw[<-es]
    unfold SYa zn
    rw[List.length_set,q6]
    exact StLe.vec (t:=0) (n:=_) (qb _ _ _) fun i _=>dw (enc:=qk) (k:=m) (x:=chD r) (by omega) i
  ·have hge:=of_decide_eq_false hge
   have hm0:m=0:=by omega
   subst hm0
   have hs:esA true X Y 0 0=uf X Y:=rfl
   rw[hs]
   have hby:qp (uf X Y).length (cv (uf X Y) qk)=uf X Y:=av _
   rw[hby]
   exact⟨⟨qb _ _ _,qdp _ _⟩,⟨_,RetLe.refl _ _⟩⟩
 ·unfold SYa
  rw[qae _ _ _ h,qad _ _ _ h,List.length_replicate];rfl
def qe8(x y:Pa):Pa :=
 let n:=gm x y
 let k:=ah (wr x n) (wr y n)
 let p:=zm (wr x n) k
 let q:=zm (wr y n) k
 if x.neg=y.neg then(qx ⟨x.neg,zx p q,- n⟩).pa
 else if ae p q<0 then(qx ⟨y.neg,uf q p,- n⟩).pa else(qx ⟨x.neg,uf p q,- n⟩).pa
def qk8(x:Pa):Pa:=⟨!x.neg&&decide (x.dig≠[]),x.dig,x.e⟩
def sgP(x:Pa):Int:=if x.dig=[] then 0 else if x.neg=true then -1 else 1
theorem qiz(a b:Nm):qe8 a.pa b.pa=(qcb a b).pa:=by
 unfold qe8 qcb
 show(if a.neg=b.neg then _ else if _ then _ else _)=_
 by_cases h:a.neg=b.neg
 ·rw[if_pos h]
  simp only
  rw[if_pos h];rfl
 ·rw[if_neg h]
  simp only
  rw[if_neg h]
  have e:gm a.pa b.pa=xz a b:=rfl
  have e1:∀n,wr a.pa n=kq a n:=fun _=>rfl
  have e2:∀n,wr b.pa n=kq b n:=fun _=>rfl
  rw[e,e1,e2]
  split <;> rfl
theorem qdr(a:Nm):qk8 a.pa=(zp a).pa:=rfl
theorem qqo(a:Nm):sgP a.pa=xm a:=rfl
theorem c49(x:Pa):Pure PP 49 [x.d] (qk8 x).d:=by
 refine pu F49 (by kernel_rfl) (of_eq (nYn x _) ⟨trivial,trivial,Wk.of_eq ?_⟩)
 have e:(bif !x.neg then !(x.dig==[]) else false)=(!x.neg&&decide (x.dig≠[])):=by
  cases x.neg with
  |true=>rfl
  |false =>
   show(!(x.dig==[]))=decide (x.dig≠[])
   cases x.dig <;> rfl
 show D.agg [B (bif !x.neg then !(x.dig==[]) else false),.str x.dig,I x.e]=_
 rw[e];rfl
theorem c50(x:Pa):Pure PP 50 [x.d] (I (sgP x)):=by
 refine pu F50 (by kernel_rfl) (of_eq (nYg x _) (qa (fun h=> ?_) fun h=>qa (fun h2=> ?_) fun h2=> ?_))
 ·have h:x.dig=[]:=by simpa using h
  unfold sgP;rw[if_pos h];exact Wk.refl _
 ·have h:¬x.dig=[]:=by simpa using h
  unfold sgP;rw[if_neg h,if_pos h2];exact Wk.refl _
 ·have h:¬x.dig=[]:=by simpa using h
  unfold sgP;rw[if_neg h,if_neg (by rw[h2];simp)];exact Wk.refl _
theorem qi0:∀u v:Str,Op.bytesLess u v=decide (ae u v<0)
 | [],[]=>rfl
 |_::_,[]=>rfl
 | [],_::_=>rfl
 |a::u,b::v=>by
  rw[Op.bytesLess,ae,qi0 u v]
  by_cases h1:a.toNat<b.toNat
  ·rw[if_pos h1,decide_eq_true (show a<b from h1)];rfl
  ·rw[if_neg h1,decide_eq_false (show ¬a<b from h1),Bool.false_or]
   by_cases h2:b.toNat<a.toNat
   ·rw[if_pos h2,show(a==b)=false from beq_eq_false_iff_ne.2 fun e=>by rw[e]at h2;omega];rfl
   ·rw[if_neg h2,show(a==b)=true from beq_iff_eq.2 (UInt8.toNat_inj.1 (by omega)),Bool.true_and]
theorem qqp(x y:Nat):(if(1:Int) > (if(y:Int) > (x:Int) then(y:Int) else(x:Int)) then(1:Int) else(if(y:Int) > (x:Int) then(y:Int) else(x:Int)))=((max (max x y) 1:Nat):Int):=by
 split <;> split <;> omega
theorem c47(x y:Pa)(hx:PaB x)(hy:PaB y):Pure PP 47 [x.d,y.d] (qe8 x y).d:=by
 obtain⟨n0,n1⟩:=qnw hx hy
 have l1:=qe5 x hx n1
 have l2:=qe5 y hy n1
 have d1:(wr x (gm x y)).all zl=true:=by unfold wr;rw[List.all_append,hx.dg,qf2];rfl
 have d2:(wr y (gm x y)).all zl=true:=by unfold wr;rw[List.all_append,hy.dg,qf2];rfl
 refine pu F47 (by kernel_rfl) (of_eq (nYm x y _) ⟨PureW.mk (c75 x y hx hy),PureW.mk (c76 x _ hx n0 n1),PureW.mk (c76 y _ hy n0 n1),fun _ _=> ?_⟩)
 unfold qe8
 simp only
 generalize gm x y=n at *
 rw[qqp]
 have hk:(wr x n).length<=ah (wr x n) (wr y n)/\(wr y n).length<=ah (wr x n) (wr y n)/\ah (wr x n) (wr y n)<=8001:=by unfold ah;omega
 have hk2:max (max (wr x n).length (wr y n).length) 1=ah (wr x n) (wr y n):=rfl
 rw[hk2]
 generalize ah (wr x n) (wr y n)=k at *
 refine qe jv _ _ _ (of_eq (q7l x y n _ _ _ _) ?_)
 rw[Int.toNat_natCast]
 have g1:=gb hk.1
 have g2:=gb hk.2.1
 have g3:=ot k d1
 have g4:=ot k d2
 refine⟨PureW.mk (c77 _ k (by omega) (by omega)),PureW.mk (c77 _ k (by omega) (by omega)),?_⟩
 generalize zm (wr x n) k=p at *
 generalize zm (wr y n) k=q at *
 have fin:∀(s:Bool) (z:Str),z.length<=8002->stR ⟨s,z,qj .i64 (qj .i64 (z.length:Int) 1) n⟩=(qx ⟨s,z,-n⟩).pa:=fun s z hz=>by
  rw[jy (a:=(z.length:Int)) (by omega) (by omega),jy (by omega) (by omega)]
  unfold stR Pa.nm
  simp only
  congr 3;omega
 have st:∀(s:Bool) (z:Str),z.length<=8002->Pure PP 79 [(⟨s,z,qj .i64 (qj .i64 (z.length:Int) 1) n⟩:Pa).d] (stR ⟨s,z,qj .i64 (qj .i64 (z.length:Int) 1) n⟩).d:=fun s z hz=>c79 _ (by simp only;rw[jy (a:=(z.length:Int)) (by omega) (by omega),jy (by omega) (by omega)];omega) (by simp only;rw[jy (a:=(z.length:Int)) (by omega) (by omega),jy (by omega) (by omega)];omega) (by simp only;omega)
 have low:∀(x:Pa) (p q:Str),p.length=q.length->p.length<=8001->p.all zl=true->q.all zl=true->At (En Tryz.f47) (fi Tryz.f47 fun d=>Wk d (qx ⟨x.neg,uf p q,-n⟩).pa.d) [.code [1,1,1,1,1,1,1]] ⟨[(2,.own [B x.neg,.str x.dig,I x.e]),(4,.own [B false,.str [],I 0]),(5,I n),(6,.str p),(7,.str q)],.empty⟩:=fun x p q h1 h2 h3 h4=>by
  have hz:(uf p q).length<=8002:=by
   have:=w9 true p q h1
   unfold uf;omega
  refine qe jv _ _ _ (of_eq (q7m x n p q _) ⟨PureW.mk (c80 p q h1 (by omega) h3 h4),fun _=>⟨PureW.mk (st _ _ hz),trivial,?_⟩⟩)
  rw[fin _ _ hz];exact Wk.refl _
 refine qa (fun h=> ?_) fun h=> ?_
 ·have hs:x.neg=y.neg:=by simpa using h
  rw[if_pos hs]
  have hz:(zx p q).length<=8002:=by
   have:=w9 false p q (by omega)
   unfold zx
   rw[List.length_cons];omega
  refine⟨PureW.mk (c78 p q (by omega) (by omega) g3 g4),fun _=>⟨PureW.mk (st _ _ hz),trivial,?_⟩⟩
  rw[fin _ _ hz];exact Wk.refl _
 ·have hs:¬x.neg=y.neg:=by simpa using h
  rw[if_neg hs,qi0]
  refine qa (fun h2=> ?_) fun h2=> ?_
  ·rw[if_pos (of_decide_eq_true h2)]
   exact⟨trivial,low y q p (by omega) (by omega) g4 g3⟩
  ·rw[if_neg (of_decide_eq_false h2)]
   exact low x p q (by omega) (by omega) g3 g4
end Go.Proofs.YtiekphbkomddfaaGreatDoor.S1
