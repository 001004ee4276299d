/- Plain law of sets of times: normal lists. -/
import Derived.Test.YtiekphbkomddfaaGreatDoorCSG4
import Derived.Lib.SlicesCompact
import Derived.Ground.NamesProg
import Derived.Ground.Names2Prog
import Derived.Shelf.Sort.Plain
import Derived.Shelf.Slices.CompactI
import Derived.Shelf.Slices.In.SortNone
namespace Go.Proofs.YtiekphbkomddfaaGreatDoor.S1
open Go Go.Ab Go.Proofs
theorem je{t:Int}{x:Iv}:inP t x=true↔x.frm<=t/\t<=x.to:=by
 unfold inP
 by_cases h:x.frm<=t
 ·simp[h]
 ·simp[h]
theorem uq{t:Int}{x:Iv}:inP t x=false↔¬(x.frm<=t/\t<=x.to):=by
 rw[<-je];simp
def Nor:Int->List Iv->Prop
 |_,[]=>True
 |lo,x::r=>lo<=x.frm/\x.frm<=x.to/\x.to<=1099511627776/\Nor (x.to+2) r
theorem Nor.mono:∀{l:List Iv} {lo lo':Int},Nor lo l->lo'<=lo->Nor lo' l
 | [],_,_,_,_=>trivial
 |_::_,_,_,⟨h1,h2,h3,h4⟩,h=>⟨by omega,h2,h3,h4⟩
theorem Nor.out:∀{l:List Iv} {lo t:Int},Nor lo l->t<lo->l.any (inP t)=false
 | [],_,_,_,_=>rfl
 |x::r,lo,t,⟨h1,h2,h3,h4⟩,h=>by
  rw[List.any_cons,uq.2 (by omega),Nor.out h4 (by omega)];rfl
theorem qkw:∀{l1 l2:List Iv} {lo1 lo2:Int},Nor lo1 l1->Nor lo2 l2->(∀t,l1.any (inP t)=l2.any (inP t))->l1=l2
 | [],[],_,_,_,_,_=>rfl
 | [],y::s,_,_,_,h2,h=>by
  have:=h y.frm
  rw[List.any_cons,je.2 ⟨Int.le_refl _,h2.2.1⟩]at this
  simp at this
 |x::r,[],_,_,h1,_,h=>by
  have:=h x.frm
  rw[List.any_cons,je.2 ⟨Int.le_refl _,h1.2.1⟩]at this
  simp at this
 |x::r,y::s,lo1,lo2,⟨a1,a2,a3,a4⟩,⟨b1,b2,b3,b4⟩,h=>by
  have key:∀{x y:Iv} {r s:List Iv},x.frm<=x.to->Nor (x.to+2) r->y.frm<=y.to->Nor (y.to+2) s->(∀t,(x::r).any (inP t)=(y::s).any (inP t))->y.frm<=x.frm/\y.to<=x.to:=by
   intro x y r s a2 a4 b2 b4 h
   have e1:=h x.frm
   rw[List.any_cons,List.any_cons,je.2 ⟨Int.le_refl _,a2⟩]at e1
   by_cases hf:y.frm<=x.frm
   ·refine⟨hf,?_⟩
    by_cases ht:y.to<=x.to
    ·exact ht
    ·have e2:=h (x.to+1)
     rw[List.any_cons,List.any_cons,uq.2 (by omega),a4.out (by omega),je.2 (by omega)]at e2
     simp at e2
   ·rw[uq.2 (by omega),b4.out (by omega)]at e1
    simp at e1
  have k1:=key a2 a4 b2 b4 h
  have k2:=key b2 b4 a2 a4 fun t=>(h t).symm
  have e:x=y:=by
   have e1:x.frm=y.frm:=by omega
   have e2:x.to=y.to:=by omega
   cases x;cases y
   simp only at e1 e2
   rw[e1,e2]
  subst e
  congr 1
  refine qkw a4 b4 fun t=> ?_
  by_cases ht:t<=x.to
  ·rw[a4.out (by omega),b4.out (by omega)]
  ·have:=h t
   rw[List.any_cons,List.any_cons,uq.2 (by omega)]at this
   simpa using this
theorem zb{l:List Iv}{t:Int}(h:0<=t/\t<=1099511627776):inI l t=l.any (inP t):=by
 unfold inI
 rw[decide_eq_true h.1,decide_eq_true h.2];rfl
theorem uh{l:List Iv}{t:Int}(h:¬(0<=t/\t<=1099511627776)):inI l t=false:=by
 unfold inI
 by_cases h1:0<=t
 ·rw[decide_eq_false (show ¬t<=1099511627776 by omega)];simp
 ·rw[decide_eq_false h1];rfl
theorem Nor.inI{l:List Iv}{lo:Int}(h:Nor lo l)(h0:0<=lo)(t:Int):inI l t=l.any (inP t):=by
 by_cases ht:0<=t/\t<=1099511627776
 ·exact zb ht
 ·rw[uh ht]
  symm
  by_cases h1:t<0
  ·exact h.out (by omega)
  ·have hb:∀{l:List Iv} {lo:Int},Nor lo l->t > 1099511627776->l.any (inP t)=false:=by
    intro l
    induction l with
    |nil=>intros;rfl
    |cons x r ih =>
     intro lo h h2
     rw[List.any_cons,uq.2 (by have:=h.2.2.1;omega),ih h.2.2.2 h2];rfl
   exact hb h (by omega)
theorem qer(f t s:Int):∀l:List Iv,(l.filterMap (za f t)).any (inP s)=(l.any (inP s)&&decide (f<=s/\s<=t))
 | []=>rfl
 |x::r=>by
  rw[List.filterMap_cons,List.any_cons]
  have ih:=qer f t s r
  unfold za
  have e:(if f > x.frm then f else x.frm)<=s↔f<=s/\x.frm<=s:=by split <;> omega
  have e':s<=(if t<x.to then t else x.to)↔s<=t/\s<=x.to:=by split <;> omega
  by_cases hc:(if f > x.frm then f else x.frm)<=(if t<x.to then t else x.to)
  ·rw[if_pos hc]
   simp only[List.any_cons]
   unfold za at ih
   rw[ih]
   have:inP s ⟨if f > x.frm then f else x.frm,if t<x.to then t else x.to⟩=(inP s x&&decide (f<=s/\s<=t)):=by
    rw[Bool.eq_iff_iff,Bool.and_eq_true,je,je,decide_eq_true_eq]
    simp only[e,e'];omega
   rw[this,<-Bool.and_or_distrib_right]
  ·rw[if_neg hc]
   simp only
   unfold za at ih
   rw[ih]
   have:(inP s x&&decide (f<=s/\s<=t))=false:=by
    rw[Bool.eq_false_iff,ne_eq,Bool.and_eq_true,je,decide_eq_true_eq]
    intro hh
    exact hc (Int.le_trans (e.2 ⟨hh.2.1,hh.1.1⟩) (e'.2 ⟨hh.2.2,hh.1.2⟩))
   rw[Bool.and_or_distrib_right,this,Bool.false_or]
def qkx(p:Iv):List Iv->List Iv
 | []=>[p]
 |x::r=>if x.frm<=p.to+1 then qkx ⟨p.frm,if x.to > p.to then x.to else p.to⟩ r else p::qkx x r
theorem qky(acc:List Iv)(p x:Iv)(h:0<=p.to/\p.to<=1099511627776):mrg (acc++[p]) x=if x.frm<=p.to+1 then acc++[⟨p.frm,if x.to > p.to then x.to else p.to⟩] else acc++[p]++[x]:=by
 unfold mrg yo
 have h1:(acc++[p]).length-1=acc.length:=by simp
 rw[h1,d6,jk (by omega) (by omega)]
 simp
theorem ox:∀(r acc:List Iv) (p:Iv),(0<=p.to/\p.to<=1099511627776)->(∀x∈r,0<=x.to/\x.to<=1099511627776)->r.foldl mrg (acc++[p])=acc++qkx p r
 | [],_,_,_,_=>rfl
 |x::r,acc,p,h,hr=>by
  have hx:=hr x (List.mem_cons_self ..)
  rw[List.foldl_cons,qky acc p x h]
  simp only[qkx]
  split
  ·exact ox r acc _ (by simp only;split <;> omega) fun y hy=>hr y (List.mem_cons_of_mem _ hy)
  ·rw[ox r (acc++[p]) x hx fun y hy=>hr y (List.mem_cons_of_mem _ hy)]
   simp
theorem an:∀(r:List Iv) (p:Iv) (lo:Int),r.Pairwise (fun x y=>x.frm<=y.frm)->(∀x∈r,p.frm<=x.frm/\x.frm<=x.to/\x.to<=1099511627776)->lo<=p.frm->p.frm<=p.to->p.to<=1099511627776 ->
  Nor lo (qkx p r)/\∀s,(qkx p r).any (inP s)=(inP s p || r.any (inP s))
 | [],p,lo,_,_,h1,h2,h3=>⟨⟨h1,h2,h3,trivial⟩,fun s=>by simp[qkx]⟩
 |x::r,p,lo,hs,hr,h1,h2,h3=>by
  rw[List.pairwise_cons]at hs
  obtain⟨hs1,hs2⟩:=hs
  have hx:=hr x (List.mem_cons_self ..)
  simp only[qkx]
  split
  ·rename_i hc
   obtain⟨g1,g2⟩:=an r ⟨p.frm,if x.to > p.to then x.to else p.to⟩ lo hs2 (fun y hy=>hr y (List.mem_cons_of_mem _ hy)) h1 (by simp only;split <;> omega) (by simp only;split <;> omega)
   refine⟨g1,fun s=> ?_⟩
   rw[g2 s,List.any_cons,<-Bool.or_assoc]
   congr 1
   rw[Bool.eq_iff_iff,Bool.or_eq_true,je,je,je]
   simp only
   split <;> omega
  ·rename_i hc
   obtain⟨g1,g2⟩:=an r x (p.to+2) hs2 (fun y hy=>⟨hs1 y hy,(hr y (List.mem_cons_of_mem _ hy)).2⟩) (by omega) hx.2.1 hx.2.2
   refine⟨⟨h1,h2,h3,g1⟩,fun s=> ?_⟩
   rw[List.any_cons,List.any_cons,g2 s]
theorem gf(l:List Iv)(f t:Int):Nor 0 (jn l f t)/\∀s,(jn l f t).any (inP s)=(l.any (inP s)&&decide (loT f<=s/\s<=hiT t)):=by
 obtain⟨p1,p2⟩:=qbv (l.filterMap (za (loT f) (hiT t)))
 have hm:∀x∈cn (l.filterMap (za (loT f) (hiT t))),0<=x.frm/\x.frm<=x.to/\x.to<=1099511627776:=fun x hx=>by
  obtain⟨y,hy,he⟩:=List.mem_filterMap.1 (p1.mem_iff.1 hx)
  unfold za at he
  by_cases hc:(if loT f > y.frm then loT f else y.frm)<=(if hiT t<y.to then hiT t else y.to)
  ·rw[if_pos hc]at he
   have he:=Option.some.inj he
   rw[<-he]
   refine⟨?_,hc,?_⟩
   ·simp only;unfold loT;split <;> split <;> omega
   ·simp only;unfold hiT;split <;> split <;> omega
  ·rw[if_neg hc]at he
   cases he
 have hany:∀s,(cn (l.filterMap (za (loT f) (hiT t)))).any (inP s)=(l.any (inP s)&&decide (loT f<=s/\s<=hiT t)):=fun s=>by
  rw[<-qer,p1.any_eq]
 unfold jn
 generalize cn (l.filterMap (za (loT f) (hiT t)))=q at p2 hm hany⊢
 cases q with
 |nil=>exact⟨trivial,fun s=>by rw[<-hany s];rfl⟩
 |cons x r =>
  have hx:=hm x (List.mem_cons_self ..)
  rw[List.pairwise_cons]at p2
  have e:(x::r).foldl mrg []=qkx x r:=by
   rw[List.foldl_cons]
   exact ox r [] x ⟨by omega,hx.2.2⟩ fun y hy=>by have:=hm y (List.mem_cons_of_mem _ hy);omega
  obtain⟨g1,g2⟩:=an r x 0 p2.2 (fun y hy=>⟨p2.1 y hy,(hm y (List.mem_cons_of_mem _ hy)).2⟩) hx.1 hx.2.1 hx.2.2
  rw[e]
  refine⟨g1,fun s=> ?_⟩
  rw[g2,<-hany s,List.any_cons]
theorem rx:∀(l:List Int) (n x:Int),x∈ga l n↔x=n\/x∈l
 | [],n,x=>by simp[ga]
 |y::r,n,x=>by
  simp only[ga]
  split
  ·rw[List.mem_cons,rx r n x,List.mem_cons]
   constructor
   ·rintro(h|h|h) <;> simp[h]
   ·rintro(h|h|h) <;> simp[h]
  ·split
   ·rename_i h
    subst h
    simp
   ·simp
theorem oy:∀(l:List Int) (n:Int),l.Pairwise (· < ·)->(ga l n).Pairwise (· < ·)
 | [],n,_=>by simp[ga]
 |y::r,n,h=>by
  rw[List.pairwise_cons]at h
  simp only[ga]
  split
  ·rename_i hl
   rw[List.pairwise_cons]
   refine⟨fun x hx=> ?_,oy r n h.2⟩
   rcases(rx r n x).1 hx with rfl|hx
   ·exact hl
   ·exact h.1 x hx
  ·split
   ·rw[List.pairwise_cons];exact h
   ·rename_i h1 h2
    rw[List.pairwise_cons,List.pairwise_cons]
    refine⟨fun x hx=> ?_,h⟩
    rcases List.mem_cons.1 hx with rfl|hx
    ·omega
    ·have:=h.1 x hx;omega
structure Cu(c:List Int):Prop where
 srt:c.Pairwise (· < ·)
 bd:∀x∈c,0<=x/\x<=1099511627777
 z:0∈c
 m:1099511627777∈c
theorem qt0(x:Iv):0<=bdL x/\bdR x<=1099511627776:=by
 unfold bdL bdR
 constructor <;> split <;> omega
theorem qnf{c:List Int}(h:Cu c)(x:Iv):Cu (io c x)/\(∀y∈c,y∈io c x)/\(bdL x<=bdR x->bdL x∈io c x/\bdR x+1∈io c x):=by
 have hb:=qt0 x
 unfold io
 by_cases hc:bdL x<=bdR x
 ·rw[decide_eq_true hc,jk (by omega) (by omega)]
  simp only[cond_true]
  have hm:∀y,y∈ga (ga c (bdL x)) (bdR x+1)↔y=bdR x+1\/y=bdL x\/y∈c:=fun y=>by rw[rx,rx]
  refine⟨⟨oy _ _ (oy _ _ h.srt),fun y hy=> ?_,(hm _).2 (.inr (.inr h.z)),(hm _).2 (.inr (.inr h.m))⟩,fun y hy=>(hm _).2 (.inr (.inr hy)),fun _=>⟨(hm _).2 (.inr (.inl rfl)),(hm _).2 (.inl rfl)⟩⟩
  rcases(hm y).1 hy with rfl|rfl|hy
  ·omega
  ·omega
  ·exact h.bd y hy
 ·rw[decide_eq_false hc]
  exact⟨h,fun _ h=>h,fun h=>absurd h hc⟩
theorem qpy:∀(l:List Iv) (c:List Int),Cu c->Cu (l.foldl io c)/\(∀y∈c,y∈l.foldl io c)/\∀x∈l,bdL x<=bdR x->bdL x∈l.foldl io c/\bdR x+1∈l.foldl io c
 | [],c,h=>⟨h,fun _ h=>h,fun _ h=>by cases h⟩
 |x::r,c,h=>by
  obtain⟨h1,h2,h3⟩:=qnf h x
  obtain⟨g1,g2,g3⟩:=qpy r (io c x) h1
  refine⟨g1,fun y hy=>g2 y (h2 y hy),fun y hy hb=> ?_⟩
  rcases List.mem_cons.1 hy with rfl|hy
  ·exact⟨g2 _ (h3 hb).1,g2 _ (h3 hb).2⟩
  ·exact g3 y hy hb
theorem qic(a b:List Iv):Cu (xu a b)/\∀x,x∈a\/x∈b->bdL x<=bdR x->bdL x∈xu a b/\bdR x+1∈xu a b:=by
 obtain⟨h1,_,h3⟩:=qpy (a++b) [0,1099511627777] ⟨by simp,by simp,by simp,by simp⟩
 exact⟨h1,fun x hx=>h3 x (List.mem_append.2 hx)⟩
theorem qbw{l:List Iv}{c:List Int}(_hc:Cu c)(hl:∀x∈l,bdL x<=bdR x->bdL x∈c/\bdR x+1∈c){f s:Int}(_hf:f∈c)(h0:0<=f)(h1:f<=s)(h2:s<=1099511627776)(hn:∀e∈c,¬(f<e/\e<=s)):inI l f=inI l s:=by
 rw[zb ⟨by omega,by omega⟩,zb ⟨by omega,by omega⟩]
 rw[Bool.eq_iff_iff,List.any_eq_true,List.any_eq_true]
 refine exists_congr fun x=>and_congr_right fun hx=> ?_
 rw[je,je]
 have hb:=hl x hx
 unfold bdL bdR at hb
 constructor
 ·rintro⟨k1,k2⟩
  have h3:(if 0 > x.frm then 0 else x.frm)<=(if 1099511627776<x.to then 1099511627776 else x.to):=by split <;> split <;> omega
  obtain⟨b1,b2⟩:=hb h3
  have:=hn _ b2
  refine⟨by omega,?_⟩
  split at this <;> omega
 ·rintro⟨k1,k2⟩
  have h3:(if 0 > x.frm then 0 else x.frm)<=(if 1099511627776<x.to then 1099511627776 else x.to):=by split <;> split <;> omega
  obtain⟨b1,b2⟩:=hb h3
  have:=hn _ b1
  refine⟨?_,by omega⟩
  split at this <;> omega
def qf7(ok:Int->Bool):Option Iv->List Int->List Iv
 |p,f::t::r=>bif ok f then(match p with|some y=>if y.to=f-1 then qf7 ok (some ⟨y.frm,t-1⟩) (t::r) else y::qf7 ok (some ⟨f,t-1⟩) (t::r)|none=>qf7 ok (some ⟨f,t-1⟩) (t::r)) else qf7 ok p (t::r)
 |p,[_]=>p.toList
 |p,[]=>p.toList
theorem qid(acc:List Iv)(p:Iv)(f t:Int)(hf:0<=f/\f<=1099511627777)(ht:0<=t/\t<=1099511627777):l8 (acc++[p]) f t=if p.to=f-1 then acc++[⟨p.frm,t-1⟩] else acc++[p]++[⟨f,t-1⟩]:=by
 unfold l8
 have h1:(acc++[p]).length-1=acc.length:=by simp
 rw[h1,d6,jy (by omega) (by omega),jy (by omega) (by omega)]
 simp
theorem mi(a b:List Iv)(rule:Int):∀(c:List Int) (acc:List Iv) (p:Option Iv),(p=none->acc=[])->(∀x∈c,0<=x/\x<=1099511627777)->ro a b rule c (acc++p.toList)=acc++qf7 (fun f=>okR rule (inI a f) (inI b f)) p c
 | [],acc,p,_,_=>by simp[ro,qf7]
 | [_],acc,p,_,_=>by simp[ro,qf7]
 |f::t::r,acc,p,hp,hb=>by
  have hf:=hb f (by simp)
  have ht:=hb t (by simp)
  have hr:∀x∈t::r,0<=x/\x<=1099511627777:=fun x hx=>hb x (List.mem_cons_of_mem _ hx)
  simp only[ro,qf7]
  cases hok:okR rule (inI a f) (inI b f) with
  |false=>exact mi a b rule (t::r) acc p hp hr
  |true =>
   simp only[cond_true]
   cases p with
   |none =>
    have:=hp rfl
    subst this
    have e:l8 ([]++(none:Option Iv).toList) f t=[]++(some (⟨f,t-1⟩:Iv)).toList:=by
     unfold l8
     rw[jy (by omega) (by omega),jy (by omega) (by omega)]
     simp
    rw[e]
    exact mi a b rule (t::r) [] _ (by simp) hr
   |some y =>
    have e:=qid acc y f t hf ht
    simp only[Option.toList]
    rw[e]
    split
    ·exact mi a b rule (t::r) acc (some _) (by simp) hr
    ·have:=mi a b rule (t::r) (acc++[y]) (some ⟨f,t-1⟩) (by simp) hr
     simp only[Option.toList]at this
     rw[this];simp
def qf8(ok:Int->Bool):List Int->Int->Bool
 |f::t::r,s=>(decide (f<=s/\s<t)&&ok f) || qf8 ok (t::r) s
 | [_],_=>false
 | [],_=>false
theorem oz(ok:Int->Bool):∀(c:List Int) (s:Int),(∀x∈c,s<x)->qf8 ok c s=false
 | [],_,_=>rfl
 | [_],_,_=>rfl
 |f::t::r,s,h=>by
  have:=h f (by simp)
  simp only[qf8]
  rw[decide_eq_false (by omega),oz ok (t::r) s fun x hx=>h x (List.mem_cons_of_mem _ hx)];rfl
theorem qde(ok:Int->Bool):∀(c:List Int) (s:Int),(∀x∈c,x<=s)->qf8 ok c s=false
 | [],_,_=>rfl
 | [_],_,_=>rfl
 |f::t::r,s,h=>by
  have:=h t (by simp)
  simp only[qf8]
  rw[decide_eq_false (by omega),qde ok (t::r) s fun x hx=>h x (List.mem_cons_of_mem _ hx)];rfl
theorem qdf(ok:Int->Bool):∀(c:List Int) (s:Int) (v:Bool),c.Pairwise (· < ·)->(∃x∈c,x<=s)->(∃x∈c,s<x)->(∀f∈c,f<=s->(∀e∈c,¬(f<e/\e<=s))->ok f=v)->qf8 ok c s=v
 | [],_,_,_,⟨x,h,_⟩,_,_=>by cases h
 | [x],s,_,_,⟨y,h,h1⟩,⟨z,h',h2⟩,_=>by simp at h h';omega
 |f::t::r,s,v,hs,he1,he2,H=>by
  have hs':=hs
  rw[List.pairwise_cons]at hs
  simp only[qf8]
  by_cases ht:s<t
  ·have hr:∀x∈t::r,s<x:=fun x hx=>by
    rcases List.mem_cons.1 hx with rfl|hx
    ·exact ht
    ·have:=(List.pairwise_cons.1 hs.2).1 x hx;omega
   rw[oz ok (t::r) s hr,Bool.or_false]
   have hf:f<=s:=by
    obtain⟨x,hx,h1⟩:=he1
    rcases List.mem_cons.1 hx with rfl|hx
    ·exact h1
    ·have:=hr x hx;omega
   rw[decide_eq_true ⟨hf,ht⟩,Bool.true_and]
   refine H f (by simp) hf fun e he hh=> ?_
   rcases List.mem_cons.1 he with rfl|he
   ·omega
   ·have:=hr e he;omega
  ·rw[decide_eq_false (by omega),Bool.false_and,Bool.false_or]
   refine qdf ok (t::r) s v hs.2 ⟨t,by simp,by omega⟩ ?_ fun g hg hgs hn=>H g (List.mem_cons_of_mem _ hg) hgs fun e he hh=> ?_
   ·obtain⟨x,hx,h1⟩:=he2
    rcases List.mem_cons.1 hx with rfl|hx
    ·have:=hs.1 t (by simp);omega
    ·exact⟨x,hx,h1⟩
   ·rcases List.mem_cons.1 he with rfl|he
    ·have:=hs.1 g hg;omega
    ·exact hn e he hh
theorem pt(ok:Int->Bool):∀(c:List Int) (p:Option Iv) (lo:Int),c.Pairwise (· < ·)->(∀x∈c,lo<=x/\x<=1099511627777)->(∀y∈p,lo<=y.frm/\y.frm<=y.to/\y.to<=1099511627776/\∀x∈c,y.to<x)->
  Nor lo (qf7 ok p c)/\∀s,(qf7 ok p c).any (inP s)=(p.toList.any (inP s) || qf8 ok c s)
 | [],p,lo,_,_,hp=>by
  simp only[qf7,qf8]
  refine⟨?_,fun s=>by simp⟩
  cases p with
  |none=>trivial
  |some y=>have:=hp y rfl;exact⟨this.1,this.2.1,this.2.2.1,trivial⟩
 | [_],p,lo,_,_,hp=>by
  simp only[qf7,qf8]
  refine⟨?_,fun s=>by simp⟩
  cases p with
  |none=>trivial
  |some y=>have:=hp y rfl;exact⟨this.1,this.2.1,this.2.2.1,trivial⟩
 |f::t::r,p,lo,hs,hb,hp=>by
  have hs':=hs
  rw[List.pairwise_cons]at hs
  have hf:=hb f (by simp)
  have ht:=hb t (by simp)
  have hft:=hs.1 t (by simp)
  have hr:∀x∈t::r,lo<=x/\x<=1099511627777:=fun x hx=>hb x (List.mem_cons_of_mem _ hx)
  have htr:∀x∈t::r,t-1<x:=fun x hx=>by
   rcases List.mem_cons.1 hx with rfl|hx
   ·omega
   ·have:=(List.pairwise_cons.1 hs.2).1 x hx;omega
  simp only[qf7,qf8]
  cases hok:ok f with
  |false =>
   simp only[cond_false,Bool.and_false,Bool.false_or]
   exact pt ok (t::r) p lo hs.2 hr fun y hy=>by
    obtain⟨h1,h2,h3,h4⟩:=hp y hy
    exact⟨h1,h2,h3,fun x hx=>h4 x (List.mem_cons_of_mem _ hx)⟩
  |true =>
   simp only[cond_true,Bool.and_true]
   cases p with
   |none =>
    obtain⟨g1,g2⟩:=pt ok (t::r) (some ⟨f,t-1⟩) lo hs.2 hr fun y hy=>by
     cases hy
     exact⟨hf.1,by simp only;omega,by simp only;omega,htr⟩
    refine⟨g1,fun s=> ?_⟩
    rw[g2 s]
    simp only[Option.toList,List.any_cons,List.any_nil,Bool.or_false,Bool.false_or]
    congr 1
    rw[Bool.eq_iff_iff,je,decide_eq_true_eq]
    simp only;omega
   |some y =>
    obtain⟨h1,h2,h3,h4⟩:=hp y rfl
    have h5:=h4 f (by simp)
    simp only
    split
    ·rename_i he
     obtain⟨g1,g2⟩:=pt ok (t::r) (some ⟨y.frm,t-1⟩) lo hs.2 hr fun z hz=>by
      cases hz
      exact⟨h1,by simp only;omega,by simp only;omega,htr⟩
     refine⟨g1,fun s=> ?_⟩
     rw[g2 s]
     simp only[Option.toList,List.any_cons,List.any_nil,Bool.or_false]
     rw[<-Bool.or_assoc]
     congr 1
     rw[Bool.eq_iff_iff,Bool.or_eq_true,je,je,decide_eq_true_eq]
     simp only;omega
    ·rename_i he
     obtain⟨g1,g2⟩:=pt ok (t::r) (some ⟨f,t-1⟩) (y.to+2) hs.2 (fun x hx=>⟨by have:=hs.1 x hx;omega,(hr x hx).2⟩) fun z hz=>by
      cases hz
      exact⟨by simp only;omega,by simp only;omega,by simp only;omega,htr⟩
     refine⟨⟨h1,h2,h3,g1⟩,fun s=> ?_⟩
     rw[List.any_cons,g2 s]
     simp only[Option.toList,List.any_cons,List.any_nil,Bool.or_false]
     congr 2
     rw[Bool.eq_iff_iff,je,decide_eq_true_eq]
     simp only;omega
theorem o0(a b:List Iv)(rule:Int):Nor 0 (ro a b rule (xu a b) [])/\∀s,(ro a b rule (xu a b) []).any (inP s)=(decide (0<=s/\s<=1099511627776)&&okR rule (inI a s) (inI b s)):=by
 obtain⟨hc,hm⟩:=qic a b
 have e:=mi a b rule (xu a b) [] none (fun _=>rfl) hc.bd
 simp only[Option.toList,List.append_nil,List.nil_append]at e
 rw[e]
 obtain⟨g1,g2⟩:=pt (fun f=>okR rule (inI a f) (inI b f)) (xu a b) none 0 hc.srt hc.bd (by simp)
 refine⟨g1,fun s=> ?_⟩
 rw[g2 s]
 simp only[Option.toList,List.any_nil,Bool.false_or]
 by_cases hs:0<=s/\s<=1099511627776
 ·rw[decide_eq_true hs,Bool.true_and]
  refine qdf _ _ s _ hc.srt ⟨0,hc.z,hs.1⟩ ⟨_,hc.m,by omega⟩ fun f hf hfs hn=> ?_
  have h0:=(hc.bd f hf).1
  have e1:=qbw hc (fun x hx=>hm x (.inl hx)) hf h0 hfs hs.2 hn
  have e2:=qbw hc (fun x hx=>hm x (.inr hx)) hf h0 hfs hs.2 hn
  simp only[e1,e2]
 ·rw[decide_eq_false hs,Bool.false_and]
  by_cases h1:s<0
  ·exact oz _ _ _ fun x hx=>by have:=hc.bd x hx;omega
  ·exact qde _ _ _ fun x hx=>by have:=hc.bd x hx;omega
theorem qkz(a:List Iv):Nor 0 (qkm a)/\∀s,(qkm a).any (inP s)=inI a s:=by
 obtain⟨h1,h2⟩:=o0 a [] 0
 refine⟨h1,fun s=> ?_⟩
 unfold qkm
 rw[h2 s]
 by_cases hs:0<=s/\s<=1099511627776
 ·rw[decide_eq_true hs,zb (l:=[]) hs]
  cases inI a s <;> rfl
 ·rw[decide_eq_false hs,uh hs];rfl
def gz(l:List Iv):List Int:=l.flatMap fun x=>[x.frm,qg .i64 x.to 1]
def qf9(l:List Int):List Int:=l.mergeSort fun x y=>decide (x<=y)
def o3(a b:List Iv):List Int:=Lib.compact (qf9 (gz a++gz b))
theorem qbx(l:List Int):(qf9 l).Perm l/\(qf9 l).Pairwise (· <= ·):=by
 refine⟨List.mergeSort_perm _ _,?_⟩
 have:=List.pairwise_mergeSort (le:=fun x y:Int=>decide (x<=y)) (fun a b c h1 h2=>by simp at *;omega) (fun a b=>by simp;omega) l
 exact this.imp fun h=>by simpa using h
theorem ao(l:List Int)(h:l.Pairwise (· <= ·)):∀m,m<=l.length->(Lib.compactUpTo l.toArray m).Pairwise (· < ·)/\∀x,x∈Lib.compactUpTo l.toArray m↔x∈l.take m
 |0,_=>by simp[Lib.compactUpTo]
 |m+1,hm=>by
  obtain⟨h1,h2⟩:=ao l h m (by omega)
  have hlt:m<l.length:=by omega
  have hg:l.toArray[m]! = l[m]:=by rw[getElem!_pos _ m (by simpa using hlt)];simp
  have ht:∀x,x∈l.take (m+1)↔x∈l.take m\/x=l[m]:=fun x=>by
   rw[List.take_succ_eq_append_getElem hlt,List.mem_append,List.mem_singleton]
  have hle:∀x∈l.take m,x<=l[m]:=fun x hx=>by
   obtain⟨i,hi,rfl⟩:=List.mem_iff_getElem.1 hx
   have hi':i<m:=by simp at hi;omega
   rw[List.getElem_take]
   exact List.pairwise_iff_getElem.1 h i m (by omega) hlt hi'
  rw[Lib.compactUpTo_succ,hg]
  by_cases hk:Lib.keeps l.toArray m=true
  ·rw[if_pos hk]
   refine⟨List.pairwise_append.2 ⟨h1,List.pairwise_singleton _ _,fun x hx y hy=> ?_⟩,fun x=> ?_⟩
   ·have hy:y=l[m]:=by simpa using hy
    subst hy
    have hx:=(h2 x).1 hx
    have h3:=hle x hx
    rcases Nat.eq_zero_or_pos m with h0|h0
    ·subst h0;simp at hx
    ·have hm1:m-1<l.length:=by omega
     have hne:l[m]≠l[m-1]:=fun e=>by
      have:Lib.keeps l.toArray m=false:=Lib.keeps_neg h0 (by rw[hg,getElem!_pos _ (m-1) (by simpa using hm1)];simpa using e)
      rw[hk]at this;cases this
     have hxm:x<=l[m-1]:=by
      obtain⟨i,hi,rfl⟩:=List.mem_iff_getElem.1 hx
      have hi':i<m:=by simp at hi;omega
      rw[List.getElem_take]
      rcases Nat.lt_or_ge i (m-1) with h5|h5
      ·exact List.pairwise_iff_getElem.1 h i (m-1) (by omega) hm1 h5
      ·have:i=m-1:=by omega
       subst this;exact Int.le_refl _
     have:=List.pairwise_iff_getElem.1 h (m-1) m hm1 hlt (by omega)
     omega
   ·rw[List.mem_append,h2,ht];simp
  ·rw[if_neg hk,List.append_nil]
   refine⟨h1,fun x=> ?_⟩
   rw[h2,ht]
   refine⟨.inl,fun hx=>hx.elim id fun e=> ?_⟩
   rcases Nat.eq_zero_or_pos m with h0|h0
   ·subst h0
    exact absurd (Lib.keeps_lt_one l.toArray 0 (by omega)) hk
   ·have hm1:m-1<l.length:=by omega
    have he:l[m]=l[m-1]:=by
     rcases Classical.em (l[m]=l[m-1]) with h5|h5
     ·exact h5
     ·exact absurd (Lib.keeps_pos (d:=l.toArray) (m:=m) (by rw[hg,getElem!_pos _ (m-1) (by simpa using hm1)];simpa using h5)) hk
    rw[e,he]
    exact List.mem_iff_getElem.2 ⟨m-1,by simp;omega,by rw[List.getElem_take]⟩
theorem qby(a b:List Iv):(o3 a b).Pairwise (· < ·)/\∀x,x∈o3 a b↔x∈gz a\/x∈gz b:=by
 obtain⟨h1,h2⟩:=qbx (gz a++gz b)
 obtain⟨h3,h4⟩:=ao _ h2 _ (Nat.le_refl _)
 refine⟨h3,fun x=> ?_⟩
 show x∈Lib.compactUpTo (qf9 (gz a++gz b)).toArray _↔_
 rw[h4,List.take_length,h1.mem_iff,List.mem_append]
def qjj(rule:Bool->Bool->Bool)(a b:List Iv):List Int->List Iv
 |p::q::r=>(if rule (a.any (inP p)) (b.any (inP p))=true then[⟨p,qj .i64 q 1⟩] else[])++qjj rule a b (q::r)
 |_=>[]
theorem qes(rule:Bool->Bool->Bool)(a b:List Iv):∀(c:List Int) (s:Int),(∀x∈c,0<=x/\x<=1099511627777)->(qjj rule a b c).any (inP s)=qf8 (fun p=>rule (a.any (inP p)) (b.any (inP p))) c s
 | [],_,_=>rfl
 | [_],_,_=>rfl
 |p::q::r,s,h=>by
  have hq:=h q (by simp)
  rw[qjj,qf8,List.any_append,qes rule a b (q::r) s fun x hx=>h x (List.mem_cons_of_mem _ hx)]
  have e:qj .i64 q 1=q-1:=jy (by omega) (by omega)
  by_cases hr:rule (a.any (inP p)) (b.any (inP p))=true
  ·rw[if_pos hr,e,List.any_cons,List.any_nil,Bool.or_false]
   simp only[hr,Bool.and_true]
   congr 1
   by_cases hs:p<=s/\s<q
   ·rw[decide_eq_true hs];exact je.2 ⟨hs.1,by show s<=q-1;omega⟩
   ·rw[decide_eq_false hs];exact uq.2 (by show ¬(p<=s/\s<=q-1);omega)
  ·rw[if_neg hr]
   have:rule (a.any (inP p)) (b.any (inP p))=false:=by simpa using hr
   simp only[this,Bool.and_false,List.any_nil]
theorem Nor.bds:∀{l:List Iv} {lo:Int},Nor lo l->∀x∈l,lo<=x.frm/\x.frm<=x.to/\x.to<=1099511627776
 | [],_,_,_,h=>by cases h
 |y::r,lo,⟨h1,h2,h3,h4⟩,x,h=>by
  rcases List.mem_cons.1 h with rfl|h
  ·exact⟨h1,h2,h3⟩
  ·have:=Nor.bds h4 x h
   exact⟨by omega,this.2⟩
theorem qet{l:List Iv}(h:∀x∈l,0<=x.frm/\x.frm<=x.to/\x.to<=1099511627776)(p:Int):p∈gz l↔∃x∈l,p=x.frm\/p=x.to+1:=by
 unfold gz
 rw[List.mem_flatMap]
 constructor
 ·rintro⟨x,hx,hp⟩
  have hb:=h x hx
  rw[jk (by omega) (by omega)]at hp
  exact⟨x,hx,by simpa using hp⟩
 ·rintro⟨x,hx,hp⟩
  have hb:=h x hx
  refine⟨x,hx,?_⟩
  rw[jk (by omega) (by omega)]
  simpa using hp
theorem qbz{l:List Iv}{c:List Int}(hl:∀x∈l,x.frm∈c/\x.to+1∈c){f s:Int}(h1:f<=s)(hn:∀e∈c,¬(f<e/\e<=s)):l.any (inP f)=l.any (inP s):=by
 induction l with
 |nil=>rfl
 |cons x r ih =>
  rw[List.any_cons,List.any_cons,ih fun y hy=>hl y (List.mem_cons_of_mem _ hy)]
  congr 1
  obtain⟨k1,k2⟩:=hl x (List.mem_cons_self ..)
  have n1:=hn _ k1
  have n2:=hn _ k2
  by_cases hi:x.frm<=s/\s<=x.to
  ·rw[je.2 hi,je.2 (by omega)]
  ·rw[uq.2 hi,uq.2 (by omega)]
theorem o4{l:List Iv}{s:Int}(h:∀x∈l,¬(x.frm<=s/\s<=x.to)):l.any (inP s)=false:=by
 rw[List.any_eq_false]
 intro x hx hc
 exact h x hx (je.1 hc)
theorem qie(rule:Bool->Bool->Bool)(hr:rule false false=false){a b:List Iv}(ha:Nor 0 a)(hb:Nor 0 b)(s:Int):(qjj rule a b (o3 a b)).any (inP s)=rule (a.any (inP s)) (b.any (inP s)):=by
 obtain⟨h1,h2⟩:=qby a b
 have ba:=ha.bds
 have bb:=hb.bds
 have hm:∀x,x∈o3 a b↔(∃y∈a,x=y.frm\/x=y.to+1)\/∃y∈b,x=y.frm\/x=y.to+1:=fun x=>by rw[h2,qet ba,qet bb]
 have ca:∀x∈a,x.frm∈o3 a b/\x.to+1∈o3 a b:=fun x hx=>⟨(hm _).2 (.inl ⟨x,hx,.inl rfl⟩),(hm _).2 (.inl ⟨x,hx,.inr rfl⟩)⟩
 have cb:∀x∈b,x.frm∈o3 a b/\x.to+1∈o3 a b:=fun x hx=>⟨(hm _).2 (.inr ⟨x,hx,.inl rfl⟩),(hm _).2 (.inr ⟨x,hx,.inr rfl⟩)⟩
 have hbd:∀x∈o3 a b,0<=x/\x<=1099511627777:=fun x hx=>by
  rcases(hm x).1 hx with ⟨y,hy,h|h⟩|⟨y,hy,h|h⟩
  ·have:=ba y hy;omega
  ·have:=ba y hy;omega
  ·have:=bb y hy;omega
  ·have:=bb y hy;omega
 rw[qes rule a b _ s hbd]
 generalize o3 a b=c at *
 by_cases g1:∃x∈c,x<=s
 ·by_cases g2:∃x∈c,s<x
  ·refine qdf _ c s _ h1 g1 g2 fun f _ hfs hn=> ?_
   simp only[qbz ca hfs hn,qbz cb hfs hn]
  ·have g2:∀x∈c,x<=s:=fun x hx=>by
    rcases Int.lt_or_le s x with h|h
    ·exact absurd ⟨x,hx,h⟩ g2
    ·exact h
   rw[qde _ c s g2,o4 fun x hx=>by have:=g2 _ (ca x hx).2;omega,o4 fun x hx=>by have:=g2 _ (cb x hx).2;omega,hr]
 ·have g1:∀x∈c,s<x:=fun x hx=>by
   rcases Int.lt_or_le s x with h|h
   ·exact h
   ·exact absurd ⟨x,hx,h⟩ g1
  rw[oz _ c s g1,o4 fun x hx=>by have:=g1 _ (ca x hx).1;omega,o4 fun x hx=>by have:=g1 _ (cb x hx).1;omega,hr]
theorem qpz(n:Int):okR n false false=false:=by
 unfold okR
 cases n==2
 ·cases n==1 <;> rfl
 ·rfl
def cmR(n:Int)(a b:List Iv):List Iv:=ro a b n (xu a b) []
def vr(l:List Iv):List Iv:=jn l 0 1099511627776
theorem qt1:loT 0=0:=rfl
theorem q2j:hiT 1099511627776=1099511627776:=rfl
theorem xe(l:List Iv):Nor 0 (vr l)/\∀s,(vr l).any (inP s)=inI l s:=by
 obtain⟨h1,h2⟩:=gf l 0 1099511627776
 refine⟨h1,fun s=> ?_⟩
 unfold vr
 rw[h2,qt1,q2j]
 by_cases hs:0<=s/\s<=1099511627776
 ·rw[decide_eq_true hs,Bool.and_true,zb hs]
 ·rw[decide_eq_false hs,Bool.and_false,uh hs]
theorem qng(n:Int)(a b:List Iv):vr (qjj (okR n) (vr a) (vr b) (o3 (vr a) (vr b)))=cmR n a b:=by
 obtain⟨a1,a2⟩:=xe a
 obtain⟨b1,b2⟩:=xe b
 obtain⟨g1,g2⟩:=xe (qjj (okR n) (vr a) (vr b) (o3 (vr a) (vr b)))
 obtain⟨k1,k2⟩:=o0 a b n
 refine qkw g1 k1 fun s=> ?_
 rw[g2,show cmR n a b=ro a b n (xu a b) [] from rfl,k2]
 by_cases hs:0<=s/\s<=1099511627776
 ·rw[zb hs,qie (okR n) (qpz n) a1 b1,a2,b2,decide_eq_true hs,Bool.true_and]
 ·rw[uh hs,decide_eq_false hs,Bool.false_and]
theorem gh(n:Int)(a b:List Iv):Nor 0 (cmR n a b)/\∀s,(cmR n a b).any (inP s)=(decide (0<=s/\s<=1099511627776)&&okR n (inI a s) (inI b s)):=o0 a b n
def ixA(l:List Iv)(t:Int):Nat:=(l.takeWhile fun x=>decide (x.to<t)).length
theorem qnh{l:List Iv}{lo:Int}(h:Nor lo l)(t:Int):l.any (inP t)=decide (ixA l t<l.length/\(l.getD (ixA l t) default).frm<=t):=by
 induction l generalizing lo with
 |nil=>rfl
 |cons x r ih =>
  obtain⟨h1,h2,h3,h4⟩:=h
  unfold ixA at ih⊢
  rw[List.any_cons,List.takeWhile_cons]
  by_cases hx:x.to<t
  ·rw[decide_eq_true hx,if_pos rfl,uq.2 (by omega),Bool.false_or,ih h4]
   simp only[List.length_cons,List.getD_cons_succ,Nat.add_lt_add_iff_right]
  ·rw[decide_eq_false hx,if_neg (by simp)]
   by_cases hf:x.frm<=t
   ·rw[je.2 ⟨hf,by omega⟩,Bool.true_or]
    symm
    exact decide_eq_true ⟨by simp,hf⟩
   ·rw[uq.2 (by omega),Bool.false_or,h4.out (by omega)]
    symm
    exact decide_eq_false fun hc=>hf hc.2

end Go.Proofs.YtiekphbkomddfaaGreatDoor.S1
namespace Go.Proofs
open Go.Shelf
def Tryz.sri_ren:Go.Shelf.Ren:=⟨fun|189=>97|125=>63|257=>134|128=>108|129=>109|294=>154|295=>155|296=>156|297=>157|298=>158|299=>159|216=>160|300=>161|301=>162|328=>171|329=>172|330=>173|331=>174|332=>175|215=>125|343=>182|n=>n,fun|28=>113|3=>3|46=>123|0=>0|51=>165|53=>167|4=>4|183=>214|182=>213|131=>82|5=>5|9=>9|218=>230|222=>198|228=>237|229=>220|n=>n,fun|n=>n⟩
theorem Tryz.sri:Go.Proofs.Lays.n189 Tryz.prog Tryz.sri_ren:={
 mixed:=by kernel_rfl
 f125:=Tryz.func63.trans (congrArg some (by kernel_rfl))
 f128:=Tryz.func108.trans (congrArg some (by kernel_rfl))
 f129:=Tryz.func109.trans (congrArg some (by kernel_rfl))
 f189:=Tryz.func97.trans (congrArg some (by kernel_rfl))
 f215:=Tryz.func125.trans (congrArg some (by kernel_rfl))
 f216:=Tryz.func160.trans (congrArg some (by kernel_rfl))
 f257:=Tryz.func134.trans (congrArg some (by kernel_rfl))
 f294:=Tryz.func154.trans (congrArg some (by kernel_rfl))
 f295:=Tryz.func155.trans (congrArg some (by kernel_rfl))
 f296:=Tryz.func156.trans (congrArg some (by kernel_rfl))
 f297:=Tryz.func157.trans (congrArg some (by kernel_rfl))
 f298:=Tryz.func158.trans (congrArg some (by kernel_rfl))
 f299:=Tryz.func159.trans (congrArg some (by kernel_rfl))
 f300:=Tryz.func161.trans (congrArg some (by kernel_rfl))
 f301:=Tryz.func162.trans (congrArg some (by kernel_rfl))
 f328:=Tryz.func171.trans (congrArg some (by kernel_rfl))
 f329:=Tryz.func172.trans (congrArg some (by kernel_rfl))
 f330:=Tryz.func173.trans (congrArg some (by kernel_rfl))
 f331:=Tryz.func174.trans (congrArg some (by kernel_rfl))
 f332:=Tryz.func175.trans (congrArg some (by kernel_rfl))
 f343:=Tryz.func182.trans (congrArg some (by kernel_rfl))
 t0:=Tryz.underlying0
 a0:=Tryz.isAgg0
 z0:=Tryz.sizeOf0
 v0:=Tryz.zeroValue0
 t3:=Tryz.underlying3
 a3:=Tryz.isAgg3
 z3:=Tryz.sizeOf3
 v3:=Tryz.zeroValue3
 t4:=Tryz.underlying4
 a4:=Tryz.isAgg4
 z4:=Tryz.sizeOf4
 v4:=Tryz.zeroValue4
 t5:=Tryz.underlying5
 a5:=Tryz.isAgg5
 z5:=Tryz.sizeOf5
 v5:=Tryz.zeroValue5
 t9:=Tryz.underlying9
 a9:=Tryz.isAgg9
 z9:=Tryz.sizeOf9
 v9:=Tryz.zeroValue9
 t28:=Tryz.underlying113
 a28:=Tryz.isAgg113
 z28:=Tryz.sizeOf113
 v28:=Tryz.zeroValue113
 t46:=Tryz.underlying123
 a46:=Tryz.isAgg123
 z46:=Tryz.sizeOf123
 v46:=Tryz.zeroValue123
 t51:=Tryz.underlying165
 a51:=Tryz.isAgg165
 z51:=Tryz.sizeOf165
 v51:=Tryz.zeroValue165
 t53:=Tryz.underlying167
 a53:=Tryz.isAgg167
 z53:=Tryz.sizeOf167
 v53:=Tryz.zeroValue167
 t131:=Tryz.underlying82
 a131:=Tryz.isAgg82
 z131:=Tryz.sizeOf82
 v131:=Tryz.zeroValue82
 t182:=Tryz.underlying213
 a182:=Tryz.isAgg213
 z182:=Tryz.sizeOf213
 v182:=Tryz.zeroValue213
 t183:=Tryz.underlying214
 a183:=Tryz.isAgg214
 z183:=Tryz.sizeOf214
 v183:=Tryz.zeroValue214
 t218:=Tryz.underlying230
 a218:=Tryz.isAgg230
 z218:=Tryz.sizeOf230
 v218:=Tryz.zeroValue230
 t222:=Tryz.underlying198
 a222:=Tryz.isAgg198
 z222:=Tryz.sizeOf198
 v222:=Tryz.zeroValue198
 t228:=Tryz.underlying237
 a228:=Tryz.isAgg237
 z228:=Tryz.sizeOf237
 v228:=Tryz.zeroValue237
 t229:=Tryz.underlying220
 a229:=Tryz.isAgg220
 z229:=Tryz.sizeOf220
 v229:=Tryz.zeroValue220}
def Tryz.cmi_ren:Go.Shelf.Ren:=⟨fun|20=>98|n=>n,fun|22=>113|3=>3|4=>4|0=>0|n=>n,fun|n=>n⟩
theorem Tryz.cmi:Go.Proofs.Lays2.n20 Tryz.prog Tryz.cmi_ren:={
 mixed:=by kernel_rfl
 f20:=Tryz.func98.trans (congrArg some (by kernel_rfl))
 t0:=Tryz.underlying0
 a0:=Tryz.isAgg0
 z0:=Tryz.sizeOf0
 v0:=Tryz.zeroValue0
 t3:=Tryz.underlying3
 a3:=Tryz.isAgg3
 z3:=Tryz.sizeOf3
 v3:=Tryz.zeroValue3
 t4:=Tryz.underlying4
 a4:=Tryz.isAgg4
 z4:=Tryz.sizeOf4
 v4:=Tryz.zeroValue4
 t22:=Tryz.underlying113
 a22:=Tryz.isAgg113
 z22:=Tryz.sizeOf113
 v22:=Tryz.zeroValue113
 i3:=by kernel_rfl}
end Go.Proofs
namespace Go.Proofs.YtiekphbkomddfaaGreatDoor.S1
open Go Go.Ab Go.Proofs
open Go.Shelf Go.RowKit Go.Lib Go.Sort in
theorem q2k{w:World}{b n:Nat}{zs:List Int}{os:Array Obj}{vals:Array Value}{T:Nat}{fz:Nat×Nat}(hb:w.heap[b]? = some (.cells vals T fz)) :
  (grow (putRow (Value.int .i64) (Sort.ahead w n) b 0 zs.toArray) os).heap[b]? = some (.cells (putCells (Value.int .i64) 0 zs.toArray vals) T fz)/\(∀k,k≠b->k<w.heap.size->(grow (putRow (Value.int .i64) (Sort.ahead w n) b 0 zs.toArray) os).heap[k]? = w.heap[k]?)/\
   w.heap.size<=(grow (putRow (Value.int .i64) (Sort.ahead w n) b 0 zs.toArray) os).heap.size/\(grow (putRow (Value.int .i64) (Sort.ahead w n) b 0 zs.toArray) os).os=w.os/\(grow (putRow (Value.int .i64) (Sort.ahead w n) b 0 zs.toArray) os).tape=w.tape/\(grow (putRow (Value.int .i64) (Sort.ahead w n) b 0 zs.toArray) os).output=w.output:=by
 have hlt:b<w.heap.size:=jg hb
 refine⟨?_,fun k hk hkl=> ?_,?_,rfl,rfl,rfl⟩
 ·simp only[grow,putRow,mapBlock,Sort.ahead]
  rw[Array.getElem?_append_left (by simpa using hlt),Array.getElem?_modify,if_pos rfl,hb]
  rfl
 ·simp only[grow,putRow,mapBlock,Sort.ahead]
  rw[Array.getElem?_append_left (by simpa using hkl),Array.getElem?_modify,if_neg (fun h=>hk h.symm)]
 ·simp[grow,putRow,mapBlock,Sort.ahead]
open Go.Shelf Go.RowKit Go.Lib Go.Sort in
theorem qp0[Lay]{f:Nat}(ok:yx PP f)(zs zs':List Int)(hz:zs'.length=zs.length)(v:D)(h':Heap)(res:Option Addr->Nat->Value)
  (h0:zs.length=0->zs'=zs/\∀(p:Option Addr) (cap:Nat) (w:World),Calls Tryz.prog f #[.slice p 0 cap] w fun e w'=>e = .returned (res p cap)/\w'=w)
  (hc:1<=zs.length->∀(b cap:Nat) (w:World),Holds (Value.int .i64) w b 0 zs.toArray->b<w.heap.size->zs.length<=cap->Calls Tryz.prog f #[.slice (some ⟨b,0,none⟩) zs.length cap] w fun e w'=>e = .returned (res (some ⟨b,0,none⟩) cap)/\∃n os,w'=grow (putRow (Value.int .i64) (Sort.ahead w n) b 0 zs'.toArray) os)
  (hr:∀(g:G) (U:Nat->Prop) (w':World) (k:Tok),Inv g U (zn zs' I') w'->g.τ 0=some k->k.sz=1->k.n=zs.length->zs.length<=k.cap->∃g',R g' v (res k.a k.cap)/\Inv g' U h' w'/\Grow U g g'):Does PP f [.vec 0 zs.length 1] (zn zs I') v h':=by
 refine Does.of_calls ok fun g U w vs i hs=> ?_
 simp only[Rs,R]at hs
 obtain⟨_,_,rfl,⟨_,a,cap,rfl,hcap,k,hk,hks,hkn,hka⟩,rfl⟩:=hs
 have hhw:(zn zs I').hw 0=some zs.length:=rfl
 obtain⟨k3,e1,e2,e3⟩:=i.tok 0 zs.length hhw
 rw[hk]at e1
 cases e1
 obtain⟨rfl,rfl⟩:=hka e2.symm
 by_cases h1:zs.length=0
 ·obtain⟨hz',hcc⟩:=h0 h1
  rw[h1]
  refine(hcc k.a k.cap w).mono fun e w' ⟨he,hw'⟩=> ?_
  rw[hw']
  obtain⟨g',r1,r2,r3⟩:=hr g U w k (by rw[hz'];exact i) hk hks e2 hcap
  exact⟨_,g',he,r1,r2,r3,⟨rfl,rfl,rfl,Nat.le_refl _,fun _ _=>rfl,fun _ h=>h⟩⟩
 have h2:1<=zs.length:=by omega
 have hc0:0<k.cap:=by omega
 have hvw:(zn zs I').vw 0=some (cv zs I'):=rfl
 have hTk:=e3 (by rw[hvw];exact hc0)
 rw[hvw]at hTk
 obtain⟨b,f1,f2,T,vals,⟨fz,f3,hfz⟩,f4,f5,f6⟩:=hTk
 obtain⟨f7,f8⟩:=f6 _ rfl
 rw[f1]
 rw[hks]at f4 f8
 rw[e2]at f7 f8
 have hlt:b<w.heap.size:=jg f3
 have hcell:∀j,j<zs.length->vals[j]? = some (.int .i64 (zs.getD j default)):=fun j hj=>by
  obtain⟨u,h3,h4,h5⟩:=f8 j hj
  have hu:u = .int .i64 (zs.getD j default):=h3
  subst hu
  have:=h5 0 (by omega)
  rw[Nat.mul_one,Nat.add_zero]at this
  exact this
 have hH:Holds (Value.int .i64) w b 0 zs.toArray:=by
  intro j hj
  have hj':j<zs.length:=by simpa using hj
  have e:zs.toArray[j]! = zs.getD j default:=by
   rw[getElem!_pos zs.toArray j hj,List.getD_eq_getElem?_getD,List.getElem?_eq_getElem hj'];simp
  rw[e]
  simp only[World.cell?,World.frozen?,f3,Nat.zero_add]
  refine⟨hcell j hj',?_⟩
  have:=hfz j (by omega)
  rw[<-Bool.not_eq_true,Bool.and_eq_true,decide_eq_true_eq,decide_eq_true_eq]
  exact this
 refine(hc h2 b k.cap w hH hlt hcap).mono fun e w' ⟨he,n,os,hw'⟩=> ?_
 subst hw'
 obtain⟨g1,g2,g3,g4,g5,g6⟩:=q2k (n:=n) (zs:=zs') (os:=os) f3
 have hinv:Inv g U (zn zs' I') (grow (putRow (Value.int .i64) (Sort.ahead w n) b 0 zs'.toArray) os):=by
  have hH2:zn zs' I'=⟨fun _=>none,0,upd (fun _=>none) 0 (some zs.length),1,upd (fun _=>none) 0 (some (cv zs' I'))⟩:=by
   unfold zn;rw[hz]
  rw[hH2]
  have hsz:(putCells (Value.int .i64) 0 zs'.toArray vals).size=vals.size:=by simp[putCells]
  refine Inv.vrow (k:=k) (b:=b) i hhw hk hc0 f1 ⟨fz,g1,by rw[hsz];exact hfz⟩ ⟨by rw[hks,hsz];exact f4.1,f4.2⟩ (fun q hq=> ?_) g3 g2
  rw[e2]at hq
  refine⟨.int .i64 (zs'.getD q default),rfl,⟨by rw[hks];rfl,rfl⟩,fun j hj=> ?_⟩
  rw[hks]at hj⊢
  have hj0:j=0:=by omega
  subst hj0
  have hvs:q<vals.size:=by omega
  have hq2:q<zs'.length:=by omega
  rw[Nat.mul_one,Nat.add_zero]
  simp[putCells,Array.getElem?_eq_getElem hvs,hq2,List.getD_eq_getElem?_getD]
  rfl
 obtain⟨g',r1,r2,r3⟩:=hr g U _ k hinv hk hks e2 hcap
 rw[f1]at r1
 refine⟨_,g',he,r1,r2,r3,⟨g4,g5,g6,g3,fun k hk=>g2 k (fun h=>f2 (h▸hk)) (i.ub k hk),fun k hk=> ?_⟩⟩
 by_cases hkb:k=b
 ·subst hkb
  rw[f3]at hk;cases hk
 ·exact(g2 k hkb (jg hk)).trans hk
theorem o5(zs:List Int):(qf9 zs).length=zs.length:=(qbx zs).1.length_eq
theorem qdg(zs:List Int):(Lib.compact zs).length<=zs.length:=by
 unfold Lib.compact Lib.compactUpTo
 rw[List.length_map]
 refine Nat.le_trans (List.length_filter_le _ _) ?_
 simp
open Go.Shelf Go.RowKit Go.Lib Go.Sort in
theorem e97[Lay](zs:List Int)(hl:zs.length<=1000000):Does PP 97 [.vec 0 zs.length 1] (zn zs I') (.tup []) (zn (qf9 zs) I') :=
 qp0 ⟨Tryz.f97,by kernel_rfl,by kernel_rfl,by kernel_rfl⟩ zs (qf9 zs) (o5 zs) (.tup []) _ (fun _ _=> .tuple #[])
  (fun h=>⟨by
   have:zs=[]:=List.length_eq_zero_iff.1 h
   subst this;simp[qf9],fun p cap w=>Any.slices_Sort_int_none Tryz.sri p cap w⟩)
  (fun _ b cap w hH hb _=>Any.slices_Sort_int Tryz.sri b 0 cap zs w hH hb (by omega))
  (fun g U w' k i _ _ _ _=>⟨g,by simp[R,Rs],i,Grow.refl U g⟩)
def qcc(zs:List Int):List Int:=Lib.compact zs++List.replicate (zs.length-(Lib.compact zs).length) 0
theorem qeu(zs:List Int):(qcc zs).length=zs.length:=by
 have:=qdg zs
 unfold qcc
 rw[List.length_append,List.length_replicate];omega
open Go.Shelf Go.RowKit Go.Lib Go.Sort in
theorem e98[Lay](zs:List Int)(hl:zs.length<=1000000):Does PP 98 [.vec 0 zs.length 1] (zn zs I') (L (Lib.compact zs) 1 I') (qgh (zn (qcc zs) I') 0) :=
 qp0 ⟨Tryz.f98,by kernel_rfl,by kernel_rfl,by kernel_rfl⟩ zs (qcc zs) (qeu zs) (L (Lib.compact zs) 1 I') _ (fun p cap=> .slice p (Lib.compact zs).length cap)
  (fun h=>⟨by
   have:zs=[]:=List.length_eq_zero_iff.1 h
   subst this;rfl,fun p cap w=>by
   have:zs=[]:=List.length_eq_zero_iff.1 h
   subst this
   exact Any.slices_Compact_int_empty Tryz.cmi p cap w⟩)
  (fun _ b cap w hH hb hcap=>(Any.slices_Compact_int Tryz.cmi b 0 cap zs w hH (by omega) hcap).mono fun e w' ⟨h1,q,h2⟩=>⟨h1,q,#[],by rw[h2];simp[Go.Sort.grow];rfl⟩)
  (fun g U w' k i h1 h2 h3 h4=>by
   have hle:=qdg zs
   have hvw:(zn (qcc zs) I').vw 0=some (cv (qcc zs) I'):=rfl
   have hhw:(zn (qcc zs) I').hw 0=some (qcc zs).length:=rfl
   obtain⟨g',q1,q2,q3,_⟩:=i.freeze hvw hhw
   have hn:=qeu zs
   have hlm:(qcc zs).length<=q8:=by unfold q8;omega
   have hR:=q3 (.slice k.a (qcc zs).length k.cap) 1 (by
    simp only[R]
    exact⟨hlm,k.a,k.cap,rfl,by omega,k,h1,h2,by omega,fun _=>⟨rfl,rfl⟩⟩)
   refine⟨g',?_,q1,q2⟩
   simp only[L,R]at hR⊢
   obtain⟨_,a,cap,hv,_,_,he⟩:=hR
   cases hv
   refine⟨by unfold q8 at hlm⊢;omega,_,_,rfl,by omega,trivial,fun j hj=> ?_⟩
   obtain⟨p,u,r1,r2,r3,r4,r5⟩:=he j (by omega)
   refine⟨p,u,r1,r2,?_,r4,r5⟩
   have e:cv (qcc zs) I' j=I' ((Lib.compact zs).getD j default):=by
    unfold cv qcc
    rw[List.getD_eq_getElem?_getD,List.getElem?_append_left hj,<-List.getD_eq_getElem?_getD]
   rw[e]at r3;exact r3)
theorem lpC[Lay]{fn:Func}{cfg:Cfg}{fin:St->Prop}{α:Type}(I:α->Prop)(S:α->St)(μ:α->Nat)(l:List Nat){p:List Nat}{td:List It}(hs:qea (sub (EnC cfg fn).root p)=true)
  (hr:∀x,I x->At (EnC cfg fn) fin (.code (p++[0])::stp l (Nx (EnC cfg fn).nt I S μ (μ x))::td) (S x)) (x:α) (hx:I x):At (EnC cfg fn) fin (.code p::td) (S x):=by
 have:∃c,sub (EnC cfg fn).root p=some (.loop c):=by
  unfold qea at hs
  split at hs
  ·rename_i c h;exact⟨c,h⟩
  ·cases hs
 obtain⟨c,hc⟩:=this
 exact qd7 I S μ l hc hr x hx
theorem F58:OkF 58 Tryz.f58:=⟨by kernel_rfl,by kernel_rfl,by kernel_rfl⟩
def q2l:List (List Nat×List Nat):=[]
noncomputable def q2m(l:List Iv):List Nat->Nat->Option Ans:=qf [([1,0],1,Ans.pure [L l 2 Iv.d,I 0,I 1099511627776] (L (jn l 0 1099511627776) 2 Iv.d))]
theorem nNo[Lay](l:List Iv)(K:D->Prop):qn (En Tryz.f58) (fi Tryz.f58 K) (q2m l) q2l 200 [.code []] ⟨qc 0 [L l 2 Iv.d],.empty⟩ =
 (PureW PP 20 [L l 2 Iv.d,I 0,I 1099511627776] [L l 2 Iv.d,I 0,I 1099511627776] (L (jn l 0 1099511627776) 2 Iv.d)/\K (L (jn l 0 1099511627776) 2 Iv.d)):=by kernel_rfl
theorem c58[Lay](l:List Iv)(hb:l.length<=100000):Pure PP 58 [L l 2 Iv.d] (L (vr l) 2 Iv.d):=pu F58 (by kernel_rfl) (of_eq (nNo l _) ⟨PureW.mk (c20 l 0 1099511627776 hb),Wk.refl _⟩)
abbrev LLi:List Iv->D:=fun l=>L l 2 Iv.d
theorem F59:OkF 59 Tryz.f59:=⟨by kernel_rfl,by kernel_rfl,by kernel_rfl⟩
def qt2:List (List Nat×List Nat):=[([1,1,0,1,0],[5,12,13,14]),([1,1,0,1,0,0,1,1,0,0,1,1,0],[5,12,13,14,18,19,20]),([1,1,1,0],[5])]
noncomputable def q2n:List Nat->Nat->Option Ans:=qf []
theorem nCz[Lay](a b:List Iv)(K:D->Heap->Prop):qn (EnV [] [31] Tryz.f59) (fh Tryz.f59 K) (q2n ) qt2 200 [.code []] ⟨qc 0 [L a 2 Iv.d,L b 2 Iv.d],.empty⟩ =
 (2<=q8->At (EnV [] [31] Tryz.f59) (fh Tryz.f59 K) [It.code [1,1,0,1,0],It.blk 0,It.code [1,1,1]] {sl:=[(5,.list 0 0 (fun _=>D.junk) .full),(12,.list 2 1 (zf [L a 2 Iv.d,L b 2 Iv.d]) .full),(13,I (↑2:Int)),(14,I 0)],h:=Heap.empty:St}):=by kernel_rfl
def SCz(a b:List Iv)(out:List Int)(i:Int):St:=⟨[(5,.vec 0 out.length 1),(12,L [a,b] 1 LLi),(13,I 2),(14,I i)],zn out I'⟩
def TCz(a b:List Iv)(out:List Int)(i:Int)(l:List Iv)(k:Int):St:=⟨[(5,.vec 0 out.length 1),(12,L [a,b] 1 LLi),(13,I 2),(14,I i),(18,L l 2 Iv.d),(19,I l.length),(20,I k)],zn out I'⟩
noncomputable def qt3:List Nat->Nat->Option Ans:=qf []
theorem q2o[Lay](a b:List Iv)(out:List Int)(i:Int)(J:St->Prop)(K:D->Heap->Prop):qn (EnV [] [31] Tryz.f59) (fh Tryz.f59 K) (qt3 ) qt2 200 [.code [1,1,0,1,0,0],stp [5,12,13,14] J,.blk 0,.code [1,1,1]] (SCz a b out i)=
 (bif decide (i<2) then(0<=i/\i<(↑[a,b].length:Int))/\(([a,b].getD i.toNat default).length<=q8->At (EnV [] [31] Tryz.f59) (fh Tryz.f59 K) [It.code [1,1,0,1,0,0,1,1,0,0,1,1,0],It.blk 2,It.blk 1,It.code [1,1,0,1,0,0,1,1,1],stp [5,12,13,14] J,It.blk 0,It.code [1,1,1]] {sl:=[(5,D.vec 0 out.length 1),(12,L [a,b] 1 LLi),(13,I 2),(14,I i),(18,L ([a,b].getD i.toNat default) 2 Iv.d),(19,I (↑([a,b].getD i.toNat default).length:Int)),(20,I 0)],h:={box:=fun _=>none,nl:=0,hw:=upd (fun _=>none) 0 (some out.length),nt:=1,vw:=upd (fun _=>none) 0 (some (cv out I')):Heap}:St}) else At (EnV [] [31] Tryz.f59) (fh Tryz.f59 K) [It.code [1,1,1,0],It.code [1,1,1,1]] {sl:=[(5,D.vec 0 out.length 1)],h:={box:=fun _=>none,nl:=0,hw:=upd (fun _=>none) 0 (some out.length),nt:=1,vw:=upd (fun _=>none) 0 (some (cv out I')):Heap}:St}):=by kernel_rfl
noncomputable def qt4:List Nat->Nat->Option Ans:=qf []
theorem q2p[Lay](a b:List Iv)(out:List Int)(i:Int)(l:List Iv)(k:Int)(J J2:St->Prop)(K:D->Heap->Prop):qn (EnV [] [31] Tryz.f59) (fh Tryz.f59 K) (qt4 ) qt2 200 [.code [1,1,0,1,0,0,1,1,0,0,1,1,0,0],stp [5,12,13,14,18,19,20] J,.blk 2,.blk 1,.code [1,1,0,1,0,0,1,1,1],stp [5,12,13,14] J2,.blk 0,.code [1,1,1]] (TCz a b out i l k)=
 (bif decide (k<(↑l.length:Int)) then(0<=k/\k<(↑l.length:Int))/\True/\(upd (fun _=>none) 0 (some out.length) 0=some out.length/\(out.length+2)*8<=q7)/\J {sl:=[(5,D.vec 0 (out.length+2) 1),(12,L [a,b] 1 LLi),(13,I 2),(14,I i),(18,L l 2 Iv.d),(19,I (↑l.length:Int)),(20,I (qg .i64 k 1))],h:={box:=fun _=>none,nl:=0,hw:=upd (upd (fun _=>none) 0 (some out.length)) 0 (some (out.length+2)),nt:=1,vw:=upd (upd (fun _=>none) 0 (some (cv out I'))) 0 (some (zo out.length (cv out I') (zf [I (l.getD k.toNat default).frm,I (qg .i64 (l.getD k.toNat default).to 1)]))):Heap}:St} else J2 {sl:=[(5,D.vec 0 out.length 1),(12,L [a,b] 1 LLi),(13,I 2),(14,I (qg .i64 i 1))],h:={box:=fun _=>none,nl:=0,hw:=upd (fun _=>none) 0 (some out.length),nt:=1,vw:=upd (fun _=>none) 0 (some (cv out I')):Heap}:St}):=by kernel_rfl
def q2q:List (List Nat×List Nat):=[([1,1,1,1,0],[5])]
noncomputable def qt5(out:List Int):List Nat->Nat->Option Ans:=qf [([1,1,1,0],1,Ans.eff (.tup []) (zn (qf9 out) I'))]
theorem q2r[Lay](out:List Int)(K:D->Heap->Prop):qn (EnV [] [31] Tryz.f59) (fh Tryz.f59 K) (qt5 out) q2q 200 [.code [1,1,1,0],.code [1,1,1,1]] ⟨[(5,.vec 0 out.length 1)],zn out I'⟩ =
 (Does PP 97 [D.vec 0 out.length 1] {box:=fun _=>none,nl:=0,hw:=upd (fun _=>none) 0 (some out.length),nt:=1,vw:=upd (fun _=>none) 0 (some (cv out I')):Heap} (.tup []) (zn (qf9 out) I')/\At (EnV [] [31] Tryz.f59) (fh Tryz.f59 K) [It.code [1,1,1,1,0],It.code [1,1,1,1,1]] {sl:=[(5,D.vec 0 out.length 1)],h:={box:=fun _=>none,nl:=0,hw:=upd (fun _=>none) 0 (some (qf9 out).length),nt:=1,vw:=upd (fun _=>none) 0 (some (cv (qf9 out) I')):Heap}:St}):=by kernel_rfl
noncomputable def qt6(out:List Int):List Nat->Nat->Option Ans:=qf [([1,1,1,1,0],1,Ans.eff (L (Lib.compact out) 1 I') (qgh (zn (qcc out) I') 0))]
theorem q2s[Lay](out:List Int)(K:D->Heap->Prop):qn (EnV [] [31] Tryz.f59) (fh Tryz.f59 K) (qt6 out) p8 200 [.code [1,1,1,1,0],.code [1,1,1,1,1]] ⟨[(5,.vec 0 out.length 1)],zn out I'⟩ =
 (Does PP 98 [D.vec 0 out.length 1] {box:=fun _=>none,nl:=0,hw:=upd (fun _=>none) 0 (some out.length),nt:=1,vw:=upd (fun _=>none) 0 (some (cv out I')):Heap} (L (Lib.compact out) 1 I') (qgh (zn (qcc out) I') 0)/\K (L (Lib.compact out) 1 I') {box:=fun _=>none,nl:=0,hw:=upd (fun _=>none) 0 (some (qcc out).length),nt:=1,vw:=upd (upd (fun _=>none) 0 (some (cv (qcc out) I'))) 0 none:Heap}):=by kernel_rfl
theorem ry(l:List Iv):(gz l).length=2*l.length:=by
 unfold gz
 induction l with
 |nil=>rfl
 |cons x r ih=>rw[List.flatMap_cons,List.length_append,ih,List.length_cons];simp;omega
theorem qif(l:List Iv)(i:Nat)(h:i<l.length):gz (l.take (i+1))=gz (l.take i)++[(l.getD i default).frm,qg .i64 (l.getD i default).to 1]:=by
 unfold gz
 rw[zu _ _ h,List.flatMap_append];rfl
theorem qni{es:List Int}{x y:Int}{i:Nat}(_hi:i<es.length+2):zo es.length (cv es I') (zf [I x,I y]) i=cv (es++[x,y]) I' i:=by
 unfold zo cv
 rcases Nat.lt_or_ge i es.length with h|h
 ·rw[up.2 h];simp[List.getD,List.getElem?_append_left h]
 ·rw[tp.2 h]
  rcases(by omega:i=es.length\/i=es.length+1) with rfl|rfl
  ·simp[List.getD,zf]
  ·simp[List.getD,zf,List.getElem?_append_right]
theorem c59[Lay](a b:List Iv)(ha:a.length<=10000)(hb:b.length<=10000):Pure PP 59 [L a 2 Iv.d,L b 2 Iv.d] (L (o3 a b) 1 I'):=by
 refine pr F59 (by kernel_rfl) (of_eq (nCz a b _) fun _=> ?_)
 refine jc (st':=SCz a b (([a,b].take 0).flatMap gz) ((0:Nat):Int)) ?_ (((StLe.set 12 (d':=L [a,b] 1 LLi) rfl (Wk.litL (enc:=LLi) (l:=[a,b]) rfl rfl) rfl rfl).trans (StLe.idle _ (some (cv ([]:List Int) I')) 5 1 (cv ([]:List Int) I') rfl)).cast (by kernel_rfl))
 have hl:∀i,i<2->([a,b].getD i default).length<=10000:=fun i hi=>by
  rcases(by omega:i=0\/i=1) with rfl|rfl
  ·exact ha
  ·exact hb
 refine lpC (fn:=Tryz.f59) (fun i:Nat=>i<=2/\(([a,b].take i).flatMap gz).length<=20000*i) (fun i=>SCz a b (([a,b].take i).flatMap gz) i) (fun i=>2-i) [5,12,13,14] (by kernel_rfl) (fun i hi=>qe jv _ _ _ (of_eq (q2o a b _ i _ _) (qa (fun hlt=> ?_) fun hge=> ?_))) 0 ⟨Nat.zero_le _,Nat.zero_le _⟩
 ·obtain⟨_,hP⟩:=hi
  have hlt:i<2:=by have:=of_decide_eq_true hlt;omega
  have hnext:([a,b].take (i+1)).flatMap gz=([a,b].take i).flatMap gz++gz ([a,b].getD i default):=by
   rw[zu _ _ (show i < [a,b].length from hlt),List.flatMap_append,List.flatMap_singleton]
  have hll:=hl i hlt
  rw[Int.toNat_natCast]
  generalize [a,b].getD i default=l at hnext hll⊢
  generalize ([a,b].take i).flatMap gz=P at hP hnext⊢
  have hpl:=ry l
  refine⟨⟨by omega,by show(i:Int)<2;omega⟩,fun hlm=> ?_⟩
  refine jc (st':=TCz a b (P++gz (l.take 0)) i l ((0:Nat):Int)) ?_ ((StLe.refl _ _).cast (by rw[show P++gz (l.take 0)=P by unfold gz;simp];kernel_rfl))
  refine lp (fn:=Tryz.f59) (fun k:Nat=>k<=l.length) (fun k=>TCz a b (P++gz (l.take k)) i l k) (fun k=>l.length-k) [5,12,13,14,18,19,20] (by kernel_rfl) (fun k hk=>of_eq (q2p a b _ i l k _ _ _) (qa (fun hlt2=> ?_) fun hge2=> ?_)) 0 (Nat.zero_le _)
  ·have hlt2:=ltI hlt2
   have hq:=ry (l.take k)
   have htk:(l.take k).length=k:=by rw[List.length_take];omega
   rw[bi hlt2 hlm,Int.toNat_natCast]
   refine⟨⟨by omega,by omega⟩,trivial,⟨qb _ _ _,by rw[List.length_append];unfold q7;omega⟩,Nx.of (k+1) hlt2 (by omega) ?_⟩
   rw[qif l k hlt2,<-List.append_assoc]
   generalize P++gz (l.take k)=out
   have he:(out++[(l.getD k default).frm,qg .i64 (l.getD k default).to 1]).length=out.length+2:=by simp
   unfold TCz zn
   rw[he,q6,q6]
   exact StLe.vec (t:=0) (n:=out.length+2) (qb _ _ _) fun j hj=>qni hj
  ·rw[List.take_of_length_le (geI hge2),<-hnext]
   have hi1:qg .i64 (i:Int) 1=((i+1:Nat):Int):=by rw[jk (by omega) (by omega)];rfl
   rw[hi1]
   refine Nx.mk (i+1) ⟨hlt,?_⟩ (by omega)
   rw[hnext,List.length_append];omega
 ·obtain⟨hi2,hP⟩:=hi
  have h2:i=2:=by have:=of_decide_eq_false hge;omega
  subst h2
  have hout:([a,b].take 2).flatMap gz=gz a++gz b:=by simp
  unfold o3
  rw[hout]at hP⊢
  generalize gz a++gz b=out at hP⊢
  refine qe jv _ _ _ (of_eq (q2r out _) ⟨e97 out (by omega),?_⟩)
  have hsl:=o5 out
  rw[<-hsl]
  generalize qf9 out=zs at hsl⊢
  exact qe jv _ _ _ (of_eq (q2s zs _) ⟨e98 zs (by omega),⟨_,RetLe.refl _ _⟩⟩)
theorem F82:OkF 82 Tryz.f82:=⟨by kernel_rfl,by kernel_rfl,by kernel_rfl⟩
def q2t:List (List Nat×List Nat):=[]
noncomputable def q2u:List Nat->Nat->Option Ans:=qf []
theorem nU1[Lay](x y:Bool)(K:D->Prop):qn (En Tryz.f82) (fi Tryz.f82 K) (q2u ) q2t 200 [.code []] ⟨qc 0 [B x,B y],.empty⟩ =
 (K (B (bif x then true else y))):=by kernel_rfl
theorem q2v:OkF 131 Tryz.f131:=⟨by kernel_rfl,by kernel_rfl,by kernel_rfl⟩
def qt7:List (List Nat×List Nat):=[]
noncomputable def q2w:List Nat->Nat->Option Ans:=qf []
theorem nI1[Lay](x y:Bool)(K:D->Prop):qn (En Tryz.f131) (fi Tryz.f131 K) (q2w ) qt7 200 [.code []] ⟨qc 0 [B x,B y],.empty⟩ =
 (K (B (bif x then y else false))):=by kernel_rfl
theorem F34:OkF 34 Tryz.f34:=⟨by kernel_rfl,by kernel_rfl,by kernel_rfl⟩
def q2x:List (List Nat×List Nat):=[]
noncomputable def q2y:List Nat->Nat->Option Ans:=qf []
theorem nW1[Lay](x y:Bool)(K:D->Prop):qn (En Tryz.f34) (fi Tryz.f34 K) (q2y ) q2x 200 [.code []] ⟨qc 0 [B x,B y],.empty⟩ =
 (K (B (bif x then !y else false))):=by kernel_rfl
theorem c82[Lay](x y:Bool):Pure PP 82 [B x,B y] (B (okR 0 x y)):=pu F82 (by kernel_rfl) (of_eq (nU1 x y _) (Wk.of_eq (by cases x <;> cases y <;> rfl)))
theorem q2z[Lay](x y:Bool):Pure PP 131 [B x,B y] (B (okR 1 x y)):=pu q2v (by kernel_rfl) (of_eq (nI1 x y _) (Wk.of_eq (by cases x <;> cases y <;> rfl)))
theorem c34[Lay](x y:Bool):Pure PP 34 [B x,B y] (B (okR 2 x y)):=pu F34 (by kernel_rfl) (of_eq (nW1 x y _) (Wk.of_eq (by cases x <;> cases y <;> rfl)))
theorem F33:OkF 33 Tryz.f33:=⟨by kernel_rfl,by kernel_rfl,by kernel_rfl⟩
def qq3:List (List Nat×List Nat):=[([1,1,1,1,1,0,1,0],[0,1,2,7,8,9,10,11]),([1,1,1,1,1,0,1,0,0,1,0,0,1,0,0],[0,1,2,7,8,9,10,11,12]),([1,1,1,1,1,0,1,0,0,1,0,0,1,1,0,0],[0,1,2,7,8,9,10,11,12]),([1,1,1,1,1,1],[8])]
noncomputable def q20(a:List Iv)(b:List Iv):List Nat->Nat->Option Ans:=qf [([1,0],1,Ans.pure [L a 2 Iv.d] (L (vr a) 2 Iv.d)),([1,0],3,Ans.pure [L b 2 Iv.d] (L (vr b) 2 Iv.d)),([1,1,0],2,Ans.pure [L (vr a) 2 Iv.d,L (vr b) 2 Iv.d] (L (o3 (vr a) (vr b)) 1 I'))]
theorem nCo[Lay](fn:Nat)(a b:List Iv)(K:D->Heap->Prop):qn (EnV [] [99] Tryz.f33) (fh Tryz.f33 K) (q20 a b) qq3 200 [.code []] ⟨qc 0 [L a 2 Iv.d,L b 2 Iv.d,.clo fn []],.empty⟩ =
 (PureW PP 58 [L a 2 Iv.d] [L a 2 Iv.d] (L (vr a) 2 Iv.d)/\PureW PP 58 [L b 2 Iv.d] [L b 2 Iv.d] (L (vr b) 2 Iv.d)/\PureW PP 59 [L (vr a) 2 Iv.d,L (vr b) 2 Iv.d] [L (vr a) 2 Iv.d,L (vr b) 2 Iv.d] (L (o3 (vr a) (vr b)) 1 I')/\At (EnV [] [99] Tryz.f33) (fh Tryz.f33 K) [It.code [1,1,1,1,1,0,1,0],It.blk 0,It.code [1,1,1,1,1,1]] {sl:=[(0,L (vr a) 2 Iv.d),(1,L (vr b) 2 Iv.d),(2,D.clo fn []),(7,L (o3 (vr a) (vr b)) 1 I'),(8,.list 0 0 (fun _=>D.junk) .full),(9,I 0),(10,I 0),(11,I 0)],h:=Heap.empty:St}):=by kernel_rfl
def SCm(fn:Nat)(a b:List Iv)(c:List Int)(out:List Iv)(i k n:Int):St:=⟨[(0,L a 2 Iv.d),(1,L b 2 Iv.d),(2,.clo fn []),(7,L c 1 I'),(8,.vec 0 out.length 2),(9,I i),(10,I k),(11,I n)],zn out Iv.d⟩
def TCm(fn:Nat)(a b:List Iv)(c:List Int)(out:List Iv)(i k n t:Int):St:=⟨[(0,L a 2 Iv.d),(1,L b 2 Iv.d),(2,.clo fn []),(7,L c 1 I'),(8,.vec 0 out.length 2),(9,I i),(10,I k),(11,I n),(12,I t)],zn out Iv.d⟩
noncomputable def qt8:List Nat->Nat->Option Ans:=qf []
theorem q21[Lay](fn:Nat)(a b:List Iv)(c:List Int)(out:List Iv)(i k n:Int)(J:St->Prop)(K:D->Heap->Prop):qn (EnV [] [99] Tryz.f33) (fh Tryz.f33 K) (qt8 ) qq3 200 [.code [1,1,1,1,1,0,1,0,0],stp [0,1,2,7,8,9,10,11] J,.blk 0,.code [1,1,1,1,1,1]] (SCm fn a b c out i k n)=
 (c.length<=q8->bif decide (qg .i64 n 1<(↑c.length:Int)) then(0<=n/\n<(↑c.length:Int))/\At (EnV [] [99] Tryz.f33) (fh Tryz.f33 K) [It.code [1,1,1,1,1,0,1,0,0,1,0,0,1,0,0],It.blk 2,It.code [1,1,1,1,1,0,1,0,0,1,0,0,1,1],It.blk 1,It.code [1,1,1,1,1,0,1,0,0,1,1],stp [0,1,2,7,8,9,10,11] J,It.blk 0,It.code [1,1,1,1,1,1]] {sl:=[(0,L a 2 Iv.d),(1,L b 2 Iv.d),(2,D.clo fn []),(7,L c 1 I'),(8,D.vec 0 out.length 2),(9,I i),(10,I k),(11,I n),(12,I (c.getD n.toNat default))],h:={box:=fun _=>none,nl:=0,hw:=upd (fun _=>none) 0 (some out.length),nt:=1,vw:=upd (fun _=>none) 0 (some (cv out Iv.d)):Heap}:St} else At (EnV [] [99] Tryz.f33) (fh Tryz.f33 K) [It.code [1,1,1,1,1,1]] {sl:=[(8,D.vec 0 out.length 2)],h:={box:=fun _=>none,nl:=0,hw:=upd (fun _=>none) 0 (some out.length),nt:=1,vw:=upd (fun _=>none) 0 (some (cv out Iv.d)):Heap}:St}):=by kernel_rfl
noncomputable def qt9:List Nat->Nat->Option Ans:=qf []
theorem q22[Lay](fn:Nat)(a b:List Iv)(c:List Int)(out:List Iv)(i k n t:Int)(J J2:St->Prop)(K:D->Heap->Prop):qn (EnV [] [99] Tryz.f33) (fh Tryz.f33 K) (qt9 ) qq3 200 [.code [1,1,1,1,1,0,1,0,0,1,0,0,1,0,0,0],stp [0,1,2,7,8,9,10,11,12] J,.blk 2,.code [1,1,1,1,1,0,1,0,0,1,0,0,1,1],.blk 1,.code [1,1,1,1,1,0,1,0,0,1,1],stp [0,1,2,7,8,9,10,11] J2,.blk 0,.code [1,1,1,1,1,1]] (TCm fn a b c out i k n t)=
 (a.length<=q8->(decide (i<(↑a.length:Int))=true->0<=i/\i<(↑a.length:Int))/\bif bif decide (i<(↑a.length:Int)) then decide ((a.getD i.toNat default).to<t) else false then J {sl:=[(0,L a 2 Iv.d),(1,L b 2 Iv.d),(2,D.clo fn []),(7,L c 1 I'),(8,D.vec 0 out.length 2),(9,I (qg .i64 i 1)),(10,I k),(11,I n),(12,I t)],h:={box:=fun _=>none,nl:=0,hw:=upd (fun _=>none) 0 (some out.length),nt:=1,vw:=upd (fun _=>none) 0 (some (cv out Iv.d)):Heap}:St} else At (EnV [] [99] Tryz.f33) (fh Tryz.f33 K) [It.code [1,1,1,1,1,0,1,0,0,1,0,0,1,1,0,0],It.blk 4,It.code [1,1,1,1,1,0,1,0,0,1,0,0,1,1,1],It.blk 1,It.code [1,1,1,1,1,0,1,0,0,1,1],stp [0,1,2,7,8,9,10,11] J2,It.blk 0,It.code [1,1,1,1,1,1]] {sl:=[(0,L a 2 Iv.d),(1,L b 2 Iv.d),(2,D.clo fn []),(7,L c 1 I'),(8,D.vec 0 out.length 2),(9,I i),(10,I k),(11,I n),(12,I t)],h:={box:=fun _=>none,nl:=0,hw:=upd (fun _=>none) 0 (some out.length),nt:=1,vw:=upd (fun _=>none) 0 (some (cv out Iv.d)):Heap}:St}):=by kernel_rfl
noncomputable def q23:List (List Nat×List Nat):=qq3++[([1,1,1,1,1,0,1,0,0,1,0,0,1,1,1],[0,1,2,7,8,9,10,11,12])]
noncomputable def qua:List Nat->Nat->Option Ans:=qf []
theorem q24[Lay](fn:Nat)(a b:List Iv)(c:List Int)(out:List Iv)(i k n t:Int)(J J2:St->Prop)(K:D->Heap->Prop):qn (EnV [] [99] Tryz.f33) (fh Tryz.f33 K) (qua ) q23 200 [.code [1,1,1,1,1,0,1,0,0,1,0,0,1,1,0,0,0],stp [0,1,2,7,8,9,10,11,12] J,.blk 4,.code [1,1,1,1,1,0,1,0,0,1,0,0,1,1,1],.blk 1,.code [1,1,1,1,1,0,1,0,0,1,1],stp [0,1,2,7,8,9,10,11] J2,.blk 0,.code [1,1,1,1,1,1]] (TCm fn a b c out i k n t)=
 (b.length<=q8->(decide (k<(↑b.length:Int))=true->0<=k/\k<(↑b.length:Int))/\bif bif decide (k<(↑b.length:Int)) then decide ((b.getD k.toNat default).to<t) else false then J {sl:=[(0,L a 2 Iv.d),(1,L b 2 Iv.d),(2,D.clo fn []),(7,L c 1 I'),(8,D.vec 0 out.length 2),(9,I i),(10,I (qg .i64 k 1)),(11,I n),(12,I t)],h:={box:=fun _=>none,nl:=0,hw:=upd (fun _=>none) 0 (some out.length),nt:=1,vw:=upd (fun _=>none) 0 (some (cv out Iv.d)):Heap}:St} else At (EnV [] [99] Tryz.f33) (fh Tryz.f33 K) [It.code [1,1,1,1,1,0,1,0,0,1,0,0,1,1,1],It.blk 1,It.code [1,1,1,1,1,0,1,0,0,1,1],stp [0,1,2,7,8,9,10,11] J2,It.blk 0,It.code [1,1,1,1,1,1]] {sl:=[(0,L a 2 Iv.d),(1,L b 2 Iv.d),(2,D.clo fn []),(7,L c 1 I'),(8,D.vec 0 out.length 2),(9,I i),(10,I k),(11,I n),(12,I t)],h:={box:=fun _=>none,nl:=0,hw:=upd (fun _=>none) 0 (some out.length),nt:=1,vw:=upd (fun _=>none) 0 (some (cv out Iv.d)):Heap}:St}):=by kernel_rfl
noncomputable def qub:List (List Nat×List Nat):=[([1,1,1,1,1,0,1,0,0,1,0,0,1,1,1,1],[0,1,2,7,8,9,10,11,12,88])]
noncomputable def quc(a:List Iv)(b:List Iv)(i:Int)(k:Int)(t:Int):List Nat->Nat->Option Ans:=qf [([1,1,1,1,1,0,1,0,0,1,0,0,1,1,1,0],27,Ans.pure [B (bif decide (i<(↑a.length:Int)) then decide ((a.getD i.toNat default).frm<=t) else false),B (bif decide (k<(↑b.length:Int)) then decide ((b.getD k.toNat default).frm<=t) else false)] (B (okR 0 (bif decide (i<(↑a.length:Int)) then decide ((a.getD i.toNat default).frm<=t) else false) (bif decide (k<(↑b.length:Int)) then decide ((b.getD k.toNat default).frm<=t) else false))))]
theorem q25[Lay](a b:List Iv)(c:List Int)(out:List Iv)(i k n t:Int)(J:St->Prop)(K:D->Heap->Prop):qn (EnV [] [99] Tryz.f33) (fh Tryz.f33 K) (quc a b i k t) qub 200 [.code [1,1,1,1,1,0,1,0,0,1,0,0,1,1,1],.blk 1,.code [1,1,1,1,1,0,1,0,0,1,1],stp [0,1,2,7,8,9,10,11] J,.blk 0,.code [1,1,1,1,1,1]] (TCm 82 a b c out i k n t)=
 (a.length<=q8->(decide (i<(↑a.length:Int))=true->0<=i/\i<(↑a.length:Int))/\(b.length<=q8->(decide (k<(↑b.length:Int))=true->0<=k/\k<(↑b.length:Int))/\PureW PP 82 [B (bif decide (i<(↑a.length:Int)) then decide ((a.getD i.toNat default).frm<=t) else false),B (bif decide (k<(↑b.length:Int)) then decide ((b.getD k.toNat default).frm<=t) else false)] [B (bif decide (i<(↑a.length:Int)) then decide ((a.getD i.toNat default).frm<=t) else false),B (bif decide (k<(↑b.length:Int)) then decide ((b.getD k.toNat default).frm<=t) else false)] (B (okR 0 (bif decide (i<(↑a.length:Int)) then decide ((a.getD i.toNat default).frm<=t) else false) (bif decide (k<(↑b.length:Int)) then decide ((b.getD k.toNat default).frm<=t) else false)))/\At (EnV [] [99] Tryz.f33) (fh Tryz.f33 K) [It.code [1,1,1,1,1,0,1,0,0,1,0,0,1,1,1,1],It.blk 1,It.code [1,1,1,1,1,0,1,0,0,1,1],stp [0,1,2,7,8,9,10,11] J,It.blk 0,It.code [1,1,1,1,1,1]] {sl:=[(0,L a 2 Iv.d),(1,L b 2 Iv.d),(2,D.clo 82 []),(7,L c 1 I'),(8,D.vec 0 out.length 2),(9,I i),(10,I k),(11,I n),(12,I t),(88,B (okR 0 (bif decide (i<(↑a.length:Int)) then decide ((a.getD i.toNat default).frm<=t) else false) (bif decide (k<(↑b.length:Int)) then decide ((b.getD k.toNat default).frm<=t) else false)))],h:={box:=fun _=>none,nl:=0,hw:=upd (fun _=>none) 0 (some out.length),nt:=1,vw:=upd (fun _=>none) 0 (some (cv out Iv.d)):Heap}:St})):=by kernel_rfl
noncomputable def qud(a:List Iv)(b:List Iv)(i:Int)(k:Int)(t:Int):List Nat->Nat->Option Ans:=qf [([1,1,1,1,1,0,1,0,0,1,0,0,1,1,1,0],27,Ans.pure [B (bif decide (i<(↑a.length:Int)) then decide ((a.getD i.toNat default).frm<=t) else false),B (bif decide (k<(↑b.length:Int)) then decide ((b.getD k.toNat default).frm<=t) else false)] (B (okR 1 (bif decide (i<(↑a.length:Int)) then decide ((a.getD i.toNat default).frm<=t) else false) (bif decide (k<(↑b.length:Int)) then decide ((b.getD k.toNat default).frm<=t) else false))))]
theorem q26[Lay](a b:List Iv)(c:List Int)(out:List Iv)(i k n t:Int)(J:St->Prop)(K:D->Heap->Prop):qn (EnV [] [99] Tryz.f33) (fh Tryz.f33 K) (qud a b i k t) qub 200 [.code [1,1,1,1,1,0,1,0,0,1,0,0,1,1,1],.blk 1,.code [1,1,1,1,1,0,1,0,0,1,1],stp [0,1,2,7,8,9,10,11] J,.blk 0,.code [1,1,1,1,1,1]] (TCm 131 a b c out i k n t)=
 (a.length<=q8->(decide (i<(↑a.length:Int))=true->0<=i/\i<(↑a.length:Int))/\(b.length<=q8->(decide (k<(↑b.length:Int))=true->0<=k/\k<(↑b.length:Int))/\PureW PP 131 [B (bif decide (i<(↑a.length:Int)) then decide ((a.getD i.toNat default).frm<=t) else false),B (bif decide (k<(↑b.length:Int)) then decide ((b.getD k.toNat default).frm<=t) else false)] [B (bif decide (i<(↑a.length:Int)) then decide ((a.getD i.toNat default).frm<=t) else false),B (bif decide (k<(↑b.length:Int)) then decide ((b.getD k.toNat default).frm<=t) else false)] (B (okR 1 (bif decide (i<(↑a.length:Int)) then decide ((a.getD i.toNat default).frm<=t) else false) (bif decide (k<(↑b.length:Int)) then decide ((b.getD k.toNat default).frm<=t) else false)))/\At (EnV [] [99] Tryz.f33) (fh Tryz.f33 K) [It.code [1,1,1,1,1,0,1,0,0,1,0,0,1,1,1,1],It.blk 1,It.code [1,1,1,1,1,0,1,0,0,1,1],stp [0,1,2,7,8,9,10,11] J,It.blk 0,It.code [1,1,1,1,1,1]] {sl:=[(0,L a 2 Iv.d),(1,L b 2 Iv.d),(2,D.clo 131 []),(7,L c 1 I'),(8,D.vec 0 out.length 2),(9,I i),(10,I k),(11,I n),(12,I t),(88,B (okR 1 (bif decide (i<(↑a.length:Int)) then decide ((a.getD i.toNat default).frm<=t) else false) (bif decide (k<(↑b.length:Int)) then decide ((b.getD k.toNat default).frm<=t) else false)))],h:={box:=fun _=>none,nl:=0,hw:=upd (fun _=>none) 0 (some out.length),nt:=1,vw:=upd (fun _=>none) 0 (some (cv out Iv.d)):Heap}:St})):=by kernel_rfl
noncomputable def que(a:List Iv)(b:List Iv)(i:Int)(k:Int)(t:Int):List Nat->Nat->Option Ans:=qf [([1,1,1,1,1,0,1,0,0,1,0,0,1,1,1,0],27,Ans.pure [B (bif decide (i<(↑a.length:Int)) then decide ((a.getD i.toNat default).frm<=t) else false),B (bif decide (k<(↑b.length:Int)) then decide ((b.getD k.toNat default).frm<=t) else false)] (B (okR 2 (bif decide (i<(↑a.length:Int)) then decide ((a.getD i.toNat default).frm<=t) else false) (bif decide (k<(↑b.length:Int)) then decide ((b.getD k.toNat default).frm<=t) else false))))]
theorem q27[Lay](a b:List Iv)(c:List Int)(out:List Iv)(i k n t:Int)(J:St->Prop)(K:D->Heap->Prop):qn (EnV [] [99] Tryz.f33) (fh Tryz.f33 K) (que a b i k t) qub 200 [.code [1,1,1,1,1,0,1,0,0,1,0,0,1,1,1],.blk 1,.code [1,1,1,1,1,0,1,0,0,1,1],stp [0,1,2,7,8,9,10,11] J,.blk 0,.code [1,1,1,1,1,1]] (TCm 34 a b c out i k n t)=
 (a.length<=q8->(decide (i<(↑a.length:Int))=true->0<=i/\i<(↑a.length:Int))/\(b.length<=q8->(decide (k<(↑b.length:Int))=true->0<=k/\k<(↑b.length:Int))/\PureW PP 34 [B (bif decide (i<(↑a.length:Int)) then decide ((a.getD i.toNat default).frm<=t) else false),B (bif decide (k<(↑b.length:Int)) then decide ((b.getD k.toNat default).frm<=t) else false)] [B (bif decide (i<(↑a.length:Int)) then decide ((a.getD i.toNat default).frm<=t) else false),B (bif decide (k<(↑b.length:Int)) then decide ((b.getD k.toNat default).frm<=t) else false)] (B (okR 2 (bif decide (i<(↑a.length:Int)) then decide ((a.getD i.toNat default).frm<=t) else false) (bif decide (k<(↑b.length:Int)) then decide ((b.getD k.toNat default).frm<=t) else false)))/\At (EnV [] [99] Tryz.f33) (fh Tryz.f33 K) [It.code [1,1,1,1,1,0,1,0,0,1,0,0,1,1,1,1],It.blk 1,It.code [1,1,1,1,1,0,1,0,0,1,1],stp [0,1,2,7,8,9,10,11] J,It.blk 0,It.code [1,1,1,1,1,1]] {sl:=[(0,L a 2 Iv.d),(1,L b 2 Iv.d),(2,D.clo 34 []),(7,L c 1 I'),(8,D.vec 0 out.length 2),(9,I i),(10,I k),(11,I n),(12,I t),(88,B (okR 2 (bif decide (i<(↑a.length:Int)) then decide ((a.getD i.toNat default).frm<=t) else false) (bif decide (k<(↑b.length:Int)) then decide ((b.getD k.toNat default).frm<=t) else false)))],h:={box:=fun _=>none,nl:=0,hw:=upd (fun _=>none) 0 (some out.length),nt:=1,vw:=upd (fun _=>none) 0 (some (cv out Iv.d)):Heap}:St})):=by kernel_rfl
noncomputable def quf:List Nat->Nat->Option Ans:=qf []
theorem q28[Lay](fn:Nat)(a b:List Iv)(c:List Int)(out:List Iv)(i k n t:Int)(ok:Bool)(J:St->Prop)(K:D->Heap->Prop):qn (EnV [] [99] Tryz.f33) (fh Tryz.f33 K) (quf ) p8 200 [.code [1,1,1,1,1,0,1,0,0,1,0,0,1,1,1,1],.blk 1,.code [1,1,1,1,1,0,1,0,0,1,1],stp [0,1,2,7,8,9,10,11] J,.blk 0,.code [1,1,1,1,1,1]] ⟨[(0,L a 2 Iv.d),(1,L b 2 Iv.d),(2,.clo fn []),(7,L c 1 I'),(8,.vec 0 out.length 2),(9,I i),(10,I k),(11,I n),(12,I t),(88,B ok)],zn out Iv.d⟩ =
 (bif ok then(0<=qg .i64 n 1/\qg .i64 n 1<(↑c.length:Int))/\(upd (fun _=>none) 0 (some out.length) 0=some out.length/\(out.length+1)*16<=q7)/\J {sl:=[(0,L a 2 Iv.d),(1,L b 2 Iv.d),(2,D.clo fn []),(7,L c 1 I'),(8,D.vec 0 (out.length+1) 2),(9,I i),(10,I k),(11,I (qg .i64 n 1))],h:={box:=fun _=>none,nl:=0,hw:=upd (upd (fun _=>none) 0 (some out.length)) 0 (some (out.length+1)),nt:=1,vw:=upd (upd (fun _=>none) 0 (some (cv out Iv.d))) 0 (some (zo out.length (cv out Iv.d) (zf [.agg [I t,I (qj .i64 (c.getD (qg .i64 n 1).toNat default) 1)]]))):Heap}:St} else J {sl:=[(0,L a 2 Iv.d),(1,L b 2 Iv.d),(2,D.clo fn []),(7,L c 1 I'),(8,D.vec 0 out.length 2),(9,I i),(10,I k),(11,I (qg .i64 n 1))],h:={box:=fun _=>none,nl:=0,hw:=upd (fun _=>none) 0 (some out.length),nt:=1,vw:=upd (fun _=>none) 0 (some (cv out Iv.d)):Heap}:St}):=by kernel_rfl
noncomputable def qug(out:List Iv):List Nat->Nat->Option Ans:=qf [([1,1,1,1,1,1,0],1,Ans.pure [L out 2 Iv.d] (L (vr out) 2 Iv.d))]
theorem q29[Lay](out:List Iv)(K:D->Heap->Prop):qn (EnV [] [99] Tryz.f33) (fh Tryz.f33 K) (qug out) p8 200 [.code [1,1,1,1,1,1]] ⟨[(8,L out 2 Iv.d)],qgh (zn out Iv.d) 0⟩ =
 (PureW PP 58 [L out 2 Iv.d] [L out 2 Iv.d] (L (vr out) 2 Iv.d)/\K (L (vr out) 2 Iv.d) {box:=fun _=>none,nl:=0,hw:=upd (fun _=>none) 0 (some out.length),nt:=1,vw:=upd (upd (fun _=>none) 0 (some (cv out Iv.d))) 0 none:Heap}):=by kernel_rfl
theorem qig(l:List Iv)(t:Int):ixA l t<=l.length:=(List.takeWhile_sublist _).length_le
theorem ql4:∀(l:List Iv) (t:Int) (j:Nat),j<ixA l t->(l.getD j default).to<t
 | [],_,_,h=>by simp[ixA]at h
 |x::r,t,j,h=>by
  unfold ixA at h
  rw[List.takeWhile_cons]at h
  by_cases hx:x.to<t
  ·rw[decide_eq_true hx,if_pos rfl,List.length_cons]at h
   cases j with
   |zero=>exact hx
   |succ j=>exact ql4 r t j (by unfold ixA;omega)
  ·rw[decide_eq_false hx,if_neg (by simp)]at h
   simp at h
theorem ql5:∀(l:List Iv) (t:Int),ixA l t<l.length->¬(l.getD (ixA l t) default).to<t
 | [],_,h=>by simp at h
 |x::r,t,h=>by
  unfold ixA at h⊢
  rw[List.takeWhile_cons]at h⊢
  by_cases hx:x.to<t
  ·rw[decide_eq_true hx,if_pos rfl]at h⊢
   rw[List.length_cons,List.getD_cons_succ]
   exact ql5 r t (by unfold ixA;simp only[List.length_cons]at h;omega)
  ·rw[decide_eq_false hx,if_neg (by simp)]
   exact hx
theorem o6:∀(l:List Iv) {t u:Int},t<=u->ixA l t<=ixA l u
 | [],_,_,_=>Nat.le_refl _
 |x::r,t,u,h=>by
  unfold ixA
  rw[List.takeWhile_cons,List.takeWhile_cons]
  by_cases hx:x.to<t
  ·rw[decide_eq_true hx,if_pos rfl,decide_eq_true (show x.to<u by omega),if_pos rfl,List.length_cons,List.length_cons]
   exact Nat.succ_le_succ (o6 r h)
  ·rw[decide_eq_false hx,if_neg (by simp)]
   exact Nat.zero_le _
theorem qev{l:List Iv}{t:Int}{i:Nat}(h:i<=ixA l t):(bif decide ((i:Int)<(l.length:Int)) then decide ((l.getD i default).to<t) else false)=decide (i<ixA l t):=by
 have hle:=qig l t
 by_cases hi:i<ixA l t
 ·rw[decide_eq_true hi,decide_eq_true (show(i:Int)<l.length by omega),cond_true,decide_eq_true (ql4 l t i hi)]
 ·have he:i=ixA l t:=by omega
  rw[decide_eq_false hi]
  by_cases hl:i<l.length
  ·rw[decide_eq_true (show(i:Int)<l.length by omega),cond_true,he,decide_eq_false (ql5 l t (by omega))]
  ·rw[decide_eq_false (show ¬(i:Int)<l.length by omega)];rfl
theorem ql6{l:List Iv}{lo:Int}(hn:Nor lo l)(t:Int):(bif decide ((ixA l t:Int)<(l.length:Int)) then decide ((l.getD (ixA l t) default).frm<=t) else false)=l.any (inP t):=by
 rw[qnh hn t]
 by_cases hl:ixA l t<l.length
 ·rw[decide_eq_true (show(ixA l t:Int)<l.length by omega),cond_true]
  exact decide_eq_decide.2 ⟨fun h=>⟨hl,h⟩,fun h=>h.2⟩
 ·rw[decide_eq_false (show ¬(ixA l t:Int)<l.length by omega),cond_false]
  symm
  exact decide_eq_false fun h=>hl h.1
noncomputable abbrev EnM:Env:=EnV [] [99] Tryz.f33
def qk0[Lay](fn:Nat)(r:Int):Prop:=∀(K:D->Heap->Prop) (J:St->Prop) (a b:List Iv) (c:List Int) (out:List Iv) (i k:Nat) (n t:Int),a.length<=1000000->b.length<=1000000 ->
 At EnM (fh Tryz.f33 K) [It.code [1,1,1,1,1,0,1,0,0,1,0,0,1,1,1,1],It.blk 1,It.code [1,1,1,1,1,0,1,0,0,1,1],stp [0,1,2,7,8,9,10,11] J,It.blk 0,It.code [1,1,1,1,1,1]] ⟨[(0,L a 2 Iv.d),(1,L b 2 Iv.d),(2,.clo fn []),(7,L c 1 I'),(8,.vec 0 out.length 2),(9,I i),(10,I k),(11,I n),(12,I t),(88,B (okR r (bif decide ((i:Int)<(a.length:Int)) then decide ((a.getD i default).frm<=t) else false) (bif decide ((k:Int)<(b.length:Int)) then decide ((b.getD k default).frm<=t) else false)))],zn out Iv.d⟩ ->
 At EnM (fh Tryz.f33 K) [It.code [1,1,1,1,1,0,1,0,0,1,0,0,1,1,1],It.blk 1,It.code [1,1,1,1,1,0,1,0,0,1,1],stp [0,1,2,7,8,9,10,11] J,It.blk 0,It.code [1,1,1,1,1,1]] (TCm fn a b c out i k n t)
theorem quh[Lay]:qk0 82 0:=fun K J a b c out i k n t _ _ h=>by
 refine qe jv _ _ _ (of_eq (q25 a b c out i k n t _ _) fun _=>⟨fun hh=>⟨by omega,of_decide_eq_true hh⟩,fun _=>⟨fun hh=>⟨by omega,of_decide_eq_true hh⟩,PureW.mk (c82 _ _),?_⟩⟩)
 rw[Int.toNat_natCast,Int.toNat_natCast]
 exact h
theorem qui[Lay]:qk0 131 1:=fun K J a b c out i k n t _ _ h=>by
 refine qe jv _ _ _ (of_eq (q26 a b c out i k n t _ _) fun _=>⟨fun hh=>⟨by omega,of_decide_eq_true hh⟩,fun _=>⟨fun hh=>⟨by omega,of_decide_eq_true hh⟩,PureW.mk (q2z _ _),?_⟩⟩)
 rw[Int.toNat_natCast,Int.toNat_natCast]
 exact h
theorem quj[Lay]:qk0 34 2:=fun K J a b c out i k n t _ _ h=>by
 refine qe jv _ _ _ (of_eq (q27 a b c out i k n t _ _) fun _=>⟨fun hh=>⟨by omega,of_decide_eq_true hh⟩,fun _=>⟨fun hh=>⟨by omega,of_decide_eq_true hh⟩,PureW.mk (c34 _ _),?_⟩⟩)
 rw[Int.toNat_natCast,Int.toNat_natCast]
 exact h
theorem qk1(a b:List Iv):(o3 a b).length<=2*a.length+2*b.length:=by
 refine Nat.le_trans (qdg _) ?_
 rw[o5,List.length_append,ry,ry];omega
theorem ui(l:List Iv)(f t:Int):(jn l f t).length<=l.length:=by
 have hm:∀(q out:List Iv),(q.foldl mrg out).length<=out.length+q.length:=fun q=>by
  induction q with
  |nil=>intro out;simp
  |cons x r ih =>
   intro out
   rw[List.foldl_cons]
   have:=ih (mrg out x)
   have:=qne out x
   rw[List.length_cons];omega
 unfold jn
 have h1:=hm (cn (l.filterMap (za (loT f) (hiT t)))) []
 have h2:=ow (l.filterMap (za (loT f) (hiT t)))
 have h3:(l.filterMap (za (loT f) (hiT t))).length<=l.length:=List.length_filterMap_le _ _
 simp only[List.length_nil]at h1
 omega
theorem gi(l:List Iv):(vr l).length<=l.length:=ui _ _ _
theorem qnj[Lay](fn:Nat)(r:Int)(hst:qk0 fn r)(a b:List Iv)(ha:a.length<=10000)(hb:b.length<=10000):Pure PP 33 [L a 2 Iv.d,L b 2 Iv.d,.clo fn []] (L (cmR r a b) 2 Iv.d):=by
 rw[<-qng]
 have la:=gi a
 have lb:=gi b
 have na:=(xe a).1
 have nb:=(xe b).1
 refine pr F33 (by kernel_rfl) (of_eq (nCo fn a b _) ⟨PureW.mk (c58 a (by omega)),PureW.mk (c58 b (by omega)),PureW.mk (c59 _ _ (by omega) (by omega)),?_⟩)
 have hcs:=(qby (vr a) (vr b)).1
 have hcl:=qk1 (vr a) (vr b)
 generalize vr a=A at *
 generalize vr b=B' at *
 generalize o3 A B'=c at *
 have hcm:c.length<=q8:=by unfold q8;omega
 refine jc (st':=SCm fn A B' c [] ((0:Nat):Int) ((0:Nat):Int) ((0:Nat):Int)) ?_ ((StLe.idle _ (some (cv ([]:List Iv) Iv.d)) 8 2 (cv ([]:List Iv) Iv.d) rfl).cast (by kernel_rfl))
 refine lp (fn:=Tryz.f33) (fun z:Nat×Nat×Nat×List Iv=>z.1<=c.length/\(z.1<c.length->z.2.1<=ixA A (c.getD z.1 default)/\z.2.2.1<=ixA B' (c.getD z.1 default))/\z.2.2.2.length<=z.1/\qjj (okR r) A B' c=z.2.2.2++qjj (okR r) A B' (c.drop z.1)) (fun z=>SCm fn A B' c z.2.2.2 z.2.1 z.2.2.1 z.1) (fun z=>c.length-z.1) [0,1,2,7,8,9,10,11] (by kernel_rfl) (fun z hz=>of_eq (q21 fn A B' c z.2.2.2 z.2.1 z.2.2.1 z.1 _ _) fun _=> ?_) (0,0,0,[]) ⟨Nat.zero_le _,fun _=>⟨Nat.zero_le _,Nat.zero_le _⟩,Nat.le_refl _,rfl⟩
 obtain⟨n,i,k,out⟩:=z
 obtain⟨hn,hik,hol,hcc⟩:=hz
 simp only at hn hik hol hcc⊢
 have hn1:qg .i64 (n:Int) 1=((n+1:Nat):Int):=by rw[jk (by omega) (by omega)];rfl
 rw[hn1]
 refine qa (fun hlt=>⟨⟨by omega,by have:=of_decide_eq_true hlt;omega⟩,?_⟩) fun hge=> ?_
 ·have hlt:n+1<c.length:=ltI hlt
  obtain⟨hi,hk⟩:=hik (by omega)
  have htu:c.getD n default<=c.getD (n+1) default:=by
   have:=List.pairwise_iff_getElem.1 hcs n (n+1) (by omega) hlt (by omega)
   rw[List.getD_eq_getElem?_getD,List.getD_eq_getElem?_getD,List.getElem?_eq_getElem (show n<c.length by omega),List.getElem?_eq_getElem hlt]
   exact Int.le_of_lt this
  rw[jb c n (by omega),jb c (n+1) hlt,qjj,<-jb c (n+1) hlt]at hcc
  rw[Int.toNat_natCast]
  generalize hte:c.getD n default=t at hi hk htu hcc⊢
  refine lp (fn:=Tryz.f33) (fun i:Nat=>i<=ixA A t) (fun i=>TCm fn A B' c out i k n t) (fun i=>A.length-i) [0,1,2,7,8,9,10,11,12] (by kernel_rfl) (fun i hi=>of_eq (q22 fn A B' c out i k n t _ _ _) fun _=> ?_) i hi
  have hiA:=qig A t
  rw[Int.toNat_natCast,qev hi]
  refine⟨fun h=>⟨by omega,of_decide_eq_true h⟩,qa (fun h=> ?_) fun h=> ?_⟩
  ·have h:=of_decide_eq_true h
   have hi1:qg .i64 (i:Int) 1=((i+1:Nat):Int):=by rw[jk (by omega) (by omega)];rfl
   rw[hi1]
   exact Nx.mk (i+1) h (by omega)
  have hie:i=ixA A t:=by have:=of_decide_eq_false h;omega
  refine lp (fn:=Tryz.f33) (fun k:Nat=>k<=ixA B' t) (fun k=>TCm fn A B' c out i k n t) (fun k=>B'.length-k) [0,1,2,7,8,9,10,11,12] (by kernel_rfl) (fun k hk=>of_eq (q24 fn A B' c out i k n t _ _ _) fun _=> ?_) k hk
  have hkB:=qig B' t
  rw[Int.toNat_natCast,qev hk]
  refine⟨fun h=>⟨by omega,of_decide_eq_true h⟩,qa (fun h=> ?_) fun h=> ?_⟩
  ·have h:=of_decide_eq_true h
   have hk1:qg .i64 (k:Int) 1=((k+1:Nat):Int):=by rw[jk (by omega) (by omega)];rfl
   rw[hk1]
   exact Nx.mk (k+1) h (by omega)
  have hke:k=ixA B' t:=by have:=of_decide_eq_false h;omega
  refine hst _ _ A B' c out i k n t (by omega) (by omega) ?_
  rw[hie,hke,ql6 na t,ql6 nb t]
  generalize hok:okR r (A.any (inP t)) (B'.any (inP t))=ok at hcc⊢
  refine qe jv _ _ _ (of_eq (q28 fn A B' c out (ixA A t) (ixA B' t) n t ok _ _) ?_)
  rw[hn1,Int.toNat_natCast]
  have hnx:n+1<c.length->ixA A t<=ixA A (c.getD (n+1) default)/\ixA B' t<=ixA B' (c.getD (n+1) default):=fun _=>⟨o6 A htu,o6 B' htu⟩
  refine qa (fun h=> ?_) fun h=> ?_
  ·rw[h,if_pos rfl,<-List.append_assoc]at hcc
   refine⟨⟨by omega,by omega⟩,⟨qb _ _ _,by unfold q7;omega⟩,Nx.of (n+1,ixA A t,ixA B' t,out++[⟨t,qj .i64 (c.getD (n+1) default) 1⟩]) ⟨by simp only;omega,hnx,by simp only[List.length_append,List.length_singleton];omega,hcc⟩ (by simp only;omega) ?_⟩
   simp only[SCm,zn,List.length_append,List.length_singleton]
   rw[q6,q6]
   exact StLe.vec (t:=0) (n:=out.length+1) (qb _ _ _) fun j hj=>il (enc:=Iv.d) (x:=(⟨t,qj .i64 (c.getD (n+1) default) 1⟩:Iv)) rfl hj
  ·rw[h,if_neg (by simp),List.nil_append]at hcc
   exact Nx.mk (n+1,ixA A t,ixA B' t,out) ⟨by simp only;omega,hnx,by simp only;omega,hcc⟩ (by simp only;omega)
 ·have hge:c.length<=n+1:=geI hge
  have hrest:qjj (okR r) A B' (c.drop n)=[]:=by
   rcases hd:c.drop n with _|⟨x,_|⟨y,q⟩⟩
   ·rfl
   ·rfl
   ·have:=congrArg List.length hd
    simp only[List.length_drop,List.length_cons]at this
    omega
  rw[hrest,List.append_nil]at hcc
  rw[hcc]
  refine jc (st':=⟨[(8,L out 2 Iv.d)],qgh (zn out Iv.d) 0⟩) ?_ (((StLe.frz 0 (n:=out.length) (f:=cv out Iv.d) rfl rfl (by simp[pf,ua])).trans (StLe.set 8 (d':=L out 2 Iv.d) rfl Wk.tokL rfl rfl)).cast (by kernel_rfl))
  exact qe jv _ _ _ (of_eq (q29 out _) ⟨PureW.mk (c58 out (by omega)),⟨_,RetLe.refl _ _⟩⟩)
theorem q3a[Lay](a b:List Iv)(ha:a.length<=10000)(hb:b.length<=10000):Pure PP 33 [L a 2 Iv.d,L b 2 Iv.d,.clo 82 []] (L (cmR 0 a b) 2 Iv.d):=qnj _ 0 quh a b ha hb
theorem q3b[Lay](a b:List Iv)(ha:a.length<=10000)(hb:b.length<=10000):Pure PP 33 [L a 2 Iv.d,L b 2 Iv.d,.clo 131 []] (L (cmR 1 a b) 2 Iv.d):=qnj _ 1 qui a b ha hb
theorem q3c[Lay](a b:List Iv)(ha:a.length<=10000)(hb:b.length<=10000):Pure PP 33 [L a 2 Iv.d,L b 2 Iv.d,.clo 34 []] (L (cmR 2 a b) 2 Iv.d):=qnj _ 2 quj a b ha hb
theorem qew{h:Heap}:HeapLe h ⟨fun _=>none,h.nl,fun _=>none,h.nt,fun _=>none⟩:=⟨fun l row' e=>(by cases e),Nat.le_refl _,fun t n e=>(by cases e),Nat.le_refl _,fun t n e=>(by cases e),fun _ _=>rfl⟩
def hT1:Heap:=⟨fun _=>none,0,fun _=>none,1,fun _=>none⟩
theorem F52:OkF 52 Tryz.f52:=⟨by kernel_rfl,by kernel_rfl,by kernel_rfl⟩
def q3d:List (List Nat×List Nat):=[]
noncomputable def q3e(a:List Iv)(b:List Iv):List Nat->Nat->Option Ans:=qf [([1,0],2,Ans.pure [L a 2 Iv.d,L b 2 Iv.d,D.clo 82 []] (L (cmR 0 a b) 2 Iv.d))]
theorem nUn[Lay](a b:List Iv)(K:D->Prop):qn (En Tryz.f52) (fi Tryz.f52 K) (q3e a b) q3d 200 [.code []] ⟨qc 0 [L a 2 Iv.d,L b 2 Iv.d],.empty⟩ =
 (PureW PP 33 [L a 2 Iv.d,L b 2 Iv.d,D.clo 82 []] [L a 2 Iv.d,L b 2 Iv.d,D.clo 82 []] (L (cmR 0 a b) 2 Iv.d)/\K (L (cmR 0 a b) 2 Iv.d)):=by kernel_rfl
theorem F91:OkF 91 Tryz.f91:=⟨by kernel_rfl,by kernel_rfl,by kernel_rfl⟩
def q3f:List (List Nat×List Nat):=[]
noncomputable def q3g(a:List Iv)(b:List Iv):List Nat->Nat->Option Ans:=qf [([1,0],2,Ans.pure [L a 2 Iv.d,L b 2 Iv.d,D.clo 131 []] (L (cmR 1 a b) 2 Iv.d))]
theorem nIs[Lay](a b:List Iv)(K:D->Prop):qn (En Tryz.f91) (fi Tryz.f91 K) (q3g a b) q3f 200 [.code []] ⟨qc 0 [L a 2 Iv.d,L b 2 Iv.d],.empty⟩ =
 (PureW PP 33 [L a 2 Iv.d,L b 2 Iv.d,D.clo 131 []] [L a 2 Iv.d,L b 2 Iv.d,D.clo 131 []] (L (cmR 1 a b) 2 Iv.d)/\K (L (cmR 1 a b) 2 Iv.d)):=by kernel_rfl
theorem F17:OkF 17 Tryz.f17:=⟨by kernel_rfl,by kernel_rfl,by kernel_rfl⟩
def q3h:List (List Nat×List Nat):=[]
noncomputable def q3i(a:List Iv)(b:List Iv):List Nat->Nat->Option Ans:=qf [([1,0],2,Ans.pure [L a 2 Iv.d,L b 2 Iv.d,D.clo 34 []] (L (cmR 2 a b) 2 Iv.d))]
theorem nWo[Lay](a b:List Iv)(K:D->Prop):qn (En Tryz.f17) (fi Tryz.f17 K) (q3i a b) q3h 200 [.code []] ⟨qc 0 [L a 2 Iv.d,L b 2 Iv.d],.empty⟩ =
 (PureW PP 33 [L a 2 Iv.d,L b 2 Iv.d,D.clo 34 []] [L a 2 Iv.d,L b 2 Iv.d,D.clo 34 []] (L (cmR 2 a b) 2 Iv.d)/\K (L (cmR 2 a b) 2 Iv.d)):=by kernel_rfl
theorem c52[Lay](a b:List Iv)(ha:a.length<=10000)(hb:b.length<=10000):Pure PP 52 [L a 2 Iv.d,L b 2 Iv.d] (L (cmR 0 a b) 2 Iv.d):=pu F52 (by kernel_rfl) (of_eq (nUn a b _) ⟨PureW.mk (q3a a b ha hb),Wk.refl _⟩)
theorem c91[Lay](a b:List Iv)(ha:a.length<=10000)(hb:b.length<=10000):Pure PP 91 [L a 2 Iv.d,L b 2 Iv.d] (L (cmR 1 a b) 2 Iv.d):=pu F91 (by kernel_rfl) (of_eq (nIs a b _) ⟨PureW.mk (q3b a b ha hb),Wk.refl _⟩)
theorem c17[Lay](a b:List Iv)(ha:a.length<=10000)(hb:b.length<=10000):Pure PP 17 [L a 2 Iv.d,L b 2 Iv.d] (L (cmR 2 a b) 2 Iv.d):=pu F17 (by kernel_rfl) (of_eq (nWo a b _) ⟨PureW.mk (q3c a b ha hb),Wk.refl _⟩)
theorem Pure.wkA[Lay]{f:Nat}{args args':List D}{v:D}(p:Pure PP f args' v)(da:Datas args)(h:Wks args args'):Pure PP f args v:=by
 obtain⟨h1,h2,h3,h4⟩:=p
 exact⟨h1,da,h3,fun g w vs a b hs=>h4 g w vs a b (h g vs hs)⟩
instance ddLit1{sz:Nat}{x:D}[h:DD x]:DD (.list 1 sz (zf [x]) .full):=⟨by
 simp only[Ab.Data]
 refine⟨fun i hi=> ?_,fun _ _ h=>by cases h⟩
 have:i=0:=by omega
 subst this
 exact h.p⟩
theorem q3j[Lay](f t:Int)(b:List Iv)(hb:b.length<=10000):Pure PP 17 [.list 1 2 (zf [.agg [I f,I t]]) .full,L b 2 Iv.d] (L (cmR 2 [⟨f,t⟩] b) 2 Iv.d):=by
 have d:DS [D.list 1 2 (zf [.agg [I f,I t]]) .full,L b 2 Iv.d]:=inferInstance
 exact Pure.wkA (c17 [⟨f,t⟩] b (by simp) hb) d.p (Wks.cons (Wk.litL (enc:=Iv.d) (l:=[⟨f,t⟩]) rfl rfl) (Wks.refl _))
theorem F92:OkF 92 Tryz.f92:=⟨by kernel_rfl,by kernel_rfl,by kernel_rfl⟩
def q3k:List (List Nat×List Nat):=[]
noncomputable def q3l(l:List Iv)(f:Int)(t:Int):List Nat->Nat->Option Ans:=qf [([1,0],5,Ans.pure [.list 1 2 (zf [.agg [I f,I t]]) .full,L l 2 Iv.d] (L (cmR 2 [{frm:=f,to:=t:Iv}] l) 2 Iv.d))]
theorem nCp[Lay](l:List Iv)(f t:Int)(K:D->Prop):qn (En Tryz.f92) (fi Tryz.f92 K) (q3l l f t) q3k 200 [.code []] ⟨qc 0 [L l 2 Iv.d,I f,I t],.empty⟩ =
 (PureW PP 17 [.list 1 2 (zf [.agg [I f,I t]]) .full,L l 2 Iv.d] [.list 1 2 (zf [.agg [I f,I t]]) .full,L l 2 Iv.d] (L (cmR 2 [{frm:=f,to:=t:Iv}] l) 2 Iv.d)/\K (L (cmR 2 [{frm:=f,to:=t:Iv}] l) 2 Iv.d)):=by kernel_rfl
def qcd(l:List Iv)(f t:Int):List Iv:=cmR 2 [⟨f,t⟩] l
theorem c92[Lay](l:List Iv)(f t:Int)(hl:l.length<=10000):Pure PP 92 [L l 2 Iv.d,I f,I t] (L (qcd l f t) 2 Iv.d):=pu F92 (by kernel_rfl) (of_eq (nCp l f t _) ⟨PureW.mk (q3j f t l hl),Wk.refl _⟩)
theorem F83:OkF 83 Tryz.f83:=⟨by kernel_rfl,by kernel_rfl,by kernel_rfl⟩
def q3m:List (List Nat×List Nat):=[]
noncomputable def q3n:List Nat->Nat->Option Ans:=qf []
theorem nDl[Lay](a b:Int)(K:D->Prop):qn (En Tryz.f83) (fi Tryz.f83 K) (q3n ) q3m 200 [.code []] ⟨qc 0 [I a,I b],.empty⟩ =
 (K (B (bif bif decide (a>= -1099511627776) then decide (b<=1099511627776) else false then decide (a<=b) else false))):=by kernel_rfl
def qk2(a b:Int):Bool:=bif bif decide (a>= -1099511627776) then decide (b<=1099511627776) else false then decide (a<=b) else false
theorem c83[Lay](a b:Int):Pure PP 83 [I a,I b] (B (qk2 a b)):=pu F83 (by kernel_rfl) (of_eq (nDl a b _) (Wk.refl _))
theorem F84:OkF 84 Tryz.f84:=⟨by kernel_rfl,by kernel_rfl,by kernel_rfl⟩
def qx8:List (List Nat×List Nat):=[([1,1,0,1,0],[1,2,3,4,11,15,16,17]),([1,1,1],[3,4,11])]
noncomputable def q3o(l:List Iv):List Nat->Nat->Option Ans:=qf [([1,1,0,0],1,Ans.pure [L l 2 Iv.d] (L (vr l) 2 Iv.d))]
theorem nMv[Lay](l:List Iv)(u v f t:Int)(K:D->Prop):qn (En Tryz.f84) (fi Tryz.f84 K) (q3o l) qx8 200 [.code []] ⟨qc 0 [L l 2 Iv.d,I u,I v,I f,I t],.empty⟩ =
 (PureW PP 58 [L l 2 Iv.d] [L l 2 Iv.d] (L (vr l) 2 Iv.d)/\((vr l).length<=q8->At (En Tryz.f84) (fi Tryz.f84 K) [It.code [1,1,0,1,0],It.blk 0,It.code [1,1,1]] {sl:=[(1,I u),(2,I v),(3,I f),(4,I t),(11,.list 0 0 (fun _=>D.junk) .full),(15,L (vr l) 2 Iv.d),(16,I (↑(vr l).length:Int)),(17,I 0)],h:=Heap.empty:St})):=by kernel_rfl
def SMv(q:List Iv)(u v f t:Int)(out:List Iv)(i:Int):St:=⟨[(1,I u),(2,I v),(3,I f),(4,I t),(11,LT out 2 Iv.d 0),(15,L q 2 Iv.d),(16,I q.length),(17,I i)],hN out.length 1⟩
noncomputable def quk:List Nat->Nat->Option Ans:=qf []
theorem q3p[Lay](q:List Iv)(u v f t:Int)(out:List Iv)(i:Int)(J:St->Prop)(K:D->Prop):qn (En Tryz.f84) (fi Tryz.f84 K) (quk ) qx8 200 [.code [1,1,0,1,0,0],stp [1,2,3,4,11,15,16,17] J,.blk 0,.code [1,1,1]] (SMv q u v f t out i)=
 (bif decide (i<(↑q.length:Int)) then(0<=i/\i<(↑q.length:Int))/\True/\(upd (fun _=>none) 0 (some out.length) 0=some out.length/\(out.length+1)*16<=q7)/\J {sl:=[(1,I u),(2,I v),(3,I f),(4,I t),(11,.list (out.length+1) 2 (zo out.length (fun i=>(out.getD i default).d) (zf [.agg [I (qg .i64 (q.getD i.toNat default).frm u),I (qg .i64 (q.getD i.toNat default).to v)]])) (.tok 0 2)),(15,L q 2 Iv.d),(16,I (↑q.length:Int)),(17,I (qg .i64 i 1))],h:={box:=fun _=>none,nl:=0,hw:=upd (upd (fun _=>none) 0 (some out.length)) 0 (some (out.length+1)),nt:=1,vw:=fun _=>none:Heap}:St} else At (En Tryz.f84) (fi Tryz.f84 K) [It.code [1,1,1]] {sl:=[(3,I f),(4,I t),(11,.list out.length 2 (fun i=>(out.getD i default).d) (.tok 0 2))],h:={box:=fun _=>none,nl:=0,hw:=upd (fun _=>none) 0 (some out.length),nt:=1,vw:=fun _=>none:Heap}:St}):=by kernel_rfl
noncomputable def qul(f:Int)(t:Int)(out:List Iv):List Nat->Nat->Option Ans:=qf [([1,1,1,0],3,Ans.pure [L out 2 Iv.d,I f,I t] (L (jn out f t) 2 Iv.d))]
theorem q3q[Lay](f t:Int)(out:List Iv)(K:D->Prop):qn (En Tryz.f84) (fi Tryz.f84 K) (qul f t out) p8 200 [.code [1,1,1]] ⟨[(3,I f),(4,I t),(11,L out 2 Iv.d)],hT1⟩ =
 (PureW PP 20 [L out 2 Iv.d,I f,I t] [L out 2 Iv.d,I f,I t] (L (jn out f t) 2 Iv.d)/\K (L (jn out f t) 2 Iv.d)):=by kernel_rfl
def mvF(u v:Int)(x:Iv):Iv:=⟨qg .i64 x.frm u,qg .i64 x.to v⟩
def mvI(l:List Iv)(u v f t:Int):List Iv:=jn ((vr l).map (mvF u v)) f t
theorem c84[Lay](l:List Iv)(u v f t:Int)(hb:l.length<=10000):Pure PP 84 [L l 2 Iv.d,I u,I v,I f,I t] (L (mvI l u v f t) 2 Iv.d):=by
 have hn:=gi l
 refine pu F84 (by kernel_rfl) (of_eq (nMv l u v f t _) ⟨PureW.mk (c58 l (by omega)),fun hlm=> ?_⟩)
 unfold mvI
 generalize vr l=q at hn hlm⊢
 refine jc (st':=SMv q u v f t ((q.take 0).map (mvF u v)) ((0:Nat):Int)) ?_ ((StLe.idle _ none 11 2 (fun i=>Iv.d (([]:List Iv).getD i default)) rfl).cast (by kernel_rfl))
 refine lp (fn:=Tryz.f84) (fun i:Nat=>i<=q.length) (fun i=>SMv q u v f t ((q.take i).map (mvF u v)) i) (fun i=>q.length-i) [1,2,3,4,11,15,16,17] (by kernel_rfl) (fun i hi=>of_eq (q3p q u v f t _ i _ _) (qa (fun hlt=> ?_) fun hge=> ?_)) 0 (Nat.zero_le _)
 ·have hlt:=ltI hlt
  have ht:((q.take i).map (mvF u v)).length=i:=by rw[List.length_map,List.length_take];omega
  rw[bi hlt hlm,Int.toNat_natCast]
  refine⟨⟨by omega,by omega⟩,trivial,⟨qb _ _ _,by rw[ht];unfold q7;omega⟩,Nx.of (i+1) hlt (by omega) ?_⟩
  rw[zu _ _ hlt,List.map_append,List.map_singleton]
  generalize (q.take i).map (mvF u v)=out
  unfold SMv hN
  rw[List.length_append,List.length_singleton,q6]
  exact(StLe.set 11 rfl (Wk.snoc (enc:=Iv.d) (x:=mvF u v (q.getD i default))) rfl rfl).cast (by kernel_rfl)
 ·rw[List.take_of_length_le (geI hge)]
  have hml:(q.map (mvF u v)).length<=100000:=by rw[List.length_map];omega
  refine jc (st':=⟨[(3,I f),(4,I t),(11,L (q.map (mvF u v)) 2 Iv.d)],hT1⟩) (qe jv _ _ _ (of_eq (q3q f t _ _) ⟨PureW.mk (c20 _ f t hml),Wk.refl _⟩)) ?_
  exact((StLe.set 11 (d':=L (q.map (mvF u v)) 2 Iv.d) rfl Wk.tokL rfl rfl).trans (StLe.heapLe qew)).cast (by kernel_rfl)
theorem F53:OkF 53 Tryz.f53:=⟨by kernel_rfl,by kernel_rfl,by kernel_rfl⟩
def q3r:List (List Nat×List Nat):=[]
noncomputable def q3s(l:List Iv)(a:Int)(b:Int)(f:Int)(t:Int):List Nat->Nat->Option Ans:=qf [([1,0,0],2,Ans.pure [I a,I b] (B (qk2 a b))),([1,1,0],7,Ans.pure [L l 2 Iv.d,I (qj .i64 0 b),I (qj .i64 0 a),I f,I t] (L (mvI l (qj .i64 0 b) (qj .i64 0 a) f t) 2 Iv.d))]
theorem nGr[Lay](l:List Iv)(a b f t:Int)(K:D->Prop):qn (En Tryz.f53) (fi Tryz.f53 K) (q3s l a b f t) q3r 200 [.code []] ⟨qc 0 [L l 2 Iv.d,I a,I b,I f,I t],.empty⟩ =
 (PureW PP 83 [I a,I b] [I a,I b] (B (qk2 a b))/\bif !qk2 a b then K (.list 0 0 (fun _=>D.junk) .full) else PureW PP 84 [L l 2 Iv.d,I (qj .i64 0 b),I (qj .i64 0 a),I f,I t] [L l 2 Iv.d,I (qj .i64 0 b),I (qj .i64 0 a),I f,I t] (L (mvI l (qj .i64 0 b) (qj .i64 0 a) f t) 2 Iv.d)/\K (L (mvI l (qj .i64 0 b) (qj .i64 0 a) f t) 2 Iv.d)):=by kernel_rfl
def yp(l:List Iv)(a b f t:Int):List Iv:=bif !qk2 a b then[] else mvI l (qj .i64 0 b) (qj .i64 0 a) f t
theorem c53[Lay](l:List Iv)(a b f t:Int)(hb:l.length<=10000):Pure PP 53 [L l 2 Iv.d,I a,I b,I f,I t] (L (yp l a b f t) 2 Iv.d):=by
 refine pu F53 (by kernel_rfl) (of_eq (nGr l a b f t _) ⟨PureW.mk (c83 a b),qa (fun h=> ?_) fun h=> ?_⟩)
 ·unfold yp
  rw[h];exact Wk.nilL
 ·unfold yp
  rw[h];exact⟨PureW.mk (c84 l _ _ f t hb),Wk.refl _⟩
theorem F81:OkF 81 Tryz.f81:=⟨by kernel_rfl,by kernel_rfl,by kernel_rfl⟩
def qx9:List (List Nat×List Nat):=[([1,1,0,1,0],[3,6,7,8]),([1,1,1],[3])]
noncomputable def qum:List Nat->Nat->Option Ans:=qf []
theorem q3t[Lay](l:List Int)(K:D->Prop):qn (En Tryz.f81) (fi Tryz.f81 K) (qum ) qx9 200 [.code []] ⟨qc 0 [L l 1 I'],.empty⟩ =
 (l.length<=q8->At (En Tryz.f81) (fi Tryz.f81 K) [It.code [1,1,0,1,0],It.blk 0,It.code [1,1,1]] {sl:=[(3,.list 0 0 (fun _=>D.junk) .full),(6,L l 1 I'),(7,I (↑l.length:Int)),(8,I 0)],h:=Heap.empty:St}):=by kernel_rfl
def qq4(l:List Int)(out:List Iv)(i:Int):St:=⟨[(3,LT out 2 Iv.d 0),(6,L l 1 I'),(7,I l.length),(8,I i)],hN out.length 1⟩
noncomputable def qp1:List Nat->Nat->Option Ans:=qf []
theorem qun[Lay](l:List Int)(out:List Iv)(i:Int)(J:St->Prop)(K:D->Prop):qn (En Tryz.f81) (fi Tryz.f81 K) (qp1 ) qx9 200 [.code [1,1,0,1,0,0],stp [3,6,7,8] J,.blk 0,.code [1,1,1]] (qq4 l out i)=
 (bif decide (i<(↑l.length:Int)) then(0<=i/\i<(↑l.length:Int))/\(upd (fun _=>none) 0 (some out.length) 0=some out.length/\(out.length+1)*16<=q7)/\J {sl:=[(3,.list (out.length+1) 2 (zo out.length (fun i=>(out.getD i default).d) (zf [.agg [I (l.getD i.toNat default),I (l.getD i.toNat default)]])) (.tok 0 2)),(6,L l 1 I'),(7,I (↑l.length:Int)),(8,I (qg .i64 i 1))],h:={box:=fun _=>none,nl:=0,hw:=upd (upd (fun _=>none) 0 (some out.length)) 0 (some (out.length+1)),nt:=1,vw:=fun _=>none:Heap}:St} else At (En Tryz.f81) (fi Tryz.f81 K) [It.code [1,1,1]] {sl:=[(3,.list out.length 2 (fun i=>(out.getD i default).d) (.tok 0 2))],h:={box:=fun _=>none,nl:=0,hw:=upd (fun _=>none) 0 (some out.length),nt:=1,vw:=fun _=>none:Heap}:St}):=by kernel_rfl
noncomputable def qp2(out:List Iv):List Nat->Nat->Option Ans:=qf [([1,1,1,0],1,Ans.pure [L out 2 Iv.d] (L (vr out) 2 Iv.d))]
theorem qup[Lay](out:List Iv)(K:D->Prop):qn (En Tryz.f81) (fi Tryz.f81 K) (qp2 out) p8 200 [.code [1,1,1]] ⟨[(3,L out 2 Iv.d)],hT1⟩ =
 (PureW PP 58 [L out 2 Iv.d] [L out 2 Iv.d] (L (vr out) 2 Iv.d)/\K (L (vr out) 2 Iv.d)):=by kernel_rfl
def ptF(t:Int):Iv:=⟨t,t⟩
theorem c81[Lay](l:List Int)(hb:l.length<=10000):Pure PP 81 [L l 1 I'] (L (vr (l.map ptF)) 2 Iv.d):=by
 refine pu F81 (by kernel_rfl) (of_eq (q3t l _) fun hlm=> ?_)
 refine jc (st':=qq4 l ((l.take 0).map ptF) ((0:Nat):Int)) ?_ ((StLe.idle _ none 3 2 (fun i=>Iv.d (([]:List Iv).getD i default)) rfl).cast (by kernel_rfl))
 refine lp (fn:=Tryz.f81) (fun i:Nat=>i<=l.length) (fun i=>qq4 l ((l.take i).map ptF) i) (fun i=>l.length-i) [3,6,7,8] (by kernel_rfl) (fun i hi=>of_eq (qun l _ i _ _) (qa (fun hlt=> ?_) fun hge=> ?_)) 0 (Nat.zero_le _)
 ·have hlt:=ltI hlt
  have ht:((l.take i).map ptF).length=i:=by rw[List.length_map,List.length_take];omega
  rw[bi hlt hlm,Int.toNat_natCast]
  refine⟨⟨by omega,by omega⟩,⟨qb _ _ _,by rw[ht];unfold q7;omega⟩,Nx.of (i+1) hlt (by omega) ?_⟩
  rw[zu _ _ hlt,List.map_append,List.map_singleton]
  generalize (l.take i).map ptF=out
  unfold qq4 hN
  rw[List.length_append,List.length_singleton,q6]
  exact(StLe.set 3 rfl (Wk.snoc (enc:=Iv.d) (x:=ptF (l.getD i default))) rfl rfl).cast (by kernel_rfl)
 ·rw[List.take_of_length_le (geI hge)]
  have hml:(l.map ptF).length<=100000:=by rw[List.length_map];omega
  refine jc (st':=⟨[(3,L (l.map ptF) 2 Iv.d)],hT1⟩) (qe jv _ _ _ (of_eq (qup _ _) ⟨PureW.mk (c58 _ hml),Wk.refl _⟩)) ?_
  exact((StLe.set 3 (d':=L (l.map ptF) 2 Iv.d) rfl Wk.tokL rfl rfl).trans (StLe.heapLe qew)).cast (by kernel_rfl)
end Go.Proofs.YtiekphbkomddfaaGreatDoor.S1
namespace Go.Proofs.YtiekphbkomddfaaGreatDoor.S1
open Go Go.Ab Go.Proofs
attribute [local instance] qda
structure Tol where (time:Int) (val:Str) (unk:Bool) deriving Inhabited,DecidableEq
def Tol.d(x:Tol):D:= .agg [I x.time,.str x.val,B x.unk]
instance ddTol{x:Tol}:DD x.d:=inferInstanceAs (DD (.agg _))
theorem F23:OkF 23 Tryz.f23:=⟨by kernel_rfl,by kernel_rfl,by kernel_rfl⟩
def q3u:List (List Nat×List Nat):=[]
noncomputable def quq(t:Tol):List Nat->Nat->Option Ans:=qf [([1,0],11,Ans.pure [.str t.val] (B (qv t.val).snd)),([1,0],16,Ans.pure [.str t.val] (I (dsF t.val)))]
theorem q3v(t:Tol)(K:D->Prop):qn (En Tryz.f23) (fi Tryz.f23 K) (quq t) q3u 200 [.code []] ⟨qc 0 [t.d],.empty⟩ =
 (((bif decide (t.time>=0) then decide (t.time<=1099511627776) else false)=true->PureW PP 40 [.str t.val] [.str t.val] (B (qv t.val).snd))/\((bif bif decide (t.time>=0) then decide (t.time<=1099511627776) else false then(qv t.val).snd else false)=true->PureW PP 41 [.str t.val] [.str t.val] (I (dsF t.val)))/\K (B (bif bif bif decide (t.time>=0) then decide (t.time<=1099511627776) else false then(qv t.val).snd else false then decide (dsF t.val>=0) else false))):=by kernel_rfl
theorem F24:OkF 24 Tryz.f24:=⟨by kernel_rfl,by kernel_rfl,by kernel_rfl⟩
def q3w:List (List Nat×List Nat):=[]
noncomputable def qur:List Nat->Nat->Option Ans:=qf []
theorem q3x(c:UInt8)(K:D->Prop):qn (En Tryz.f24) (fi Tryz.f24 K) (qur ) q3w 200 [.code []] ⟨qc 0 [qk c],.empty⟩ =
 (K (B (bif(↑c.toNat:Int)==120 then true else(↑c.toNat:Int)==122))):=by kernel_rfl
def yq(t:Tol):Bool:=bif bif bif decide (t.time>=0) then decide (t.time<=1099511627776) else false then(qv t.val).2 else false then decide (dsF t.val>=0) else false
def nx(c:UInt8):Bool:=bif(c.toNat:Int)==120 then true else(c.toNat:Int)==122
theorem c23(t:Tol):Pure PP 23 [t.d] (B (yq t)):=pu F23 (by kernel_rfl) (of_eq (q3v t _) ⟨fun _=>PureW.mk (c40 _),fun _=>PureW.mk (c41 _),Wk.refl _⟩)
theorem c24(c:UInt8):Pure PP 24 [qk c] (B (nx c)):=pu F24 (by kernel_rfl) (of_eq (q3x c _) (Wk.refl _))
def wiB(a b t:Str):Bool:=bif bif bif !(qv a).2 then true else !(qv b).2 then true else !(qv t).2 then false else ql2 (qv a).1 (qv b).1 (qv t).1
class qga:Prop where
 p:∀a b t:Str,Pure PP 25 [.str a,.str b,.str t] (B (wiB a b t))
theorem cWi[h:qga](a b t:Str):Pure PP 25 [.str a,.str b,.str t] (B (wiB a b t)):=h.p a b t
theorem F9:OkF 9 Tryz.f9:=⟨by kernel_rfl,by kernel_rfl,by kernel_rfl⟩
def lv9:List (List Nat×List Nat):=[([1,1,0,1,0,1,0,1,0,1,0],[1,2,7,22,23])]
noncomputable def qus(a:Str)(b:Str)(t:Tol):List Nat->Nat->Option Ans:=qf [([1,0,0],1,Ans.pure [t.d] (B (yq t))),([1,1,0,1,0,1,1,1,0,0],4,Ans.pure [.str a,.str b,.str t.val] (B (wiB a b t.val)))]
theorem q3y(k:Int)(a b:Str)(t:Tol)(K:D->Prop):qn (En Tryz.f9) (fi Tryz.f9 K) (qus a b t) lv9 200 [.code []] ⟨qc 0 [I k,.str a,.str b,t.d],.empty⟩ =
 (PureW PP 23 [t.d] [t.d] (B (yq t))/\bif !yq t then K (B false) else bif k==0 then List.length a<=jt->List.length b<=jt->bif(↑(List.length a):Int)!=(↑(List.length b):Int) then K (B false) else List.length a<=jt->At (En Tryz.f9) (fi Tryz.f9 K) [It.code [1,1,0,1,0,1,0,1,0,1,0],It.blk 1,It.code [1,1,0,1,0,1,0,1,1],It.blk 0,It.code [1,1,1]] {sl:=[(1,.str a),(2,.str b),(7,.own [I t.time,.str t.val,B t.unk]),(22,I (↑(List.length a):Int)),(23,I 0)],h:=Heap.empty:St} else bif k==1 then PureW PP 25 [.str a,.str b,.str t.val] [.str a,.str b,.str t.val] (B (wiB a b t.val))/\K (B (wiB a b t.val)) else bif k==2 then K (B (a==b)) else K (B (k==3))):=by kernel_rfl
def qya(a b:Str)(t:Tol)(i:Int):St:=⟨[(1,.str a),(2,.str b),(7,.own [I t.time,.str t.val,B t.unk]),(22,I a.length),(23,I i)],.empty⟩
noncomputable def qp3(a:Str)(b:Str)(i:Int):List Nat->Nat->Option Ans:=qf [([1,1,0,1,0,1,0,1,0,1,0,0,1,1,0,0,1,0],14,Ans.pure [qk (List.getD a i.toNat 0)] (B (nx (List.getD a i.toNat 0)))),([1,1,0,1,0,1,0,1,0,1,0,0,1,1,0,0,1,0],19,Ans.pure [qk (List.getD b i.toNat 0)] (B (nx (List.getD b i.toNat 0))))]
theorem qut(a b:Str)(t:Tol)(i:Int)(J:St->Prop)(K:D->Prop):qn (En Tryz.f9) (fi Tryz.f9 K) (qp3 a b i) lv9 200 [.code [1,1,0,1,0,1,0,1,0,1,0,0],stp [1,2,7,22,23] J,.blk 1,.code [1,1,0,1,0,1,0,1,1],.blk 0,.code [1,1,1]] (qya a b t i)=
 (bif decide (i<(↑(List.length a):Int)) then(0<=i/\i<(↑(List.length a):Int))/\(0<=i/\i<(↑(List.length b):Int))/\(((↑(List.getD a i.toNat 0).toNat:Int)!=(↑(List.getD b i.toNat 0).toNat:Int)&&t.unk)=true->0<=i/\i<(↑(List.length a):Int))/\(((↑(List.getD a i.toNat 0).toNat:Int)!=(↑(List.getD b i.toNat 0).toNat:Int)&&t.unk)=true->PureW PP 24 [qk (List.getD a i.toNat 0)] [qk (List.getD a i.toNat 0)] (B (nx (List.getD a i.toNat 0))))/\(((↑(List.getD a i.toNat 0).toNat:Int)!=(↑(List.getD b i.toNat 0).toNat:Int)&&t.unk && !nx (List.getD a i.toNat 0))=true->0<=i/\i<(↑(List.length b):Int))/\(((↑(List.getD a i.toNat 0).toNat:Int)!=(↑(List.getD b i.toNat 0).toNat:Int)&&t.unk && !nx (List.getD a i.toNat 0))=true->PureW PP 24 [qk (List.getD b i.toNat 0)] [qk (List.getD b i.toNat 0)] (B (nx (List.getD b i.toNat 0))))/\bif bif(↑(List.getD a i.toNat 0).toNat:Int)!=(↑(List.getD b i.toNat 0).toNat:Int) then !bif t.unk then bif nx (List.getD a i.toNat 0) then true else nx (List.getD b i.toNat 0) else false else false then K (B false) else J {sl:=[(1,.str a),(2,.str b),(7,.own [I t.time,.str t.val,B t.unk]),(22,I (↑(List.length a):Int)),(23,I (qg .i64 i 1))],h:=Heap.empty:St} else K (B true)):=by kernel_rfl
def qgb(u:Bool)(x y:UInt8):Bool:=bif(x.toNat:Int)!=(y.toNat:Int) then !bif u then bif nx x then true else nx y else false else false
def uj(u:Bool)(a b:Str):Bool:=decide (a.length=b.length)&&(List.range a.length).all fun i=> !qgb u (a.getD i 0) (b.getD i 0)
def saF(k:Int)(t:Tol)(a b:Str):Bool:=bif !yq t then false else bif k==0 then uj t.unk a b else bif k==1 then wiB a b t.val else bif k==2 then a==b else k==3
theorem c9[qga](k:Int)(a b:Str)(t:Tol):Pure PP 9 [I k,.str a,.str b,t.d] (B (saF k t a b)):=by
 refine pu F9 (by kernel_rfl) (of_eq (q3y k a b t _) ⟨PureW.mk (c23 t),?_⟩)
 unfold saF
 refine qa (fun h=>by rw[h];exact Wk.refl _) fun h=> ?_
 rw[h,cond_false]
 refine qa (fun h0=> ?_) fun h0=> ?_
 ·rw[h0,cond_true]
  refine fun hla _=>qa (fun h1=> ?_) fun h1 _=> ?_
  ·have:uj t.unk a b=false:=by
    unfold uj
    rw[decide_eq_false (by simp at h1;omega)];rfl
   rw[this];exact Wk.refl _
  ·have hab:a.length=b.length:=by simp at h1;omega
   refine lp (fn:=Tryz.f9) (fun i:Nat=>i<=a.length/\∀j,j<i->qgb t.unk (a.getD j 0) (b.getD j 0)=false) (fun i=>qya a b t i) (fun i=>a.length-i) [1,2,7,22,23] (by kernel_rfl) (fun i hi=>of_eq (qut a b t i _ _) (qa (fun hlt=> ?_) fun hge=> ?_)) 0 ⟨Nat.zero_le _,fun j hj=>by omega⟩
   ·have hlt:=ltI hlt
    obtain⟨hi,hj⟩:=hi
    rw[bi hlt (by unfold q8;unfold jt at hla;exact hla),Int.toNat_natCast]
    refine⟨⟨by omega,by omega⟩,⟨by omega,by omega⟩,fun _=>⟨by omega,by omega⟩,fun _=>PureW.mk (c24 _),fun _=>⟨by omega,by omega⟩,fun _=>PureW.mk (c24 _),?_⟩
    refine qa (fun hb=> ?_) fun hb=> ?_
    ·have hb:qgb t.unk (a.getD i 0) (b.getD i 0)=true:=hb
     have:uj t.unk a b=false:=by
      unfold uj
      rw[decide_eq_true hab,Bool.true_and,<-Bool.not_eq_true,List.all_eq_true]
      intro hc
      have:=hc i (List.mem_range.2 hlt)
      rw[hb]at this;cases this
     rw[this];exact Wk.refl _
    ·have hb:qgb t.unk (a.getD i 0) (b.getD i 0)=false:=hb
     refine Nx.mk (i+1) ⟨hlt,fun j hj'=> ?_⟩ (by omega)
     rcases Nat.lt_succ_iff_lt_or_eq.1 hj' with h2|rfl
     ·exact hj j h2
     ·exact hb
   ·have hge:=geI hge
    obtain⟨hi,hj⟩:=hi
    have:uj t.unk a b=true:=by
     unfold uj
     rw[decide_eq_true hab,Bool.true_and,List.all_eq_true]
     intro j hjm
     rw[hj j (by have:=List.mem_range.1 hjm;omega)];rfl
    rw[this];exact Wk.refl _
 ·rw[h0,cond_false]
  refine qa (fun h1=> ?_) fun h1=> ?_
  ·rw[h1];exact⟨PureW.mk (cWi a b t.val),Wk.refl _⟩
  ·rw[h1,cond_false]
   exact qa (fun h2=>by rw[h2];exact Wk.refl _) fun h2=>by rw[h2];exact Wk.refl _
end Go.Proofs.YtiekphbkomddfaaGreatDoor.S1
