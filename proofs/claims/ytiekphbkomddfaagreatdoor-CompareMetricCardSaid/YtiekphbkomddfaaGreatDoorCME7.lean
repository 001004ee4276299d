/- The library's Repeat of bytes: the contract. -/
import Derived.Test.YtiekphbkomddfaaGreatDoorCME6
namespace Go.Proofs.YtiekphbkomddfaaGreatDoor.S1
open Go Go.Ab Go.Proofs

attribute [local instance] yu
def qog:Option Code->Bool
 |some (.region _ _ false)=>true
 |_=>false
theorem qlw{E:Env}{fin:St->Prop}{p:List Nat}{td:List It}{st:St}(hs:qog (sub E.root p)=true)(hok:ya E.nt (vv E.root p)=true)
  (he:zy E.P E.cfg (CallE E.P) (CallY E.P) (PCall E.P) (vv E.root p) (fun _=>false) (fun i st=>At E fin (.ops p i::td) st) 0 (vv E.root p) ⟨ks st.sl,st.h⟩ (At E fin td)):At E fin (.code p::td) st:=by
 unfold qog at hs
 split at hs
 ·rename_i id ops h
  have hops:vv E.root p=ops.toList:=by simp[vv,h]
  rw[hops]at hok he
  exact⟨_,h,rf (fun h=> .inr h) h (fun st h=>h.it) hok he⟩
 ·cases hs
theorem q1o(n:Int):Pure PP 166 [.int .u64 1,.int .u64 n] (.tup [.int .u64 (lh n),.int .u64 (w7 .u64 1 n)]) :=
 pu q1g (by kernel_rfl) (of_eq (q1h n _) ⟨by decide,by decide,by decide,by decide,by decide,Wk.refl _⟩)
theorem q1p(n:Int):Pure PP 142 [.int .u64 1,.int .u64 n] (.tup [.int .u64 (lh n),.int .u64 (w7 .u64 1 n)]) :=
 pu q1i (by kernel_rfl) (of_eq (q1j n _) ⟨PureW.mk (q1o n),Wk.refl _⟩)
theorem q1q(n:Nat)(h:n<=1000):lh n=0/\w7 .u64 1 n=n/\IntKind.u64.wrap n=n/\IntKind.i64.wrap n=n:=by
 have:∀n∈List.range 1001,lh (n:Int)=0/\w7 .u64 1 (n:Int)=n/\IntKind.u64.wrap (n:Int)=n/\IntKind.i64.wrap (n:Int)=n:=by decide +kernel
 exact this n (List.mem_range.2 (by omega))
theorem qas:∀(n t:Nat) (acc:Array Value),(∀v∈acc.toList,∃k:Int,v = .int .u8 k)->∀v∈(Extern.BytealgMakeNoZero.digits n t acc).toList,∃k:Int,v = .int .u8 k
 |0,_,_,h=>h
 |n+1,t,acc,h=>qas n (t / 256) _ fun v hv=>by
  rw[Array.toList_push,List.mem_append]at hv
  rcases hv with hv|hv
  ·exact h v hv
  ·exact⟨_,by simpa using hv⟩
theorem qlx{P:Program}(w:World)(ps:Array TypeId){t e:TypeId}(ht:P.underlying t=some (.slice e)){n:Nat}(hn:n<=281474976710656) :
  ∃m q,n<=m/\(Extern.BytealgMakeNoZero.makeNoZero ps #[t] #[.int .i64 n]).run P w = .ok (.slice (some ⟨w.heap.size,0,none⟩) n m) (w.drew.drew.alloc (.cells (Extern.BytealgMakeNoZero.digits m q #[]) e)):=by
 refine⟨grownCap w n 0 e,(Question.extern "internal/bytealg.MakeNoZero.bytes" 0).cut (w.tape (w.drawn+1) (.extern "internal/bytealg.MakeNoZero.bytes" 0)),by simpa using grownCap_ge w n 0 e,?_⟩
 have h1:¬ (n:Int)<0:=by omega
 have h2:¬ (281474976710656:Int)<(n:Int):=by omega
 rw[show Extern.BytealgMakeNoZero.makeNoZero ps #[t] #[.int .i64 n]=(underlying t >>= fun d=>_) from rfl]
 simp[run_underlying ht,h1,h2,Question.forced,newRow,Lib.size_digits,grownCap]
def qtd:Option Value->D
 |some (.int k n)=> .int k n
 |_=> .int .u8 0
theorem q1r(n:Nat)(hn:n<=100000)(h:Heap)(K:D->Heap->Prop)(hK:∀f:Nat->D,K (.sl h.nl 0 n) {h with box:=upd h.box h.nl (some (.arr n f)),nl:=h.nl+1}):CallE PP 143 [I n] h K:=by
 refine⟨fun g U w vs i hs=> ?_⟩
 simp only[Rs,R]at hs
 obtain⟨v,_,rfl,rfl,rfl⟩:=hs
 obtain⟨m,q,hm,hr⟩:=qlx (P:=PP) w #[3] (t:=84) (e:=5) (by kernel_rfl) (n:=n) (by omega)
 have hrun:=run_callFunc_extern (P:=PP) (f:=143) (fn:=Tryz.f143) (by kernel_rfl) (by kernel_rfl) (by kernel_rfl) (by kernel_rfl) (e:=Extern.BytealgMakeNoZero.makeNoZero #[3] #[84]) (by kernel_rfl) #[.int .i64 n] w
 rw[hr]at hrun
 have hd:=qas m q #[] (by simp)
 have hsz:=Lib.size_digits m q #[]
 generalize Extern.BytealgMakeNoZero.digits m q #[]=cs at *
 have e1:=kj i
 have i1:=i.ext e1
 have e2:=kj i1
 have i2:=i1.ext e2
 have e3:=Ext.alloc i2 (.cells cs 5)
 have r2:Rel 0 g (fun _=>0) U noY ⟨[],h⟩ {tmps:= #[],defers:=[]} w.drew.drew:=⟨DefOk.nil U _,rfl,List.nodup_nil,fun _ _ h=>(by cases h),fun _ _ _ h=>(by cases h),fun _ _ h=>(by cases h),fun _ _ _ _ h=>(by cases h),i2⟩
 have r3:=r2.newBox (row:= .arr n fun j=>qtd cs[j]?) (vals:=cs) (T:=5) ⟨by simp at hsz;omega,fun j hj=>by
  have hj':j<cs.size:=by simp at hsz;omega
  obtain⟨k,hk⟩:=hd cs[j] (by simp)
  exact⟨_,Array.getElem?_eq_getElem hj',by show R g (qtd cs[j]?) cs[j];rw[Array.getElem?_eq_getElem hj',hk];simp only[qtd,R]⟩⟩
 refine⟨_,_,_,.sl h.nl 0 n,_,hrun,?_,r3.inv,Grow.sameσ (vo (i2.frL _ (Nat.le_refl _))) rfl,(e1.kept i.ub).trans ((e2.kept i1.ub).trans (e3.kept i2.ub)),hK _⟩
 simp only[R]
 exact⟨w.heap.size,qb _ _ _,_,_,rfl,hm,by unfold q8;omega,fun _=>rfl⟩
theorem iv{f g:Nat->D}{o c i:Nat}(h1:o<=i)(h2:i<o+c):pw f o c g i=g (i-o):=by
 unfold pw
 rw[Nat.ble_eq_true_of_le h1,show Nat.blt i (o+c)=true from Nat.ble_eq_true_of_le h2];rfl
theorem qdt{f g:Nat->D}{o c i:Nat}(h1:i<o):pw f o c g i=f i:=by
 unfold pw
 rw[show Nat.ble o i=false by rw[<-Bool.not_eq_true,Nat.ble_eq];omega];rfl
theorem q1s(n:Nat)(h1:1<=n)(h:n<=1000):Does PP 122 [.list 1 1 (zx [.int .u8 48]) .full,I n] .empty (.sl 0 0 n) (hRp n fun _=>qk 48):=by
 obtain⟨m1,m2,m3,m4⟩:=q1q n h
 refine du q1k (by kernel_rfl) (of_eq (nRp n _) (qa (fun h=> ?_) fun _=>qa (fun h=> ?_) fun _ _=>⟨PureW.mk (q1p _),qa (fun h=> ?_) fun _ _=>qa (fun h=> ?_) fun _=> ?_⟩))
 ·have:(n:Int)=0:=by simpa using h
  omega
 ·have:(n:Int)<0:=by simpa using h
  omega
 ·rw[m3,m1,m2]at h
  have:(n:Int) > 9223372036854775807:=by simpa using h
  omega
 ·rw[m3,m2,m4]at h
  have:(n:Int) > 8192:=by simpa using h
  omega
 ·rw[m3,m2,m4]
  refine qlw (by kernel_rfl) (by kernel_rfl) (of_eq (q:=CallE PP 143 [I n] .empty fun v h'=>At (En Tryz.f122) (fh Tryz.f122 fun d h''=>RetLe d h'' (.sl 0 0 n) (hRp n fun _=>qk 48)) [.ops [1,1,1,1,1,1,1,1,1,0] 2,.code [1,1,1,1,1,1,1,1,1,1]] ⟨jv [(53,I n),(0,.list 1 1 (zx [.int .u8 48]) .full),(7,I n),(8,I n)] (some 54) v,h'⟩) (by kernel_rfl) (q1r n (by omega) _ _ fun f=> ?_))
  refine qe js _ _ _ (of_eq (q1m n f n _) ⟨⟨by omega,by omega,by omega,rfl⟩,⟨by omega,fun i hi=>(by obtain rfl:i=0:=(by omega);rfl)⟩,?_⟩)
  rw[Int.toNat_natCast,Nat.sub_zero,ja]
  refine lp (fn:=Tryz.f122) (fun x:Nat×(Nat->D)=>1<=x.1/\x.1<=n/\∀i,i<x.1->x.2 i=qk 48) (fun x=>SRp n x.2 n x.1) (fun x=>n-x.1) [7,8,9,10] (by kernel_rfl) (fun x hx=>of_eq (q1n n x.2 n x.1 _ _) (qa (fun hlt=> ?_) fun hge=> ?_)) (min 1 n,pw f 0 (min 1 n) (zx [.int .u8 48])) ⟨by omega,by omega,fun i hi=> ?_⟩
  ·obtain⟨b,f⟩:=x
   obtain⟨x1,x2,x3⟩:=hx
   simp only at x1 x2 x3 hlt⊢
   have hlt:=ltI hlt
   rw[if_neg (by omega),Int.toNat_natCast,Nat.sub_zero]
   refine⟨⟨by omega,by omega⟩,⟨by omega,by omega,by omega⟩,⟨by omega,by omega,fun i hi=> ?_⟩,Nx.of (b+min b (n-b),pw f b (min b (n-b)) f) ⟨by simp only;omega,by simp only;omega,fun i hi=> ?_⟩ (by simp only;omega) ?_⟩
   ·rw[Nat.zero_add,x3 i hi];rfl
   ·simp only at hi⊢
    rcases Nat.lt_or_ge i b with hb|hb
    ·rw[qdt hb];exact x3 i hb
    ·rw[iv hb hi];exact x3 _ (by omega)
   ·rw[ja,Nat.zero_add,Nat.mul_one,qfx,jp (by omega) (by omega)]
    exact(StLe.refl _ _).cast (by kernel_rfl)
  ·obtain⟨b,f⟩:=x
   obtain⟨x1,x2,x3⟩:=hx
   simp only at x1 x2 x3 hge⊢
   have hge:=geI hge
   exact RetLe.of (Wk.refl _) (HeapLe.row (.arr fun i hi=>by rw[x3 i (by omega)];exact Wk.refl _))
  ·simp only at hi⊢
   rw[iv (by omega) (by omega)]
   have:i=0:=by omega
   subst this;rfl
end Go.Proofs.YtiekphbkomddfaaGreatDoor.S1
namespace Go.Proofs.YtiekphbkomddfaaGreatDoor.S1
open Go Go.Ab Go.Proofs

attribute [local instance] yu
theorem q1t(n:Int)(h1:1<=n)(h:n<=1000):Does PP 122 [.list 1 1 (zx [.int .u8 48]) .full,I n] .empty (.sl 0 0 n.toNat) (hRp n.toNat fun _=>qk 48):=by
 have:=q1s n.toNat (by omega) (by omega)
 rw[show((n.toNat:Nat):Int)=n by omega]at this
 exact this
theorem F70:OkF 70 Tryz.f70:=⟨by kernel_rfl,by kernel_rfl,by kernel_rfl⟩
def q1u:List (List Nat×List Nat):=[]
noncomputable def q1v(n:Int):List Nat->Nat->Option Ans:=qf [([1,0],2,Ans.eff (D.sl 0 0 n.toNat) (hRp n.toNat fun x=>qk 48))]
theorem nAl(x:Nm)(e n:Int)(K:D->Heap->Prop):qo (En Tryz.f70) (fh Tryz.f70 K) (q1v n) q1u 200 [.code []] ⟨qd 0 [x.d,I e,I n],.empty⟩ =
 (Does PP 122 [.list 1 1 (zx [D.int IntKind.u8 48]) .full,I n] Heap.empty (D.sl 0 0 n.toNat) (hRp n.toNat fun x=>qk 48)/\(List.length x.dig<=q8->(0<=qn .i64 (qn .i64 n (↑(List.length x.dig):Int)) (qn .i64 x.ex e)/\qn .i64 (qn .i64 n (↑(List.length x.dig):Int)) (qn .i64 x.ex e)<=(↑n.toNat:Int))/\(0+(qn .i64 (qn .i64 n (↑(List.length x.dig):Int)) (qn .i64 x.ex e)).toNat * 1+(n.toNat-(qn .i64 (qn .i64 n (↑(List.length x.dig):Int)) (qn .i64 x.ex e)).toNat)<=n.toNat/\∀(i:Nat),i<List.length x.dig->qa4 (qk (List.getD x.dig i default))=true)/\K (D.sl 0 0 n.toNat) {box:=upd (upd (fun _=>none) 0 (some (Row.arr n.toNat fun x=>qk 48))) 0 (some (Row.arr n.toNat (pw (fun x=>qk 48) (0+(qn .i64 (qn .i64 n (↑(List.length x.dig):Int)) (qn .i64 x.ex e)).toNat * 1) (min (List.length x.dig) (n.toNat-(qn .i64 (qn .i64 n (↑(List.length x.dig):Int)) (qn .i64 x.ex e)).toNat)) fun i=>qk (List.getD x.dig i default)))),nl:=1,hw:=fun _=>none,nt:=0,vw:=fun _=>none:Heap})):=by kernel_rfl
theorem e70(x:Nm)(e n:Int)(h1:1<=n)(h:n<=1000)(he:e<=x.ex)(hl:x.dig.length+(x.ex-e).toNat<=n.toNat)(hx : -1000000<=e/\x.ex<=1000000) :
  Does PP 70 [x.d,I e,I n] .empty (.sl 0 0 n.toNat) (hRp n.toNat fun i=>qk ((zn x e n.toNat).getD i 0)):=by
 have e1:qn .i64 (qn .i64 n x.dig.length) (qn .i64 x.ex e)=((n.toNat-x.dig.length-(x.ex-e).toNat:Nat):Int):=by
  rw[vt (a:=n) (by omega) (by omega),vt (a:=x.ex) (by omega) (by omega),vt (by omega) (by omega)];omega
 refine du F70 (by kernel_rfl) (of_eq (nAl x e n _) ⟨q1t n h1 h,fun _=> ?_⟩)
 rw[e1,Int.toNat_natCast]
 refine⟨⟨by omega,by omega⟩,⟨by omega,fun i hi=>rfl⟩,?_⟩
 rw[ja]
 refine RetLe.of (Wk.refl _) (HeapLe.row (.arr fun i hi=>Wk.of_eq ?_))
 have hz:∀k j,(zs k).getD j 0=if j<k then 48 else 0:=fun k j=>by
  unfold zs
  rw[List.getD_eq_getElem?_getD,List.getElem?_replicate]
  split <;> rfl
 unfold zn
 generalize ho:n.toNat-x.dig.length-(x.ex-e).toNat=o
 generalize hk:(x.ex-e).toNat=k at *
 rw[List.getD_eq_getElem?_getD]
 rcases Nat.lt_or_ge i (0+o * 1) with h2|h2
 ·rw[qdt h2,List.getElem?_append_left (by rw[bk];omega),<-List.getD_eq_getElem?_getD,hz,if_pos (by omega)]
 ·rw[List.getElem?_append_right (by rw[bk];omega),bk]
  rcases Nat.lt_or_ge i (o+x.dig.length) with h3|h3
  ·rw[iv h2 (by omega),List.getElem?_append_left (by omega),<-List.getD_eq_getElem?_getD]
   rw[show i-(0+o * 1)=i-o by omega];rfl
  ·have hout:pw (fun _=>qk 48) (0+o * 1) (min x.dig.length (n.toNat-o)) (fun i=>qk (x.dig.getD i default)) i=qk 48:=by
    unfold pw
    rw[show Nat.blt i (0+o * 1+min x.dig.length (n.toNat-o))=false by rw[<-Bool.not_eq_true,Nat.blt_eq];omega,Bool.and_false];rfl
   rw[hout,List.getElem?_append_right (by omega),<-List.getD_eq_getElem?_getD,hz,if_pos (by omega)]
theorem qat(c:UInt8):qdx (qk c)=c:=by
 show UInt8.ofNat ((c.toNat:Int)).toNat=c
 rw[Int.toNat_natCast,UInt8.ofNat_toNat]
theorem eTr(ng:Bool)(N:Nat)(F:Nat->D)(e:Int)(hF:∀i,i<N->F i=qk (qdx (F i)))(hl:N<=1000000)(h1 : -1000000000<=e)(h2:e<=1000000000) :
  Does PP 71 [.agg [B ng,.sl 0 0 N,I e]] ⟨upd (fun _=>none) 0 (some (.arr N F)),1,fun _=>none,0,fun _=>none⟩ (qy ⟨ng,qu N F,e⟩).d ⟨fun _=>none,1,fun _=>none,0,fun _=>none⟩:=by
 have hlen:(qu N F).length=N:=by simp[qu]
 have p:=c71 ⟨ng,qu N F,e⟩ (by rw[hlen];exact hl) h1 h2
 refine Does.of_calls p.ok fun g U w vs i hs=> ?_
 obtain⟨g',i',h2,h3⟩:=i.lay (l:=0) (m:=N) (cg:=F) rfl
 have i2:Inv g' U ⟨fun _=>none,1,fun _=>none,0,fun _=>none⟩ w:=by
  have e:qkz ⟨upd (fun _=>none) 0 (some (.arr N F)),1,fun _=>none,0,fun _=>none⟩ 0=⟨fun _=>none,1,fun _=>none,0,fun _=>none⟩:=by
   unfold qkz
   congr 1
   funext l
   rcases l with _|l <;> rfl
  rw[<-e];exact i'
 have hs':Rs g' [Nm.d ⟨ng,qu N F,e⟩] vs:=by
  simp only[Rs]at hs⊢
  obtain⟨v,r,rfl,hv,hr⟩:=hs
  refine⟨v,r,rfl,?_,hr⟩
  simp only[R,Rs,Nm.d]at hv⊢
  obtain⟨us,rfl,b,q,rfl,hb,s,q2,rfl,hs2,k,q3,rfl,hk,rfl⟩:=hv
  refine⟨_,rfl,b,_,rfl,hb,s,_,rfl,?_,k,_,rfl,hk,rfl⟩
  have h4:=h3 s 0 N 1 (fun i=>qk ((qu N F).getD i default)) (by simpa only[R] using hs2) (by omega) (ElemsOf.one fun j hj=>⟨rfl,rfl,rfl,by
   rw[Nat.zero_add,hF j hj]
   congr 1
   simp[qu,List.getD,hj]⟩)
  show R g' (.list (qu N F).length 1 _ .none) s
  rw[hlen];exact h4
 refine Calls.mono (p.calls g' w vs i2.ltab i2.sub hs') fun e w' ⟨x,σ',e1,e2,e3,e4,e5,e6⟩=> ?_
 have ex:Ext g' w ⟨σ',g'.μ,g'.τ⟩ w':=⟨⟨e3,fun _ _ h=>h,fun _ k h=>⟨k,h,rfl,Nat.le_refl _,fun _=>rfl⟩⟩,rfl,rfl,e5,e4,e6⟩
 exact⟨x,_,e1,e2,i2.ext ex,h2.trans (ex.grow i2.ub),ex.kept i2.ub⟩
theorem F43:OkF 43 Tryz.f43:=⟨by kernel_rfl,by kernel_rfl,by kernel_rfl⟩
def qvr:List (List Nat×List Nat):=[([1,1,1,1,1,1,0],[2,3,4,5,6]),([1,1,1,1,1,1,1,1,0,1,0],[2,3,4,5,7,8,9,10]),([1,1,1,1,1,1,1,1,0,1,0,0,1,0,0,1,1,0],[2,3,4,5,7,8,10,11]),([1,1,1,1,1,1,1,1,0,1,0,0,1,0,0,1,1,1,1],[2,3,4,5,7,8,9,10,11]),([1,1,1,1,1,1,1,1,1],[2,4,5,7])]
noncomputable def q1w(a:Nm)(b:Nm):List Nat->Nat->Option Ans:=qf [([1,1,1,1,0],1,Ans.pure [a.d] (I a.fst)),([1,1,1,1,0],3,Ans.pure [b.d] (I b.fst)),([1,1,1,1,1,0,0],2,Ans.pure [a.d,b.d] (I (m5 a b)))]
theorem nAd(a b:Nm)(K:D->Heap->Prop):qo (En Tryz.f43) (fh Tryz.f43 K) (q1w a b) qvr 200 [.code []] ⟨qd 0 [a.d,b.d],.empty⟩ =
 (List.length a.dig<=q8->bif(↑(List.length a.dig):Int)==0 then True/\K (.agg [B b.neg,L b.dig 1 qk,I b.ex]) Heap.empty else List.length b.dig<=q8->bif(↑(List.length b.dig):Int)==0 then True/\K (.agg [B a.neg,L a.dig 1 qk,I a.ex]) Heap.empty else PQ PP 68 [a.d] (I a.fst)/\PQ PP 68 [b.d] (I b.fst)/\PQ PP 69 [a.d,b.d] (I (m5 a b))/\bif decide (m5 a b<0) then True/\True/\At (En Tryz.f43) (fh Tryz.f43 K) [It.code [1,1,1,1,1,1,0],It.code [1,1,1,1,1,1,1]] {sl:=[(2,.own [B b.neg,L b.dig 1 qk,I b.ex]),(3,.own [B a.neg,L a.dig 1 qk,I a.ex]),(4,.own [B false,.list 0 0 (fun _=>D.junk) .full,I 0]),(5,I (if b.ex<a.ex then b.ex else a.ex)),(6,I (qg .i64 (qn .i64 (if b.fst > a.fst then b.fst else a.fst) (if b.ex<a.ex then b.ex else a.ex)) 2))],h:=Heap.empty:St} else At (En Tryz.f43) (fh Tryz.f43 K) [It.code [1,1,1,1,1,1,0],It.code [1,1,1,1,1,1,1]] {sl:=[(2,.own [B a.neg,L a.dig 1 qk,I a.ex]),(3,.own [B b.neg,L b.dig 1 qk,I b.ex]),(4,.own [B false,.list 0 0 (fun _=>D.junk) .full,I 0]),(5,I (if b.ex<a.ex then b.ex else a.ex)),(6,I (qg .i64 (qn .i64 (if b.fst > a.fst then b.fst else a.fst) (if b.ex<a.ex then b.ex else a.ex)) 2))],h:=Heap.empty:St}):=by kernel_rfl
def hAd(N:Nat)(f g:Nat->D):Heap:=⟨upd (upd (fun _=>none) 0 (some (.arr N f))) 1 (some (.arr N g)),2,fun _=>none,0,fun _=>none⟩
def qte:List (List Nat×List Nat):=[([1,1,1,1,1,1,1,1,0,1,0],[2,3,4,5,7,8,9,10])]
noncomputable def qtf(a:Nm)(b:Nm)(e:Int)(n:Int):List Nat->Nat->Option Ans:=qf [([1,1,1,1,1,1,0],3,Ans.eff (D.sl 0 0 n.toNat) (hRp n.toNat fun i=>qk (List.getD (zn a e n.toNat) i 0))),([1,1,1,1,1,1,0],7,Ans.eff (ren (rnm [] 1) (rnm [] 0) (D.sl 0 0 n.toNat)) (qh [] [] {box:=upd (fun _=>none) 0 (some (Row.arr n.toNat fun i=>qk (List.getD (zn a e n.toNat) i 0))),nl:=1,hw:=fun _=>none,nt:=0,vw:=fun _=>none:Heap} (hRp n.toNat fun i=>qk (List.getD (zn b e n.toNat) i 0))))]
theorem q1x(a b:Nm)(e n:Int)(K:D->Heap->Prop):qo (En Tryz.f43) (fh Tryz.f43 K) (qtf a b e n) qte 200 [.code [1,1,1,1,1,1,0],.code [1,1,1,1,1,1,1]] ⟨[(2,.own [B a.neg,L a.dig 1 qk,I a.ex]),(3,.own [B b.neg,L b.dig 1 qk,I b.ex]),(4,.own [B false,.list 0 0 (fun _=> .junk) .full,I 0]),(5,I e),(6,I n)],.empty⟩ =
 (Does PP 70 [.agg [B a.neg,L a.dig 1 qk,I a.ex],I e,I n] Heap.empty (D.sl 0 0 n.toNat) (hRp n.toNat fun i=>qk (List.getD (zn a e n.toNat) i 0))/\Does PP 70 [.agg [B b.neg,L b.dig 1 qk,I b.ex],I e,I n] {box:=upd (fun _=>none) 0 (some (Row.arr n.toNat fun i=>qk (List.getD (zn a e n.toNat) i 0))),nl:=1,hw:=fun _=>none,nt:=0,vw:=fun _=>none:Heap} (ren (rnm [] 1) (rnm [] 0) (D.sl 0 0 n.toNat)) (qh [] [] {box:=upd (fun _=>none) 0 (some (Row.arr n.toNat fun i=>qk (List.getD (zn a e n.toNat) i 0))),nl:=1,hw:=fun _=>none,nt:=0,vw:=fun _=>none:Heap} (hRp n.toNat fun i=>qk (List.getD (zn b e n.toNat) i 0)))/\At (En Tryz.f43) (fh Tryz.f43 K) [It.code [1,1,1,1,1,1,1,1,0,1,0],It.blk 0,It.code [1,1,1,1,1,1,1,1,1]] {sl:=[(2,.own [B a.neg,L a.dig 1 qk,I a.ex]),(3,.own [B b.neg,L b.dig 1 qk,I b.ex]),(4,.own [B false,.list 0 0 (fun _=>D.junk) .full,I 0]),(5,I e),(7,D.sl 0 0 n.toNat),(8,D.sl 1 0 n.toNat),(9,I 0),(10,I (qn .i64 n 1))],h:={box:=upd (upd (fun _=>none) 0 (some (Row.arr n.toNat fun i=>qk (List.getD (zn a e n.toNat) i 0)))) 1 (some (Row.arr n.toNat fun i=>qk (List.getD (zn b e n.toNat) i 0))),nl:=2,hw:=fun _=>none,nt:=0,vw:=fun _=>none:Heap}:St}):=by kernel_rfl
def SAd(a b:Nm)(e:Int)(N:Nat)(f g:Nat->D)(c i:Int):St:=⟨[(2,.own [B a.neg,L a.dig 1 qk,I a.ex]),(3,.own [B b.neg,L b.dig 1 qk,I b.ex]),(4,.own [B false,.list 0 0 (fun _=> .junk) .full,I 0]),(5,I e),(7,.sl 0 0 N),(8,.sl 1 0 N),(9,I c),(10,I i)],hAd N f g⟩
def SAe(a b:Nm)(e:Int)(N:Nat)(f g:Nat->D)(i d:Int):St:=⟨[(2,.own [B a.neg,L a.dig 1 qk,I a.ex]),(3,.own [B b.neg,L b.dig 1 qk,I b.ex]),(4,.own [B false,.list 0 0 (fun _=> .junk) .full,I 0]),(5,I e),(7,.sl 0 0 N),(8,.sl 1 0 N),(10,I i),(11,I d)],hAd N f g⟩
def SAf(a b:Nm)(e:Int)(N:Nat)(f g:Nat->D)(c i d:Int):St:=⟨[(2,.own [B a.neg,L a.dig 1 qk,I a.ex]),(3,.own [B b.neg,L b.dig 1 qk,I b.ex]),(4,.own [B false,.list 0 0 (fun _=> .junk) .full,I 0]),(5,I e),(7,.sl 0 0 N),(8,.sl 1 0 N),(9,I c),(10,I i),(11,I d)],hAd N f g⟩
noncomputable def qtg:List Nat->Nat->Option Ans:=qf []
theorem q1y(a b:Nm)(e:Int)(N:Nat)(f g:Nat->UInt8)(c i:Int)(J:St->Prop)(K:D->Heap->Prop):qo (En Tryz.f43) (fh Tryz.f43 K) (qtg ) qvr 200 [.code [1,1,1,1,1,1,1,1,0,1,0,0],stp [2,3,4,5,7,8,9,10] J,.blk 0,.code [1,1,1,1,1,1,1,1,1]] (SAd a b e N (fun j=>qk (f j)) (fun j=>qk (g j)) c i) =
 (bif decide (i>=0) then
 (0<=i/\i<(↑N:Int)) /\
  0+i.toNat * 1<N /\
   bif a.neg==b.neg then(0<=i/\i<(↑N:Int))/\0+i.toNat * 1<N/\At (En Tryz.f43) (fh Tryz.f43 K) [It.code [1,1,1,1,1,1,1,1,0,1,0,0,1,0,0,1,1,0],It.code [1,1,1,1,1,1,1,1,0,1,0,0,1,0,0,1,1,1],It.blk 1,It.code [1,1,1,1,1,1,1,1,0,1,0,0,1,1],stp [2,3,4,5,7,8,9,10] J,It.blk 0,It.code [1,1,1,1,1,1,1,1,1]] {sl:=[(2,.own [B a.neg,L a.dig 1 qk,I a.ex]),(3,.own [B b.neg,L b.dig 1 qk,I b.ex]),(4,.own [B false,nilL,I 0]),(5,I e),(7,.sl 0 0 N),(8,.sl 1 0 N),(10,I i),(11,I (qg .i64 (qg .i64 (IntKind.i64.wrap (qn IntKind.u8 (↑(f (0+i.toNat * 1)).toNat:Int) 48)) c) (IntKind.i64.wrap (qn IntKind.u8 (↑(g (0+i.toNat * 1)).toNat:Int) 48))))],h:=(hAd N (fun j=>qk (f j)) fun j=>qk (g j)):St}
   else(0<=i/\i<(↑N:Int))/\0+i.toNat * 1<N/\At (En Tryz.f43) (fh Tryz.f43 K) [It.code [1,1,1,1,1,1,1,1,0,1,0,0,1,0,0,1,1,0],It.code [1,1,1,1,1,1,1,1,0,1,0,0,1,0,0,1,1,1],It.blk 1,It.code [1,1,1,1,1,1,1,1,0,1,0,0,1,1],stp [2,3,4,5,7,8,9,10] J,It.blk 0,It.code [1,1,1,1,1,1,1,1,1]] {sl:=[(2,.own [B a.neg,L a.dig 1 qk,I a.ex]),(3,.own [B b.neg,L b.dig 1 qk,I b.ex]),(4,.own [B false,nilL,I 0]),(5,I e),(7,.sl 0 0 N),(8,.sl 1 0 N),(10,I i),(11,I (qn .i64 (qg .i64 (IntKind.i64.wrap (qn IntKind.u8 (↑(f (0+i.toNat * 1)).toNat:Int) 48)) c) (IntKind.i64.wrap (qn IntKind.u8 (↑(g (0+i.toNat * 1)).toNat:Int) 48))))],h:=(hAd N (fun j=>qk (f j)) fun j=>qk (g j)):St}
 else At (En Tryz.f43) (fh Tryz.f43 K) [It.code [1,1,1,1,1,1,1,1,1]] {sl:=[(2,.own [B a.neg,L a.dig 1 qk,I a.ex]),(4,.own [B false,.list 0 0 (fun _=>D.junk) .full,I 0]),(5,I e),(7,D.sl 0 0 N)],h:=(hAd N (fun j=>qk (f j)) fun j=>qk (g j)):St}):=by kernel_rfl
def qth:List (List Nat×List Nat):=[([1,1,1,1,1,1,1,1,0,1,0,0,1,0,0,1,1,1,1],[2,3,4,5,7,8,9,10,11])]
noncomputable def qti:List Nat->Nat->Option Ans:=qf []
theorem q1z(a b:Nm)(e:Int)(N:Nat)(f g:Nat->UInt8)(i d:Int)(J:St->Prop)(K:D->Heap->Prop):qo (En Tryz.f43) (fh Tryz.f43 K) (qti ) qth 200 [.code [1,1,1,1,1,1,1,1,0,1,0,0,1,0,0,1,1,0],.code [1,1,1,1,1,1,1,1,0,1,0,0,1,0,0,1,1,1],.blk 1,.code [1,1,1,1,1,1,1,1,0,1,0,0,1,1],stp [2,3,4,5,7,8,9,10] J,.blk 0,.code [1,1,1,1,1,1,1,1,1]] (SAe a b e N (fun j=>qk (f j)) (fun j=>qk (g j)) i d) =
 (bif decide (d > 9) then At (En Tryz.f43) (fh Tryz.f43 K) [It.code [1,1,1,1,1,1,1,1,0,1,0,0,1,0,0,1,1,1,1],It.blk 1,It.code [1,1,1,1,1,1,1,1,0,1,0,0,1,1],stp [2,3,4,5,7,8,9,10] J,It.blk 0,It.code [1,1,1,1,1,1,1,1,1]] {sl:=[(2,.own [B a.neg,L a.dig 1 qk,I a.ex]),(3,.own [B b.neg,L b.dig 1 qk,I b.ex]),(4,.own [B false,nilL,I 0]),(5,I e),(7,.sl 0 0 N),(8,.sl 1 0 N),(9,I 1),(10,I i),(11,I (qn .i64 d 10))],h:=(hAd N (fun j=>qk (f j)) fun j=>qk (g j)):St}
 else bif decide (d<0) then At (En Tryz.f43) (fh Tryz.f43 K) [It.code [1,1,1,1,1,1,1,1,0,1,0,0,1,0,0,1,1,1,1],It.blk 1,It.code [1,1,1,1,1,1,1,1,0,1,0,0,1,1],stp [2,3,4,5,7,8,9,10] J,It.blk 0,It.code [1,1,1,1,1,1,1,1,1]] {sl:=[(2,.own [B a.neg,L a.dig 1 qk,I a.ex]),(3,.own [B b.neg,L b.dig 1 qk,I b.ex]),(4,.own [B false,nilL,I 0]),(5,I e),(7,.sl 0 0 N),(8,.sl 1 0 N),(9,I (-1)),(10,I i),(11,I (qg .i64 d 10))],h:=(hAd N (fun j=>qk (f j)) fun j=>qk (g j)):St} else At (En Tryz.f43) (fh Tryz.f43 K) [It.code [1,1,1,1,1,1,1,1,0,1,0,0,1,0,0,1,1,1,1],It.blk 1,It.code [1,1,1,1,1,1,1,1,0,1,0,0,1,1],stp [2,3,4,5,7,8,9,10] J,It.blk 0,It.code [1,1,1,1,1,1,1,1,1]] {sl:=[(2,.own [B a.neg,L a.dig 1 qk,I a.ex]),(3,.own [B b.neg,L b.dig 1 qk,I b.ex]),(4,.own [B false,nilL,I 0]),(5,I e),(7,.sl 0 0 N),(8,.sl 1 0 N),(9,I 0),(10,I i),(11,I d)],h:=(hAd N (fun j=>qk (f j)) fun j=>qk (g j)):St}):=by kernel_rfl
noncomputable def qtj:List Nat->Nat->Option Ans:=qf []
theorem q10(a b:Nm)(e:Int)(N:Nat)(f g:Nat->UInt8)(c i d:Int)(J:St->Prop)(K:D->Heap->Prop):qo (En Tryz.f43) (fh Tryz.f43 K) (qtj ) my 200 [.code [1,1,1,1,1,1,1,1,0,1,0,0,1,0,0,1,1,1,1],.blk 1,.code [1,1,1,1,1,1,1,1,0,1,0,0,1,1],stp [2,3,4,5,7,8,9,10] J,.blk 0,.code [1,1,1,1,1,1,1,1,1]] (SAf a b e N (fun j=>qk (f j)) (fun j=>qk (g j)) c i d) =
 ((0<=i/\i<(↑N:Int))/\0+i.toNat * 1+1<=N/\J {sl:=[(2,.own [B a.neg,L a.dig 1 qk,I a.ex]),(3,.own [B b.neg,L b.dig 1 qk,I b.ex]),(4,.own [B false,nilL,I 0]),(5,I e),(7,.sl 0 0 N),(8,.sl 1 0 N),(9,I c),(10,I (qn .i64 i 1))],h:={box:=upd ((hAd N (fun j=>qk (f j)) fun j=>qk (g j)).box) 0 (some (Row.arr N fun i_1=>bif(0+i.toNat * 1).ble i_1&&i_1.blt (0+i.toNat * 1+1) then[D.int IntKind.u8 (IntKind.u8.wrap (qg .i64 48 d))].getD (i_1-(0+i.toNat * 1)) D.junk else qk (f i_1))),nl:=2,hw:=fun _=>none,nt:=0,vw:=fun _=>none:Heap}:St}):=by kernel_rfl
noncomputable def qtk(x:Nm)(e:Int)(N:Nat)(f:Nat->UInt8)(g:Nat->UInt8):List Nat->Nat->Option Ans:=qf [([1,1,1,1,1,1,1,1,1,0],5,Ans.eff (ren (rnm [0] 2) (rnm [] 0) (qy (⟨x.neg,qu N fun j=>qk (f j),e⟩:Nm)).d) (qh [0] [] (hAd N (fun j=>qk (f j)) fun j=>qk (g j)) {box:=fun _=>none,nl:=1,hw:=fun _=>none,nt:=0,vw:=fun _=>none:Heap}))]
theorem q11(x:Nm)(e:Int)(N:Nat)(f g:Nat->UInt8)(K:D->Heap->Prop):qo (En Tryz.f43) (fh Tryz.f43 K) (qtk x e N f g) my 200 [.code [1,1,1,1,1,1,1,1,1]] ⟨[(2,.own [B x.neg,L x.dig 1 qk,I x.ex]),(4,.own [B false,.list 0 0 (fun _=> .junk) .full,I 0]),(5,I e),(7,.sl 0 0 N)],hAd N (fun j=>qk (f j)) (fun j=>qk (g j))⟩ =
 (Does PP 71 [.agg [B x.neg,D.sl 0 0 N,I e]] (hAd N (fun j=>qk (f j)) fun j=>qk (g j)) (ren (rnm [0] 2) (rnm [] 0) (qy (⟨x.neg,qu N fun j=>qk (f j),e⟩:Nm)).d) (qh [0] [] (hAd N (fun j=>qk (f j)) fun j=>qk (g j)) {box:=fun _=>none,nl:=1,hw:=fun _=>none,nt:=0,vw:=fun _=>none:Heap})/\True/\K (.agg [B (qy (⟨x.neg,qu N fun j=>qk (f j),e⟩:Nm)).neg,L (qy (⟨x.neg,qu N fun j=>qk (f j),e⟩:Nm)).dig 1 qk,I (qy (⟨x.neg,qu N fun j=>qk (f j),e⟩:Nm)).ex]) {box:=upd ((hAd N (fun j=>qk (f j)) fun j=>qk (g j)).box) 0 none,nl:=2,hw:=fun _=>none,nt:=0,vw:=fun _=>none:Heap}):=by kernel_rfl
end Go.Proofs.YtiekphbkomddfaaGreatDoor.S1
namespace Go.Proofs.YtiekphbkomddfaaGreatDoor.S1
open Go Go.Ab Go.Proofs

attribute [local instance] yu
theorem qcd{c:UInt8}(h:kz c=true):IntKind.i64.wrap (qn .u8 (c.toNat:Int) 48)=dgt c:=by
 have:=of_decide_eq_true h
 unfold qn dgt
 rw[IntWalk.u8_in _ (by omega),IntWalk.i64_in _ (by omega)];omega
theorem qly{d:Int}(h0:0<=d)(h1:d<=9):IntKind.u8.wrap (qg .i64 48 d)=((chD d).toNat:Int):=by
 rw[jp (by omega) (by omega),IntWalk.u8_in _ (by omega)]
 unfold chD
 rw[UInt8.toNat_ofNat'];omega
def adA(sb:Bool)(X Y:Str)(m j:Nat):UInt8:=if j<m then X.getD j 0 else(yx sb (X.drop m) (Y.drop m)).1.getD (j-m) 0
def adC(sb:Bool)(X Y:Str)(m:Nat):Int:=(yx sb (X.drop m) (Y.drop m)).2
def adD(sb:Bool)(X Y:Str)(m:Nat):Int:=(dgt (X.getD m 0):Int)+adC sb X Y (m+1)+(if sb then-(dgt (Y.getD m 0):Int) else(dgt (Y.getD m 0):Int))
theorem j6{l:Str}{i:Nat}(h:i<l.length):l.drop i=l.getD i 0::l.drop (i+1):=by
 rw[List.drop_eq_getElem_cons h,List.getD_eq_getElem?_getD,List.getElem?_eq_getElem h];rfl
theorem qlz{sb:Bool}{X Y:Str}{m:Nat}(hx:m<X.length)(hy:m<Y.length) :
  adC sb X Y m=(yw (adD sb X Y m)).2/\∀j,adA sb X Y m j=if j=m then(yw (adD sb X Y m)).1 else adA sb X Y (m+1) j:=by
 have e:yx sb (X.drop m) (Y.drop m)=((yw (adD sb X Y m)).1::(yx sb (X.drop (m+1)) (Y.drop (m+1))).1,(yw (adD sb X Y m)).2):=by
  rw[j6 hx,j6 hy,yx]
  rfl
 refine⟨by unfold adC;rw[e],fun j=> ?_⟩
 unfold adA
 rw[e]
 by_cases h1:j=m
 ·subst h1
  rw[if_neg (by omega),if_pos rfl,Nat.sub_self];rfl
 ·rw[if_neg h1]
  by_cases h2:j<m
  ·rw[if_pos h2,if_pos (by omega)]
  ·rw[if_neg h2,if_neg (by omega),show j-m=(j-(m+1))+1 by omega];rfl
theorem qoh{sb:Bool}{X Y:Str}(hl:X.length=Y.length)(hx:X.all kz=true)(hy:Y.all kz=true)(m:Nat) : -1<=adC sb X Y m/\adC sb X Y m<=1:=by
 have d:∀q:Str,q.all kz=true->(q.drop m).all kz=true:=fun q h=>by
  rw[List.all_eq_true]at h⊢
  exact fun x hm=>h x (List.mem_of_mem_drop hm)
 have:=kn sb (X.drop m) (Y.drop m) (by rw[List.length_drop,List.length_drop,hl]) (d X hx) (d Y hy)
 exact⟨this.2.2.1,this.2.2.2.1⟩
theorem ql0{q:Str}(h:q.all kz=true){m:Nat}(hm:m<q.length):kz (q.getD m 0)=true:=by
 rw[List.getD_eq_getElem?_getD,List.getElem?_eq_getElem hm]
 exact List.all_eq_true.1 h _ (List.getElem_mem hm)
theorem ql1(sb:Bool)(X Y:Str)(hl:X.length=Y.length)(hx:X.all kz=true)(hy:Y.all kz=true):qu X.length (fun j=>qk (adA sb X Y 0 j))=(yx sb X Y).1:=by
 have h1:=(kn sb X Y hl hx hy).1
 unfold qu
 refine List.ext_getElem (by simp[h1]) fun i h2 h3=> ?_
 rw[List.getElem_map,List.getElem_range,qat]
 unfold adA
 rw[if_neg (Nat.not_lt_zero _),List.drop_zero,List.drop_zero,Nat.sub_zero,List.getD_eq_getElem?_getD,List.getElem?_eq_getElem h3];rfl
instance roSl{l o n:Nat}:RO (.sl l o n):=⟨trivial⟩
instance rbArr{f:Nat->Option Row}{k n:Nat}{get:Nat->D}[h:RB f][r:∀i,DD (get i)]:RB (upd f k (some (.arr n get))):=⟨fun l row e=>by
 by_cases hx:l=k
 ·subst hx;rw[qb]at e;cases e;exact fun i _=>(r i).p
 ·rw[qc _ _ hx]at e;exact h.p l row e⟩
theorem qhb{K:D->Heap->Prop}(a b:Nm)(e:Int)(n:Nat)(ha:a.dig.all kz=true)(hb:b.dig.all kz=true)(e1:e<=a.ex)(e2:e<=b.ex)(he : -100000<=e)(ea:a.ex<=100000)(eb:b.ex<=100000)(la:a.dig.length+(a.ex-e).toNat<n)(lb:b.dig.length+(b.ex-e).toNat<n)(hn:n<=1000)
  (hK:∀h,K (qy ⟨a.neg,(yx (a.neg !=b.neg) (zn a e n) (zn b e n)).1,e⟩).d h) :
  At (En Tryz.f43) (fh Tryz.f43 K) [.code [1,1,1,1,1,1,0],.code [1,1,1,1,1,1,1]] ⟨[(2,.own [B a.neg,L a.dig 1 qk,I a.ex]),(3,.own [B b.neg,L b.dig 1 qk,I b.ex]),(4,.own [B false,.list 0 0 (fun _=> .junk) .full,I 0]),(5,I e),(6,I n)],.empty⟩:=by
 have lx:=wj (x:=a) (e:=e) (n:=n) (by omega)
 have ly:=wj (x:=b) (e:=e) (n:=n) (by omega)
 have dx:=kw e n ha
 have dy:=kw e n hb
 refine qe js _ _ _ (of_eq (q1x a b e n _) ⟨e70 a e n (by omega) (by omega) e1 (by omega) ⟨by omega,by omega⟩,fr (e70 b e n (by omega) (by omega) e2 (by omega) ⟨by omega,by omega⟩) [] [],?_⟩)
 rw[Int.toNat_natCast]
 generalize zn a e n=X at *
 generalize zn b e n=Y at *
 generalize hsb:(a.neg !=b.neg)=sb at *
 have fin0:=ql1 sb X Y (by omega) dx dy
 rw[lx]at fin0
 refine jk (st':=SAd a b e n (fun j=>qk (adA sb X Y n j)) (fun j=>qk (Y.getD j 0)) (adC sb X Y n) ((n:Int)-1)) ?_ (StLe.trans (b:=⟨[(2,.own [B a.neg,L a.dig 1 qk,I a.ex]),(3,.own [B b.neg,L b.dig 1 qk,I b.ex]),(4,.own [B false,.list 0 0 (fun _=> .junk) .full,I 0]),(5,I e),(7,.sl 0 0 n),(8,.sl 1 0 n),(9,I 0),(10,I ((n:Int)-1))],hAd n (fun j=>qk (X.getD j 0)) (fun j=>qk (Y.getD j 0))⟩) ((StLe.refl _ _).cast (by rw[vt (by omega) (by omega)];rfl)) ((StLe.heapLe (h:=hAd n (fun j=>qk (X.getD j 0)) (fun j=>qk (Y.getD j 0))) (h':=hAd n (fun j=>qk (adA sb X Y n j)) (fun j=>qk (Y.getD j 0))) ⟨fun l row' h=> ?_,Nat.le_refl _,fun _ _ h=>(by cases h),Nat.le_refl _,fun _ _ h=>(by cases h),fun _ _=>rfl⟩).cast ?_))
 ·refine lp (fn:=Tryz.f43) (fun m:Nat=>m<=n) (fun m=>SAd a b e n (fun j=>qk (adA sb X Y m j)) (fun j=>qk (Y.getD j 0)) (adC sb X Y m) ((m:Int)-1)) (fun m=>m) [2,3,4,5,7,8,9,10] (by kernel_rfl) (fun m hm=>of_eq (q1y a b e n (adA sb X Y m) (fun j=>Y.getD j 0) (adC sb X Y m) ((m:Int)-1) _ _) (qa (fun h=> ?_) fun h=> ?_)) n (Nat.le_refl _)
  ·obtain⟨i,rfl⟩:∃i,m=i+1:=⟨m-1,(by have h:(m:Int)-1>=0:=(by simpa using h);omega)⟩
   have ei:(((i+1:Nat):Int)-1)=(i:Int):=by omega
   rw[ei,Int.toNat_natCast,Nat.zero_add,Nat.mul_one]
   have hX:adA sb X Y (i+1) i=X.getD i 0:=by unfold adA;rw[if_pos (by omega)]
   have gX:=ql0 dx (m:=i) (by omega)
   have gY:=ql0 dy (m:=i) (by omega)
   have b1:=rx gX
   have b2:=rx gY
   have b3:=qoh (sb:=sb) (X:=X) (Y:=Y) (by omega) dx dy (i+1)
   obtain⟨s1,s2⟩:=qlz (sb:=sb) (X:=X) (Y:=Y) (m:=i) (by omega) (by omega)
   have last:∀d,d=adD sb X Y i->At (En Tryz.f43) (fh Tryz.f43 K) [.code [1,1,1,1,1,1,1,1,0,1,0,0,1,0,0,1,1,0],.code [1,1,1,1,1,1,1,1,0,1,0,0,1,0,0,1,1,1],.blk 1,.code [1,1,1,1,1,1,1,1,0,1,0,0,1,1],stp [2,3,4,5,7,8,9,10] (Nx (En Tryz.f43).nt (fun m:Nat=>m<=n) (fun m=>SAd a b e n (fun j=>qk (adA sb X Y m j)) (fun j=>qk (Y.getD j 0)) (adC sb X Y m) ((m:Int)-1)) (fun m=>m) (i+1)),.blk 0,.code [1,1,1,1,1,1,1,1,1]] (SAe a b e n (fun j=>qk (adA sb X Y (i+1) j)) (fun j=>qk (Y.getD j 0)) i d):=fun d hd=>by
    have hdb : -10<=d/\d<=19:=by
     rw[hd]
     unfold adD
     cases sb
     ·simp only[Bool.false_eq_true,if_false];omega
     ·simp only[if_true];omega
    have put:∀c' d',0<=d'->d'<=9->yw d=(chD d',c')->At (En Tryz.f43) (fh Tryz.f43 K) [.code [1,1,1,1,1,1,1,1,0,1,0,0,1,0,0,1,1,1,1],.blk 1,.code [1,1,1,1,1,1,1,1,0,1,0,0,1,1],stp [2,3,4,5,7,8,9,10] (Nx (En Tryz.f43).nt (fun m:Nat=>m<=n) (fun m=>SAd a b e n (fun j=>qk (adA sb X Y m j)) (fun j=>qk (Y.getD j 0)) (adC sb X Y m) ((m:Int)-1)) (fun m=>m) (i+1)),.blk 0,.code [1,1,1,1,1,1,1,1,1]] (SAf a b e n (fun j=>qk (adA sb X Y (i+1) j)) (fun j=>qk (Y.getD j 0)) c' i d'):=fun c' d' g0 g1 hst=>by
     rw[<-hd,hst]at s1 s2
     refine qe js _ _ _ (of_eq (q10 a b e n (adA sb X Y (i+1)) (fun j=>Y.getD j 0) c' i d' _ _) ⟨⟨by omega,by omega⟩,by rw[Int.toNat_natCast];omega,Nx.of i (by omega) (by omega) ?_⟩)
     rw[Int.toNat_natCast,Nat.zero_add,Nat.mul_one,vt (by omega) (by omega),qly g0 g1,s1]
     refine StLe.trans (StLe.heapLe (h':=hAd n (fun j=>qk (adA sb X Y i j)) (fun j=>qk (Y.getD j 0))) ⟨fun l row' h=> ?_,Nat.le_refl _,fun _ _ h=>(by cases h),Nat.le_refl _,fun _ _ h=>(by cases h),fun _ _=>rfl⟩) ((StLe.refl _ _).cast (by kernel_rfl))
     rcases l with _|_|l
     ·cases h
      refine⟨_,rfl,.arr fun j hj=>Wk.of_eq ?_⟩
      rw[s2 j]
      by_cases hji:j=i
      ·subst hji
       rw[if_pos rfl,Nat.ble_eq_true_of_le (Nat.le_refl _),show Nat.blt j (j+1)=true from Nat.ble_eq_true_of_le (Nat.le_refl _),Nat.sub_self];rfl
      ·rw[if_neg hji]
       have:(Nat.ble i j&&Nat.blt j (i+1))=false:=by
        rw[<-Bool.not_eq_true,Bool.and_eq_true,Nat.ble_eq,Nat.blt_eq];omega
       rw[this];rfl
     ·cases h;exact⟨_,rfl,RowLe.refl _⟩
     ·cases h
    refine qe js _ _ _ (of_eq (q1z a b e n (adA sb X Y (i+1)) (fun j=>Y.getD j 0) i d _ _) (qa (fun h1=> ?_) fun h1=>qa (fun h2=> ?_) fun h2=> ?_))
    ·have h1:d > 9:=by simpa using h1
     rw[vt (by omega) (by omega)]
     exact put 1 (d-10) (by omega) (by omega) (by unfold yw;rw[if_pos h1])
    ·have h1:¬ d > 9:=by simpa using h1
     have h2:d<0:=by simpa using h2
     rw[jp (by omega) (by omega)]
     exact put (-1) (d+10) (by omega) (by omega) (by unfold yw;rw[if_neg h1,if_pos h2])
    ·have h1:¬ d > 9:=by simpa using h1
     have h2:¬ d<0:=by simpa using h2
     exact put 0 d (by omega) (by omega) (by unfold yw;rw[if_neg h1,if_neg h2])
   rw[hX,qcd gX,qcd gY]
   refine⟨⟨by omega,by omega⟩,by omega,qa (fun hs=> ?_) fun hs=> ?_⟩
   ·have hs:sb=false:=by rw[<-hsb];simpa using hs
    refine⟨⟨by omega,by omega⟩,by omega,last _ ?_⟩
    rw[jp (a:=(dgt (X.getD i 0):Int)) (by omega) (by omega),jp (by omega) (by omega)]
    unfold adD
    rw[hs];rfl
   ·have hs:sb=true:=by rw[<-hsb];simpa using hs
    refine⟨⟨by omega,by omega⟩,by omega,last _ ?_⟩
    rw[jp (a:=(dgt (X.getD i 0):Int)) (by omega) (by omega),vt (by omega) (by omega)]
    unfold adD
    rw[hs];rfl
  ·have hm0:m=0:=by
    have:¬ (m:Int)-1>=0:=by simpa using h
    omega
   subst hm0
   refine qe js _ _ _ (of_eq (q11 a e n (adA sb X Y 0) (fun j=>Y.getD j 0) _) ⟨fr (eTr a.neg n (fun j=>qk (adA sb X Y 0 j)) e (fun i _=>by rw[qat]) (by omega) (by omega) (by omega)) [0] [],trivial,?_⟩)
   rw[fin0]
   exact hK _
 ·rcases l with _|_|l
  ·cases h
   refine⟨_,rfl,.arr fun j hj=>Wk.of_eq ?_⟩
   unfold adA
   rw[if_pos hj]
  ·cases h;exact⟨_,rfl,RowLe.refl _⟩
  ·cases h
 ·have:adC sb X Y n=0:=by
   unfold adC
   rw[List.drop_of_length_le (by omega),List.drop_of_length_le (by omega),yx]
   intro _ _ _ _ h;cases h
  rw[this];rfl
end Go.Proofs.YtiekphbkomddfaaGreatDoor.S1
namespace Go.Proofs.YtiekphbkomddfaaGreatDoor.S1
open Go Go.Ab Go.Proofs

attribute [local instance] yu
theorem qau(x:Nm):(qy x).ex<=max 0 (x.ex+x.dig.length):=by
 have:=rz x.dig
 unfold qy
 split
 ·show(0:Int)<=_;omega
 ·show x.ex+_<=_;omega
theorem qhc{a b:Nm}(ha:CN a)(hb:CN b):wt a b<=1000:=by
 obtain⟨_,a2,a3,a4⟩:=ha
 obtain⟨_,b2,b3,b4⟩:=hb
 unfold wt Nm.fst;omega
theorem c43{a b:Nm}(ha:CN a)(hb:CN b):Pure PP 43 [a.d,b.d] (yz a b).d:=by
 have hn:=qhc ha hb
 obtain⟨a1,a2,a3,a4⟩:=ha
 obtain⟨b1,b2,b3,b4⟩:=hb
 have e1:(if b.ex<a.ex then b.ex else a.ex)=min a.ex b.ex:=by split <;> omega
 have e2:qg .i64 (qn .i64 (if b.fst > a.fst then b.fst else a.fst) (min a.ex b.ex)) 2=(wt a b:Int):=by
  rw[show(if b.fst > a.fst then b.fst else a.fst)=max a.fst b.fst by split <;> omega]
  unfold wt Nm.fst
  rw[vt (by omega) (by omega),jp (by omega) (by omega)];omega
 obtain⟨k1,k2⟩:=qc7 (a:=a) (b:=b)
 refine pr F43 (by kernel_rfl) (of_eq (nAd a b _) fun _=>qa (fun h=>⟨trivial,?_⟩) fun h _=>qa (fun h1=>⟨trivial,?_⟩) fun h1=>⟨PureW.mk (c68 a (by omega) (by omega) (by omega)),PureW.mk (c68 b (by omega) (by omega) (by omega)),PureW.mk (c69 a b (by omega) (by omega)),?_⟩)
 ·have h:a.dig=[]:=by simpa using h
  have e:yz a b=b:=by unfold yz;rw[if_pos h]
  rw[e];exact⟨_,RetLe.refl _ _⟩
 ·have h:¬ a.dig=[]:=by simpa using h
  have h1:b.dig=[]:=by simpa using h1
  have e:yz a b=a:=by unfold yz;rw[if_neg h,if_pos h1]
  rw[e];exact⟨_,RetLe.refl _ _⟩
 ·have h:¬ a.dig=[]:=by simpa using h
  have h1:¬ b.dig=[]:=by simpa using h1
  rw[e1,e2]
  refine qa (fun h2=>⟨trivial,trivial,?_⟩) fun h2=> ?_
  ·have h2:m5 a b<0:=by simpa using h2
   have e:yz a b=qy ⟨b.neg,(yx (b.neg !=a.neg) (zn b (min a.ex b.ex) (wt a b)) (zn a (min a.ex b.ex) (wt a b))).1,min a.ex b.ex⟩:=by unfold yz;rw[if_neg h,if_neg h1,if_pos h2]
   rw[e]
   exact qhb b a _ _ b1.dg a1.dg (by omega) (by omega) (by omega) (by omega) (by omega) k2 k1 hn fun h=>⟨_,RetLe.refl _ _⟩
  ·have h2:¬ m5 a b<0:=by simpa using h2
   have e:yz a b=qy ⟨a.neg,(yx (a.neg !=b.neg) (zn a (min a.ex b.ex) (wt a b)) (zn b (min a.ex b.ex) (wt a b))).1,min a.ex b.ex⟩:=by unfold yz;rw[if_neg h,if_neg h1,if_neg h2]
   rw[e]
   exact qhb a b _ _ a1.dg b1.dg (by omega) (by omega) (by omega) (by omega) (by omega) k1 k2 hn fun h=>⟨_,RetLe.refl _ _⟩
theorem zm{q:Str}(h:(q7 q).2=true):CN (q7 q).1:=by
 obtain⟨h1,h2⟩:=qdf q
 rw[h]at h1
 rw[h2 h1.symm]
 obtain⟨c1,c2,c3,c4⟩:=qgn h1.symm
 exact⟨c1,c2,c3,c4⟩
theorem F25:OkF 25 Tryz.f25:=⟨by kernel_rfl,by kernel_rfl,by kernel_rfl⟩
def q12:List (List Nat×List Nat):=[]
noncomputable def qtl(a:Str)(b:Str)(t:Str):List Nat->Nat->Option Ans:=qf [([1,0],1,Ans.pure [.str a] (.tup [(q7 a).fst.d,B (q7 a).snd])),([1,1,0],1,Ans.pure [.str b] (.tup [(q7 b).fst.d,B (q7 b).snd])),([1,1,1,0],1,Ans.pure [.str t] (.tup [(q7 t).fst.d,B (q7 t).snd])),([1,1,1,1,1,0],2,Ans.pure [(q7 b).fst.d] (po (q7 b).fst).d),([1,1,1,1,1,0],3,Ans.pure [(q7 a).fst.d,(po (q7 b).fst).d] (yz (q7 a).fst (po (q7 b).fst)).d),([1,1,1,1,1,1,1,0],2,Ans.pure [{neg:=false,dig:=(yz (q7 a).fst (po (q7 b).fst)).dig,ex:=(yz (q7 a).fst (po (q7 b).fst)).ex:Nm}.d,(q7 t).fst.d] (I (qi1 {neg:=false,dig:=(yz (q7 a).fst (po (q7 b).fst)).dig,ex:=(yz (q7 a).fst (po (q7 b).fst)).ex:Nm} (q7 t).fst)))]
theorem q13(a b t:Str)(K:D->Prop):qo (En Tryz.f25) (fi Tryz.f25 K) (qtl a b t) q12 200 [.code []] ⟨qd 0 [.str a,.str b,.str t],.empty⟩ =
 (PQ PP 42 [.str a] (.tup [(q7 a).fst.d,B (q7 a).snd])/\True/\PQ PP 42 [.str b] (.tup [(q7 b).fst.d,B (q7 b).snd])/\True/\PQ PP 42 [.str t] (.tup [(q7 t).fst.d,B (q7 t).snd])/\True/\bif bif bif !(q7 a).snd then true else !(q7 b).snd then true else !(q7 t).snd then K (B false) else PQ PP 44 [(q7 b).fst.d] (po (q7 b).fst).d/\PQ PP 43 [(q7 a).fst.d,(po (q7 b).fst).d] (yz (q7 a).fst (po (q7 b).fst)).d/\True/\True/\PQ PP 45 [{neg:=false,dig:=(yz (q7 a).fst (po (q7 b).fst)).dig,ex:=(yz (q7 a).fst (po (q7 b).fst)).ex:Nm}.d,(q7 t).fst.d] (I (qi1 {neg:=false,dig:=(yz (q7 a).fst (po (q7 b).fst)).dig,ex:=(yz (q7 a).fst (po (q7 b).fst)).ex:Nm} (q7 t).fst))/\K (B (decide (qi1 {neg:=false,dig:=(yz (q7 a).fst (po (q7 b).fst)).dig,ex:=(yz (q7 a).fst (po (q7 b).fst)).ex:Nm} (q7 t).fst<=0)))):=by kernel_rfl
theorem qjh{a b:Nm}(ha:CN a)(hb:CN b):(yz a b).ex<=10000:=by
 have hn:=qhc ha hb
 obtain⟨a1,a2,a3,a4⟩:=ha
 obtain⟨b1,b2,b3,b4⟩:=hb
 obtain⟨k1,k2⟩:=qc7 (a:=a) (b:=b)
 have l1:=wj (x:=a) (e:=min a.ex b.ex) (n:=wt a b) (by omega)
 have l2:=wj (x:=b) (e:=min a.ex b.ex) (n:=wt a b) (by omega)
 unfold yz
 split
 ·omega
 ·split
  ·omega
  ·split
   ·have t1:=qau ⟨b.neg,(yx (b.neg !=a.neg) (zn b (min a.ex b.ex) (wt a b)) (zn a (min a.ex b.ex) (wt a b))).1,min a.ex b.ex⟩
    have t3:=(kn (b.neg !=a.neg) (zn b (min a.ex b.ex) (wt a b)) (zn a (min a.ex b.ex) (wt a b)) (by rw[l1,l2]) (kw _ _ b1.dg) (kw _ _ a1.dg)).1
    simp only at t1
    omega
   ·have t1:=qau ⟨a.neg,(yx (a.neg !=b.neg) (zn a (min a.ex b.ex) (wt a b)) (zn b (min a.ex b.ex) (wt a b))).1,min a.ex b.ex⟩
    have t3:=(kn (a.neg !=b.neg) (zn a (min a.ex b.ex) (wt a b)) (zn b (min a.ex b.ex) (wt a b)) (by rw[l1,l2]) (kw _ _ a1.dg) (kw _ _ b1.dg)).1
    simp only at t1
    omega
theorem c25(a b t:Str):Pure PP 25 [.str a,.str b,.str t] (B (wiB a b t)):=by
 refine pu F25 (by kernel_rfl) (of_eq (q13 a b t _) ⟨PureW.mk (c42 a),trivial,PureW.mk (c42 b),trivial,PureW.mk (c42 t),trivial,qa (fun h=> ?_) fun h=> ?_⟩)
 ·unfold wiB
  rw[h];exact Wk.refl _
 ·unfold wiB
  rw[h,cond_false]
  have h3:(q7 a).2=true/\(q7 b).2=true/\(q7 t).2=true:=by
   cases h1:(q7 a).2 <;> cases h2:(q7 b).2 <;> cases h3:(q7 t).2 <;> simp_all
  have ca:=zm h3.1
  have cb:=zm h3.2.1
  have ct:=zm h3.2.2
  generalize (q7 a).1=x at *
  generalize (q7 b).1=y at *
  generalize (q7 t).1=z at *
  have cm:=cb.min
  obtain⟨s1,s2⟩:=qgo ca cm
  have s3:=qjh ca cm
  obtain⟨v1,n1⟩:=qah ca.n cm.n (by have:=ca.e1;omega) (by have:=cm.e1;omega) (by have:=ca.l;omega) (by have:=cm.l;omega)
  obtain⟨v2,n2⟩:=qdc n1
  have z1:=ct.l
  have z2:=ct.e1
  have z3:=ct.e2
  have hm : -1<=m5 (qlc (yz x (po y))) z/\m5 (qlc (yz x (po y))) z<=1:=by
   rw[s4 n2 ct.n s1 (by omega) s2 (by omega)]
   rcases qle ((qlc (yz x (po y))).mag-z.mag) with ⟨_,e⟩|⟨_,e⟩|⟨_,e⟩ <;> rw[e] <;> omega
  exact⟨PureW.mk (c44 _),PureW.mk (c43 ca cm),trivial,trivial,PureW.mk (c45 (qlc (yz x (po y))) z ⟨Nat.le_trans s2 (by omega),(by show -1000000<=(yz x (po y)).ex;omega),(by show(yz x (po y)).ex<=1000000;omega)⟩ ⟨by omega,by omega,by omega⟩ hm),Wk.refl _⟩
instance hasW:qes:=⟨c25⟩
end Go.Proofs.YtiekphbkomddfaaGreatDoor.S1
namespace Go.Proofs.YtiekphbkomddfaaGreatDoor.S1
open Go Go.Ab Go.Proofs

attribute [local instance] yu
theorem q14:OkF 151 Tryz.f151:=⟨by kernel_rfl,by kernel_rfl,by kernel_rfl⟩
def qtm:List (List Nat×List Nat):=[]
noncomputable def q15:List Nat->Nat->Option Ans:=qf []
theorem nXd(c:UInt8)(K:D->Prop):qo (En Tryz.f151) (fi Tryz.f151 K) (q15 ) qtm 200 [.code []] ⟨qd 0 [qk c],.empty⟩ =
 (K (B (bif decide ((↑c.toNat:Int)>=48) then decide ((↑c.toNat:Int)<=57) else false))):=by kernel_rfl
theorem q16(c:UInt8):Pure PP 151 [qk c] (B (kz c)):=by
 have e:(bif decide ((c.toNat:Int)>=48) then decide ((c.toNat:Int)<=57) else false)=kz c:=by
  unfold kz
  by_cases h1:(c.toNat:Int)>=48
  ·rw[decide_eq_true h1,cond_true,decide_eq_decide];omega
  ·rw[decide_eq_false h1,cond_false];exact(decide_eq_false (by omega)).symm
 exact pu q14 (by kernel_rfl) (of_eq (nXd c _) (Wk.of_eq (by rw[e])))
theorem q17:OkF 126 Tryz.f126:=⟨by kernel_rfl,by kernel_rfl,by kernel_rfl⟩
def qoi:List (List Nat×List Nat):=[([1,1,0,0],[0,1,5])]
noncomputable def q18:List Nat->Nat->Option Ans:=qf []
theorem nXs(z:Str)(a:Int)(K:D->Prop):qo (En Tryz.f126) (fi Tryz.f126 K) (q18 ) qoi 200 [.code []] ⟨qd 0 [.str z,I a],.empty⟩ =
 (At (En Tryz.f126) (fi Tryz.f126 K) [It.code [1,1,0,0],It.blk 0,It.code [1,1,1]] {sl:=[(0,.str z),(1,I a),(5,I 0)],h:=Heap.empty:St}):=by kernel_rfl
def SXs(z:Str)(a n:Int):St:=⟨[(0,.str z),(1,I a),(5,I n)],.empty⟩
noncomputable def qtn(z:Str)(a:Int)(n:Int):List Nat->Nat->Option Ans:=qf [([1,1,0,0,0,0,0],12,Ans.pure [qk (List.getD z (qg .i64 a n).toNat 0)] (B (kz (List.getD z (qg .i64 a n).toNat 0))))]
theorem q19(z:Str)(a n:Int)(J:St->Prop)(K:D->Prop):qo (En Tryz.f126) (fi Tryz.f126 K) (qtn z a n) qoi 200 [.code [1,1,0,0,0],stp [0,1,5] J,.blk 0,.code [1,1,1]] (SXs z a n) =
 (List.length z<=j4->(decide (qg .i64 a n<(↑(List.length z):Int))=true->0<=qg .i64 a n/\qg .i64 a n<(↑(List.length z):Int))/\(decide (qg .i64 a n<(↑(List.length z):Int))=true->PQ PP 151 [qk (List.getD z (qg .i64 a n).toNat 0)] (B (kz (List.getD z (qg .i64 a n).toNat 0))))/\bif bif decide (qg .i64 a n<(↑(List.length z):Int)) then kz (List.getD z (qg .i64 a n).toNat 0) else false then J {sl:=[(0,.str z),(1,I a),(5,I (qg .i64 n 1))],h:=Heap.empty:St} else K (I n)):=by kernel_rfl
theorem qvs:OkF 127 Tryz.f127:=⟨by kernel_rfl,by kernel_rfl,by kernel_rfl⟩
def qto:List (List Nat×List Nat):=[]
noncomputable def q2a(n:Int):List Nat->Nat->Option Ans:=qf [([1,0,1,0,0],2,Ans.pure [I (qn .i64 0 n)] (.str (Lib.itoa (qn .i64 0 n)))),([1,1,1,0,1,0],2,Ans.pure [I (qew .i64 n 10)] (.str (Lib.itoa (qew .i64 n 10))))]
theorem nXc(n:Int)(K:D->Prop):qo (En Tryz.f127) (fi Tryz.f127 K) (q2a n) qto 200 [.code []] ⟨qd 0 [I n],.empty⟩ =
 (bif decide (n<0) then PQ PP 127 [I (qn .i64 0 n)] (.str (Lib.itoa (qn .i64 0 n)))/\1+(Lib.itoa (qn .i64 0 n)).length<=j4/\K (.str ({data:= #[45]:ByteArray}.data.toList++Lib.itoa (qn .i64 0 n))) else(10:Int)≠0/\y4 1 (zx [D.int IntKind.u8 (IntKind.u8.wrap (qg .i64 48 (n.tmod 10)))])/\bif decide (n>=10) then(10:Int)≠0/\PQ PP 127 [I (qew .i64 n 10)] (.str (Lib.itoa (qew .i64 n 10)))/\(Lib.itoa (qew .i64 n 10)).length+(qu 1 (zx [D.int IntKind.u8 (IntKind.u8.wrap (qg .i64 48 (n.tmod 10)))])).length<=j4/\K (.str (Lib.itoa (qew .i64 n 10)++qu 1 (zx [D.int IntKind.u8 (IntKind.u8.wrap (qg .i64 48 (n.tmod 10)))]))) else K (.str (qu 1 (zx [D.int IntKind.u8 (IntKind.u8.wrap (qg .i64 48 (n.tmod 10)))])))):=by kernel_rfl
structure Pa where (neg:Bool) (dig:Str) (e:Int) deriving Inhabited,DecidableEq
def Pa.d(x:Pa):D:= .agg [B x.neg,.str x.dig,I x.e]
instance ddPa{x:Pa}:DD x.d:=inferInstanceAs (DD (.agg _))
theorem F79:OkF 79 Tryz.f79:=⟨by kernel_rfl,by kernel_rfl,by kernel_rfl⟩
def qtp:List (List Nat×List Nat):=[([1,0,0],[1,2]),([1,1,0,0],[1,2]),([1,1,1],[1,2])]
noncomputable def q2b:List Nat->Nat->Option Ans:=qf []
theorem nXt(x:Pa)(K:D->Prop):qo (En Tryz.f79) (fi Tryz.f79 K) (q2b ) qtp 200 [.code []] ⟨qd 0 [x.d],.empty⟩ =
 (At (En Tryz.f79) (fi Tryz.f79 K) [It.code [1,0,0],It.blk 0,It.code [1,1]] {sl:=[(1,.own [B x.neg,.str x.dig,I x.e]),(2,.own [B false,.str {data:= #[]:ByteArray}.data.toList,I 0])],h:=Heap.empty:St}):=by kernel_rfl
def SXt(n:Bool)(q:Str)(e:Int):St:=⟨[(1,.own [B n,.str q,I e]),(2,.own [B false,.str [],I 0])],.empty⟩
noncomputable def qtq:List Nat->Nat->Option Ans:=qf []
theorem q2c(n:Bool)(q:Str)(e:Int)(J:St->Prop)(K:D->Prop):qo (En Tryz.f79) (fi Tryz.f79 K) (qtq ) qtp 200 [.code [1,0,0,0],stp [1,2] J,.blk 0,.code [1,1]] (SXt n q e) =
 (List.length q<=j4->(decide ((↑(List.length q):Int) > 0)=true->(0:Int)<=0/\0<(↑(List.length q):Int))/\bif bif decide ((↑(List.length q):Int) > 0) then(↑(List.getD q 0 0).toNat:Int)==48 else false then((0:Int)<=1/\1<=(↑(List.length q):Int))/\True/\True/\J {sl:=[(1,.own [B n,.str (List.drop 1 q),I (qn .i64 e 1)]),(2,.own [B false,.str [],I 0])],h:=Heap.empty:St} else At (En Tryz.f79) (fi Tryz.f79 K) [It.code [1,1,0,0],It.blk 2,It.code [1,1,1]] {sl:=[(1,.own [B n,.str q,I e]),(2,.own [B false,.str [],I 0])],h:=Heap.empty:St}):=by kernel_rfl
noncomputable def qtr:List Nat->Nat->Option Ans:=qf []
theorem q2d(n:Bool)(q:Str)(e:Int)(J:St->Prop)(K:D->Prop):qo (En Tryz.f79) (fi Tryz.f79 K) (qtr ) qtp 200 [.code [1,1,0,0,0],stp [1,2] J,.blk 2,.code [1,1,1]] (SXt n q e) =
 (List.length q<=j4->(decide ((↑(List.length q):Int) > 0)=true->List.length q<=j4)->(decide ((↑(List.length q):Int) > 0)=true->0<=qn .i64 (↑(List.length q):Int) 1/\qn .i64 (↑(List.length q):Int) 1<(↑(List.length q):Int))/\bif bif decide ((↑(List.length q):Int) > 0) then(↑(List.getD q (qn .i64 (↑(List.length q):Int) 1).toNat 0).toNat:Int)==48 else false then List.length q<=j4->((0:Int)<=0/\0<=qn .i64 (↑(List.length q):Int) 1/\qn .i64 (↑(List.length q):Int) 1<=(↑(List.length q):Int))/\True/\J {sl:=[(1,.own [B n,.str (List.drop 0 (List.take (qn .i64 (↑(List.length q):Int) 1).toNat q)),I e]),(2,.own [B false,.str [],I 0])],h:=Heap.empty:St} else At (En Tryz.f79) (fi Tryz.f79 K) [It.code [1,1,1]] {sl:=[(1,.own [B n,.str q,I e]),(2,.own [B false,.str [],I 0])],h:=Heap.empty:St}):=by kernel_rfl
noncomputable def qts:List Nat->Nat->Option Ans:=qf []
theorem q2e(n:Bool)(q:Str)(e:Int)(K:D->Prop):qo (En Tryz.f79) (fi Tryz.f79 K) (qts ) my 200 [.code [1,1,1]] (SXt n q e) =
 (bif q=={data:= #[]:ByteArray}.data.toList then True/\K (.agg [B false,.str {data:= #[]:ByteArray}.data.toList,I 0]) else True/\K (.agg [B n,.str q,I e])):=by kernel_rfl
end Go.Proofs.YtiekphbkomddfaaGreatDoor.S1
namespace Go.Proofs.YtiekphbkomddfaaGreatDoor.S1
open Go Go.Ab Go.Proofs

attribute [local instance] yu
theorem qoj:∀(q:Str) (n:Nat),n<=(qi q).1.length->(n<(qi q).1.length↔(n<q.length/\kz (q.getD n 0)=true))
 | [],n,h=>by
  have h:n<=0:=h
  simp[qi]
 |c::r,n,h=>by
  rw[qi]at h⊢
  by_cases hc:kz c=true
  ·rw[if_pos hc]at h⊢
   cases n with
   |zero=>simp[hc]
   |succ n =>
    have:=qoj r n (by simpa using h)
    simp only[List.length_cons,Nat.add_lt_add_iff_right,List.getD_cons_succ]
    exact this
  ·rw[if_neg hc]at h⊢
   have h:n<=0:=h
   obtain rfl:n=0:=by omega
   simp only[List.length_nil,Nat.lt_irrefl,false_iff,not_and]
   exact fun _=>hc
theorem qvt(z:Str)(a:Nat)(ha:a<=z.length)(hz:z.length<=1000000):Pure PP 126 [.str z,I a] (I ((qi (z.drop a)).1.length:Nat)):=by
 have hs:=uq (z.drop a)
 rw[List.length_drop]at hs
 have key:=qoj (z.drop a)
 have hg:∀n,(z.drop a).getD n 0=z.getD (a+n) 0:=fun n=>by rw[List.getD_eq_getElem?_getD,List.getElem?_drop,<-List.getD_eq_getElem?_getD]
 refine pu q17 (by kernel_rfl) (of_eq (nXs z a _) ?_)
 refine lp (fn:=Tryz.f126) (fun n:Nat=>n<=(qi (z.drop a)).1.length) (fun n=>SXs z a n) (fun n=>z.length-n) [0,1,5] (by kernel_rfl) (fun n hn=>of_eq (q19 z a n _ _) fun _=> ?_) 0 (Nat.zero_le _)
 have k:=key n hn
 rw[hg,List.length_drop]at k
 rw[jp (by omega) (by omega),show((a:Int)+(n:Int)).toNat=a+n by omega]
 refine⟨fun h=>⟨by omega,by have:=of_decide_eq_true h;omega⟩,fun _=>PureW.mk (q16 _),qa (fun h=> ?_) fun h=> ?_⟩
 ·have hlt:n<(qi (z.drop a)).1.length:=by
   refine k.2 ?_
   by_cases h1:(a:Int)+(n:Int)<(z.length:Int)
   ·rw[decide_eq_true h1]at h;exact⟨by omega,h⟩
   ·rw[decide_eq_false h1]at h;cases h
  rw[jp (by omega) (by omega)]
  exact Nx.mk (n+1) hlt (by omega)
 ·have hge:¬ n<(qi (z.drop a)).1.length:=fun h1=>by
   obtain⟨h2,h3⟩:=k.1 h1
   rw[decide_eq_true (by omega),h3]at h;cases h
  rw[show(qi (z.drop a)).1.length=n by omega];exact Wk.refl _
theorem qet(c:UInt8):qu 1 (zx [D.int IntKind.u8 (c.toNat:Int)])=[c]:=by
 show[UInt8.ofNat ((c.toNat:Int)).toNat]=[c]
 rw[Int.toNat_natCast,UInt8.ofNat_toNat]
theorem q2f(n:Nat)(h:n<10):IntKind.u8.wrap (qg .i64 48 (n:Int))=(((UInt8.ofNat (48+n)).toNat:Nat):Int):=by
 rw[jp (by omega) (by omega),UInt8.toNat_ofNat',IntWalk.u8_in _ ⟨by omega,by omega⟩]
 omega
theorem qtt(c:UInt8):y4 1 (zx [D.int IntKind.u8 (c.toNat:Int)]):=fun j hj=>by
 have:j=0:=by omega
 subst this
 exact⟨c,rfl⟩
theorem qok(n:Nat)(hn:n<=1000000000):Pure PP 127 [I n] (.str (Lib.itoa n)):=by
 induction n using Nat.strongRecOn with
 |_ n ih =>
  refine pu qvs (by kernel_rfl) (of_eq (nXc n _) (qa (fun h=>absurd (of_decide_eq_true h) (by omega)) fun _=> ?_))
  have hr:(n:Int).tmod 10=((n % 10:Nat):Int):=rfl
  have hq:qew .i64 (n:Int) 10=((n / 10:Nat):Int):=by
   unfold qew
   have:((n:Int)).tdiv 10=((n / 10:Nat):Int):=rfl
   rw[this,IntWalk.i64_in _ ⟨by omega,by omega⟩]
  rw[hr,hq,q2f _ (Nat.mod_lt _ (by omega)),qet]
  refine⟨by decide,qtt _,qa (fun h=>⟨by decide,PureW.mk (ih (n / 10) (by have:=of_decide_eq_true h;omega) (by omega)),?_,?_⟩) fun h=> ?_⟩
  ·have:=Lib.itoa_length_le (n / 10:Nat) (by omega) (by omega)
   simp only[List.length_cons,List.length_nil];unfold j4;omega
  ·rw[Lib.itoa_nonneg,Lib.itoa_nonneg]
   have h:¬ n<10:=by have:=of_decide_eq_true h;omega
   conv=>rhs;rw[Lib.decDigits,dif_neg h]
   exact Wk.refl _
  ·have h:n<10:=by have:=of_decide_eq_false h;omega
   rw[Lib.itoa_nonneg,Lib.decDigits_one h,Nat.mod_eq_of_lt h];exact Wk.refl _
theorem q2g(n:Int)(h1 : -1000000000<=n)(h2:n<=1000000000):Pure PP 127 [I n] (.str (Lib.itoa n)):=by
 rcases Int.lt_or_le n 0 with h|h
 ·have e:qn .i64 0 n=((n.natAbs:Nat):Int):=by rw[vt (by omega) (by omega)];omega
  refine pu qvs (by kernel_rfl) (of_eq (nXc n _) ?_)
  rw[decide_eq_true h,cond_true,e]
  have hl:=Lib.itoa_length_le (n.natAbs:Nat) (by omega) (by omega)
  refine⟨PureW.mk (qok n.natAbs (by omega)),by unfold j4;omega,Wk.of_eq ?_⟩
  have:Lib.itoa n=45::Lib.decDigits n.natAbs:=by unfold Lib.itoa;rw[if_pos h]
  rw[this,Lib.itoa_nonneg];rfl
 ·have:=qok n.toNat (by omega)
  rw[show((n.toNat:Nat):Int)=n by omega]at this
  exact this
def Nm.pa(x:Nm):Pa:=⟨x.neg,x.dig,x.pe⟩
def Pa.nm(x:Pa):Nm:=⟨x.neg,x.dig,x.e+1-x.dig.length⟩
def stR(x:Pa):Pa:=(qy x.nm).pa
theorem qhd{q:Str}(h:q=[]\/q.getD 0 0≠48):tL q=q:=by
 cases q with
 |nil=>rfl
 |cons c r =>
  rcases h with h|h
  ·cases h
  ·rw[tL,if_neg (show ¬ c=48 from h)]
theorem ql2{q:Str}(h:q=[]\/q.getD (q.length-1) 0≠48):tR q=q:=by
 unfold tR
 rw[qhd,List.reverse_reverse]
 rcases h with h|h
 ·left;rw[h];rfl
 ·cases hq:q with
  |nil=>left;rfl
  |cons c r =>
   right
   rw[<-hq]
   have hl:0<q.length:=by rw[hq];simp
   rw[List.getD_eq_getElem?_getD,List.getElem?_reverse hl,<-List.getD_eq_getElem?_getD,Nat.sub_zero]
   exact h
theorem qtu{q:Str}(h:0<q.length)(h1:q.getD (q.length-1) 0=48):tR q=tR (q.take (q.length-1)):=by
 have e:q=q.take (q.length-1)++[48]:=by
  conv=>lhs;rw[<-List.take_append_drop (q.length-1) q]
  congr 1
  rw[j6 (by omega),h1,show q.length-1+1=q.length by omega,List.drop_length]
 conv=>lhs;rw[e]
 unfold tR
 rw[List.reverse_append]
 rfl
theorem c79(x:Pa)(h1 : -1000000000<=x.e)(h2:x.e<=1000000000)(hl:x.dig.length<=1000000):Pure PP 79 [x.d] (stR x).d:=by
 refine pu F79 (by kernel_rfl) (of_eq (nXt x _) ?_)
 obtain⟨n,q0,e0⟩:=x
 simp only at h1 h2 hl
 refine jk (st':=SXt n q0 e0) ?_ ((StLe.refl _ _).cast (by kernel_rfl))
 refine lp (fn:=Tryz.f79) (fun y:Str×Int=>tL y.1=tL q0/\y.1.length<=q0.length/\y.2=e0-q0.length+y.1.length) (fun y=>SXt n y.1 y.2) (fun y=>y.1.length) [1,2] (by kernel_rfl) (fun y hy=>of_eq (q2c n y.1 y.2 _ _) fun _=>⟨fun h=>⟨by omega,of_decide_eq_true h⟩,qa (fun h=> ?_) fun h=> ?_⟩) (q0,e0) ⟨rfl,Nat.le_refl _,by simp only;omega⟩
 ·obtain⟨q,e⟩:=y
  obtain⟨y1,y2,y3⟩:=hy
  simp only at y1 y2 y3 h⊢
  cases q with
  |nil=>cases h
  |cons c r =>
   have hc:c=48:=by
    rw[decide_eq_true (by simp only[List.length_cons];omega),cond_true]at h
    have h:(c.toNat:Int)=48:=by simpa using h
    exact UInt8.toNat_inj.1 (by rw[show c.toNat=48 by omega];rfl)
   simp only[List.length_cons]at y2 y3
   refine⟨⟨by omega,by simp only[List.length_cons];omega⟩,trivial,trivial,Nx.of (r,e-1) ⟨by rw[<-y1,tL,if_pos hc],by simp only;omega,by simp only;omega⟩ (by simp) ?_⟩
   rw[vt (by omega) (by omega)]
   exact(StLe.refl _ _).cast (by kernel_rfl)
 ·obtain⟨q,e⟩:=y
  obtain⟨y1,y2,y3⟩:=hy
  simp only at y1 y2 y3 h⊢
  have hq:tL q=q:=qhd (by
   cases q with
   |nil=>exact .inl rfl
   |cons c r =>
    right
    rw[decide_eq_true (by simp only[List.length_cons];omega),cond_true]at h
    have h:¬ (c.toNat:Int)=48:=by simpa using h
    exact fun e=>h (by rw[show c=48 from e];rfl))
  rw[hq]at y1
  refine lp (fn:=Tryz.f79) (fun z:Str=>tR z=tR q/\z.length<=q.length) (fun z=>SXt n z e) (fun z=>z.length) [1,2] (by kernel_rfl) (fun z hz=>of_eq (q2d n z e _ _) fun _ _=>⟨?_,qa (fun h=> ?_) fun h=> ?_⟩) q ⟨rfl,Nat.le_refl _⟩
  ·obtain⟨z1,z2⟩:=hz
   exact fun h=>by
    have h:=of_decide_eq_true h
    rw[vt (by omega) (by omega)];omega
  ·obtain⟨z1,z2⟩:=hz
   have hl0:0<z.length:=by
    rcases Nat.eq_zero_or_pos z.length with h0|h0
    ·rw[h0]at h;cases h
    ·exact h0
   rw[decide_eq_true (by omega),cond_true,bh hl0 (by unfold q8;omega),Int.toNat_natCast]at h
   have h48:z.getD (z.length-1) 0=48:=by
    have h:((z.getD (z.length-1) 0).toNat:Int)=48:=by simpa using h
    exact UInt8.toNat_inj.1 (by rw[show(z.getD (z.length-1) 0).toNat=48 by omega];rfl)
   rw[bh hl0 (by unfold q8;omega),Int.toNat_natCast]
   refine fun _=>⟨⟨by omega,by omega,by omega⟩,trivial,Nx.of (z.take (z.length-1)) ⟨by rw[<-z1,qtu hl0 h48],by rw[List.length_take];omega⟩ (by rw[List.length_take];omega) ?_⟩
   exact(StLe.refl _ _).cast (by kernel_rfl)
  ·obtain⟨z1,z2⟩:=hz
   have hz:tR z=z:=ql2 (by
    rcases Nat.eq_zero_or_pos z.length with h0|h0
    ·exact .inl (List.eq_nil_of_length_eq_zero h0)
    ·right
     rw[decide_eq_true (by omega),cond_true,bh h0 (by unfold q8;omega),Int.toNat_natCast]at h
     have h:¬ ((z.getD (z.length-1) 0).toNat:Int)=48:=by simpa using h
     exact fun e=>h (by rw[e];rfl))
   rw[hz]at z1
   have hst:stR ⟨n,q0,e0⟩=if z=[] then⟨false,[],0⟩ else⟨n,z,e⟩:=by
    unfold stR qy Pa.nm
    rw[<-y1,<-z1]
    split
    ·rfl
    ·rename_i hne
     unfold Nm.pa Nm.pe Nm.fst
     rw[if_neg hne]
     simp only[Pa.mk.injEq,true_and]
     have:=rz q0
     omega
   refine qe js _ _ _ (of_eq (q2e n z e _) (qa (fun h=>⟨trivial,?_⟩) fun h=>⟨trivial,?_⟩))
   ·rw[hst,if_pos (by simpa using h)];exact Wk.refl _
   ·rw[hst,if_neg (by intro h0;rw[h0]at h;cases h)];exact Wk.refl _
end Go.Proofs.YtiekphbkomddfaaGreatDoor.S1
namespace Go.Proofs.YtiekphbkomddfaaGreatDoor.S1
open Go Go.Ab Go.Proofs

attribute [local instance] yu
theorem F74:OkF 74 Tryz.f74:=⟨by kernel_rfl,by kernel_rfl,by kernel_rfl⟩
def q2h:List (List Nat×List Nat):=[([1,1,1,1,1,1],[1,4]),([1,1,1,1,1,1,1],[1,4])]
noncomputable def q2i(x:Pa):List Nat->Nat->Option Ans:=qf [([1,0],1,Ans.pure [x.d] (stR x).d)]
theorem nXT(x:Pa)(K:D->Prop):qo (En Tryz.f74) (fi Tryz.f74 K) (q2i x) q2h 200 [.code []] ⟨qd 0 [x.d],.empty⟩ =
 (PQ PP 79 [x.d] (stR x).d/\True/\bif(stR x).dig=={data:= #[]:ByteArray}.data.toList then K (.tup [.str {data:= #[48]:ByteArray}.data.toList,I 0]) else List.length (stR x).dig<=j4->bif bif bif decide ((↑(List.length (stR x).dig):Int) > 17) then true else decide ((stR x).e < -400) then true else decide ((stR x).e > 400) then K (.tup [.str {data:= #[]:ByteArray}.data.toList,I 9]) else((0:Int)<=0/\(0:Int)<=1/\1<=(↑(List.length (stR x).dig):Int))/\(List.length (stR x).dig<=j4->bif decide ((↑(List.length (stR x).dig):Int) > 1) then(List.drop 0 (List.take 1 (stR x).dig)).length+1<=j4/\((0:Int)<=1/\1<=(↑(List.length (stR x).dig):Int))/\(List.drop 0 (List.take 1 (stR x).dig)++{data:= #[46]:ByteArray}.data.toList).length+(List.drop 1 (stR x).dig).length<=j4/\At (En Tryz.f74) (fi Tryz.f74 K) [It.code [1,1,1,1,1,1]] {sl:=[(1,.own [B (stR x).neg,.str (stR x).dig,I (stR x).e]),(4,.str (List.drop 0 (List.take 1 (stR x).dig)++{data:= #[46]:ByteArray}.data.toList++List.drop 1 (stR x).dig))],h:=Heap.empty:St} else At (En Tryz.f74) (fi Tryz.f74 K) [It.code [1,1,1,1,1,1]] {sl:=[(1,.own [B (stR x).neg,.str (stR x).dig,I (stR x).e]),(4,.str (List.drop 0 (List.take 1 (stR x).dig)))],h:=Heap.empty:St})):=by kernel_rfl
def q2j:List (List Nat×List Nat):=[([1,1,1,1,1,1,1],[1,4])]
noncomputable def qtv:List Nat->Nat->Option Ans:=qf []
theorem q2k(n:Bool)(q:Str)(e:Int)(z:Str)(K:D->Prop):qo (En Tryz.f74) (fi Tryz.f74 K) (qtv ) q2j 200 [.code [1,1,1,1,1,1]] ⟨[(1,.own [B n,.str q,I e]),(4,.str z)],.empty⟩ =
 (bif n then 1+List.length z<=j4/\At (En Tryz.f74) (fi Tryz.f74 K) [It.code [1,1,1,1,1,1,1]] {sl:=[(1,.own [B n,.str q,I e]),(4,.str ({data:= #[45]:ByteArray}.data.toList++z))],h:=Heap.empty:St} else At (En Tryz.f74) (fi Tryz.f74 K) [It.code [1,1,1,1,1,1,1]] {sl:=[(1,.own [B n,.str q,I e]),(4,.str z)],h:=Heap.empty:St}):=by kernel_rfl
noncomputable def qtw(e:Int):List Nat->Nat->Option Ans:=qf [([1,1,1,1,1,1,1,0],4,Ans.pure [I e] (.str (Lib.itoa e)))]
theorem q2l(n:Bool)(q:Str)(e:Int)(z:Str)(K:D->Prop):qo (En Tryz.f74) (fi Tryz.f74 K) (qtw e) my 200 [.code [1,1,1,1,1,1,1]] ⟨[(1,.own [B n,.str q,I e]),(4,.str z)],.empty⟩ =
 (List.length z+1<=j4/\PQ PP 127 [I e] (.str (Lib.itoa e))/\(z++{data:= #[101]:ByteArray}.data.toList).length+(Lib.itoa e).length<=j4/\K (.tup [.str (z++{data:= #[101]:ByteArray}.data.toList++Lib.itoa e),I 0])):=by kernel_rfl
theorem F73:OkF 73 Tryz.f73:=⟨by kernel_rfl,by kernel_rfl,by kernel_rfl⟩
def qvu:List (List Nat×List Nat):=[([1,1,1,1],[0,2,4,5]),([1,1,1,1,1,1,1,1],[0,2,4,5]),([1,1,1,1,1,1,1,1,0,1,0,1,1,1],[0,2,4,5,7]),([1,1,1,1,1,1,1,1,0,1,0,1,1,1,1,1,1,0,1,0],[0,2,4,5,6,7,8,9]),([1,1,1,1,1,1,1,1,1],[0,2,4,5])]
noncomputable def q2m:List Nat->Nat->Option Ans:=qf []
theorem nXR(z:Str)(K:D->Prop):qo (En Tryz.f73) (fi Tryz.f73 K) (q2m ) qvu 200 [.code []] ⟨qd 0 [.str z],.empty⟩ =
 (True/\(List.length z<=j4->(decide ((↑(List.length z):Int) > 0)=true->(0:Int)<=0/\0<(↑(List.length z):Int))/\((decide ((↑(List.length z):Int) > 0) && !(↑(List.getD z 0 0).toNat:Int)==43)=true->(0:Int)<=0/\0<(↑(List.length z):Int))/\bif bif decide ((↑(List.length z):Int) > 0) then bif(↑(List.getD z 0 0).toNat:Int)==43 then true else(↑(List.getD z 0 0).toNat:Int)==45 else false then((0:Int)<=0/\0<(↑(List.length z):Int))/\True/\At (En Tryz.f73) (fi Tryz.f73 K) [It.code [1,1,1,1]] {sl:=[(0,.str z),(2,.own [B false,.str {data:= #[]:ByteArray}.data.toList,I 0]),(4,.own [B ((↑(List.getD z 0 0).toNat:Int)==45),.str {data:= #[]:ByteArray}.data.toList,I 0]),(5,I 1)],h:=Heap.empty:St} else At (En Tryz.f73) (fi Tryz.f73 K) [It.code [1,1,1,1]] {sl:=[(0,.str z),(2,.own [B false,.str {data:= #[]:ByteArray}.data.toList,I 0]),(4,.own [B false,.str {data:= #[]:ByteArray}.data.toList,I 0]),(5,I 0)],h:=Heap.empty:St})):=by kernel_rfl
def SXR(z:Str)(n:Bool)(q:Str)(e a:Int):St:=⟨[(0,.str z),(2,.own [B false,.str [],I 0]),(4,.own [B n,.str q,I e]),(5,I a)],.empty⟩
def q2n:List (List Nat×List Nat):=[([1,1,1,1,1,1,1,0],[0,2,4,5])]
noncomputable def qtx(z:Str)(a:Int):List Nat->Nat->Option Ans:=qf [([1,1,1,1,0],2,Ans.pure [.str z,I a] (I (↑(List.length (qi (List.drop a.toNat z)).fst):Int)))]
theorem q2o(z:Str)(n:Bool)(a:Int)(K:D->Prop):qo (En Tryz.f73) (fi Tryz.f73 K) (qtx z a) q2n 200 [.code [1,1,1,1]] (SXR z n [] 0 a) =
 (PQ PP 126 [.str z,I a] (I (↑(List.length (qi (List.drop a.toNat z)).fst):Int))/\(((!(↑(List.length (qi (List.drop a.toNat z)).fst):Int)==0)=true->List.length z<=j4)->bif bif(↑(List.length (qi (List.drop a.toNat z)).fst):Int)==0 then true else decide ((↑(List.length z):Int) > 64) then True/\K (.tup [.agg [B false,.str {data:= #[]:ByteArray}.data.toList,I 0],B false]) else(0<=a/\a<=qg .i64 a (↑(List.length (qi (List.drop a.toNat z)).fst):Int)/\qg .i64 a (↑(List.length (qi (List.drop a.toNat z)).fst):Int)<=(↑(List.length z):Int))/\True/\True/\At (En Tryz.f73) (fi Tryz.f73 K) [It.code [1,1,1,1,1,1,1,0],It.code [1,1,1,1,1,1,1,1]] {sl:=[(0,.str z),(2,.own [B false,.str [],I 0]),(4,.own [B n,.str (List.drop a.toNat (List.take (qg .i64 a (↑(List.length (qi (List.drop a.toNat z)).fst):Int)).toNat z)),I (qn .i64 (↑(List.length (qi (List.drop a.toNat z)).fst):Int) 1)]),(5,I (qg .i64 a (↑(List.length (qi (List.drop a.toNat z)).fst):Int)))],h:=Heap.empty:St})):=by kernel_rfl
def q2p:List (List Nat×List Nat):=[([1,1,1,1,1,1,1,1,0],[0,2,4,5])]
noncomputable def qty(z:Str)(a:Int):List Nat->Nat->Option Ans:=qf [([1,1,1,1,1,1,1,0,1,0,0],3,Ans.pure [.str z,I (qg .i64 a 1)] (I (↑(List.length (qi (List.drop (qg .i64 a 1).toNat z)).fst):Int)))]
theorem q2q(z:Str)(n:Bool)(q:Str)(e a:Int)(K:D->Prop):qo (En Tryz.f73) (fi Tryz.f73 K) (qty z a) q2p 200 [.code [1,1,1,1,1,1,1,0],.code [1,1,1,1,1,1,1,1]] (SXR z n q e a) =
 (List.length z<=j4 ->
 (decide (a<(↑(List.length z):Int))=true->0<=a/\a<(↑(List.length z):Int)) /\
  bif bif decide (a<(↑(List.length z):Int)) then(↑(List.getD z a.toNat 0).toNat:Int)==46 else false then PQ PP 126 [.str z,I (qg .i64 a 1)] (I (↑(List.length (qi (List.drop (qg .i64 a 1).toNat z)).fst):Int))/\bif(↑(List.length (qi (List.drop (qg .i64 a 1).toNat z)).fst):Int)==0 then True/\K (.tup [.agg [B false,.str {data:= #[]:ByteArray}.data.toList,I 0],B false]) else(0<=qg .i64 a 1/\qg .i64 a 1<=qg .i64 (qg .i64 a 1) (↑(List.length (qi (List.drop (qg .i64 a 1).toNat z)).fst):Int)/\qg .i64 (qg .i64 a 1) (↑(List.length (qi (List.drop (qg .i64 a 1).toNat z)).fst):Int)<=(↑(List.length z):Int))/\List.length q+(List.drop (qg .i64 a 1).toNat (List.take (qg .i64 (qg .i64 a 1) (↑(List.length (qi (List.drop (qg .i64 a 1).toNat z)).fst):Int)).toNat z)).length<=j4/\True/\At (En Tryz.f73) (fi Tryz.f73 K) [It.code [1,1,1,1,1,1,1,1,0],It.code [1,1,1,1,1,1,1,1,1]] {sl:=[(0,.str z),(2,.own [B false,.str [],I 0]),(4,.own [B n,.str (q++List.drop (qg .i64 a 1).toNat (List.take (qg .i64 (qg .i64 a 1) (↑(List.length (qi (List.drop (qg .i64 a 1).toNat z)).fst):Int)).toNat z)),I e]),(5,I (qg .i64 (qg .i64 a 1) (↑(List.length (qi (List.drop (qg .i64 a 1).toNat z)).fst):Int)))],h:=Heap.empty:St}
  else At (En Tryz.f73) (fi Tryz.f73 K) [It.code [1,1,1,1,1,1,1,1,0],It.code [1,1,1,1,1,1,1,1,1]] {sl:=[(0,.str z),(2,.own [B false,.str [],I 0]),(4,.own [B n,.str q,I e]),(5,I a)],h:=Heap.empty:St}):=by kernel_rfl
def q2r:List (List Nat×List Nat):=[([1,1,1,1,1,1,1,1,1],[0,2,4,5]),([1,1,1,1,1,1,1,1,0,1,0,1,1,1],[0,2,4,5,7])]
noncomputable def qtz:List Nat->Nat->Option Ans:=qf []
theorem q2s(z:Str)(n:Bool)(q:Str)(e a:Int)(K:D->Prop):qo (En Tryz.f73) (fi Tryz.f73 K) (qtz ) q2r 200 [.code [1,1,1,1,1,1,1,1,0],.code [1,1,1,1,1,1,1,1,1]] (SXR z n q e a) =
 (List.length z<=j4 ->
 (decide (a<(↑(List.length z):Int))=true->0<=a/\a<(↑(List.length z):Int)) /\
  ((decide (a<(↑(List.length z):Int)) && !(↑(List.getD z a.toNat 0).toNat:Int)==101)=true->0<=a/\a<(↑(List.length z):Int)) /\
   bif bif decide (a<(↑(List.length z):Int)) then bif(↑(List.getD z a.toNat 0).toNat:Int)==101 then true else(↑(List.getD z a.toNat 0).toNat:Int)==69 else false then
    List.length z<=j4->(decide (qg .i64 a 1<(↑(List.length z):Int))=true->0<=qg .i64 a 1/\qg .i64 a 1<(↑(List.length z):Int))/\(List.length z<=j4->(decide (qg .i64 a 1<(↑(List.length z):Int))=true->0<=qg .i64 a 1/\qg .i64 a 1<(↑(List.length z):Int))/\((decide (qg .i64 a 1<(↑(List.length z):Int)) && !(↑(List.getD z (qg .i64 a 1).toNat 0).toNat:Int)==43)=true->0<=qg .i64 a 1/\qg .i64 a 1<(↑(List.length z):Int))/\bif bif decide (qg .i64 a 1<(↑(List.length z):Int)) then bif(↑(List.getD z (qg .i64 a 1).toNat 0).toNat:Int)==43 then true else(↑(List.getD z (qg .i64 a 1).toNat 0).toNat:Int)==45 else false then At (En Tryz.f73) (fi Tryz.f73 K) [It.code [1,1,1,1,1,1,1,1,0,1,0,1,1,1],It.code [1,1,1,1,1,1,1,1,1]] {sl:=[(0,.str z),(2,.own [B false,.str [],I 0]),(4,.own [B n,.str q,I e]),(5,I (qg .i64 (qg .i64 a 1) 1)),(7,B (bif decide (qg .i64 a 1<(↑(List.length z):Int)) then(↑(List.getD z (qg .i64 a 1).toNat 0).toNat:Int)==45 else false))],h:=Heap.empty:St} else At (En Tryz.f73) (fi Tryz.f73 K) [It.code [1,1,1,1,1,1,1,1,0,1,0,1,1,1],It.code [1,1,1,1,1,1,1,1,1]] {sl:=[(0,.str z),(2,.own [B false,.str [],I 0]),(4,.own [B n,.str q,I e]),(5,I (qg .i64 a 1)),(7,B (bif decide (qg .i64 a 1<(↑(List.length z):Int)) then(↑(List.getD z (qg .i64 a 1).toNat 0).toNat:Int)==45 else false))],h:=Heap.empty:St})
   else At (En Tryz.f73) (fi Tryz.f73 K) [It.code [1,1,1,1,1,1,1,1,1]] {sl:=[(0,.str z),(2,.own [B false,.str [],I 0]),(4,.own [B n,.str q,I e]),(5,I a)],h:=Heap.empty:St}):=by kernel_rfl
def q2t:List (List Nat×List Nat):=[([1,1,1,1,1,1,1,1,1],[0,2,4,5]),([1,1,1,1,1,1,1,1,0,1,0,1,1,1,1,1,1,0,1,0],[0,2,4,5,6,7,8,9])]
noncomputable def qt0(z:Str)(a:Int):List Nat->Nat->Option Ans:=qf [([1,1,1,1,1,1,1,1,0,1,0,1,1,1,0],2,Ans.pure [.str z,I a] (I (↑(List.length (qi (List.drop a.toNat z)).fst):Int)))]
theorem q2u(z:Str)(n:Bool)(q:Str)(e a:Int)(w:Bool)(K:D->Prop):qo (En Tryz.f73) (fi Tryz.f73 K) (qt0 z a) q2t 200 [.code [1,1,1,1,1,1,1,1,0,1,0,1,1,1],.code [1,1,1,1,1,1,1,1,1]] ⟨[(0,.str z),(2,.own [B false,.str [],I 0]),(4,.own [B n,.str q,I e]),(5,I a),(7,B w)],.empty⟩ =
 (PQ PP 126 [.str z,I a] (I (↑(List.length (qi (List.drop a.toNat z)).fst):Int))/\bif(↑(List.length (qi (List.drop a.toNat z)).fst):Int)==0 then True/\K (.tup [.agg [B false,.str {data:= #[]:ByteArray}.data.toList,I 0],B false]) else At (En Tryz.f73) (fi Tryz.f73 K) [It.code [1,1,1,1,1,1,1,1,0,1,0,1,1,1,1,1,1,0,1,0],It.blk 0,It.code [1,1,1,1,1,1,1,1,0,1,0,1,1,1,1,1,1,1],It.code [1,1,1,1,1,1,1,1,1]] {sl:=[(0,.str z),(2,.own [B false,.str [],I 0]),(4,.own [B n,.str q,I e]),(5,I a),(6,I (↑(List.length (qi (List.drop a.toNat z)).fst):Int)),(7,B w),(8,I 0),(9,I 0)],h:=Heap.empty:St}):=by kernel_rfl
def SXl(z:Str)(n:Bool)(q:Str)(e a m:Int)(w:Bool)(x i:Int):St:=⟨[(0,.str z),(2,.own [B false,.str [],I 0]),(4,.own [B n,.str q,I e]),(5,I a),(6,I m),(7,B w),(8,I x),(9,I i)],.empty⟩
noncomputable def qt1:List Nat->Nat->Option Ans:=qf []
theorem q2v(z:Str)(n:Bool)(q:Str)(e a m:Int)(w:Bool)(x i:Int)(J:St->Prop)(K:D->Prop):qo (En Tryz.f73) (fi Tryz.f73 K) (qt1 ) qvu 200 [.code [1,1,1,1,1,1,1,1,0,1,0,1,1,1,1,1,1,0,1,0,0],stp [0,2,4,5,6,7,8,9] J,.blk 0,.code [1,1,1,1,1,1,1,1,0,1,0,1,1,1,1,1,1,1],.code [1,1,1,1,1,1,1,1,1]] (SXl z n q e a m w x i) =
 (bif decide (i<m) then(0<=qg .i64 a i/\qg .i64 a i<(↑(List.length z):Int))/\J {sl:=[(0,.str z),(2,.own [B false,.str [],I 0]),(4,.own [B n,.str q,I e]),(5,I a),(6,I m),(7,B w),(8,I (if 100000<qg .i64 (w7 .i64 10 x) (IntKind.i64.wrap (qn IntKind.u8 (↑(List.getD z (qg .i64 a i).toNat 0).toNat:Int) 48)) then 100000 else qg .i64 (w7 .i64 10 x) (IntKind.i64.wrap (qn IntKind.u8 (↑(List.getD z (qg .i64 a i).toNat 0).toNat:Int) 48)))),(9,I (qg .i64 i 1))],h:=Heap.empty:St} else bif w then True/\At (En Tryz.f73) (fi Tryz.f73 K) [It.code [1,1,1,1,1,1,1,1,1]] {sl:=[(0,.str z),(2,.own [B false,.str [],I 0]),(4,.own [B n,.str q,I (qg .i64 e (qn .i64 0 x))]),(5,I (qg .i64 a m))],h:=Heap.empty:St} else True/\At (En Tryz.f73) (fi Tryz.f73 K) [It.code [1,1,1,1,1,1,1,1,1]] {sl:=[(0,.str z),(2,.own [B false,.str [],I 0]),(4,.own [B n,.str q,I (qg .i64 e x)]),(5,I (qg .i64 a m))],h:=Heap.empty:St}):=by kernel_rfl
noncomputable def qt2:List Nat->Nat->Option Ans:=qf []
theorem q2w(z:Str)(n:Bool)(q:Str)(e a:Int)(K:D->Prop):qo (En Tryz.f73) (fi Tryz.f73 K) (qt2 ) my 200 [.code [1,1,1,1,1,1,1,1,1]] (SXR z n q e a) =
 (List.length z<=j4->True/\K (.tup [.agg [B n,.str q,I e],B (a==(↑(List.length z):Int))])):=by kernel_rfl
end Go.Proofs.YtiekphbkomddfaaGreatDoor.S1
namespace Go.Proofs.YtiekphbkomddfaaGreatDoor.S1
open Go Go.Ab Go.Proofs

attribute [local instance] yu
def txR(x:Nm):Str×Int:=match xy x with
 |some z=>(z,0)
 |none=>([],9)
theorem c74(x:Pa)(h1 : -1000000000<=x.e)(h2:x.e<=1000000000)(hl:x.dig.length<=1000000):Pure PP 74 [x.d] (.tup [.str (txR (qy x.nm)).1,I (txR (qy x.nm)).2]):=by
 refine pu F74 (by kernel_rfl) (of_eq (nXT x _) ⟨PureW.mk (c79 x h1 h2 hl),trivial,?_⟩)
 have hs:stR x=(qy x.nm).pa:=rfl
 rw[hs]
 have hlen:=r6 x.nm
 have hl2:(qy x.nm).dig.length<=1000000:=Nat.le_trans hlen hl
 generalize qy x.nm=y at *
 refine qa (fun h=> ?_) fun h _=>qa (fun h3=> ?_) fun h3=> ?_
 ·have h:(y.dig==[])=true:=h
  have h:y.dig=[]:=by simpa using h
  have e:txR y=([48],0):=by unfold txR xy;rw[if_pos h]
  rw[e];exact Wk.refl _
 ·have h:¬ y.dig=[]:=by intro h0;rw[show y.pa.dig=y.dig from rfl,h0]at h;cases h
  have hp:y.pa.e=y.fst:=by show y.pe=_;unfold Nm.pe;rw[if_neg h]
  rw[hp]at h3
  have h4:y.dig.length > 17\/y.fst < -400\/y.fst > 400:=by
   have h3:(bif bif decide ((y.dig.length:Int) > 17) then true else decide (y.fst < -400) then true else decide (y.fst > 400))=true:=h3
   by_cases c1:(y.dig.length:Int) > 17
   ·left;omega
   ·rw[decide_eq_false c1,cond_false]at h3
    by_cases c2:y.fst < -400
    ·exact .inr (.inl c2)
    ·rw[decide_eq_false c2,cond_false]at h3
     exact .inr (.inr (of_decide_eq_true h3))
  have e:txR y=([],9):=by unfold txR xy;rw[if_neg h,if_pos h4]
  rw[e];exact Wk.refl _
 ·have h:¬ y.dig=[]:=by intro h0;rw[show y.pa.dig=y.dig from rfl,h0]at h;cases h
  have hp:y.pa.e=y.fst:=by show y.pe=_;unfold Nm.pe;rw[if_neg h]
  rw[hp]at h3⊢
  have h4:¬ (y.dig.length > 17\/y.fst < -400\/y.fst > 400):=by
   have h3:(bif bif decide ((y.dig.length:Int) > 17) then true else decide (y.fst < -400) then true else decide (y.fst > 400))=false:=h3
   rintro(c|c|c)
   ·rw[decide_eq_true (by omega)]at h3;cases h3
   ·rw[decide_eq_true c]at h3
    cases hd:decide ((y.dig.length:Int) > 17) <;> rw[hd]at h3 <;> cases h3
   ·rw[decide_eq_true c]at h3
    cases hd:decide ((y.dig.length:Int) > 17) <;> cases hd2:decide (y.fst < -400) <;> rw[hd,hd2]at h3 <;> cases h3
  have h5:∀b,b=(y.dig.take 1++(if y.dig.length > 1 then[46]++y.dig.drop 1 else[]))->At (En Tryz.f74) (fi Tryz.f74 fun d=>Wk d (.tup [.str (txR y).1,I (txR y).2])) [.code [1,1,1,1,1,1]] ⟨[(1,.own [B y.neg,.str y.dig,I y.fst]),(4,.str b)],.empty⟩:=fun b hb=>by
   have e:txR y=((if y.neg then[45] else[])++b++[101]++Lib.itoa y.fst,0):=by unfold txR xy;rw[if_neg h,if_neg h4,hb]
   have hbl:b.length<=20:=by
    rw[hb,List.length_append,List.length_take]
    split
    ·simp only[List.length_append,List.length_drop,List.length_singleton];omega
    ·simp only[List.length_nil];omega
   have hi:=Lib.itoa_length_le y.fst (by omega) (by omega)
   have last:∀q:Str,q.length<=21->q=(if y.neg then[45] else[])++b->At (En Tryz.f74) (fi Tryz.f74 fun d=>Wk d (.tup [.str (txR y).1,I (txR y).2])) [.code [1,1,1,1,1,1,1]] ⟨[(1,.own [B y.neg,.str y.dig,I y.fst]),(4,.str q)],.empty⟩:=fun q hq hqe=>by
    refine qe js _ _ _ (of_eq (q2l y.neg y.dig y.fst q _) ⟨by unfold j4;omega,PureW.mk (q2g _ (by omega) (by omega)),?_,?_⟩)
    ·have:∀w:Str,w.length<=1->(q++w).length+(Lib.itoa y.fst).length<=j4:=fun w hw=>by rw[List.length_append];unfold j4;omega
     exact this [101] (by decide)
    ·rw[e,<-hqe];exact Wk.refl _
   refine qe js _ _ _ (of_eq (q2k y.neg y.dig y.fst b _) (qa (fun hn=>⟨by unfold j4;omega,?_⟩) fun hn=> ?_))
   ·exact last (45::b) (by simp only[List.length_cons];omega) (by rw[hn];rfl)
   ·exact last b (by omega) (by rw[hn];rfl)
  have hl0:0<y.dig.length:=List.length_pos_iff.2 h
  refine⟨⟨by omega,by omega,by show(1:Int)<=(y.dig.length:Int);omega⟩,fun _=>qa (fun h6=> ?_) fun h6=> ?_⟩
  ·have h6:(y.dig.length:Int) > 1:=of_decide_eq_true h6
   refine⟨?_,⟨by omega,by show(1:Int)<=(y.dig.length:Int);omega⟩,?_,h5 _ ?_⟩
   ·show(List.drop 0 (List.take 1 y.dig)).length+1<=j4
    rw[List.drop_zero,List.length_take];unfold j4;omega
   ·show(List.drop 0 (List.take 1 y.dig)++[46]).length+(List.drop 1 y.dig).length<=j4
    rw[List.drop_zero,List.length_append,List.length_take,List.length_drop,List.length_singleton];unfold j4;omega
   ·rw[if_pos (by omega)]
    show List.drop 0 (List.take 1 y.dig)++[46]++List.drop 1 y.dig=_
    rw[List.drop_zero,List.append_assoc]
  ·have h6:¬ (y.dig.length:Int) > 1:=of_decide_eq_false h6
   refine h5 _ ?_
   rw[if_neg (by omega),List.append_nil];rfl
end Go.Proofs.YtiekphbkomddfaaGreatDoor.S1
namespace Go.Proofs.YtiekphbkomddfaaGreatDoor.S1
open Go Go.Ab Go.Proofs

attribute [local instance] yu
abbrev km:Nat:=100000
noncomputable def Rd.pa(x:Rd):Pa:=⟨x.neg,x.dig,(x.dig.length:Int)-x.fr-1+x.e km⟩
noncomputable def rdV:Option Rd->Pa×Bool
 |none=>(⟨false,[],0⟩,false)
 |some x=>(x.pa,x.ok)
noncomputable def rdD(x:Option Rd):D:= .tup [(rdV x).1.d,B (rdV x).2]
theorem b5(c:UInt8)(k:Nat)(hk:k<256):((c.toNat:Int)==(k:Int))=decide (c=UInt8.ofNat k):=by
 rw[Bool.eq_iff_iff]
 simp only[beq_iff_eq,decide_eq_true_eq]
 constructor
 ·intro h
  exact UInt8.toNat_inj.1 (by rw[UInt8.toNat_ofNat'];omega)
 ·intro h
  rw[h,UInt8.toNat_ofNat'];omega
theorem qce{z:Str}{a:Nat}(h:a<=z.length):(z.take (a+(qi (z.drop a)).1.length)).drop a=(qi (z.drop a)).1/\z.drop (a+(qi (z.drop a)).1.length)=(qi (z.drop a)).2/\a+(qi (z.drop a)).1.length<=z.length:=by
 have h1:=bm (z.drop a)
 have h2:=uq (z.drop a)
 rw[List.length_drop]at h2
 refine⟨?_,?_,by omega⟩
 ·rw[List.drop_take,Nat.add_sub_cancel_left]
  generalize (qi (z.drop a)).1=u at *
  rw[h1,List.take_left]
 ·rw[<-List.drop_drop]
  generalize (qi (z.drop a)).1=u at *
  generalize (qi (z.drop a)).2=v at *
  rw[h1,List.drop_left]
theorem qvv(z:Str)(a:Nat)(ha:a<=z.length)(hz:z.length<=1000000):Pure PP 126 [.str z,I a] (I ((qi (z.drop (a:Int).toNat)).1.length:Nat)):=by
 rw[Int.toNat_natCast];exact qvt z a ha hz
section
variable {z:Str} {n:Bool} {q:Str} {K:D->Prop}
theorem ql3{e:Int}{a:Nat}(hK:K (.tup [Pa.d ⟨n,q,e⟩,B (decide (a=z.length))])):At (En Tryz.f73) (fi Tryz.f73 K) [.code [1,1,1,1,1,1,1,1,1]] (SXR z n q e a):=by
 refine qe js _ _ _ (of_eq (q2w z n q e a K) fun _=>⟨trivial,?_⟩)
 have:((a:Int)==(z.length:Int))=decide (a=z.length):=by
  rw[Bool.eq_iff_iff];simp only[beq_iff_eq,decide_eq_true_eq];omega
 rw[this];exact hK
theorem qhe(cap:Nat)(q:Str)(c:UInt8):yo cap (q++[c])=min cap (10 * yo cap q+dgt c):=by
 unfold yo
 rw[List.foldl_append];rfl
theorem iw(cap:Nat)(q:Str):yo cap q<=cap:=by
 rw[s7];omega
theorem qt3{e:Int}{a:Nat}{w:Bool}(ha:a<=z.length)(hz:z.length<=1000000)(he : -1000000<=e/\e<=1000000)
  (hK:(qi (z.drop a)).1=[]->K (rdD none)) (hK2:(qi (z.drop a)).1≠[]->K (.tup [Pa.d ⟨n,q,e+(if w then-(yo km (qi (z.drop a)).1:Int) else(yo km (qi (z.drop a)).1:Int))⟩,B (decide ((qi (z.drop a)).2=[]))])) :
  At (En Tryz.f73) (fi Tryz.f73 K) [.code [1,1,1,1,1,1,1,1,0,1,0,1,1,1],.code [1,1,1,1,1,1,1,1,1]] ⟨[(0,.str z),(2,.own [B false,.str [],I 0]),(4,.own [B n,.str q,I e]),(5,I a),(7,B w)],.empty⟩:=by
 obtain⟨t1,t2,t3⟩:=qce ha
 have hdg:=bn (z.drop a)
 refine qe js _ _ _ (of_eq (q2u z n q e a w K) ⟨PureW.mk (qvv z a ha hz),?_⟩)
 rw[Int.toNat_natCast]
 refine qa (fun h=>⟨trivial,hK (List.eq_nil_of_length_eq_zero (by simpa using h))⟩) fun h=> ?_
 have hne:(qi (z.drop a)).1≠[]:=by intro h0;rw[h0]at h;cases h
 have hK2:=hK2 hne
 have hend:a+(qi (z.drop a)).1.length=z.length↔(qi (z.drop a)).2=[]:=by
  rw[<-t2]
  constructor
  ·intro h;rw[h,List.drop_length]
  ·intro h
   have:=congrArg List.length h
   rw[List.length_drop,List.length_nil]at this;omega
 have hget:∀i,i<(qi (z.drop a)).1.length->z.getD (a+i) 0=(qi (z.drop a)).1.getD i 0:=fun i hi=>by
  conv=>rhs;rw[<-t1]
  rw[List.getD_eq_getElem?_getD,List.getD_eq_getElem?_getD,List.getElem?_drop,List.getElem?_take,if_pos (by omega)]
 generalize (qi (z.drop a)).1=d at *
 generalize (qi (z.drop a)).2=r at *
 refine jk (st':=SXl z n q e a d.length w (yo km (d.take 0)) ((0:Nat):Int)) ?_ ((StLe.refl _ _).cast (by kernel_rfl))
 refine lp (fn:=Tryz.f73) (fun i:Nat=>i<=d.length) (fun i=>SXl z n q e a d.length w (yo km (d.take i)) i) (fun i=>d.length-i) [0,2,4,5,6,7,8,9] (by kernel_rfl) (fun i hi=>of_eq (q2v z n q e a d.length w (yo km (d.take i)) i _ _) (qa (fun hlt=> ?_) fun hge=> ?_)) 0 (Nat.zero_le _)
 ·have hlt:=ltI hlt
  have hx:yo km (d.take i)<=100000:=iw _ _
  have hb:=ql0 hdg hlt
  have hb2:=rx hb
  rw[jp (a:=(a:Int)) (by omega) (by omega),show((a:Int)+(i:Int)).toNat=a+i by omega,hget i hlt,qcd hb]
  refine⟨⟨by omega,by omega⟩,Nx.of (i+1) hlt (by omega) ?_⟩
  have hs:yo km (d.take (i+1))=min km (10 * yo km (d.take i)+dgt (d.getD i 0)):=by
   rw[show d.take (i+1)=d.take i++[d.getD i 0] from zk d i hlt,qhe]
  have hm:w7 .i64 10 (yo km (d.take i):Int)=10 * (yo km (d.take i):Int):=IntWalk.i64_in _ (by omega)
  rw[hs,hm,jp (by omega) (by omega),jp (by omega) (by omega)]
  have:(if 100000<10 * (yo km (d.take i):Int)+(dgt (d.getD i 0):Int) then 100000 else 10 * (yo km (d.take i):Int)+(dgt (d.getD i 0):Int))=((min km (10 * yo km (d.take i)+dgt (d.getD i 0)):Nat):Int):=by
   have:((min km (10 * yo km (d.take i)+dgt (d.getD i 0)):Nat):Int)=min 100000 (10 * (yo km (d.take i):Int)+(dgt (d.getD i 0):Int)):=by
    rw[show km=100000 from rfl];omega
   rw[this];split <;> omega
  rw[this]
  exact(StLe.refl _ _).cast (by kernel_rfl)
 ·have hge:=geI hge
  rw[List.take_of_length_le hge]
  have hx:yo km d<=100000:=iw _ _
  refine qa (fun hw=>⟨trivial,?_⟩) fun hw=>⟨trivial,?_⟩
  ·rw[vt (a:=0) (by omega) (by omega),jp (a:=e) (by omega) (by omega),jp (by omega) (by omega)]
   refine jk (st':=SXR z n q (e+(0-(yo km d:Int))) ((a+d.length:Nat):Int)) (ql3 ?_) ((StLe.refl _ _).cast (by kernel_rfl))
   rw[hw,if_pos rfl]at hK2
   have:decide (a+d.length=z.length)=decide (r=[]):=by rw[decide_eq_decide];exact hend
   rw[this,show e+(0-(yo km d:Int))=e + - (yo km d:Int) by omega]
   exact hK2
  ·rw[jp (a:=e) (by omega) (by omega),jp (by omega) (by omega)]
   refine jk (st':=SXR z n q (e+(yo km d:Int)) ((a+d.length:Nat):Int)) (ql3 ?_) ((StLe.refl _ _).cast (by kernel_rfl))
   rw[hw,if_neg (by simp)]at hK2
   have:decide (a+d.length=z.length)=decide (r=[]):=by rw[decide_eq_decide];exact hend
   rw[this]
   exact hK2
end
end Go.Proofs.YtiekphbkomddfaaGreatDoor.S1
namespace Go.Proofs.YtiekphbkomddfaaGreatDoor.S1
open Go Go.Ab Go.Proofs

attribute [local instance] yu
theorem qol{a n:Nat}{c:UInt8}{k:Nat}(hk:k<256):(bif decide ((a:Int)<(n:Int)) then((c.toNat:Int)==(k:Int)) else false)=decide (a<n/\c=UInt8.ofNat k):=by
 rw[b5 c k hk]
 by_cases h:a<n
 ·rw[decide_eq_true (show(a:Int)<(n:Int) by omega),cond_true,decide_eq_decide]
  exact⟨fun h1=>⟨h,h1⟩,fun h1=>h1.2⟩
 ·rw[decide_eq_false (show ¬ (a:Int)<(n:Int) by omega),cond_false]
  exact(decide_eq_false fun h1=>h h1.1).symm
theorem qhf{a n:Nat}{c:UInt8}{k l:Nat}(hk:k<256)(hl:l<256):(bif decide ((a:Int)<(n:Int)) then bif((c.toNat:Int)==(k:Int)) then true else((c.toNat:Int)==(l:Int)) else false)=decide (a<n/\(c=UInt8.ofNat k\/c=UInt8.ofNat l)):=by
 rw[b5 c k hk,b5 c l hl]
 by_cases h:a<n
 ·rw[decide_eq_true (show(a:Int)<(n:Int) by omega),cond_true]
  by_cases h1:c=UInt8.ofNat k
  ·rw[decide_eq_true h1,cond_true];exact(decide_eq_true ⟨h,.inl h1⟩).symm
  ·rw[decide_eq_false h1,cond_false,decide_eq_decide]
   exact⟨fun h2=>⟨h,.inr h2⟩,fun h2=>h2.2.resolve_left h1⟩
 ·rw[decide_eq_false (show ¬ (a:Int)<(n:Int) by omega),cond_false]
  exact(decide_eq_false fun h1=>h h1.1).symm
section
variable {z:Str} {n:Bool} {q:Str} {K:D->Prop}
theorem qkj{e:Int}{f a:Nat}(ha:a<=z.length)(hz:z.length<=1000000)(hq:q.length<=100000)(hf:f<=100000)(he:e=(q.length:Int)-f-1)(hK:K (rdD (rdE n q f (z.drop a)))) :
  At (En Tryz.f73) (fi Tryz.f73 K) [.code [1,1,1,1,1,1,1,1,0],.code [1,1,1,1,1,1,1,1,1]] (SXR z n q e a):=by
 have cE:=qhf (a:=a) (n:=z.length) (c:=z.getD a 0) (k:=101) (l:=69) (by omega) (by omega)
 refine qe js _ _ _ (of_eq (q2s z n q e a K) fun _=> ?_)
 rw[Int.toNat_natCast]
 refine⟨fun h=>⟨by omega,of_decide_eq_true h⟩,fun h=>⟨by omega,by rw[Bool.and_eq_true]at h;exact of_decide_eq_true h.1⟩,?_⟩
 rw[show(bif decide ((a:Int)<(z.length:Int)) then bif((z.getD a 0).toNat:Int)==101 then true else((z.getD a 0).toNat:Int)==69 else false)=_ from cE]
 refine qa (fun h=> ?_) fun h=> ?_
 ·obtain⟨hl,hc⟩:=of_decide_eq_true h
  have hd:=j6 hl
  rw[hd,rdE,if_pos (by exact hc)]at hK
  have key:∀(a':Nat) (w:Bool),a'<=z.length->z.drop a'=(ke (z.drop (a+1))).2->w=(ke (z.drop (a+1))).1->At (En Tryz.f73) (fi Tryz.f73 K) [.code [1,1,1,1,1,1,1,1,0,1,0,1,1,1],.code [1,1,1,1,1,1,1,1,1]] ⟨[(0,.str z),(2,.own [B false,.str [],I 0]),(4,.own [B n,.str q,I e]),(5,I a'),(7,B w)],.empty⟩:=fun a' w ha' hd' hw=>by
   refine qt3 ha' hz ⟨by omega,by omega⟩ (fun h0=> ?_) fun h0=> ?_
   ·rw[hd']at h0
    rw[if_pos h0]at hK;exact hK
   ·rw[hd']at h0⊢
    rw[if_neg h0]at hK
    rw[hw,he]
    exact hK
  have ea:qg .i64 (a:Int) 1=((a+1:Nat):Int):=by rw[jp (by omega) (by omega)];rfl
  rw[ea,Int.toNat_natCast]
  have c1:=qhf (a:=a+1) (n:=z.length) (c:=z.getD (a+1) 0) (k:=43) (l:=45) (by omega) (by omega)
  have c2:=qol (a:=a+1) (n:=z.length) (c:=z.getD (a+1) 0) (k:=45) (by omega)
  refine fun _=>⟨fun h=>⟨by omega,of_decide_eq_true h⟩,fun _=>⟨fun h=>⟨by omega,of_decide_eq_true h⟩,fun h=>⟨by omega,by rw[Bool.and_eq_true]at h;exact of_decide_eq_true h.1⟩,?_⟩⟩
  rw[show(bif decide (((a+1:Nat):Int)<(z.length:Int)) then bif((z.getD (a+1) 0).toNat:Int)==43 then true else((z.getD (a+1) 0).toNat:Int)==45 else false)=_ from c1,show(bif decide (((a+1:Nat):Int)<(z.length:Int)) then((z.getD (a+1) 0).toNat:Int)==45 else false)=_ from c2]
  refine qa (fun h1=> ?_) fun h1=> ?_
  ·obtain⟨g1,g2⟩:=of_decide_eq_true h1
   have hd1:=j6 g1
   have ea2:qg .i64 ((a+1:Nat):Int) 1=((a+1+1:Nat):Int):=by rw[jp (by omega) (by omega)];rfl
   rw[ea2]
   refine key (a+1+1) _ (by omega) ?_ ?_
   ·rw[hd1,ke]
    rcases g2 with g2|g2
    ·rw[if_neg (by rw[g2];decide),if_pos (by rw[g2];rfl)]
    ·rw[if_pos (by rw[g2];rfl)]
   ·rw[hd1,ke]
    rcases g2 with g2|g2
    ·rw[if_neg (by rw[g2];decide),if_pos (by rw[g2];rfl)]
     exact decide_eq_false fun h=>by rw[g2]at h;exact absurd h.2 (by decide)
    ·rw[if_pos (by rw[g2];rfl)]
     exact decide_eq_true ⟨g1,g2⟩
  ·have h1:=of_decide_eq_false h1
   refine key (a+1) _ (by omega) ?_ ?_
   ·rcases Nat.lt_or_ge (a+1) z.length with g1|g1
    ·rw[j6 g1,ke,if_neg (show ¬ z.getD (a+1) 0=45 from fun h=>h1 ⟨g1,.inr h⟩),if_neg (show ¬ z.getD (a+1) 0=43 from fun h=>h1 ⟨g1,.inl h⟩)]
    ·rw[List.drop_of_length_le g1];rfl
   ·rcases Nat.lt_or_ge (a+1) z.length with g1|g1
    ·rw[j6 g1,ke,if_neg (show ¬ z.getD (a+1) 0=45 from fun h=>h1 ⟨g1,.inr h⟩),if_neg (show ¬ z.getD (a+1) 0=43 from fun h=>h1 ⟨g1,.inl h⟩)]
     exact decide_eq_false fun h=>h1 ⟨h.1,.inr h.2⟩
    ·rw[List.drop_of_length_le g1]
     exact decide_eq_false fun h=>by omega
 ·have h:=of_decide_eq_false h
  refine ql3 (z:=z) (n:=n) (q:=q) (e:=e) (a:=a) ?_
  rcases Nat.lt_or_ge a z.length with g|g
  ·rw[j6 g,rdE,if_neg (show ¬ (z.getD a 0=101\/z.getD a 0=69) from fun hc=>h ⟨g,hc⟩)]at hK
   rw[decide_eq_false (by omega),he]
   have e2:(q.length:Int)-f-1=(q.length:Int)-f-1+0:=by omega
   rw[e2];exact hK
  ·rw[List.drop_of_length_le g,rdE]at hK
   rw[decide_eq_true (by omega),he]
   have e2:(q.length:Int)-f-1=(q.length:Int)-f-1+0:=by omega
   rw[e2];exact hK
theorem qom{a:Nat}(ha:a<=z.length)(hz:z.length<=1000)(hq:q.length<=1000)(hK:K (rdD (rdF n q (z.drop a)))) :
  At (En Tryz.f73) (fi Tryz.f73 K) [.code [1,1,1,1,1,1,1,0],.code [1,1,1,1,1,1,1,1]] (SXR z n q ((q.length:Int)-1) a):=by
 have cE:=qol (a:=a) (n:=z.length) (c:=z.getD a 0) (k:=46) (by omega)
 have ea:qg .i64 (a:Int) 1=((a+1:Nat):Int):=by rw[jp (by omega) (by omega)];rfl
 refine qe js _ _ _ (of_eq (q2q z n q _ a K) fun _=> ?_)
 rw[Int.toNat_natCast,ea,Int.toNat_natCast]
 refine⟨fun h=>⟨by omega,of_decide_eq_true h⟩,?_⟩
 rw[show(bif decide ((a:Int)<(z.length:Int)) then((z.getD a 0).toNat:Int)==46 else false)=_ from cE]
 refine qa (fun h=> ?_) fun h=> ?_
 ·obtain⟨hl,hc⟩:=of_decide_eq_true h
  obtain⟨t1,t2,t3⟩:=qce (z:=z) (a:=a+1) (by omega)
  rw[j6 hl,rdF,if_pos (by exact hc)]at hK
  refine⟨PureW.mk (qvt z (a+1) (by omega) (by omega)),qa (fun h1=>⟨trivial,?_⟩) fun h1=> ?_⟩
  ·have h1:(qi (z.drop (a+1))).1=[]:=List.eq_nil_of_length_eq_zero (by simpa using h1)
   rw[if_pos h1]at hK;exact hK
  ·have h1:(qi (z.drop (a+1))).1≠[]:=by intro h0;rw[h0]at h1;cases h1
   rw[if_neg h1]at hK
   have eb:qg .i64 ((a+1:Nat):Int) ((qi (z.drop (a+1))).1.length:Int)=((a+1+(qi (z.drop (a+1))).1.length:Nat):Int):=by rw[jp (by omega) (by omega)];rfl
   rw[eb,Int.toNat_natCast,t1]
   refine⟨⟨by omega,by omega,by omega⟩,by unfold j4;omega,trivial,qkj (f:=(qi (z.drop (a+1))).1.length) t3 (by omega) (by rw[List.length_append];omega) (by omega) (by rw[List.length_append];omega) ?_⟩
   rw[t2];exact hK
 ·have h:=of_decide_eq_false h
  refine qkj (f:=0) ha (by omega) (by omega) (by omega) (by omega) ?_
  rcases Nat.lt_or_ge a z.length with g|g
  ·rw[j6 g,rdF,if_neg (show ¬ z.getD a 0=46 from fun hc=>h ⟨g,hc⟩)]at hK
   rw[j6 g];exact hK
  ·rw[List.drop_of_length_le g,rdF]at hK
   rw[List.drop_of_length_le g];exact hK
end
theorem c73(z:Str)(hz:z.length<=1000):Pure PP 73 [.str z] (.tup [.agg [B (rdV (rdP z)).1.neg,.str (rdV (rdP z)).1.dig,I (rdV (rdP z)).1.e],B (rdV (rdP z)).2]):=by
 have hgoal:∀(K:D->Prop),K (rdD (rdP z))->At (En Tryz.f73) (fi Tryz.f73 K) [.code []] ⟨qd 0 [.str z],.empty⟩:=fun K hK=>by
  have start:∀(n:Bool) (a:Nat),a<=z.length->z.drop a=(ke z).2->n=(ke z).1->At (En Tryz.f73) (fi Tryz.f73 K) [.code [1,1,1,1]] (SXR z n [] 0 a):=fun n a ha hd hn=>by
   obtain⟨t1,t2,t3⟩:=qce (z:=z) (a:=a) ha
   refine qe js _ _ _ (of_eq (q2o z n a K) ⟨PureW.mk (qvv z a ha (by omega)),fun _=> ?_⟩)
   rw[Int.toNat_natCast]
   have eb:qg .i64 (a:Int) ((qi (z.drop a)).1.length:Int)=((a+(qi (z.drop a)).1.length:Nat):Int):=by rw[jp (by omega) (by omega)];rfl
   unfold rdP at hK
   rw[<-hd,<-hn]at hK
   refine qa (fun h=>⟨trivial,?_⟩) fun h=> ?_
   ·have:z.length > 64\/(qi (z.drop a)).1=[]:=by
     cases h1:(((qi (z.drop a)).1.length:Int)==0) with
     |true=>exact .inr (List.eq_nil_of_length_eq_zero (by simpa using h1))
     |false =>
      rw[h1,cond_false]at h
      have:=of_decide_eq_true h
      exact .inl (by omega)
    rw[if_pos this]at hK;exact hK
   ·have hne:¬ (z.length > 64\/(qi (z.drop a)).1=[]):=by
     rintro(h1|h1)
     ·cases h2:(((qi (z.drop a)).1.length:Int)==0) <;> rw[h2]at h
      ·rw[cond_false,decide_eq_true (by omega)]at h;cases h
      ·cases h
     ·rw[h1]at h;cases h
    rw[if_neg hne]at hK
    have hl0:0<(qi (z.drop a)).1.length:=List.length_pos_iff.2 fun h0=>hne (.inr h0)
    rw[eb,Int.toNat_natCast,t1,vt (by omega) (by omega)]
    refine⟨⟨by omega,by omega,by omega⟩,trivial,trivial,?_⟩
    exact qom t3 hz (by omega) (by rw[t2];exact hK)
  refine qe js _ _ _ (of_eq (nXR z K) ⟨trivial,fun _=>⟨fun h=>⟨by omega,of_decide_eq_true h⟩,fun h=>⟨by omega,by rw[Bool.and_eq_true]at h;exact of_decide_eq_true h.1⟩,?_⟩⟩)
  cases hzz:z with
  |nil =>
   rw[hzz]at start
   exact start false 0 (Nat.le_refl _) rfl rfl
  |cons c r =>
   rw[<-hzz]
   have hg:z.getD 0 0=c:=by rw[hzz];rfl
   have hl:0<z.length:=by rw[hzz];simp
   have c1:=qhf (a:=0) (n:=z.length) (c:=z.getD 0 0) (k:=43) (l:=45) (by omega) (by omega)
   have c2:=b5 (z.getD 0 0) 45 (by omega)
   rw[show(bif decide ((z.length:Int) > 0) then bif((z.getD 0 0).toNat:Int)==43 then true else((z.getD 0 0).toNat:Int)==45 else false)=_ from c1,show(((z.getD 0 0).toNat:Int)==45)=_ from c2]
   refine qa (fun h=> ?_) fun h=> ?_
   ·obtain⟨_,g⟩:=of_decide_eq_true h
    refine⟨⟨by omega,by omega⟩,trivial,start _ 1 (by omega) ?_ ?_⟩
    ·rw[hzz,ke]
     rw[hg]at g
     rcases g with g|g
     ·rw[if_neg (by rw[g];decide),if_pos (by rw[g];rfl)];rfl
     ·rw[if_pos (by rw[g];rfl)];rfl
    ·rw[hg,hzz,ke]
     rw[hg]at g
     rcases g with g|g
     ·rw[if_neg (by rw[g];decide),if_pos (by rw[g];rfl)]
      exact decide_eq_false (by rw[g];decide)
     ·rw[if_pos (by rw[g];rfl)]
      exact decide_eq_true g
   ·have g:=of_decide_eq_false h
    rw[hg]at g
    refine start _ 0 (Nat.zero_le _) ?_ ?_
    ·rw[List.drop_zero]
     conv=>rhs;rw[hzz]
     rw[ke,if_neg (show ¬ c=45 from fun h=>g ⟨hl,.inr h⟩),if_neg (show ¬ c=43 from fun h=>g ⟨hl,.inl h⟩)];exact hzz
    ·rw[hzz,ke,if_neg (show ¬ c=45 from fun h=>g ⟨hl,.inr h⟩),if_neg (show ¬ c=43 from fun h=>g ⟨hl,.inl h⟩)]
 exact pu F73 (by kernel_rfl) (lv:=my) (N:=0) (sc:=fun _ _=>none) (by unfold qo;exact hgoal _ (Wk.refl _))
end Go.Proofs.YtiekphbkomddfaaGreatDoor.S1
namespace Go.Proofs.YtiekphbkomddfaaGreatDoor.S1
open Go Go.Ab Go.Proofs

attribute [local instance] yu
theorem F46:OkF 46 Tryz.f46:=⟨by kernel_rfl,by kernel_rfl,by kernel_rfl⟩
def q2x:List (List Nat×List Nat):=[]
noncomputable def q2y(z:Str):List Nat->Nat->Option Ans:=qf [([1,0],1,Ans.pure [.str z] (.tup [.agg [B (rdV (rdP z)).fst.neg,.str (rdV (rdP z)).fst.dig,I (rdV (rdP z)).fst.e],B (rdV (rdP z)).snd])),([1,1,1,0],1,Ans.pure [(rdV (rdP z)).fst.d] (.tup [.str (txR (qy (rdV (rdP z)).fst.nm)).fst,I (txR (qy (rdV (rdP z)).fst.nm)).snd]))]
theorem nXP(z:Str)(K:D->Prop):qo (En Tryz.f46) (fi Tryz.f46 K) (q2y z) q2x 200 [.code []] ⟨qd 0 [.str z],.empty⟩ =
 (PQ PP 73 [.str z] (.tup [.agg [B (rdV (rdP z)).fst.neg,.str (rdV (rdP z)).fst.dig,I (rdV (rdP z)).fst.e],B (rdV (rdP z)).snd])/\True/\bif !(rdV (rdP z)).snd then K (.tup [.str {data:= #[]:ByteArray}.data.toList,I 3]) else PQ PP 74 [(rdV (rdP z)).fst.d] (.tup [.str (txR (qy (rdV (rdP z)).fst.nm)).fst,I (txR (qy (rdV (rdP z)).fst.nm)).snd])/\K (.tup [.str (txR (qy (rdV (rdP z)).fst.nm)).fst,I (txR (qy (rdV (rdP z)).fst.nm)).snd])):=by kernel_rfl
noncomputable def paV(z:Str):Str×Int:=bif(rdV (rdP z)).2 then txR (qy (rdV (rdP z)).1.nm) else([],3)
theorem F28:OkF 28 Tryz.f28:=⟨by kernel_rfl,by kernel_rfl,by kernel_rfl⟩
def q2z:List (List Nat×List Nat):=[]
noncomputable def q20(z:Str):List Nat->Nat->Option Ans:=qf [([1,0],1,Ans.pure [.str z] (.tup [.str (paV z).fst,I (paV z).snd]))]
theorem nXV(z:Str)(K:D->Prop):qo (En Tryz.f28) (fi Tryz.f28 K) (q20 z) q2z 200 [.code []] ⟨qd 0 [.str z],.empty⟩ =
 (PQ PP 46 [.str z] (.tup [.str (paV z).fst,I (paV z).snd])/\K (B (bif(paV z).snd==0 then(paV z).fst==z else false))):=by kernel_rfl
theorem F18:OkF 18 Tryz.f18:=⟨by kernel_rfl,by kernel_rfl,by kernel_rfl⟩
def q21:List (List Nat×List Nat):=[]
noncomputable def q22(z:Str):List Nat->Nat->Option Ans:=qf [([1,0,0,0],1,Ans.pure [.str z] (B (r7 km z)))]
theorem nXS(z:Str)(K:D->Prop):qo (En Tryz.f18) (fi Tryz.f18 K) (q22 z) q21 200 [.code []] ⟨qd 0 [.str z],.empty⟩ =
 (PQ PP 28 [.str z] (B (r7 km z))/\bif bif !r7 km z then true else z=={data:= #[48]:ByteArray}.data.toList then K (I 0) else((0:Int)<=0/\0<(↑(List.length z):Int))/\bif(↑(List.getD z 0 0).toNat:Int)==45 then K (I (-1)) else K (I 1)):=by kernel_rfl
end Go.Proofs.YtiekphbkomddfaaGreatDoor.S1
namespace Go.Proofs.YtiekphbkomddfaaGreatDoor.S1
open Go Go.Ab Go.Proofs

attribute [local instance] yu
theorem qon(z:Str) : -1000000000<=(rdV (rdP z)).1.e/\(rdV (rdP z)).1.e<=1000000000/\(rdV (rdP z)).1.dig.length<=64:=by
 cases hr:rdP z with
 |none=>exact⟨by decide,by decide,by decide⟩
 |some x =>
  obtain⟨_,_,r3,r4⟩:=qda hr
  have hc:yo km x.ed<=100000:=iw km x.ed
  have h1 : -100000<=x.e km/\x.e km<=100000:=by unfold Rd.e;split <;> omega
  show _<=(x.dig.length:Int)-x.fr-1+x.e km/\(x.dig.length:Int)-x.fr-1+x.e km<=_/\x.dig.length<=64
  omega
theorem qoo{z:Str}{x:Rd}(h:rdP z=some x):(rdV (rdP z)).1.nm=x.nm km/\(rdV (rdP z)).2=x.ok:=by
 rw[h]
 refine⟨?_,rfl⟩
 show Nm.mk x.neg x.dig ((x.dig.length:Int)-x.fr-1+x.e km+1-x.dig.length)=Nm.mk x.neg x.dig (x.e km-x.fr)
 congr 1;omega
theorem c46(z:Str)(hz:z.length<=1000):Pure PP 46 [.str z] (.tup [.str (paV z).1,I (paV z).2]):=by
 obtain⟨b1,b2,b3⟩:=qon z
 refine pu F46 (by kernel_rfl) (of_eq (nXP z _) ⟨PureW.mk (c73 z hz),trivial,qa (fun h=> ?_) fun h=>⟨PureW.mk (c74 _ b1 b2 (by omega)),?_⟩⟩)
 ·have h:(rdV (rdP z)).2=false:=by simpa using h
  unfold paV;rw[h];exact Wk.refl _
 ·have h:(rdV (rdP z)).2=true:=by simpa using h
  unfold paV;rw[h];exact Wk.refl _
theorem qt4(z:Str):(bif(paV z).2==0 then(paV z).1==z else false)=r7 km z:=by
 unfold r7
 cases hr:rdP z with
 |none=>unfold paV;rw[hr];rfl
 |some x =>
  obtain⟨h1,h2⟩:=qoo hr
  unfold paV
  rw[h1,h2]
  show _=(x.ok&&decide (xy (qy (x.nm km))=some z))
  cases x.ok with
  |false=>rfl
  |true =>
   rw[cond_true,Bool.true_and]
   unfold txR
   cases xy (qy (x.nm km)) with
   |none=>rfl
   |some w =>
    show(w==z)=decide (some w=some z)
    rw[Bool.eq_iff_iff];simp
theorem c28(z:Str)(hz:z.length<=1000):Pure PP 28 [.str z] (B (q7 z).2):=by
 refine pu F28 (by kernel_rfl) (of_eq (nXV z _) ⟨PureW.mk (c46 z hz),?_⟩)
 rw[qt4,(qdf z).1,qby (c1:=tj) (c2:=km) (by decide) (by decide)];exact Wk.refl _
theorem qkk{z:Str}(h:r7 km z=true):z≠[]/\(qa1 km z).dig.isEmpty=(z==[48])/\(z≠[48]->(qa1 km z).neg=decide (z.getD 0 0=45)):=by
 have hn:=(qgn h).1
 have ht:xy (qa1 km z)=some z:=by
  unfold r7 qa1 at *
  cases hr:rdP z with
  |none=>rw[hr]at h;cases h
  |some x =>
   rw[hr]at h
   rw[Bool.and_eq_true]at h
   exact of_decide_eq_true h.2
 generalize qa1 km z=y at *
 unfold xy at ht
 by_cases h0:y.dig=[]
 ·rw[if_pos h0]at ht
  cases ht
  rw[h0]
  exact⟨by simp,rfl,fun h=>absurd rfl h⟩
 ·rw[if_neg h0]at ht
  by_cases h1:y.dig.length > 17\/y.fst < -400\/y.fst > 400
  ·rw[if_pos h1]at ht;cases ht
  ·rw[if_neg h1]at ht
   have ht:=Option.some.inj ht
   cases hd:y.dig with
   |nil=>exact absurd hd h0
   |cons c r =>
    have hc:c≠48/\c≠45:=by
     have:=hn.hd
     rw[hd,List.head?_cons]at this
     refine⟨fun e=>this (by rw[e]),fun e=> ?_⟩
     have:=hn.dg
     rw[hd,List.all_cons,Bool.and_eq_true,e]at this
     exact absurd this.1 (by decide)
    rw[hd]at ht
    cases hg:y.neg with
    |true =>
     rw[hg]at ht
     rw[<-ht]
     exact⟨by simp,by simp,fun _=>rfl⟩
    |false =>
     rw[hg]at ht
     rw[<-ht]
     refine⟨by simp,?_,fun _=> ?_⟩
     ·simp[hc.1]
     ·simp[hc.2]
noncomputable def th(z:Str):Int:=bif r7 km z then xf (qa1 km z) else 0
theorem c18(z:Str)(hz:z.length<=1000):Pure PP 18 [.str z] (I (th z)):=by
 have hv:=c28 z hz
 rw[(qdf z).1,qby (c1:=tj) (c2:=km) (by decide) (by decide)]at hv
 refine pu F18 (by kernel_rfl) (of_eq (nXS z _) ⟨PureW.mk hv,qa (fun h=> ?_) fun h=> ?_⟩)
 ·unfold th
  cases hb:r7 km z with
  |false=>exact Wk.refl _
  |true =>
   rw[hb]at h
   have h:(z==[48])=true:=h
   have:=(qkk hb).2.1
   rw[h,List.isEmpty_iff]at this
   rw[cond_true,xf,if_pos this];exact Wk.refl _
 ·unfold th
  cases hb:r7 km z with
  |false=>rw[hb]at h;cases h
  |true =>
   rw[hb]at h
   have h:(z==[48])=false:=h
   obtain⟨g1,g2,g3⟩:=qkk hb
   rw[h,List.isEmpty_eq_false_iff]at g2
   have g3:=g3 (by intro e;rw[e]at h;cases h)
   have:=List.length_pos_iff.2 g1
   have hq:=b5 (z.getD 0 0) 45 (by omega)
   refine⟨⟨by omega,by omega⟩,?_⟩
   rw[show(((z.getD 0 0).toNat:Int)==45)=_ from hq,cond_true,xf,if_neg g2,g3]
   by_cases h5:z.getD 0 0=45
   ·rw[decide_eq_true (show z.getD 0 0=UInt8.ofNat 45 from h5),decide_eq_true h5,if_pos rfl];exact Wk.refl _
   ·rw[decide_eq_false (show ¬ z.getD 0 0=UInt8.ofNat 45 from h5),decide_eq_false h5,if_neg (by simp)];exact Wk.refl _
end Go.Proofs.YtiekphbkomddfaaGreatDoor.S1
