/- Seat 2: the laws' types as Lean data; words for contracts. -/
import Derived.Test.YtiekphbkomddfaaGreatDoorB8
import Derived.Test.YtiekphbkomddfaaGreatDoorChecked
namespace Go.Proofs.YtiekphbkomddfaaGreatDoor.S1
open Go Go.Ab Go.Proofs Go.Proofs.YtiekphbkomddfaaGreatDoor
def qwg:Cfg:=⟨fun _=>false,fun _=>false⟩
noncomputable abbrev PP:Program:=Tryz.prog
noncomputable abbrev EnC(c:Cfg)(f:Func):Env:=⟨Tryz.prog,c,f.body.getD .skip,f.ntmps⟩
noncomputable abbrev En(f:Func):Env:=EnC qwg f
def qwh(l:List Nat):Cfg:=⟨fun d=>l.any (Nat.beq d),fun _=>false⟩
def qwi(l v:List Nat):Cfg:=⟨fun d=>l.any (Nat.beq d),fun d=>v.any (Nat.beq d)⟩
noncomputable abbrev EnX(l:List Nat)(f:Func):Env:=EnC (qwh l) f
noncomputable abbrev EnV(l v:List Nat)(f:Func):Env:=EnC (qwi l v) f
noncomputable abbrev fi(f:Func)(K:D->Prop):St->Prop:=qiq Tryz.prog f.results.toList fun d _=>K d
noncomputable abbrev fh(f:Func)(K:D->Heap->Prop):St->Prop:=qiq Tryz.prog f.results.toList K
def dr:List (List Nat×List Nat):=[]
abbrev stp(l:List Nat)(J:St->Prop):It:= .stop fun st=>J (aj l st)
theorem jt:Tryz.prog.follows .mixedOrders=true:=by kernel_rfl
class DD(d:D):Prop where
 p:Ab.Data d
class DS(ds:List D):Prop where
 p:Datas ds
instance:DS []:=⟨trivial⟩
instance {d:D}{ds:List D}[h:DD d][k:DS ds]:DS (d::ds):=⟨h.p,k.p⟩
instance {n:Int}{k:IntKind}:DD (.int k n):=⟨trivial⟩
instance {b:Bool}:DD (.bool b):=⟨trivial⟩
instance {s:List UInt8}:DD (.str s):=⟨trivial⟩
instance {ds:List D}[h:DS ds]:DD (.agg ds):=⟨h.p⟩
instance {ds:List D}[h:DS ds]:DD (.tup ds):=⟨h.p⟩
instance {f:Nat}{ds:List D}[h:DS ds]:DD (.clo f ds):=⟨h.p⟩
instance {α:Type}[Inhabited α]{es:List α}{sz:Nat}{enc:α->D}[h:∀x,DD (enc x)]:DD (L es sz enc):=⟨L.data fun x=>(h x).p⟩
structure Iv where (frm to:Int) deriving Inhabited,DecidableEq
def Iv.d(x:Iv):D:= .agg [I x.frm,I x.to]
structure Sp where (frm to:Int) (val:List UInt8) deriving Inhabited,DecidableEq
def Sp.d(x:Sp):D:= .agg [I x.frm,I x.to,.str x.val]
structure Chg where (time:Int) (val:List UInt8) deriving Inhabited,DecidableEq
def Chg.d(x:Chg):D:= .agg [I x.time,.str x.val]
structure Sig where (kind width:Int) (chg:List Chg) deriving Inhabited,DecidableEq
def Sig.d(x:Sig):D:= .agg [I x.kind,I x.width,L x.chg 2 Chg.d]
structure Wv where (sig:List Sig) (gap:List Iv) (fin:Int) deriving Inhabited,DecidableEq
def Wv.cs(x:Wv):List D:=[L x.sig 3 Sig.d,L x.gap 2 Iv.d,I x.fin]
def Wv.d(x:Wv):D:= .agg x.cs
structure Rw where (frm to:Int) (vals:List (List UInt8)) deriving Inhabited,DecidableEq
def Rw.d(x:Rw):D:= .agg [I x.frm,I x.to,L x.vals 1 D.str]
instance {x:Iv}:DD x.d:=inferInstanceAs (DD (.agg _))
instance {x:Sp}:DD x.d:=inferInstanceAs (DD (.agg _))
instance {x:Chg}:DD x.d:=inferInstanceAs (DD (.agg _))
instance {x:Sig}:DD x.d:=inferInstanceAs (DD (.agg _))
instance {x:Wv}:DD x.d:=inferInstanceAs (DD (.agg [_,_,_]))
instance {x:Rw}:DD x.d:=inferInstanceAs (DD (.agg _))
structure OkF(f:Nat)(fn:Func):Prop where
 hf:PP.funcs[f]? = some fn
 hb:fn.body=some (fn.body.getD .skip)
 hn:(fn.name == "runtime.NumGoroutine")=false
theorem pu[Lay]{f:Nat}{fn:Func}(o:OkF f fn){args:List D}{v:D}[da:DS args][dv:DD v](hn:Nat.ble args.length fn.ntmps=true){cfg:Cfg}{sc:List Nat->Nat->Option Ans}{lv:List (List Nat×List Nat)}{N:Nat}
  (hr:qo (EnC cfg fn) (fi fn fun d=>Wk d v) sc lv N [.code []] ⟨qd 0 args,.empty⟩):Pure PP f args v:=o9 jt o.hf o.hb o.hn da.p dv.p hn hr
theorem du[Lay]{f:Nat}{fn:Func}(o:OkF f fn){args:List D}{v:D}{h h':Heap}(hn:Nat.ble args.length fn.ntmps=true){cfg:Cfg}{sc:List Nat->Nat->Option Ans}{lv:List (List Nat×List Nat)}{N:Nat}
  (hr:qo (EnC cfg fn) (fh fn fun d h''=>RetLe d h'' v h') sc lv N [.code []] ⟨qd 0 args,h⟩):Does PP f args h v h':=Does.of_call (yo jt o.hf o.hb o.hn hn hr)
theorem duA[Lay]{f:Nat}{fn:Func}(o:OkF f fn){args:List D}{v:D}{h h':Heap}(hn:Nat.ble args.length fn.ntmps=true){cfg:Cfg}
  (hr:At (EnC cfg fn) (fh fn fun d h''=>RetLe d h'' v h') [.code []] ⟨qd 0 args,h⟩):Does PP f args h v h':=Does.of_call (uj jt o.hf o.hb o.hn hn (N:=0) (by unfold run;exact hr))
theorem pr[Lay]{f:Nat}{fn:Func}(o:OkF f fn){args:List D}{v:D}[da:DS args][dv:DD v](hn:Nat.ble args.length fn.ntmps=true){cfg:Cfg}{sc:List Nat->Nat->Option Ans}{lv:List (List Nat×List Nat)}{N:Nat}
  (hr:qo (EnC cfg fn) (fh fn fun d h=>∃h',RetLe d h v h') sc lv N [.code []] ⟨qd 0 args,.empty⟩):Pure PP f args v:=qaa jt o.hf o.hb o.hn da.p dv.p hn hr
mutual
theorem dt:∀d:D,Ab.Data d->vo d
 | .bool _,_ | .int _ _,_ | .str _,_ | .nilp,_ | .nilf,_ | .nili,_ | .nilm,_ | .fnp _ _,_=>trivial
 | .bp _ _,_ | .sl _ _ _,_ | .mp _,_ | .yl _,_ | .vec _ _ _,_ | .bv _ _ _,_ | .be _ _ _ _ _,_ | .own _,_ | .lp _ _,_ | .may _ _ _,_ | .junk,_=>trivial
 | .list _ _ _ _,h=>by simp only[Ab.Data]at h;simp only[vo];exact h.1
 | .agg cs,h=>by simp only[Ab.Data]at h;simp only[vo];exact ke cs h
 | .tup cs,h=>by simp only[Ab.Data]at h;simp only[vo];exact ke cs h
 | .clo _ cs,h=>by simp only[Ab.Data]at h;simp only[vo];exact ke cs h
 | .mv _ cs,h=>by simp only[Ab.Data]at h;simp only[vo];exact ke cs h
 | .ep cs,h=>by simp only[Ab.Data]at h;simp only[vo];exact ke cs h
 | .iface _ d,h=>by simp only[Ab.Data]at h;simp only[vo];exact dt d h
theorem ke:∀ds:List D,Datas ds->xv ds
 | [],_=>trivial
 |d::r,h=>by simp only[Datas]at h;simp only[xv];exact⟨dt d h.1,ke r h.2⟩
end
instance (priority:=10){d:D}[h:DD d]:RO d:=⟨dt d h.p⟩
instance {l o:Nat}:RO (.bp l o):=⟨trivial⟩
instance {l:Nat}:RO (.mp l):=⟨trivial⟩
instance {t n sz:Nat}:RO (.vec t n sz):=⟨trivial⟩
instance {t n i sz j:Nat}:RO (.be t n i sz j):=⟨trivial⟩
instance {e t n:Nat}:RO (.bv e t n):=⟨trivial⟩
instance {f:Nat->Option Row}{k T:Nat}{cs:List D}[h:RB f][r:ROs cs]:RB (upd f k (some (.litT T cs))):=⟨fun l row e=>by
 by_cases hx:l=k
 ·subst hx;rw[qb]at e;cases e;exact r.p
 ·rw[qc _ _ hx]at e;exact h.p l row e⟩
instance {n sz:Nat}{get:Nat->D}{own:Own}[h:∀i,DD (get i)]:RO (.list n sz get own):=⟨fun i _=>(h i).p⟩
instance {α:Type}[Inhabited α]{es:List α}{sz t:Nat}{enc:α->D}[h:∀x,DD (enc x)]:RO (LT es sz enc t):=⟨fun _ _=>(h _).p⟩
instance {α:Type}[Inhabited α]{es:List α}{enc:α->D}[h:∀x,DD (enc x)]{i:Nat}:DD (cv es enc i):=⟨(h _).p⟩
instance:ROs []:=⟨trivial⟩
instance {d:D}{ds:List D}[h:RO d][k:ROs ds]:ROs (d::ds):=⟨h.p,k.p⟩
instance {ds:List D}[h:ROs ds]:RO (.agg ds):=⟨h.p⟩
instance {ds:List D}[h:ROs ds]:RO (.tup ds):=⟨h.p⟩
instance {f:Nat}{ds:List D}[h:ROs ds]:RO (.clo f ds):=⟨h.p⟩
instance {f:Nat}{ds:List D}[h:ROs ds]:RO (.mv f ds):=⟨h.p⟩
instance {t:Nat}{d:D}[h:RO d]:RO (.iface t d):=⟨h.p⟩
instance:RB (fun _=>none):=⟨fun _ _ h=>by cases h⟩
instance {f:Nat->Option Row}{k:Nat}{cs:List D}[h:RB f][r:ROs cs]:RB (upd f k (some (.lit cs))):=⟨fun l row e=>by
 by_cases hx:l=k
 ·subst hx;rw[qb]at e;cases e;exact r.p
 ·rw[qc _ _ hx]at e;exact h.p l row e⟩
instance {f:Nat->Option Row}{k:Nat}[h:RB f]:RB (upd f k none):=⟨fun l row e=>by
 by_cases hx:l=k
 ·subst hx;rw[qb]at e;cases e
 ·rw[qc _ _ hx]at e;exact h.p l row e⟩
instance {hw:Nat->Option Nat}:RV hw (fun _=>none):=⟨fun _ _ _ _ h=>by cases h⟩
instance {hw:Nat->Option Nat}{vw:Nat->Option (Nat->D)}{t:Nat}{f:Nat->D}[h:RV hw vw][k:∀i,DD (f i)]:RV hw (upd vw t (some f)):=⟨fun t' n q e e' i hi=>by
 by_cases hx:t'=t
 ·subst hx;rw[qb]at e';cases e';exact(k i).p
 ·rw[qc _ _ hx]at e';exact h.p t' n q e e' i hi⟩
instance {hw:Nat->Option Nat}{vw:Nat->Option (Nat->D)}{t:Nat}[h:RV hw vw]:RV hw (upd vw t none):=⟨fun t' n q e e' i hi=>by
 by_cases hx:t'=t
 ·subst hx;rw[qb]at e';cases e'
 ·rw[qc _ _ hx]at e';exact h.p t' n q e e' i hi⟩
theorem fr[Lay]{f:Nat}{args args':List D}{v:D}{bx:Nat->Option Row}{nl nt:Nat}{hw:Nat->Option Nat}{vw:Nat->Option (Nat->D)}{bx':Nat->Option Row}{nl' nt':Nat}{hw':Nat->Option Nat}{vw':Nat->Option (Nat->D)}{H:Heap}
  (c:Does PP f args ⟨bx,nl,hw,nt,vw⟩ v ⟨bx',nl',hw',nt',vw'⟩) (bs ts:List Nat) [d1:Dom bx nl] [d2:Dom hw nt] [d3:Dom vw nt] [a1:ROs args] [a2:RO v] [a3:RB bx] [a4:RV hw vw] [a5:RB bx'] [a6:RV hw' vw']
  (k:(decide (bs.Nodup/\ts.Nodup/\nl<=nl'/\nt<=nt')&&bs.all (Nat.blt · H.nl)&&ts.all (Nat.blt · H.nt))=true:=by kernel_rfl)
  (m1:(List.range nl).map (fun l=>(bx l).map (bh (rnm bs H.nl) (rnm ts H.nt)))=bs.map H.box:=by kernel_rfl) (m2:(List.range nt).map hw=ts.map H.hw:=by kernel_rfl) (m3:(List.range nt).map vw=ts.map H.vw:=by kernel_rfl)
  (ea:qa1 (rnm bs H.nl) (rnm ts H.nt) args=args':=by kernel_rfl) :
  Does PP f args' H (ren (rnm bs H.nl) (rnm ts H.nt) v) (qg bs ts H ⟨bx',nl',hw',nt',vw'⟩):=ea▸Does.frame c bs ts k m1 m2 m3
def qc3:Option Code->Bool
 |some (.loop _)=>true
 |_=>false
theorem lp[Lay]{fn:Func}{cfg:Cfg}{fin:St->Prop}{α:Type}(I:α->Prop)(S:α->St)(μ:α->Nat)(l:List Nat){p:List Nat}{td:List It}(hs:qc3 (sub (EnC cfg fn).root p)=true){N:Nat}{sc:α->List Nat->Nat->Option Ans}{lv:List (List Nat×List Nat)}
  (hr:∀x,I x->qo (EnC cfg fn) fin (sc x) lv N (.code (p++[0])::stp l (Nx (EnC cfg fn).nt I S μ (μ x))::td) (S x)) (x:α) (hx:I x):At (EnC cfg fn) fin (.code p::td) (S x):=by
 have:∃c,sub (EnC cfg fn).root p=some (.loop c):=by
  unfold qc3 at hs
  split at hs
  ·rename_i c h;exact⟨c,h⟩
  ·cases hs
 obtain⟨c,hc⟩:=this
 exact qis jt I S μ l hc hr x hx
end Go.Proofs.YtiekphbkomddfaaGreatDoor.S1
namespace Go.Proofs.YtiekphbkomddfaaGreatDoor.S1
open Go Go.Ab Go.Proofs
theorem zy{a b:Int}(h : -9223372036854775808<=a-b)(k:a-b<=9223372036854775807):qn .i64 a b=a-b:=IntWalk.i64_in _ ⟨h,k⟩
theorem jq{a b:Int}(h : -9223372036854775808<=a+b)(k:a+b<=9223372036854775807):qh .i64 a b=a+b:=IntWalk.i64_in _ ⟨h,k⟩
theorem cn{i n:Nat}(h:i<n)(k:n<=q9):qh .i64 (i:Int) 1=((i+1:Nat):Int):=by
 unfold q9 at k
 rw[jq (by omega) (by omega)];rfl
theorem ltI{i n:Nat}(h:decide ((i:Int)<(n:Int))=true):i<n:=by simpa using h
theorem geI{i n:Nat}(h:decide ((i:Int)<(n:Int))=false):n<=i:=by simpa using h
theorem ze{α:Type}[Inhabited α](l:List α)(i:Nat)(h:i<l.length):l.take (i+1)=l.take i++[l.getD i default]:=by
 rw[List.take_succ_eq_append_getElem h];simp[List.getD,h]
theorem jr{α:Type}[Inhabited α](l:List α)(i:Nat)(h:i<l.length):l.drop i=l.getD i default::l.drop (i+1):=by
 rw[List.drop_eq_getElem_cons h];simp[List.getD,h]
abbrev Str:=List UInt8
instance {x:Wv}:DS x.cs:=inferInstanceAs (DS [_,_,_])
def hM(w:Wv)(lim:Int)(c:Int):Heap:=⟨upd (fun _=>none) 0 (some (.lit [L w.sig 3 Sig.d,L w.gap 2 Iv.d,I w.fin,I lim,I c])),1,fun _=>none,0,fun _=>none⟩
theorem qwj:OkF 210 Tryz.f210:=⟨by kernel_rfl,by kernel_rfl,by kernel_rfl⟩
def qpq:List (List Nat×List Nat):=[]
noncomputable def qm0:List Nat->Nat->Option Ans:=qf []
theorem qpr[Lay](w:Wv)(lim c sig:Int)(K:D->Heap->Prop):qo (En Tryz.f210) (fh Tryz.f210 K) (qm0 ) qpq 200 [.code []] ⟨qd 0 [.bp 0 0,I sig],hM w lim c⟩ =
 (True/\bif bif decide (lim>=0) then decide (qh .i64 c 1 > lim) else false then K (I 14) {box:=upd (upd (fun _=>none) 0 (some (Row.lit [L w.sig 3 Sig.d,L w.gap 2 Iv.d,I w.fin,I lim,I c]))) 0 (some (Row.lit [L w.sig 3 Sig.d,L w.gap 2 Iv.d,I w.fin,I lim,I (qh .i64 c 1)])),nl:=1,hw:=fun _=>none,nt:=0,vw:=fun _=>none:Heap} else((!decide (sig<0))=true->w.sig.length<=q9)->bif bif decide (sig<0) then true else decide (sig>=(↑w.sig.length:Int)) then K (I 2) {box:=upd (upd (fun _=>none) 0 (some (Row.lit [L w.sig 3 Sig.d,L w.gap 2 Iv.d,I w.fin,I lim,I c]))) 0 (some (Row.lit [L w.sig 3 Sig.d,L w.gap 2 Iv.d,I w.fin,I lim,I (qh .i64 c 1)])),nl:=1,hw:=fun _=>none,nt:=0,vw:=fun _=>none:Heap} else K (I 0) {box:=upd (upd (fun _=>none) 0 (some (Row.lit [L w.sig 3 Sig.d,L w.gap 2 Iv.d,I w.fin,I lim,I c]))) 0 (some (Row.lit [L w.sig 3 Sig.d,L w.gap 2 Iv.d,I w.fin,I lim,I (qh .i64 c 1)])),nl:=1,hw:=fun _=>none,nt:=0,vw:=fun _=>none:Heap}):=by kernel_rfl
def jn(w:Wv)(lim c sig:Int):Int:=bif bif decide (lim>=0) then decide (qh .i64 c 1 > lim) else false then 14 else bif bif decide (sig<0) then true else decide (sig>=(w.sig.length:Int)) then 2 else 0
theorem qm1{w:Wv}{lim c c':Int}:(⟨upd (upd (fun _=>none) 0 (some (.lit [L w.sig 3 Sig.d,L w.gap 2 Iv.d,I w.fin,I lim,I c]))) 0 (some (.lit [L w.sig 3 Sig.d,L w.gap 2 Iv.d,I w.fin,I lim,I c'])),1,fun _=>none,0,fun _=>none⟩:Heap)=hM w lim c':=by
 unfold hM;rw[ja]
theorem qo5[Lay](w:Wv)(lim c sig:Int):Does PP 210 [.bp 0 0,I sig] (hM w lim c) (I (jn w lim c sig)) (hM w lim (qh .i64 c 1)):=by
 refine du qwj (by kernel_rfl) (of_eq (qpr w lim c sig _) ⟨trivial,qa (fun h=> ?_) fun h=>fun _=>qa (fun h2=> ?_) fun h2=> ?_⟩) <;> rw[qm1]
 ·simp only[jn,h,cond_true];exact RetLe.refl _ _
 ·simp only[jn,h,h2,cond_true,cond_false];exact RetLe.refl _ _
 ·simp only[jn,h,h2,cond_false];exact RetLe.refl _ _
theorem qwk:OkF 205 Tryz.f205:=⟨by kernel_rfl,by kernel_rfl,by kernel_rfl⟩
def qps:List (List Nat×List Nat):=[]
noncomputable def qpt:List Nat->Nat->Option Ans:=qf []
theorem qwl[Lay](w:Wv)(lim c:Int)(K:D->Heap->Prop):qo (En Tryz.f205) (fh Tryz.f205 K) (qpt ) qps 200 [.code []] ⟨qd 0 [.bp 0 0],hM w lim c⟩ =
 (K (I w.fin) {box:=upd (fun _=>none) 0 (some (Row.lit [L w.sig 3 Sig.d,L w.gap 2 Iv.d,I w.fin,I lim,I c])),nl:=1,hw:=fun _=>none,nt:=0,vw:=fun _=>none:Heap}):=by kernel_rfl
theorem qvg[Lay](w:Wv)(lim c:Int):Does PP 205 [.bp 0 0] (hM w lim c) (I w.fin) (hM w lim c) :=
 du qwk (by kernel_rfl) (of_eq (qwl w lim c _) (RetLe.refl _ _))
theorem F35:OkF 35 Tryz.f35:=⟨by kernel_rfl,by kernel_rfl,by kernel_rfl⟩
def qvh:List (List Nat×List Nat):=[([1,0,1,0,1,1,1,0,1,0,1,0],[1,3,4])]
noncomputable def qm2:List Nat->Nat->Option Ans:=qf []
theorem qpu[Lay](q:Sig)(K:D->Prop):qo (En Tryz.f35) (fi Tryz.f35 K) (qm2 ) qvh 200 [.code []] ⟨qd 0 [q.d],.empty⟩ =
 (bif q.kind==1 then K (.str {data:= #[48]:ByteArray}.data.toList) else bif q.kind==0 then At (En Tryz.f35) (fi Tryz.f35 K) [It.code [1,0,1,0,1,1,1,0,1,0,1,0],It.blk 1,It.code [1,0,1,0,1,1,1,0,1,1],It.blk 0,It.code [1,1]] {sl:=[(1,.own [I q.kind,I q.width,L q.chg 2 Chg.d]),(3,.str {data:= #[]:ByteArray}.data.toList),(4,I 0)],h:=Heap.empty:St} else K (.str {data:= #[]:ByteArray}.data.toList)):=by kernel_rfl
def qk3(q:Sig)(v:Str)(i:Int):St:=⟨[(1,.own [I q.kind,I q.width,L q.chg 2 Chg.d]),(3,.str v),(4,I i)],.empty⟩
noncomputable def qk4:List Nat->Nat->Option Ans:=qf []
theorem qm3[Lay](q:Sig)(v:Str)(i:Int)(J:St->Prop)(K:D->Prop):qo (En Tryz.f35) (fi Tryz.f35 K) (qk4 ) qvh 200 [.code [1,0,1,0,1,1,1,0,1,0,1,0,0],stp [1,3,4] J,.blk 1,.code [1,0,1,0,1,1,1,0,1,1],.blk 0,.code [1,1]] (qk3 q v i) =
 (bif decide (i<q.width) then List.length v+1<=j5/\J {sl:=[(1,.own [I q.kind,I q.width,L q.chg 2 Chg.d]),(3,.str (v++{data:= #[120]:ByteArray}.data.toList)),(4,I (qh .i64 i 1))],h:=Heap.empty:St} else K (.str v)):=by kernel_rfl
def ini(q:Sig):Str:=if q.kind=1 then[48] else if q.kind=0 then List.replicate q.width.toNat 120 else[]
theorem c35[Lay](q:Sig)(hw:q.width<=1000000):Pure PP 35 [q.d] (.str (ini q)):=by
 refine pu F35 (by kernel_rfl) (of_eq (qpu q _) (qa (fun h=> ?_) fun h=>qa (fun h0=> ?_) fun h0=> ?_))
 ·have:q.kind=1:=by simpa using h
  rw[ini,if_pos this];exact Wk.refl _
 ·have h1:¬ q.kind=1:=by simpa using h
  have h2:q.kind=0:=by simpa using h0
  rw[ini,if_neg h1,if_pos h2]
  refine lp (fn:=Tryz.f35) (fun i:Nat=>i<=q.width.toNat) (fun i=>qk3 q (List.replicate i 120) i) (fun i=>q.width.toNat-i) [1,3,4] (by kernel_rfl) (fun i hi=>of_eq (qm3 q _ i _ _) (qa (fun hlt=> ?_) fun hge=> ?_)) 0 (Nat.zero_le _)
  ·have hlt:(i:Int)<q.width:=by simpa using hlt
   have ha:qh .i64 (i:Int) 1=((i+1:Nat):Int):=by rw[jq (by omega) (by omega)];rfl
   rw[ha]
   refine⟨by rw[List.length_replicate];unfold j5;omega,Nx.of (i+1) (by omega) (by omega) ?_⟩
   unfold qk3
   rw[List.replicate_succ']
   exact StLe.refl _ _
  ·have hge:¬ (i:Int)<q.width:=by simpa using hge
   rw[show i=q.width.toNat by omega]
   exact Wk.refl _
 ·have h1:¬ q.kind=1:=by simpa using h
  have h2:¬ q.kind=0:=by simpa using h0
  rw[ini,if_neg h1,if_neg h2];exact Wk.refl _
def v8(v:Str)(l:List Chg)(t:Int):Str:=l.foldl (fun v x=>bif decide (x.time<=t) then x.val else v) v
theorem j6(v:Str)(x:Chg)(l:List Chg)(t:Int):v8 v (x::l) t=v8 (bif decide (x.time<=t) then x.val else v) l t:=rfl
def vc(q:Sig)(t:Int):Str:=if q.kind=3 then ini q else v8 (ini q) q.chg t
theorem F95:OkF 95 Tryz.f95:=⟨by kernel_rfl,by kernel_rfl,by kernel_rfl⟩
def qvi:List (List Nat×List Nat):=[([1,1,0,1,0],[1,2,5,6])]
noncomputable def qpv(q:Sig):List Nat->Nat->Option Ans:=qf [([1,0],1,Ans.pure [q.d] (.str (ini q)))]
theorem qwm[Lay](q:Sig)(t:Int)(K:D->Prop):qo (En Tryz.f95) (fi Tryz.f95 K) (qpv q) qvi 200 [.code []] ⟨qd 0 [q.d,I t],.empty⟩ =
 (PureW PP 35 [q.d] [q.d] (.str (ini q))/\At (En Tryz.f95) (fi Tryz.f95 K) [It.code [1,1,0,1,0],It.blk 0,It.code [1,1,1]] {sl:=[(1,I t),(2,.own [I q.kind,I q.width,L q.chg 2 Chg.d]),(5,.str (ini q)),(6,I 0)],h:=Heap.empty:St}):=by kernel_rfl
def qpw(q:Sig)(t:Int)(v:Str)(i:Int):St:=⟨[(1,I t),(2,.own [I q.kind,I q.width,L q.chg 2 Chg.d]),(5,.str v),(6,I i)],.empty⟩
noncomputable def qm4:List Nat->Nat->Option Ans:=qf []
theorem qm5[Lay](q:Sig)(t:Int)(v:Str)(i:Int)(J:St->Prop)(K:D->Prop):qo (En Tryz.f95) (fi Tryz.f95 K) (qm4 ) qvi 200 [.code [1,1,0,1,0,0],stp [1,2,5,6] J,.blk 0,.code [1,1,1]] (qpw q t v i) =
 (q.chg.length<=q9->bif bif decide (i<(↑q.chg.length:Int)) then q.kind !=3 else false then(0<=i/\i<(↑q.chg.length:Int))/\bif decide ((q.chg.getD i.toNat default).time<=t) then(0<=i/\i<(↑q.chg.length:Int))/\J {sl:=[(1,I t),(2,.own [I q.kind,I q.width,L q.chg 2 Chg.d]),(5,.str (q.chg.getD i.toNat default).val),(6,I (qh .i64 i 1))],h:=Heap.empty:St} else J {sl:=[(1,I t),(2,.own [I q.kind,I q.width,L q.chg 2 Chg.d]),(5,.str v),(6,I (qh .i64 i 1))],h:=Heap.empty:St} else K (.str v)):=by kernel_rfl
theorem c95[Lay](q:Sig)(t:Int)(hw:q.width<=1000000):Pure PP 95 [q.d,I t] (.str (vc q t)):=by
 refine pu F95 (by kernel_rfl) (of_eq (qwm q t _) ⟨PureW.mk (c35 _ hw),?_⟩)
 unfold vc
 by_cases hk:q.kind=3
 ·rw[if_pos hk]
  refine lp (fn:=Tryz.f95) (fun i:Nat=>i=0) (fun i=>qpw q t (ini q) i) (fun i=>0-i) [1,2,5,6] (by kernel_rfl) (fun i hi=>of_eq (qm5 q t _ i _ _) fun hl=>qa (fun h=> ?_) fun h=>Wk.refl _) 0 rfl
  simp[hk]at h
 ·rw[if_neg hk]
  have hk':(q.kind !=3)=true:=by simpa using hk
  refine lp (fn:=Tryz.f95) (fun x:Nat×Str=>x.1<=q.chg.length/\v8 (ini q) q.chg t=v8 x.2 (q.chg.drop x.1) t) (fun x=>qpw q t x.2 x.1) (fun x=>q.chg.length-x.1) [1,2,5,6] (by kernel_rfl) (fun x hx=>of_eq (qm5 q t x.2 x.1 _ _) fun hl=> ?_) (0,ini q) ⟨Nat.zero_le _,rfl⟩
  obtain⟨i,u⟩:=x
  obtain⟨hi,he⟩:=hx
  simp only at hi he⊢
  rw[hk']
  refine qa (fun hlt=> ?_) fun hge=> ?_
  ·have hlt:i<q.chg.length:=by
    cases hd:decide ((i:Int)<(q.chg.length:Int)) with
    |true=>exact ltI hd
    |false=>rw[hd]at hlt;cases hlt
   rw[cn hlt hl,Int.toNat_natCast]
   rw[jr _ _ hlt,j6]at he
   generalize q.chg.getD i default=x at he⊢
   refine⟨⟨by omega,by omega⟩,qa (fun h=>⟨⟨by omega,by omega⟩,Nx.mk (i+1,x.val) ⟨hlt,?_⟩ (by simp only;omega)⟩) fun h=>Nx.mk (i+1,u) ⟨hlt,?_⟩ (by simp only;omega)⟩
   ·rw[h]at he;exact he
   ·rw[h]at he;exact he
  ·have:q.chg.length<=i:=by
    cases hd:decide ((i:Int)<(q.chg.length:Int)) with
    |true=>rw[hd]at hge;cases hge
    |false=>exact geI hd
   rw[he,List.drop_of_length_le this]
   exact Wk.refl _
theorem qad{α:Type}[Inhabited α]{es:List α}{x:α}{enc:α->D}{n i:Nat}(hn:n=es.length)(hi:i<n+1):vy n (cv es enc) (zj [enc x]) i=cv (es++[x]) enc i:=by
 subst hn
 unfold vy cv
 rcases Nat.lt_or_ge i es.length with h|h
 ·rw[pp.2 h];simp[List.getD,List.getElem?_append_left h]
 ·rw[oq.2 h]
  have:i=es.length:=by omega
  subst this
  simp[List.getD,zj]
theorem sv[Lay]{α:Type}[Inhabited α]{es':List α}{enc:α->D}{f:Nat->D}{d v:D}{n:Nat}(hn:n=es'.length)(hf:∀i,i<es'.length->f i=cv es' enc i)(hw:Wk d v){hw0:Nat->Option Nat}{vw0:Nat->Option (Nat->D)}(e1:hw0=upd (fun _=>none) 0 (some n))(e2:vw0=upd (fun _=>none) 0 (some f)) :
  RetLe d ⟨fun _=>none,0,hw0,1,vw0⟩ v (v6 es' enc):=by
 subst hn;subst e1;subst e2
 exact RetLe.of hw (HeapLe.vec (qb _ _ _) (VwLe.eq hf))
def zh(es:List Sp)(to:Int):List Sp:=es.set (es.length-1) ⟨(es.getD (es.length-1) default).frm,to,(es.getD (es.length-1) default).val⟩
def uq(es:List Sp)(frm:Int)(v:Str):List Sp:=if es=[] then[⟨frm,0,v⟩] else if(es.getD (es.length-1) default).val=v then es else zh es (qn .i64 frm 1)++[⟨frm,0,v⟩]
theorem vn(es:List Sp)(to:Int):(zh es to).length=es.length:=by simp[zh]
theorem bi{n:Nat}(h0:0<n)(h:n<=q9):qn .i64 (n:Int) 1=((n-1:Nat):Int):=by
 unfold q9 at h
 rw[zy (by omega) (by omega)];omega
theorem F87:OkF 87 Tryz.f87:=⟨by kernel_rfl,by kernel_rfl,by kernel_rfl⟩
def qwn:List (List Nat×List Nat):=[]
noncomputable def qpx:List Nat->Nat->Option Ans:=qf []
theorem qwo[Lay](es:List Sp)(to:Int)(K:D->Heap->Prop):qo (En Tryz.f87) (fh Tryz.f87 K) (qpx ) qwn 200 [.code []] ⟨qd 0 [.vec 0 es.length 3,I to],v6 es Sp.d⟩ =
 (es.length<=q9->(upd (fun _=>none) 0 (some es.length) 0=some es.length/\0<=qn .i64 (↑es.length:Int) 1/\qn .i64 (↑es.length:Int) 1<(↑es.length:Int))/\upd (fun _=>none) 0 (some es.length) 0=some es.length/\K (D.vec 0 es.length 3) {box:=fun _=>none,nl:=0,hw:=upd (fun _=>none) 0 (some es.length),nt:=1,vw:=upd (upd (fun _=>none) 0 (some (cv es Sp.d))) 0 (some (qa0 (cv es Sp.d) (qn .i64 (↑es.length:Int) 1).toNat (.agg [I (es.getD (qn .i64 (↑es.length:Int) 1).toNat default).frm,I to,.str (es.getD (qn .i64 (↑es.length:Int) 1).toNat default).val]))):Heap}):=by kernel_rfl
theorem e87[Lay](es:List Sp)(to:Int)(h0:es≠[]):Does PP 87 [.vec 0 es.length 3,I to] (v6 es Sp.d) (.vec 0 es.length 3) (v6 (zh es to) Sp.d):=by
 have h0:0<es.length:=List.length_pos_iff.2 h0
 refine du F87 (by kernel_rfl) (of_eq (qwo es to _) fun hl=> ?_)
 rw[bi h0 hl,Int.toNat_natCast]
 refine⟨⟨qb _ _ _,by omega,by omega⟩,qb _ _ _,?_⟩
 exact sv (es':=zh es to) (vn _ _).symm (fun i _=>qc0 (x:=(⟨_,to,_⟩:Sp)) (by omega) i) (Wk.refl _) rfl (ja _ _ _ _)
theorem F85:OkF 85 Tryz.f85:=⟨by kernel_rfl,by kernel_rfl,by kernel_rfl⟩
def qvj:List (List Nat×List Nat):=[]
noncomputable def qm6:List Nat->Nat->Option Ans:=qf []
theorem qwp[Lay](es:List Sp)(frm:Int)(v:Str)(K:D->Heap->Prop):qo (EnV [] [39] Tryz.f85) (fh Tryz.f85 K) (qm6 ) qvj 200 [.code []] ⟨qd 0 [.vec 0 es.length 3,I frm,.str v],v6 es Sp.d⟩ =
 (es.length<=q9 ->
 (decide ((↑es.length:Int) > 0)=true->upd (fun _=>none) 0 (some es.length) 0=some es.length/\0<=qn .i64 (↑es.length:Int) 1/\qn .i64 (↑es.length:Int) 1<(↑es.length:Int)) /\
  (decide ((↑es.length:Int) > 0)=true->upd (fun _=>none) 0 (some es.length) 0=some es.length) /\
   bif bif decide ((↑es.length:Int) > 0) then(es.getD (qn .i64 (↑es.length:Int) 1).toNat default).val==v else false then K (D.vec 0 es.length 3) {box:=fun _=>none,nl:=0,hw:=upd (fun _=>none) 0 (some es.length),nt:=1,vw:=upd (fun _=>none) 0 (some (cv es Sp.d)):Heap} else bif decide ((↑es.length:Int) > 0) then(upd (fun _=>none) 0 (some es.length) 0=some es.length/\0<=qn .i64 (↑es.length:Int) 1/\qn .i64 (↑es.length:Int) 1<(↑es.length:Int))/\upd (fun _=>none) 0 (some es.length) 0=some es.length/\(upd (fun _=>none) 0 (some es.length) 0=some es.length/\(es.length+1) * 32<=jm)/\K (D.vec 0 (es.length+1) 3) {box:=fun _=>none,nl:=0,hw:=upd (upd (fun _=>none) 0 (some es.length)) 0 (some (es.length+1)),nt:=1,vw:=upd (upd (upd (fun _=>none) 0 (some (cv es Sp.d))) 0 (some (qa0 (cv es Sp.d) (qn .i64 (↑es.length:Int) 1).toNat (.agg [I (es.getD (qn .i64 (↑es.length:Int) 1).toNat default).frm,I (qn .i64 frm 1),.str (es.getD (qn .i64 (↑es.length:Int) 1).toNat default).val])))) 0 (some (vy es.length (qa0 (cv es Sp.d) (qn .i64 (↑es.length:Int) 1).toNat (.agg [I (es.getD (qn .i64 (↑es.length:Int) 1).toNat default).frm,I (qn .i64 frm 1),.str (es.getD (qn .i64 (↑es.length:Int) 1).toNat default).val])) (zj [.agg [I frm,I 0,.str v]]))):Heap} else(upd (fun _=>none) 0 (some es.length) 0=some es.length/\(es.length+1) * 32<=jm)/\K (D.vec 0 (es.length+1) 3) {box:=fun _=>none,nl:=0,hw:=upd (upd (fun _=>none) 0 (some es.length)) 0 (some (es.length+1)),nt:=1,vw:=upd (upd (fun _=>none) 0 (some (cv es Sp.d))) 0 (some (vy es.length (cv es Sp.d) (zj [.agg [I frm,I 0,.str v]]))):Heap}):=by kernel_rfl
theorem qvk[Lay](es:List Sp)(frm:Int)(v:Str)(hb:es.length<=100000):qo (EnV [] [39] Tryz.f85) (fh Tryz.f85 fun d h=>RetLe d h (.vec 0 (uq es frm v).length 3) (v6 (uq es frm v) Sp.d)) qm6 qvj 200 [.code []] ⟨qd 0 [.vec 0 es.length 3,I frm,.str v],v6 es Sp.d⟩:=by
 refine of_eq (qwp es frm v _) fun hl=> ?_
 rcases Nat.eq_zero_or_pos es.length with h0|h0
 ·have he:es=[]:=List.length_eq_zero_iff.1 h0
  subst he
  refine⟨fun h=>by simp at h,fun h=>by simp at h,qa (fun h=>by simp at h) fun _=>qa (fun h=>by simp at h) fun _=>⟨⟨qb _ _ _,by unfold jm;simp⟩,?_⟩⟩
  exact sv (es':=[(⟨frm,0,v⟩:Sp)]) rfl (fun i hi=>qad (es:=[]) (x:=(⟨frm,0,v⟩:Sp)) rfl hi) (Wk.refl _) (ja _ _ _ _) (ja _ _ _ _)
 ·have he:es≠[]:=List.length_pos_iff.1 h0
  rw[bi h0 hl,Int.toNat_natCast]
  have hin:(0:Int)<=((es.length-1:Nat):Int)/\((es.length-1:Nat):Int)<(es.length:Int):=⟨by omega,by omega⟩
  have hd:decide ((es.length:Int) > 0)=true:=by simpa using h0
  refine⟨fun _=>⟨qb _ _ _,hin⟩,fun _=>qb _ _ _,?_⟩
  simp only[hd,cond_true]
  refine qa (fun hv=> ?_) fun hv=>⟨⟨qb _ _ _,hin⟩,qb _ _ _,⟨qb _ _ _,by unfold jm;omega⟩,?_⟩
  ·have hv:(es.getD (es.length-1) default).val=v:=by simpa using hv
   rw[uq,if_neg he,if_pos hv]
   exact RetLe.refl _ _
  ·have hv:¬ (es.getD (es.length-1) default).val=v:=by simpa using hv
   rw[uq,if_neg he,if_neg hv]
   refine sv (n:=es.length+1) (es':=zh es (qn .i64 frm 1)++[⟨frm,0,v⟩]) (by rw[List.length_append,vn];rfl) (fun i hi=> ?_) (Wk.of_eq (show D.vec 0 (es.length+1) 3=D.vec 0 (zh es (qn .i64 frm 1)++[(⟨frm,0,v⟩:Sp)]).length 3 by rw[List.length_append,vn];rfl)) (ja _ _ _ _) ((ja _ _ _ _).trans (ja _ _ _ _))
   rw[show qa0 (cv es Sp.d) (es.length-1) (.agg [I (es.getD (es.length-1) default).frm,I (qn .i64 frm 1),.str (es.getD (es.length-1) default).val])=cv (zh es (qn .i64 frm 1)) Sp.d from funext fun i=>qc0 (x:=(⟨_,qn .i64 frm 1,_⟩:Sp)) (by omega) i]
   exact qad (x:=(⟨frm,0,v⟩:Sp)) (vn _ _).symm (by simpa[vn] using hi)
theorem e85[Lay](es:List Sp)(frm:Int)(v:Str)(hb:es.length<=100000):Does PP 85 [.vec 0 es.length 3,I frm,.str v] (v6 es Sp.d) (.vec 0 (uq es frm v).length 3) (v6 (uq es frm v) Sp.d):=du F85 (by kernel_rfl) (qvk es frm v hb)
theorem qpy[Lay](frm:Int)(v:Str):Does PP 85 [.list 0 0 (fun _=> .junk) .full,I frm,.str v] .empty (.vec 0 1 3) (v6 [⟨frm,0,v⟩] Sp.d) :=
 duA F85 (by kernel_rfl) (jg (st':=⟨qd 0 [.vec 0 0 3,I frm,.str v],v6 ([]:List Sp) Sp.d⟩) (qe jt _ _ _ (qvk [] frm v (by simp))) ((StLe.idle _ (some (cv ([]:List Sp) Sp.d)) 0 3 (fun _=> .junk) rfl).cast (by kernel_rfl)))
theorem F14:OkF 14 Tryz.f14:=⟨by kernel_rfl,by kernel_rfl,by kernel_rfl⟩
def qwq:List (List Nat×List Nat):=[]
noncomputable def qpz:List Nat->Nat->Option Ans:=qf []
theorem qwr[Lay](w:Wv)(K:D->Heap->Prop):qo (EnX [5] Tryz.f14) (fh Tryz.f14 K) (qpz ) qwq 200 [.code []] ⟨qd 0 [w.d],.empty⟩ =
 (True/\K (D.bp 0 0) {box:=upd (fun _=>none) 0 (some (Row.lit [L w.sig 3 Sig.d,L w.gap 2 Iv.d,I w.fin,I (-1),I 0])),nl:=1,hw:=fun _=>none,nt:=0,vw:=fun _=>none:Heap}):=by kernel_rfl
theorem e14[Lay](w:Wv):Does PP 14 [w.d] .empty (.bp 0 0) (hM w (-1) 0) :=
 du F14 (by kernel_rfl) (of_eq (qwr w _) ⟨trivial,RetLe.refl _ _⟩)
end Go.Proofs.YtiekphbkomddfaaGreatDoor.S1
namespace Go.Proofs.YtiekphbkomddfaaGreatDoor.S1
open Go Go.Ab Go.Proofs
abbrev qj(w:Wv)(sig:Int):Sig:=w.sig.getD sig.toNat default
theorem pg{w:Wv}{lim c sig:Int}(h:(jn w lim c sig !=0)=false):(lim>=0->qh .i64 c 1<=lim)/\0<=sig/\sig<(w.sig.length:Int):=by
 have h:jn w lim c sig=0:=by simpa using h
 unfold jn at h
 cases h1:(bif decide (lim>=0) then decide (qh .i64 c 1 > lim) else false) with
 |true=>rw[h1]at h;simp at h
 |false =>
  rw[h1]at h
  simp only[cond_false]at h
  cases h2:(bif decide (sig<0) then true else decide (sig>=(w.sig.length:Int))) with
  |true=>rw[h2]at h;simp at h
  |false =>
   refine⟨fun hl=> ?_,?_⟩
   ·have:decide (lim>=0)=true:=by simpa using hl
    rw[this]at h1
    simpa using h1
   ·by_cases hs:sig<0
    ·rw[show decide (sig<0)=true by simpa using hs]at h2;cases h2
    ·rw[show decide (sig<0)=false by simpa using hs]at h2
     simp at h2;omega
def qr(w:Wv)(lim c sig:Int):Int×Int×Int:=if jn w lim c sig=0 then((qj w sig).kind,(qj w sig).width,0) else(0,0,jn w lim c sig)
theorem qws:OkF 206 Tryz.f206:=⟨by kernel_rfl,by kernel_rfl,by kernel_rfl⟩
def qp0:List (List Nat×List Nat):=[]
noncomputable def qm7(w:Wv)(lim:Int)(c:Int)(sig:Int):List Nat->Nat->Option Ans:=qf [([1,0,0],2,Ans.eff (I (jn w lim c sig)) (hM w lim (qh .i64 c 1)))]
theorem qp1[Lay](w:Wv)(lim c sig:Int)(K:D->Heap->Prop):qo (En Tryz.f206) (fh Tryz.f206 K) (qm7 w lim c sig) qp0 200 [.code []] ⟨qd 0 [.bp 0 0,I sig],hM w lim c⟩ =
 (Does PP 210 [D.bp 0 0,I sig] {box:=upd (fun _=>none) 0 (some (Row.lit [L w.sig 3 Sig.d,L w.gap 2 Iv.d,I w.fin,I lim,I c])),nl:=1,hw:=fun _=>none,nt:=0,vw:=fun _=>none:Heap} (I (jn w lim c sig)) (hM w lim (qh .i64 c 1))/\bif jn w lim c sig !=0 then K (.tup [I 0,I 0,I (jn w lim c sig)]) {box:=upd (fun _=>none) 0 (some (Row.lit [L w.sig 3 Sig.d,L w.gap 2 Iv.d,I w.fin,I lim,I (qh .i64 c 1)])),nl:=1,hw:=fun _=>none,nt:=0,vw:=fun _=>none:Heap} else(0<=sig/\sig<(↑w.sig.length:Int))/\True/\K (.tup [I (w.sig.getD sig.toNat default).kind,I (w.sig.getD sig.toNat default).width,I 0]) {box:=upd (fun _=>none) 0 (some (Row.lit [L w.sig 3 Sig.d,L w.gap 2 Iv.d,I w.fin,I lim,I (qh .i64 c 1)])),nl:=1,hw:=fun _=>none,nt:=0,vw:=fun _=>none:Heap}):=by kernel_rfl
theorem qvl[Lay](w:Wv)(lim c sig:Int):Does PP 206 [.bp 0 0,I sig] (hM w lim c) (.tup [I (qr w lim c sig).1,I (qr w lim c sig).2.1,I (qr w lim c sig).2.2]) (hM w lim (qh .i64 c 1)):=by
 refine du qws (by kernel_rfl) (of_eq (qp1 w lim c sig _) ⟨qo5 _ _ _ _,qa (fun h=> ?_) fun h=>⟨(pg h).2,trivial,?_⟩⟩)
 ·have:¬ jn w lim c sig=0:=by simpa using h
  rw[qr,if_neg this];exact RetLe.refl _ _
 ·have:jn w lim c sig=0:=by simpa using h
  rw[qr,if_pos this];exact RetLe.refl _ _
def vlR(w:Wv)(lim c sig t:Int):Str×Int:=if jn w lim c sig=0 then(if t<0\/t > w.fin then([],2) else(vc (qj w sig) t,0)) else([],jn w lim c sig)
theorem qwt:OkF 208 Tryz.f208:=⟨by kernel_rfl,by kernel_rfl,by kernel_rfl⟩
def qp2:List (List Nat×List Nat):=[]
noncomputable def qwu(w:Wv)(lim:Int)(c:Int)(sig:Int)(t:Int):List Nat->Nat->Option Ans:=qf [([1,0,0],2,Ans.eff (I (jn w lim c sig)) (hM w lim (qh .i64 c 1))),([1,1,1,0],9,Ans.pure [(w.sig.getD sig.toNat default).d,I t] (.str (vc (w.sig.getD sig.toNat default) t)))]
theorem nVl[Lay](w:Wv)(lim c sig t:Int)(K:D->Heap->Prop):qo (En Tryz.f208) (fh Tryz.f208 K) (qwu w lim c sig t) qp2 200 [.code []] ⟨qd 0 [.bp 0 0,I sig,I t],hM w lim c⟩ =
 (Does PP 210 [D.bp 0 0,I sig] {box:=upd (fun _=>none) 0 (some (Row.lit [L w.sig 3 Sig.d,L w.gap 2 Iv.d,I w.fin,I lim,I c])),nl:=1,hw:=fun _=>none,nt:=0,vw:=fun _=>none:Heap} (I (jn w lim c sig)) (hM w lim (qh .i64 c 1))/\bif jn w lim c sig !=0 then K (.tup [.str {data:= #[]:ByteArray}.data.toList,I (jn w lim c sig)]) {box:=upd (fun _=>none) 0 (some (Row.lit [L w.sig 3 Sig.d,L w.gap 2 Iv.d,I w.fin,I lim,I (qh .i64 c 1)])),nl:=1,hw:=fun _=>none,nt:=0,vw:=fun _=>none:Heap} else bif bif decide (t<0) then true else decide (t > w.fin) then K (.tup [.str {data:= #[]:ByteArray}.data.toList,I 2]) {box:=upd (fun _=>none) 0 (some (Row.lit [L w.sig 3 Sig.d,L w.gap 2 Iv.d,I w.fin,I lim,I (qh .i64 c 1)])),nl:=1,hw:=fun _=>none,nt:=0,vw:=fun _=>none:Heap} else(0<=sig/\sig<(↑w.sig.length:Int))/\PureW PP 95 [(w.sig.getD sig.toNat default).d,I t] [(w.sig.getD sig.toNat default).d,I t] (.str (vc (w.sig.getD sig.toNat default) t))/\K (.tup [.str (vc (w.sig.getD sig.toNat default) t),I 0]) {box:=upd (fun _=>none) 0 (some (Row.lit [L w.sig 3 Sig.d,L w.gap 2 Iv.d,I w.fin,I lim,I (qh .i64 c 1)])),nl:=1,hw:=fun _=>none,nt:=0,vw:=fun _=>none:Heap}):=by kernel_rfl
theorem qwv[Lay](w:Wv)(lim c sig t:Int)(hw:(qj w sig).width<=1000000):Does PP 208 [.bp 0 0,I sig,I t] (hM w lim c) (.tup [.str (vlR w lim c sig t).1,I (vlR w lim c sig t).2]) (hM w lim (qh .i64 c 1)):=by
 refine du qwt (by kernel_rfl) (of_eq (nVl w lim c sig t _) ⟨qo5 _ _ _ _,qa (fun h=> ?_) fun h=>qa (fun h2=> ?_) fun h2=>⟨(pg h).2,PureW.mk (c95 _ _ hw),?_⟩⟩)
 ·have:¬ jn w lim c sig=0:=by simpa using h
  rw[vlR,if_neg this];exact RetLe.refl _ _
 ·have:jn w lim c sig=0:=by simpa using h
  have h3:t<0\/t > w.fin:=by
   by_cases h4:t<0
   ·exact .inl h4
   ·rw[show decide (t<0)=false by simpa using h4]at h2;exact .inr (by simpa using h2)
  rw[vlR,if_pos this,if_pos h3];exact RetLe.refl _ _
 ·have:jn w lim c sig=0:=by simpa using h
  have h3:¬ (t<0\/t > w.fin):=by
   intro h4
   rcases h4 with h4|h4
   ·rw[show decide (t<0)=true by simpa using h4]at h2;cases h2
   ·cases h5:decide (t<0) with
    |true=>rw[h5]at h2;cases h2
    |false=>rw[h5]at h2;simp at h2;omega
  rw[vlR,if_pos this,if_neg h3];exact RetLe.refl _ _
def qae(l:List Chg)(t:Int):Option Chg:=l.find? fun x=>decide (x.time > t)
def nxR(w:Wv)(lim c sig t:Int):Chg×Int:=if jn w lim c sig=0 then(if t < -1\/t > w.fin then(default,2) else match qae (qj w sig).chg t with|some x=>(x,0)|none=>(default,6)) else(default,jn w lim c sig)
theorem qww:OkF 207 Tryz.f207:=⟨by kernel_rfl,by kernel_rfl,by kernel_rfl⟩
def qm8:List (List Nat×List Nat):=[([1,1,1,0,1,0],[2,6,38,39,40])]
noncomputable def qwx(w:Wv)(lim:Int)(c:Int)(sig:Int):List Nat->Nat->Option Ans:=qf [([1,0,0],2,Ans.eff (I (jn w lim c sig)) (hM w lim (qh .i64 c 1)))]
theorem nNx[Lay](w:Wv)(lim c sig t:Int)(K:D->Heap->Prop):qo (En Tryz.f207) (fh Tryz.f207 K) (qwx w lim c sig) qm8 200 [.code []] ⟨qd 0 [.bp 0 0,I sig,I t],hM w lim c⟩ =
 (Does PP 210 [D.bp 0 0,I sig] {box:=upd (fun _=>none) 0 (some (Row.lit [L w.sig 3 Sig.d,L w.gap 2 Iv.d,I w.fin,I lim,I c])),nl:=1,hw:=fun _=>none,nt:=0,vw:=fun _=>none:Heap} (I (jn w lim c sig)) (hM w lim (qh .i64 c 1))/\bif jn w lim c sig !=0 then True/\K (.tup [.agg [I 0,.str {data:= #[]:ByteArray}.data.toList],I (jn w lim c sig)]) {box:=upd (fun _=>none) 0 (some (Row.lit [L w.sig 3 Sig.d,L w.gap 2 Iv.d,I w.fin,I lim,I (qh .i64 c 1)])),nl:=1,hw:=fun _=>none,nt:=0,vw:=fun _=>none:Heap} else bif bif decide (t < -1) then true else decide (t > w.fin) then True/\K (.tup [.agg [I 0,.str {data:= #[]:ByteArray}.data.toList],I 2]) {box:=upd (fun _=>none) 0 (some (Row.lit [L w.sig 3 Sig.d,L w.gap 2 Iv.d,I w.fin,I lim,I (qh .i64 c 1)])),nl:=1,hw:=fun _=>none,nt:=0,vw:=fun _=>none:Heap} else(0<=sig/\sig<(↑w.sig.length:Int))/\((w.sig.getD sig.toNat default).chg.length<=q9->At (En Tryz.f207) (fh Tryz.f207 K) [It.code [1,1,1,0,1,0],It.blk 0,It.code [1,1,1,1]] {sl:=[(2,I t),(6,.own [I 0,.str {data:= #[]:ByteArray}.data.toList]),(38,L (w.sig.getD sig.toNat default).chg 2 Chg.d),(39,I (↑(w.sig.getD sig.toNat default).chg.length:Int)),(40,I 0)],h:={box:=upd (fun _=>none) 0 (some (Row.lit [L w.sig 3 Sig.d,L w.gap 2 Iv.d,I w.fin,I lim,I (qh .i64 c 1)])),nl:=1,hw:=fun _=>none,nt:=0,vw:=fun _=>none:Heap}:St})):=by kernel_rfl
def SNx(w:Wv)(lim c sig t:Int)(i:Int):St:=⟨[(2,I t),(6,.own [I 0,.str []]),(38,L (w.sig.getD sig.toNat default).chg 2 Chg.d),(39,I (w.sig.getD sig.toNat default).chg.length),(40,I i)],hM w lim c⟩
noncomputable def qp3:List Nat->Nat->Option Ans:=qf []
theorem qwy[Lay](w:Wv)(lim c sig t i:Int)(J:St->Prop)(K:D->Heap->Prop):qo (En Tryz.f207) (fh Tryz.f207 K) (qp3 ) qm8 200 [.code [1,1,1,0,1,0,0],stp [2,6,38,39,40] J,.blk 0,.code [1,1,1,1]] (SNx w lim c sig t i) =
 (bif decide (i<(↑(w.sig.getD sig.toNat default).chg.length:Int)) then(0<=i/\i<(↑(w.sig.getD sig.toNat default).chg.length:Int))/\True/\bif decide (((w.sig.getD sig.toNat default).chg.getD i.toNat default).time > t) then True/\K (.tup [.agg [I ((w.sig.getD sig.toNat default).chg.getD i.toNat default).time,.str ((w.sig.getD sig.toNat default).chg.getD i.toNat default).val],I 0]) {box:=upd (fun _=>none) 0 (some (Row.lit [L w.sig 3 Sig.d,L w.gap 2 Iv.d,I w.fin,I lim,I c])),nl:=1,hw:=fun _=>none,nt:=0,vw:=fun _=>none:Heap} else J {sl:=[(2,I t),(6,.own [I 0,.str []]),(38,L (w.sig.getD sig.toNat default).chg 2 Chg.d),(39,I (↑(w.sig.getD sig.toNat default).chg.length:Int)),(40,I (qh .i64 i 1))],h:={box:=upd (fun _=>none) 0 (some (Row.lit [L w.sig 3 Sig.d,L w.gap 2 Iv.d,I w.fin,I lim,I c])),nl:=1,hw:=fun _=>none,nt:=0,vw:=fun _=>none:Heap}:St} else True/\K (.tup [.agg [I 0,.str {data:= #[]:ByteArray}.data.toList],I 6]) {box:=upd (fun _=>none) 0 (some (Row.lit [L w.sig 3 Sig.d,L w.gap 2 Iv.d,I w.fin,I lim,I c])),nl:=1,hw:=fun _=>none,nt:=0,vw:=fun _=>none:Heap}):=by kernel_rfl
theorem qwz[Lay](w:Wv)(lim c sig t:Int):Does PP 207 [.bp 0 0,I sig,I t] (hM w lim c) (.tup [(nxR w lim c sig t).1.d,I (nxR w lim c sig t).2]) (hM w lim (qh .i64 c 1)):=by
 refine du qww (by kernel_rfl) (of_eq (nNx w lim c sig t _) ⟨qo5 _ _ _ _,qa (fun h=>⟨trivial,?_⟩) fun h=>qa (fun h2=>⟨trivial,?_⟩) fun h2=>⟨(pg h).2,fun hl=> ?_⟩⟩)
 ·have:¬ jn w lim c sig=0:=by simpa using h
  rw[nxR,if_neg this];exact RetLe.refl _ _
 ·have:jn w lim c sig=0:=by simpa using h
  have h3:t < -1\/t > w.fin:=by
   by_cases h4:t < -1
   ·exact .inl h4
   ·rw[show decide (t < -1)=false by simpa using h4]at h2;exact .inr (by simpa using h2)
  rw[nxR,if_pos this,if_pos h3];exact RetLe.refl _ _
 ·have:jn w lim c sig=0:=by simpa using h
  have h3:¬ (t < -1\/t > w.fin):=by
   intro h4
   rcases h4 with h4|h4
   ·rw[show decide (t < -1)=true by simpa using h4]at h2;cases h2
   ·cases h5:decide (t < -1) with
    |true=>rw[h5]at h2;cases h2
    |false=>rw[h5]at h2;simp at h2;omega
  rw[nxR,if_pos this,if_neg h3]
  refine lp (fn:=Tryz.f207) (fun i:Nat=>i<=(qj w sig).chg.length/\qae (qj w sig).chg t=qae ((qj w sig).chg.drop i) t) (fun i=>SNx w lim (qh .i64 c 1) sig t i) (fun i=>(qj w sig).chg.length-i) [2,6,38,39,40] (by kernel_rfl) (fun i hi=>of_eq (qwy w lim _ sig t i _ _) (qa (fun hlt=> ?_) fun hge=> ?_)) 0 ⟨Nat.zero_le _,rfl⟩
  ·have hlt:=ltI hlt
   obtain⟨_,he⟩:=hi
   rw[cn hlt hl,Int.toNat_natCast]
   rw[jr _ _ hlt]at he
   simp only[qae,List.find?_cons]at he
   refine⟨⟨by omega,by omega⟩,trivial,qa (fun h5=>⟨trivial,?_⟩) fun h5=>Nx.mk (i+1) ⟨hlt,?_⟩ (Nat.sub_lt_sub_left hlt (Nat.lt_succ_self i))⟩
   ·rw[h5]at he
    simp only[qae,he]
    exact RetLe.refl _ _
   ·rw[h5]at he
    simp only[qae,he]
  ·have:=geI hge
   rw[hi.2,List.drop_of_length_le this]
   exact⟨trivial,RetLe.refl _ _⟩
end Go.Proofs.YtiekphbkomddfaaGreatDoor.S1
namespace Go.Proofs.YtiekphbkomddfaaGreatDoor.S1
open Go Go.Ab Go.Proofs
theorem bj{α:Type}[Inhabited α](l:List α)(x:α):(l++[x]).getD l.length default=x:=by simp[List.getD]
theorem rp(a:List Sp)(x:Sp)(t:Int):zh (a++[x]) t=a++[⟨x.frm,t,x.val⟩]:=by
 unfold zh
 have:(a++[x]).length-1=a.length:=by simp
 rw[this,bj]
 simp
theorem qf7(a:List Sp)(x:Sp)(frm:Int)(v:Str):uq (a++[x]) frm v=if x.val=v then a++[x] else a++[⟨x.frm,qn .i64 frm 1,x.val⟩]++[⟨frm,0,v⟩]:=by
 unfold uq
 have h1:(a++[x]).length-1=a.length:=by simp
 rw[if_neg (by simp),h1,bj,rp]
theorem qk5(l:List Sp)(frm:Int)(v:Str):uq l frm v≠[]:=by
 unfold uq
 split
 ·simp
 ·split
  ·assumption
  ·simp
theorem qc4(l:List Sp)(frm:Int)(v:Str):(uq l frm v).length<=l.length+1:=by
 unfold uq
 split
 ·simp
 ·split
  ·omega
  ·simp[vn]
def cut(l:List Chg)(frm to:Int):List Chg:=l.filter fun x=>decide (x.time > frm)&&decide (x.time<=to)
def qf8(v:Str)(l:List Chg)(frm to:Int):List Sp:=zh (l.foldl (fun o x=>uq o x.time x.val) [⟨frm,0,v⟩]) to
def Inc:Int->List Chg->Prop
 |_,[]=>True
 |t,x::r=>t<x.time/\Inc x.time r
theorem Inc.mono{s t:Int}(h:s<=t):∀{l:List Chg},Inc t l->Inc s l
 | [],_=>trivial
 |_::_,⟨h1,h2⟩=>⟨by omega,h2⟩
theorem Inc.gt{t:Int}:∀{l:List Chg},Inc t l->∀x∈l,t<x.time
 | [],_,_,h=>by cases h
 |y::r,⟨h1,h2⟩,x,hx=>by
  rcases List.mem_cons.1 hx with rfl|hx
  ·exact h1
  ·have:=Inc.gt h2 x hx;omega
theorem bk:∀(l:List Chg) (v:Str) (t:Int),(∀x∈l,t<x.time)->v8 v l t=v
 | [],_,_,_=>rfl
 |x::l,v,t,h=>by
  rw[j6,decide_eq_false (by have:=h x (List.mem_cons_self ..);omega)]
  exact bk l v t fun y hy=>h y (List.mem_cons_of_mem _ hy)
theorem qaf(v:Str)(a b:List Chg)(t:Int):v8 v (a++b) t=v8 (v8 v a t) b t:=by simp[v8,List.foldl_append]
theorem Inc.split(t:Int):∀{s:Int} {l:List Chg},Inc s l->∃a b,l=a++b/\(∀x∈a,x.time<=t)/\Inc t b
 |_,[],_=>⟨[],[],rfl,fun _ h=>(by cases h),trivial⟩
 |s,x::l,⟨h1,h2⟩=>by
  by_cases h:x.time<=t
  ·obtain⟨a,b,e,ha,hb⟩:=Inc.split t h2
   exact⟨x::a,b,by rw[e];rfl,fun y hy=>by
    rcases List.mem_cons.1 hy with rfl|hy
    ·exact h
    ·exact ha y hy,hb⟩
  ·exact⟨[],x::l,rfl,fun _ h=>(by cases h),⟨by omega,h2⟩⟩
end Go.Proofs.YtiekphbkomddfaaGreatDoor.S1
namespace Go.Proofs.YtiekphbkomddfaaGreatDoor.S1
open Go Go.Ab Go.Proofs
instance {ds:List D}[h:ROs ds]:RO (.ep ds):=⟨h.p⟩
abbrev xk:D:= .iface 36 (.bp 0 0)
abbrev qf9(w:Wv)(lim c:Int):Row:= .lit [L w.sig 3 Sig.d,L w.gap 2 Iv.d,I w.fin,I lim,I c]
def hE(w:Wv)(lim c e:Int):Heap:=⟨upd (upd (fun _=>none) 0 (some (.lit [L w.sig 3 Sig.d,L w.gap 2 Iv.d,I w.fin,I lim,I c]))) 1 (some (.lit [I e])),2,fun _=>none,0,fun _=>none⟩
theorem F86:OkF 86 Tryz.f86:=⟨by kernel_rfl,by kernel_rfl,by kernel_rfl⟩
def qw0:List (List Nat×List Nat):=[([1],[5,6,7,8,9])]
noncomputable def qga:List Nat->Nat->Option Ans:=qf []
theorem qiz[Lay](w:Wv)(lim c e sig frm to:Int)(K:D->Heap->Prop):qo (En Tryz.f86) (fh Tryz.f86 K) (qga ) qw0 200 [.code []] ⟨qd 0 [xk,I sig,I frm,I to,.bp 1 0],hE w lim c e⟩ =
 (At (En Tryz.f86) (fh Tryz.f86 K) [It.code [1]] {sl:=[(5,.own [D.iface 36 (D.bp 0 0)]),(6,.own [I sig]),(7,.own [I frm]),(8,.own [I to]),(9,.own [D.bp 1 0])],h:={box:=upd (upd (fun _=>none) 0 (some (Row.lit [L w.sig 3 Sig.d,L w.gap 2 Iv.d,I w.fin,I lim,I c]))) 1 (some (Row.lit [I e])),nl:=2,hw:=fun _=>none,nt:=0,vw:=fun _=>none:Heap}:St}):=by kernel_rfl
noncomputable def qeo:List Nat->Nat->Option Ans:=qf []
theorem qgb[Lay](w:Wv)(lim c e sig frm to:Int)(K:D->Heap->Prop):qo (En Tryz.f86) (fh Tryz.f86 K) (qeo ) dr 200 [.code [1]] ⟨[(5,.ep [xk]),(6,.ep [I sig]),(7,.ep [I frm]),(8,.ep [I to]),(9,.ep [.bp 1 0])],hE w lim c e⟩ =
 (K (D.clo 129 [D.ep [I frm],D.ep [xk],D.ep [I sig],D.ep [D.bp 1 0],D.ep [I to]]) {box:=upd (upd (fun _=>none) 0 (some (Row.lit [L w.sig 3 Sig.d,L w.gap 2 Iv.d,I w.fin,I lim,I c]))) 1 (some (Row.lit [I e])),nl:=2,hw:=fun _=>none,nt:=0,vw:=fun _=>none:Heap}):=by kernel_rfl
theorem e86[Lay](w:Wv)(lim c e sig frm to:Int):Does PP 86 [.iface 36 (.bp 0 0),I sig,I frm,I to,.bp 1 0] (hE w lim c e) (.clo 129 [.ep [I frm],.ep [xk],.ep [I sig],.ep [.bp 1 0],.ep [I to]]) (hE w lim c e):=by
 refine du F86 (by kernel_rfl) (of_eq (qiz w lim c e sig frm to _) ?_)
 refine jg (qe jt _ _ _ (of_eq (qgb w lim c e sig frm to _) (RetLe.refl _ _))) ?_
 exact((((StLe.layOwn 5 rfl (by kernel_rfl)).trans (StLe.layOwn 6 rfl (by kernel_rfl))).trans (StLe.layOwn 7 rfl (by kernel_rfl))).trans (StLe.layOwn 8 rfl (by kernel_rfl))).trans (StLe.layOwn 9 rfl (by kernel_rfl))
def hO(w:Wv)(lim c e:Int)(out:List Sp)(q:ef):Heap :=
 ⟨upd (upd (upd (upd (fun _=>none) 0 (some (qf9 w lim c))) 1 (some (.lit [I e]))) 2 (some (.lit [.vec 0 out.length 3]))) 3 (some (.loop q none)),4,
  upd (fun _=>none) 0 (some out.length),1,upd (fun _=>none) 0 (some (cv out Sp.d))⟩
def hT3(w:Wv)(lim c e:Int)(out:List Sp):Heap :=
 ⟨upd (upd (upd (fun _=>none) 0 (some (qf9 w lim c))) 1 (some (.lit [I e]))) 2 (some (.lit [.vec 0 out.length 3])),4,upd (fun _=>none) 0 (some out.length),1,upd (fun _=>none) 0 (some (cv out Sp.d))⟩
theorem qj4{w:Wv}{lim c e:Int}{out:List Sp}{q:ef}:qa2 (hO w lim c e out q) 3=hT3 w lim c e out:=by
 have:upd (hO w lim c e out q).box 3 none=(hT3 w lim c e out).box:=by
  funext k;rcases k with _|_|_|_|k <;> rfl
 unfold qa2
 rw[this];rfl
theorem qw1:OkF 129 Tryz.f129:=⟨by kernel_rfl,by kernel_rfl,by kernel_rfl⟩
def qk6:List (List Nat×List Nat):=[([1,0],[0,2,3,4,5,7])]
noncomputable def qw2:List Nat->Nat->Option Ans:=qf []
theorem nIt[Lay](w:Wv)(lim c e:Int)(out:List Sp)(q:ef)(sig frm to:Int)(K:D->Heap->Prop):qo (En Tryz.f129) (fh Tryz.f129 K) (qw2 ) qk6 200 [.code []] ⟨qd 0 [.yl 3,.ep [I frm],.ep [xk],.ep [I sig],.ep [.bp 1 0],.ep [I to]],hO w lim c e out q⟩ =
 (At (En Tryz.f129) (fh Tryz.f129 K) [It.code [1,0],It.blk 0] {sl:=[(0,D.yl 3),(2,D.ep [xk]),(3,D.ep [I sig]),(4,D.ep [D.bp 1 0]),(5,D.ep [I to]),(7,I frm)],h:={box:=upd (upd (upd (upd (fun _=>none) 0 (some (Row.lit [L w.sig 3 Sig.d,L w.gap 2 Iv.d,I w.fin,I lim,I c]))) 1 (some (Row.lit [I e]))) 2 (some (Row.lit [D.vec 0 out.length 3]))) 3 (some (Row.loop q none)),nl:=4,hw:=upd (fun _=>none) 0 (some out.length),nt:=1,vw:=upd (fun _=>none) 0 (some (cv out Sp.d)):Heap}:St}):=by kernel_rfl
def SIt(w:Wv)(lim c e:Int)(out:List Sp)(q:ef)(sig to t:Int):St:=⟨[(0,.yl 3),(2,.ep [xk]),(3,.ep [I sig]),(4,.ep [.bp 1 0]),(5,.ep [I to]),(7,I t)],hO w lim c e out q⟩
noncomputable def qp4(w:Wv)(lim:Int)(c:Int)(e:Int)(out:List Sp)(q:ef)(sig:Int)(t:Int):List Nat->Nat->Option Ans:=qf [([1,0,0,0,0],3,Ans.eff (ren (rnm [0] 4) (rnm [] 1) (.tup [(nxR w lim c sig t).fst.d,I (nxR w lim c sig t).snd])) (qg [0] [] {box:=upd (upd (upd (upd (fun _=>none) 0 (some (Row.lit [L w.sig 3 Sig.d,L w.gap 2 Iv.d,I w.fin,I lim,I c]))) 1 (some (Row.lit [I e]))) 2 (some (Row.lit [D.vec 0 out.length 3]))) 3 (some (Row.loop q none)),nl:=4,hw:=upd (fun _=>none) 0 (some out.length),nt:=1,vw:=upd (fun _=>none) 0 (some (cv out Sp.d)):Heap} (hM w lim (qh .i64 c 1))))]
theorem qw3[Lay](w:Wv)(lim c e:Int)(out:List Sp)(q:ef)(sig to t:Int)(J:St->Prop)(K:D->Heap->Prop):qo (En Tryz.f129) (fh Tryz.f129 K) (qp4 w lim c e out q sig t) qk6 200 [.code [1,0,0],stp [0,2,3,4,5,7] J,.blk 0] (SIt w lim c e out q sig to t) =
 (Does PP 207 [D.bp 0 0,I sig,I t] {box:=upd (upd (upd (upd (fun _=>none) 0 (some (Row.lit [L w.sig 3 Sig.d,L w.gap 2 Iv.d,I w.fin,I lim,I c]))) 1 (some (Row.lit [I e]))) 2 (some (Row.lit [D.vec 0 out.length 3]))) 3 (some (Row.loop q none)),nl:=4,hw:=upd (fun _=>none) 0 (some out.length),nt:=1,vw:=upd (fun _=>none) 0 (some (cv out Sp.d)):Heap} (ren (rnm [0] 4) (rnm [] 1) (.tup [(nxR w lim c sig t).fst.d,I (nxR w lim c sig t).snd])) (qg [0] [] {box:=upd (upd (upd (upd (fun _=>none) 0 (some (Row.lit [L w.sig 3 Sig.d,L w.gap 2 Iv.d,I w.fin,I lim,I c]))) 1 (some (Row.lit [I e]))) 2 (some (Row.lit [D.vec 0 out.length 3]))) 3 (some (Row.loop q none)),nl:=4,hw:=upd (fun _=>none) 0 (some out.length),nt:=1,vw:=upd (fun _=>none) 0 (some (cv out Sp.d)):Heap} (hM w lim (qh .i64 c 1))) /\
 True /\
  bif(nxR w lim c sig t).snd==6 then K (.tup []) {box:=upd (upd (upd (upd (upd (fun _=>none) 0 (some (Row.lit [L w.sig 3 Sig.d,L w.gap 2 Iv.d,I w.fin,I lim,I c]))) 1 (some (Row.lit [I e]))) 2 (some (Row.lit [D.vec 0 out.length 3]))) 3 (some (Row.loop q none))) 0 (some (Row.lit [L w.sig 3 Sig.d,L w.gap 2 Iv.d,I w.fin,I lim,I (qh .i64 c 1)])),nl:=4,hw:=upd (fun _=>none) 0 (some out.length),nt:=1,vw:=upd (fun _=>none) 0 (some (cv out Sp.d)):Heap}
  else
   bif(nxR w lim c sig t).snd !=0 then True/\K (.tup []) {box:=upd (upd (upd (upd (upd (upd (fun _=>none) 0 (some (Row.lit [L w.sig 3 Sig.d,L w.gap 2 Iv.d,I w.fin,I lim,I c]))) 1 (some (Row.lit [I e]))) 2 (some (Row.lit [D.vec 0 out.length 3]))) 3 (some (Row.loop q none))) 0 (some (Row.lit [L w.sig 3 Sig.d,L w.gap 2 Iv.d,I w.fin,I lim,I (qh .i64 c 1)]))) 1 (some (Row.lit [I (nxR w lim c sig t).snd])),nl:=4,hw:=upd (fun _=>none) 0 (some out.length),nt:=1,vw:=upd (fun _=>none) 0 (some (cv out Sp.d)):Heap}
   else
    bif decide ((nxR w lim c sig t).fst.time<=t) then True/\K (.tup []) {box:=upd (upd (upd (upd (upd (upd (fun _=>none) 0 (some (Row.lit [L w.sig 3 Sig.d,L w.gap 2 Iv.d,I w.fin,I lim,I c]))) 1 (some (Row.lit [I e]))) 2 (some (Row.lit [D.vec 0 out.length 3]))) 3 (some (Row.loop q none))) 0 (some (Row.lit [L w.sig 3 Sig.d,L w.gap 2 Iv.d,I w.fin,I lim,I (qh .i64 c 1)]))) 1 (some (Row.lit [I 12])),nl:=4,hw:=upd (fun _=>none) 0 (some out.length),nt:=1,vw:=upd (fun _=>none) 0 (some (cv out Sp.d)):Heap}
    else
     bif !decide ((nxR w lim c sig t).fst.time > to) then
      CallY PP 3 [.agg [I (nxR w lim c sig t).fst.time,.str (nxR w lim c sig t).fst.val]] {box:=upd (upd (upd (upd (upd (fun _=>none) 0 (some (Row.lit [L w.sig 3 Sig.d,L w.gap 2 Iv.d,I w.fin,I lim,I c]))) 1 (some (Row.lit [I e]))) 2 (some (Row.lit [D.vec 0 out.length 3]))) 3 (some (Row.loop q none))) 0 (some (Row.lit [L w.sig 3 Sig.d,L w.gap 2 Iv.d,I w.fin,I lim,I (qh .i64 c 1)])),nl:=4,hw:=upd (fun _=>none) 0 (some out.length),nt:=1,vw:=upd (fun _=>none) 0 (some (cv out Sp.d)):Heap} fun v h' =>
       At (En Tryz.f129) (fh Tryz.f129 K) [It.ops [1,0,0,0,1,0,0,1,1,1,1,1,1,0] 8,It.code [1,0,0,0,1,0,0,1,1,1,1,1,1,1],It.blk 2,It.code [1,0,0,0,1,1],It.blk 1,stp [0,2,3,4,5,7] J,It.blk 0] {sl:=[(42,bif ks (D.may 4 false v) 42 then D.junk else D.may 4 false v),(41,D.may 4 false (.agg [I (nxR w lim c sig t).fst.time,.str (nxR w lim c sig t).fst.val])),(40,D.may 4 false (D.yl 3)),(39,B (decide ((nxR w lim c sig t).fst.time > to))),(38,B (decide ((nxR w lim c sig t).fst.time > to))),(37,I to),(36,I (nxR w lim c sig t).fst.time),(35,D.lp 8 0),(27,B (decide ((nxR w lim c sig t).fst.time<=t))),(31,B (decide ((nxR w lim c sig t).fst.time<=t))),(30,I t),(29,I (nxR w lim c sig t).fst.time),(21,B ((nxR w lim c sig t).snd !=0)),(23,B ((nxR w lim c sig t).snd !=0)),(22,I (nxR w lim c sig t).snd),(18,B ((nxR w lim c sig t).snd==6)),(20,B ((nxR w lim c sig t).snd==6)),(19,I (nxR w lim c sig t).snd),(9,I (nxR w lim c sig t).snd),(8,.own [I (nxR w lim c sig t).fst.time,.str (nxR w lim c sig t).fst.val]),(17,I (nxR w lim c sig t).snd),(16,.agg [I (nxR w lim c sig t).fst.time,.str (nxR w lim c sig t).fst.val]),(11,.tup [.agg [I (nxR w lim c sig t).fst.time,.str (nxR w lim c sig t).fst.val],I (nxR w lim c sig t).snd]),(15,.tup [.agg [I (nxR w lim c sig t).fst.time,.str (nxR w lim c sig t).fst.val],I (nxR w lim c sig t).snd]),(14,I t),(13,I sig),(12,D.iface 36 (D.bp 0 0)),(0,D.yl 3),(2,D.ep [xk]),(3,D.ep [I sig]),(4,D.ep [D.bp 1 0]),(5,D.ep [I to]),(7,I t)],h:=h':St}
     else bif bif decide ((nxR w lim c sig t).fst.time > to) then true else false then K (.tup []) {box:=upd (upd (upd (upd (upd (fun _=>none) 0 (some (Row.lit [L w.sig 3 Sig.d,L w.gap 2 Iv.d,I w.fin,I lim,I c]))) 1 (some (Row.lit [I e]))) 2 (some (Row.lit [D.vec 0 out.length 3]))) 3 (some (Row.loop q none))) 0 (some (Row.lit [L w.sig 3 Sig.d,L w.gap 2 Iv.d,I w.fin,I lim,I (qh .i64 c 1)])),nl:=4,hw:=upd (fun _=>none) 0 (some out.length),nt:=1,vw:=upd (fun _=>none) 0 (some (cv out Sp.d)):Heap} else J {sl:=[(0,D.yl 3),(2,D.ep [xk]),(3,D.ep [I sig]),(4,D.ep [D.bp 1 0]),(5,D.ep [I to]),(7,I (nxR w lim c sig t).fst.time)],h:={box:=upd (upd (upd (upd (upd (fun _=>none) 0 (some (Row.lit [L w.sig 3 Sig.d,L w.gap 2 Iv.d,I w.fin,I lim,I c]))) 1 (some (Row.lit [I e]))) 2 (some (Row.lit [D.vec 0 out.length 3]))) 3 (some (Row.loop q none))) 0 (some (Row.lit [L w.sig 3 Sig.d,L w.gap 2 Iv.d,I w.fin,I lim,I (qh .i64 c 1)])),nl:=4,hw:=upd (fun _=>none) 0 (some out.length),nt:=1,vw:=upd (fun _=>none) 0 (some (cv out Sp.d)):Heap}:St}):=by kernel_rfl
noncomputable def qp5:List Nat->Nat->Option Ans:=qf []
theorem qw4[Lay](h:Heap)(x:Chg)(f sig to t:Int)(J:St->Prop)(K:D->Heap->Prop):qo (En Tryz.f129) (fh Tryz.f129 K) (qp5 ) qk6 200 [.ops [1,0,0,0,1,0,0,1,1,1,1,1,1,0] 8,.code [1,0,0,0,1,0,0,1,1,1,1,1,1,1],.blk 2,.code [1,0,0,0,1,1],.blk 1,stp [0,2,3,4,5,7] J,.blk 0] ⟨[(42,.may 4 false (B true)),(41,.may 4 false (.agg [I x.time,.str x.val])),(40,.may 4 false (.yl 3)),(39,B (decide (x.time > to))),(38,B (decide (x.time > to))),(37,I to),(36,I x.time),(35,.lp 8 0),(27,B (decide (x.time<=t))),(31,B (decide (x.time<=t))),(30,I t),(29,I x.time),(21,B (f !=0)),(23,B (f !=0)),(22,I f),(18,B (f==6)),(20,B (f==6)),(19,I f),(9,I f),(8,.own [I x.time,.str x.val]),(17,I f),(16,.agg [I x.time,.str x.val]),(11,.tup [.agg [I x.time,.str x.val],I f]),(15,.tup [.agg [I x.time,.str x.val],I f]),(14,I t),(13,I sig),(12,.iface 36 (.bp 0 0)),(0,.yl 3),(2,.ep [xk]),(3,.ep [I sig]),(4,.ep [.bp 1 0]),(5,.ep [I to]),(7,I t)],h⟩ =
 (bif bif decide (x.time > to) then true else false then K (.tup []) h else J {sl:=[(0,D.yl 3),(2,D.ep [xk]),(3,D.ep [I sig]),(4,D.ep [D.bp 1 0]),(5,D.ep [I to]),(7,I x.time)],h:=h:St}):=by kernel_rfl
def qhy(lim c:Int):Bool:=bif decide (lim>=0) then decide (qh .i64 c 1 > lim) else false
def itR(lim to:Int):List Chg->Int->List Sp->List Sp×Int×Int
 | [],c,out=>(out,qh .i64 c 1,bif qhy lim c then 14 else 0)
 |x::cs,c,out=>bif qhy lim c then(out,qh .i64 c 1,14) else bif decide (x.time > to) then(out,qh .i64 c 1,0) else itR lim to cs (qh .i64 c 1) (uq out x.time x.val)
theorem qo6{w:Wv}{lim c c' e:Int}{out:List Sp}{q:ef}:(⟨upd (hO w lim c e out q).box 0 (some (qf9 w lim c')),4,(hO w lim c e out q).hw,1,(hO w lim c e out q).vw⟩:Heap)=hO w lim c' e out q:=by
 have:upd (hO w lim c e out q).box 0 (some (qf9 w lim c'))=(hO w lim c' e out q).box:=by
  funext k;rcases k with _|_|_|_|k <;> rfl
 rw[this];rfl
theorem qw5{w:Wv}{lim c e e':Int}{out:List Sp}{q:ef}:(⟨upd (hO w lim c e out q).box 1 (some (.lit [I e'])),4,(hO w lim c e out q).hw,1,(hO w lim c e out q).vw⟩:Heap)=hO w lim c e' out q:=by
 have:upd (hO w lim c e out q).box 1 (some (.lit [I e']))=(hO w lim c e' out q).box:=by
  funext k;rcases k with _|_|_|_|k <;> rfl
 rw[this];rfl
theorem qc5{w:Wv}{lim c sig:Int}(h:0<=sig/\sig<(w.sig.length:Int)):jn w lim c sig=bif qhy lim c then 14 else 0:=by
 unfold jn qhy
 rw[decide_eq_false (show ¬ sig<0 by omega),decide_eq_false (show ¬ sig>=(w.sig.length:Int) by omega)]
 rfl
theorem qgc{a b:List Chg}{t:Int}(ha:∀x∈a,x.time<=t)(hb:Inc t b):qae (a++b) t=b.head? :=by
 unfold qae
 rw[List.find?_append,List.find?_eq_none.2 fun x hx=>by have:=ha x hx;simp;omega]
 cases b with
 |nil=>rfl
 |cons x r=>simp[hb.1]
theorem qm9{w:Wv}{lim c sig t:Int}(h:0<=sig/\sig<(w.sig.length:Int))(ht : -1<=t/\t<=w.fin){a b:List Chg}(e:(qj w sig).chg=a++b)(ha:∀x∈a,x.time<=t)(hb:Inc t b) :
  nxR w lim c sig t=bif qhy lim c then(default,(14:Int)) else match b with|x::_=>(x,(0:Int)) | []=>(default,(6:Int)):=by
 unfold nxR
 rw[qc5 h]
 cases hv:qhy lim c with
 |true=>rfl
 |false =>
  simp only[cond_false,if_true]
  rw[if_neg (by omega),e,qgc ha hb]
  cases b <;> rfl
theorem qna[Lay](w:Wv)(lim:Int)(q:ef)(sig frm to:Int)(hs:0<=sig/\sig<(w.sig.length:Int))(hf:0<=frm)(hft:frm<=to)(ht:to<=w.fin){a b:List Chg}(e:(qj w sig).chg=a++b)(ha:∀x∈a,x.time<=frm)(hb:Inc frm b)
  (hy:∀(c:Int) (out:List Sp) (x:Chg) (K:D->Heap->Prop),out.length<=1000->K (.bool true) (hO w lim c 0 (uq out x.time x.val) q)->CallY PP 3 [x.d] (hO w lim c 0 out q) K) (c:Int) (out:List Sp) (hl:out.length+b.length<=1000) :
  CallA PP 129 [.yl 3,.ep [I frm],.ep [xk],.ep [I sig],.ep [.bp 1 0],.ep [I to]] (hO w lim c 0 out q) fun _ h=>h=hO w lim (itR lim to b c out).2.1 (itR lim to b c out).2.2 (itR lim to b c out).1 q:=by
 have o:=qw1
 refine yo jt o.hf o.hb o.hn (by kernel_rfl) (of_eq (nIt w lim c 0 out q sig frm to _) ?_)
 refine lp (fn:=Tryz.f129) (fun z:Int×List Chg×List Chg×Int×List Sp=>0<=z.1/\z.1<=to/\(qj w sig).chg=z.2.1++z.2.2.1/\(∀x∈z.2.1,x.time<=z.1)/\Inc z.1 z.2.2.1/\z.2.2.2.2.length+z.2.2.1.length<=1000/\itR lim to b c out=itR lim to z.2.2.1 z.2.2.2.1 z.2.2.2.2)
  (fun z=>SIt w lim z.2.2.2.1 0 z.2.2.2.2 q sig to z.1) (fun z=>z.2.2.1.length) [0,2,3,4,5,7] (by kernel_rfl) (fun z hz=>of_eq (qw3 w lim z.2.2.2.1 0 z.2.2.2.2 q sig to z.1 _ _) ?_) (frm,a,b,c,out) ⟨hf,hft,e,ha,hb,hl,rfl⟩
 obtain⟨t,a,b',c',out'⟩:=z
 obtain⟨h1,h2,h3,h4,h5,h6,h7⟩:=hz
 simp only at h1 h2 h3 h4 h5 h6 h7⊢
 rw[h7]
 have hn:=qm9 (lim:=lim) (c:=c') hs ⟨by omega,by omega⟩ h3 h4 h5
 refine⟨fr (qwz w lim c' sig t) [0] [],trivial,?_⟩
 rw[hn]
 cases hv:qhy lim c' with
 |true =>
  simp only[cond_true]
  refine⟨trivial,?_⟩
  have:itR lim to b' c' out'=(out',qh .i64 c' 1,14):=by cases b' <;> simp only[itR,hv,cond_true]
  rw[this]
  exact(congrArg (fun h:Heap=>(⟨upd h.box 1 (some (.lit [I 14])),4,h.hw,1,h.vw⟩:Heap)) (qo6 (c':=qh .i64 c' 1))).trans qw5
 |false =>
  simp only[cond_false]
  cases b' with
  |nil =>
   simp only[itR,hv,cond_false]
   exact qo6
  |cons x cs =>
   obtain⟨g1,g2⟩:=h5
   refine qa (fun h=>by simp at h) fun _=>qa (fun h=>by simp at h) fun _=>qa (fun h=>by simp at h;omega) fun _=>qa (fun hx=> ?_) fun hx=> ?_
   ·have hx':decide (x.time > to)=false:=by simpa using hx
    have hin:x.time<=to:=by simpa using hx'
    have hit:itR lim to (x::cs) c' out'=itR lim to cs (qh .i64 c' 1) (uq out' x.time x.val):=by simp only[itR,hv,hx',cond_false]
    rw[hit]
    have e0:=qo6 (w:=w) (lim:=lim) (c:=c') (c':=qh .i64 c' 1) (e:=0) (out:=out') (q:=q)
    refine of_eq (congrArg (fun h=>CallY PP 3 [x.d] h _) e0) (hy _ out' x _ (by omega) ?_)
    refine qe jt _ _ _ (of_eq (qw4 (hO w lim (qh .i64 c' 1) 0 (uq out' x.time x.val) q) x 0 sig to t _ _) ?_)
    rw[hx']
    simp only[cond_false]
    refine Nx.mk (x.time,a++[x],cs,qh .i64 c' 1,uq out' x.time x.val) ⟨by omega,hin,by rw[h3];simp,fun y hy=> ?_,g2,?_,?_⟩ (by simp)
    ·rcases List.mem_append.1 hy with h|h
     ·have:=h4 y h;simp only;omega
     ·rw[List.mem_singleton.1 h];exact Int.le_refl _
    ·have:=qc4 out' x.time x.val
     simp only[List.length_cons]at h6⊢;omega
    ·rfl
   ·have hx':decide (x.time > to)=true:=by simpa using hx
    have hit:itR lim to (x::cs) c' out'=(out',qh .i64 c' 1,0):=by simp only[itR,hv,hx',cond_false,cond_true]
    rw[hit,hx']
    exact qo6
end Go.Proofs.YtiekphbkomddfaaGreatDoor.S1
namespace Go.Proofs.YtiekphbkomddfaaGreatDoor.S1
open Go Go.Ab Go.Proofs
theorem F54:OkF 54 Tryz.f54:=⟨by kernel_rfl,by kernel_rfl,by kernel_rfl⟩
abbrev nilL:D:= .list 0 0 (fun _=> .junk) .full
def hS(w:Wv)(lim c e:Int)(out:List Sp):Heap :=
 ⟨upd (upd (upd (fun _=>none) 0 (some (qf9 w lim c))) 1 (some (.lit [I e]))) 2 (some (.lit [.vec 0 out.length 3])),3,upd (fun _=>none) 0 (some out.length),1,upd (fun _=>none) 0 (some (cv out Sp.d))⟩
def lvA:List (List Nat×List Nat):=[([1,0,1],[0,1,2,3,8,9,28])]
def lvB:List (List Nat×List Nat):=[([1,1,1],[0,1,2,3,8,9,10,12])]
def lvC:List (List Nat×List Nat):=[([1,1,1,1],[0,1,2,3,8,9,12])]
def lvD:List (List Nat×List Nat):=[([1,1,1,1,1],[0,1,2,3,8,9,12,13])]
def lvE:List (List Nat×List Nat):=[([1,1,1,1,1,1],[0,1,2,3,8,9,12,13])]
def lvF:List (List Nat×List Nat):=[([1,1,1,1,1,1,1,0,1,0],[3,8,9,12,14,60])]
noncomputable def qp6(w:Wv)(lim:Int)(c:Int):List Nat->Nat->Option Ans:=qf [([1,0,0],10,Ans.eff (I w.fin) (hM w lim c))]
theorem qw6[Lay](w:Wv)(lim c sig frm to:Int)(K:D->Heap->Prop):qo (EnX [12,14] Tryz.f54) (fh Tryz.f54 K) (qp6 w lim c) lvA 200 [.code []] ⟨qd 0 [xk,I sig,I frm,I to],hM w lim c⟩ =
 (bif !bif decide (frm<0) then true else decide (frm > to) then Does PP 205 [D.bp 0 0] {box:=upd (fun _=>none) 0 (some (Row.lit [L w.sig 3 Sig.d,L w.gap 2 Iv.d,I w.fin,I lim,I c])),nl:=1,hw:=fun _=>none,nt:=0,vw:=fun _=>none:Heap} (I w.fin) (hM w lim c)/\At (EnX [12,14] Tryz.f54) (fh Tryz.f54 K) [It.code [1,0,1],It.code [1,1]] {sl:=[(0,xk),(1,I sig),(2,I frm),(3,I to),(8,.own [.list 0 0 (fun _=>D.junk) .full]),(9,.own [I 0]),(28,B (bif bif decide (frm<0) then true else decide (frm > to) then true else decide (to > w.fin)))],h:={box:=upd (fun _=>none) 0 (some (Row.lit [L w.sig 3 Sig.d,L w.gap 2 Iv.d,I w.fin,I lim,I c])),nl:=1,hw:=fun _=>none,nt:=0,vw:=fun _=>none:Heap}:St} else At (EnX [12,14] Tryz.f54) (fh Tryz.f54 K) [It.code [1,0,1],It.code [1,1]] {sl:=[(0,xk),(1,I sig),(2,I frm),(3,I to),(8,.own [.list 0 0 (fun _=>D.junk) .full]),(9,.own [I 0]),(28,B (bif bif decide (frm<0) then true else decide (frm > to) then true else decide (to > w.fin)))],h:={box:=upd (fun _=>none) 0 (some (Row.lit [L w.sig 3 Sig.d,L w.gap 2 Iv.d,I w.fin,I lim,I c])),nl:=1,hw:=fun _=>none,nt:=0,vw:=fun _=>none:Heap}:St}):=by kernel_rfl
noncomputable def qp7(w:Wv)(lim:Int)(c:Int)(sig:Int):List Nat->Nat->Option Ans:=qf [([1,1,0],2,Ans.eff (.tup [I (qr w lim c sig).fst,I (qr w lim c sig).snd.fst,I (qr w lim c sig).snd.snd]) (hM w lim (qh .i64 c 1)))]
theorem qw7[Lay](w:Wv)(lim c sig frm to:Int)(b:Bool)(K:D->Heap->Prop):qo (EnX [12,14] Tryz.f54) (fh Tryz.f54 K) (qp7 w lim c sig) lvB 200 [.code [1,0,1],.code [1,1]] ⟨[(0,xk),(1,I sig),(2,I frm),(3,I to),(8,.own [nilL]),(9,.own [I 0]),(28,B b)],hM w lim c⟩ =
 (bif b then True/\True/\K (.tup [.list 0 0 (fun _=>D.junk) .full,I 2]) {box:=upd (fun _=>none) 0 (some (Row.lit [L w.sig 3 Sig.d,L w.gap 2 Iv.d,I w.fin,I lim,I c])),nl:=1,hw:=fun _=>none,nt:=0,vw:=fun _=>none:Heap} else Does PP 206 [D.bp 0 0,I sig] {box:=upd (fun _=>none) 0 (some (Row.lit [L w.sig 3 Sig.d,L w.gap 2 Iv.d,I w.fin,I lim,I c])),nl:=1,hw:=fun _=>none,nt:=0,vw:=fun _=>none:Heap} (.tup [I (qr w lim c sig).fst,I (qr w lim c sig).snd.fst,I (qr w lim c sig).snd.snd]) (hM w lim (qh .i64 c 1))/\True/\True/\At (EnX [12,14] Tryz.f54) (fh Tryz.f54 K) [It.code [1,1,1]] {sl:=[(0,xk),(1,I sig),(2,I frm),(3,I to),(8,.own [nilL]),(9,.own [I 0]),(10,I (qr w lim c sig).fst),(12,D.bp 1 0)],h:={box:=upd (upd (upd (fun _=>none) 0 (some (Row.lit [L w.sig 3 Sig.d,L w.gap 2 Iv.d,I w.fin,I lim,I (qh .i64 c 1)]))) 1 (some (Row.lit [I 0]))) 1 (some (Row.lit [I (qr w lim c sig).snd.snd])),nl:=2,hw:=fun _=>none,nt:=0,vw:=fun _=>none:Heap}:St}):=by kernel_rfl
noncomputable def qp8:List Nat->Nat->Option Ans:=qf []
theorem qw8[Lay](w:Wv)(lim c e sig frm to kind:Int)(K:D->Heap->Prop):qo (EnX [12,14] Tryz.f54) (fh Tryz.f54 K) (qp8 ) lvC 200 [.code [1,1,1]] ⟨[(0,xk),(1,I sig),(2,I frm),(3,I to),(8,.own [nilL]),(9,.own [I 0]),(10,I kind),(12,.bp 1 0)],hE w lim c e⟩ =
 (bif e !=0 then True/\True/\K (.tup [.list 0 0 (fun _=>D.junk) .full,I e]) {box:=upd (upd (fun _=>none) 0 (some (Row.lit [L w.sig 3 Sig.d,L w.gap 2 Iv.d,I w.fin,I lim,I c]))) 1 (some (Row.lit [I e])),nl:=2,hw:=fun _=>none,nt:=0,vw:=fun _=>none:Heap} else bif kind==3 then True/\True/\K (.tup [.list 0 0 (fun _=>D.junk) .full,I 7]) {box:=upd (upd (fun _=>none) 0 (some (Row.lit [L w.sig 3 Sig.d,L w.gap 2 Iv.d,I w.fin,I lim,I c]))) 1 (some (Row.lit [I e])),nl:=2,hw:=fun _=>none,nt:=0,vw:=fun _=>none:Heap} else At (EnX [12,14] Tryz.f54) (fh Tryz.f54 K) [It.code [1,1,1,1]] {sl:=[(0,xk),(1,I sig),(2,I frm),(3,I to),(8,.own [nilL]),(9,.own [I 0]),(12,D.bp 1 0)],h:={box:=upd (upd (fun _=>none) 0 (some (Row.lit [L w.sig 3 Sig.d,L w.gap 2 Iv.d,I w.fin,I lim,I c]))) 1 (some (Row.lit [I e])),nl:=2,hw:=fun _=>none,nt:=0,vw:=fun _=>none:Heap}:St}):=by kernel_rfl
noncomputable def qp9(w:Wv)(lim:Int)(c:Int)(e:Int)(sig:Int)(frm:Int):List Nat->Nat->Option Ans:=qf [([1,1,1,1,0],3,Ans.eff (ren (rnm [0] 2) (rnm [] 0) (.tup [.str (vlR w lim c sig frm).fst,I (vlR w lim c sig frm).snd])) (qg [0] [] {box:=upd (upd (fun _=>none) 0 (some (Row.lit [L w.sig 3 Sig.d,L w.gap 2 Iv.d,I w.fin,I lim,I c]))) 1 (some (Row.lit [I e])),nl:=2,hw:=fun _=>none,nt:=0,vw:=fun _=>none:Heap} (hM w lim (qh .i64 c 1))))]
theorem qw9[Lay](w:Wv)(lim c e sig frm to:Int)(K:D->Heap->Prop):qo (EnX [12,14] Tryz.f54) (fh Tryz.f54 K) (qp9 w lim c e sig frm) lvD 200 [.code [1,1,1,1]] ⟨[(0,xk),(1,I sig),(2,I frm),(3,I to),(8,.own [nilL]),(9,.own [I 0]),(12,.bp 1 0)],hE w lim c e⟩ =
 (Does PP 208 [D.bp 0 0,I sig,I frm] {box:=upd (upd (fun _=>none) 0 (some (Row.lit [L w.sig 3 Sig.d,L w.gap 2 Iv.d,I w.fin,I lim,I c]))) 1 (some (Row.lit [I e])),nl:=2,hw:=fun _=>none,nt:=0,vw:=fun _=>none:Heap} (ren (rnm [0] 2) (rnm [] 0) (.tup [.str (vlR w lim c sig frm).fst,I (vlR w lim c sig frm).snd])) (qg [0] [] {box:=upd (upd (fun _=>none) 0 (some (Row.lit [L w.sig 3 Sig.d,L w.gap 2 Iv.d,I w.fin,I lim,I c]))) 1 (some (Row.lit [I e])),nl:=2,hw:=fun _=>none,nt:=0,vw:=fun _=>none:Heap} (hM w lim (qh .i64 c 1)))/\True/\At (EnX [12,14] Tryz.f54) (fh Tryz.f54 K) [It.code [1,1,1,1,1]] {sl:=[(0,xk),(1,I sig),(2,I frm),(3,I to),(8,.own [nilL]),(9,.own [I 0]),(12,D.bp 1 0),(13,.str (vlR w lim c sig frm).fst)],h:={box:=upd (upd (upd (upd (fun _=>none) 0 (some (Row.lit [L w.sig 3 Sig.d,L w.gap 2 Iv.d,I w.fin,I lim,I c]))) 1 (some (Row.lit [I e]))) 0 (some (Row.lit [L w.sig 3 Sig.d,L w.gap 2 Iv.d,I w.fin,I lim,I (qh .i64 c 1)]))) 1 (some (Row.lit [I (vlR w lim c sig frm).snd])),nl:=2,hw:=fun _=>none,nt:=0,vw:=fun _=>none:Heap}:St}):=by kernel_rfl
noncomputable def qqa:List Nat->Nat->Option Ans:=qf []
theorem qxa[Lay](w:Wv)(lim c e sig frm to:Int)(v:Str)(K:D->Heap->Prop):qo (EnX [12,14] Tryz.f54) (fh Tryz.f54 K) (qqa ) lvE 200 [.code [1,1,1,1,1]] ⟨[(0,xk),(1,I sig),(2,I frm),(3,I to),(8,.own [nilL]),(9,.own [I 0]),(12,.bp 1 0),(13,.str v)],hE w lim c e⟩ =
 (bif e !=0 then True/\True/\K (.tup [.list 0 0 (fun _=>D.junk) .full,I e]) {box:=upd (upd (fun _=>none) 0 (some (Row.lit [L w.sig 3 Sig.d,L w.gap 2 Iv.d,I w.fin,I lim,I c]))) 1 (some (Row.lit [I e])),nl:=2,hw:=fun _=>none,nt:=0,vw:=fun _=>none:Heap} else At (EnX [12,14] Tryz.f54) (fh Tryz.f54 K) [It.code [1,1,1,1,1,1]] {sl:=[(0,xk),(1,I sig),(2,I frm),(3,I to),(8,.own [nilL]),(9,.own [I 0]),(12,D.bp 1 0),(13,.str v)],h:={box:=upd (upd (fun _=>none) 0 (some (Row.lit [L w.sig 3 Sig.d,L w.gap 2 Iv.d,I w.fin,I lim,I c]))) 1 (some (Row.lit [I e])),nl:=2,hw:=fun _=>none,nt:=0,vw:=fun _=>none:Heap}:St}):=by kernel_rfl
noncomputable def qqb(w:Wv)(lim:Int)(c:Int)(e:Int)(sig:Int)(frm:Int)(to:Int)(v:Str):List Nat->Nat->Option Ans:=qf [([1,1,1,1,1,1,0],2,Ans.eff (ren (rnm [] 2) (rnm [] 0) (D.vec 0 1 3)) (qg [] [] {box:=upd (upd (fun _=>none) 0 (some (Row.lit [L w.sig 3 Sig.d,L w.gap 2 Iv.d,I w.fin,I lim,I c]))) 1 (some (Row.lit [I e])),nl:=2,hw:=fun _=>none,nt:=0,vw:=fun _=>none:Heap} (v6 [{frm:=frm,to:=0,val:=v:Sp}] Sp.d))),([1,1,1,1,1,1,1,0,0],4,Ans.eff (ren (rnm [0,1] 3) (rnm [] 1) (D.clo 129 [D.ep [I frm],D.ep [xk],D.ep [I sig],D.ep [D.bp 1 0],D.ep [I to]])) (qg [0,1] [] {box:=upd (upd (upd (upd (fun _=>none) 0 (some (Row.lit [L w.sig 3 Sig.d,L w.gap 2 Iv.d,I w.fin,I lim,I c]))) 1 (some (Row.lit [I e]))) 2 (some (Row.lit [.list 0 0 (fun _=>D.junk) .full]))) 2 (some (Row.lit [D.vec 0 1 3])),nl:=3,hw:=upd (fun _=>none) 0 (some [{frm:=frm,to:=0,val:=v:Sp}].length),nt:=1,vw:=upd (fun _=>none) 0 (some (cv [{frm:=frm,to:=0,val:=v:Sp}] Sp.d)):Heap} (hE w lim c e)))]
theorem qxb[Lay](w:Wv)(lim c e sig frm to:Int)(v:Str)(K:D->Heap->Prop):qo (EnX [12,14] Tryz.f54) (fh Tryz.f54 K) (qqb w lim c e sig frm to v) lvF 200 [.code [1,1,1,1,1,1]] ⟨[(0,xk),(1,I sig),(2,I frm),(3,I to),(8,.own [nilL]),(9,.own [I 0]),(12,.bp 1 0),(13,.str v)],hE w lim c e⟩ =
 (Does PP 85 [.list 0 0 (fun _=>D.junk) .full,I frm,.str v] {box:=upd (upd (fun _=>none) 0 (some (Row.lit [L w.sig 3 Sig.d,L w.gap 2 Iv.d,I w.fin,I lim,I c]))) 1 (some (Row.lit [I e])),nl:=2,hw:=fun _=>none,nt:=0,vw:=fun _=>none:Heap} (ren (rnm [] 2) (rnm [] 0) (D.vec 0 1 3)) (qg [] [] {box:=upd (upd (fun _=>none) 0 (some (Row.lit [L w.sig 3 Sig.d,L w.gap 2 Iv.d,I w.fin,I lim,I c]))) 1 (some (Row.lit [I e])),nl:=2,hw:=fun _=>none,nt:=0,vw:=fun _=>none:Heap} (v6 [{frm:=frm,to:=0,val:=v:Sp}] Sp.d)) /\
 True /\
  True /\
   Does PP 86 [D.iface 36 (D.bp 0 0),I sig,I frm,I to,D.bp 1 0] {box:=upd (upd (upd (upd (fun _=>none) 0 (some (Row.lit [L w.sig 3 Sig.d,L w.gap 2 Iv.d,I w.fin,I lim,I c]))) 1 (some (Row.lit [I e]))) 2 (some (Row.lit [.list 0 0 (fun _=>D.junk) .full]))) 2 (some (Row.lit [D.vec 0 1 3])),nl:=3,hw:=upd (fun _=>none) 0 (some [{frm:=frm,to:=0,val:=v:Sp}].length),nt:=1,vw:=upd (fun _=>none) 0 (some (cv [{frm:=frm,to:=0,val:=v:Sp}] Sp.d)):Heap} (ren (rnm [0,1] 3) (rnm [] 1) (D.clo 129 [D.ep [I frm],D.ep [xk],D.ep [I sig],D.ep [D.bp 1 0],D.ep [I to]])) (qg [0,1] [] {box:=upd (upd (upd (upd (fun _=>none) 0 (some (Row.lit [L w.sig 3 Sig.d,L w.gap 2 Iv.d,I w.fin,I lim,I c]))) 1 (some (Row.lit [I e]))) 2 (some (Row.lit [.list 0 0 (fun _=>D.junk) .full]))) 2 (some (Row.lit [D.vec 0 1 3])),nl:=3,hw:=upd (fun _=>none) 0 (some [{frm:=frm,to:=0,val:=v:Sp}].length),nt:=1,vw:=upd (fun _=>none) 0 (some (cv [{frm:=frm,to:=0,val:=v:Sp}] Sp.d)):Heap} (hE w lim c e)) /\
    At (EnX [12,14] Tryz.f54) (fh Tryz.f54 K) [It.code [1,1,1,1,1,1,1,0,1,0],It.blk 1,It.code [1,1,1,1,1,1,1,1]] {sl:=[(3,I to),(8,.own [nilL]),(9,.own [I 0]),(12,D.bp 1 0),(14,D.bp 2 0),(60,D.clo 129 [D.ep [I frm],D.ep [D.iface 36 (D.bp 0 0)],D.ep [I sig],D.ep [D.bp 1 0],D.ep [I to]])],h:={box:=upd (upd (upd (upd (upd (upd (fun _=>none) 0 (some (Row.lit [L w.sig 3 Sig.d,L w.gap 2 Iv.d,I w.fin,I lim,I c]))) 1 (some (Row.lit [I e]))) 2 (some (Row.lit [.list 0 0 (fun _=>D.junk) .full]))) 2 (some (Row.lit [D.vec 0 1 3]))) 0 (some (Row.lit [L w.sig 3 Sig.d,L w.gap 2 Iv.d,I w.fin,I lim,I c]))) 1 (some (Row.lit [I e])),nl:=3,hw:=upd (fun _=>none) 0 (some [{frm:=frm,to:=0,val:=v:Sp}].length),nt:=1,vw:=upd (fun _=>none) 0 (some (cv [{frm:=frm,to:=0,val:=v:Sp}] Sp.d)):Heap}:St}):=by kernel_rfl
noncomputable def qqc(w:Wv)(lim:Int)(c:Int)(e:Int)(to:Int)(out:List Sp):List Nat->Nat->Option Ans:=qf [([1,1,1,1,1,1,1,1,1,0],2,Ans.eff (ren (rnm [] 4) (rnm [0] 1) (D.vec 0 out.length 3)) (qg [] [0] {box:=upd (upd (upd (fun _=>none) 0 (some (Row.lit [L w.sig 3 Sig.d,L w.gap 2 Iv.d,I w.fin,I lim,I c]))) 1 (some (Row.lit [I e]))) 2 (some (Row.lit [D.vec 0 out.length 3])),nl:=4,hw:=upd (fun _=>none) 0 (some out.length),nt:=1,vw:=upd (fun _=>none) 0 (some (cv out Sp.d)):Heap} (v6 (zh out to) Sp.d)))]
theorem qxc[Lay](w:Wv)(lim c e to:Int)(out:List Sp)(K:D->Heap->Prop):qo (EnX [12,14] Tryz.f54) (fh Tryz.f54 K) (qqc w lim c e to out) dr 200 [.code [1,1,1,1,1,1,1,1]] ⟨[(3,I to),(8,.own [nilL]),(9,.own [I 0]),(12,.bp 1 0),(14,.bp 2 0)],hT3 w lim c e out⟩ =
 (bif e !=0 then True/\True/\K (.tup [.list 0 0 (fun _=>D.junk) .full,I e]) {box:=upd (upd (upd (fun _=>none) 0 (some (Row.lit [L w.sig 3 Sig.d,L w.gap 2 Iv.d,I w.fin,I lim,I c]))) 1 (some (Row.lit [I e]))) 2 (some (Row.lit [D.vec 0 out.length 3])),nl:=4,hw:=upd (fun _=>none) 0 (some out.length),nt:=1,vw:=upd (fun _=>none) 0 (some (cv out Sp.d)):Heap} else Does PP 87 [D.vec 0 out.length 3,I to] {box:=upd (upd (upd (fun _=>none) 0 (some (Row.lit [L w.sig 3 Sig.d,L w.gap 2 Iv.d,I w.fin,I lim,I c]))) 1 (some (Row.lit [I e]))) 2 (some (Row.lit [D.vec 0 out.length 3])),nl:=4,hw:=upd (fun _=>none) 0 (some out.length),nt:=1,vw:=upd (fun _=>none) 0 (some (cv out Sp.d)):Heap} (ren (rnm [] 4) (rnm [0] 1) (D.vec 0 out.length 3)) (qg [] [0] {box:=upd (upd (upd (fun _=>none) 0 (some (Row.lit [L w.sig 3 Sig.d,L w.gap 2 Iv.d,I w.fin,I lim,I c]))) 1 (some (Row.lit [I e]))) 2 (some (Row.lit [D.vec 0 out.length 3])),nl:=4,hw:=upd (fun _=>none) 0 (some out.length),nt:=1,vw:=upd (fun _=>none) 0 (some (cv out Sp.d)):Heap} (v6 (zh out to) Sp.d))/\True/\True/\K (.tup [D.vec 0 out.length 3,I 0]) {box:=upd (upd (upd (fun _=>none) 0 (some (Row.lit [L w.sig 3 Sig.d,L w.gap 2 Iv.d,I w.fin,I lim,I c]))) 1 (some (Row.lit [I e]))) 2 (some (Row.lit [D.vec 0 out.length 3])),nl:=4,hw:=upd (upd (fun _=>none) 0 (some out.length)) 0 (some (zh out to).length),nt:=1,vw:=upd (upd (fun _=>none) 0 (some (cv out Sp.d))) 0 (some (cv (zh out to) Sp.d)):Heap}):=by kernel_rfl
noncomputable def qnb:List Nat->Nat->Option Ans:=qf []
theorem qqd[Lay](w:Wv)(lim c e:Int)(out:List Sp)(x:Chg)(J:St->Prop)(K:St->Prop):qo (EnX [12,14] Tryz.f54) K (qnb ) dr 200 [.code [1,1,1,1,1,1,1,0,1,0,0],.stop J] ⟨[(14,.bp 2 0),(61,x.d)],hT3 w lim c e out⟩ =
 (True/\J {sl:=[(15,.own [I x.time,.str x.val]),(14,D.bp 2 0),(61,x.d)],h:={box:=upd (upd (upd (fun _=>none) 0 (some (Row.lit [L w.sig 3 Sig.d,L w.gap 2 Iv.d,I w.fin,I lim,I c]))) 1 (some (Row.lit [I e]))) 2 (some (Row.lit [D.vec 0 out.length 3])),nl:=4,hw:=upd (fun _=>none) 0 (some out.length),nt:=1,vw:=upd (fun _=>none) 0 (some (cv out Sp.d)):Heap}:St}):=by kernel_rfl
noncomputable def qqe(w:Wv)(lim:Int)(c:Int)(e:Int)(out:List Sp)(x:Chg):List Nat->Nat->Option Ans:=qf [([1,1,1,1,1,1,1,0,1,0,1,0,0],5,Ans.eff (ren (rnm [] 4) (rnm [0] 1) (D.vec 0 (uq out x.time x.val).length 3)) (qg [] [0] {box:=upd (upd (upd (fun _=>none) 0 (some (Row.lit [L w.sig 3 Sig.d,L w.gap 2 Iv.d,I w.fin,I lim,I c]))) 1 (some (Row.lit [I e]))) 2 (some (Row.lit [D.vec 0 out.length 3])),nl:=4,hw:=upd (fun _=>none) 0 (some out.length),nt:=1,vw:=upd (fun _=>none) 0 (some (cv out Sp.d)):Heap} (v6 (uq out x.time x.val) Sp.d)))]
theorem qxd[Lay](w:Wv)(lim c e:Int)(out:List Sp)(x:Chg)(J:St->Prop)(K:St->Prop):qo (EnX [12,14] Tryz.f54) K (qqe w lim c e out x) dr 200 [.code [1,1,1,1,1,1,1,0,1,0,1],.stop J] ⟨[(14,.bp 2 0),(15,.own [I x.time,.str x.val])],hT3 w lim c e out⟩ =
 (Does PP 85 [D.vec 0 out.length 3,I x.time,.str x.val] {box:=upd (upd (upd (fun _=>none) 0 (some (Row.lit [L w.sig 3 Sig.d,L w.gap 2 Iv.d,I w.fin,I lim,I c]))) 1 (some (Row.lit [I e]))) 2 (some (Row.lit [D.vec 0 out.length 3])),nl:=4,hw:=upd (fun _=>none) 0 (some out.length),nt:=1,vw:=upd (fun _=>none) 0 (some (cv out Sp.d)):Heap} (ren (rnm [] 4) (rnm [0] 1) (D.vec 0 (uq out x.time x.val).length 3)) (qg [] [0] {box:=upd (upd (upd (fun _=>none) 0 (some (Row.lit [L w.sig 3 Sig.d,L w.gap 2 Iv.d,I w.fin,I lim,I c]))) 1 (some (Row.lit [I e]))) 2 (some (Row.lit [D.vec 0 out.length 3])),nl:=4,hw:=upd (fun _=>none) 0 (some out.length),nt:=1,vw:=upd (fun _=>none) 0 (some (cv out Sp.d)):Heap} (v6 (uq out x.time x.val) Sp.d)) /\
 True/\((uq out x.time x.val).length<=q9->bif decide ((↑(uq out x.time x.val).length:Int) > 4096) then False else J {sl:=[(70,B (decide ((↑(uq out x.time x.val).length:Int) > 4096))),(69,I (↑(uq out x.time x.val).length:Int)),(68,D.vec 0 (uq out x.time x.val).length 3),(67,D.vec 0 (uq out x.time x.val).length 3),(66,.str x.val),(64,I x.time),(62,D.vec 0 out.length 3),(14,D.bp 2 0),(15,.own [I x.time,.str x.val])],h:={box:=upd (upd (upd (upd (fun _=>none) 0 (some (Row.lit [L w.sig 3 Sig.d,L w.gap 2 Iv.d,I w.fin,I lim,I c]))) 1 (some (Row.lit [I e]))) 2 (some (Row.lit [D.vec 0 out.length 3]))) 2 (some (Row.lit [D.vec 0 (uq out x.time x.val).length 3])),nl:=4,hw:=upd (upd (fun _=>none) 0 (some out.length)) 0 (some (uq out x.time x.val).length),nt:=1,vw:=upd (upd (fun _=>none) 0 (some (cv out Sp.d))) 0 (some (cv (uq out x.time x.val) Sp.d)):Heap}:St})):=by kernel_rfl
end Go.Proofs.YtiekphbkomddfaaGreatDoor.S1
namespace Go.Proofs.YtiekphbkomddfaaGreatDoor.S1
open Go Go.Ab Go.Proofs
instance {sz:Nat}{get:Nat->D}{own:Own}:RO (.list 0 sz get own):=⟨fun i h=>absurd h (Nat.not_lt_zero i)⟩
def aft(l:List Chg)(t:Int):List Chg:=l.filter fun x=>decide (x.time > t)
theorem Inc.aft{s:Int}{l:List Chg}(h:Inc s l)(t:Int):∃a,l=a++aft l t/\(∀x∈a,x.time<=t)/\Inc t (aft l t):=by
 obtain⟨a,b,rfl,ha,hb⟩:=h.split t
 have h1:S1.aft (a++b) t=b:=by
  unfold S1.aft
  rw[List.filter_append,List.filter_eq_nil_iff.2 (fun x hx=>by have:=ha x hx;simp;omega),List.filter_eq_self.2 (fun x hx=>by have:=hb.gt x hx;simp;omega)];rfl
 rw[h1];exact⟨a,rfl,ha,hb⟩
def ofR(w:Wv)(lim c sig frm to:Int):List Sp×Int×Int :=
 if frm<0\/frm > to\/to > w.fin then([],2,c)
 else if jn w lim c sig≠0 then([],jn w lim c sig,qh .i64 c 1)
 else if(qj w sig).kind=3 then([],7,qh .i64 c 1)
 else if jn w lim (qh .i64 c 1) sig≠0 then([],jn w lim (qh .i64 c 1) sig,qh .i64 (qh .i64 c 1) 1)
 else let r:=itR lim to (aft (qj w sig).chg frm) (qh .i64 (qh .i64 c 1) 1) [⟨frm,0,vc (qj w sig) frm⟩]
  if r.2.2≠0 then([],r.2.2,r.2.1) else(zh r.1 to,0,r.2.1)
def hMn(w:Wv)(lim c:Int):Heap:=⟨upd (fun _=>none) 0 (some (.lit [L w.sig 3 Sig.d,L w.gap 2 Iv.d,I w.fin,I lim,I c])),4,fun _=>none,1,fun _=>none⟩
theorem qc6{w:Wv}{lim c:Int}{h:Heap}(hb:h.box 0=some (qf9 w lim c))(hn:h.nl<=4)(ht:h.nt<=1):HeapLe h (hMn w lim c):=by
 refine⟨fun l row' e=> ?_,hn,fun t n e=>(by cases e),ht,fun t n e=>(by cases e),fun _ _=>rfl⟩
 have e':upd (fun _=>none) 0 (some (qf9 w lim c)) l=some row':=e
 by_cases hl:l=0
 ·subst hl
  rw[qb]at e';cases e'
  exact⟨_,hb,.lit fun _ _ h=>h⟩
 ·rw[qc _ _ hl]at e';cases e'
theorem rq[Lay]{w:Wv}{lim c e:Int}{h:Heap}(hb:h.box 0=some (qf9 w lim c))(hn:h.nl<=4)(ht:h.nt<=1):RetLe (.tup [nilL,I e]) h (.tup [L ([]:List Sp) 3 Sp.d,I e]) (hMn w lim c) :=
 RetLe.of (Wk.tup (Wks.cons Wk.nilL (Wks.refl _))) (qc6 hb hn ht)
theorem qk7[Lay]{w:Wv}{lim c:Int}{out:List Sp}{h:Heap}(hv:h.vw 0=some (cv out Sp.d))(hw:h.hw 0=some out.length)(hb:h.box 0=some (qf9 w lim c))(hn:h.nl<=4)(ht:h.nt<=1) :
  RetLe (.tup [.vec 0 out.length 3,I 0]) h (.tup [L out 3 Sp.d,I 0]) (hMn w lim c) :=
 (RetLe.frz (d:= .tup [.vec 0 out.length 3,I 0]) (t:=0) (n:=out.length) (f:=cv out Sp.d) hv hw (by simp[ul,un])).trans (RetLe.of (Wk.tup (Wks.cons Wk.tokL (Wks.refl _))) (qc6 hb hn ht))
theorem ur{a b:Nat->Option Row}{nl nt:Nat}{hw hw':Nat->Option Nat}{vw vw':Nat->Option (Nat->D)}(h1:∀k,a k=b k)(h2:hw=hw')(h3:vw=vw'):(⟨a,nl,hw,nt,vw⟩:Heap)=⟨b,nl,hw',nt,vw'⟩:=by
 rw[funext h1,h2,h3]
section
variable (w:Wv) (lim sig frm to:Int)
noncomputable abbrev OfE:Env:=EnX [12,14] Tryz.f54
noncomputable abbrev OfK(K:D->Heap->Prop):St->Prop:=fh Tryz.f54 K
abbrev rgP:List Nat:=[1,1,1,1,1,1,1,0,1,0]
noncomputable abbrev OfQ:ef:=up OfE rgP [(14,.bp 2 0)]
theorem OfY[Lay](c:Int)(out:List Sp)(x:Chg)(K:D->Heap->Prop)(hl:out.length<=1000)(hk:K (.bool true) (hO w lim c 0 (uq out x.time x.val) OfQ)):CallY PP 3 [x.d] (hO w lim c 0 out OfQ) K:=by
 refine qix (E:=OfE) (p:=rgP) (sl:=[(14,.bp 2 0)]) (by kernel_rfl) rfl (by kernel_rfl) (by kernel_rfl) ?_
 rw[qj4]
 refine jg (st':=⟨[(14,.bp 2 0),(61,x.d)],hT3 w lim c 0 out⟩) (qe jt _ _ _ (of_eq (qqd w lim c 0 out x _ _) ⟨trivial,?_⟩)) ?_
 ·refine jg (st':=⟨[(14,.bp 2 0),(15,.own [I x.time,.str x.val])],hT3 w lim c 0 out⟩) ?_ (uk _ [14,15] _)
  refine qe jt _ _ _ (of_eq (qxd w lim c 0 out x _ _) ⟨fr (e85 out x.time x.val (by omega)) [] [0],trivial,fun _=>qa (fun h=> ?_) fun _=> ?_⟩)
  ·have:=qc4 out x.time x.val
   simp at h;omega
  ·refine of_eq (congrArg (K (.bool true)) ?_) hk
   refine ur (fun k=> ?_) (ja _ _ _ _) (ja _ _ _ _)
   rcases k with _|_|_|_|k <;> rfl
 ·exact uk _ [14,61] _
variable {w lim sig frm to}
theorem OfH[Lay](c e:Int)(out:List Sp)(ho:out≠[])(K:D->Heap->Prop)(hK:∀d h,RetLe d h (.tup [L (if e≠0 then[] else zh out to) 3 Sp.d,I e]) (hMn w lim c)->K d h) :
  At OfE (OfK K) [.code [1,1,1,1,1,1,1,1]] ⟨[(3,I to),(8,.own [nilL]),(9,.own [I 0]),(12,.bp 1 0),(14,.bp 2 0)],hT3 w lim c e out⟩:=by
 refine qe jt _ _ _ (of_eq (qxc w lim c e to out _) (qa (fun h=>⟨trivial,trivial,hK _ _ ?_⟩) fun h=>⟨fr (e87 out to ho) [] [0],trivial,trivial,hK _ _ ?_⟩))
 ·have:e≠0:=by simpa using h
  rw[if_pos this]
  exact rq rfl (Nat.le_of_ble_eq_true rfl) (Nat.le_of_ble_eq_true rfl)
 ·have:e=0:=by simpa using h
  subst this
  rw[if_neg (by simp)]
  have:=qk7 (w:=w) (lim:=lim) (c:=c) (out:=zh out to) (h:=⟨upd (upd (upd (fun _=>none) 0 (some (qf9 w lim c))) 1 (some (.lit [I 0]))) 2 (some (.lit [.vec 0 out.length 3])),4,upd (upd (fun _=>none) 0 (some out.length)) 0 (some (zh out to).length),1,upd (upd (fun _=>none) 0 (some (cv out Sp.d))) 0 (some (cv (zh out to) Sp.d))⟩) rfl rfl rfl (Nat.le_of_ble_eq_true rfl) (Nat.le_of_ble_eq_true rfl)
  rw[vn]at this
  rw[vn]
  exact this
theorem qj5(lim to:Int):∀(l:List Chg) (c:Int) (out:List Sp),out≠[]->(itR lim to l c out).1≠[]
 | [],_,_,h=>h
 |x::cs,c,out,h=>by
  simp only[itR]
  cases qhy lim c with
  |true=>exact h
  |false =>
   cases decide (x.time > to) with
   |true=>exact h
   |false=>exact qj5 lim to cs _ _ (qk5 _ _ _)
theorem e54[Lay](hq:∀q∈w.sig,q.chg.length<=900/\q.width<=1000000/\Inc (-1) q.chg)(c:Int):Does PP 54 [.iface 36 (.bp 0 0),I sig,I frm,I to] (hM w lim c) (.tup [L (ofR w lim c sig frm to).1 3 Sp.d,I (ofR w lim c sig frm to).2.1]) (hMn w lim (ofR w lim c sig frm to).2.2):=by
 have hin:0<=sig/\sig<(w.sig.length:Int)->qj w sig∈w.sig:=fun h=>by
  have:sig.toNat<w.sig.length:=by omega
  unfold qj
  rw[List.getD_eq_getElem?_getD,List.getElem?_eq_getElem this]
  exact List.getElem_mem this
 have hB:At OfE (OfK fun d h=>RetLe d h (.tup [L (ofR w lim c sig frm to).1 3 Sp.d,I (ofR w lim c sig frm to).2.1]) (hMn w lim (ofR w lim c sig frm to).2.2)) [.code [1,0,1],.code [1,1]]
   ⟨[(0,xk),(1,I sig),(2,I frm),(3,I to),(8,.own [nilL]),(9,.own [I 0]),(28,B (bif bif decide (frm<0) then true else decide (frm > to) then true else decide (to > w.fin)))],hM w lim c⟩:=by
  refine qe jt _ _ _ (of_eq (qw7 w lim c sig frm to _ _) (qa (fun h=>⟨trivial,trivial,?_⟩) fun h=>⟨qvl w lim c sig,trivial,trivial,?_⟩))
  ·have:frm<0\/frm > to\/to > w.fin:=by simpa[or_assoc] using h
   rw[ofR,if_pos this]
   exact rq rfl (Nat.le_of_ble_eq_true rfl) (Nat.le_of_ble_eq_true rfl)
  have hr:¬ (frm<0\/frm > to\/to > w.fin):=by
   intro h2
   have:(bif bif decide (frm<0) then true else decide (frm > to) then true else decide (to > w.fin))=true:=by simpa[or_assoc] using h2
   rw[this]at h;cases h
  rw[ofR,if_neg hr]
  have hr0:0<=frm:=by omega
  have hr1:frm<=to:=by omega
  have hr2:to<=w.fin:=by omega
  refine jg (st':=⟨[(0,xk),(1,I sig),(2,I frm),(3,I to),(8,.own [nilL]),(9,.own [I 0]),(10,I (qr w lim c sig).1),(12,.bp 1 0)],hE w lim (qh .i64 c 1) (qr w lim c sig).2.2⟩) ?_
   (StLe.heap (ur (fun k=>by rcases k with _|_|k <;> rfl) rfl rfl))
  refine qe jt _ _ _ (of_eq (qw8 w lim _ _ sig frm to _ _) (qa (fun h=>⟨trivial,trivial,?_⟩) fun h=>qa (fun h2=>⟨trivial,trivial,?_⟩) fun h2=> ?_))
  ·have h:(qr w lim c sig).2.2≠0:=by simpa using h
   have hc:jn w lim c sig≠0:=fun hc=>h (by rw[qr,if_pos hc])
   have he:(qr w lim c sig).2.2=jn w lim c sig:=by rw[qr,if_neg hc]
   rw[if_pos hc,he]
   exact rq rfl (Nat.le_of_ble_eq_true rfl) (Nat.le_of_ble_eq_true rfl)
  ·have h:(qr w lim c sig).2.2=0:=by simpa using h
   have hc:jn w lim c sig=0:=by
    rcases Classical.em (jn w lim c sig=0) with hc|hc
    ·exact hc
    ·rw[qr,if_neg hc]at h;exact absurd h hc
   rw[qr,if_pos hc]at h2
   have hk:(qj w sig).kind=3:=by simpa using h2
   rw[if_neg (by simpa using hc),if_pos hk]
   exact rq rfl (Nat.le_of_ble_eq_true rfl) (Nat.le_of_ble_eq_true rfl)
  have h:(qr w lim c sig).2.2=0:=by simpa using h
  have hc:jn w lim c sig=0:=by
   rcases Classical.em (jn w lim c sig=0) with hc|hc
   ·exact hc
   ·rw[qr,if_neg hc]at h;exact absurd h hc
  have hsig:=(pg (w:=w) (lim:=lim) (c:=c) (sig:=sig) (by simpa using hc)).2
  obtain⟨q1,q2,q3⟩:=hq _ (hin hsig)
  rw[qr,if_pos hc]at h2
  have hk:¬ (qj w sig).kind=3:=by simpa using h2
  rw[if_neg (by simpa using hc),if_neg hk,h]
  refine qe jt _ _ _ (of_eq (qw9 w lim _ _ sig frm to _) ⟨fr (qwv w lim (qh .i64 c 1) sig frm q2) [0] [],trivial,?_⟩)
  refine jg (st':=⟨[(0,xk),(1,I sig),(2,I frm),(3,I to),(8,.own [nilL]),(9,.own [I 0]),(12,.bp 1 0),(13,.str (vlR w lim (qh .i64 c 1) sig frm).1)],hE w lim (qh .i64 (qh .i64 c 1) 1) (vlR w lim (qh .i64 c 1) sig frm).2⟩) ?_
   (StLe.heap (ur (fun k=>by rcases k with _|_|k <;> rfl) rfl rfl))
  have hnt:¬ (frm<0\/frm > w.fin):=by omega
  refine qe jt _ _ _ (of_eq (qxa w lim _ _ sig frm to _ _) (qa (fun h=>⟨trivial,trivial,?_⟩) fun h=> ?_))
  ·have h:(vlR w lim (qh .i64 c 1) sig frm).2≠0:=by simpa using h
   have hc2:jn w lim (qh .i64 c 1) sig≠0:=fun hc=>h (by rw[vlR,if_pos hc,if_neg hnt])
   have he:(vlR w lim (qh .i64 c 1) sig frm).2=jn w lim (qh .i64 c 1) sig:=by rw[vlR,if_neg hc2]
   rw[if_pos hc2,he]
   exact rq rfl (Nat.le_of_ble_eq_true rfl) (Nat.le_of_ble_eq_true rfl)
  have h:(vlR w lim (qh .i64 c 1) sig frm).2=0:=by simpa using h
  have hc2:jn w lim (qh .i64 c 1) sig=0:=by
   rcases Classical.em (jn w lim (qh .i64 c 1) sig=0) with hc|hc
   ·exact hc
   ·rw[vlR,if_neg hc]at h;exact absurd h hc
  rw[if_neg (by simpa using hc2),h,show(vlR w lim (qh .i64 c 1) sig frm).1=vc (qj w sig) frm by rw[vlR,if_pos hc2,if_neg hnt]]
  generalize qh .i64 (qh .i64 c 1) 1=c2
  generalize vc (qj w sig) frm=v
  refine qe jt _ _ _ (of_eq (qxb w lim c2 0 sig frm to v _) ⟨fr (qpy frm v) [] [],trivial,trivial,fr (e86 w lim c2 0 sig frm to) [0,1] [],?_⟩)
  refine jg (st':=⟨[(3,I to),(8,.own [nilL]),(9,.own [I 0]),(12,.bp 1 0),(14,.bp 2 0),(60,.clo 129 [.ep [I frm],.ep [xk],.ep [I sig],.ep [.bp 1 0],.ep [I to]])],hS w lim c2 0 [⟨frm,0,v⟩]⟩) ?_
   (StLe.heap (ur (fun k=>by rcases k with _|_|_|k <;> rfl) rfl rfl))
  obtain⟨a,e1,e2,e3⟩:=q3.aft frm
  have hlen:(aft (qj w sig).chg frm).length<=900:=Nat.le_trans (List.length_filter_le _ _) q1
  refine qiy (E:=OfE) (p:=rgP) (by kernel_rfl) (f:=129) (caps:=[.ep [I frm],.ep [xk],.ep [I sig],.ep [.bp 1 0],.ep [I to]]) (by kernel_rfl) [14] ?_
  have hit:=qna w lim OfQ sig frm to hsig hr0 hr1 hr2 e1 e2 e3 (OfY w lim) c2 [⟨frm,0,v⟩] (by simp only[List.length_singleton];omega)
  refine CallA.mono hit fun _ h hh=> .inl ?_
  subst hh
  refine⟨rfl,?_⟩
  have hne:=qj5 lim to (aft (qj w sig).chg frm) c2 [⟨frm,0,v⟩] (by simp)
  simp only
  generalize itR lim to (aft (qj w sig).chg frm) c2 [⟨frm,0,v⟩]=r at hne⊢
  have:=OfH (w:=w) (lim:=lim) (to:=to) r.2.1 r.2.2 r.1 hne (fun d h=>RetLe d h (.tup [L (if r.2.2≠0 then([],r.2.2,r.2.1) else(zh r.1 to,0,r.2.1)).1 3 Sp.d,I (if r.2.2≠0 then(([]:List Sp),r.2.2,r.2.1) else(zh r.1 to,0,r.2.1)).2.1]) (hMn w lim (if r.2.2≠0 then(([]:List Sp),r.2.2,r.2.1) else(zh r.1 to,0,r.2.1)).2.2)) (fun d h hr=>by
   by_cases h0:r.2.2≠0
   ·rw[if_pos h0]at hr⊢;exact hr
   ·rw[if_neg h0]at hr⊢
    have:r.2.2=0:=by simpa using h0
    rw[this]at hr;exact hr)
  refine(jg this ?_).it
  show StLe _ ⟨[(3,I to),(8,.own [nilL]),(9,.own [I 0]),(12,.bp 1 0),(14,.bp 2 0),(60,.clo 129 [.ep [I frm],.ep [xk],.ep [I sig],.ep [.bp 1 0],.ep [I to]])],qa2 (hO w lim r.2.1 r.2.2 r.1 OfQ) 3⟩ _
  rw[qj4]
  exact uk _ [3,8,9,12,14] _
 refine du F54 (by kernel_rfl) (of_eq (qw6 w lim c sig frm to _) (qa (fun _=>⟨qvg w lim c,?_⟩) fun _=>hB))
 exact jg hB (StLe.heap (ur (fun k=>by rcases k with _|k <;> rfl) rfl rfl))
end
end Go.Proofs.YtiekphbkomddfaaGreatDoor.S1
namespace Go.Proofs.YtiekphbkomddfaaGreatDoor.S1
open Go Go.Ab Go.Proofs
def okN(p:Option Sp)(x:Sp):Bool:= !(bif decide (x.frm > x.to) then true else match p with|none=>false|some y=>bif x.frm !=qh .i64 y.to 1 then true else x.val==y.val)
def chk:Option Sp->List Sp->Bool
 |_,[]=>true
 |p,x::r=>okN p x&&chk (some x) r
def jj(l:List Sp):Sp:=l.getD (l.length-1) default
def zn(l:List Sp):Bool:= !(bif bif(l.length:Int)==0 then true else decide ((l.getD 0 default).frm<0) then true else decide ((jj l).to > 1099511627776))&&chk none l
def am(l:List Sp):Nat->Option Sp
 |0=>none
 |i+1=>some (l.getD i default)
theorem qxe:OkF 130 Tryz.f130:=⟨by kernel_rfl,by kernel_rfl,by kernel_rfl⟩
def qnc:List (List Nat×List Nat):=[([1,1,0,1,0],[0,25,26,27])]
noncomputable def qk8:List Nat->Nat->Option Ans:=qf []
theorem qnd[Lay](l:List Sp)(K:D->Prop):qo (En Tryz.f130) (fi Tryz.f130 K) (qk8 ) qnc 200 [.code []] ⟨qd 0 [L l 3 Sp.d],.empty⟩ =
 (l.length<=q9->((!(↑l.length:Int)==0)=true->(0:Int)<=0/\0<(↑l.length:Int))/\(((!bif(↑l.length:Int)==0 then true else decide ((l.getD (Int.toNat 0) default).frm<0))=true->l.length<=q9)->((!bif(↑l.length:Int)==0 then true else decide ((l.getD (Int.toNat 0) default).frm<0))=true->0<=qn .i64 (↑l.length:Int) 1/\qn .i64 (↑l.length:Int) 1<(↑l.length:Int))/\bif bif bif(↑l.length:Int)==0 then true else decide ((l.getD (Int.toNat 0) default).frm<0) then true else decide ((l.getD (qn .i64 (↑l.length:Int) 1).toNat default).to > 1099511627776) then K (B false) else l.length<=q9->At (En Tryz.f130) (fi Tryz.f130 K) [It.code [1,1,0,1,0],It.blk 0,It.code [1,1,1]] {sl:=[(0,L l 3 Sp.d),(25,L l 3 Sp.d),(26,I (↑l.length:Int)),(27,I 0)],h:=Heap.empty:St})):=by kernel_rfl
def qj6(l:List Sp)(i:Int):St:=⟨[(0,L l 3 Sp.d),(25,L l 3 Sp.d),(26,I l.length),(27,I i)],.empty⟩
noncomputable def qi0:List Nat->Nat->Option Ans:=qf []
theorem qk9[Lay](l:List Sp)(i:Int)(J:St->Prop)(K:D->Prop):qo (En Tryz.f130) (fi Tryz.f130 K) (qi0 ) qnc 200 [.code [1,1,0,1,0,0],stp [0,25,26,27] J,.blk 0,.code [1,1,1]] (qj6 l i) =
 (bif decide (i<(↑l.length:Int)) then(0<=i/\i<(↑l.length:Int))/\True/\((!decide ((l.getD i.toNat default).frm > (l.getD i.toNat default).to)&&decide (i > 0))=true->0<=qn .i64 i 1/\qn .i64 i 1<(↑l.length:Int))/\((!decide ((l.getD i.toNat default).frm > (l.getD i.toNat default).to)&&decide (i > 0) && !(l.getD i.toNat default).frm !=qh .i64 (l.getD (qn .i64 i 1).toNat default).to 1)=true->0<=qn .i64 i 1/\qn .i64 i 1<(↑l.length:Int))/\bif bif decide ((l.getD i.toNat default).frm > (l.getD i.toNat default).to) then true else bif decide (i > 0) then bif(l.getD i.toNat default).frm !=qh .i64 (l.getD (qn .i64 i 1).toNat default).to 1 then true else(l.getD i.toNat default).val==(l.getD (qn .i64 i 1).toNat default).val else false then K (B false) else J {sl:=[(0,L l 3 Sp.d),(25,L l 3 Sp.d),(26,I (↑l.length:Int)),(27,I (qh .i64 i 1))],h:=Heap.empty:St} else K (B true)):=by kernel_rfl
theorem qxf[Lay](l:List Sp):Pure PP 130 [L l 3 Sp.d] (B (zn l)):=by
 refine pu qxe (by kernel_rfl) (of_eq (qnd l _) fun hl=> ?_)
 have hlast:((!bif(l.length:Int)==0 then true else decide ((l.getD (Int.toNat 0) default).frm<0))=true)->qn .i64 (l.length:Int) 1=((l.length-1:Nat):Int)/\0<l.length:=fun h=>by
  have h0:0<l.length:=by
   rcases Nat.eq_zero_or_pos l.length with h1|h1
   ·rw[h1]at h;simp at h
   ·exact h1
  exact⟨bi h0 hl,h0⟩
 refine⟨fun h=>⟨Int.le_refl _,?_⟩,fun _=>⟨fun h=> ?_,?_⟩⟩
 ·have:(l.length:Int)≠0:=by simpa using h
  omega
 ·obtain⟨e,h0⟩:=hlast h
  rw[e];omega
 have hv:zn l=(!(bif bif(l.length:Int)==0 then true else decide ((l.getD (Int.toNat 0) default).frm<0) then true else decide ((l.getD (qn .i64 (l.length:Int) 1).toNat default).to > 1099511627776))&&chk none l):=by
  cases hb:(bif(l.length:Int)==0 then true else decide ((l.getD (Int.toNat 0) default).frm<0)) with
  |true=>unfold zn;rw[show(bif(l.length:Int)==0 then true else decide ((l.getD 0 default).frm<0))=true from hb];rfl
  |false =>
   obtain⟨e,_⟩:=hlast (by rw[hb];rfl)
   rw[e,Int.toNat_natCast]
   unfold zn jj
   rw[show(bif(l.length:Int)==0 then true else decide ((l.getD 0 default).frm<0))=false from hb]
 rw[hv]
 refine qa (fun h=> ?_) fun h _=> ?_
 ·rw[h];exact Wk.refl _
 rw[h]
 simp only[Bool.not_false,Bool.true_and]
 refine lp (fn:=Tryz.f130) (fun i:Nat=>i<=l.length/\chk none l=chk (am l i) (l.drop i)) (fun i=>qj6 l i) (fun i=>l.length-i) [0,25,26,27] (by kernel_rfl) (fun i hi=>of_eq (qk9 l i _ _) (qa (fun hlt=> ?_) fun hge=> ?_)) 0 ⟨Nat.zero_le _,rfl⟩
 ·have hlt:=ltI hlt
  obtain⟨_,he⟩:=hi
  rw[cn hlt hl,Int.toNat_natCast,he,jr _ _ hlt]
  have hp:0<i->qn .i64 (i:Int) 1=((i-1:Nat):Int):=fun h0=>bi h0 (by omega)
  have hok:(bif decide ((l.getD i default).frm > (l.getD i default).to) then true else bif decide ((i:Int) > 0) then bif(l.getD i default).frm !=qh .i64 (l.getD (qn .i64 (i:Int) 1).toNat default).to 1 then true else(l.getD i default).val==(l.getD (qn .i64 (i:Int) 1).toNat default).val else false) = !okN (am l i) (l.getD i default):=by
   cases i with
   |zero=>simp[okN,am]
   |succ i =>
    rw[hp (by omega),Int.toNat_natCast]
    have:decide (((i+1:Nat):Int) > 0)=true:=decide_eq_true (by omega)
    rw[this]
    simp[okN,am]
  refine⟨⟨by omega,by omega⟩,trivial,fun h=> ?_,fun h=> ?_,?_⟩
  ·have h0:0<i:=by simp at h;omega
   rw[hp h0];omega
  ·have h0:0<i:=by simp at h;omega
   rw[hp h0];omega
  ·rw[hok]
   simp only[chk]
   refine qa (fun h=> ?_) fun h=> ?_
   ·have:okN (am l i) (l.getD i default)=false:=by simpa using h
    rw[this];exact Wk.refl _
   ·have:okN (am l i) (l.getD i default)=true:=by simpa using h
    rw[this,Bool.true_and]
    exact Nx.mk (i+1) ⟨hlt,rfl⟩ (by omega)
 ·have:=geI hge
  rw[hi.2,List.drop_of_length_le this]
  exact Wk.refl _
def srt:Option Chg->List Chg->Bool
 |_,[]=>true
 |p,x::r=>(match p with|none=>true|some y=> !decide (x.time<y.time))&&srt (some x) r
end Go.Proofs.YtiekphbkomddfaaGreatDoor.S1
