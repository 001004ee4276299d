/- Seat 2: the laws' types as Lean data; words for contracts. -/
import Derived.Test.YtiekphbkomddfaaGreatDoorB8
import Derived.Test.YtiekphbkomddfaaGreatDoorChecked
namespace Go.Proofs.YtiekphbkomddfaaGreatDoor.S1
open Go Go.Ab Go.Proofs Go.Proofs.YtiekphbkomddfaaGreatDoor
def qyx:Cfg:=⟨fun _=>false,fun _=>false⟩
noncomputable abbrev PP:Program:=Tryz.prog
noncomputable abbrev EnC(c:Cfg)(f:Func):Env:=⟨Tryz.prog,c,f.body.getD .skip,f.ntmps⟩
noncomputable abbrev En(f:Func):Env:=EnC qyx f
def qyy(l:List Nat):Cfg:=⟨fun d=>l.any (Nat.beq d),fun _=>false⟩
def qyz(l v:List Nat):Cfg:=⟨fun d=>l.any (Nat.beq d),fun d=>v.any (Nat.beq d)⟩
noncomputable abbrev EnX(l:List Nat)(f:Func):Env:=EnC (qyy l) f
noncomputable abbrev EnV(l v:List Nat)(f:Func):Env:=EnC (qyz l v) f
noncomputable abbrev fi(f:Func)(K:D->Prop):St->Prop:=qj8 Tryz.prog f.results.toList fun d _=>K d
noncomputable abbrev fh(f:Func)(K:D->Heap->Prop):St->Prop:=qj8 Tryz.prog f.results.toList K
def p8:List (List Nat×List Nat):=[]
abbrev stp(l:List Nat)(J:St->Prop):It:= .stop fun st=>J (ii l st)
theorem jv:Tryz.prog.follows .mixedOrders=true:=by kernel_rfl
class DD(d:D):Prop where
 p:Ab.Data d
class DS(ds:List D):Prop where
 p:Datas ds
instance:DS []:=⟨trivial⟩
instance {d:D}{ds:List D}[h:DD d][k:DS ds]:DS (d::ds):=⟨h.p,k.p⟩
instance {n:Int}{k:IntKind}:DD (.int k n):=⟨trivial⟩
instance {b:Bool}:DD (.bool b):=⟨trivial⟩
instance {s:List UInt8}:DD (.str s):=⟨trivial⟩
instance {ds:List D}[h:DS ds]:DD (.agg ds):=⟨h.p⟩
instance {ds:List D}[h:DS ds]:DD (.tup ds):=⟨h.p⟩
instance {f:Nat}{ds:List D}[h:DS ds]:DD (.clo f ds):=⟨h.p⟩
instance {α:Type}[Inhabited α]{es:List α}{sz:Nat}{enc:α->D}[h:∀x,DD (enc x)]:DD (L es sz enc):=⟨L.data fun x=>(h x).p⟩
structure Iv where (frm to:Int) deriving Inhabited,DecidableEq
def Iv.d(x:Iv):D:= .agg [I x.frm,I x.to]
structure Sp where (frm to:Int) (val:List UInt8) deriving Inhabited,DecidableEq
def Sp.d(x:Sp):D:= .agg [I x.frm,I x.to,.str x.val]
structure Chg where (time:Int) (val:List UInt8) deriving Inhabited,DecidableEq
def Chg.d(x:Chg):D:= .agg [I x.time,.str x.val]
structure Sig where (kind width:Int) (chg:List Chg) deriving Inhabited,DecidableEq
def Sig.d(x:Sig):D:= .agg [I x.kind,I x.width,L x.chg 2 Chg.d]
structure Wv where (sig:List Sig) (gap:List Iv) (fin:Int) deriving Inhabited,DecidableEq
def Wv.cs(x:Wv):List D:=[L x.sig 3 Sig.d,L x.gap 2 Iv.d,I x.fin]
def Wv.d(x:Wv):D:= .agg x.cs
structure Rw where (frm to:Int) (vals:List (List UInt8)) deriving Inhabited,DecidableEq
def Rw.d(x:Rw):D:= .agg [I x.frm,I x.to,L x.vals 1 D.str]
instance {x:Iv}:DD x.d:=inferInstanceAs (DD (.agg _))
instance {x:Sp}:DD x.d:=inferInstanceAs (DD (.agg _))
instance {x:Chg}:DD x.d:=inferInstanceAs (DD (.agg _))
instance {x:Sig}:DD x.d:=inferInstanceAs (DD (.agg _))
instance {x:Wv}:DD x.d:=inferInstanceAs (DD (.agg [_,_,_]))
instance {x:Rw}:DD x.d:=inferInstanceAs (DD (.agg _))
structure OkF(f:Nat)(fn:Func):Prop where
 hf:PP.funcs[f]? = some fn
 hb:fn.body=some (fn.body.getD .skip)
 hn:(fn.name == "runtime.NumGoroutine")=false
theorem pu[Lay]{f:Nat}{fn:Func}(o:OkF f fn){args:List D}{v:D}[da:DS args][dv:DD v](hn:Nat.ble args.length fn.ntmps=true){cfg:Cfg}{sc:List Nat->Nat->Option Ans}{lv:List (List Nat×List Nat)}{N:Nat}
  (hr:qn (EnC cfg fn) (fi fn fun d=>Wk d v) sc lv N [.code []] ⟨qc 0 args,.empty⟩):Pure PP f args v:=qbe jv o.hf o.hb o.hn da.p dv.p hn hr
theorem du[Lay]{f:Nat}{fn:Func}(o:OkF f fn){args:List D}{v:D}{h h':Heap}(hn:Nat.ble args.length fn.ntmps=true){cfg:Cfg}{sc:List Nat->Nat->Option Ans}{lv:List (List Nat×List Nat)}{N:Nat}
  (hr:qn (EnC cfg fn) (fh fn fun d h''=>RetLe d h'' v h') sc lv N [.code []] ⟨qc 0 args,h⟩):Does PP f args h v h':=Does.of_call (y9 jv o.hf o.hb o.hn hn hr)
theorem duA[Lay]{f:Nat}{fn:Func}(o:OkF f fn){args:List D}{v:D}{h h':Heap}(hn:Nat.ble args.length fn.ntmps=true){cfg:Cfg}
  (hr:At (EnC cfg fn) (fh fn fun d h''=>RetLe d h'' v h') [.code []] ⟨qc 0 args,h⟩):Does PP f args h v h':=Does.of_call (pc jv o.hf o.hb o.hn hn (N:=0) (by unfold run;exact hr))
theorem pr[Lay]{f:Nat}{fn:Func}(o:OkF f fn){args:List D}{v:D}[da:DS args][dv:DD v](hn:Nat.ble args.length fn.ntmps=true){cfg:Cfg}{sc:List Nat->Nat->Option Ans}{lv:List (List Nat×List Nat)}{N:Nat}
  (hr:qn (EnC cfg fn) (fh fn fun d h=>∃h',RetLe d h v h') sc lv N [.code []] ⟨qc 0 args,.empty⟩):Pure PP f args v:=qbf jv o.hf o.hb o.hn da.p dv.p hn hr
mutual
theorem ce:∀d:D,Ab.Data d->kb d
 | .bool _,_ | .int _ _,_ | .str _,_ | .nilp,_ | .nilf,_ | .nili,_ | .nilm,_ | .fnp _ _,_=>trivial
 | .bp _ _,_ | .sl _ _ _,_ | .mp _,_ | .yl _,_ | .vec _ _ _,_ | .bv _ _ _,_ | .be _ _ _ _ _,_ | .own _,_ | .lp _ _,_ | .may _ _ _,_ | .junk,_=>trivial
 | .list _ _ _ _,h=>by simp only[Ab.Data]at h;simp only[kb];exact h.1
 | .agg cs,h=>by simp only[Ab.Data]at h;simp only[kb];exact kv cs h
 | .tup cs,h=>by simp only[Ab.Data]at h;simp only[kb];exact kv cs h
 | .clo _ cs,h=>by simp only[Ab.Data]at h;simp only[kb];exact kv cs h
 | .mv _ cs,h=>by simp only[Ab.Data]at h;simp only[kb];exact kv cs h
 | .ep cs,h=>by simp only[Ab.Data]at h;simp only[kb];exact kv cs h
 | .iface _ d,h=>by simp only[Ab.Data]at h;simp only[kb];exact ce d h
theorem kv:∀ds:List D,Datas ds->wo ds
 | [],_=>trivial
 |d::r,h=>by simp only[Datas]at h;simp only[wo];exact⟨ce d h.1,kv r h.2⟩
end
instance (priority:=10){d:D}[h:DD d]:RO d:=⟨ce d h.p⟩
instance {l o:Nat}:RO (.bp l o):=⟨trivial⟩
instance {l:Nat}:RO (.mp l):=⟨trivial⟩
instance {t n sz:Nat}:RO (.vec t n sz):=⟨trivial⟩
instance {t n i sz j:Nat}:RO (.be t n i sz j):=⟨trivial⟩
instance {e t n:Nat}:RO (.bv e t n):=⟨trivial⟩
instance {f:Nat->Option Row}{k T:Nat}{cs:List D}[h:RB f][r:ROs cs]:RB (upd f k (some (.litT T cs))):=⟨fun l row e=>by
 by_cases hx:l=k
 ·subst hx;rw[qb]at e;cases e;exact r.p
 ·rw[qd _ _ hx]at e;exact h.p l row e⟩
instance {n sz:Nat}{get:Nat->D}{own:Own}[h:∀i,DD (get i)]:RO (.list n sz get own):=⟨fun i _=>(h i).p⟩
instance {α:Type}[Inhabited α]{es:List α}{sz t:Nat}{enc:α->D}[h:∀x,DD (enc x)]:RO (LT es sz enc t):=⟨fun _ _=>(h _).p⟩
instance {α:Type}[Inhabited α]{es:List α}{enc:α->D}[h:∀x,DD (enc x)]{i:Nat}:DD (cv es enc i):=⟨(h _).p⟩
instance:ROs []:=⟨trivial⟩
instance {d:D}{ds:List D}[h:RO d][k:ROs ds]:ROs (d::ds):=⟨h.p,k.p⟩
instance {ds:List D}[h:ROs ds]:RO (.agg ds):=⟨h.p⟩
instance {ds:List D}[h:ROs ds]:RO (.tup ds):=⟨h.p⟩
instance {f:Nat}{ds:List D}[h:ROs ds]:RO (.clo f ds):=⟨h.p⟩
instance {f:Nat}{ds:List D}[h:ROs ds]:RO (.mv f ds):=⟨h.p⟩
instance {t:Nat}{d:D}[h:RO d]:RO (.iface t d):=⟨h.p⟩
instance:RB (fun _=>none):=⟨fun _ _ h=>by cases h⟩
instance {f:Nat->Option Row}{k:Nat}{cs:List D}[h:RB f][r:ROs cs]:RB (upd f k (some (.lit cs))):=⟨fun l row e=>by
 by_cases hx:l=k
 ·subst hx;rw[qb]at e;cases e;exact r.p
 ·rw[qd _ _ hx]at e;exact h.p l row e⟩
instance {f:Nat->Option Row}{k:Nat}[h:RB f]:RB (upd f k none):=⟨fun l row e=>by
 by_cases hx:l=k
 ·subst hx;rw[qb]at e;cases e
 ·rw[qd _ _ hx]at e;exact h.p l row e⟩
instance {hw:Nat->Option Nat}:RV hw (fun _=>none):=⟨fun _ _ _ _ h=>by cases h⟩
instance {hw:Nat->Option Nat}{vw:Nat->Option (Nat->D)}{t:Nat}{f:Nat->D}[h:RV hw vw][k:∀i,DD (f i)]:RV hw (upd vw t (some f)):=⟨fun t' n q e e' i hi=>by
 by_cases hx:t'=t
 ·subst hx;rw[qb]at e';cases e';exact(k i).p
 ·rw[qd _ _ hx]at e';exact h.p t' n q e e' i hi⟩
instance {hw:Nat->Option Nat}{vw:Nat->Option (Nat->D)}{t:Nat}[h:RV hw vw]:RV hw (upd vw t none):=⟨fun t' n q e e' i hi=>by
 by_cases hx:t'=t
 ·subst hx;rw[qb]at e';cases e'
 ·rw[qd _ _ hx]at e';exact h.p t' n q e e' i hi⟩
theorem fr[Lay]{f:Nat}{args args':List D}{v:D}{bx:Nat->Option Row}{nl nt:Nat}{hw:Nat->Option Nat}{vw:Nat->Option (Nat->D)}{bx':Nat->Option Row}{nl' nt':Nat}{hw':Nat->Option Nat}{vw':Nat->Option (Nat->D)}{H:Heap}
  (c:Does PP f args ⟨bx,nl,hw,nt,vw⟩ v ⟨bx',nl',hw',nt',vw'⟩) (bs ts:List Nat) [d1:Dom bx nl] [d2:Dom hw nt] [d3:Dom vw nt] [a1:ROs args] [a2:RO v] [a3:RB bx] [a4:RV hw vw] [a5:RB bx'] [a6:RV hw' vw']
  (k:(decide (bs.Nodup/\ts.Nodup/\nl<=nl'/\nt<=nt')&&bs.all (Nat.blt · H.nl)&&ts.all (Nat.blt · H.nt))=true:=by kernel_rfl)
  (m1:(List.range nl).map (fun l=>(bx l).map (d5 (rnm bs H.nl) (rnm ts H.nt)))=bs.map H.box:=by kernel_rfl) (m2:(List.range nt).map hw=ts.map H.hw:=by kernel_rfl) (m3:(List.range nt).map vw=ts.map H.vw:=by kernel_rfl)
  (ea:qb9 (rnm bs H.nl) (rnm ts H.nt) args=args':=by kernel_rfl) :
  Does PP f args' H (ren (rnm bs H.nl) (rnm ts H.nt) v) (qh bs ts H ⟨bx',nl',hw',nt',vw'⟩):=ea▸Does.frame c bs ts k m1 m2 m3
def qea:Option Code->Bool
 |some (.loop _)=>true
 |_=>false
theorem lp[Lay]{fn:Func}{cfg:Cfg}{fin:St->Prop}{α:Type}(I:α->Prop)(S:α->St)(μ:α->Nat)(l:List Nat){p:List Nat}{td:List It}(hs:qea (sub (EnC cfg fn).root p)=true){N:Nat}{sc:α->List Nat->Nat->Option Ans}{lv:List (List Nat×List Nat)}
  (hr:∀x,I x->qn (EnC cfg fn) fin (sc x) lv N (.code (p++[0])::stp l (Nx (EnC cfg fn).nt I S μ (μ x))::td) (S x)) (x:α) (hx:I x):At (EnC cfg fn) fin (.code p::td) (S x):=by
 have:∃c,sub (EnC cfg fn).root p=some (.loop c):=by
  unfold qea at hs
  split at hs
  ·rename_i c h;exact⟨c,h⟩
  ·cases hs
 obtain⟨c,hc⟩:=this
 exact qka jv I S μ l hc hr x hx
end Go.Proofs.YtiekphbkomddfaaGreatDoor.S1
namespace Go.Proofs.YtiekphbkomddfaaGreatDoor.S1
open Go Go.Ab Go.Proofs
theorem jy{a b:Int}(h : -9223372036854775808<=a-b)(k:a-b<=9223372036854775807):qj .i64 a b=a-b:=IntWalk.i64_in _ ⟨h,k⟩
theorem jk{a b:Int}(h : -9223372036854775808<=a+b)(k:a+b<=9223372036854775807):qg .i64 a b=a+b:=IntWalk.i64_in _ ⟨h,k⟩
theorem bi{i n:Nat}(h:i<n)(k:n<=q8):qg .i64 (i:Int) 1=((i+1:Nat):Int):=by
 unfold q8 at k
 rw[jk (by omega) (by omega)];rfl
theorem ltI{i n:Nat}(h:decide ((i:Int)<(n:Int))=true):i<n:=by simpa using h
theorem geI{i n:Nat}(h:decide ((i:Int)<(n:Int))=false):n<=i:=by simpa using h
theorem zu{α:Type}[Inhabited α](l:List α)(i:Nat)(h:i<l.length):l.take (i+1)=l.take i++[l.getD i default]:=by
 rw[List.take_succ_eq_append_getElem h];simp[List.getD,h]
theorem jb{α:Type}[Inhabited α](l:List α)(i:Nat)(h:i<l.length):l.drop i=l.getD i default::l.drop (i+1):=by
 rw[List.drop_eq_getElem_cons h];simp[List.getD,h]
abbrev Str:=List UInt8
instance {x:Wv}:DS x.cs:=inferInstanceAs (DS [_,_,_])
def hM(w:Wv)(lim:Int)(c:Int):Heap:=⟨upd (fun _=>none) 0 (some (.lit [L w.sig 3 Sig.d,L w.gap 2 Iv.d,I w.fin,I lim,I c])),1,fun _=>none,0,fun _=>none⟩
theorem qy0:OkF 210 Tryz.f210:=⟨by kernel_rfl,by kernel_rfl,by kernel_rfl⟩
def qrk:List (List Nat×List Nat):=[]
noncomputable def qoo:List Nat->Nat->Option Ans:=qf []
theorem qrl[Lay](w:Wv)(lim c sig:Int)(K:D->Heap->Prop):qn (En Tryz.f210) (fh Tryz.f210 K) (qoo ) qrk 200 [.code []] ⟨qc 0 [.bp 0 0,I sig],hM w lim c⟩ =
 (True/\bif bif decide (lim>=0) then decide (qg .i64 c 1 > lim) else false then K (I 14) {box:=upd (upd (fun _=>none) 0 (some (Row.lit [L w.sig 3 Sig.d,L w.gap 2 Iv.d,I w.fin,I lim,I c]))) 0 (some (Row.lit [L w.sig 3 Sig.d,L w.gap 2 Iv.d,I w.fin,I lim,I (qg .i64 c 1)])),nl:=1,hw:=fun _=>none,nt:=0,vw:=fun _=>none:Heap} else((!decide (sig<0))=true->w.sig.length<=q8)->bif bif decide (sig<0) then true else decide (sig>=(↑w.sig.length:Int)) then K (I 2) {box:=upd (upd (fun _=>none) 0 (some (Row.lit [L w.sig 3 Sig.d,L w.gap 2 Iv.d,I w.fin,I lim,I c]))) 0 (some (Row.lit [L w.sig 3 Sig.d,L w.gap 2 Iv.d,I w.fin,I lim,I (qg .i64 c 1)])),nl:=1,hw:=fun _=>none,nt:=0,vw:=fun _=>none:Heap} else K (I 0) {box:=upd (upd (fun _=>none) 0 (some (Row.lit [L w.sig 3 Sig.d,L w.gap 2 Iv.d,I w.fin,I lim,I c]))) 0 (some (Row.lit [L w.sig 3 Sig.d,L w.gap 2 Iv.d,I w.fin,I lim,I (qg .i64 c 1)])),nl:=1,hw:=fun _=>none,nt:=0,vw:=fun _=>none:Heap}):=by kernel_rfl
def jp(w:Wv)(lim c sig:Int):Int:=bif bif decide (lim>=0) then decide (qg .i64 c 1 > lim) else false then 14 else bif bif decide (sig<0) then true else decide (sig>=(w.sig.length:Int)) then 2 else 0
theorem qop{w:Wv}{lim c c':Int}:(⟨upd (upd (fun _=>none) 0 (some (.lit [L w.sig 3 Sig.d,L w.gap 2 Iv.d,I w.fin,I lim,I c]))) 0 (some (.lit [L w.sig 3 Sig.d,L w.gap 2 Iv.d,I w.fin,I lim,I c'])),1,fun _=>none,0,fun _=>none⟩:Heap)=hM w lim c':=by
 unfold hM;rw[q6]
theorem qqy[Lay](w:Wv)(lim c sig:Int):Does PP 210 [.bp 0 0,I sig] (hM w lim c) (I (jp w lim c sig)) (hM w lim (qg .i64 c 1)):=by
 refine du qy0 (by kernel_rfl) (of_eq (qrl w lim c sig _) ⟨trivial,qa (fun h=> ?_) fun h=>fun _=>qa (fun h2=> ?_) fun h2=> ?_⟩) <;> rw[qop]
 ·simp only[jp,h,cond_true];exact RetLe.refl _ _
 ·simp only[jp,h,h2,cond_true,cond_false];exact RetLe.refl _ _
 ·simp only[jp,h,h2,cond_false];exact RetLe.refl _ _
theorem qy1:OkF 205 Tryz.f205:=⟨by kernel_rfl,by kernel_rfl,by kernel_rfl⟩
def qrm:List (List Nat×List Nat):=[]
noncomputable def qrn:List Nat->Nat->Option Ans:=qf []
theorem qy2[Lay](w:Wv)(lim c:Int)(K:D->Heap->Prop):qn (En Tryz.f205) (fh Tryz.f205 K) (qrn ) qrm 200 [.code []] ⟨qc 0 [.bp 0 0],hM w lim c⟩ =
 (K (I w.fin) {box:=upd (fun _=>none) 0 (some (Row.lit [L w.sig 3 Sig.d,L w.gap 2 Iv.d,I w.fin,I lim,I c])),nl:=1,hw:=fun _=>none,nt:=0,vw:=fun _=>none:Heap}):=by kernel_rfl
theorem qxo[Lay](w:Wv)(lim c:Int):Does PP 205 [.bp 0 0] (hM w lim c) (I w.fin) (hM w lim c) :=
 du qy1 (by kernel_rfl) (of_eq (qy2 w lim c _) (RetLe.refl _ _))
theorem F35:OkF 35 Tryz.f35:=⟨by kernel_rfl,by kernel_rfl,by kernel_rfl⟩
def qxp:List (List Nat×List Nat):=[([1,0,1,0,1,1,1,0,1,0,1,0],[1,3,4])]
noncomputable def qoq:List Nat->Nat->Option Ans:=qf []
theorem qro[Lay](q:Sig)(K:D->Prop):qn (En Tryz.f35) (fi Tryz.f35 K) (qoq ) qxp 200 [.code []] ⟨qc 0 [q.d],.empty⟩ =
 (bif q.kind==1 then K (.str {data:= #[48]:ByteArray}.data.toList) else bif q.kind==0 then At (En Tryz.f35) (fi Tryz.f35 K) [It.code [1,0,1,0,1,1,1,0,1,0,1,0],It.blk 1,It.code [1,0,1,0,1,1,1,0,1,1],It.blk 0,It.code [1,1]] {sl:=[(1,.own [I q.kind,I q.width,L q.chg 2 Chg.d]),(3,.str {data:= #[]:ByteArray}.data.toList),(4,I 0)],h:=Heap.empty:St} else K (.str {data:= #[]:ByteArray}.data.toList)):=by kernel_rfl
def qmy(q:Sig)(v:Str)(i:Int):St:=⟨[(1,.own [I q.kind,I q.width,L q.chg 2 Chg.d]),(3,.str v),(4,I i)],.empty⟩
noncomputable def qmz:List Nat->Nat->Option Ans:=qf []
theorem qor[Lay](q:Sig)(v:Str)(i:Int)(J:St->Prop)(K:D->Prop):qn (En Tryz.f35) (fi Tryz.f35 K) (qmz ) qxp 200 [.code [1,0,1,0,1,1,1,0,1,0,1,0,0],stp [1,3,4] J,.blk 1,.code [1,0,1,0,1,1,1,0,1,1],.blk 0,.code [1,1]] (qmy q v i)=
 (bif decide (i<q.width) then List.length v+1<=jt/\J {sl:=[(1,.own [I q.kind,I q.width,L q.chg 2 Chg.d]),(3,.str (v++{data:= #[120]:ByteArray}.data.toList)),(4,I (qg .i64 i 1))],h:=Heap.empty:St} else K (.str v)):=by kernel_rfl
def ini(q:Sig):Str:=if q.kind=1 then[48] else if q.kind=0 then List.replicate q.width.toNat 120 else[]
theorem c35[Lay](q:Sig)(hw:q.width<=1000000):Pure PP 35 [q.d] (.str (ini q)):=by
 refine pu F35 (by kernel_rfl) (of_eq (qro q _) (qa (fun h=> ?_) fun h=>qa (fun h0=> ?_) fun h0=> ?_))
 ·have:q.kind=1:=by simpa using h
  rw[ini,if_pos this];exact Wk.refl _
 ·have h1:¬q.kind=1:=by simpa using h
  have h2:q.kind=0:=by simpa using h0
  rw[ini,if_neg h1,if_pos h2]
  refine lp (fn:=Tryz.f35) (fun i:Nat=>i<=q.width.toNat) (fun i=>qmy q (List.replicate i 120) i) (fun i=>q.width.toNat-i) [1,3,4] (by kernel_rfl) (fun i hi=>of_eq (qor q _ i _ _) (qa (fun hlt=> ?_) fun hge=> ?_)) 0 (Nat.zero_le _)
  ·have hlt:(i:Int)<q.width:=by simpa using hlt
   have ha:qg .i64 (i:Int) 1=((i+1:Nat):Int):=by rw[jk (by omega) (by omega)];rfl
   rw[ha]
   refine⟨by rw[List.length_replicate];unfold jt;omega,Nx.of (i+1) (by omega) (by omega) ?_⟩
   unfold qmy
   rw[List.replicate_succ']
   exact StLe.refl _ _
  ·have hge:¬(i:Int)<q.width:=by simpa using hge
   rw[show i=q.width.toNat by omega]
   exact Wk.refl _
 ·have h1:¬q.kind=1:=by simpa using h
  have h2:¬q.kind=0:=by simpa using h0
  rw[ini,if_neg h1,if_neg h2];exact Wk.refl _
def xt(v:Str)(l:List Chg)(t:Int):Str:=l.foldl (fun v x=>bif decide (x.time<=t) then x.val else v) v
theorem vi(v:Str)(x:Chg)(l:List Chg)(t:Int):xt v (x::l) t=xt (bif decide (x.time<=t) then x.val else v) l t:=rfl
def jd(q:Sig)(t:Int):Str:=if q.kind=3 then ini q else xt (ini q) q.chg t
theorem F95:OkF 95 Tryz.f95:=⟨by kernel_rfl,by kernel_rfl,by kernel_rfl⟩
def qxq:List (List Nat×List Nat):=[([1,1,0,1,0],[1,2,5,6])]
noncomputable def qrp(q:Sig):List Nat->Nat->Option Ans:=qf [([1,0],1,Ans.pure [q.d] (.str (ini q)))]
theorem qy3[Lay](q:Sig)(t:Int)(K:D->Prop):qn (En Tryz.f95) (fi Tryz.f95 K) (qrp q) qxq 200 [.code []] ⟨qc 0 [q.d,I t],.empty⟩ =
 (PureW PP 35 [q.d] [q.d] (.str (ini q))/\At (En Tryz.f95) (fi Tryz.f95 K) [It.code [1,1,0,1,0],It.blk 0,It.code [1,1,1]] {sl:=[(1,I t),(2,.own [I q.kind,I q.width,L q.chg 2 Chg.d]),(5,.str (ini q)),(6,I 0)],h:=Heap.empty:St}):=by kernel_rfl
def qrq(q:Sig)(t:Int)(v:Str)(i:Int):St:=⟨[(1,I t),(2,.own [I q.kind,I q.width,L q.chg 2 Chg.d]),(5,.str v),(6,I i)],.empty⟩
noncomputable def qos:List Nat->Nat->Option Ans:=qf []
theorem qot[Lay](q:Sig)(t:Int)(v:Str)(i:Int)(J:St->Prop)(K:D->Prop):qn (En Tryz.f95) (fi Tryz.f95 K) (qos ) qxq 200 [.code [1,1,0,1,0,0],stp [1,2,5,6] J,.blk 0,.code [1,1,1]] (qrq q t v i)=
 (q.chg.length<=q8->bif bif decide (i<(↑q.chg.length:Int)) then q.kind !=3 else false then(0<=i/\i<(↑q.chg.length:Int))/\bif decide ((q.chg.getD i.toNat default).time<=t) then(0<=i/\i<(↑q.chg.length:Int))/\J {sl:=[(1,I t),(2,.own [I q.kind,I q.width,L q.chg 2 Chg.d]),(5,.str (q.chg.getD i.toNat default).val),(6,I (qg .i64 i 1))],h:=Heap.empty:St} else J {sl:=[(1,I t),(2,.own [I q.kind,I q.width,L q.chg 2 Chg.d]),(5,.str v),(6,I (qg .i64 i 1))],h:=Heap.empty:St} else K (.str v)):=by kernel_rfl
theorem c95[Lay](q:Sig)(t:Int)(hw:q.width<=1000000):Pure PP 95 [q.d,I t] (.str (jd q t)):=by
 refine pu F95 (by kernel_rfl) (of_eq (qy3 q t _) ⟨PureW.mk (c35 _ hw),?_⟩)
 unfold jd
 by_cases hk:q.kind=3
 ·rw[if_pos hk]
  refine lp (fn:=Tryz.f95) (fun i:Nat=>i=0) (fun i=>qrq q t (ini q) i) (fun i=>0-i) [1,2,5,6] (by kernel_rfl) (fun i hi=>of_eq (qot q t _ i _ _) fun hl=>qa (fun h=> ?_) fun h=>Wk.refl _) 0 rfl
  simp[hk]at h
 ·rw[if_neg hk]
  have hk':(q.kind !=3)=true:=by simpa using hk
  refine lp (fn:=Tryz.f95) (fun x:Nat×Str=>x.1<=q.chg.length/\xt (ini q) q.chg t=xt x.2 (q.chg.drop x.1) t) (fun x=>qrq q t x.2 x.1) (fun x=>q.chg.length-x.1) [1,2,5,6] (by kernel_rfl) (fun x hx=>of_eq (qot q t x.2 x.1 _ _) fun hl=> ?_) (0,ini q) ⟨Nat.zero_le _,rfl⟩
  obtain⟨i,u⟩:=x
  obtain⟨hi,he⟩:=hx
  simp only at hi he⊢
  rw[hk']
  refine qa (fun hlt=> ?_) fun hge=> ?_
  ·have hlt:i<q.chg.length:=by
    cases hd:decide ((i:Int)<(q.chg.length:Int)) with
    |true=>exact ltI hd
    |false=>rw[hd]at hlt;cases hlt
   rw[bi hlt hl,Int.toNat_natCast]
   rw[jb _ _ hlt,vi]at he
   generalize q.chg.getD i default=x at he⊢
   refine⟨⟨by omega,by omega⟩,qa (fun h=>⟨⟨by omega,by omega⟩,Nx.mk (i+1,x.val) ⟨hlt,?_⟩ (by simp only;omega)⟩) fun h=>Nx.mk (i+1,u) ⟨hlt,?_⟩ (by simp only;omega)⟩
   ·rw[h]at he;exact he
   ·rw[h]at he;exact he
  ·have:q.chg.length<=i:=by
    cases hd:decide ((i:Int)<(q.chg.length:Int)) with
    |true=>rw[hd]at hge;cases hge
    |false=>exact geI hd
   rw[he,List.drop_of_length_le this]
   exact Wk.refl _
theorem il{α:Type}[Inhabited α]{es:List α}{x:α}{enc:α->D}{n i:Nat}(hn:n=es.length)(hi:i<n+1):zo n (cv es enc) (zf [enc x]) i=cv (es++[x]) enc i:=by
 subst hn
 unfold zo cv
 rcases Nat.lt_or_ge i es.length with h|h
 ·rw[up.2 h];simp[List.getD,List.getElem?_append_left h]
 ·rw[tp.2 h]
  have:i=es.length:=by omega
  subst this
  simp[List.getD,zf]
theorem og[Lay]{α:Type}[Inhabited α]{es':List α}{enc:α->D}{f:Nat->D}{d v:D}{n:Nat}(hn:n=es'.length)(hf:∀i,i<es'.length->f i=cv es' enc i)(hw:Wk d v){hw0:Nat->Option Nat}{vw0:Nat->Option (Nat->D)}(e1:hw0=upd (fun _=>none) 0 (some n))(e2:vw0=upd (fun _=>none) 0 (some f)) :
  RetLe d ⟨fun _=>none,0,hw0,1,vw0⟩ v (zn es' enc):=by
 subst hn;subst e1;subst e2
 exact RetLe.of hw (HeapLe.vec (qb _ _ _) (VwLe.eq hf))
def zk(es:List Sp)(to:Int):List Sp:=es.set (es.length-1) ⟨(es.getD (es.length-1) default).frm,to,(es.getD (es.length-1) default).val⟩
def ph(es:List Sp)(frm:Int)(v:Str):List Sp:=if es=[] then[⟨frm,0,v⟩] else if(es.getD (es.length-1) default).val=v then es else zk es (qj .i64 frm 1)++[⟨frm,0,v⟩]
theorem v8(es:List Sp)(to:Int):(zk es to).length=es.length:=by simp[zk]
theorem pi{n:Nat}(h0:0<n)(h:n<=q8):qj .i64 (n:Int) 1=((n-1:Nat):Int):=by
 unfold q8 at h
 rw[jy (by omega) (by omega)];omega
theorem F87:OkF 87 Tryz.f87:=⟨by kernel_rfl,by kernel_rfl,by kernel_rfl⟩
def qy4:List (List Nat×List Nat):=[]
noncomputable def qrr:List Nat->Nat->Option Ans:=qf []
theorem qy5[Lay](es:List Sp)(to:Int)(K:D->Heap->Prop):qn (En Tryz.f87) (fh Tryz.f87 K) (qrr ) qy4 200 [.code []] ⟨qc 0 [.vec 0 es.length 3,I to],zn es Sp.d⟩ =
 (es.length<=q8->(upd (fun _=>none) 0 (some es.length) 0=some es.length/\0<=qj .i64 (↑es.length:Int) 1/\qj .i64 (↑es.length:Int) 1<(↑es.length:Int))/\upd (fun _=>none) 0 (some es.length) 0=some es.length/\K (D.vec 0 es.length 3) {box:=fun _=>none,nl:=0,hw:=upd (fun _=>none) 0 (some es.length),nt:=1,vw:=upd (upd (fun _=>none) 0 (some (cv es Sp.d))) 0 (some (ny (cv es Sp.d) (qj .i64 (↑es.length:Int) 1).toNat (.agg [I (es.getD (qj .i64 (↑es.length:Int) 1).toNat default).frm,I to,.str (es.getD (qj .i64 (↑es.length:Int) 1).toNat default).val]))):Heap}):=by kernel_rfl
theorem e87[Lay](es:List Sp)(to:Int)(h0:es≠[]):Does PP 87 [.vec 0 es.length 3,I to] (zn es Sp.d) (.vec 0 es.length 3) (zn (zk es to) Sp.d):=by
 have h0:0<es.length:=List.length_pos_iff.2 h0
 refine du F87 (by kernel_rfl) (of_eq (qy5 es to _) fun hl=> ?_)
 rw[pi h0 hl,Int.toNat_natCast]
 refine⟨⟨qb _ _ _,by omega,by omega⟩,qb _ _ _,?_⟩
 exact og (es':=zk es to) (v8 _ _).symm (fun i _=>dw (x:=(⟨_,to,_⟩:Sp)) (by omega) i) (Wk.refl _) rfl (q6 _ _ _ _)
theorem F85:OkF 85 Tryz.f85:=⟨by kernel_rfl,by kernel_rfl,by kernel_rfl⟩
def qxr:List (List Nat×List Nat):=[]
noncomputable def qou:List Nat->Nat->Option Ans:=qf []
theorem qy6[Lay](es:List Sp)(frm:Int)(v:Str)(K:D->Heap->Prop):qn (EnV [] [39] Tryz.f85) (fh Tryz.f85 K) (qou ) qxr 200 [.code []] ⟨qc 0 [.vec 0 es.length 3,I frm,.str v],zn es Sp.d⟩ =
 (es.length<=q8 ->
 (decide ((↑es.length:Int) > 0)=true->upd (fun _=>none) 0 (some es.length) 0=some es.length/\0<=qj .i64 (↑es.length:Int) 1/\qj .i64 (↑es.length:Int) 1<(↑es.length:Int))/\
  (decide ((↑es.length:Int) > 0)=true->upd (fun _=>none) 0 (some es.length) 0=some es.length)/\
   bif bif decide ((↑es.length:Int) > 0) then(es.getD (qj .i64 (↑es.length:Int) 1).toNat default).val==v else false then K (D.vec 0 es.length 3) {box:=fun _=>none,nl:=0,hw:=upd (fun _=>none) 0 (some es.length),nt:=1,vw:=upd (fun _=>none) 0 (some (cv es Sp.d)):Heap} else bif decide ((↑es.length:Int) > 0) then(upd (fun _=>none) 0 (some es.length) 0=some es.length/\0<=qj .i64 (↑es.length:Int) 1/\qj .i64 (↑es.length:Int) 1<(↑es.length:Int))/\upd (fun _=>none) 0 (some es.length) 0=some es.length/\(upd (fun _=>none) 0 (some es.length) 0=some es.length/\(es.length+1)*32<=q7)/\K (D.vec 0 (es.length+1) 3) {box:=fun _=>none,nl:=0,hw:=upd (upd (fun _=>none) 0 (some es.length)) 0 (some (es.length+1)),nt:=1,vw:=upd (upd (upd (fun _=>none) 0 (some (cv es Sp.d))) 0 (some (ny (cv es Sp.d) (qj .i64 (↑es.length:Int) 1).toNat (.agg [I (es.getD (qj .i64 (↑es.length:Int) 1).toNat default).frm,I (qj .i64 frm 1),.str (es.getD (qj .i64 (↑es.length:Int) 1).toNat default).val])))) 0 (some (zo es.length (ny (cv es Sp.d) (qj .i64 (↑es.length:Int) 1).toNat (.agg [I (es.getD (qj .i64 (↑es.length:Int) 1).toNat default).frm,I (qj .i64 frm 1),.str (es.getD (qj .i64 (↑es.length:Int) 1).toNat default).val])) (zf [.agg [I frm,I 0,.str v]]))):Heap} else(upd (fun _=>none) 0 (some es.length) 0=some es.length/\(es.length+1)*32<=q7)/\K (D.vec 0 (es.length+1) 3) {box:=fun _=>none,nl:=0,hw:=upd (upd (fun _=>none) 0 (some es.length)) 0 (some (es.length+1)),nt:=1,vw:=upd (upd (fun _=>none) 0 (some (cv es Sp.d))) 0 (some (zo es.length (cv es Sp.d) (zf [.agg [I frm,I 0,.str v]]))):Heap}):=by kernel_rfl
theorem qxs[Lay](es:List Sp)(frm:Int)(v:Str)(hb:es.length<=100000):qn (EnV [] [39] Tryz.f85) (fh Tryz.f85 fun d h=>RetLe d h (.vec 0 (ph es frm v).length 3) (zn (ph es frm v) Sp.d)) qou qxr 200 [.code []] ⟨qc 0 [.vec 0 es.length 3,I frm,.str v],zn es Sp.d⟩:=by
 refine of_eq (qy6 es frm v _) fun hl=> ?_
 rcases Nat.eq_zero_or_pos es.length with h0|h0
 ·have he:es=[]:=List.length_eq_zero_iff.1 h0
  subst he
  refine⟨fun h=>by simp at h,fun h=>by simp at h,qa (fun h=>by simp at h) fun _=>qa (fun h=>by simp at h) fun _=>⟨⟨qb _ _ _,by unfold q7;simp⟩,?_⟩⟩
  exact og (es':=[(⟨frm,0,v⟩:Sp)]) rfl (fun i hi=>il (es:=[]) (x:=(⟨frm,0,v⟩:Sp)) rfl hi) (Wk.refl _) (q6 _ _ _ _) (q6 _ _ _ _)
 ·have he:es≠[]:=List.length_pos_iff.1 h0
  rw[pi h0 hl,Int.toNat_natCast]
  have hin:(0:Int)<=((es.length-1:Nat):Int)/\((es.length-1:Nat):Int)<(es.length:Int):=⟨by omega,by omega⟩
  have hd:decide ((es.length:Int) > 0)=true:=by simpa using h0
  refine⟨fun _=>⟨qb _ _ _,hin⟩,fun _=>qb _ _ _,?_⟩
  simp only[hd,cond_true]
  refine qa (fun hv=> ?_) fun hv=>⟨⟨qb _ _ _,hin⟩,qb _ _ _,⟨qb _ _ _,by unfold q7;omega⟩,?_⟩
  ·have hv:(es.getD (es.length-1) default).val=v:=by simpa using hv
   rw[ph,if_neg he,if_pos hv]
   exact RetLe.refl _ _
  ·have hv:¬(es.getD (es.length-1) default).val=v:=by simpa using hv
   rw[ph,if_neg he,if_neg hv]
   refine og (n:=es.length+1) (es':=zk es (qj .i64 frm 1)++[⟨frm,0,v⟩]) (by rw[List.length_append,v8];rfl) (fun i hi=> ?_) (Wk.of_eq (show D.vec 0 (es.length+1) 3=D.vec 0 (zk es (qj .i64 frm 1)++[(⟨frm,0,v⟩:Sp)]).length 3 by rw[List.length_append,v8];rfl)) (q6 _ _ _ _) ((q6 _ _ _ _).trans (q6 _ _ _ _))
   rw[show ny (cv es Sp.d) (es.length-1) (.agg [I (es.getD (es.length-1) default).frm,I (qj .i64 frm 1),.str (es.getD (es.length-1) default).val])=cv (zk es (qj .i64 frm 1)) Sp.d from funext fun i=>dw (x:=(⟨_,qj .i64 frm 1,_⟩:Sp)) (by omega) i]
   exact il (x:=(⟨frm,0,v⟩:Sp)) (v8 _ _).symm (by simpa[v8] using hi)
theorem e85[Lay](es:List Sp)(frm:Int)(v:Str)(hb:es.length<=100000):Does PP 85 [.vec 0 es.length 3,I frm,.str v] (zn es Sp.d) (.vec 0 (ph es frm v).length 3) (zn (ph es frm v) Sp.d):=du F85 (by kernel_rfl) (qxs es frm v hb)
theorem qrs[Lay](frm:Int)(v:Str):Does PP 85 [.list 0 0 (fun _=> .junk) .full,I frm,.str v] .empty (.vec 0 1 3) (zn [⟨frm,0,v⟩] Sp.d) :=
 duA F85 (by kernel_rfl) (jc (st':=⟨qc 0 [.vec 0 0 3,I frm,.str v],zn ([]:List Sp) Sp.d⟩) (qe jv _ _ _ (qxs [] frm v (by simp))) ((StLe.idle _ (some (cv ([]:List Sp) Sp.d)) 0 3 (fun _=> .junk) rfl).cast (by kernel_rfl)))
theorem F14:OkF 14 Tryz.f14:=⟨by kernel_rfl,by kernel_rfl,by kernel_rfl⟩
def qy7:List (List Nat×List Nat):=[]
noncomputable def qrt:List Nat->Nat->Option Ans:=qf []
theorem qy8[Lay](w:Wv)(K:D->Heap->Prop):qn (EnX [5] Tryz.f14) (fh Tryz.f14 K) (qrt ) qy7 200 [.code []] ⟨qc 0 [w.d],.empty⟩ =
 (True/\K (D.bp 0 0) {box:=upd (fun _=>none) 0 (some (Row.lit [L w.sig 3 Sig.d,L w.gap 2 Iv.d,I w.fin,I (-1),I 0])),nl:=1,hw:=fun _=>none,nt:=0,vw:=fun _=>none:Heap}):=by kernel_rfl
theorem e14[Lay](w:Wv):Does PP 14 [w.d] .empty (.bp 0 0) (hM w (-1) 0) :=
 du F14 (by kernel_rfl) (of_eq (qy8 w _) ⟨trivial,RetLe.refl _ _⟩)
abbrev qm(w:Wv)(sig:Int):Sig:=w.sig.getD sig.toNat default
theorem p9{w:Wv}{lim c sig:Int}(h:(jp w lim c sig !=0)=false):(lim>=0->qg .i64 c 1<=lim)/\0<=sig/\sig<(w.sig.length:Int):=by
 have h:jp w lim c sig=0:=by simpa using h
 unfold jp at h
 cases h1:(bif decide (lim>=0) then decide (qg .i64 c 1 > lim) else false) with
 |true=>rw[h1]at h;simp at h
 |false =>
  rw[h1]at h
  simp only[cond_false]at h
  cases h2:(bif decide (sig<0) then true else decide (sig>=(w.sig.length:Int))) with
  |true=>rw[h2]at h;simp at h
  |false =>
   refine⟨fun hl=> ?_,?_⟩
   ·have:decide (lim>=0)=true:=by simpa using hl
    rw[this]at h1
    simpa using h1
   ·by_cases hs:sig<0
    ·rw[show decide (sig<0)=true by simpa using hs]at h2;cases h2
    ·rw[show decide (sig<0)=false by simpa using hs]at h2
     simp at h2;omega
def qs(w:Wv)(lim c sig:Int):Int×Int×Int:=if jp w lim c sig=0 then((qm w sig).kind,(qm w sig).width,0) else(0,0,jp w lim c sig)
theorem qy9:OkF 206 Tryz.f206:=⟨by kernel_rfl,by kernel_rfl,by kernel_rfl⟩
def qru:List (List Nat×List Nat):=[]
noncomputable def qov(w:Wv)(lim:Int)(c:Int)(sig:Int):List Nat->Nat->Option Ans:=qf [([1,0,0],2,Ans.eff (I (jp w lim c sig)) (hM w lim (qg .i64 c 1)))]
theorem qrv[Lay](w:Wv)(lim c sig:Int)(K:D->Heap->Prop):qn (En Tryz.f206) (fh Tryz.f206 K) (qov w lim c sig) qru 200 [.code []] ⟨qc 0 [.bp 0 0,I sig],hM w lim c⟩ =
 (Does PP 210 [D.bp 0 0,I sig] {box:=upd (fun _=>none) 0 (some (Row.lit [L w.sig 3 Sig.d,L w.gap 2 Iv.d,I w.fin,I lim,I c])),nl:=1,hw:=fun _=>none,nt:=0,vw:=fun _=>none:Heap} (I (jp w lim c sig)) (hM w lim (qg .i64 c 1))/\bif jp w lim c sig !=0 then K (.tup [I 0,I 0,I (jp w lim c sig)]) {box:=upd (fun _=>none) 0 (some (Row.lit [L w.sig 3 Sig.d,L w.gap 2 Iv.d,I w.fin,I lim,I (qg .i64 c 1)])),nl:=1,hw:=fun _=>none,nt:=0,vw:=fun _=>none:Heap} else(0<=sig/\sig<(↑w.sig.length:Int))/\True/\K (.tup [I (w.sig.getD sig.toNat default).kind,I (w.sig.getD sig.toNat default).width,I 0]) {box:=upd (fun _=>none) 0 (some (Row.lit [L w.sig 3 Sig.d,L w.gap 2 Iv.d,I w.fin,I lim,I (qg .i64 c 1)])),nl:=1,hw:=fun _=>none,nt:=0,vw:=fun _=>none:Heap}):=by kernel_rfl
theorem qxt[Lay](w:Wv)(lim c sig:Int):Does PP 206 [.bp 0 0,I sig] (hM w lim c) (.tup [I (qs w lim c sig).1,I (qs w lim c sig).2.1,I (qs w lim c sig).2.2]) (hM w lim (qg .i64 c 1)):=by
 refine du qy9 (by kernel_rfl) (of_eq (qrv w lim c sig _) ⟨qqy _ _ _ _,qa (fun h=> ?_) fun h=>⟨(p9 h).2,trivial,?_⟩⟩)
 ·have:¬jp w lim c sig=0:=by simpa using h
  rw[qs,if_neg this];exact RetLe.refl _ _
 ·have:jp w lim c sig=0:=by simpa using h
  rw[qs,if_pos this];exact RetLe.refl _ _
def vlR(w:Wv)(lim c sig t:Int):Str×Int:=if jp w lim c sig=0 then(if t<0\/t > w.fin then([],2) else(jd (qm w sig) t,0)) else([],jp w lim c sig)
theorem qza:OkF 208 Tryz.f208:=⟨by kernel_rfl,by kernel_rfl,by kernel_rfl⟩
def qrw:List (List Nat×List Nat):=[]
noncomputable def qzb(w:Wv)(lim:Int)(c:Int)(sig:Int)(t:Int):List Nat->Nat->Option Ans:=qf [([1,0,0],2,Ans.eff (I (jp w lim c sig)) (hM w lim (qg .i64 c 1))),([1,1,1,0],9,Ans.pure [(w.sig.getD sig.toNat default).d,I t] (.str (jd (w.sig.getD sig.toNat default) t)))]
theorem nVl[Lay](w:Wv)(lim c sig t:Int)(K:D->Heap->Prop):qn (En Tryz.f208) (fh Tryz.f208 K) (qzb w lim c sig t) qrw 200 [.code []] ⟨qc 0 [.bp 0 0,I sig,I t],hM w lim c⟩ =
 (Does PP 210 [D.bp 0 0,I sig] {box:=upd (fun _=>none) 0 (some (Row.lit [L w.sig 3 Sig.d,L w.gap 2 Iv.d,I w.fin,I lim,I c])),nl:=1,hw:=fun _=>none,nt:=0,vw:=fun _=>none:Heap} (I (jp w lim c sig)) (hM w lim (qg .i64 c 1))/\bif jp w lim c sig !=0 then K (.tup [.str {data:= #[]:ByteArray}.data.toList,I (jp w lim c sig)]) {box:=upd (fun _=>none) 0 (some (Row.lit [L w.sig 3 Sig.d,L w.gap 2 Iv.d,I w.fin,I lim,I (qg .i64 c 1)])),nl:=1,hw:=fun _=>none,nt:=0,vw:=fun _=>none:Heap} else bif bif decide (t<0) then true else decide (t > w.fin) then K (.tup [.str {data:= #[]:ByteArray}.data.toList,I 2]) {box:=upd (fun _=>none) 0 (some (Row.lit [L w.sig 3 Sig.d,L w.gap 2 Iv.d,I w.fin,I lim,I (qg .i64 c 1)])),nl:=1,hw:=fun _=>none,nt:=0,vw:=fun _=>none:Heap} else(0<=sig/\sig<(↑w.sig.length:Int))/\PureW PP 95 [(w.sig.getD sig.toNat default).d,I t] [(w.sig.getD sig.toNat default).d,I t] (.str (jd (w.sig.getD sig.toNat default) t))/\K (.tup [.str (jd (w.sig.getD sig.toNat default) t),I 0]) {box:=upd (fun _=>none) 0 (some (Row.lit [L w.sig 3 Sig.d,L w.gap 2 Iv.d,I w.fin,I lim,I (qg .i64 c 1)])),nl:=1,hw:=fun _=>none,nt:=0,vw:=fun _=>none:Heap}):=by kernel_rfl
theorem qzc[Lay](w:Wv)(lim c sig t:Int)(hw:(qm w sig).width<=1000000):Does PP 208 [.bp 0 0,I sig,I t] (hM w lim c) (.tup [.str (vlR w lim c sig t).1,I (vlR w lim c sig t).2]) (hM w lim (qg .i64 c 1)):=by
 refine du qza (by kernel_rfl) (of_eq (nVl w lim c sig t _) ⟨qqy _ _ _ _,qa (fun h=> ?_) fun h=>qa (fun h2=> ?_) fun h2=>⟨(p9 h).2,PureW.mk (c95 _ _ hw),?_⟩⟩)
 ·have:¬jp w lim c sig=0:=by simpa using h
  rw[vlR,if_neg this];exact RetLe.refl _ _
 ·have:jp w lim c sig=0:=by simpa using h
  have h3:t<0\/t > w.fin:=by
   by_cases h4:t<0
   ·exact .inl h4
   ·rw[show decide (t<0)=false by simpa using h4]at h2;exact .inr (by simpa using h2)
  rw[vlR,if_pos this,if_pos h3];exact RetLe.refl _ _
 ·have:jp w lim c sig=0:=by simpa using h
  have h3:¬(t<0\/t > w.fin):=by
   intro h4
   rcases h4 with h4|h4
   ·rw[show decide (t<0)=true by simpa using h4]at h2;cases h2
   ·cases h5:decide (t<0) with
    |true=>rw[h5]at h2;cases h2
    |false=>rw[h5]at h2;simp at h2;omega
  rw[vlR,if_pos this,if_neg h3];exact RetLe.refl _ _
def qbj(l:List Chg)(t:Int):Option Chg:=l.find? fun x=>decide (x.time > t)
def nxR(w:Wv)(lim c sig t:Int):Chg×Int:=if jp w lim c sig=0 then(if t < -1\/t > w.fin then(default,2) else match qbj (qm w sig).chg t with|some x=>(x,0)|none=>(default,6)) else(default,jp w lim c sig)
theorem qzd:OkF 207 Tryz.f207:=⟨by kernel_rfl,by kernel_rfl,by kernel_rfl⟩
def qow:List (List Nat×List Nat):=[([1,1,1,0,1,0],[2,6,38,39,40])]
noncomputable def qze(w:Wv)(lim:Int)(c:Int)(sig:Int):List Nat->Nat->Option Ans:=qf [([1,0,0],2,Ans.eff (I (jp w lim c sig)) (hM w lim (qg .i64 c 1)))]
theorem nNx[Lay](w:Wv)(lim c sig t:Int)(K:D->Heap->Prop):qn (En Tryz.f207) (fh Tryz.f207 K) (qze w lim c sig) qow 200 [.code []] ⟨qc 0 [.bp 0 0,I sig,I t],hM w lim c⟩ =
 (Does PP 210 [D.bp 0 0,I sig] {box:=upd (fun _=>none) 0 (some (Row.lit [L w.sig 3 Sig.d,L w.gap 2 Iv.d,I w.fin,I lim,I c])),nl:=1,hw:=fun _=>none,nt:=0,vw:=fun _=>none:Heap} (I (jp w lim c sig)) (hM w lim (qg .i64 c 1))/\bif jp w lim c sig !=0 then True/\K (.tup [.agg [I 0,.str {data:= #[]:ByteArray}.data.toList],I (jp w lim c sig)]) {box:=upd (fun _=>none) 0 (some (Row.lit [L w.sig 3 Sig.d,L w.gap 2 Iv.d,I w.fin,I lim,I (qg .i64 c 1)])),nl:=1,hw:=fun _=>none,nt:=0,vw:=fun _=>none:Heap} else bif bif decide (t < -1) then true else decide (t > w.fin) then True/\K (.tup [.agg [I 0,.str {data:= #[]:ByteArray}.data.toList],I 2]) {box:=upd (fun _=>none) 0 (some (Row.lit [L w.sig 3 Sig.d,L w.gap 2 Iv.d,I w.fin,I lim,I (qg .i64 c 1)])),nl:=1,hw:=fun _=>none,nt:=0,vw:=fun _=>none:Heap} else(0<=sig/\sig<(↑w.sig.length:Int))/\((w.sig.getD sig.toNat default).chg.length<=q8->At (En Tryz.f207) (fh Tryz.f207 K) [It.code [1,1,1,0,1,0],It.blk 0,It.code [1,1,1,1]] {sl:=[(2,I t),(6,.own [I 0,.str {data:= #[]:ByteArray}.data.toList]),(38,L (w.sig.getD sig.toNat default).chg 2 Chg.d),(39,I (↑(w.sig.getD sig.toNat default).chg.length:Int)),(40,I 0)],h:={box:=upd (fun _=>none) 0 (some (Row.lit [L w.sig 3 Sig.d,L w.gap 2 Iv.d,I w.fin,I lim,I (qg .i64 c 1)])),nl:=1,hw:=fun _=>none,nt:=0,vw:=fun _=>none:Heap}:St})):=by kernel_rfl
def SNx(w:Wv)(lim c sig t:Int)(i:Int):St:=⟨[(2,I t),(6,.own [I 0,.str []]),(38,L (w.sig.getD sig.toNat default).chg 2 Chg.d),(39,I (w.sig.getD sig.toNat default).chg.length),(40,I i)],hM w lim c⟩
noncomputable def qrx:List Nat->Nat->Option Ans:=qf []
theorem qzf[Lay](w:Wv)(lim c sig t i:Int)(J:St->Prop)(K:D->Heap->Prop):qn (En Tryz.f207) (fh Tryz.f207 K) (qrx ) qow 200 [.code [1,1,1,0,1,0,0],stp [2,6,38,39,40] J,.blk 0,.code [1,1,1,1]] (SNx w lim c sig t i)=
 (bif decide (i<(↑(w.sig.getD sig.toNat default).chg.length:Int)) then(0<=i/\i<(↑(w.sig.getD sig.toNat default).chg.length:Int))/\True/\bif decide (((w.sig.getD sig.toNat default).chg.getD i.toNat default).time > t) then True/\K (.tup [.agg [I ((w.sig.getD sig.toNat default).chg.getD i.toNat default).time,.str ((w.sig.getD sig.toNat default).chg.getD i.toNat default).val],I 0]) {box:=upd (fun _=>none) 0 (some (Row.lit [L w.sig 3 Sig.d,L w.gap 2 Iv.d,I w.fin,I lim,I c])),nl:=1,hw:=fun _=>none,nt:=0,vw:=fun _=>none:Heap} else J {sl:=[(2,I t),(6,.own [I 0,.str []]),(38,L (w.sig.getD sig.toNat default).chg 2 Chg.d),(39,I (↑(w.sig.getD sig.toNat default).chg.length:Int)),(40,I (qg .i64 i 1))],h:={box:=upd (fun _=>none) 0 (some (Row.lit [L w.sig 3 Sig.d,L w.gap 2 Iv.d,I w.fin,I lim,I c])),nl:=1,hw:=fun _=>none,nt:=0,vw:=fun _=>none:Heap}:St} else True/\K (.tup [.agg [I 0,.str {data:= #[]:ByteArray}.data.toList],I 6]) {box:=upd (fun _=>none) 0 (some (Row.lit [L w.sig 3 Sig.d,L w.gap 2 Iv.d,I w.fin,I lim,I c])),nl:=1,hw:=fun _=>none,nt:=0,vw:=fun _=>none:Heap}):=by kernel_rfl
theorem qzg[Lay](w:Wv)(lim c sig t:Int):Does PP 207 [.bp 0 0,I sig,I t] (hM w lim c) (.tup [(nxR w lim c sig t).1.d,I (nxR w lim c sig t).2]) (hM w lim (qg .i64 c 1)):=by
 refine du qzd (by kernel_rfl) (of_eq (nNx w lim c sig t _) ⟨qqy _ _ _ _,qa (fun h=>⟨trivial,?_⟩) fun h=>qa (fun h2=>⟨trivial,?_⟩) fun h2=>⟨(p9 h).2,fun hl=> ?_⟩⟩)
 ·have:¬jp w lim c sig=0:=by simpa using h
  rw[nxR,if_neg this];exact RetLe.refl _ _
 ·have:jp w lim c sig=0:=by simpa using h
  have h3:t < -1\/t > w.fin:=by
   by_cases h4:t < -1
   ·exact .inl h4
   ·rw[show decide (t < -1)=false by simpa using h4]at h2;exact .inr (by simpa using h2)
  rw[nxR,if_pos this,if_pos h3];exact RetLe.refl _ _
 ·have:jp w lim c sig=0:=by simpa using h
  have h3:¬(t < -1\/t > w.fin):=by
   intro h4
   rcases h4 with h4|h4
   ·rw[show decide (t < -1)=true by simpa using h4]at h2;cases h2
   ·cases h5:decide (t < -1) with
    |true=>rw[h5]at h2;cases h2
    |false=>rw[h5]at h2;simp at h2;omega
  rw[nxR,if_pos this,if_neg h3]
  refine lp (fn:=Tryz.f207) (fun i:Nat=>i<=(qm w sig).chg.length/\qbj (qm w sig).chg t=qbj ((qm w sig).chg.drop i) t) (fun i=>SNx w lim (qg .i64 c 1) sig t i) (fun i=>(qm w sig).chg.length-i) [2,6,38,39,40] (by kernel_rfl) (fun i hi=>of_eq (qzf w lim _ sig t i _ _) (qa (fun hlt=> ?_) fun hge=> ?_)) 0 ⟨Nat.zero_le _,rfl⟩
  ·have hlt:=ltI hlt
   obtain⟨_,he⟩:=hi
   rw[bi hlt hl,Int.toNat_natCast]
   rw[jb _ _ hlt]at he
   simp only[qbj,List.find?_cons]at he
   refine⟨⟨by omega,by omega⟩,trivial,qa (fun h5=>⟨trivial,?_⟩) fun h5=>Nx.mk (i+1) ⟨hlt,?_⟩ (Nat.sub_lt_sub_left hlt (Nat.lt_succ_self i))⟩
   ·rw[h5]at he
    simp only[qbj,he]
    exact RetLe.refl _ _
   ·rw[h5]at he
    simp only[qbj,he]
  ·have:=geI hge
   rw[hi.2,List.drop_of_length_le this]
   exact⟨trivial,RetLe.refl _ _⟩
theorem d6{α:Type}[Inhabited α](l:List α)(x:α):(l++[x]).getD l.length default=x:=by simp[List.getD]
theorem l4(a:List Sp)(x:Sp)(t:Int):zk (a++[x]) t=a++[⟨x.frm,t,x.val⟩]:=by
 unfold zk
 have:(a++[x]).length-1=a.length:=by simp
 rw[this,d6]
 simp
theorem qhj(a:List Sp)(x:Sp)(frm:Int)(v:Str):ph (a++[x]) frm v=if x.val=v then a++[x] else a++[⟨x.frm,qj .i64 frm 1,x.val⟩]++[⟨frm,0,v⟩]:=by
 unfold ph
 have h1:(a++[x]).length-1=a.length:=by simp
 rw[if_neg (by simp),h1,d6,l4]
theorem qm0(l:List Sp)(frm:Int)(v:Str):ph l frm v≠[]:=by
 unfold ph
 split
 ·simp
 ·split
  ·assumption
  ·simp
theorem qeb(l:List Sp)(frm:Int)(v:Str):(ph l frm v).length<=l.length+1:=by
 unfold ph
 split
 ·simp
 ·split
  ·omega
  ·simp[v8]
def cut(l:List Chg)(frm to:Int):List Chg:=l.filter fun x=>decide (x.time > frm)&&decide (x.time<=to)
def qhk(v:Str)(l:List Chg)(frm to:Int):List Sp:=zk (l.foldl (fun o x=>ph o x.time x.val) [⟨frm,0,v⟩]) to
def Inc:Int->List Chg->Prop
 |_,[]=>True
 |t,x::r=>t<x.time/\Inc x.time r
theorem Inc.mono{s t:Int}(h:s<=t):∀{l:List Chg},Inc t l->Inc s l
 | [],_=>trivial
 |_::_,⟨h1,h2⟩=>⟨by omega,h2⟩
theorem Inc.gt{t:Int}:∀{l:List Chg},Inc t l->∀x∈l,t<x.time
 | [],_,_,h=>by cases h
 |y::r,⟨h1,h2⟩,x,hx=>by
  rcases List.mem_cons.1 hx with rfl|hx
  ·exact h1
  ·have:=Inc.gt h2 x hx;omega
theorem oh:∀(l:List Chg) (v:Str) (t:Int),(∀x∈l,t<x.time)->xt v l t=v
 | [],_,_,_=>rfl
 |x::l,v,t,h=>by
  rw[vi,decide_eq_false (by have:=h x (List.mem_cons_self ..);omega)]
  exact oh l v t fun y hy=>h y (List.mem_cons_of_mem _ hy)
theorem qbk(v:Str)(a b:List Chg)(t:Int):xt v (a++b) t=xt (xt v a t) b t:=by simp[xt,List.foldl_append]
theorem Inc.split(t:Int):∀{s:Int} {l:List Chg},Inc s l->∃a b,l=a++b/\(∀x∈a,x.time<=t)/\Inc t b
 |_,[],_=>⟨[],[],rfl,fun _ h=>(by cases h),trivial⟩
 |s,x::l,⟨h1,h2⟩=>by
  by_cases h:x.time<=t
  ·obtain⟨a,b,e,ha,hb⟩:=Inc.split t h2
   exact⟨x::a,b,by rw[e];rfl,fun y hy=>by
    rcases List.mem_cons.1 hy with rfl|hy
    ·exact h
    ·exact ha y hy,hb⟩
  ·exact⟨[],x::l,rfl,fun _ h=>(by cases h),⟨by omega,h2⟩⟩
instance {ds:List D}[h:ROs ds]:RO (.ep ds):=⟨h.p⟩
abbrev xy:D:= .iface 36 (.bp 0 0)
abbrev qhl(w:Wv)(lim c:Int):Row:= .lit [L w.sig 3 Sig.d,L w.gap 2 Iv.d,I w.fin,I lim,I c]
def hE(w:Wv)(lim c e:Int):Heap:=⟨upd (upd (fun _=>none) 0 (some (.lit [L w.sig 3 Sig.d,L w.gap 2 Iv.d,I w.fin,I lim,I c]))) 1 (some (.lit [I e])),2,fun _=>none,0,fun _=>none⟩
theorem F86:OkF 86 Tryz.f86:=⟨by kernel_rfl,by kernel_rfl,by kernel_rfl⟩
def qzh:List (List Nat×List Nat):=[([1],[5,6,7,8,9])]
noncomputable def qhm:List Nat->Nat->Option Ans:=qf []
theorem qkh[Lay](w:Wv)(lim c e sig frm to:Int)(K:D->Heap->Prop):qn (En Tryz.f86) (fh Tryz.f86 K) (qhm ) qzh 200 [.code []] ⟨qc 0 [xy,I sig,I frm,I to,.bp 1 0],hE w lim c e⟩ =
 (At (En Tryz.f86) (fh Tryz.f86 K) [It.code [1]] {sl:=[(5,.own [D.iface 36 (D.bp 0 0)]),(6,.own [I sig]),(7,.own [I frm]),(8,.own [I to]),(9,.own [D.bp 1 0])],h:={box:=upd (upd (fun _=>none) 0 (some (Row.lit [L w.sig 3 Sig.d,L w.gap 2 Iv.d,I w.fin,I lim,I c]))) 1 (some (Row.lit [I e])),nl:=2,hw:=fun _=>none,nt:=0,vw:=fun _=>none:Heap}:St}):=by kernel_rfl
noncomputable def qf1:List Nat->Nat->Option Ans:=qf []
theorem qhn[Lay](w:Wv)(lim c e sig frm to:Int)(K:D->Heap->Prop):qn (En Tryz.f86) (fh Tryz.f86 K) (qf1 ) p8 200 [.code [1]] ⟨[(5,.ep [xy]),(6,.ep [I sig]),(7,.ep [I frm]),(8,.ep [I to]),(9,.ep [.bp 1 0])],hE w lim c e⟩ =
 (K (D.clo 129 [D.ep [I frm],D.ep [xy],D.ep [I sig],D.ep [D.bp 1 0],D.ep [I to]]) {box:=upd (upd (fun _=>none) 0 (some (Row.lit [L w.sig 3 Sig.d,L w.gap 2 Iv.d,I w.fin,I lim,I c]))) 1 (some (Row.lit [I e])),nl:=2,hw:=fun _=>none,nt:=0,vw:=fun _=>none:Heap}):=by kernel_rfl
theorem e86[Lay](w:Wv)(lim c e sig frm to:Int):Does PP 86 [.iface 36 (.bp 0 0),I sig,I frm,I to,.bp 1 0] (hE w lim c e) (.clo 129 [.ep [I frm],.ep [xy],.ep [I sig],.ep [.bp 1 0],.ep [I to]]) (hE w lim c e):=by
 refine du F86 (by kernel_rfl) (of_eq (qkh w lim c e sig frm to _) ?_)
 refine jc (qe jv _ _ _ (of_eq (qhn w lim c e sig frm to _) (RetLe.refl _ _))) ?_
 exact((((StLe.layOwn 5 rfl (by kernel_rfl)).trans (StLe.layOwn 6 rfl (by kernel_rfl))).trans (StLe.layOwn 7 rfl (by kernel_rfl))).trans (StLe.layOwn 8 rfl (by kernel_rfl))).trans (StLe.layOwn 9 rfl (by kernel_rfl))
def hO(w:Wv)(lim c e:Int)(out:List Sp)(q:qai):Heap :=
 ⟨upd (upd (upd (upd (fun _=>none) 0 (some (qhl w lim c))) 1 (some (.lit [I e]))) 2 (some (.lit [.vec 0 out.length 3]))) 3 (some (.loop q none)),4,
  upd (fun _=>none) 0 (some out.length),1,upd (fun _=>none) 0 (some (cv out Sp.d))⟩
def hT3(w:Wv)(lim c e:Int)(out:List Sp):Heap :=
 ⟨upd (upd (upd (fun _=>none) 0 (some (qhl w lim c))) 1 (some (.lit [I e]))) 2 (some (.lit [.vec 0 out.length 3])),4,upd (fun _=>none) 0 (some out.length),1,upd (fun _=>none) 0 (some (cv out Sp.d))⟩
theorem qlt{w:Wv}{lim c e:Int}{out:List Sp}{q:qai}:qca (hO w lim c e out q) 3=hT3 w lim c e out:=by
 have:upd (hO w lim c e out q).box 3 none=(hT3 w lim c e out).box:=by
  funext k;rcases k with _|_|_|_|k <;> rfl
 unfold qca
 rw[this];rfl
theorem qzi:OkF 129 Tryz.f129:=⟨by kernel_rfl,by kernel_rfl,by kernel_rfl⟩
def qm1:List (List Nat×List Nat):=[([1,0],[0,2,3,4,5,7])]
noncomputable def qzj:List Nat->Nat->Option Ans:=qf []
theorem nIt[Lay](w:Wv)(lim c e:Int)(out:List Sp)(q:qai)(sig frm to:Int)(K:D->Heap->Prop):qn (En Tryz.f129) (fh Tryz.f129 K) (qzj ) qm1 200 [.code []] ⟨qc 0 [.yl 3,.ep [I frm],.ep [xy],.ep [I sig],.ep [.bp 1 0],.ep [I to]],hO w lim c e out q⟩ =
 (At (En Tryz.f129) (fh Tryz.f129 K) [It.code [1,0],It.blk 0] {sl:=[(0,D.yl 3),(2,D.ep [xy]),(3,D.ep [I sig]),(4,D.ep [D.bp 1 0]),(5,D.ep [I to]),(7,I frm)],h:={box:=upd (upd (upd (upd (fun _=>none) 0 (some (Row.lit [L w.sig 3 Sig.d,L w.gap 2 Iv.d,I w.fin,I lim,I c]))) 1 (some (Row.lit [I e]))) 2 (some (Row.lit [D.vec 0 out.length 3]))) 3 (some (Row.loop q none)),nl:=4,hw:=upd (fun _=>none) 0 (some out.length),nt:=1,vw:=upd (fun _=>none) 0 (some (cv out Sp.d)):Heap}:St}):=by kernel_rfl
def SIt(w:Wv)(lim c e:Int)(out:List Sp)(q:qai)(sig to t:Int):St:=⟨[(0,.yl 3),(2,.ep [xy]),(3,.ep [I sig]),(4,.ep [.bp 1 0]),(5,.ep [I to]),(7,I t)],hO w lim c e out q⟩
noncomputable def qry(w:Wv)(lim:Int)(c:Int)(e:Int)(out:List Sp)(q:qai)(sig:Int)(t:Int):List Nat->Nat->Option Ans:=qf [([1,0,0,0,0],3,Ans.eff (ren (rnm [0] 4) (rnm [] 1) (.tup [(nxR w lim c sig t).fst.d,I (nxR w lim c sig t).snd])) (qh [0] [] {box:=upd (upd (upd (upd (fun _=>none) 0 (some (Row.lit [L w.sig 3 Sig.d,L w.gap 2 Iv.d,I w.fin,I lim,I c]))) 1 (some (Row.lit [I e]))) 2 (some (Row.lit [D.vec 0 out.length 3]))) 3 (some (Row.loop q none)),nl:=4,hw:=upd (fun _=>none) 0 (some out.length),nt:=1,vw:=upd (fun _=>none) 0 (some (cv out Sp.d)):Heap} (hM w lim (qg .i64 c 1))))]
theorem qzk[Lay](w:Wv)(lim c e:Int)(out:List Sp)(q:qai)(sig to t:Int)(J:St->Prop)(K:D->Heap->Prop):qn (En Tryz.f129) (fh Tryz.f129 K) (qry w lim c e out q sig t) qm1 200 [.code [1,0,0],stp [0,2,3,4,5,7] J,.blk 0] (SIt w lim c e out q sig to t)=
 (Does PP 207 [D.bp 0 0,I sig,I t] {box:=upd (upd (upd (upd (fun _=>none) 0 (some (Row.lit [L w.sig 3 Sig.d,L w.gap 2 Iv.d,I w.fin,I lim,I c]))) 1 (some (Row.lit [I e]))) 2 (some (Row.lit [D.vec 0 out.length 3]))) 3 (some (Row.loop q none)),nl:=4,hw:=upd (fun _=>none) 0 (some out.length),nt:=1,vw:=upd (fun _=>none) 0 (some (cv out Sp.d)):Heap} (ren (rnm [0] 4) (rnm [] 1) (.tup [(nxR w lim c sig t).fst.d,I (nxR w lim c sig t).snd])) (qh [0] [] {box:=upd (upd (upd (upd (fun _=>none) 0 (some (Row.lit [L w.sig 3 Sig.d,L w.gap 2 Iv.d,I w.fin,I lim,I c]))) 1 (some (Row.lit [I e]))) 2 (some (Row.lit [D.vec 0 out.length 3]))) 3 (some (Row.loop q none)),nl:=4,hw:=upd (fun _=>none) 0 (some out.length),nt:=1,vw:=upd (fun _=>none) 0 (some (cv out Sp.d)):Heap} (hM w lim (qg .i64 c 1)))/\
 True /\
  bif(nxR w lim c sig t).snd==6 then K (.tup []) {box:=upd (upd (upd (upd (upd (fun _=>none) 0 (some (Row.lit [L w.sig 3 Sig.d,L w.gap 2 Iv.d,I w.fin,I lim,I c]))) 1 (some (Row.lit [I e]))) 2 (some (Row.lit [D.vec 0 out.length 3]))) 3 (some (Row.loop q none))) 0 (some (Row.lit [L w.sig 3 Sig.d,L w.gap 2 Iv.d,I w.fin,I lim,I (qg .i64 c 1)])),nl:=4,hw:=upd (fun _=>none) 0 (some out.length),nt:=1,vw:=upd (fun _=>none) 0 (some (cv out Sp.d)):Heap}
  else
   bif(nxR w lim c sig t).snd !=0 then True/\K (.tup []) {box:=upd (upd (upd (upd (upd (upd (fun _=>none) 0 (some (Row.lit [L w.sig 3 Sig.d,L w.gap 2 Iv.d,I w.fin,I lim,I c]))) 1 (some (Row.lit [I e]))) 2 (some (Row.lit [D.vec 0 out.length 3]))) 3 (some (Row.loop q none))) 0 (some (Row.lit [L w.sig 3 Sig.d,L w.gap 2 Iv.d,I w.fin,I lim,I (qg .i64 c 1)]))) 1 (some (Row.lit [I (nxR w lim c sig t).snd])),nl:=4,hw:=upd (fun _=>none) 0 (some out.length),nt:=1,vw:=upd (fun _=>none) 0 (some (cv out Sp.d)):Heap}
   else
    bif decide ((nxR w lim c sig t).fst.time<=t) then True/\K (.tup []) {box:=upd (upd (upd (upd (upd (upd (fun _=>none) 0 (some (Row.lit [L w.sig 3 Sig.d,L w.gap 2 Iv.d,I w.fin,I lim,I c]))) 1 (some (Row.lit [I e]))) 2 (some (Row.lit [D.vec 0 out.length 3]))) 3 (some (Row.loop q none))) 0 (some (Row.lit [L w.sig 3 Sig.d,L w.gap 2 Iv.d,I w.fin,I lim,I (qg .i64 c 1)]))) 1 (some (Row.lit [I 12])),nl:=4,hw:=upd (fun _=>none) 0 (some out.length),nt:=1,vw:=upd (fun _=>none) 0 (some (cv out Sp.d)):Heap}
    else
     bif !decide ((nxR w lim c sig t).fst.time > to) then
      CallY PP 3 [.agg [I (nxR w lim c sig t).fst.time,.str (nxR w lim c sig t).fst.val]] {box:=upd (upd (upd (upd (upd (fun _=>none) 0 (some (Row.lit [L w.sig 3 Sig.d,L w.gap 2 Iv.d,I w.fin,I lim,I c]))) 1 (some (Row.lit [I e]))) 2 (some (Row.lit [D.vec 0 out.length 3]))) 3 (some (Row.loop q none))) 0 (some (Row.lit [L w.sig 3 Sig.d,L w.gap 2 Iv.d,I w.fin,I lim,I (qg .i64 c 1)])),nl:=4,hw:=upd (fun _=>none) 0 (some out.length),nt:=1,vw:=upd (fun _=>none) 0 (some (cv out Sp.d)):Heap} fun v h' =>
       At (En Tryz.f129) (fh Tryz.f129 K) [It.ops [1,0,0,0,1,0,0,1,1,1,1,1,1,0] 8,It.code [1,0,0,0,1,0,0,1,1,1,1,1,1,1],It.blk 2,It.code [1,0,0,0,1,1],It.blk 1,stp [0,2,3,4,5,7] J,It.blk 0] {sl:=[(42,bif xf (D.may 4 false v) 42 then D.junk else D.may 4 false v),(41,D.may 4 false (.agg [I (nxR w lim c sig t).fst.time,.str (nxR w lim c sig t).fst.val])),(40,D.may 4 false (D.yl 3)),(39,B (decide ((nxR w lim c sig t).fst.time > to))),(38,B (decide ((nxR w lim c sig t).fst.time > to))),(37,I to),(36,I (nxR w lim c sig t).fst.time),(35,D.lp 8 0),(27,B (decide ((nxR w lim c sig t).fst.time<=t))),(31,B (decide ((nxR w lim c sig t).fst.time<=t))),(30,I t),(29,I (nxR w lim c sig t).fst.time),(21,B ((nxR w lim c sig t).snd !=0)),(23,B ((nxR w lim c sig t).snd !=0)),(22,I (nxR w lim c sig t).snd),(18,B ((nxR w lim c sig t).snd==6)),(20,B ((nxR w lim c sig t).snd==6)),(19,I (nxR w lim c sig t).snd),(9,I (nxR w lim c sig t).snd),(8,.own [I (nxR w lim c sig t).fst.time,.str (nxR w lim c sig t).fst.val]),(17,I (nxR w lim c sig t).snd),(16,.agg [I (nxR w lim c sig t).fst.time,.str (nxR w lim c sig t).fst.val]),(11,.tup [.agg [I (nxR w lim c sig t).fst.time,.str (nxR w lim c sig t).fst.val],I (nxR w lim c sig t).snd]),(15,.tup [.agg [I (nxR w lim c sig t).fst.time,.str (nxR w lim c sig t).fst.val],I (nxR w lim c sig t).snd]),(14,I t),(13,I sig),(12,D.iface 36 (D.bp 0 0)),(0,D.yl 3),(2,D.ep [xy]),(3,D.ep [I sig]),(4,D.ep [D.bp 1 0]),(5,D.ep [I to]),(7,I t)],h:=h':St}
     else bif bif decide ((nxR w lim c sig t).fst.time > to) then true else false then K (.tup []) {box:=upd (upd (upd (upd (upd (fun _=>none) 0 (some (Row.lit [L w.sig 3 Sig.d,L w.gap 2 Iv.d,I w.fin,I lim,I c]))) 1 (some (Row.lit [I e]))) 2 (some (Row.lit [D.vec 0 out.length 3]))) 3 (some (Row.loop q none))) 0 (some (Row.lit [L w.sig 3 Sig.d,L w.gap 2 Iv.d,I w.fin,I lim,I (qg .i64 c 1)])),nl:=4,hw:=upd (fun _=>none) 0 (some out.length),nt:=1,vw:=upd (fun _=>none) 0 (some (cv out Sp.d)):Heap} else J {sl:=[(0,D.yl 3),(2,D.ep [xy]),(3,D.ep [I sig]),(4,D.ep [D.bp 1 0]),(5,D.ep [I to]),(7,I (nxR w lim c sig t).fst.time)],h:={box:=upd (upd (upd (upd (upd (fun _=>none) 0 (some (Row.lit [L w.sig 3 Sig.d,L w.gap 2 Iv.d,I w.fin,I lim,I c]))) 1 (some (Row.lit [I e]))) 2 (some (Row.lit [D.vec 0 out.length 3]))) 3 (some (Row.loop q none))) 0 (some (Row.lit [L w.sig 3 Sig.d,L w.gap 2 Iv.d,I w.fin,I lim,I (qg .i64 c 1)])),nl:=4,hw:=upd (fun _=>none) 0 (some out.length),nt:=1,vw:=upd (fun _=>none) 0 (some (cv out Sp.d)):Heap}:St}):=by kernel_rfl
noncomputable def qrz:List Nat->Nat->Option Ans:=qf []
theorem qzl[Lay](h:Heap)(x:Chg)(f sig to t:Int)(J:St->Prop)(K:D->Heap->Prop):qn (En Tryz.f129) (fh Tryz.f129 K) (qrz ) qm1 200 [.ops [1,0,0,0,1,0,0,1,1,1,1,1,1,0] 8,.code [1,0,0,0,1,0,0,1,1,1,1,1,1,1],.blk 2,.code [1,0,0,0,1,1],.blk 1,stp [0,2,3,4,5,7] J,.blk 0] ⟨[(42,.may 4 false (B true)),(41,.may 4 false (.agg [I x.time,.str x.val])),(40,.may 4 false (.yl 3)),(39,B (decide (x.time > to))),(38,B (decide (x.time > to))),(37,I to),(36,I x.time),(35,.lp 8 0),(27,B (decide (x.time<=t))),(31,B (decide (x.time<=t))),(30,I t),(29,I x.time),(21,B (f !=0)),(23,B (f !=0)),(22,I f),(18,B (f==6)),(20,B (f==6)),(19,I f),(9,I f),(8,.own [I x.time,.str x.val]),(17,I f),(16,.agg [I x.time,.str x.val]),(11,.tup [.agg [I x.time,.str x.val],I f]),(15,.tup [.agg [I x.time,.str x.val],I f]),(14,I t),(13,I sig),(12,.iface 36 (.bp 0 0)),(0,.yl 3),(2,.ep [xy]),(3,.ep [I sig]),(4,.ep [.bp 1 0]),(5,.ep [I to]),(7,I t)],h⟩ =
 (bif bif decide (x.time > to) then true else false then K (.tup []) h else J {sl:=[(0,D.yl 3),(2,D.ep [xy]),(3,D.ep [I sig]),(4,D.ep [D.bp 1 0]),(5,D.ep [I to]),(7,I x.time)],h:=h:St}):=by kernel_rfl
def qjg(lim c:Int):Bool:=bif decide (lim>=0) then decide (qg .i64 c 1 > lim) else false
def itR(lim to:Int):List Chg->Int->List Sp->List Sp×Int×Int
 | [],c,out=>(out,qg .i64 c 1,bif qjg lim c then 14 else 0)
 |x::cs,c,out=>bif qjg lim c then(out,qg .i64 c 1,14) else bif decide (x.time > to) then(out,qg .i64 c 1,0) else itR lim to cs (qg .i64 c 1) (ph out x.time x.val)
theorem qqz{w:Wv}{lim c c' e:Int}{out:List Sp}{q:qai}:(⟨upd (hO w lim c e out q).box 0 (some (qhl w lim c')),4,(hO w lim c e out q).hw,1,(hO w lim c e out q).vw⟩:Heap)=hO w lim c' e out q:=by
 have:upd (hO w lim c e out q).box 0 (some (qhl w lim c'))=(hO w lim c' e out q).box:=by
  funext k;rcases k with _|_|_|_|k <;> rfl
 rw[this];rfl
theorem qzm{w:Wv}{lim c e e':Int}{out:List Sp}{q:qai}:(⟨upd (hO w lim c e out q).box 1 (some (.lit [I e'])),4,(hO w lim c e out q).hw,1,(hO w lim c e out q).vw⟩:Heap)=hO w lim c e' out q:=by
 have:upd (hO w lim c e out q).box 1 (some (.lit [I e']))=(hO w lim c e' out q).box:=by
  funext k;rcases k with _|_|_|_|k <;> rfl
 rw[this];rfl
theorem qec{w:Wv}{lim c sig:Int}(h:0<=sig/\sig<(w.sig.length:Int)):jp w lim c sig=bif qjg lim c then 14 else 0:=by
 unfold jp qjg
 rw[decide_eq_false (show ¬sig<0 by omega),decide_eq_false (show ¬sig>=(w.sig.length:Int) by omega)]
 rfl
theorem qho{a b:List Chg}{t:Int}(ha:∀x∈a,x.time<=t)(hb:Inc t b):qbj (a++b) t=b.head? :=by
 unfold qbj
 rw[List.find?_append,List.find?_eq_none.2 fun x hx=>by have:=ha x hx;simp;omega]
 cases b with
 |nil=>rfl
 |cons x r=>simp[hb.1]
theorem qox{w:Wv}{lim c sig t:Int}(h:0<=sig/\sig<(w.sig.length:Int))(ht : -1<=t/\t<=w.fin){a b:List Chg}(e:(qm w sig).chg=a++b)(ha:∀x∈a,x.time<=t)(hb:Inc t b) :
  nxR w lim c sig t=bif qjg lim c then(default,(14:Int)) else match b with|x::_=>(x,(0:Int)) | []=>(default,(6:Int)):=by
 unfold nxR
 rw[qec h]
 cases hv:qjg lim c with
 |true=>rfl
 |false =>
  simp only[cond_false,if_true]
  rw[if_neg (by omega),e,qho ha hb]
  cases b <;> rfl
theorem qoy[Lay](w:Wv)(lim:Int)(q:qai)(sig frm to:Int)(hs:0<=sig/\sig<(w.sig.length:Int))(hf:0<=frm)(hft:frm<=to)(ht:to<=w.fin){a b:List Chg}(e:(qm w sig).chg=a++b)(ha:∀x∈a,x.time<=frm)(hb:Inc frm b)
  (hy:∀(c:Int) (out:List Sp) (x:Chg) (K:D->Heap->Prop),out.length<=1000->K (.bool true) (hO w lim c 0 (ph out x.time x.val) q)->CallY PP 3 [x.d] (hO w lim c 0 out q) K) (c:Int) (out:List Sp) (hl:out.length+b.length<=1000) :
  CallA PP 129 [.yl 3,.ep [I frm],.ep [xy],.ep [I sig],.ep [.bp 1 0],.ep [I to]] (hO w lim c 0 out q) fun _ h=>h=hO w lim (itR lim to b c out).2.1 (itR lim to b c out).2.2 (itR lim to b c out).1 q:=by
 have o:=qzi
 refine y9 jv o.hf o.hb o.hn (by kernel_rfl) (of_eq (nIt w lim c 0 out q sig frm to _) ?_)
 refine lp (fn:=Tryz.f129) (fun z:Int×List Chg×List Chg×Int×List Sp=>0<=z.1/\z.1<=to/\(qm w sig).chg=z.2.1++z.2.2.1/\(∀x∈z.2.1,x.time<=z.1)/\Inc z.1 z.2.2.1/\z.2.2.2.2.length+z.2.2.1.length<=1000/\itR lim to b c out=itR lim to z.2.2.1 z.2.2.2.1 z.2.2.2.2)
  (fun z=>SIt w lim z.2.2.2.1 0 z.2.2.2.2 q sig to z.1) (fun z=>z.2.2.1.length) [0,2,3,4,5,7] (by kernel_rfl) (fun z hz=>of_eq (qzk w lim z.2.2.2.1 0 z.2.2.2.2 q sig to z.1 _ _) ?_) (frm,a,b,c,out) ⟨hf,hft,e,ha,hb,hl,rfl⟩
 obtain⟨t,a,b',c',out'⟩:=z
 obtain⟨h1,h2,h3,h4,h5,h6,h7⟩:=hz
 simp only at h1 h2 h3 h4 h5 h6 h7⊢
 rw[h7]
 have hn:=qox (lim:=lim) (c:=c') hs ⟨by omega,by omega⟩ h3 h4 h5
 refine⟨fr (qzg w lim c' sig t) [0] [],trivial,?_⟩
 rw[hn]
 cases hv:qjg lim c' with
 |true =>
  simp only[cond_true]
  refine⟨trivial,?_⟩
  have:itR lim to b' c' out'=(out',qg .i64 c' 1,14):=by cases b' <;> simp only[itR,hv,cond_true]
  rw[this]
  exact(congrArg (fun h:Heap=>(⟨upd h.box 1 (some (.lit [I 14])),4,h.hw,1,h.vw⟩:Heap)) (qqz (c':=qg .i64 c' 1))).trans qzm
 |false =>
  simp only[cond_false]
  cases b' with
  |nil =>
   simp only[itR,hv,cond_false]
   exact qqz
  |cons x cs =>
   obtain⟨g1,g2⟩:=h5
   refine qa (fun h=>by simp at h) fun _=>qa (fun h=>by simp at h) fun _=>qa (fun h=>by simp at h;omega) fun _=>qa (fun hx=> ?_) fun hx=> ?_
   ·have hx':decide (x.time > to)=false:=by simpa using hx
    have hin:x.time<=to:=by simpa using hx'
    have hit:itR lim to (x::cs) c' out'=itR lim to cs (qg .i64 c' 1) (ph out' x.time x.val):=by simp only[itR,hv,hx',cond_false]
    rw[hit]
    have e0:=qqz (w:=w) (lim:=lim) (c:=c') (c':=qg .i64 c' 1) (e:=0) (out:=out') (q:=q)
    refine of_eq (congrArg (fun h=>CallY PP 3 [x.d] h _) e0) (hy _ out' x _ (by omega) ?_)
    refine qe jv _ _ _ (of_eq (qzl (hO w lim (qg .i64 c' 1) 0 (ph out' x.time x.val) q) x 0 sig to t _ _) ?_)
    rw[hx']
    simp only[cond_false]
    refine Nx.mk (x.time,a++[x],cs,qg .i64 c' 1,ph out' x.time x.val) ⟨by omega,hin,by rw[h3];simp,fun y hy=> ?_,g2,?_,?_⟩ (by simp)
    ·rcases List.mem_append.1 hy with h|h
     ·have:=h4 y h;simp only;omega
     ·rw[List.mem_singleton.1 h];exact Int.le_refl _
    ·have:=qeb out' x.time x.val
     simp only[List.length_cons]at h6⊢;omega
    ·rfl
   ·have hx':decide (x.time > to)=true:=by simpa using hx
    have hit:itR lim to (x::cs) c' out'=(out',qg .i64 c' 1,0):=by simp only[itR,hv,hx',cond_false,cond_true]
    rw[hit,hx']
    exact qqz
theorem F54:OkF 54 Tryz.f54:=⟨by kernel_rfl,by kernel_rfl,by kernel_rfl⟩
abbrev nilL:D:= .list 0 0 (fun _=> .junk) .full
def hS(w:Wv)(lim c e:Int)(out:List Sp):Heap :=
 ⟨upd (upd (upd (fun _=>none) 0 (some (qhl w lim c))) 1 (some (.lit [I e]))) 2 (some (.lit [.vec 0 out.length 3])),3,upd (fun _=>none) 0 (some out.length),1,upd (fun _=>none) 0 (some (cv out Sp.d))⟩
def lvA:List (List Nat×List Nat):=[([1,0,1],[0,1,2,3,8,9,28])]
def lvB:List (List Nat×List Nat):=[([1,1,1],[0,1,2,3,8,9,10,12])]
def lvC:List (List Nat×List Nat):=[([1,1,1,1],[0,1,2,3,8,9,12])]
def lvD:List (List Nat×List Nat):=[([1,1,1,1,1],[0,1,2,3,8,9,12,13])]
def lvE:List (List Nat×List Nat):=[([1,1,1,1,1,1],[0,1,2,3,8,9,12,13])]
def lvF:List (List Nat×List Nat):=[([1,1,1,1,1,1,1,0,1,0],[3,8,9,12,14,60])]
noncomputable def qr0(w:Wv)(lim:Int)(c:Int):List Nat->Nat->Option Ans:=qf [([1,0,0],10,Ans.eff (I w.fin) (hM w lim c))]
theorem qzn[Lay](w:Wv)(lim c sig frm to:Int)(K:D->Heap->Prop):qn (EnX [12,14] Tryz.f54) (fh Tryz.f54 K) (qr0 w lim c) lvA 200 [.code []] ⟨qc 0 [xy,I sig,I frm,I to],hM w lim c⟩ =
 (bif !bif decide (frm<0) then true else decide (frm > to) then Does PP 205 [D.bp 0 0] {box:=upd (fun _=>none) 0 (some (Row.lit [L w.sig 3 Sig.d,L w.gap 2 Iv.d,I w.fin,I lim,I c])),nl:=1,hw:=fun _=>none,nt:=0,vw:=fun _=>none:Heap} (I w.fin) (hM w lim c)/\At (EnX [12,14] Tryz.f54) (fh Tryz.f54 K) [It.code [1,0,1],It.code [1,1]] {sl:=[(0,xy),(1,I sig),(2,I frm),(3,I to),(8,.own [.list 0 0 (fun _=>D.junk) .full]),(9,.own [I 0]),(28,B (bif bif decide (frm<0) then true else decide (frm > to) then true else decide (to > w.fin)))],h:={box:=upd (fun _=>none) 0 (some (Row.lit [L w.sig 3 Sig.d,L w.gap 2 Iv.d,I w.fin,I lim,I c])),nl:=1,hw:=fun _=>none,nt:=0,vw:=fun _=>none:Heap}:St} else At (EnX [12,14] Tryz.f54) (fh Tryz.f54 K) [It.code [1,0,1],It.code [1,1]] {sl:=[(0,xy),(1,I sig),(2,I frm),(3,I to),(8,.own [.list 0 0 (fun _=>D.junk) .full]),(9,.own [I 0]),(28,B (bif bif decide (frm<0) then true else decide (frm > to) then true else decide (to > w.fin)))],h:={box:=upd (fun _=>none) 0 (some (Row.lit [L w.sig 3 Sig.d,L w.gap 2 Iv.d,I w.fin,I lim,I c])),nl:=1,hw:=fun _=>none,nt:=0,vw:=fun _=>none:Heap}:St}):=by kernel_rfl
noncomputable def qr1(w:Wv)(lim:Int)(c:Int)(sig:Int):List Nat->Nat->Option Ans:=qf [([1,1,0],2,Ans.eff (.tup [I (qs w lim c sig).fst,I (qs w lim c sig).snd.fst,I (qs w lim c sig).snd.snd]) (hM w lim (qg .i64 c 1)))]
theorem qzo[Lay](w:Wv)(lim c sig frm to:Int)(b:Bool)(K:D->Heap->Prop):qn (EnX [12,14] Tryz.f54) (fh Tryz.f54 K) (qr1 w lim c sig) lvB 200 [.code [1,0,1],.code [1,1]] ⟨[(0,xy),(1,I sig),(2,I frm),(3,I to),(8,.own [nilL]),(9,.own [I 0]),(28,B b)],hM w lim c⟩ =
 (bif b then True/\True/\K (.tup [.list 0 0 (fun _=>D.junk) .full,I 2]) {box:=upd (fun _=>none) 0 (some (Row.lit [L w.sig 3 Sig.d,L w.gap 2 Iv.d,I w.fin,I lim,I c])),nl:=1,hw:=fun _=>none,nt:=0,vw:=fun _=>none:Heap} else Does PP 206 [D.bp 0 0,I sig] {box:=upd (fun _=>none) 0 (some (Row.lit [L w.sig 3 Sig.d,L w.gap 2 Iv.d,I w.fin,I lim,I c])),nl:=1,hw:=fun _=>none,nt:=0,vw:=fun _=>none:Heap} (.tup [I (qs w lim c sig).fst,I (qs w lim c sig).snd.fst,I (qs w lim c sig).snd.snd]) (hM w lim (qg .i64 c 1))/\True/\True/\At (EnX [12,14] Tryz.f54) (fh Tryz.f54 K) [It.code [1,1,1]] {sl:=[(0,xy),(1,I sig),(2,I frm),(3,I to),(8,.own [nilL]),(9,.own [I 0]),(10,I (qs w lim c sig).fst),(12,D.bp 1 0)],h:={box:=upd (upd (upd (fun _=>none) 0 (some (Row.lit [L w.sig 3 Sig.d,L w.gap 2 Iv.d,I w.fin,I lim,I (qg .i64 c 1)]))) 1 (some (Row.lit [I 0]))) 1 (some (Row.lit [I (qs w lim c sig).snd.snd])),nl:=2,hw:=fun _=>none,nt:=0,vw:=fun _=>none:Heap}:St}):=by kernel_rfl
noncomputable def qr2:List Nat->Nat->Option Ans:=qf []
theorem qzp[Lay](w:Wv)(lim c e sig frm to kind:Int)(K:D->Heap->Prop):qn (EnX [12,14] Tryz.f54) (fh Tryz.f54 K) (qr2 ) lvC 200 [.code [1,1,1]] ⟨[(0,xy),(1,I sig),(2,I frm),(3,I to),(8,.own [nilL]),(9,.own [I 0]),(10,I kind),(12,.bp 1 0)],hE w lim c e⟩ =
 (bif e !=0 then True/\True/\K (.tup [.list 0 0 (fun _=>D.junk) .full,I e]) {box:=upd (upd (fun _=>none) 0 (some (Row.lit [L w.sig 3 Sig.d,L w.gap 2 Iv.d,I w.fin,I lim,I c]))) 1 (some (Row.lit [I e])),nl:=2,hw:=fun _=>none,nt:=0,vw:=fun _=>none:Heap} else bif kind==3 then True/\True/\K (.tup [.list 0 0 (fun _=>D.junk) .full,I 7]) {box:=upd (upd (fun _=>none) 0 (some (Row.lit [L w.sig 3 Sig.d,L w.gap 2 Iv.d,I w.fin,I lim,I c]))) 1 (some (Row.lit [I e])),nl:=2,hw:=fun _=>none,nt:=0,vw:=fun _=>none:Heap} else At (EnX [12,14] Tryz.f54) (fh Tryz.f54 K) [It.code [1,1,1,1]] {sl:=[(0,xy),(1,I sig),(2,I frm),(3,I to),(8,.own [nilL]),(9,.own [I 0]),(12,D.bp 1 0)],h:={box:=upd (upd (fun _=>none) 0 (some (Row.lit [L w.sig 3 Sig.d,L w.gap 2 Iv.d,I w.fin,I lim,I c]))) 1 (some (Row.lit [I e])),nl:=2,hw:=fun _=>none,nt:=0,vw:=fun _=>none:Heap}:St}):=by kernel_rfl
noncomputable def qr3(w:Wv)(lim:Int)(c:Int)(e:Int)(sig:Int)(frm:Int):List Nat->Nat->Option Ans:=qf [([1,1,1,1,0],3,Ans.eff (ren (rnm [0] 2) (rnm [] 0) (.tup [.str (vlR w lim c sig frm).fst,I (vlR w lim c sig frm).snd])) (qh [0] [] {box:=upd (upd (fun _=>none) 0 (some (Row.lit [L w.sig 3 Sig.d,L w.gap 2 Iv.d,I w.fin,I lim,I c]))) 1 (some (Row.lit [I e])),nl:=2,hw:=fun _=>none,nt:=0,vw:=fun _=>none:Heap} (hM w lim (qg .i64 c 1))))]
theorem qzq[Lay](w:Wv)(lim c e sig frm to:Int)(K:D->Heap->Prop):qn (EnX [12,14] Tryz.f54) (fh Tryz.f54 K) (qr3 w lim c e sig frm) lvD 200 [.code [1,1,1,1]] ⟨[(0,xy),(1,I sig),(2,I frm),(3,I to),(8,.own [nilL]),(9,.own [I 0]),(12,.bp 1 0)],hE w lim c e⟩ =
 (Does PP 208 [D.bp 0 0,I sig,I frm] {box:=upd (upd (fun _=>none) 0 (some (Row.lit [L w.sig 3 Sig.d,L w.gap 2 Iv.d,I w.fin,I lim,I c]))) 1 (some (Row.lit [I e])),nl:=2,hw:=fun _=>none,nt:=0,vw:=fun _=>none:Heap} (ren (rnm [0] 2) (rnm [] 0) (.tup [.str (vlR w lim c sig frm).fst,I (vlR w lim c sig frm).snd])) (qh [0] [] {box:=upd (upd (fun _=>none) 0 (some (Row.lit [L w.sig 3 Sig.d,L w.gap 2 Iv.d,I w.fin,I lim,I c]))) 1 (some (Row.lit [I e])),nl:=2,hw:=fun _=>none,nt:=0,vw:=fun _=>none:Heap} (hM w lim (qg .i64 c 1)))/\True/\At (EnX [12,14] Tryz.f54) (fh Tryz.f54 K) [It.code [1,1,1,1,1]] {sl:=[(0,xy),(1,I sig),(2,I frm),(3,I to),(8,.own [nilL]),(9,.own [I 0]),(12,D.bp 1 0),(13,.str (vlR w lim c sig frm).fst)],h:={box:=upd (upd (upd (upd (fun _=>none) 0 (some (Row.lit [L w.sig 3 Sig.d,L w.gap 2 Iv.d,I w.fin,I lim,I c]))) 1 (some (Row.lit [I e]))) 0 (some (Row.lit [L w.sig 3 Sig.d,L w.gap 2 Iv.d,I w.fin,I lim,I (qg .i64 c 1)]))) 1 (some (Row.lit [I (vlR w lim c sig frm).snd])),nl:=2,hw:=fun _=>none,nt:=0,vw:=fun _=>none:Heap}:St}):=by kernel_rfl
noncomputable def qr4:List Nat->Nat->Option Ans:=qf []
theorem qzr[Lay](w:Wv)(lim c e sig frm to:Int)(v:Str)(K:D->Heap->Prop):qn (EnX [12,14] Tryz.f54) (fh Tryz.f54 K) (qr4 ) lvE 200 [.code [1,1,1,1,1]] ⟨[(0,xy),(1,I sig),(2,I frm),(3,I to),(8,.own [nilL]),(9,.own [I 0]),(12,.bp 1 0),(13,.str v)],hE w lim c e⟩ =
 (bif e !=0 then True/\True/\K (.tup [.list 0 0 (fun _=>D.junk) .full,I e]) {box:=upd (upd (fun _=>none) 0 (some (Row.lit [L w.sig 3 Sig.d,L w.gap 2 Iv.d,I w.fin,I lim,I c]))) 1 (some (Row.lit [I e])),nl:=2,hw:=fun _=>none,nt:=0,vw:=fun _=>none:Heap} else At (EnX [12,14] Tryz.f54) (fh Tryz.f54 K) [It.code [1,1,1,1,1,1]] {sl:=[(0,xy),(1,I sig),(2,I frm),(3,I to),(8,.own [nilL]),(9,.own [I 0]),(12,D.bp 1 0),(13,.str v)],h:={box:=upd (upd (fun _=>none) 0 (some (Row.lit [L w.sig 3 Sig.d,L w.gap 2 Iv.d,I w.fin,I lim,I c]))) 1 (some (Row.lit [I e])),nl:=2,hw:=fun _=>none,nt:=0,vw:=fun _=>none:Heap}:St}):=by kernel_rfl
noncomputable def qr5(w:Wv)(lim:Int)(c:Int)(e:Int)(sig:Int)(frm:Int)(to:Int)(v:Str):List Nat->Nat->Option Ans:=qf [([1,1,1,1,1,1,0],2,Ans.eff (ren (rnm [] 2) (rnm [] 0) (D.vec 0 1 3)) (qh [] [] {box:=upd (upd (fun _=>none) 0 (some (Row.lit [L w.sig 3 Sig.d,L w.gap 2 Iv.d,I w.fin,I lim,I c]))) 1 (some (Row.lit [I e])),nl:=2,hw:=fun _=>none,nt:=0,vw:=fun _=>none:Heap} (zn [{frm:=frm,to:=0,val:=v:Sp}] Sp.d))),([1,1,1,1,1,1,1,0,0],4,Ans.eff (ren (rnm [0,1] 3) (rnm [] 1) (D.clo 129 [D.ep [I frm],D.ep [xy],D.ep [I sig],D.ep [D.bp 1 0],D.ep [I to]])) (qh [0,1] [] {box:=upd (upd (upd (upd (fun _=>none) 0 (some (Row.lit [L w.sig 3 Sig.d,L w.gap 2 Iv.d,I w.fin,I lim,I c]))) 1 (some (Row.lit [I e]))) 2 (some (Row.lit [.list 0 0 (fun _=>D.junk) .full]))) 2 (some (Row.lit [D.vec 0 1 3])),nl:=3,hw:=upd (fun _=>none) 0 (some [{frm:=frm,to:=0,val:=v:Sp}].length),nt:=1,vw:=upd (fun _=>none) 0 (some (cv [{frm:=frm,to:=0,val:=v:Sp}] Sp.d)):Heap} (hE w lim c e)))]
theorem qzs[Lay](w:Wv)(lim c e sig frm to:Int)(v:Str)(K:D->Heap->Prop):qn (EnX [12,14] Tryz.f54) (fh Tryz.f54 K) (qr5 w lim c e sig frm to v) lvF 200 [.code [1,1,1,1,1,1]] ⟨[(0,xy),(1,I sig),(2,I frm),(3,I to),(8,.own [nilL]),(9,.own [I 0]),(12,.bp 1 0),(13,.str v)],hE w lim c e⟩ =
 (Does PP 85 [.list 0 0 (fun _=>D.junk) .full,I frm,.str v] {box:=upd (upd (fun _=>none) 0 (some (Row.lit [L w.sig 3 Sig.d,L w.gap 2 Iv.d,I w.fin,I lim,I c]))) 1 (some (Row.lit [I e])),nl:=2,hw:=fun _=>none,nt:=0,vw:=fun _=>none:Heap} (ren (rnm [] 2) (rnm [] 0) (D.vec 0 1 3)) (qh [] [] {box:=upd (upd (fun _=>none) 0 (some (Row.lit [L w.sig 3 Sig.d,L w.gap 2 Iv.d,I w.fin,I lim,I c]))) 1 (some (Row.lit [I e])),nl:=2,hw:=fun _=>none,nt:=0,vw:=fun _=>none:Heap} (zn [{frm:=frm,to:=0,val:=v:Sp}] Sp.d))/\
 True /\
  True /\
   Does PP 86 [D.iface 36 (D.bp 0 0),I sig,I frm,I to,D.bp 1 0] {box:=upd (upd (upd (upd (fun _=>none) 0 (some (Row.lit [L w.sig 3 Sig.d,L w.gap 2 Iv.d,I w.fin,I lim,I c]))) 1 (some (Row.lit [I e]))) 2 (some (Row.lit [.list 0 0 (fun _=>D.junk) .full]))) 2 (some (Row.lit [D.vec 0 1 3])),nl:=3,hw:=upd (fun _=>none) 0 (some [{frm:=frm,to:=0,val:=v:Sp}].length),nt:=1,vw:=upd (fun _=>none) 0 (some (cv [{frm:=frm,to:=0,val:=v:Sp}] Sp.d)):Heap} (ren (rnm [0,1] 3) (rnm [] 1) (D.clo 129 [D.ep [I frm],D.ep [xy],D.ep [I sig],D.ep [D.bp 1 0],D.ep [I to]])) (qh [0,1] [] {box:=upd (upd (upd (upd (fun _=>none) 0 (some (Row.lit [L w.sig 3 Sig.d,L w.gap 2 Iv.d,I w.fin,I lim,I c]))) 1 (some (Row.lit [I e]))) 2 (some (Row.lit [.list 0 0 (fun _=>D.junk) .full]))) 2 (some (Row.lit [D.vec 0 1 3])),nl:=3,hw:=upd (fun _=>none) 0 (some [{frm:=frm,to:=0,val:=v:Sp}].length),nt:=1,vw:=upd (fun _=>none) 0 (some (cv [{frm:=frm,to:=0,val:=v:Sp}] Sp.d)):Heap} (hE w lim c e))/\
    At (EnX [12,14] Tryz.f54) (fh Tryz.f54 K) [It.code [1,1,1,1,1,1,1,0,1,0],It.blk 1,It.code [1,1,1,1,1,1,1,1]] {sl:=[(3,I to),(8,.own [nilL]),(9,.own [I 0]),(12,D.bp 1 0),(14,D.bp 2 0),(60,D.clo 129 [D.ep [I frm],D.ep [D.iface 36 (D.bp 0 0)],D.ep [I sig],D.ep [D.bp 1 0],D.ep [I to]])],h:={box:=upd (upd (upd (upd (upd (upd (fun _=>none) 0 (some (Row.lit [L w.sig 3 Sig.d,L w.gap 2 Iv.d,I w.fin,I lim,I c]))) 1 (some (Row.lit [I e]))) 2 (some (Row.lit [.list 0 0 (fun _=>D.junk) .full]))) 2 (some (Row.lit [D.vec 0 1 3]))) 0 (some (Row.lit [L w.sig 3 Sig.d,L w.gap 2 Iv.d,I w.fin,I lim,I c]))) 1 (some (Row.lit [I e])),nl:=3,hw:=upd (fun _=>none) 0 (some [{frm:=frm,to:=0,val:=v:Sp}].length),nt:=1,vw:=upd (fun _=>none) 0 (some (cv [{frm:=frm,to:=0,val:=v:Sp}] Sp.d)):Heap}:St}):=by kernel_rfl
noncomputable def qr6(w:Wv)(lim:Int)(c:Int)(e:Int)(to:Int)(out:List Sp):List Nat->Nat->Option Ans:=qf [([1,1,1,1,1,1,1,1,1,0],2,Ans.eff (ren (rnm [] 4) (rnm [0] 1) (D.vec 0 out.length 3)) (qh [] [0] {box:=upd (upd (upd (fun _=>none) 0 (some (Row.lit [L w.sig 3 Sig.d,L w.gap 2 Iv.d,I w.fin,I lim,I c]))) 1 (some (Row.lit [I e]))) 2 (some (Row.lit [D.vec 0 out.length 3])),nl:=4,hw:=upd (fun _=>none) 0 (some out.length),nt:=1,vw:=upd (fun _=>none) 0 (some (cv out Sp.d)):Heap} (zn (zk out to) Sp.d)))]
theorem qzt[Lay](w:Wv)(lim c e to:Int)(out:List Sp)(K:D->Heap->Prop):qn (EnX [12,14] Tryz.f54) (fh Tryz.f54 K) (qr6 w lim c e to out) p8 200 [.code [1,1,1,1,1,1,1,1]] ⟨[(3,I to),(8,.own [nilL]),(9,.own [I 0]),(12,.bp 1 0),(14,.bp 2 0)],hT3 w lim c e out⟩ =
 (bif e !=0 then True/\True/\K (.tup [.list 0 0 (fun _=>D.junk) .full,I e]) {box:=upd (upd (upd (fun _=>none) 0 (some (Row.lit [L w.sig 3 Sig.d,L w.gap 2 Iv.d,I w.fin,I lim,I c]))) 1 (some (Row.lit [I e]))) 2 (some (Row.lit [D.vec 0 out.length 3])),nl:=4,hw:=upd (fun _=>none) 0 (some out.length),nt:=1,vw:=upd (fun _=>none) 0 (some (cv out Sp.d)):Heap} else Does PP 87 [D.vec 0 out.length 3,I to] {box:=upd (upd (upd (fun _=>none) 0 (some (Row.lit [L w.sig 3 Sig.d,L w.gap 2 Iv.d,I w.fin,I lim,I c]))) 1 (some (Row.lit [I e]))) 2 (some (Row.lit [D.vec 0 out.length 3])),nl:=4,hw:=upd (fun _=>none) 0 (some out.length),nt:=1,vw:=upd (fun _=>none) 0 (some (cv out Sp.d)):Heap} (ren (rnm [] 4) (rnm [0] 1) (D.vec 0 out.length 3)) (qh [] [0] {box:=upd (upd (upd (fun _=>none) 0 (some (Row.lit [L w.sig 3 Sig.d,L w.gap 2 Iv.d,I w.fin,I lim,I c]))) 1 (some (Row.lit [I e]))) 2 (some (Row.lit [D.vec 0 out.length 3])),nl:=4,hw:=upd (fun _=>none) 0 (some out.length),nt:=1,vw:=upd (fun _=>none) 0 (some (cv out Sp.d)):Heap} (zn (zk out to) Sp.d))/\True/\True/\K (.tup [D.vec 0 out.length 3,I 0]) {box:=upd (upd (upd (fun _=>none) 0 (some (Row.lit [L w.sig 3 Sig.d,L w.gap 2 Iv.d,I w.fin,I lim,I c]))) 1 (some (Row.lit [I e]))) 2 (some (Row.lit [D.vec 0 out.length 3])),nl:=4,hw:=upd (upd (fun _=>none) 0 (some out.length)) 0 (some (zk out to).length),nt:=1,vw:=upd (upd (fun _=>none) 0 (some (cv out Sp.d))) 0 (some (cv (zk out to) Sp.d)):Heap}):=by kernel_rfl
noncomputable def qoz:List Nat->Nat->Option Ans:=qf []
theorem qr7[Lay](w:Wv)(lim c e:Int)(out:List Sp)(x:Chg)(J:St->Prop)(K:St->Prop):qn (EnX [12,14] Tryz.f54) K (qoz ) p8 200 [.code [1,1,1,1,1,1,1,0,1,0,0],.stop J] ⟨[(14,.bp 2 0),(61,x.d)],hT3 w lim c e out⟩ =
 (True/\J {sl:=[(15,.own [I x.time,.str x.val]),(14,D.bp 2 0),(61,x.d)],h:={box:=upd (upd (upd (fun _=>none) 0 (some (Row.lit [L w.sig 3 Sig.d,L w.gap 2 Iv.d,I w.fin,I lim,I c]))) 1 (some (Row.lit [I e]))) 2 (some (Row.lit [D.vec 0 out.length 3])),nl:=4,hw:=upd (fun _=>none) 0 (some out.length),nt:=1,vw:=upd (fun _=>none) 0 (some (cv out Sp.d)):Heap}:St}):=by kernel_rfl
noncomputable def qr8(w:Wv)(lim:Int)(c:Int)(e:Int)(out:List Sp)(x:Chg):List Nat->Nat->Option Ans:=qf [([1,1,1,1,1,1,1,0,1,0,1,0,0],5,Ans.eff (ren (rnm [] 4) (rnm [0] 1) (D.vec 0 (ph out x.time x.val).length 3)) (qh [] [0] {box:=upd (upd (upd (fun _=>none) 0 (some (Row.lit [L w.sig 3 Sig.d,L w.gap 2 Iv.d,I w.fin,I lim,I c]))) 1 (some (Row.lit [I e]))) 2 (some (Row.lit [D.vec 0 out.length 3])),nl:=4,hw:=upd (fun _=>none) 0 (some out.length),nt:=1,vw:=upd (fun _=>none) 0 (some (cv out Sp.d)):Heap} (zn (ph out x.time x.val) Sp.d)))]
theorem qzu[Lay](w:Wv)(lim c e:Int)(out:List Sp)(x:Chg)(J:St->Prop)(K:St->Prop):qn (EnX [12,14] Tryz.f54) K (qr8 w lim c e out x) p8 200 [.code [1,1,1,1,1,1,1,0,1,0,1],.stop J] ⟨[(14,.bp 2 0),(15,.own [I x.time,.str x.val])],hT3 w lim c e out⟩ =
 (Does PP 85 [D.vec 0 out.length 3,I x.time,.str x.val] {box:=upd (upd (upd (fun _=>none) 0 (some (Row.lit [L w.sig 3 Sig.d,L w.gap 2 Iv.d,I w.fin,I lim,I c]))) 1 (some (Row.lit [I e]))) 2 (some (Row.lit [D.vec 0 out.length 3])),nl:=4,hw:=upd (fun _=>none) 0 (some out.length),nt:=1,vw:=upd (fun _=>none) 0 (some (cv out Sp.d)):Heap} (ren (rnm [] 4) (rnm [0] 1) (D.vec 0 (ph out x.time x.val).length 3)) (qh [] [0] {box:=upd (upd (upd (fun _=>none) 0 (some (Row.lit [L w.sig 3 Sig.d,L w.gap 2 Iv.d,I w.fin,I lim,I c]))) 1 (some (Row.lit [I e]))) 2 (some (Row.lit [D.vec 0 out.length 3])),nl:=4,hw:=upd (fun _=>none) 0 (some out.length),nt:=1,vw:=upd (fun _=>none) 0 (some (cv out Sp.d)):Heap} (zn (ph out x.time x.val) Sp.d))/\
 True/\((ph out x.time x.val).length<=q8->bif decide ((↑(ph out x.time x.val).length:Int) > 4096) then False else J {sl:=[(70,B (decide ((↑(ph out x.time x.val).length:Int) > 4096))),(69,I (↑(ph out x.time x.val).length:Int)),(68,D.vec 0 (ph out x.time x.val).length 3),(67,D.vec 0 (ph out x.time x.val).length 3),(66,.str x.val),(64,I x.time),(62,D.vec 0 out.length 3),(14,D.bp 2 0),(15,.own [I x.time,.str x.val])],h:={box:=upd (upd (upd (upd (fun _=>none) 0 (some (Row.lit [L w.sig 3 Sig.d,L w.gap 2 Iv.d,I w.fin,I lim,I c]))) 1 (some (Row.lit [I e]))) 2 (some (Row.lit [D.vec 0 out.length 3]))) 2 (some (Row.lit [D.vec 0 (ph out x.time x.val).length 3])),nl:=4,hw:=upd (upd (fun _=>none) 0 (some out.length)) 0 (some (ph out x.time x.val).length),nt:=1,vw:=upd (upd (fun _=>none) 0 (some (cv out Sp.d))) 0 (some (cv (ph out x.time x.val) Sp.d)):Heap}:St})):=by kernel_rfl
instance {sz:Nat}{get:Nat->D}{own:Own}:RO (.list 0 sz get own):=⟨fun i h=>absurd h (Nat.not_lt_zero i)⟩
def aft(l:List Chg)(t:Int):List Chg:=l.filter fun x=>decide (x.time > t)
theorem Inc.aft{s:Int}{l:List Chg}(h:Inc s l)(t:Int):∃a,l=a++aft l t/\(∀x∈a,x.time<=t)/\Inc t (aft l t):=by
 obtain⟨a,b,rfl,ha,hb⟩:=h.split t
 have h1:S1.aft (a++b) t=b:=by
  unfold S1.aft
  rw[List.filter_append,List.filter_eq_nil_iff.2 (fun x hx=>by have:=ha x hx;simp;omega),List.filter_eq_self.2 (fun x hx=>by have:=hb.gt x hx;simp;omega)];rfl
 rw[h1];exact⟨a,rfl,ha,hb⟩
def ofR(w:Wv)(lim c sig frm to:Int):List Sp×Int×Int :=
 if frm<0\/frm > to\/to > w.fin then([],2,c)
 else if jp w lim c sig≠0 then([],jp w lim c sig,qg .i64 c 1)
 else if(qm w sig).kind=3 then([],7,qg .i64 c 1)
 else if jp w lim (qg .i64 c 1) sig≠0 then([],jp w lim (qg .i64 c 1) sig,qg .i64 (qg .i64 c 1) 1)
 else let r:=itR lim to (aft (qm w sig).chg frm) (qg .i64 (qg .i64 c 1) 1) [⟨frm,0,jd (qm w sig) frm⟩]
  if r.2.2≠0 then([],r.2.2,r.2.1) else(zk r.1 to,0,r.2.1)
def hMn(w:Wv)(lim c:Int):Heap:=⟨upd (fun _=>none) 0 (some (.lit [L w.sig 3 Sig.d,L w.gap 2 Iv.d,I w.fin,I lim,I c])),4,fun _=>none,1,fun _=>none⟩
theorem qed{w:Wv}{lim c:Int}{h:Heap}(hb:h.box 0=some (qhl w lim c))(hn:h.nl<=4)(ht:h.nt<=1):HeapLe h (hMn w lim c):=by
 refine⟨fun l row' e=> ?_,hn,fun t n e=>(by cases e),ht,fun t n e=>(by cases e),fun _ _=>rfl⟩
 have e':upd (fun _=>none) 0 (some (qhl w lim c)) l=some row':=e
 by_cases hl:l=0
 ·subst hl
  rw[qb]at e';cases e'
  exact⟨_,hb,.lit fun _ _ h=>h⟩
 ·rw[qd _ _ hl]at e';cases e'
theorem l5[Lay]{w:Wv}{lim c e:Int}{h:Heap}(hb:h.box 0=some (qhl w lim c))(hn:h.nl<=4)(ht:h.nt<=1):RetLe (.tup [nilL,I e]) h (.tup [L ([]:List Sp) 3 Sp.d,I e]) (hMn w lim c) :=
 RetLe.of (Wk.tup (Wks.cons Wk.nilL (Wks.refl _))) (qed hb hn ht)
theorem qm2[Lay]{w:Wv}{lim c:Int}{out:List Sp}{h:Heap}(hv:h.vw 0=some (cv out Sp.d))(hw:h.hw 0=some out.length)(hb:h.box 0=some (qhl w lim c))(hn:h.nl<=4)(ht:h.nt<=1) :
  RetLe (.tup [.vec 0 out.length 3,I 0]) h (.tup [L out 3 Sp.d,I 0]) (hMn w lim c) :=
 (RetLe.frz (d:= .tup [.vec 0 out.length 3,I 0]) (t:=0) (n:=out.length) (f:=cv out Sp.d) hv hw (by simp[ua,pd])).trans (RetLe.of (Wk.tup (Wks.cons Wk.tokL (Wks.refl _))) (qed hb hn ht))
theorem pj{a b:Nat->Option Row}{nl nt:Nat}{hw hw':Nat->Option Nat}{vw vw':Nat->Option (Nat->D)}(h1:∀k,a k=b k)(h2:hw=hw')(h3:vw=vw'):(⟨a,nl,hw,nt,vw⟩:Heap)=⟨b,nl,hw',nt,vw'⟩:=by
 rw[funext h1,h2,h3]
section
variable (w:Wv) (lim sig frm to:Int)
noncomputable abbrev OfE:Env:=EnX [12,14] Tryz.f54
noncomputable abbrev OfK(K:D->Heap->Prop):St->Prop:=fh Tryz.f54 K
abbrev rgP:List Nat:=[1,1,1,1,1,1,1,0,1,0]
noncomputable abbrev OfQ:qai:=pg OfE rgP [(14,.bp 2 0)]
theorem OfY[Lay](c:Int)(out:List Sp)(x:Chg)(K:D->Heap->Prop)(hl:out.length<=1000)(hk:K (.bool true) (hO w lim c 0 (ph out x.time x.val) OfQ)):CallY PP 3 [x.d] (hO w lim c 0 out OfQ) K:=by
 refine qkf (E:=OfE) (p:=rgP) (sl:=[(14,.bp 2 0)]) (by kernel_rfl) rfl (by kernel_rfl) (by kernel_rfl) ?_
 rw[qlt]
 refine jc (st':=⟨[(14,.bp 2 0),(61,x.d)],hT3 w lim c 0 out⟩) (qe jv _ _ _ (of_eq (qr7 w lim c 0 out x _ _) ⟨trivial,?_⟩)) ?_
 ·refine jc (st':=⟨[(14,.bp 2 0),(15,.own [I x.time,.str x.val])],hT3 w lim c 0 out⟩) ?_ (wm _ [14,15] _)
  refine qe jv _ _ _ (of_eq (qzu w lim c 0 out x _ _) ⟨fr (e85 out x.time x.val (by omega)) [] [0],trivial,fun _=>qa (fun h=> ?_) fun _=> ?_⟩)
  ·have:=qeb out x.time x.val
   simp at h;omega
  ·refine of_eq (congrArg (K (.bool true)) ?_) hk
   refine pj (fun k=> ?_) (q6 _ _ _ _) (q6 _ _ _ _)
   rcases k with _|_|_|_|k <;> rfl
 ·exact wm _ [14,61] _
variable {w lim sig frm to}
theorem OfH[Lay](c e:Int)(out:List Sp)(ho:out≠[])(K:D->Heap->Prop)(hK:∀d h,RetLe d h (.tup [L (if e≠0 then[] else zk out to) 3 Sp.d,I e]) (hMn w lim c)->K d h) :
  At OfE (OfK K) [.code [1,1,1,1,1,1,1,1]] ⟨[(3,I to),(8,.own [nilL]),(9,.own [I 0]),(12,.bp 1 0),(14,.bp 2 0)],hT3 w lim c e out⟩:=by
 refine qe jv _ _ _ (of_eq (qzt w lim c e to out _) (qa (fun h=>⟨trivial,trivial,hK _ _ ?_⟩) fun h=>⟨fr (e87 out to ho) [] [0],trivial,trivial,hK _ _ ?_⟩))
 ·have:e≠0:=by simpa using h
  rw[if_pos this]
  exact l5 rfl (Nat.le_of_ble_eq_true rfl) (Nat.le_of_ble_eq_true rfl)
 ·have:e=0:=by simpa using h
  subst this
  rw[if_neg (by simp)]
  have:=qm2 (w:=w) (lim:=lim) (c:=c) (out:=zk out to) (h:=⟨upd (upd (upd (fun _=>none) 0 (some (qhl w lim c))) 1 (some (.lit [I 0]))) 2 (some (.lit [.vec 0 out.length 3])),4,upd (upd (fun _=>none) 0 (some out.length)) 0 (some (zk out to).length),1,upd (upd (fun _=>none) 0 (some (cv out Sp.d))) 0 (some (cv (zk out to) Sp.d))⟩) rfl rfl rfl (Nat.le_of_ble_eq_true rfl) (Nat.le_of_ble_eq_true rfl)
  rw[v8]at this
  rw[v8]
  exact this
theorem qlu(lim to:Int):∀(l:List Chg) (c:Int) (out:List Sp),out≠[]->(itR lim to l c out).1≠[]
 | [],_,_,h=>h
 |x::cs,c,out,h=>by
  simp only[itR]
  cases qjg lim c with
  |true=>exact h
  |false =>
   cases decide (x.time > to) with
   |true=>exact h
   |false=>exact qlu lim to cs _ _ (qm0 _ _ _)
theorem e54[Lay](hq:∀q∈w.sig,q.chg.length<=900/\q.width<=1000000/\Inc (-1) q.chg)(c:Int):Does PP 54 [.iface 36 (.bp 0 0),I sig,I frm,I to] (hM w lim c) (.tup [L (ofR w lim c sig frm to).1 3 Sp.d,I (ofR w lim c sig frm to).2.1]) (hMn w lim (ofR w lim c sig frm to).2.2):=by
 have hin:0<=sig/\sig<(w.sig.length:Int)->qm w sig∈w.sig:=fun h=>by
  have:sig.toNat<w.sig.length:=by omega
  unfold qm
  rw[List.getD_eq_getElem?_getD,List.getElem?_eq_getElem this]
  exact List.getElem_mem this
 have hB:At OfE (OfK fun d h=>RetLe d h (.tup [L (ofR w lim c sig frm to).1 3 Sp.d,I (ofR w lim c sig frm to).2.1]) (hMn w lim (ofR w lim c sig frm to).2.2)) [.code [1,0,1],.code [1,1]]
   ⟨[(0,xy),(1,I sig),(2,I frm),(3,I to),(8,.own [nilL]),(9,.own [I 0]),(28,B (bif bif decide (frm<0) then true else decide (frm > to) then true else decide (to > w.fin)))],hM w lim c⟩:=by
  refine qe jv _ _ _ (of_eq (qzo w lim c sig frm to _ _) (qa (fun h=>⟨trivial,trivial,?_⟩) fun h=>⟨qxt w lim c sig,trivial,trivial,?_⟩))
  ·have:frm<0\/frm > to\/to > w.fin:=by simpa[or_assoc] using h
   rw[ofR,if_pos this]
   exact l5 rfl (Nat.le_of_ble_eq_true rfl) (Nat.le_of_ble_eq_true rfl)
  have hr:¬(frm<0\/frm > to\/to > w.fin):=by
   intro h2
   have:(bif bif decide (frm<0) then true else decide (frm > to) then true else decide (to > w.fin))=true:=by simpa[or_assoc] using h2
   rw[this]at h;cases h
  rw[ofR,if_neg hr]
  have hr0:0<=frm:=by omega
  have hr1:frm<=to:=by omega
  have hr2:to<=w.fin:=by omega
  refine jc (st':=⟨[(0,xy),(1,I sig),(2,I frm),(3,I to),(8,.own [nilL]),(9,.own [I 0]),(10,I (qs w lim c sig).1),(12,.bp 1 0)],hE w lim (qg .i64 c 1) (qs w lim c sig).2.2⟩) ?_
   (StLe.heap (pj (fun k=>by rcases k with _|_|k <;> rfl) rfl rfl))
  refine qe jv _ _ _ (of_eq (qzp w lim _ _ sig frm to _ _) (qa (fun h=>⟨trivial,trivial,?_⟩) fun h=>qa (fun h2=>⟨trivial,trivial,?_⟩) fun h2=> ?_))
  ·have h:(qs w lim c sig).2.2≠0:=by simpa using h
   have hc:jp w lim c sig≠0:=fun hc=>h (by rw[qs,if_pos hc])
   have he:(qs w lim c sig).2.2=jp w lim c sig:=by rw[qs,if_neg hc]
   rw[if_pos hc,he]
   exact l5 rfl (Nat.le_of_ble_eq_true rfl) (Nat.le_of_ble_eq_true rfl)
  ·have h:(qs w lim c sig).2.2=0:=by simpa using h
   have hc:jp w lim c sig=0:=by
    rcases Classical.em (jp w lim c sig=0) with hc|hc
    ·exact hc
    ·rw[qs,if_neg hc]at h;exact absurd h hc
   rw[qs,if_pos hc]at h2
   have hk:(qm w sig).kind=3:=by simpa using h2
   rw[if_neg (by simpa using hc),if_pos hk]
   exact l5 rfl (Nat.le_of_ble_eq_true rfl) (Nat.le_of_ble_eq_true rfl)
  have h:(qs w lim c sig).2.2=0:=by simpa using h
  have hc:jp w lim c sig=0:=by
   rcases Classical.em (jp w lim c sig=0) with hc|hc
   ·exact hc
   ·rw[qs,if_neg hc]at h;exact absurd h hc
  have hsig:=(p9 (w:=w) (lim:=lim) (c:=c) (sig:=sig) (by simpa using hc)).2
  obtain⟨q1,q2,q3⟩:=hq _ (hin hsig)
  rw[qs,if_pos hc]at h2
  have hk:¬(qm w sig).kind=3:=by simpa using h2
  rw[if_neg (by simpa using hc),if_neg hk,h]
  refine qe jv _ _ _ (of_eq (qzq w lim _ _ sig frm to _) ⟨fr (qzc w lim (qg .i64 c 1) sig frm q2) [0] [],trivial,?_⟩)
  refine jc (st':=⟨[(0,xy),(1,I sig),(2,I frm),(3,I to),(8,.own [nilL]),(9,.own [I 0]),(12,.bp 1 0),(13,.str (vlR w lim (qg .i64 c 1) sig frm).1)],hE w lim (qg .i64 (qg .i64 c 1) 1) (vlR w lim (qg .i64 c 1) sig frm).2⟩) ?_
   (StLe.heap (pj (fun k=>by rcases k with _|_|k <;> rfl) rfl rfl))
  have hnt:¬(frm<0\/frm > w.fin):=by omega
  refine qe jv _ _ _ (of_eq (qzr w lim _ _ sig frm to _ _) (qa (fun h=>⟨trivial,trivial,?_⟩) fun h=> ?_))
  ·have h:(vlR w lim (qg .i64 c 1) sig frm).2≠0:=by simpa using h
   have hc2:jp w lim (qg .i64 c 1) sig≠0:=fun hc=>h (by rw[vlR,if_pos hc,if_neg hnt])
   have he:(vlR w lim (qg .i64 c 1) sig frm).2=jp w lim (qg .i64 c 1) sig:=by rw[vlR,if_neg hc2]
   rw[if_pos hc2,he]
   exact l5 rfl (Nat.le_of_ble_eq_true rfl) (Nat.le_of_ble_eq_true rfl)
  have h:(vlR w lim (qg .i64 c 1) sig frm).2=0:=by simpa using h
  have hc2:jp w lim (qg .i64 c 1) sig=0:=by
   rcases Classical.em (jp w lim (qg .i64 c 1) sig=0) with hc|hc
   ·exact hc
   ·rw[vlR,if_neg hc]at h;exact absurd h hc
  rw[if_neg (by simpa using hc2),h,show(vlR w lim (qg .i64 c 1) sig frm).1=jd (qm w sig) frm by rw[vlR,if_pos hc2,if_neg hnt]]
  generalize qg .i64 (qg .i64 c 1) 1=c2
  generalize jd (qm w sig) frm=v
  refine qe jv _ _ _ (of_eq (qzs w lim c2 0 sig frm to v _) ⟨fr (qrs frm v) [] [],trivial,trivial,fr (e86 w lim c2 0 sig frm to) [0,1] [],?_⟩)
  refine jc (st':=⟨[(3,I to),(8,.own [nilL]),(9,.own [I 0]),(12,.bp 1 0),(14,.bp 2 0),(60,.clo 129 [.ep [I frm],.ep [xy],.ep [I sig],.ep [.bp 1 0],.ep [I to]])],hS w lim c2 0 [⟨frm,0,v⟩]⟩) ?_
   (StLe.heap (pj (fun k=>by rcases k with _|_|_|k <;> rfl) rfl rfl))
  obtain⟨a,e1,e2,e3⟩:=q3.aft frm
  have hlen:(aft (qm w sig).chg frm).length<=900:=Nat.le_trans (List.length_filter_le _ _) q1
  refine qkg (E:=OfE) (p:=rgP) (by kernel_rfl) (f:=129) (caps:=[.ep [I frm],.ep [xy],.ep [I sig],.ep [.bp 1 0],.ep [I to]]) (by kernel_rfl) [14] ?_
  have hit:=qoy w lim OfQ sig frm to hsig hr0 hr1 hr2 e1 e2 e3 (OfY w lim) c2 [⟨frm,0,v⟩] (by simp only[List.length_singleton];omega)
  refine CallA.mono hit fun _ h hh=> .inl ?_
  subst hh
  refine⟨rfl,?_⟩
  have hne:=qlu lim to (aft (qm w sig).chg frm) c2 [⟨frm,0,v⟩] (by simp)
  simp only
  generalize itR lim to (aft (qm w sig).chg frm) c2 [⟨frm,0,v⟩]=r at hne⊢
  have:=OfH (w:=w) (lim:=lim) (to:=to) r.2.1 r.2.2 r.1 hne (fun d h=>RetLe d h (.tup [L (if r.2.2≠0 then([],r.2.2,r.2.1) else(zk r.1 to,0,r.2.1)).1 3 Sp.d,I (if r.2.2≠0 then(([]:List Sp),r.2.2,r.2.1) else(zk r.1 to,0,r.2.1)).2.1]) (hMn w lim (if r.2.2≠0 then(([]:List Sp),r.2.2,r.2.1) else(zk r.1 to,0,r.2.1)).2.2)) (fun d h hr=>by
   by_cases h0:r.2.2≠0
   ·rw[if_pos h0]at hr⊢;exact hr
   ·rw[if_neg h0]at hr⊢
    have:r.2.2=0:=by simpa using h0
    rw[this]at hr;exact hr)
  refine(jc this ?_).it
  show StLe _ ⟨[(3,I to),(8,.own [nilL]),(9,.own [I 0]),(12,.bp 1 0),(14,.bp 2 0),(60,.clo 129 [.ep [I frm],.ep [xy],.ep [I sig],.ep [.bp 1 0],.ep [I to]])],qca (hO w lim r.2.1 r.2.2 r.1 OfQ) 3⟩ _
  rw[qlt]
  exact wm _ [3,8,9,12,14] _
 refine du F54 (by kernel_rfl) (of_eq (qzn w lim c sig frm to _) (qa (fun _=>⟨qxo w lim c,?_⟩) fun _=>hB))
 exact jc hB (StLe.heap (pj (fun k=>by rcases k with _|k <;> rfl) rfl rfl))
end
def okN(p:Option Sp)(x:Sp):Bool:= !(bif decide (x.frm > x.to) then true else match p with|none=>false|some y=>bif x.frm !=qg .i64 y.to 1 then true else x.val==y.val)
def chk:Option Sp->List Sp->Bool
 |_,[]=>true
 |p,x::r=>okN p x&&chk (some x) r
def jl(l:List Sp):Sp:=l.getD (l.length-1) default
def zw(l:List Sp):Bool:= !(bif bif(l.length:Int)==0 then true else decide ((l.getD 0 default).frm<0) then true else decide ((jl l).to > 1099511627776))&&chk none l
def im(l:List Sp):Nat->Option Sp
 |0=>none
 |i+1=>some (l.getD i default)
theorem qzv:OkF 130 Tryz.f130:=⟨by kernel_rfl,by kernel_rfl,by kernel_rfl⟩
def qo0:List (List Nat×List Nat):=[([1,1,0,1,0],[0,25,26,27])]
noncomputable def qm3:List Nat->Nat->Option Ans:=qf []
theorem qo1[Lay](l:List Sp)(K:D->Prop):qn (En Tryz.f130) (fi Tryz.f130 K) (qm3 ) qo0 200 [.code []] ⟨qc 0 [L l 3 Sp.d],.empty⟩ =
 (l.length<=q8->((!(↑l.length:Int)==0)=true->(0:Int)<=0/\0<(↑l.length:Int))/\(((!bif(↑l.length:Int)==0 then true else decide ((l.getD (Int.toNat 0) default).frm<0))=true->l.length<=q8)->((!bif(↑l.length:Int)==0 then true else decide ((l.getD (Int.toNat 0) default).frm<0))=true->0<=qj .i64 (↑l.length:Int) 1/\qj .i64 (↑l.length:Int) 1<(↑l.length:Int))/\bif bif bif(↑l.length:Int)==0 then true else decide ((l.getD (Int.toNat 0) default).frm<0) then true else decide ((l.getD (qj .i64 (↑l.length:Int) 1).toNat default).to > 1099511627776) then K (B false) else l.length<=q8->At (En Tryz.f130) (fi Tryz.f130 K) [It.code [1,1,0,1,0],It.blk 0,It.code [1,1,1]] {sl:=[(0,L l 3 Sp.d),(25,L l 3 Sp.d),(26,I (↑l.length:Int)),(27,I 0)],h:=Heap.empty:St})):=by kernel_rfl
def qlv(l:List Sp)(i:Int):St:=⟨[(0,L l 3 Sp.d),(25,L l 3 Sp.d),(26,I l.length),(27,I i)],.empty⟩
noncomputable def qki:List Nat->Nat->Option Ans:=qf []
theorem qm4[Lay](l:List Sp)(i:Int)(J:St->Prop)(K:D->Prop):qn (En Tryz.f130) (fi Tryz.f130 K) (qki ) qo0 200 [.code [1,1,0,1,0,0],stp [0,25,26,27] J,.blk 0,.code [1,1,1]] (qlv l i)=
 (bif decide (i<(↑l.length:Int)) then(0<=i/\i<(↑l.length:Int))/\True/\((!decide ((l.getD i.toNat default).frm > (l.getD i.toNat default).to)&&decide (i > 0))=true->0<=qj .i64 i 1/\qj .i64 i 1<(↑l.length:Int))/\((!decide ((l.getD i.toNat default).frm > (l.getD i.toNat default).to)&&decide (i > 0) && !(l.getD i.toNat default).frm !=qg .i64 (l.getD (qj .i64 i 1).toNat default).to 1)=true->0<=qj .i64 i 1/\qj .i64 i 1<(↑l.length:Int))/\bif bif decide ((l.getD i.toNat default).frm > (l.getD i.toNat default).to) then true else bif decide (i > 0) then bif(l.getD i.toNat default).frm !=qg .i64 (l.getD (qj .i64 i 1).toNat default).to 1 then true else(l.getD i.toNat default).val==(l.getD (qj .i64 i 1).toNat default).val else false then K (B false) else J {sl:=[(0,L l 3 Sp.d),(25,L l 3 Sp.d),(26,I (↑l.length:Int)),(27,I (qg .i64 i 1))],h:=Heap.empty:St} else K (B true)):=by kernel_rfl
theorem qzw[Lay](l:List Sp):Pure PP 130 [L l 3 Sp.d] (B (zw l)):=by
 refine pu qzv (by kernel_rfl) (of_eq (qo1 l _) fun hl=> ?_)
 have hlast:((!bif(l.length:Int)==0 then true else decide ((l.getD (Int.toNat 0) default).frm<0))=true)->qj .i64 (l.length:Int) 1=((l.length-1:Nat):Int)/\0<l.length:=fun h=>by
  have h0:0<l.length:=by
   rcases Nat.eq_zero_or_pos l.length with h1|h1
   ·rw[h1]at h;simp at h
   ·exact h1
  exact⟨pi h0 hl,h0⟩
 refine⟨fun h=>⟨Int.le_refl _,?_⟩,fun _=>⟨fun h=> ?_,?_⟩⟩
 ·have:(l.length:Int)≠0:=by simpa using h
  omega
 ·obtain⟨e,h0⟩:=hlast h
  rw[e];omega
 have hv:zw l=(!(bif bif(l.length:Int)==0 then true else decide ((l.getD (Int.toNat 0) default).frm<0) then true else decide ((l.getD (qj .i64 (l.length:Int) 1).toNat default).to > 1099511627776))&&chk none l):=by
  cases hb:(bif(l.length:Int)==0 then true else decide ((l.getD (Int.toNat 0) default).frm<0)) with
  |true=>unfold zw;rw[show(bif(l.length:Int)==0 then true else decide ((l.getD 0 default).frm<0))=true from hb];rfl
  |false =>
   obtain⟨e,_⟩:=hlast (by rw[hb];rfl)
   rw[e,Int.toNat_natCast]
   unfold zw jl
   rw[show(bif(l.length:Int)==0 then true else decide ((l.getD 0 default).frm<0))=false from hb]
 rw[hv]
 refine qa (fun h=> ?_) fun h _=> ?_
 ·rw[h];exact Wk.refl _
 rw[h]
 simp only[Bool.not_false,Bool.true_and]
 refine lp (fn:=Tryz.f130) (fun i:Nat=>i<=l.length/\chk none l=chk (im l i) (l.drop i)) (fun i=>qlv l i) (fun i=>l.length-i) [0,25,26,27] (by kernel_rfl) (fun i hi=>of_eq (qm4 l i _ _) (qa (fun hlt=> ?_) fun hge=> ?_)) 0 ⟨Nat.zero_le _,rfl⟩
 ·have hlt:=ltI hlt
  obtain⟨_,he⟩:=hi
  rw[bi hlt hl,Int.toNat_natCast,he,jb _ _ hlt]
  have hp:0<i->qj .i64 (i:Int) 1=((i-1:Nat):Int):=fun h0=>pi h0 (by omega)
  have hok:(bif decide ((l.getD i default).frm > (l.getD i default).to) then true else bif decide ((i:Int) > 0) then bif(l.getD i default).frm !=qg .i64 (l.getD (qj .i64 (i:Int) 1).toNat default).to 1 then true else(l.getD i default).val==(l.getD (qj .i64 (i:Int) 1).toNat default).val else false) = !okN (im l i) (l.getD i default):=by
   cases i with
   |zero=>simp[okN,im]
   |succ i =>
    rw[hp (by omega),Int.toNat_natCast]
    have:decide (((i+1:Nat):Int) > 0)=true:=decide_eq_true (by omega)
    rw[this]
    simp[okN,im]
  refine⟨⟨by omega,by omega⟩,trivial,fun h=> ?_,fun h=> ?_,?_⟩
  ·have h0:0<i:=by simp at h;omega
   rw[hp h0];omega
  ·have h0:0<i:=by simp at h;omega
   rw[hp h0];omega
  ·rw[hok]
   simp only[chk]
   refine qa (fun h=> ?_) fun h=> ?_
   ·have:okN (im l i) (l.getD i default)=false:=by simpa using h
    rw[this];exact Wk.refl _
   ·have:okN (im l i) (l.getD i default)=true:=by simpa using h
    rw[this,Bool.true_and]
    exact Nx.mk (i+1) ⟨hlt,rfl⟩ (by omega)
 ·have:=geI hge
  rw[hi.2,List.drop_of_length_le this]
  exact Wk.refl _
def srt:Option Chg->List Chg->Bool
 |_,[]=>true
 |p,x::r=>(match p with|none=>true|some y=> !decide (x.time<y.time))&&srt (some x) r
end Go.Proofs.YtiekphbkomddfaaGreatDoor.S1
