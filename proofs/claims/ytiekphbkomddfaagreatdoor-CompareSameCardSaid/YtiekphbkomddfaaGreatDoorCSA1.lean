/- Seat 2: the laws' types as Lean data; words for contracts. -/
import Derived.Test.YtiekphbkomddfaaGreatDoorB8
import Derived.Test.YtiekphbkomddfaaGreatDoorChecked
namespace Go.Proofs.YtiekphbkomddfaaGreatDoor.S1
open Go Go.Ab Go.Proofs Go.Proofs.YtiekphbkomddfaaGreatDoor
def qv6:Cfg:=⟨fun _=>false,fun _=>false⟩
noncomputable abbrev PP:Program:=Tryz.prog
noncomputable abbrev EnC(c:Cfg)(f:Func):Env:=⟨Tryz.prog,c,f.body.getD .skip,f.ntmps⟩
noncomputable abbrev En(f:Func):Env:=EnC qv6 f
def qv7(l:List Nat):Cfg:=⟨fun d=>l.any (Nat.beq d),fun _=>false⟩
def qv8(l v:List Nat):Cfg:=⟨fun d=>l.any (Nat.beq d),fun d=>v.any (Nat.beq d)⟩
noncomputable abbrev EnX(l:List Nat)(f:Func):Env:=EnC (qv7 l) f
noncomputable abbrev EnV(l v:List Nat)(f:Func):Env:=EnC (qv8 l v) f
noncomputable abbrev fi(f:Func)(K:D->Prop):St->Prop:=qi1 Tryz.prog f.results.toList fun d _=>K d
noncomputable abbrev fh(f:Func)(K:D->Heap->Prop):St->Prop:=qi1 Tryz.prog f.results.toList K
def cc:List (List Nat×List Nat):=[]
abbrev stp(l:List Nat)(J:St->Prop):It:= .stop fun st=>J (az l st)
theorem jv:Tryz.prog.follows .mixedOrders=true:=by kernel_rfl
class DD(d:D):Prop where
 p:Ab.Data d
class DS(ds:List D):Prop where
 p:Datas ds
instance:DS []:=⟨trivial⟩
instance {d:D}{ds:List D}[h:DD d][k:DS ds]:DS (d::ds):=⟨h.p,k.p⟩
instance {n:Int}{k:IntKind}:DD (.int k n):=⟨trivial⟩
instance {b:Bool}:DD (.bool b):=⟨trivial⟩
instance {s:List UInt8}:DD (.str s):=⟨trivial⟩
instance {ds:List D}[h:DS ds]:DD (.agg ds):=⟨h.p⟩
instance {ds:List D}[h:DS ds]:DD (.tup ds):=⟨h.p⟩
instance {f:Nat}{ds:List D}[h:DS ds]:DD (.clo f ds):=⟨h.p⟩
instance {α:Type}[Inhabited α]{es:List α}{sz:Nat}{enc:α->D}[h:∀x,DD (enc x)]:DD (L es sz enc):=⟨L.data fun x=>(h x).p⟩
structure Iv where (frm to:Int) deriving Inhabited,DecidableEq
def Iv.d(x:Iv):D:= .agg [I x.frm,I x.to]
structure Sp where (frm to:Int) (val:List UInt8) deriving Inhabited,DecidableEq
def Sp.d(x:Sp):D:= .agg [I x.frm,I x.to,.str x.val]
structure Chg where (time:Int) (val:List UInt8) deriving Inhabited,DecidableEq
def Chg.d(x:Chg):D:= .agg [I x.time,.str x.val]
structure Sig where (kind width:Int) (chg:List Chg) deriving Inhabited,DecidableEq
def Sig.d(x:Sig):D:= .agg [I x.kind,I x.width,L x.chg 2 Chg.d]
structure Wv where (sig:List Sig) (gap:List Iv) (fin:Int) deriving Inhabited,DecidableEq
def Wv.cs(x:Wv):List D:=[L x.sig 3 Sig.d,L x.gap 2 Iv.d,I x.fin]
def Wv.d(x:Wv):D:= .agg x.cs
structure Rw where (frm to:Int) (vals:List (List UInt8)) deriving Inhabited,DecidableEq
def Rw.d(x:Rw):D:= .agg [I x.frm,I x.to,L x.vals 1 D.str]
instance {x:Iv}:DD x.d:=inferInstanceAs (DD (.agg _))
instance {x:Sp}:DD x.d:=inferInstanceAs (DD (.agg _))
instance {x:Chg}:DD x.d:=inferInstanceAs (DD (.agg _))
instance {x:Sig}:DD x.d:=inferInstanceAs (DD (.agg _))
instance {x:Wv}:DD x.d:=inferInstanceAs (DD (.agg [_,_,_]))
instance {x:Rw}:DD x.d:=inferInstanceAs (DD (.agg _))
structure OkF(f:Nat)(fn:Func):Prop where
 hf:PP.funcs[f]? = some fn
 hb:fn.body=some (fn.body.getD .skip)
 hn:(fn.name == "runtime.NumGoroutine")=false
theorem pu[Lay]{f:Nat}{fn:Func}(o:OkF f fn){args:List D}{v:D}[da:DS args][dv:DD v](hn:Nat.ble args.length fn.ntmps=true){cfg:Cfg}{sc:List Nat->Nat->Option Ans}{lv:List (List Nat×List Nat)}{N:Nat}
  (hr:qn (EnC cfg fn) (fi fn fun d=>Wk d v) sc lv N [.code []] ⟨qc 0 args,.empty⟩):Pure PP f args v:=qaj jv o.hf o.hb o.hn da.p dv.p hn hr
theorem du[Lay]{f:Nat}{fn:Func}(o:OkF f fn){args:List D}{v:D}{h h':Heap}(hn:Nat.ble args.length fn.ntmps=true){cfg:Cfg}{sc:List Nat->Nat->Option Ans}{lv:List (List Nat×List Nat)}{N:Nat}
  (hr:qn (EnC cfg fn) (fh fn fun d h''=>RetLe d h'' v h') sc lv N [.code []] ⟨qc 0 args,h⟩):Does PP f args h v h':=Does.of_call (yz jv o.hf o.hb o.hn hn hr)
theorem duA[Lay]{f:Nat}{fn:Func}(o:OkF f fn){args:List D}{v:D}{h h':Heap}(hn:Nat.ble args.length fn.ntmps=true){cfg:Cfg}
  (hr:At (EnC cfg fn) (fh fn fun d h''=>RetLe d h'' v h') [.code []] ⟨qc 0 args,h⟩):Does PP f args h v h':=Does.of_call (ur jv o.hf o.hb o.hn hn (N:=0) (by unfold run;exact hr))
theorem pr[Lay]{f:Nat}{fn:Func}(o:OkF f fn){args:List D}{v:D}[da:DS args][dv:DD v](hn:Nat.ble args.length fn.ntmps=true){cfg:Cfg}{sc:List Nat->Nat->Option Ans}{lv:List (List Nat×List Nat)}{N:Nat}
  (hr:qn (EnC cfg fn) (fh fn fun d h=>∃h',RetLe d h v h') sc lv N [.code []] ⟨qc 0 args,.empty⟩):Pure PP f args v:=qak jv o.hf o.hb o.hn da.p dv.p hn hr
mutual
theorem d8:∀d:D,Ab.Data d->vv d
 | .bool _,_ | .int _ _,_ | .str _,_ | .nilp,_ | .nilf,_ | .nili,_ | .nilm,_ | .fnp _ _,_=>trivial
 | .bp _ _,_ | .sl _ _ _,_ | .mp _,_ | .yl _,_ | .vec _ _ _,_ | .bv _ _ _,_ | .be _ _ _ _ _,_ | .own _,_ | .lp _ _,_ | .may _ _ _,_ | .junk,_=>trivial
 | .list _ _ _ _,h=>by simp only[Ab.Data]at h;simp only[vv];exact h.1
 | .agg cs,h=>by simp only[Ab.Data]at h;simp only[vv];exact kn cs h
 | .tup cs,h=>by simp only[Ab.Data]at h;simp only[vv];exact kn cs h
 | .clo _ cs,h=>by simp only[Ab.Data]at h;simp only[vv];exact kn cs h
 | .mv _ cs,h=>by simp only[Ab.Data]at h;simp only[vv];exact kn cs h
 | .ep cs,h=>by simp only[Ab.Data]at h;simp only[vv];exact kn cs h
 | .iface _ d,h=>by simp only[Ab.Data]at h;simp only[vv];exact d8 d h
theorem kn:∀ds:List D,Datas ds->wb ds
 | [],_=>trivial
 |d::r,h=>by simp only[Datas]at h;simp only[wb];exact⟨d8 d h.1,kn r h.2⟩
end
instance (priority:=10){d:D}[h:DD d]:RO d:=⟨d8 d h.p⟩
instance {l o:Nat}:RO (.bp l o):=⟨trivial⟩
instance {l:Nat}:RO (.mp l):=⟨trivial⟩
instance {t n sz:Nat}:RO (.vec t n sz):=⟨trivial⟩
instance {t n i sz j:Nat}:RO (.be t n i sz j):=⟨trivial⟩
instance {e t n:Nat}:RO (.bv e t n):=⟨trivial⟩
instance {f:Nat->Option Row}{k T:Nat}{cs:List D}[h:RB f][r:ROs cs]:RB (upd f k (some (.litT T cs))):=⟨fun l row e=>by
 by_cases hx:l=k
 ·subst hx;rw[qb]at e;cases e;exact r.p
 ·rw[qd _ _ hx]at e;exact h.p l row e⟩
instance {n sz:Nat}{get:Nat->D}{own:Own}[h:∀i,DD (get i)]:RO (.list n sz get own):=⟨fun i _=>(h i).p⟩
instance {α:Type}[Inhabited α]{es:List α}{sz t:Nat}{enc:α->D}[h:∀x,DD (enc x)]:RO (LT es sz enc t):=⟨fun _ _=>(h _).p⟩
instance {α:Type}[Inhabited α]{es:List α}{enc:α->D}[h:∀x,DD (enc x)]{i:Nat}:DD (cv es enc i):=⟨(h _).p⟩
instance:ROs []:=⟨trivial⟩
instance {d:D}{ds:List D}[h:RO d][k:ROs ds]:ROs (d::ds):=⟨h.p,k.p⟩
instance {ds:List D}[h:ROs ds]:RO (.agg ds):=⟨h.p⟩
instance {ds:List D}[h:ROs ds]:RO (.tup ds):=⟨h.p⟩
instance {f:Nat}{ds:List D}[h:ROs ds]:RO (.clo f ds):=⟨h.p⟩
instance {f:Nat}{ds:List D}[h:ROs ds]:RO (.mv f ds):=⟨h.p⟩
instance {t:Nat}{d:D}[h:RO d]:RO (.iface t d):=⟨h.p⟩
instance:RB (fun _=>none):=⟨fun _ _ h=>by cases h⟩
instance {f:Nat->Option Row}{k:Nat}{cs:List D}[h:RB f][r:ROs cs]:RB (upd f k (some (.lit cs))):=⟨fun l row e=>by
 by_cases hx:l=k
 ·subst hx;rw[qb]at e;cases e;exact r.p
 ·rw[qd _ _ hx]at e;exact h.p l row e⟩
instance {f:Nat->Option Row}{k:Nat}[h:RB f]:RB (upd f k none):=⟨fun l row e=>by
 by_cases hx:l=k
 ·subst hx;rw[qb]at e;cases e
 ·rw[qd _ _ hx]at e;exact h.p l row e⟩
instance {hw:Nat->Option Nat}:RV hw (fun _=>none):=⟨fun _ _ _ _ h=>by cases h⟩
instance {hw:Nat->Option Nat}{vw:Nat->Option (Nat->D)}{t:Nat}{f:Nat->D}[h:RV hw vw][k:∀i,DD (f i)]:RV hw (upd vw t (some f)):=⟨fun t' n q e e' i hi=>by
 by_cases hx:t'=t
 ·subst hx;rw[qb]at e';cases e';exact(k i).p
 ·rw[qd _ _ hx]at e';exact h.p t' n q e e' i hi⟩
instance {hw:Nat->Option Nat}{vw:Nat->Option (Nat->D)}{t:Nat}[h:RV hw vw]:RV hw (upd vw t none):=⟨fun t' n q e e' i hi=>by
 by_cases hx:t'=t
 ·subst hx;rw[qb]at e';cases e'
 ·rw[qd _ _ hx]at e';exact h.p t' n q e e' i hi⟩
theorem fr[Lay]{f:Nat}{args args':List D}{v:D}{bx:Nat->Option Row}{nl nt:Nat}{hw:Nat->Option Nat}{vw:Nat->Option (Nat->D)}{bx':Nat->Option Row}{nl' nt':Nat}{hw':Nat->Option Nat}{vw':Nat->Option (Nat->D)}{H:Heap}
  (c:Does PP f args ⟨bx,nl,hw,nt,vw⟩ v ⟨bx',nl',hw',nt',vw'⟩) (bs ts:List Nat) [d1:Dom bx nl] [d2:Dom hw nt] [d3:Dom vw nt] [a1:ROs args] [a2:RO v] [a3:RB bx] [a4:RV hw vw] [a5:RB bx'] [a6:RV hw' vw']
  (k:(decide (bs.Nodup/\ts.Nodup/\nl<=nl'/\nt<=nt')&&bs.all (Nat.blt · H.nl)&&ts.all (Nat.blt · H.nt))=true:=by kernel_rfl)
  (m1:(List.range nl).map (fun l=>(bx l).map (bo (rnm bs H.nl) (rnm ts H.nt)))=bs.map H.box:=by kernel_rfl) (m2:(List.range nt).map hw=ts.map H.hw:=by kernel_rfl) (m3:(List.range nt).map vw=ts.map H.vw:=by kernel_rfl)
  (ea:qbb (rnm bs H.nl) (rnm ts H.nt) args=args':=by kernel_rfl) :
  Does PP f args' H (ren (rnm bs H.nl) (rnm ts H.nt) v) (ql bs ts H ⟨bx',nl',hw',nt',vw'⟩):=ea▸Does.frame c bs ts k m1 m2 m3
def qdc:Option Code->Bool
 |some (.loop _)=>true
 |_=>false
theorem lp[Lay]{fn:Func}{cfg:Cfg}{fin:St->Prop}{α:Type}(I:α->Prop)(S:α->St)(μ:α->Nat)(l:List Nat){p:List Nat}{td:List It}(hs:qdc (sub (EnC cfg fn).root p)=true){N:Nat}{sc:α->List Nat->Nat->Option Ans}{lv:List (List Nat×List Nat)}
  (hr:∀x,I x->qn (EnC cfg fn) fin (sc x) lv N (.code (p++[0])::stp l (Nx (EnC cfg fn).nt I S μ (μ x))::td) (S x)) (x:α) (hx:I x):At (EnC cfg fn) fin (.code p::td) (S x):=by
 have:∃c,sub (EnC cfg fn).root p=some (.loop c):=by
  unfold qdc at hs
  split at hs
  ·rename_i c h;exact⟨c,h⟩
  ·cases hs
 obtain⟨c,hc⟩:=this
 exact qi3 jv I S μ l hc hr x hx
end Go.Proofs.YtiekphbkomddfaaGreatDoor.S1
namespace Go.Proofs.YtiekphbkomddfaaGreatDoor.S1
open Go Go.Ab Go.Proofs
theorem jw{a b:Int}(h : -9223372036854775808<=a-b)(k:a-b<=9223372036854775807):qj .i64 a b=a-b:=IntWalk.i64_in _ ⟨h,k⟩
theorem jm{a b:Int}(h : -9223372036854775808<=a+b)(k:a+b<=9223372036854775807):qg .i64 a b=a+b:=IntWalk.i64_in _ ⟨h,k⟩
theorem nf{i n:Nat}(h:i<n)(k:n<=q8):qg .i64 (i:Int) 1=((i+1:Nat):Int):=by
 unfold q8 at k
 rw[jm (by omega) (by omega)];rfl
theorem ltI{i n:Nat}(h:decide ((i:Int)<(n:Int))=true):i<n:=by simpa using h
theorem geI{i n:Nat}(h:decide ((i:Int)<(n:Int))=false):n<=i:=by simpa using h
theorem zm{α:Type}[Inhabited α](l:List α)(i:Nat)(h:i<l.length):l.take (i+1)=l.take i++[l.getD i default]:=by
 rw[List.take_succ_eq_append_getElem h];simp[List.getD,h]
theorem js{α:Type}[Inhabited α](l:List α)(i:Nat)(h:i<l.length):l.drop i=l.getD i default::l.drop (i+1):=by
 rw[List.drop_eq_getElem_cons h];simp[List.getD,h]
abbrev Str:=List UInt8
instance {x:Wv}:DS x.cs:=inferInstanceAs (DS [_,_,_])
def hM(w:Wv)(lim:Int)(c:Int):Heap:=⟨upd (fun _=>none) 0 (some (.lit [L w.sig 3 Sig.d,L w.gap 2 Iv.d,I w.fin,I lim,I c])),1,fun _=>none,0,fun _=>none⟩
theorem qv9:OkF 210 Tryz.f210:=⟨by kernel_rfl,by kernel_rfl,by kernel_rfl⟩
def qpt:List (List Nat×List Nat):=[]
noncomputable def qm2:List Nat->Nat->Option Ans:=qf []
theorem qpu[Lay](w:Wv)(lim c sig:Int)(K:D->Heap->Prop):qn (En Tryz.f210) (fh Tryz.f210 K) (qm2 ) qpt 200 [.code []] ⟨qc 0 [.bp 0 0,I sig],hM w lim c⟩ =
 (True/\bif bif decide (lim>=0) then decide (qg .i64 c 1 > lim) else false then K (I 14) {box:=upd (upd (fun _=>none) 0 (some (Row.lit [L w.sig 3 Sig.d,L w.gap 2 Iv.d,I w.fin,I lim,I c]))) 0 (some (Row.lit [L w.sig 3 Sig.d,L w.gap 2 Iv.d,I w.fin,I lim,I (qg .i64 c 1)])),nl:=1,hw:=fun _=>none,nt:=0,vw:=fun _=>none:Heap} else((!decide (sig<0))=true->w.sig.length<=q8)->bif bif decide (sig<0) then true else decide (sig>=(↑w.sig.length:Int)) then K (I 2) {box:=upd (upd (fun _=>none) 0 (some (Row.lit [L w.sig 3 Sig.d,L w.gap 2 Iv.d,I w.fin,I lim,I c]))) 0 (some (Row.lit [L w.sig 3 Sig.d,L w.gap 2 Iv.d,I w.fin,I lim,I (qg .i64 c 1)])),nl:=1,hw:=fun _=>none,nt:=0,vw:=fun _=>none:Heap} else K (I 0) {box:=upd (upd (fun _=>none) 0 (some (Row.lit [L w.sig 3 Sig.d,L w.gap 2 Iv.d,I w.fin,I lim,I c]))) 0 (some (Row.lit [L w.sig 3 Sig.d,L w.gap 2 Iv.d,I w.fin,I lim,I (qg .i64 c 1)])),nl:=1,hw:=fun _=>none,nt:=0,vw:=fun _=>none:Heap}):=by kernel_rfl
def jk(w:Wv)(lim c sig:Int):Int:=bif bif decide (lim>=0) then decide (qg .i64 c 1 > lim) else false then 14 else bif bif decide (sig<0) then true else decide (sig>=(w.sig.length:Int)) then 2 else 0
theorem qm3{w:Wv}{lim c c':Int}:(⟨upd (upd (fun _=>none) 0 (some (.lit [L w.sig 3 Sig.d,L w.gap 2 Iv.d,I w.fin,I lim,I c]))) 0 (some (.lit [L w.sig 3 Sig.d,L w.gap 2 Iv.d,I w.fin,I lim,I c'])),1,fun _=>none,0,fun _=>none⟩:Heap)=hM w lim c':=by
 unfold hM;rw[q6]
theorem qo7[Lay](w:Wv)(lim c sig:Int):Does PP 210 [.bp 0 0,I sig] (hM w lim c) (I (jk w lim c sig)) (hM w lim (qg .i64 c 1)):=by
 refine du qv9 (by kernel_rfl) (of_eq (qpu w lim c sig _) ⟨trivial,qa (fun h=> ?_) fun h=>fun _=>qa (fun h2=> ?_) fun h2=> ?_⟩) <;> rw[qm3]
 ·simp only[jk,h,cond_true];exact RetLe.refl _ _
 ·simp only[jk,h,h2,cond_true,cond_false];exact RetLe.refl _ _
 ·simp only[jk,h,h2,cond_false];exact RetLe.refl _ _
theorem qwa:OkF 205 Tryz.f205:=⟨by kernel_rfl,by kernel_rfl,by kernel_rfl⟩
def qpv:List (List Nat×List Nat):=[]
noncomputable def qpw:List Nat->Nat->Option Ans:=qf []
theorem qwb[Lay](w:Wv)(lim c:Int)(K:D->Heap->Prop):qn (En Tryz.f205) (fh Tryz.f205 K) (qpw ) qpv 200 [.code []] ⟨qc 0 [.bp 0 0],hM w lim c⟩ =
 (K (I w.fin) {box:=upd (fun _=>none) 0 (some (Row.lit [L w.sig 3 Sig.d,L w.gap 2 Iv.d,I w.fin,I lim,I c])),nl:=1,hw:=fun _=>none,nt:=0,vw:=fun _=>none:Heap}):=by kernel_rfl
theorem qu4[Lay](w:Wv)(lim c:Int):Does PP 205 [.bp 0 0] (hM w lim c) (I w.fin) (hM w lim c) :=
 du qwa (by kernel_rfl) (of_eq (qwb w lim c _) (RetLe.refl _ _))
theorem F35:OkF 35 Tryz.f35:=⟨by kernel_rfl,by kernel_rfl,by kernel_rfl⟩
def qu5:List (List Nat×List Nat):=[([1,0,1,0,1,1,1,0,1,0,1,0],[1,3,4])]
noncomputable def qm4:List Nat->Nat->Option Ans:=qf []
theorem qpx[Lay](q:Sig)(K:D->Prop):qn (En Tryz.f35) (fi Tryz.f35 K) (qm4 ) qu5 200 [.code []] ⟨qc 0 [q.d],.empty⟩ =
 (bif q.kind==1 then K (.str {data:= #[48]:ByteArray}.data.toList) else bif q.kind==0 then At (En Tryz.f35) (fi Tryz.f35 K) [It.code [1,0,1,0,1,1,1,0,1,0,1,0],It.blk 1,It.code [1,0,1,0,1,1,1,0,1,1],It.blk 0,It.code [1,1]] {sl:=[(1,.own [I q.kind,I q.width,L q.chg 2 Chg.d]),(3,.str {data:= #[]:ByteArray}.data.toList),(4,I 0)],h:=Heap.empty:St} else K (.str {data:= #[]:ByteArray}.data.toList)):=by kernel_rfl
def qlc(q:Sig)(v:Str)(i:Int):St:=⟨[(1,.own [I q.kind,I q.width,L q.chg 2 Chg.d]),(3,.str v),(4,I i)],.empty⟩
noncomputable def qld:List Nat->Nat->Option Ans:=qf []
theorem qm5[Lay](q:Sig)(v:Str)(i:Int)(J:St->Prop)(K:D->Prop):qn (En Tryz.f35) (fi Tryz.f35 K) (qld ) qu5 200 [.code [1,0,1,0,1,1,1,0,1,0,1,0,0],stp [1,3,4] J,.blk 1,.code [1,0,1,0,1,1,1,0,1,1],.blk 0,.code [1,1]] (qlc q v i) =
 (bif decide (i<q.width) then List.length v+1<=jr/\J {sl:=[(1,.own [I q.kind,I q.width,L q.chg 2 Chg.d]),(3,.str (v++{data:= #[120]:ByteArray}.data.toList)),(4,I (qg .i64 i 1))],h:=Heap.empty:St} else K (.str v)):=by kernel_rfl
def ini(q:Sig):Str:=if q.kind=1 then[48] else if q.kind=0 then List.replicate q.width.toNat 120 else[]
theorem c35[Lay](q:Sig)(hw:q.width<=1000000):Pure PP 35 [q.d] (.str (ini q)):=by
 refine pu F35 (by kernel_rfl) (of_eq (qpx q _) (qa (fun h=> ?_) fun h=>qa (fun h0=> ?_) fun h0=> ?_))
 ·have:q.kind=1:=by simpa using h
  rw[ini,if_pos this];exact Wk.refl _
 ·have h1:¬ q.kind=1:=by simpa using h
  have h2:q.kind=0:=by simpa using h0
  rw[ini,if_neg h1,if_pos h2]
  refine lp (fn:=Tryz.f35) (fun i:Nat=>i<=q.width.toNat) (fun i=>qlc q (List.replicate i 120) i) (fun i=>q.width.toNat-i) [1,3,4] (by kernel_rfl) (fun i hi=>of_eq (qm5 q _ i _ _) (qa (fun hlt=> ?_) fun hge=> ?_)) 0 (Nat.zero_le _)
  ·have hlt:(i:Int)<q.width:=by simpa using hlt
   have ha:qg .i64 (i:Int) 1=((i+1:Nat):Int):=by rw[jm (by omega) (by omega)];rfl
   rw[ha]
   refine⟨by rw[List.length_replicate];unfold jr;omega,Nx.of (i+1) (by omega) (by omega) ?_⟩
   unfold qlc
   rw[List.replicate_succ']
   exact StLe.refl _ _
  ·have hge:¬ (i:Int)<q.width:=by simpa using hge
   rw[show i=q.width.toNat by omega]
   exact Wk.refl _
 ·have h1:¬ q.kind=1:=by simpa using h
  have h2:¬ q.kind=0:=by simpa using h0
  rw[ini,if_neg h1,if_neg h2];exact Wk.refl _
def wj(v:Str)(l:List Chg)(t:Int):Str:=l.foldl (fun v x=>bif decide (x.time<=t) then x.val else v) v
theorem vt(v:Str)(x:Chg)(l:List Chg)(t:Int):wj v (x::l) t=wj (bif decide (x.time<=t) then x.val else v) l t:=rfl
def w9(q:Sig)(t:Int):Str:=if q.kind=3 then ini q else wj (ini q) q.chg t
theorem F95:OkF 95 Tryz.f95:=⟨by kernel_rfl,by kernel_rfl,by kernel_rfl⟩
def qu6:List (List Nat×List Nat):=[([1,1,0,1,0],[1,2,5,6])]
noncomputable def qpy(q:Sig):List Nat->Nat->Option Ans:=qf [([1,0],1,Ans.pure [q.d] (.str (ini q)))]
theorem qwc[Lay](q:Sig)(t:Int)(K:D->Prop):qn (En Tryz.f95) (fi Tryz.f95 K) (qpy q) qu6 200 [.code []] ⟨qc 0 [q.d,I t],.empty⟩ =
 (PureW PP 35 [q.d] [q.d] (.str (ini q))/\At (En Tryz.f95) (fi Tryz.f95 K) [It.code [1,1,0,1,0],It.blk 0,It.code [1,1,1]] {sl:=[(1,I t),(2,.own [I q.kind,I q.width,L q.chg 2 Chg.d]),(5,.str (ini q)),(6,I 0)],h:=Heap.empty:St}):=by kernel_rfl
def qpz(q:Sig)(t:Int)(v:Str)(i:Int):St:=⟨[(1,I t),(2,.own [I q.kind,I q.width,L q.chg 2 Chg.d]),(5,.str v),(6,I i)],.empty⟩
noncomputable def qm6:List Nat->Nat->Option Ans:=qf []
theorem qm7[Lay](q:Sig)(t:Int)(v:Str)(i:Int)(J:St->Prop)(K:D->Prop):qn (En Tryz.f95) (fi Tryz.f95 K) (qm6 ) qu6 200 [.code [1,1,0,1,0,0],stp [1,2,5,6] J,.blk 0,.code [1,1,1]] (qpz q t v i) =
 (q.chg.length<=q8->bif bif decide (i<(↑q.chg.length:Int)) then q.kind !=3 else false then(0<=i/\i<(↑q.chg.length:Int))/\bif decide ((q.chg.getD i.toNat default).time<=t) then(0<=i/\i<(↑q.chg.length:Int))/\J {sl:=[(1,I t),(2,.own [I q.kind,I q.width,L q.chg 2 Chg.d]),(5,.str (q.chg.getD i.toNat default).val),(6,I (qg .i64 i 1))],h:=Heap.empty:St} else J {sl:=[(1,I t),(2,.own [I q.kind,I q.width,L q.chg 2 Chg.d]),(5,.str v),(6,I (qg .i64 i 1))],h:=Heap.empty:St} else K (.str v)):=by kernel_rfl
theorem c95[Lay](q:Sig)(t:Int)(hw:q.width<=1000000):Pure PP 95 [q.d,I t] (.str (w9 q t)):=by
 refine pu F95 (by kernel_rfl) (of_eq (qwc q t _) ⟨PureW.mk (c35 _ hw),?_⟩)
 unfold w9
 by_cases hk:q.kind=3
 ·rw[if_pos hk]
  refine lp (fn:=Tryz.f95) (fun i:Nat=>i=0) (fun i=>qpz q t (ini q) i) (fun i=>0-i) [1,2,5,6] (by kernel_rfl) (fun i hi=>of_eq (qm7 q t _ i _ _) fun hl=>qa (fun h=> ?_) fun h=>Wk.refl _) 0 rfl
  simp[hk]at h
 ·rw[if_neg hk]
  have hk':(q.kind !=3)=true:=by simpa using hk
  refine lp (fn:=Tryz.f95) (fun x:Nat×Str=>x.1<=q.chg.length/\wj (ini q) q.chg t=wj x.2 (q.chg.drop x.1) t) (fun x=>qpz q t x.2 x.1) (fun x=>q.chg.length-x.1) [1,2,5,6] (by kernel_rfl) (fun x hx=>of_eq (qm7 q t x.2 x.1 _ _) fun hl=> ?_) (0,ini q) ⟨Nat.zero_le _,rfl⟩
  obtain⟨i,u⟩:=x
  obtain⟨hi,he⟩:=hx
  simp only at hi he⊢
  rw[hk']
  refine qa (fun hlt=> ?_) fun hge=> ?_
  ·have hlt:i<q.chg.length:=by
    cases hd:decide ((i:Int)<(q.chg.length:Int)) with
    |true=>exact ltI hd
    |false=>rw[hd]at hlt;cases hlt
   rw[nf hlt hl,Int.toNat_natCast]
   rw[js _ _ hlt,vt]at he
   generalize q.chg.getD i default=x at he⊢
   refine⟨⟨by omega,by omega⟩,qa (fun h=>⟨⟨by omega,by omega⟩,Nx.mk (i+1,x.val) ⟨hlt,?_⟩ (by simp only;omega)⟩) fun h=>Nx.mk (i+1,u) ⟨hlt,?_⟩ (by simp only;omega)⟩
   ·rw[h]at he;exact he
   ·rw[h]at he;exact he
  ·have:q.chg.length<=i:=by
    cases hd:decide ((i:Int)<(q.chg.length:Int)) with
    |true=>rw[hd]at hge;cases hge
    |false=>exact geI hd
   rw[he,List.drop_of_length_le this]
   exact Wk.refl _
theorem qan{α:Type}[Inhabited α]{es:List α}{x:α}{enc:α->D}{n i:Nat}(hn:n=es.length)(hi:i<n+1):kh n (cv es enc) (zz [enc x]) i=cv (es++[x]) enc i:=by
 subst hn
 unfold kh cv
 rcases Nat.lt_or_ge i es.length with h|h
 ·rw[p7.2 h];simp[List.getD,List.getElem?_append_left h]
 ·rw[o2.2 h]
  have:i=es.length:=by omega
  subst this
  simp[List.getD,zz]
theorem ii[Lay]{α:Type}[Inhabited α]{es':List α}{enc:α->D}{f:Nat->D}{d v:D}{n:Nat}(hn:n=es'.length)(hf:∀i,i<es'.length->f i=cv es' enc i)(hw:Wk d v){hw0:Nat->Option Nat}{vw0:Nat->Option (Nat->D)}(e1:hw0=upd (fun _=>none) 0 (some n))(e2:vw0=upd (fun _=>none) 0 (some f)) :
  RetLe d ⟨fun _=>none,0,hw0,1,vw0⟩ v (vc es' enc):=by
 subst hn;subst e1;subst e2
 exact RetLe.of hw (HeapLe.vec (qb _ _ _) (VwLe.eq hf))
def zf(es:List Sp)(to:Int):List Sp:=es.set (es.length-1) ⟨(es.getD (es.length-1) default).frm,to,(es.getD (es.length-1) default).val⟩
def ux(es:List Sp)(frm:Int)(v:Str):List Sp:=if es=[] then[⟨frm,0,v⟩] else if(es.getD (es.length-1) default).val=v then es else zf es (qj .i64 frm 1)++[⟨frm,0,v⟩]
theorem vu(es:List Sp)(to:Int):(zf es to).length=es.length:=by simp[zf]
theorem bq{n:Nat}(h0:0<n)(h:n<=q8):qj .i64 (n:Int) 1=((n-1:Nat):Int):=by
 unfold q8 at h
 rw[jw (by omega) (by omega)];omega
theorem F87:OkF 87 Tryz.f87:=⟨by kernel_rfl,by kernel_rfl,by kernel_rfl⟩
def qwd:List (List Nat×List Nat):=[]
noncomputable def qp0:List Nat->Nat->Option Ans:=qf []
theorem qwe[Lay](es:List Sp)(to:Int)(K:D->Heap->Prop):qn (En Tryz.f87) (fh Tryz.f87 K) (qp0 ) qwd 200 [.code []] ⟨qc 0 [.vec 0 es.length 3,I to],vc es Sp.d⟩ =
 (es.length<=q8->(upd (fun _=>none) 0 (some es.length) 0=some es.length/\0<=qj .i64 (↑es.length:Int) 1/\qj .i64 (↑es.length:Int) 1<(↑es.length:Int))/\upd (fun _=>none) 0 (some es.length) 0=some es.length/\K (D.vec 0 es.length 3) {box:=fun _=>none,nl:=0,hw:=upd (fun _=>none) 0 (some es.length),nt:=1,vw:=upd (upd (fun _=>none) 0 (some (cv es Sp.d))) 0 (some (cq (cv es Sp.d) (qj .i64 (↑es.length:Int) 1).toNat (.agg [I (es.getD (qj .i64 (↑es.length:Int) 1).toNat default).frm,I to,.str (es.getD (qj .i64 (↑es.length:Int) 1).toNat default).val]))):Heap}):=by kernel_rfl
theorem e87[Lay](es:List Sp)(to:Int)(h0:es≠[]):Does PP 87 [.vec 0 es.length 3,I to] (vc es Sp.d) (.vec 0 es.length 3) (vc (zf es to) Sp.d):=by
 have h0:0<es.length:=List.length_pos_iff.2 h0
 refine du F87 (by kernel_rfl) (of_eq (qwe es to _) fun hl=> ?_)
 rw[bq h0 hl,Int.toNat_natCast]
 refine⟨⟨qb _ _ _,by omega,by omega⟩,qb _ _ _,?_⟩
 exact ii (es':=zf es to) (vu _ _).symm (fun i _=>m8 (x:=(⟨_,to,_⟩:Sp)) (by omega) i) (Wk.refl _) rfl (q6 _ _ _ _)
theorem F85:OkF 85 Tryz.f85:=⟨by kernel_rfl,by kernel_rfl,by kernel_rfl⟩
def qu7:List (List Nat×List Nat):=[]
noncomputable def qm8:List Nat->Nat->Option Ans:=qf []
theorem qwf[Lay](es:List Sp)(frm:Int)(v:Str)(K:D->Heap->Prop):qn (EnV [] [39] Tryz.f85) (fh Tryz.f85 K) (qm8 ) qu7 200 [.code []] ⟨qc 0 [.vec 0 es.length 3,I frm,.str v],vc es Sp.d⟩ =
 (es.length<=q8 ->
 (decide ((↑es.length:Int) > 0)=true->upd (fun _=>none) 0 (some es.length) 0=some es.length/\0<=qj .i64 (↑es.length:Int) 1/\qj .i64 (↑es.length:Int) 1<(↑es.length:Int)) /\
  (decide ((↑es.length:Int) > 0)=true->upd (fun _=>none) 0 (some es.length) 0=some es.length) /\
   bif bif decide ((↑es.length:Int) > 0) then(es.getD (qj .i64 (↑es.length:Int) 1).toNat default).val==v else false then K (D.vec 0 es.length 3) {box:=fun _=>none,nl:=0,hw:=upd (fun _=>none) 0 (some es.length),nt:=1,vw:=upd (fun _=>none) 0 (some (cv es Sp.d)):Heap} else bif decide ((↑es.length:Int) > 0) then(upd (fun _=>none) 0 (some es.length) 0=some es.length/\0<=qj .i64 (↑es.length:Int) 1/\qj .i64 (↑es.length:Int) 1<(↑es.length:Int))/\upd (fun _=>none) 0 (some es.length) 0=some es.length/\(upd (fun _=>none) 0 (some es.length) 0=some es.length/\(es.length+1) * 32<=jf)/\K (D.vec 0 (es.length+1) 3) {box:=fun _=>none,nl:=0,hw:=upd (upd (fun _=>none) 0 (some es.length)) 0 (some (es.length+1)),nt:=1,vw:=upd (upd (upd (fun _=>none) 0 (some (cv es Sp.d))) 0 (some (cq (cv es Sp.d) (qj .i64 (↑es.length:Int) 1).toNat (.agg [I (es.getD (qj .i64 (↑es.length:Int) 1).toNat default).frm,I (qj .i64 frm 1),.str (es.getD (qj .i64 (↑es.length:Int) 1).toNat default).val])))) 0 (some (kh es.length (cq (cv es Sp.d) (qj .i64 (↑es.length:Int) 1).toNat (.agg [I (es.getD (qj .i64 (↑es.length:Int) 1).toNat default).frm,I (qj .i64 frm 1),.str (es.getD (qj .i64 (↑es.length:Int) 1).toNat default).val])) (zz [.agg [I frm,I 0,.str v]]))):Heap} else(upd (fun _=>none) 0 (some es.length) 0=some es.length/\(es.length+1) * 32<=jf)/\K (D.vec 0 (es.length+1) 3) {box:=fun _=>none,nl:=0,hw:=upd (upd (fun _=>none) 0 (some es.length)) 0 (some (es.length+1)),nt:=1,vw:=upd (upd (fun _=>none) 0 (some (cv es Sp.d))) 0 (some (kh es.length (cv es Sp.d) (zz [.agg [I frm,I 0,.str v]]))):Heap}):=by kernel_rfl
theorem qu8[Lay](es:List Sp)(frm:Int)(v:Str)(hb:es.length<=100000):qn (EnV [] [39] Tryz.f85) (fh Tryz.f85 fun d h=>RetLe d h (.vec 0 (ux es frm v).length 3) (vc (ux es frm v) Sp.d)) qm8 qu7 200 [.code []] ⟨qc 0 [.vec 0 es.length 3,I frm,.str v],vc es Sp.d⟩:=by
 refine of_eq (qwf es frm v _) fun hl=> ?_
 rcases Nat.eq_zero_or_pos es.length with h0|h0
 ·have he:es=[]:=List.length_eq_zero_iff.1 h0
  subst he
  refine⟨fun h=>by simp at h,fun h=>by simp at h,qa (fun h=>by simp at h) fun _=>qa (fun h=>by simp at h) fun _=>⟨⟨qb _ _ _,by unfold jf;simp⟩,?_⟩⟩
  exact ii (es':=[(⟨frm,0,v⟩:Sp)]) rfl (fun i hi=>qan (es:=[]) (x:=(⟨frm,0,v⟩:Sp)) rfl hi) (Wk.refl _) (q6 _ _ _ _) (q6 _ _ _ _)
 ·have he:es≠[]:=List.length_pos_iff.1 h0
  rw[bq h0 hl,Int.toNat_natCast]
  have hin:(0:Int)<=((es.length-1:Nat):Int)/\((es.length-1:Nat):Int)<(es.length:Int):=⟨by omega,by omega⟩
  have hd:decide ((es.length:Int) > 0)=true:=by simpa using h0
  refine⟨fun _=>⟨qb _ _ _,hin⟩,fun _=>qb _ _ _,?_⟩
  simp only[hd,cond_true]
  refine qa (fun hv=> ?_) fun hv=>⟨⟨qb _ _ _,hin⟩,qb _ _ _,⟨qb _ _ _,by unfold jf;omega⟩,?_⟩
  ·have hv:(es.getD (es.length-1) default).val=v:=by simpa using hv
   rw[ux,if_neg he,if_pos hv]
   exact RetLe.refl _ _
  ·have hv:¬ (es.getD (es.length-1) default).val=v:=by simpa using hv
   rw[ux,if_neg he,if_neg hv]
   refine ii (n:=es.length+1) (es':=zf es (qj .i64 frm 1)++[⟨frm,0,v⟩]) (by rw[List.length_append,vu];rfl) (fun i hi=> ?_) (Wk.of_eq (show D.vec 0 (es.length+1) 3=D.vec 0 (zf es (qj .i64 frm 1)++[(⟨frm,0,v⟩:Sp)]).length 3 by rw[List.length_append,vu];rfl)) (q6 _ _ _ _) ((q6 _ _ _ _).trans (q6 _ _ _ _))
   rw[show cq (cv es Sp.d) (es.length-1) (.agg [I (es.getD (es.length-1) default).frm,I (qj .i64 frm 1),.str (es.getD (es.length-1) default).val])=cv (zf es (qj .i64 frm 1)) Sp.d from funext fun i=>m8 (x:=(⟨_,qj .i64 frm 1,_⟩:Sp)) (by omega) i]
   exact qan (x:=(⟨frm,0,v⟩:Sp)) (vu _ _).symm (by simpa[vu] using hi)
theorem e85[Lay](es:List Sp)(frm:Int)(v:Str)(hb:es.length<=100000):Does PP 85 [.vec 0 es.length 3,I frm,.str v] (vc es Sp.d) (.vec 0 (ux es frm v).length 3) (vc (ux es frm v) Sp.d):=du F85 (by kernel_rfl) (qu8 es frm v hb)
theorem qp1[Lay](frm:Int)(v:Str):Does PP 85 [.list 0 0 (fun _=> .junk) .full,I frm,.str v] .empty (.vec 0 1 3) (vc [⟨frm,0,v⟩] Sp.d) :=
 duA F85 (by kernel_rfl) (jl (st':=⟨qc 0 [.vec 0 0 3,I frm,.str v],vc ([]:List Sp) Sp.d⟩) (qe jv _ _ _ (qu8 [] frm v (by simp))) ((StLe.idle _ (some (cv ([]:List Sp) Sp.d)) 0 3 (fun _=> .junk) rfl).cast (by kernel_rfl)))
theorem F14:OkF 14 Tryz.f14:=⟨by kernel_rfl,by kernel_rfl,by kernel_rfl⟩
def qwg:List (List Nat×List Nat):=[]
noncomputable def qp2:List Nat->Nat->Option Ans:=qf []
theorem qwh[Lay](w:Wv)(K:D->Heap->Prop):qn (EnX [5] Tryz.f14) (fh Tryz.f14 K) (qp2 ) qwg 200 [.code []] ⟨qc 0 [w.d],.empty⟩ =
 (True/\K (D.bp 0 0) {box:=upd (fun _=>none) 0 (some (Row.lit [L w.sig 3 Sig.d,L w.gap 2 Iv.d,I w.fin,I (-1),I 0])),nl:=1,hw:=fun _=>none,nt:=0,vw:=fun _=>none:Heap}):=by kernel_rfl
theorem e14[Lay](w:Wv):Does PP 14 [w.d] .empty (.bp 0 0) (hM w (-1) 0) :=
 du F14 (by kernel_rfl) (of_eq (qwh w _) ⟨trivial,RetLe.refl _ _⟩)
end Go.Proofs.YtiekphbkomddfaaGreatDoor.S1
namespace Go.Proofs.YtiekphbkomddfaaGreatDoor.S1
open Go Go.Ab Go.Proofs
abbrev qs(w:Wv)(sig:Int):Sig:=w.sig.getD sig.toNat default
theorem pm{w:Wv}{lim c sig:Int}(h:(jk w lim c sig !=0)=false):(lim>=0->qg .i64 c 1<=lim)/\0<=sig/\sig<(w.sig.length:Int):=by
 have h:jk w lim c sig=0:=by simpa using h
 unfold jk at h
 cases h1:(bif decide (lim>=0) then decide (qg .i64 c 1 > lim) else false) with
 |true=>rw[h1]at h;simp at h
 |false =>
  rw[h1]at h
  simp only[cond_false]at h
  cases h2:(bif decide (sig<0) then true else decide (sig>=(w.sig.length:Int))) with
  |true=>rw[h2]at h;simp at h
  |false =>
   refine⟨fun hl=> ?_,?_⟩
   ·have:decide (lim>=0)=true:=by simpa using hl
    rw[this]at h1
    simpa using h1
   ·by_cases hs:sig<0
    ·rw[show decide (sig<0)=true by simpa using hs]at h2;cases h2
    ·rw[show decide (sig<0)=false by simpa using hs]at h2
     simp at h2;omega
def qr(w:Wv)(lim c sig:Int):Int×Int×Int:=if jk w lim c sig=0 then((qs w sig).kind,(qs w sig).width,0) else(0,0,jk w lim c sig)
theorem qwi:OkF 206 Tryz.f206:=⟨by kernel_rfl,by kernel_rfl,by kernel_rfl⟩
def qp3:List (List Nat×List Nat):=[]
noncomputable def qm9(w:Wv)(lim:Int)(c:Int)(sig:Int):List Nat->Nat->Option Ans:=qf [([1,0,0],2,Ans.eff (I (jk w lim c sig)) (hM w lim (qg .i64 c 1)))]
theorem qp4[Lay](w:Wv)(lim c sig:Int)(K:D->Heap->Prop):qn (En Tryz.f206) (fh Tryz.f206 K) (qm9 w lim c sig) qp3 200 [.code []] ⟨qc 0 [.bp 0 0,I sig],hM w lim c⟩ =
 (Does PP 210 [D.bp 0 0,I sig] {box:=upd (fun _=>none) 0 (some (Row.lit [L w.sig 3 Sig.d,L w.gap 2 Iv.d,I w.fin,I lim,I c])),nl:=1,hw:=fun _=>none,nt:=0,vw:=fun _=>none:Heap} (I (jk w lim c sig)) (hM w lim (qg .i64 c 1))/\bif jk w lim c sig !=0 then K (.tup [I 0,I 0,I (jk w lim c sig)]) {box:=upd (fun _=>none) 0 (some (Row.lit [L w.sig 3 Sig.d,L w.gap 2 Iv.d,I w.fin,I lim,I (qg .i64 c 1)])),nl:=1,hw:=fun _=>none,nt:=0,vw:=fun _=>none:Heap} else(0<=sig/\sig<(↑w.sig.length:Int))/\True/\K (.tup [I (w.sig.getD sig.toNat default).kind,I (w.sig.getD sig.toNat default).width,I 0]) {box:=upd (fun _=>none) 0 (some (Row.lit [L w.sig 3 Sig.d,L w.gap 2 Iv.d,I w.fin,I lim,I (qg .i64 c 1)])),nl:=1,hw:=fun _=>none,nt:=0,vw:=fun _=>none:Heap}):=by kernel_rfl
theorem qu9[Lay](w:Wv)(lim c sig:Int):Does PP 206 [.bp 0 0,I sig] (hM w lim c) (.tup [I (qr w lim c sig).1,I (qr w lim c sig).2.1,I (qr w lim c sig).2.2]) (hM w lim (qg .i64 c 1)):=by
 refine du qwi (by kernel_rfl) (of_eq (qp4 w lim c sig _) ⟨qo7 _ _ _ _,qa (fun h=> ?_) fun h=>⟨(pm h).2,trivial,?_⟩⟩)
 ·have:¬ jk w lim c sig=0:=by simpa using h
  rw[qr,if_neg this];exact RetLe.refl _ _
 ·have:jk w lim c sig=0:=by simpa using h
  rw[qr,if_pos this];exact RetLe.refl _ _
def vlR(w:Wv)(lim c sig t:Int):Str×Int:=if jk w lim c sig=0 then(if t<0\/t > w.fin then([],2) else(w9 (qs w sig) t,0)) else([],jk w lim c sig)
theorem qwj:OkF 208 Tryz.f208:=⟨by kernel_rfl,by kernel_rfl,by kernel_rfl⟩
def qp5:List (List Nat×List Nat):=[]
noncomputable def qwk(w:Wv)(lim:Int)(c:Int)(sig:Int)(t:Int):List Nat->Nat->Option Ans:=qf [([1,0,0],2,Ans.eff (I (jk w lim c sig)) (hM w lim (qg .i64 c 1))),([1,1,1,0],9,Ans.pure [(w.sig.getD sig.toNat default).d,I t] (.str (w9 (w.sig.getD sig.toNat default) t)))]
theorem nVl[Lay](w:Wv)(lim c sig t:Int)(K:D->Heap->Prop):qn (En Tryz.f208) (fh Tryz.f208 K) (qwk w lim c sig t) qp5 200 [.code []] ⟨qc 0 [.bp 0 0,I sig,I t],hM w lim c⟩ =
 (Does PP 210 [D.bp 0 0,I sig] {box:=upd (fun _=>none) 0 (some (Row.lit [L w.sig 3 Sig.d,L w.gap 2 Iv.d,I w.fin,I lim,I c])),nl:=1,hw:=fun _=>none,nt:=0,vw:=fun _=>none:Heap} (I (jk w lim c sig)) (hM w lim (qg .i64 c 1))/\bif jk w lim c sig !=0 then K (.tup [.str {data:= #[]:ByteArray}.data.toList,I (jk w lim c sig)]) {box:=upd (fun _=>none) 0 (some (Row.lit [L w.sig 3 Sig.d,L w.gap 2 Iv.d,I w.fin,I lim,I (qg .i64 c 1)])),nl:=1,hw:=fun _=>none,nt:=0,vw:=fun _=>none:Heap} else bif bif decide (t<0) then true else decide (t > w.fin) then K (.tup [.str {data:= #[]:ByteArray}.data.toList,I 2]) {box:=upd (fun _=>none) 0 (some (Row.lit [L w.sig 3 Sig.d,L w.gap 2 Iv.d,I w.fin,I lim,I (qg .i64 c 1)])),nl:=1,hw:=fun _=>none,nt:=0,vw:=fun _=>none:Heap} else(0<=sig/\sig<(↑w.sig.length:Int))/\PureW PP 95 [(w.sig.getD sig.toNat default).d,I t] [(w.sig.getD sig.toNat default).d,I t] (.str (w9 (w.sig.getD sig.toNat default) t))/\K (.tup [.str (w9 (w.sig.getD sig.toNat default) t),I 0]) {box:=upd (fun _=>none) 0 (some (Row.lit [L w.sig 3 Sig.d,L w.gap 2 Iv.d,I w.fin,I lim,I (qg .i64 c 1)])),nl:=1,hw:=fun _=>none,nt:=0,vw:=fun _=>none:Heap}):=by kernel_rfl
theorem qwl[Lay](w:Wv)(lim c sig t:Int)(hw:(qs w sig).width<=1000000):Does PP 208 [.bp 0 0,I sig,I t] (hM w lim c) (.tup [.str (vlR w lim c sig t).1,I (vlR w lim c sig t).2]) (hM w lim (qg .i64 c 1)):=by
 refine du qwj (by kernel_rfl) (of_eq (nVl w lim c sig t _) ⟨qo7 _ _ _ _,qa (fun h=> ?_) fun h=>qa (fun h2=> ?_) fun h2=>⟨(pm h).2,PureW.mk (c95 _ _ hw),?_⟩⟩)
 ·have:¬ jk w lim c sig=0:=by simpa using h
  rw[vlR,if_neg this];exact RetLe.refl _ _
 ·have:jk w lim c sig=0:=by simpa using h
  have h3:t<0\/t > w.fin:=by
   by_cases h4:t<0
   ·exact .inl h4
   ·rw[show decide (t<0)=false by simpa using h4]at h2;exact .inr (by simpa using h2)
  rw[vlR,if_pos this,if_pos h3];exact RetLe.refl _ _
 ·have:jk w lim c sig=0:=by simpa using h
  have h3:¬ (t<0\/t > w.fin):=by
   intro h4
   rcases h4 with h4|h4
   ·rw[show decide (t<0)=true by simpa using h4]at h2;cases h2
   ·cases h5:decide (t<0) with
    |true=>rw[h5]at h2;cases h2
    |false=>rw[h5]at h2;simp at h2;omega
  rw[vlR,if_pos this,if_neg h3];exact RetLe.refl _ _
def qao(l:List Chg)(t:Int):Option Chg:=l.find? fun x=>decide (x.time > t)
def nxR(w:Wv)(lim c sig t:Int):Chg×Int:=if jk w lim c sig=0 then(if t < -1\/t > w.fin then(default,2) else match qao (qs w sig).chg t with|some x=>(x,0)|none=>(default,6)) else(default,jk w lim c sig)
theorem qwm:OkF 207 Tryz.f207:=⟨by kernel_rfl,by kernel_rfl,by kernel_rfl⟩
def qna:List (List Nat×List Nat):=[([1,1,1,0,1,0],[2,6,38,39,40])]
noncomputable def qwn(w:Wv)(lim:Int)(c:Int)(sig:Int):List Nat->Nat->Option Ans:=qf [([1,0,0],2,Ans.eff (I (jk w lim c sig)) (hM w lim (qg .i64 c 1)))]
theorem nNx[Lay](w:Wv)(lim c sig t:Int)(K:D->Heap->Prop):qn (En Tryz.f207) (fh Tryz.f207 K) (qwn w lim c sig) qna 200 [.code []] ⟨qc 0 [.bp 0 0,I sig,I t],hM w lim c⟩ =
 (Does PP 210 [D.bp 0 0,I sig] {box:=upd (fun _=>none) 0 (some (Row.lit [L w.sig 3 Sig.d,L w.gap 2 Iv.d,I w.fin,I lim,I c])),nl:=1,hw:=fun _=>none,nt:=0,vw:=fun _=>none:Heap} (I (jk w lim c sig)) (hM w lim (qg .i64 c 1))/\bif jk w lim c sig !=0 then True/\K (.tup [.agg [I 0,.str {data:= #[]:ByteArray}.data.toList],I (jk w lim c sig)]) {box:=upd (fun _=>none) 0 (some (Row.lit [L w.sig 3 Sig.d,L w.gap 2 Iv.d,I w.fin,I lim,I (qg .i64 c 1)])),nl:=1,hw:=fun _=>none,nt:=0,vw:=fun _=>none:Heap} else bif bif decide (t < -1) then true else decide (t > w.fin) then True/\K (.tup [.agg [I 0,.str {data:= #[]:ByteArray}.data.toList],I 2]) {box:=upd (fun _=>none) 0 (some (Row.lit [L w.sig 3 Sig.d,L w.gap 2 Iv.d,I w.fin,I lim,I (qg .i64 c 1)])),nl:=1,hw:=fun _=>none,nt:=0,vw:=fun _=>none:Heap} else(0<=sig/\sig<(↑w.sig.length:Int))/\((w.sig.getD sig.toNat default).chg.length<=q8->At (En Tryz.f207) (fh Tryz.f207 K) [It.code [1,1,1,0,1,0],It.blk 0,It.code [1,1,1,1]] {sl:=[(2,I t),(6,.own [I 0,.str {data:= #[]:ByteArray}.data.toList]),(38,L (w.sig.getD sig.toNat default).chg 2 Chg.d),(39,I (↑(w.sig.getD sig.toNat default).chg.length:Int)),(40,I 0)],h:={box:=upd (fun _=>none) 0 (some (Row.lit [L w.sig 3 Sig.d,L w.gap 2 Iv.d,I w.fin,I lim,I (qg .i64 c 1)])),nl:=1,hw:=fun _=>none,nt:=0,vw:=fun _=>none:Heap}:St})):=by kernel_rfl
def SNx(w:Wv)(lim c sig t:Int)(i:Int):St:=⟨[(2,I t),(6,.own [I 0,.str []]),(38,L (w.sig.getD sig.toNat default).chg 2 Chg.d),(39,I (w.sig.getD sig.toNat default).chg.length),(40,I i)],hM w lim c⟩
noncomputable def qp6:List Nat->Nat->Option Ans:=qf []
theorem qwo[Lay](w:Wv)(lim c sig t i:Int)(J:St->Prop)(K:D->Heap->Prop):qn (En Tryz.f207) (fh Tryz.f207 K) (qp6 ) qna 200 [.code [1,1,1,0,1,0,0],stp [2,6,38,39,40] J,.blk 0,.code [1,1,1,1]] (SNx w lim c sig t i) =
 (bif decide (i<(↑(w.sig.getD sig.toNat default).chg.length:Int)) then(0<=i/\i<(↑(w.sig.getD sig.toNat default).chg.length:Int))/\True/\bif decide (((w.sig.getD sig.toNat default).chg.getD i.toNat default).time > t) then True/\K (.tup [.agg [I ((w.sig.getD sig.toNat default).chg.getD i.toNat default).time,.str ((w.sig.getD sig.toNat default).chg.getD i.toNat default).val],I 0]) {box:=upd (fun _=>none) 0 (some (Row.lit [L w.sig 3 Sig.d,L w.gap 2 Iv.d,I w.fin,I lim,I c])),nl:=1,hw:=fun _=>none,nt:=0,vw:=fun _=>none:Heap} else J {sl:=[(2,I t),(6,.own [I 0,.str []]),(38,L (w.sig.getD sig.toNat default).chg 2 Chg.d),(39,I (↑(w.sig.getD sig.toNat default).chg.length:Int)),(40,I (qg .i64 i 1))],h:={box:=upd (fun _=>none) 0 (some (Row.lit [L w.sig 3 Sig.d,L w.gap 2 Iv.d,I w.fin,I lim,I c])),nl:=1,hw:=fun _=>none,nt:=0,vw:=fun _=>none:Heap}:St} else True/\K (.tup [.agg [I 0,.str {data:= #[]:ByteArray}.data.toList],I 6]) {box:=upd (fun _=>none) 0 (some (Row.lit [L w.sig 3 Sig.d,L w.gap 2 Iv.d,I w.fin,I lim,I c])),nl:=1,hw:=fun _=>none,nt:=0,vw:=fun _=>none:Heap}):=by kernel_rfl
theorem qwp[Lay](w:Wv)(lim c sig t:Int):Does PP 207 [.bp 0 0,I sig,I t] (hM w lim c) (.tup [(nxR w lim c sig t).1.d,I (nxR w lim c sig t).2]) (hM w lim (qg .i64 c 1)):=by
 refine du qwm (by kernel_rfl) (of_eq (nNx w lim c sig t _) ⟨qo7 _ _ _ _,qa (fun h=>⟨trivial,?_⟩) fun h=>qa (fun h2=>⟨trivial,?_⟩) fun h2=>⟨(pm h).2,fun hl=> ?_⟩⟩)
 ·have:¬ jk w lim c sig=0:=by simpa using h
  rw[nxR,if_neg this];exact RetLe.refl _ _
 ·have:jk w lim c sig=0:=by simpa using h
  have h3:t < -1\/t > w.fin:=by
   by_cases h4:t < -1
   ·exact .inl h4
   ·rw[show decide (t < -1)=false by simpa using h4]at h2;exact .inr (by simpa using h2)
  rw[nxR,if_pos this,if_pos h3];exact RetLe.refl _ _
 ·have:jk w lim c sig=0:=by simpa using h
  have h3:¬ (t < -1\/t > w.fin):=by
   intro h4
   rcases h4 with h4|h4
   ·rw[show decide (t < -1)=true by simpa using h4]at h2;cases h2
   ·cases h5:decide (t < -1) with
    |true=>rw[h5]at h2;cases h2
    |false=>rw[h5]at h2;simp at h2;omega
  rw[nxR,if_pos this,if_neg h3]
  refine lp (fn:=Tryz.f207) (fun i:Nat=>i<=(qs w sig).chg.length/\qao (qs w sig).chg t=qao ((qs w sig).chg.drop i) t) (fun i=>SNx w lim (qg .i64 c 1) sig t i) (fun i=>(qs w sig).chg.length-i) [2,6,38,39,40] (by kernel_rfl) (fun i hi=>of_eq (qwo w lim _ sig t i _ _) (qa (fun hlt=> ?_) fun hge=> ?_)) 0 ⟨Nat.zero_le _,rfl⟩
  ·have hlt:=ltI hlt
   obtain⟨_,he⟩:=hi
   rw[nf hlt hl,Int.toNat_natCast]
   rw[js _ _ hlt]at he
   simp only[qao,List.find?_cons]at he
   refine⟨⟨by omega,by omega⟩,trivial,qa (fun h5=>⟨trivial,?_⟩) fun h5=>Nx.mk (i+1) ⟨hlt,?_⟩ (Nat.sub_lt_sub_left hlt (Nat.lt_succ_self i))⟩
   ·rw[h5]at he
    simp only[qao,he]
    exact RetLe.refl _ _
   ·rw[h5]at he
    simp only[qao,he]
  ·have:=geI hge
   rw[hi.2,List.drop_of_length_le this]
   exact⟨trivial,RetLe.refl _ _⟩
end Go.Proofs.YtiekphbkomddfaaGreatDoor.S1
namespace Go.Proofs.YtiekphbkomddfaaGreatDoor.S1
open Go Go.Ab Go.Proofs
theorem bu{α:Type}[Inhabited α](l:List α)(x:α):(l++[x]).getD l.length default=x:=by simp[List.getD]
theorem tf(a:List Sp)(x:Sp)(t:Int):zf (a++[x]) t=a++[⟨x.frm,t,x.val⟩]:=by
 unfold zf
 have:(a++[x]).length-1=a.length:=by simp
 rw[this,bu]
 simp
theorem qgg(a:List Sp)(x:Sp)(frm:Int)(v:Str):ux (a++[x]) frm v=if x.val=v then a++[x] else a++[⟨x.frm,qj .i64 frm 1,x.val⟩]++[⟨frm,0,v⟩]:=by
 unfold ux
 have h1:(a++[x]).length-1=a.length:=by simp
 rw[if_neg (by simp),h1,bu,tf]
theorem qle(l:List Sp)(frm:Int)(v:Str):ux l frm v≠[]:=by
 unfold ux
 split
 ·simp
 ·split
  ·assumption
  ·simp
theorem qdd(l:List Sp)(frm:Int)(v:Str):(ux l frm v).length<=l.length+1:=by
 unfold ux
 split
 ·simp
 ·split
  ·omega
  ·simp[vu]
def cut(l:List Chg)(frm to:Int):List Chg:=l.filter fun x=>decide (x.time > frm)&&decide (x.time<=to)
def qgh(v:Str)(l:List Chg)(frm to:Int):List Sp:=zf (l.foldl (fun o x=>ux o x.time x.val) [⟨frm,0,v⟩]) to
def Inc:Int->List Chg->Prop
 |_,[]=>True
 |t,x::r=>t<x.time/\Inc x.time r
theorem Inc.mono{s t:Int}(h:s<=t):∀{l:List Chg},Inc t l->Inc s l
 | [],_=>trivial
 |_::_,⟨h1,h2⟩=>⟨by omega,h2⟩
theorem Inc.gt{t:Int}:∀{l:List Chg},Inc t l->∀x∈l,t<x.time
 | [],_,_,h=>by cases h
 |y::r,⟨h1,h2⟩,x,hx=>by
  rcases List.mem_cons.1 hx with rfl|hx
  ·exact h1
  ·have:=Inc.gt h2 x hx;omega
theorem ij:∀(l:List Chg) (v:Str) (t:Int),(∀x∈l,t<x.time)->wj v l t=v
 | [],_,_,_=>rfl
 |x::l,v,t,h=>by
  rw[vt,decide_eq_false (by have:=h x (List.mem_cons_self ..);omega)]
  exact ij l v t fun y hy=>h y (List.mem_cons_of_mem _ hy)
theorem qap(v:Str)(a b:List Chg)(t:Int):wj v (a++b) t=wj (wj v a t) b t:=by simp[wj,List.foldl_append]
theorem Inc.split(t:Int):∀{s:Int} {l:List Chg},Inc s l->∃a b,l=a++b/\(∀x∈a,x.time<=t)/\Inc t b
 |_,[],_=>⟨[],[],rfl,fun _ h=>(by cases h),trivial⟩
 |s,x::l,⟨h1,h2⟩=>by
  by_cases h:x.time<=t
  ·obtain⟨a,b,e,ha,hb⟩:=Inc.split t h2
   exact⟨x::a,b,by rw[e];rfl,fun y hy=>by
    rcases List.mem_cons.1 hy with rfl|hy
    ·exact h
    ·exact ha y hy,hb⟩
  ·exact⟨[],x::l,rfl,fun _ h=>(by cases h),⟨by omega,h2⟩⟩
end Go.Proofs.YtiekphbkomddfaaGreatDoor.S1
namespace Go.Proofs.YtiekphbkomddfaaGreatDoor.S1
open Go Go.Ab Go.Proofs
instance {ds:List D}[h:ROs ds]:RO (.ep ds):=⟨h.p⟩
abbrev wd:D:= .iface 36 (.bp 0 0)
abbrev qgi(w:Wv)(lim c:Int):Row:= .lit [L w.sig 3 Sig.d,L w.gap 2 Iv.d,I w.fin,I lim,I c]
def hE(w:Wv)(lim c e:Int):Heap:=⟨upd (upd (fun _=>none) 0 (some (.lit [L w.sig 3 Sig.d,L w.gap 2 Iv.d,I w.fin,I lim,I c]))) 1 (some (.lit [I e])),2,fun _=>none,0,fun _=>none⟩
theorem F86:OkF 86 Tryz.f86:=⟨by kernel_rfl,by kernel_rfl,by kernel_rfl⟩
def qwq:List (List Nat×List Nat):=[([1],[5,6,7,8,9])]
noncomputable def qgj:List Nat->Nat->Option Ans:=qf []
theorem qja[Lay](w:Wv)(lim c e sig frm to:Int)(K:D->Heap->Prop):qn (En Tryz.f86) (fh Tryz.f86 K) (qgj ) qwq 200 [.code []] ⟨qc 0 [wd,I sig,I frm,I to,.bp 1 0],hE w lim c e⟩ =
 (At (En Tryz.f86) (fh Tryz.f86 K) [It.code [1]] {sl:=[(5,.own [D.iface 36 (D.bp 0 0)]),(6,.own [I sig]),(7,.own [I frm]),(8,.own [I to]),(9,.own [D.bp 1 0])],h:={box:=upd (upd (fun _=>none) 0 (some (Row.lit [L w.sig 3 Sig.d,L w.gap 2 Iv.d,I w.fin,I lim,I c]))) 1 (some (Row.lit [I e])),nl:=2,hw:=fun _=>none,nt:=0,vw:=fun _=>none:Heap}:St}):=by kernel_rfl
noncomputable def qey:List Nat->Nat->Option Ans:=qf []
theorem qgk[Lay](w:Wv)(lim c e sig frm to:Int)(K:D->Heap->Prop):qn (En Tryz.f86) (fh Tryz.f86 K) (qey ) cc 200 [.code [1]] ⟨[(5,.ep [wd]),(6,.ep [I sig]),(7,.ep [I frm]),(8,.ep [I to]),(9,.ep [.bp 1 0])],hE w lim c e⟩ =
 (K (D.clo 129 [D.ep [I frm],D.ep [wd],D.ep [I sig],D.ep [D.bp 1 0],D.ep [I to]]) {box:=upd (upd (fun _=>none) 0 (some (Row.lit [L w.sig 3 Sig.d,L w.gap 2 Iv.d,I w.fin,I lim,I c]))) 1 (some (Row.lit [I e])),nl:=2,hw:=fun _=>none,nt:=0,vw:=fun _=>none:Heap}):=by kernel_rfl
theorem e86[Lay](w:Wv)(lim c e sig frm to:Int):Does PP 86 [.iface 36 (.bp 0 0),I sig,I frm,I to,.bp 1 0] (hE w lim c e) (.clo 129 [.ep [I frm],.ep [wd],.ep [I sig],.ep [.bp 1 0],.ep [I to]]) (hE w lim c e):=by
 refine du F86 (by kernel_rfl) (of_eq (qja w lim c e sig frm to _) ?_)
 refine jl (qe jv _ _ _ (of_eq (qgk w lim c e sig frm to _) (RetLe.refl _ _))) ?_
 exact((((StLe.layOwn 5 rfl (by kernel_rfl)).trans (StLe.layOwn 6 rfl (by kernel_rfl))).trans (StLe.layOwn 7 rfl (by kernel_rfl))).trans (StLe.layOwn 8 rfl (by kernel_rfl))).trans (StLe.layOwn 9 rfl (by kernel_rfl))
def hO(w:Wv)(lim c e:Int)(out:List Sp)(q:og):Heap :=
 ⟨upd (upd (upd (upd (fun _=>none) 0 (some (qgi w lim c))) 1 (some (.lit [I e]))) 2 (some (.lit [.vec 0 out.length 3]))) 3 (some (.loop q none)),4,
  upd (fun _=>none) 0 (some out.length),1,upd (fun _=>none) 0 (some (cv out Sp.d))⟩
def hT3(w:Wv)(lim c e:Int)(out:List Sp):Heap :=
 ⟨upd (upd (upd (fun _=>none) 0 (some (qgi w lim c))) 1 (some (.lit [I e]))) 2 (some (.lit [.vec 0 out.length 3])),4,upd (fun _=>none) 0 (some out.length),1,upd (fun _=>none) 0 (some (cv out Sp.d))⟩
theorem qkc{w:Wv}{lim c e:Int}{out:List Sp}{q:og}:qbc (hO w lim c e out q) 3=hT3 w lim c e out:=by
 have:upd (hO w lim c e out q).box 3 none=(hT3 w lim c e out).box:=by
  funext k;rcases k with _|_|_|_|k <;> rfl
 unfold qbc
 rw[this];rfl
theorem qwr:OkF 129 Tryz.f129:=⟨by kernel_rfl,by kernel_rfl,by kernel_rfl⟩
def qlf:List (List Nat×List Nat):=[([1,0],[0,2,3,4,5,7])]
noncomputable def qws:List Nat->Nat->Option Ans:=qf []
theorem nIt[Lay](w:Wv)(lim c e:Int)(out:List Sp)(q:og)(sig frm to:Int)(K:D->Heap->Prop):qn (En Tryz.f129) (fh Tryz.f129 K) (qws ) qlf 200 [.code []] ⟨qc 0 [.yl 3,.ep [I frm],.ep [wd],.ep [I sig],.ep [.bp 1 0],.ep [I to]],hO w lim c e out q⟩ =
 (At (En Tryz.f129) (fh Tryz.f129 K) [It.code [1,0],It.blk 0] {sl:=[(0,D.yl 3),(2,D.ep [wd]),(3,D.ep [I sig]),(4,D.ep [D.bp 1 0]),(5,D.ep [I to]),(7,I frm)],h:={box:=upd (upd (upd (upd (fun _=>none) 0 (some (Row.lit [L w.sig 3 Sig.d,L w.gap 2 Iv.d,I w.fin,I lim,I c]))) 1 (some (Row.lit [I e]))) 2 (some (Row.lit [D.vec 0 out.length 3]))) 3 (some (Row.loop q none)),nl:=4,hw:=upd (fun _=>none) 0 (some out.length),nt:=1,vw:=upd (fun _=>none) 0 (some (cv out Sp.d)):Heap}:St}):=by kernel_rfl
def SIt(w:Wv)(lim c e:Int)(out:List Sp)(q:og)(sig to t:Int):St:=⟨[(0,.yl 3),(2,.ep [wd]),(3,.ep [I sig]),(4,.ep [.bp 1 0]),(5,.ep [I to]),(7,I t)],hO w lim c e out q⟩
noncomputable def qp7(w:Wv)(lim:Int)(c:Int)(e:Int)(out:List Sp)(q:og)(sig:Int)(t:Int):List Nat->Nat->Option Ans:=qf [([1,0,0,0,0],3,Ans.eff (ren (rnm [0] 4) (rnm [] 1) (.tup [(nxR w lim c sig t).fst.d,I (nxR w lim c sig t).snd])) (ql [0] [] {box:=upd (upd (upd (upd (fun _=>none) 0 (some (Row.lit [L w.sig 3 Sig.d,L w.gap 2 Iv.d,I w.fin,I lim,I c]))) 1 (some (Row.lit [I e]))) 2 (some (Row.lit [D.vec 0 out.length 3]))) 3 (some (Row.loop q none)),nl:=4,hw:=upd (fun _=>none) 0 (some out.length),nt:=1,vw:=upd (fun _=>none) 0 (some (cv out Sp.d)):Heap} (hM w lim (qg .i64 c 1))))]
theorem qwt[Lay](w:Wv)(lim c e:Int)(out:List Sp)(q:og)(sig to t:Int)(J:St->Prop)(K:D->Heap->Prop):qn (En Tryz.f129) (fh Tryz.f129 K) (qp7 w lim c e out q sig t) qlf 200 [.code [1,0,0],stp [0,2,3,4,5,7] J,.blk 0] (SIt w lim c e out q sig to t) =
 (Does PP 207 [D.bp 0 0,I sig,I t] {box:=upd (upd (upd (upd (fun _=>none) 0 (some (Row.lit [L w.sig 3 Sig.d,L w.gap 2 Iv.d,I w.fin,I lim,I c]))) 1 (some (Row.lit [I e]))) 2 (some (Row.lit [D.vec 0 out.length 3]))) 3 (some (Row.loop q none)),nl:=4,hw:=upd (fun _=>none) 0 (some out.length),nt:=1,vw:=upd (fun _=>none) 0 (some (cv out Sp.d)):Heap} (ren (rnm [0] 4) (rnm [] 1) (.tup [(nxR w lim c sig t).fst.d,I (nxR w lim c sig t).snd])) (ql [0] [] {box:=upd (upd (upd (upd (fun _=>none) 0 (some (Row.lit [L w.sig 3 Sig.d,L w.gap 2 Iv.d,I w.fin,I lim,I c]))) 1 (some (Row.lit [I e]))) 2 (some (Row.lit [D.vec 0 out.length 3]))) 3 (some (Row.loop q none)),nl:=4,hw:=upd (fun _=>none) 0 (some out.length),nt:=1,vw:=upd (fun _=>none) 0 (some (cv out Sp.d)):Heap} (hM w lim (qg .i64 c 1))) /\
 True /\
  bif(nxR w lim c sig t).snd==6 then K (.tup []) {box:=upd (upd (upd (upd (upd (fun _=>none) 0 (some (Row.lit [L w.sig 3 Sig.d,L w.gap 2 Iv.d,I w.fin,I lim,I c]))) 1 (some (Row.lit [I e]))) 2 (some (Row.lit [D.vec 0 out.length 3]))) 3 (some (Row.loop q none))) 0 (some (Row.lit [L w.sig 3 Sig.d,L w.gap 2 Iv.d,I w.fin,I lim,I (qg .i64 c 1)])),nl:=4,hw:=upd (fun _=>none) 0 (some out.length),nt:=1,vw:=upd (fun _=>none) 0 (some (cv out Sp.d)):Heap}
  else
   bif(nxR w lim c sig t).snd !=0 then True/\K (.tup []) {box:=upd (upd (upd (upd (upd (upd (fun _=>none) 0 (some (Row.lit [L w.sig 3 Sig.d,L w.gap 2 Iv.d,I w.fin,I lim,I c]))) 1 (some (Row.lit [I e]))) 2 (some (Row.lit [D.vec 0 out.length 3]))) 3 (some (Row.loop q none))) 0 (some (Row.lit [L w.sig 3 Sig.d,L w.gap 2 Iv.d,I w.fin,I lim,I (qg .i64 c 1)]))) 1 (some (Row.lit [I (nxR w lim c sig t).snd])),nl:=4,hw:=upd (fun _=>none) 0 (some out.length),nt:=1,vw:=upd (fun _=>none) 0 (some (cv out Sp.d)):Heap}
   else
    bif decide ((nxR w lim c sig t).fst.time<=t) then True/\K (.tup []) {box:=upd (upd (upd (upd (upd (upd (fun _=>none) 0 (some (Row.lit [L w.sig 3 Sig.d,L w.gap 2 Iv.d,I w.fin,I lim,I c]))) 1 (some (Row.lit [I e]))) 2 (some (Row.lit [D.vec 0 out.length 3]))) 3 (some (Row.loop q none))) 0 (some (Row.lit [L w.sig 3 Sig.d,L w.gap 2 Iv.d,I w.fin,I lim,I (qg .i64 c 1)]))) 1 (some (Row.lit [I 12])),nl:=4,hw:=upd (fun _=>none) 0 (some out.length),nt:=1,vw:=upd (fun _=>none) 0 (some (cv out Sp.d)):Heap}
    else
     bif !decide ((nxR w lim c sig t).fst.time > to) then
      CallY PP 3 [.agg [I (nxR w lim c sig t).fst.time,.str (nxR w lim c sig t).fst.val]] {box:=upd (upd (upd (upd (upd (fun _=>none) 0 (some (Row.lit [L w.sig 3 Sig.d,L w.gap 2 Iv.d,I w.fin,I lim,I c]))) 1 (some (Row.lit [I e]))) 2 (some (Row.lit [D.vec 0 out.length 3]))) 3 (some (Row.loop q none))) 0 (some (Row.lit [L w.sig 3 Sig.d,L w.gap 2 Iv.d,I w.fin,I lim,I (qg .i64 c 1)])),nl:=4,hw:=upd (fun _=>none) 0 (some out.length),nt:=1,vw:=upd (fun _=>none) 0 (some (cv out Sp.d)):Heap} fun v h' =>
       At (En Tryz.f129) (fh Tryz.f129 K) [It.ops [1,0,0,0,1,0,0,1,1,1,1,1,1,0] 8,It.code [1,0,0,0,1,0,0,1,1,1,1,1,1,1],It.blk 2,It.code [1,0,0,0,1,1],It.blk 1,stp [0,2,3,4,5,7] J,It.blk 0] {sl:=[(42,bif xb (D.may 4 false v) 42 then D.junk else D.may 4 false v),(41,D.may 4 false (.agg [I (nxR w lim c sig t).fst.time,.str (nxR w lim c sig t).fst.val])),(40,D.may 4 false (D.yl 3)),(39,B (decide ((nxR w lim c sig t).fst.time > to))),(38,B (decide ((nxR w lim c sig t).fst.time > to))),(37,I to),(36,I (nxR w lim c sig t).fst.time),(35,D.lp 8 0),(27,B (decide ((nxR w lim c sig t).fst.time<=t))),(31,B (decide ((nxR w lim c sig t).fst.time<=t))),(30,I t),(29,I (nxR w lim c sig t).fst.time),(21,B ((nxR w lim c sig t).snd !=0)),(23,B ((nxR w lim c sig t).snd !=0)),(22,I (nxR w lim c sig t).snd),(18,B ((nxR w lim c sig t).snd==6)),(20,B ((nxR w lim c sig t).snd==6)),(19,I (nxR w lim c sig t).snd),(9,I (nxR w lim c sig t).snd),(8,.own [I (nxR w lim c sig t).fst.time,.str (nxR w lim c sig t).fst.val]),(17,I (nxR w lim c sig t).snd),(16,.agg [I (nxR w lim c sig t).fst.time,.str (nxR w lim c sig t).fst.val]),(11,.tup [.agg [I (nxR w lim c sig t).fst.time,.str (nxR w lim c sig t).fst.val],I (nxR w lim c sig t).snd]),(15,.tup [.agg [I (nxR w lim c sig t).fst.time,.str (nxR w lim c sig t).fst.val],I (nxR w lim c sig t).snd]),(14,I t),(13,I sig),(12,D.iface 36 (D.bp 0 0)),(0,D.yl 3),(2,D.ep [wd]),(3,D.ep [I sig]),(4,D.ep [D.bp 1 0]),(5,D.ep [I to]),(7,I t)],h:=h':St}
     else bif bif decide ((nxR w lim c sig t).fst.time > to) then true else false then K (.tup []) {box:=upd (upd (upd (upd (upd (fun _=>none) 0 (some (Row.lit [L w.sig 3 Sig.d,L w.gap 2 Iv.d,I w.fin,I lim,I c]))) 1 (some (Row.lit [I e]))) 2 (some (Row.lit [D.vec 0 out.length 3]))) 3 (some (Row.loop q none))) 0 (some (Row.lit [L w.sig 3 Sig.d,L w.gap 2 Iv.d,I w.fin,I lim,I (qg .i64 c 1)])),nl:=4,hw:=upd (fun _=>none) 0 (some out.length),nt:=1,vw:=upd (fun _=>none) 0 (some (cv out Sp.d)):Heap} else J {sl:=[(0,D.yl 3),(2,D.ep [wd]),(3,D.ep [I sig]),(4,D.ep [D.bp 1 0]),(5,D.ep [I to]),(7,I (nxR w lim c sig t).fst.time)],h:={box:=upd (upd (upd (upd (upd (fun _=>none) 0 (some (Row.lit [L w.sig 3 Sig.d,L w.gap 2 Iv.d,I w.fin,I lim,I c]))) 1 (some (Row.lit [I e]))) 2 (some (Row.lit [D.vec 0 out.length 3]))) 3 (some (Row.loop q none))) 0 (some (Row.lit [L w.sig 3 Sig.d,L w.gap 2 Iv.d,I w.fin,I lim,I (qg .i64 c 1)])),nl:=4,hw:=upd (fun _=>none) 0 (some out.length),nt:=1,vw:=upd (fun _=>none) 0 (some (cv out Sp.d)):Heap}:St}):=by kernel_rfl
noncomputable def qp8:List Nat->Nat->Option Ans:=qf []
theorem qwu[Lay](h:Heap)(x:Chg)(f sig to t:Int)(J:St->Prop)(K:D->Heap->Prop):qn (En Tryz.f129) (fh Tryz.f129 K) (qp8 ) qlf 200 [.ops [1,0,0,0,1,0,0,1,1,1,1,1,1,0] 8,.code [1,0,0,0,1,0,0,1,1,1,1,1,1,1],.blk 2,.code [1,0,0,0,1,1],.blk 1,stp [0,2,3,4,5,7] J,.blk 0] ⟨[(42,.may 4 false (B true)),(41,.may 4 false (.agg [I x.time,.str x.val])),(40,.may 4 false (.yl 3)),(39,B (decide (x.time > to))),(38,B (decide (x.time > to))),(37,I to),(36,I x.time),(35,.lp 8 0),(27,B (decide (x.time<=t))),(31,B (decide (x.time<=t))),(30,I t),(29,I x.time),(21,B (f !=0)),(23,B (f !=0)),(22,I f),(18,B (f==6)),(20,B (f==6)),(19,I f),(9,I f),(8,.own [I x.time,.str x.val]),(17,I f),(16,.agg [I x.time,.str x.val]),(11,.tup [.agg [I x.time,.str x.val],I f]),(15,.tup [.agg [I x.time,.str x.val],I f]),(14,I t),(13,I sig),(12,.iface 36 (.bp 0 0)),(0,.yl 3),(2,.ep [wd]),(3,.ep [I sig]),(4,.ep [.bp 1 0]),(5,.ep [I to]),(7,I t)],h⟩ =
 (bif bif decide (x.time > to) then true else false then K (.tup []) h else J {sl:=[(0,D.yl 3),(2,D.ep [wd]),(3,D.ep [I sig]),(4,D.ep [D.bp 1 0]),(5,D.ep [I to]),(7,I x.time)],h:=h:St}):=by kernel_rfl
def qh9(lim c:Int):Bool:=bif decide (lim>=0) then decide (qg .i64 c 1 > lim) else false
def itR(lim to:Int):List Chg->Int->List Sp->List Sp×Int×Int
 | [],c,out=>(out,qg .i64 c 1,bif qh9 lim c then 14 else 0)
 |x::cs,c,out=>bif qh9 lim c then(out,qg .i64 c 1,14) else bif decide (x.time > to) then(out,qg .i64 c 1,0) else itR lim to cs (qg .i64 c 1) (ux out x.time x.val)
theorem qo8{w:Wv}{lim c c' e:Int}{out:List Sp}{q:og}:(⟨upd (hO w lim c e out q).box 0 (some (qgi w lim c')),4,(hO w lim c e out q).hw,1,(hO w lim c e out q).vw⟩:Heap)=hO w lim c' e out q:=by
 have:upd (hO w lim c e out q).box 0 (some (qgi w lim c'))=(hO w lim c' e out q).box:=by
  funext k;rcases k with _|_|_|_|k <;> rfl
 rw[this];rfl
theorem qwv{w:Wv}{lim c e e':Int}{out:List Sp}{q:og}:(⟨upd (hO w lim c e out q).box 1 (some (.lit [I e'])),4,(hO w lim c e out q).hw,1,(hO w lim c e out q).vw⟩:Heap)=hO w lim c e' out q:=by
 have:upd (hO w lim c e out q).box 1 (some (.lit [I e']))=(hO w lim c e' out q).box:=by
  funext k;rcases k with _|_|_|_|k <;> rfl
 rw[this];rfl
theorem qde{w:Wv}{lim c sig:Int}(h:0<=sig/\sig<(w.sig.length:Int)):jk w lim c sig=bif qh9 lim c then 14 else 0:=by
 unfold jk qh9
 rw[decide_eq_false (show ¬ sig<0 by omega),decide_eq_false (show ¬ sig>=(w.sig.length:Int) by omega)]
 rfl
theorem qgl{a b:List Chg}{t:Int}(ha:∀x∈a,x.time<=t)(hb:Inc t b):qao (a++b) t=b.head? :=by
 unfold qao
 rw[List.find?_append,List.find?_eq_none.2 fun x hx=>by have:=ha x hx;simp;omega]
 cases b with
 |nil=>rfl
 |cons x r=>simp[hb.1]
theorem qnb{w:Wv}{lim c sig t:Int}(h:0<=sig/\sig<(w.sig.length:Int))(ht : -1<=t/\t<=w.fin){a b:List Chg}(e:(qs w sig).chg=a++b)(ha:∀x∈a,x.time<=t)(hb:Inc t b) :
  nxR w lim c sig t=bif qh9 lim c then(default,(14:Int)) else match b with|x::_=>(x,(0:Int)) | []=>(default,(6:Int)):=by
 unfold nxR
 rw[qde h]
 cases hv:qh9 lim c with
 |true=>rfl
 |false =>
  simp only[cond_false,if_true]
  rw[if_neg (by omega),e,qgl ha hb]
  cases b <;> rfl
theorem qnc[Lay](w:Wv)(lim:Int)(q:og)(sig frm to:Int)(hs:0<=sig/\sig<(w.sig.length:Int))(hf:0<=frm)(hft:frm<=to)(ht:to<=w.fin){a b:List Chg}(e:(qs w sig).chg=a++b)(ha:∀x∈a,x.time<=frm)(hb:Inc frm b)
  (hy:∀(c:Int) (out:List Sp) (x:Chg) (K:D->Heap->Prop),out.length<=1000->K (.bool true) (hO w lim c 0 (ux out x.time x.val) q)->CallY PP 3 [x.d] (hO w lim c 0 out q) K) (c:Int) (out:List Sp) (hl:out.length+b.length<=1000) :
  CallA PP 129 [.yl 3,.ep [I frm],.ep [wd],.ep [I sig],.ep [.bp 1 0],.ep [I to]] (hO w lim c 0 out q) fun _ h=>h=hO w lim (itR lim to b c out).2.1 (itR lim to b c out).2.2 (itR lim to b c out).1 q:=by
 have o:=qwr
 refine yz jv o.hf o.hb o.hn (by kernel_rfl) (of_eq (nIt w lim c 0 out q sig frm to _) ?_)
 refine lp (fn:=Tryz.f129) (fun z:Int×List Chg×List Chg×Int×List Sp=>0<=z.1/\z.1<=to/\(qs w sig).chg=z.2.1++z.2.2.1/\(∀x∈z.2.1,x.time<=z.1)/\Inc z.1 z.2.2.1/\z.2.2.2.2.length+z.2.2.1.length<=1000/\itR lim to b c out=itR lim to z.2.2.1 z.2.2.2.1 z.2.2.2.2)
  (fun z=>SIt w lim z.2.2.2.1 0 z.2.2.2.2 q sig to z.1) (fun z=>z.2.2.1.length) [0,2,3,4,5,7] (by kernel_rfl) (fun z hz=>of_eq (qwt w lim z.2.2.2.1 0 z.2.2.2.2 q sig to z.1 _ _) ?_) (frm,a,b,c,out) ⟨hf,hft,e,ha,hb,hl,rfl⟩
 obtain⟨t,a,b',c',out'⟩:=z
 obtain⟨h1,h2,h3,h4,h5,h6,h7⟩:=hz
 simp only at h1 h2 h3 h4 h5 h6 h7⊢
 rw[h7]
 have hn:=qnb (lim:=lim) (c:=c') hs ⟨by omega,by omega⟩ h3 h4 h5
 refine⟨fr (qwp w lim c' sig t) [0] [],trivial,?_⟩
 rw[hn]
 cases hv:qh9 lim c' with
 |true =>
  simp only[cond_true]
  refine⟨trivial,?_⟩
  have:itR lim to b' c' out'=(out',qg .i64 c' 1,14):=by cases b' <;> simp only[itR,hv,cond_true]
  rw[this]
  exact(congrArg (fun h:Heap=>(⟨upd h.box 1 (some (.lit [I 14])),4,h.hw,1,h.vw⟩:Heap)) (qo8 (c':=qg .i64 c' 1))).trans qwv
 |false =>
  simp only[cond_false]
  cases b' with
  |nil =>
   simp only[itR,hv,cond_false]
   exact qo8
  |cons x cs =>
   obtain⟨g1,g2⟩:=h5
   refine qa (fun h=>by simp at h) fun _=>qa (fun h=>by simp at h) fun _=>qa (fun h=>by simp at h;omega) fun _=>qa (fun hx=> ?_) fun hx=> ?_
   ·have hx':decide (x.time > to)=false:=by simpa using hx
    have hin:x.time<=to:=by simpa using hx'
    have hit:itR lim to (x::cs) c' out'=itR lim to cs (qg .i64 c' 1) (ux out' x.time x.val):=by simp only[itR,hv,hx',cond_false]
    rw[hit]
    have e0:=qo8 (w:=w) (lim:=lim) (c:=c') (c':=qg .i64 c' 1) (e:=0) (out:=out') (q:=q)
    refine of_eq (congrArg (fun h=>CallY PP 3 [x.d] h _) e0) (hy _ out' x _ (by omega) ?_)
    refine qe jv _ _ _ (of_eq (qwu (hO w lim (qg .i64 c' 1) 0 (ux out' x.time x.val) q) x 0 sig to t _ _) ?_)
    rw[hx']
    simp only[cond_false]
    refine Nx.mk (x.time,a++[x],cs,qg .i64 c' 1,ux out' x.time x.val) ⟨by omega,hin,by rw[h3];simp,fun y hy=> ?_,g2,?_,?_⟩ (by simp)
    ·rcases List.mem_append.1 hy with h|h
     ·have:=h4 y h;simp only;omega
     ·rw[List.mem_singleton.1 h];exact Int.le_refl _
    ·have:=qdd out' x.time x.val
     simp only[List.length_cons]at h6⊢;omega
    ·rfl
   ·have hx':decide (x.time > to)=true:=by simpa using hx
    have hit:itR lim to (x::cs) c' out'=(out',qg .i64 c' 1,0):=by simp only[itR,hv,hx',cond_false,cond_true]
    rw[hit,hx']
    exact qo8
end Go.Proofs.YtiekphbkomddfaaGreatDoor.S1
namespace Go.Proofs.YtiekphbkomddfaaGreatDoor.S1
open Go Go.Ab Go.Proofs
theorem F54:OkF 54 Tryz.f54:=⟨by kernel_rfl,by kernel_rfl,by kernel_rfl⟩
abbrev nilL:D:= .list 0 0 (fun _=> .junk) .full
def hS(w:Wv)(lim c e:Int)(out:List Sp):Heap :=
 ⟨upd (upd (upd (fun _=>none) 0 (some (qgi w lim c))) 1 (some (.lit [I e]))) 2 (some (.lit [.vec 0 out.length 3])),3,upd (fun _=>none) 0 (some out.length),1,upd (fun _=>none) 0 (some (cv out Sp.d))⟩
def lvA:List (List Nat×List Nat):=[([1,0,1],[0,1,2,3,8,9,28])]
def lvB:List (List Nat×List Nat):=[([1,1,1],[0,1,2,3,8,9,10,12])]
def lvC:List (List Nat×List Nat):=[([1,1,1,1],[0,1,2,3,8,9,12])]
def lvD:List (List Nat×List Nat):=[([1,1,1,1,1],[0,1,2,3,8,9,12,13])]
def lvE:List (List Nat×List Nat):=[([1,1,1,1,1,1],[0,1,2,3,8,9,12,13])]
def lvF:List (List Nat×List Nat):=[([1,1,1,1,1,1,1,0,1,0],[3,8,9,12,14,60])]
noncomputable def qp9(w:Wv)(lim:Int)(c:Int):List Nat->Nat->Option Ans:=qf [([1,0,0],10,Ans.eff (I w.fin) (hM w lim c))]
theorem qww[Lay](w:Wv)(lim c sig frm to:Int)(K:D->Heap->Prop):qn (EnX [12,14] Tryz.f54) (fh Tryz.f54 K) (qp9 w lim c) lvA 200 [.code []] ⟨qc 0 [wd,I sig,I frm,I to],hM w lim c⟩ =
 (bif !bif decide (frm<0) then true else decide (frm > to) then Does PP 205 [D.bp 0 0] {box:=upd (fun _=>none) 0 (some (Row.lit [L w.sig 3 Sig.d,L w.gap 2 Iv.d,I w.fin,I lim,I c])),nl:=1,hw:=fun _=>none,nt:=0,vw:=fun _=>none:Heap} (I w.fin) (hM w lim c)/\At (EnX [12,14] Tryz.f54) (fh Tryz.f54 K) [It.code [1,0,1],It.code [1,1]] {sl:=[(0,wd),(1,I sig),(2,I frm),(3,I to),(8,.own [.list 0 0 (fun _=>D.junk) .full]),(9,.own [I 0]),(28,B (bif bif decide (frm<0) then true else decide (frm > to) then true else decide (to > w.fin)))],h:={box:=upd (fun _=>none) 0 (some (Row.lit [L w.sig 3 Sig.d,L w.gap 2 Iv.d,I w.fin,I lim,I c])),nl:=1,hw:=fun _=>none,nt:=0,vw:=fun _=>none:Heap}:St} else At (EnX [12,14] Tryz.f54) (fh Tryz.f54 K) [It.code [1,0,1],It.code [1,1]] {sl:=[(0,wd),(1,I sig),(2,I frm),(3,I to),(8,.own [.list 0 0 (fun _=>D.junk) .full]),(9,.own [I 0]),(28,B (bif bif decide (frm<0) then true else decide (frm > to) then true else decide (to > w.fin)))],h:={box:=upd (fun _=>none) 0 (some (Row.lit [L w.sig 3 Sig.d,L w.gap 2 Iv.d,I w.fin,I lim,I c])),nl:=1,hw:=fun _=>none,nt:=0,vw:=fun _=>none:Heap}:St}):=by kernel_rfl
noncomputable def qqa(w:Wv)(lim:Int)(c:Int)(sig:Int):List Nat->Nat->Option Ans:=qf [([1,1,0],2,Ans.eff (.tup [I (qr w lim c sig).fst,I (qr w lim c sig).snd.fst,I (qr w lim c sig).snd.snd]) (hM w lim (qg .i64 c 1)))]
theorem qwx[Lay](w:Wv)(lim c sig frm to:Int)(b:Bool)(K:D->Heap->Prop):qn (EnX [12,14] Tryz.f54) (fh Tryz.f54 K) (qqa w lim c sig) lvB 200 [.code [1,0,1],.code [1,1]] ⟨[(0,wd),(1,I sig),(2,I frm),(3,I to),(8,.own [nilL]),(9,.own [I 0]),(28,B b)],hM w lim c⟩ =
 (bif b then True/\True/\K (.tup [.list 0 0 (fun _=>D.junk) .full,I 2]) {box:=upd (fun _=>none) 0 (some (Row.lit [L w.sig 3 Sig.d,L w.gap 2 Iv.d,I w.fin,I lim,I c])),nl:=1,hw:=fun _=>none,nt:=0,vw:=fun _=>none:Heap} else Does PP 206 [D.bp 0 0,I sig] {box:=upd (fun _=>none) 0 (some (Row.lit [L w.sig 3 Sig.d,L w.gap 2 Iv.d,I w.fin,I lim,I c])),nl:=1,hw:=fun _=>none,nt:=0,vw:=fun _=>none:Heap} (.tup [I (qr w lim c sig).fst,I (qr w lim c sig).snd.fst,I (qr w lim c sig).snd.snd]) (hM w lim (qg .i64 c 1))/\True/\True/\At (EnX [12,14] Tryz.f54) (fh Tryz.f54 K) [It.code [1,1,1]] {sl:=[(0,wd),(1,I sig),(2,I frm),(3,I to),(8,.own [nilL]),(9,.own [I 0]),(10,I (qr w lim c sig).fst),(12,D.bp 1 0)],h:={box:=upd (upd (upd (fun _=>none) 0 (some (Row.lit [L w.sig 3 Sig.d,L w.gap 2 Iv.d,I w.fin,I lim,I (qg .i64 c 1)]))) 1 (some (Row.lit [I 0]))) 1 (some (Row.lit [I (qr w lim c sig).snd.snd])),nl:=2,hw:=fun _=>none,nt:=0,vw:=fun _=>none:Heap}:St}):=by kernel_rfl
noncomputable def qqb:List Nat->Nat->Option Ans:=qf []
theorem qwy[Lay](w:Wv)(lim c e sig frm to kind:Int)(K:D->Heap->Prop):qn (EnX [12,14] Tryz.f54) (fh Tryz.f54 K) (qqb ) lvC 200 [.code [1,1,1]] ⟨[(0,wd),(1,I sig),(2,I frm),(3,I to),(8,.own [nilL]),(9,.own [I 0]),(10,I kind),(12,.bp 1 0)],hE w lim c e⟩ =
 (bif e !=0 then True/\True/\K (.tup [.list 0 0 (fun _=>D.junk) .full,I e]) {box:=upd (upd (fun _=>none) 0 (some (Row.lit [L w.sig 3 Sig.d,L w.gap 2 Iv.d,I w.fin,I lim,I c]))) 1 (some (Row.lit [I e])),nl:=2,hw:=fun _=>none,nt:=0,vw:=fun _=>none:Heap} else bif kind==3 then True/\True/\K (.tup [.list 0 0 (fun _=>D.junk) .full,I 7]) {box:=upd (upd (fun _=>none) 0 (some (Row.lit [L w.sig 3 Sig.d,L w.gap 2 Iv.d,I w.fin,I lim,I c]))) 1 (some (Row.lit [I e])),nl:=2,hw:=fun _=>none,nt:=0,vw:=fun _=>none:Heap} else At (EnX [12,14] Tryz.f54) (fh Tryz.f54 K) [It.code [1,1,1,1]] {sl:=[(0,wd),(1,I sig),(2,I frm),(3,I to),(8,.own [nilL]),(9,.own [I 0]),(12,D.bp 1 0)],h:={box:=upd (upd (fun _=>none) 0 (some (Row.lit [L w.sig 3 Sig.d,L w.gap 2 Iv.d,I w.fin,I lim,I c]))) 1 (some (Row.lit [I e])),nl:=2,hw:=fun _=>none,nt:=0,vw:=fun _=>none:Heap}:St}):=by kernel_rfl
noncomputable def qqc(w:Wv)(lim:Int)(c:Int)(e:Int)(sig:Int)(frm:Int):List Nat->Nat->Option Ans:=qf [([1,1,1,1,0],3,Ans.eff (ren (rnm [0] 2) (rnm [] 0) (.tup [.str (vlR w lim c sig frm).fst,I (vlR w lim c sig frm).snd])) (ql [0] [] {box:=upd (upd (fun _=>none) 0 (some (Row.lit [L w.sig 3 Sig.d,L w.gap 2 Iv.d,I w.fin,I lim,I c]))) 1 (some (Row.lit [I e])),nl:=2,hw:=fun _=>none,nt:=0,vw:=fun _=>none:Heap} (hM w lim (qg .i64 c 1))))]
theorem qwz[Lay](w:Wv)(lim c e sig frm to:Int)(K:D->Heap->Prop):qn (EnX [12,14] Tryz.f54) (fh Tryz.f54 K) (qqc w lim c e sig frm) lvD 200 [.code [1,1,1,1]] ⟨[(0,wd),(1,I sig),(2,I frm),(3,I to),(8,.own [nilL]),(9,.own [I 0]),(12,.bp 1 0)],hE w lim c e⟩ =
 (Does PP 208 [D.bp 0 0,I sig,I frm] {box:=upd (upd (fun _=>none) 0 (some (Row.lit [L w.sig 3 Sig.d,L w.gap 2 Iv.d,I w.fin,I lim,I c]))) 1 (some (Row.lit [I e])),nl:=2,hw:=fun _=>none,nt:=0,vw:=fun _=>none:Heap} (ren (rnm [0] 2) (rnm [] 0) (.tup [.str (vlR w lim c sig frm).fst,I (vlR w lim c sig frm).snd])) (ql [0] [] {box:=upd (upd (fun _=>none) 0 (some (Row.lit [L w.sig 3 Sig.d,L w.gap 2 Iv.d,I w.fin,I lim,I c]))) 1 (some (Row.lit [I e])),nl:=2,hw:=fun _=>none,nt:=0,vw:=fun _=>none:Heap} (hM w lim (qg .i64 c 1)))/\True/\At (EnX [12,14] Tryz.f54) (fh Tryz.f54 K) [It.code [1,1,1,1,1]] {sl:=[(0,wd),(1,I sig),(2,I frm),(3,I to),(8,.own [nilL]),(9,.own [I 0]),(12,D.bp 1 0),(13,.str (vlR w lim c sig frm).fst)],h:={box:=upd (upd (upd (upd (fun _=>none) 0 (some (Row.lit [L w.sig 3 Sig.d,L w.gap 2 Iv.d,I w.fin,I lim,I c]))) 1 (some (Row.lit [I e]))) 0 (some (Row.lit [L w.sig 3 Sig.d,L w.gap 2 Iv.d,I w.fin,I lim,I (qg .i64 c 1)]))) 1 (some (Row.lit [I (vlR w lim c sig frm).snd])),nl:=2,hw:=fun _=>none,nt:=0,vw:=fun _=>none:Heap}:St}):=by kernel_rfl
noncomputable def qqd:List Nat->Nat->Option Ans:=qf []
theorem qw0[Lay](w:Wv)(lim c e sig frm to:Int)(v:Str)(K:D->Heap->Prop):qn (EnX [12,14] Tryz.f54) (fh Tryz.f54 K) (qqd ) lvE 200 [.code [1,1,1,1,1]] ⟨[(0,wd),(1,I sig),(2,I frm),(3,I to),(8,.own [nilL]),(9,.own [I 0]),(12,.bp 1 0),(13,.str v)],hE w lim c e⟩ =
 (bif e !=0 then True/\True/\K (.tup [.list 0 0 (fun _=>D.junk) .full,I e]) {box:=upd (upd (fun _=>none) 0 (some (Row.lit [L w.sig 3 Sig.d,L w.gap 2 Iv.d,I w.fin,I lim,I c]))) 1 (some (Row.lit [I e])),nl:=2,hw:=fun _=>none,nt:=0,vw:=fun _=>none:Heap} else At (EnX [12,14] Tryz.f54) (fh Tryz.f54 K) [It.code [1,1,1,1,1,1]] {sl:=[(0,wd),(1,I sig),(2,I frm),(3,I to),(8,.own [nilL]),(9,.own [I 0]),(12,D.bp 1 0),(13,.str v)],h:={box:=upd (upd (fun _=>none) 0 (some (Row.lit [L w.sig 3 Sig.d,L w.gap 2 Iv.d,I w.fin,I lim,I c]))) 1 (some (Row.lit [I e])),nl:=2,hw:=fun _=>none,nt:=0,vw:=fun _=>none:Heap}:St}):=by kernel_rfl
noncomputable def qqe(w:Wv)(lim:Int)(c:Int)(e:Int)(sig:Int)(frm:Int)(to:Int)(v:Str):List Nat->Nat->Option Ans:=qf [([1,1,1,1,1,1,0],2,Ans.eff (ren (rnm [] 2) (rnm [] 0) (D.vec 0 1 3)) (ql [] [] {box:=upd (upd (fun _=>none) 0 (some (Row.lit [L w.sig 3 Sig.d,L w.gap 2 Iv.d,I w.fin,I lim,I c]))) 1 (some (Row.lit [I e])),nl:=2,hw:=fun _=>none,nt:=0,vw:=fun _=>none:Heap} (vc [{frm:=frm,to:=0,val:=v:Sp}] Sp.d))),([1,1,1,1,1,1,1,0,0],4,Ans.eff (ren (rnm [0,1] 3) (rnm [] 1) (D.clo 129 [D.ep [I frm],D.ep [wd],D.ep [I sig],D.ep [D.bp 1 0],D.ep [I to]])) (ql [0,1] [] {box:=upd (upd (upd (upd (fun _=>none) 0 (some (Row.lit [L w.sig 3 Sig.d,L w.gap 2 Iv.d,I w.fin,I lim,I c]))) 1 (some (Row.lit [I e]))) 2 (some (Row.lit [.list 0 0 (fun _=>D.junk) .full]))) 2 (some (Row.lit [D.vec 0 1 3])),nl:=3,hw:=upd (fun _=>none) 0 (some [{frm:=frm,to:=0,val:=v:Sp}].length),nt:=1,vw:=upd (fun _=>none) 0 (some (cv [{frm:=frm,to:=0,val:=v:Sp}] Sp.d)):Heap} (hE w lim c e)))]
theorem qw1[Lay](w:Wv)(lim c e sig frm to:Int)(v:Str)(K:D->Heap->Prop):qn (EnX [12,14] Tryz.f54) (fh Tryz.f54 K) (qqe w lim c e sig frm to v) lvF 200 [.code [1,1,1,1,1,1]] ⟨[(0,wd),(1,I sig),(2,I frm),(3,I to),(8,.own [nilL]),(9,.own [I 0]),(12,.bp 1 0),(13,.str v)],hE w lim c e⟩ =
 (Does PP 85 [.list 0 0 (fun _=>D.junk) .full,I frm,.str v] {box:=upd (upd (fun _=>none) 0 (some (Row.lit [L w.sig 3 Sig.d,L w.gap 2 Iv.d,I w.fin,I lim,I c]))) 1 (some (Row.lit [I e])),nl:=2,hw:=fun _=>none,nt:=0,vw:=fun _=>none:Heap} (ren (rnm [] 2) (rnm [] 0) (D.vec 0 1 3)) (ql [] [] {box:=upd (upd (fun _=>none) 0 (some (Row.lit [L w.sig 3 Sig.d,L w.gap 2 Iv.d,I w.fin,I lim,I c]))) 1 (some (Row.lit [I e])),nl:=2,hw:=fun _=>none,nt:=0,vw:=fun _=>none:Heap} (vc [{frm:=frm,to:=0,val:=v:Sp}] Sp.d)) /\
 True /\
  True /\
   Does PP 86 [D.iface 36 (D.bp 0 0),I sig,I frm,I to,D.bp 1 0] {box:=upd (upd (upd (upd (fun _=>none) 0 (some (Row.lit [L w.sig 3 Sig.d,L w.gap 2 Iv.d,I w.fin,I lim,I c]))) 1 (some (Row.lit [I e]))) 2 (some (Row.lit [.list 0 0 (fun _=>D.junk) .full]))) 2 (some (Row.lit [D.vec 0 1 3])),nl:=3,hw:=upd (fun _=>none) 0 (some [{frm:=frm,to:=0,val:=v:Sp}].length),nt:=1,vw:=upd (fun _=>none) 0 (some (cv [{frm:=frm,to:=0,val:=v:Sp}] Sp.d)):Heap} (ren (rnm [0,1] 3) (rnm [] 1) (D.clo 129 [D.ep [I frm],D.ep [wd],D.ep [I sig],D.ep [D.bp 1 0],D.ep [I to]])) (ql [0,1] [] {box:=upd (upd (upd (upd (fun _=>none) 0 (some (Row.lit [L w.sig 3 Sig.d,L w.gap 2 Iv.d,I w.fin,I lim,I c]))) 1 (some (Row.lit [I e]))) 2 (some (Row.lit [.list 0 0 (fun _=>D.junk) .full]))) 2 (some (Row.lit [D.vec 0 1 3])),nl:=3,hw:=upd (fun _=>none) 0 (some [{frm:=frm,to:=0,val:=v:Sp}].length),nt:=1,vw:=upd (fun _=>none) 0 (some (cv [{frm:=frm,to:=0,val:=v:Sp}] Sp.d)):Heap} (hE w lim c e)) /\
    At (EnX [12,14] Tryz.f54) (fh Tryz.f54 K) [It.code [1,1,1,1,1,1,1,0,1,0],It.blk 1,It.code [1,1,1,1,1,1,1,1]] {sl:=[(3,I to),(8,.own [nilL]),(9,.own [I 0]),(12,D.bp 1 0),(14,D.bp 2 0),(60,D.clo 129 [D.ep [I frm],D.ep [D.iface 36 (D.bp 0 0)],D.ep [I sig],D.ep [D.bp 1 0],D.ep [I to]])],h:={box:=upd (upd (upd (upd (upd (upd (fun _=>none) 0 (some (Row.lit [L w.sig 3 Sig.d,L w.gap 2 Iv.d,I w.fin,I lim,I c]))) 1 (some (Row.lit [I e]))) 2 (some (Row.lit [.list 0 0 (fun _=>D.junk) .full]))) 2 (some (Row.lit [D.vec 0 1 3]))) 0 (some (Row.lit [L w.sig 3 Sig.d,L w.gap 2 Iv.d,I w.fin,I lim,I c]))) 1 (some (Row.lit [I e])),nl:=3,hw:=upd (fun _=>none) 0 (some [{frm:=frm,to:=0,val:=v:Sp}].length),nt:=1,vw:=upd (fun _=>none) 0 (some (cv [{frm:=frm,to:=0,val:=v:Sp}] Sp.d)):Heap}:St}):=by kernel_rfl
noncomputable def qqf(w:Wv)(lim:Int)(c:Int)(e:Int)(to:Int)(out:List Sp):List Nat->Nat->Option Ans:=qf [([1,1,1,1,1,1,1,1,1,0],2,Ans.eff (ren (rnm [] 4) (rnm [0] 1) (D.vec 0 out.length 3)) (ql [] [0] {box:=upd (upd (upd (fun _=>none) 0 (some (Row.lit [L w.sig 3 Sig.d,L w.gap 2 Iv.d,I w.fin,I lim,I c]))) 1 (some (Row.lit [I e]))) 2 (some (Row.lit [D.vec 0 out.length 3])),nl:=4,hw:=upd (fun _=>none) 0 (some out.length),nt:=1,vw:=upd (fun _=>none) 0 (some (cv out Sp.d)):Heap} (vc (zf out to) Sp.d)))]
theorem qw2[Lay](w:Wv)(lim c e to:Int)(out:List Sp)(K:D->Heap->Prop):qn (EnX [12,14] Tryz.f54) (fh Tryz.f54 K) (qqf w lim c e to out) cc 200 [.code [1,1,1,1,1,1,1,1]] ⟨[(3,I to),(8,.own [nilL]),(9,.own [I 0]),(12,.bp 1 0),(14,.bp 2 0)],hT3 w lim c e out⟩ =
 (bif e !=0 then True/\True/\K (.tup [.list 0 0 (fun _=>D.junk) .full,I e]) {box:=upd (upd (upd (fun _=>none) 0 (some (Row.lit [L w.sig 3 Sig.d,L w.gap 2 Iv.d,I w.fin,I lim,I c]))) 1 (some (Row.lit [I e]))) 2 (some (Row.lit [D.vec 0 out.length 3])),nl:=4,hw:=upd (fun _=>none) 0 (some out.length),nt:=1,vw:=upd (fun _=>none) 0 (some (cv out Sp.d)):Heap} else Does PP 87 [D.vec 0 out.length 3,I to] {box:=upd (upd (upd (fun _=>none) 0 (some (Row.lit [L w.sig 3 Sig.d,L w.gap 2 Iv.d,I w.fin,I lim,I c]))) 1 (some (Row.lit [I e]))) 2 (some (Row.lit [D.vec 0 out.length 3])),nl:=4,hw:=upd (fun _=>none) 0 (some out.length),nt:=1,vw:=upd (fun _=>none) 0 (some (cv out Sp.d)):Heap} (ren (rnm [] 4) (rnm [0] 1) (D.vec 0 out.length 3)) (ql [] [0] {box:=upd (upd (upd (fun _=>none) 0 (some (Row.lit [L w.sig 3 Sig.d,L w.gap 2 Iv.d,I w.fin,I lim,I c]))) 1 (some (Row.lit [I e]))) 2 (some (Row.lit [D.vec 0 out.length 3])),nl:=4,hw:=upd (fun _=>none) 0 (some out.length),nt:=1,vw:=upd (fun _=>none) 0 (some (cv out Sp.d)):Heap} (vc (zf out to) Sp.d))/\True/\True/\K (.tup [D.vec 0 out.length 3,I 0]) {box:=upd (upd (upd (fun _=>none) 0 (some (Row.lit [L w.sig 3 Sig.d,L w.gap 2 Iv.d,I w.fin,I lim,I c]))) 1 (some (Row.lit [I e]))) 2 (some (Row.lit [D.vec 0 out.length 3])),nl:=4,hw:=upd (upd (fun _=>none) 0 (some out.length)) 0 (some (zf out to).length),nt:=1,vw:=upd (upd (fun _=>none) 0 (some (cv out Sp.d))) 0 (some (cv (zf out to) Sp.d)):Heap}):=by kernel_rfl
noncomputable def qnd:List Nat->Nat->Option Ans:=qf []
theorem qqg[Lay](w:Wv)(lim c e:Int)(out:List Sp)(x:Chg)(J:St->Prop)(K:St->Prop):qn (EnX [12,14] Tryz.f54) K (qnd ) cc 200 [.code [1,1,1,1,1,1,1,0,1,0,0],.stop J] ⟨[(14,.bp 2 0),(61,x.d)],hT3 w lim c e out⟩ =
 (True/\J {sl:=[(15,.own [I x.time,.str x.val]),(14,D.bp 2 0),(61,x.d)],h:={box:=upd (upd (upd (fun _=>none) 0 (some (Row.lit [L w.sig 3 Sig.d,L w.gap 2 Iv.d,I w.fin,I lim,I c]))) 1 (some (Row.lit [I e]))) 2 (some (Row.lit [D.vec 0 out.length 3])),nl:=4,hw:=upd (fun _=>none) 0 (some out.length),nt:=1,vw:=upd (fun _=>none) 0 (some (cv out Sp.d)):Heap}:St}):=by kernel_rfl
noncomputable def qqh(w:Wv)(lim:Int)(c:Int)(e:Int)(out:List Sp)(x:Chg):List Nat->Nat->Option Ans:=qf [([1,1,1,1,1,1,1,0,1,0,1,0,0],5,Ans.eff (ren (rnm [] 4) (rnm [0] 1) (D.vec 0 (ux out x.time x.val).length 3)) (ql [] [0] {box:=upd (upd (upd (fun _=>none) 0 (some (Row.lit [L w.sig 3 Sig.d,L w.gap 2 Iv.d,I w.fin,I lim,I c]))) 1 (some (Row.lit [I e]))) 2 (some (Row.lit [D.vec 0 out.length 3])),nl:=4,hw:=upd (fun _=>none) 0 (some out.length),nt:=1,vw:=upd (fun _=>none) 0 (some (cv out Sp.d)):Heap} (vc (ux out x.time x.val) Sp.d)))]
theorem qw3[Lay](w:Wv)(lim c e:Int)(out:List Sp)(x:Chg)(J:St->Prop)(K:St->Prop):qn (EnX [12,14] Tryz.f54) K (qqh w lim c e out x) cc 200 [.code [1,1,1,1,1,1,1,0,1,0,1],.stop J] ⟨[(14,.bp 2 0),(15,.own [I x.time,.str x.val])],hT3 w lim c e out⟩ =
 (Does PP 85 [D.vec 0 out.length 3,I x.time,.str x.val] {box:=upd (upd (upd (fun _=>none) 0 (some (Row.lit [L w.sig 3 Sig.d,L w.gap 2 Iv.d,I w.fin,I lim,I c]))) 1 (some (Row.lit [I e]))) 2 (some (Row.lit [D.vec 0 out.length 3])),nl:=4,hw:=upd (fun _=>none) 0 (some out.length),nt:=1,vw:=upd (fun _=>none) 0 (some (cv out Sp.d)):Heap} (ren (rnm [] 4) (rnm [0] 1) (D.vec 0 (ux out x.time x.val).length 3)) (ql [] [0] {box:=upd (upd (upd (fun _=>none) 0 (some (Row.lit [L w.sig 3 Sig.d,L w.gap 2 Iv.d,I w.fin,I lim,I c]))) 1 (some (Row.lit [I e]))) 2 (some (Row.lit [D.vec 0 out.length 3])),nl:=4,hw:=upd (fun _=>none) 0 (some out.length),nt:=1,vw:=upd (fun _=>none) 0 (some (cv out Sp.d)):Heap} (vc (ux out x.time x.val) Sp.d)) /\
 True/\((ux out x.time x.val).length<=q8->bif decide ((↑(ux out x.time x.val).length:Int) > 4096) then False else J {sl:=[(70,B (decide ((↑(ux out x.time x.val).length:Int) > 4096))),(69,I (↑(ux out x.time x.val).length:Int)),(68,D.vec 0 (ux out x.time x.val).length 3),(67,D.vec 0 (ux out x.time x.val).length 3),(66,.str x.val),(64,I x.time),(62,D.vec 0 out.length 3),(14,D.bp 2 0),(15,.own [I x.time,.str x.val])],h:={box:=upd (upd (upd (upd (fun _=>none) 0 (some (Row.lit [L w.sig 3 Sig.d,L w.gap 2 Iv.d,I w.fin,I lim,I c]))) 1 (some (Row.lit [I e]))) 2 (some (Row.lit [D.vec 0 out.length 3]))) 2 (some (Row.lit [D.vec 0 (ux out x.time x.val).length 3])),nl:=4,hw:=upd (upd (fun _=>none) 0 (some out.length)) 0 (some (ux out x.time x.val).length),nt:=1,vw:=upd (upd (fun _=>none) 0 (some (cv out Sp.d))) 0 (some (cv (ux out x.time x.val) Sp.d)):Heap}:St})):=by kernel_rfl
end Go.Proofs.YtiekphbkomddfaaGreatDoor.S1
namespace Go.Proofs.YtiekphbkomddfaaGreatDoor.S1
open Go Go.Ab Go.Proofs
instance {sz:Nat}{get:Nat->D}{own:Own}:RO (.list 0 sz get own):=⟨fun i h=>absurd h (Nat.not_lt_zero i)⟩
def aft(l:List Chg)(t:Int):List Chg:=l.filter fun x=>decide (x.time > t)
theorem Inc.aft{s:Int}{l:List Chg}(h:Inc s l)(t:Int):∃a,l=a++aft l t/\(∀x∈a,x.time<=t)/\Inc t (aft l t):=by
 obtain⟨a,b,rfl,ha,hb⟩:=h.split t
 have h1:S1.aft (a++b) t=b:=by
  unfold S1.aft
  rw[List.filter_append,List.filter_eq_nil_iff.2 (fun x hx=>by have:=ha x hx;simp;omega),List.filter_eq_self.2 (fun x hx=>by have:=hb.gt x hx;simp;omega)];rfl
 rw[h1];exact⟨a,rfl,ha,hb⟩
def ofR(w:Wv)(lim c sig frm to:Int):List Sp×Int×Int :=
 if frm<0\/frm > to\/to > w.fin then([],2,c)
 else if jk w lim c sig≠0 then([],jk w lim c sig,qg .i64 c 1)
 else if(qs w sig).kind=3 then([],7,qg .i64 c 1)
 else if jk w lim (qg .i64 c 1) sig≠0 then([],jk w lim (qg .i64 c 1) sig,qg .i64 (qg .i64 c 1) 1)
 else let r:=itR lim to (aft (qs w sig).chg frm) (qg .i64 (qg .i64 c 1) 1) [⟨frm,0,w9 (qs w sig) frm⟩]
  if r.2.2≠0 then([],r.2.2,r.2.1) else(zf r.1 to,0,r.2.1)
def hMn(w:Wv)(lim c:Int):Heap:=⟨upd (fun _=>none) 0 (some (.lit [L w.sig 3 Sig.d,L w.gap 2 Iv.d,I w.fin,I lim,I c])),4,fun _=>none,1,fun _=>none⟩
theorem qdf{w:Wv}{lim c:Int}{h:Heap}(hb:h.box 0=some (qgi w lim c))(hn:h.nl<=4)(ht:h.nt<=1):HeapLe h (hMn w lim c):=by
 refine⟨fun l row' e=> ?_,hn,fun t n e=>(by cases e),ht,fun t n e=>(by cases e),fun _ _=>rfl⟩
 have e':upd (fun _=>none) 0 (some (qgi w lim c)) l=some row':=e
 by_cases hl:l=0
 ·subst hl
  rw[qb]at e';cases e'
  exact⟨_,hb,.lit fun _ _ h=>h⟩
 ·rw[qd _ _ hl]at e';cases e'
theorem tg[Lay]{w:Wv}{lim c e:Int}{h:Heap}(hb:h.box 0=some (qgi w lim c))(hn:h.nl<=4)(ht:h.nt<=1):RetLe (.tup [nilL,I e]) h (.tup [L ([]:List Sp) 3 Sp.d,I e]) (hMn w lim c) :=
 RetLe.of (Wk.tup (Wks.cons Wk.nilL (Wks.refl _))) (qdf hb hn ht)
theorem qlg[Lay]{w:Wv}{lim c:Int}{out:List Sp}{h:Heap}(hv:h.vw 0=some (cv out Sp.d))(hw:h.hw 0=some out.length)(hb:h.box 0=some (qgi w lim c))(hn:h.nl<=4)(ht:h.nt<=1) :
  RetLe (.tup [.vec 0 out.length 3,I 0]) h (.tup [L out 3 Sp.d,I 0]) (hMn w lim c) :=
 (RetLe.frz (d:= .tup [.vec 0 out.length 3,I 0]) (t:=0) (n:=out.length) (f:=cv out Sp.d) hv hw (by simp[y0,uu])).trans (RetLe.of (Wk.tup (Wks.cons Wk.tokL (Wks.refl _))) (qdf hb hn ht))
theorem uy{a b:Nat->Option Row}{nl nt:Nat}{hw hw':Nat->Option Nat}{vw vw':Nat->Option (Nat->D)}(h1:∀k,a k=b k)(h2:hw=hw')(h3:vw=vw'):(⟨a,nl,hw,nt,vw⟩:Heap)=⟨b,nl,hw',nt,vw'⟩:=by
 rw[funext h1,h2,h3]
section
variable (w:Wv) (lim sig frm to:Int)
noncomputable abbrev OfE:Env:=EnX [12,14] Tryz.f54
noncomputable abbrev OfK(K:D->Heap->Prop):St->Prop:=fh Tryz.f54 K
abbrev rgP:List Nat:=[1,1,1,1,1,1,1,0,1,0]
noncomputable abbrev OfQ:og:=uw OfE rgP [(14,.bp 2 0)]
theorem OfY[Lay](c:Int)(out:List Sp)(x:Chg)(K:D->Heap->Prop)(hl:out.length<=1000)(hk:K (.bool true) (hO w lim c 0 (ux out x.time x.val) OfQ)):CallY PP 3 [x.d] (hO w lim c 0 out OfQ) K:=by
 refine qi8 (E:=OfE) (p:=rgP) (sl:=[(14,.bp 2 0)]) (by kernel_rfl) rfl (by kernel_rfl) (by kernel_rfl) ?_
 rw[qkc]
 refine jl (st':=⟨[(14,.bp 2 0),(61,x.d)],hT3 w lim c 0 out⟩) (qe jv _ _ _ (of_eq (qqg w lim c 0 out x _ _) ⟨trivial,?_⟩)) ?_
 ·refine jl (st':=⟨[(14,.bp 2 0),(15,.own [I x.time,.str x.val])],hT3 w lim c 0 out⟩) ?_ (ut _ [14,15] _)
  refine qe jv _ _ _ (of_eq (qw3 w lim c 0 out x _ _) ⟨fr (e85 out x.time x.val (by omega)) [] [0],trivial,fun _=>qa (fun h=> ?_) fun _=> ?_⟩)
  ·have:=qdd out x.time x.val
   simp at h;omega
  ·refine of_eq (congrArg (K (.bool true)) ?_) hk
   refine uy (fun k=> ?_) (q6 _ _ _ _) (q6 _ _ _ _)
   rcases k with _|_|_|_|k <;> rfl
 ·exact ut _ [14,61] _
variable {w lim sig frm to}
theorem OfH[Lay](c e:Int)(out:List Sp)(ho:out≠[])(K:D->Heap->Prop)(hK:∀d h,RetLe d h (.tup [L (if e≠0 then[] else zf out to) 3 Sp.d,I e]) (hMn w lim c)->K d h) :
  At OfE (OfK K) [.code [1,1,1,1,1,1,1,1]] ⟨[(3,I to),(8,.own [nilL]),(9,.own [I 0]),(12,.bp 1 0),(14,.bp 2 0)],hT3 w lim c e out⟩:=by
 refine qe jv _ _ _ (of_eq (qw2 w lim c e to out _) (qa (fun h=>⟨trivial,trivial,hK _ _ ?_⟩) fun h=>⟨fr (e87 out to ho) [] [0],trivial,trivial,hK _ _ ?_⟩))
 ·have:e≠0:=by simpa using h
  rw[if_pos this]
  exact tg rfl (Nat.le_of_ble_eq_true rfl) (Nat.le_of_ble_eq_true rfl)
 ·have:e=0:=by simpa using h
  subst this
  rw[if_neg (by simp)]
  have:=qlg (w:=w) (lim:=lim) (c:=c) (out:=zf out to) (h:=⟨upd (upd (upd (fun _=>none) 0 (some (qgi w lim c))) 1 (some (.lit [I 0]))) 2 (some (.lit [.vec 0 out.length 3])),4,upd (upd (fun _=>none) 0 (some out.length)) 0 (some (zf out to).length),1,upd (upd (fun _=>none) 0 (some (cv out Sp.d))) 0 (some (cv (zf out to) Sp.d))⟩) rfl rfl rfl (Nat.le_of_ble_eq_true rfl) (Nat.le_of_ble_eq_true rfl)
  rw[vu]at this
  rw[vu]
  exact this
theorem qkd(lim to:Int):∀(l:List Chg) (c:Int) (out:List Sp),out≠[]->(itR lim to l c out).1≠[]
 | [],_,_,h=>h
 |x::cs,c,out,h=>by
  simp only[itR]
  cases qh9 lim c with
  |true=>exact h
  |false =>
   cases decide (x.time > to) with
   |true=>exact h
   |false=>exact qkd lim to cs _ _ (qle _ _ _)
theorem e54[Lay](hq:∀q∈w.sig,q.chg.length<=900/\q.width<=1000000/\Inc (-1) q.chg)(c:Int):Does PP 54 [.iface 36 (.bp 0 0),I sig,I frm,I to] (hM w lim c) (.tup [L (ofR w lim c sig frm to).1 3 Sp.d,I (ofR w lim c sig frm to).2.1]) (hMn w lim (ofR w lim c sig frm to).2.2):=by
 have hin:0<=sig/\sig<(w.sig.length:Int)->qs w sig∈w.sig:=fun h=>by
  have:sig.toNat<w.sig.length:=by omega
  unfold qs
  rw[List.getD_eq_getElem?_getD,List.getElem?_eq_getElem this]
  exact List.getElem_mem this
 have hB:At OfE (OfK fun d h=>RetLe d h (.tup [L (ofR w lim c sig frm to).1 3 Sp.d,I (ofR w lim c sig frm to).2.1]) (hMn w lim (ofR w lim c sig frm to).2.2)) [.code [1,0,1],.code [1,1]]
   ⟨[(0,wd),(1,I sig),(2,I frm),(3,I to),(8,.own [nilL]),(9,.own [I 0]),(28,B (bif bif decide (frm<0) then true else decide (frm > to) then true else decide (to > w.fin)))],hM w lim c⟩:=by
  refine qe jv _ _ _ (of_eq (qwx w lim c sig frm to _ _) (qa (fun h=>⟨trivial,trivial,?_⟩) fun h=>⟨qu9 w lim c sig,trivial,trivial,?_⟩))
  ·have:frm<0\/frm > to\/to > w.fin:=by simpa[or_assoc] using h
   rw[ofR,if_pos this]
   exact tg rfl (Nat.le_of_ble_eq_true rfl) (Nat.le_of_ble_eq_true rfl)
  have hr:¬ (frm<0\/frm > to\/to > w.fin):=by
   intro h2
   have:(bif bif decide (frm<0) then true else decide (frm > to) then true else decide (to > w.fin))=true:=by simpa[or_assoc] using h2
   rw[this]at h;cases h
  rw[ofR,if_neg hr]
  have hr0:0<=frm:=by omega
  have hr1:frm<=to:=by omega
  have hr2:to<=w.fin:=by omega
  refine jl (st':=⟨[(0,wd),(1,I sig),(2,I frm),(3,I to),(8,.own [nilL]),(9,.own [I 0]),(10,I (qr w lim c sig).1),(12,.bp 1 0)],hE w lim (qg .i64 c 1) (qr w lim c sig).2.2⟩) ?_
   (StLe.heap (uy (fun k=>by rcases k with _|_|k <;> rfl) rfl rfl))
  refine qe jv _ _ _ (of_eq (qwy w lim _ _ sig frm to _ _) (qa (fun h=>⟨trivial,trivial,?_⟩) fun h=>qa (fun h2=>⟨trivial,trivial,?_⟩) fun h2=> ?_))
  ·have h:(qr w lim c sig).2.2≠0:=by simpa using h
   have hc:jk w lim c sig≠0:=fun hc=>h (by rw[qr,if_pos hc])
   have he:(qr w lim c sig).2.2=jk w lim c sig:=by rw[qr,if_neg hc]
   rw[if_pos hc,he]
   exact tg rfl (Nat.le_of_ble_eq_true rfl) (Nat.le_of_ble_eq_true rfl)
  ·have h:(qr w lim c sig).2.2=0:=by simpa using h
   have hc:jk w lim c sig=0:=by
    rcases Classical.em (jk w lim c sig=0) with hc|hc
    ·exact hc
    ·rw[qr,if_neg hc]at h;exact absurd h hc
   rw[qr,if_pos hc]at h2
   have hk:(qs w sig).kind=3:=by simpa using h2
   rw[if_neg (by simpa using hc),if_pos hk]
   exact tg rfl (Nat.le_of_ble_eq_true rfl) (Nat.le_of_ble_eq_true rfl)
  have h:(qr w lim c sig).2.2=0:=by simpa using h
  have hc:jk w lim c sig=0:=by
   rcases Classical.em (jk w lim c sig=0) with hc|hc
   ·exact hc
   ·rw[qr,if_neg hc]at h;exact absurd h hc
  have hsig:=(pm (w:=w) (lim:=lim) (c:=c) (sig:=sig) (by simpa using hc)).2
  obtain⟨q1,q2,q3⟩:=hq _ (hin hsig)
  rw[qr,if_pos hc]at h2
  have hk:¬ (qs w sig).kind=3:=by simpa using h2
  rw[if_neg (by simpa using hc),if_neg hk,h]
  refine qe jv _ _ _ (of_eq (qwz w lim _ _ sig frm to _) ⟨fr (qwl w lim (qg .i64 c 1) sig frm q2) [0] [],trivial,?_⟩)
  refine jl (st':=⟨[(0,wd),(1,I sig),(2,I frm),(3,I to),(8,.own [nilL]),(9,.own [I 0]),(12,.bp 1 0),(13,.str (vlR w lim (qg .i64 c 1) sig frm).1)],hE w lim (qg .i64 (qg .i64 c 1) 1) (vlR w lim (qg .i64 c 1) sig frm).2⟩) ?_
   (StLe.heap (uy (fun k=>by rcases k with _|_|k <;> rfl) rfl rfl))
  have hnt:¬ (frm<0\/frm > w.fin):=by omega
  refine qe jv _ _ _ (of_eq (qw0 w lim _ _ sig frm to _ _) (qa (fun h=>⟨trivial,trivial,?_⟩) fun h=> ?_))
  ·have h:(vlR w lim (qg .i64 c 1) sig frm).2≠0:=by simpa using h
   have hc2:jk w lim (qg .i64 c 1) sig≠0:=fun hc=>h (by rw[vlR,if_pos hc,if_neg hnt])
   have he:(vlR w lim (qg .i64 c 1) sig frm).2=jk w lim (qg .i64 c 1) sig:=by rw[vlR,if_neg hc2]
   rw[if_pos hc2,he]
   exact tg rfl (Nat.le_of_ble_eq_true rfl) (Nat.le_of_ble_eq_true rfl)
  have h:(vlR w lim (qg .i64 c 1) sig frm).2=0:=by simpa using h
  have hc2:jk w lim (qg .i64 c 1) sig=0:=by
   rcases Classical.em (jk w lim (qg .i64 c 1) sig=0) with hc|hc
   ·exact hc
   ·rw[vlR,if_neg hc]at h;exact absurd h hc
  rw[if_neg (by simpa using hc2),h,show(vlR w lim (qg .i64 c 1) sig frm).1=w9 (qs w sig) frm by rw[vlR,if_pos hc2,if_neg hnt]]
  generalize qg .i64 (qg .i64 c 1) 1=c2
  generalize w9 (qs w sig) frm=v
  refine qe jv _ _ _ (of_eq (qw1 w lim c2 0 sig frm to v _) ⟨fr (qp1 frm v) [] [],trivial,trivial,fr (e86 w lim c2 0 sig frm to) [0,1] [],?_⟩)
  refine jl (st':=⟨[(3,I to),(8,.own [nilL]),(9,.own [I 0]),(12,.bp 1 0),(14,.bp 2 0),(60,.clo 129 [.ep [I frm],.ep [wd],.ep [I sig],.ep [.bp 1 0],.ep [I to]])],hS w lim c2 0 [⟨frm,0,v⟩]⟩) ?_
   (StLe.heap (uy (fun k=>by rcases k with _|_|_|k <;> rfl) rfl rfl))
  obtain⟨a,e1,e2,e3⟩:=q3.aft frm
  have hlen:(aft (qs w sig).chg frm).length<=900:=Nat.le_trans (List.length_filter_le _ _) q1
  refine qi9 (E:=OfE) (p:=rgP) (by kernel_rfl) (f:=129) (caps:=[.ep [I frm],.ep [wd],.ep [I sig],.ep [.bp 1 0],.ep [I to]]) (by kernel_rfl) [14] ?_
  have hit:=qnc w lim OfQ sig frm to hsig hr0 hr1 hr2 e1 e2 e3 (OfY w lim) c2 [⟨frm,0,v⟩] (by simp only[List.length_singleton];omega)
  refine CallA.mono hit fun _ h hh=> .inl ?_
  subst hh
  refine⟨rfl,?_⟩
  have hne:=qkd lim to (aft (qs w sig).chg frm) c2 [⟨frm,0,v⟩] (by simp)
  simp only
  generalize itR lim to (aft (qs w sig).chg frm) c2 [⟨frm,0,v⟩]=r at hne⊢
  have:=OfH (w:=w) (lim:=lim) (to:=to) r.2.1 r.2.2 r.1 hne (fun d h=>RetLe d h (.tup [L (if r.2.2≠0 then([],r.2.2,r.2.1) else(zf r.1 to,0,r.2.1)).1 3 Sp.d,I (if r.2.2≠0 then(([]:List Sp),r.2.2,r.2.1) else(zf r.1 to,0,r.2.1)).2.1]) (hMn w lim (if r.2.2≠0 then(([]:List Sp),r.2.2,r.2.1) else(zf r.1 to,0,r.2.1)).2.2)) (fun d h hr=>by
   by_cases h0:r.2.2≠0
   ·rw[if_pos h0]at hr⊢;exact hr
   ·rw[if_neg h0]at hr⊢
    have:r.2.2=0:=by simpa using h0
    rw[this]at hr;exact hr)
  refine(jl this ?_).it
  show StLe _ ⟨[(3,I to),(8,.own [nilL]),(9,.own [I 0]),(12,.bp 1 0),(14,.bp 2 0),(60,.clo 129 [.ep [I frm],.ep [wd],.ep [I sig],.ep [.bp 1 0],.ep [I to]])],qbc (hO w lim r.2.1 r.2.2 r.1 OfQ) 3⟩ _
  rw[qkc]
  exact ut _ [3,8,9,12,14] _
 refine du F54 (by kernel_rfl) (of_eq (qww w lim c sig frm to _) (qa (fun _=>⟨qu4 w lim c,?_⟩) fun _=>hB))
 exact jl hB (StLe.heap (uy (fun k=>by rcases k with _|k <;> rfl) rfl rfl))
end
end Go.Proofs.YtiekphbkomddfaaGreatDoor.S1
namespace Go.Proofs.YtiekphbkomddfaaGreatDoor.S1
open Go Go.Ab Go.Proofs
def okN(p:Option Sp)(x:Sp):Bool:= !(bif decide (x.frm > x.to) then true else match p with|none=>false|some y=>bif x.frm !=qg .i64 y.to 1 then true else x.val==y.val)
def chk:Option Sp->List Sp->Bool
 |_,[]=>true
 |p,x::r=>okN p x&&chk (some x) r
def je(l:List Sp):Sp:=l.getD (l.length-1) default
def zn(l:List Sp):Bool:= !(bif bif(l.length:Int)==0 then true else decide ((l.getD 0 default).frm<0) then true else decide ((je l).to > 1099511627776))&&chk none l
def sf(l:List Sp):Nat->Option Sp
 |0=>none
 |i+1=>some (l.getD i default)
theorem qw4:OkF 130 Tryz.f130:=⟨by kernel_rfl,by kernel_rfl,by kernel_rfl⟩
def qne:List (List Nat×List Nat):=[([1,1,0,1,0],[0,25,26,27])]
noncomputable def qlh:List Nat->Nat->Option Ans:=qf []
theorem qnf[Lay](l:List Sp)(K:D->Prop):qn (En Tryz.f130) (fi Tryz.f130 K) (qlh ) qne 200 [.code []] ⟨qc 0 [L l 3 Sp.d],.empty⟩ =
 (l.length<=q8->((!(↑l.length:Int)==0)=true->(0:Int)<=0/\0<(↑l.length:Int))/\(((!bif(↑l.length:Int)==0 then true else decide ((l.getD (Int.toNat 0) default).frm<0))=true->l.length<=q8)->((!bif(↑l.length:Int)==0 then true else decide ((l.getD (Int.toNat 0) default).frm<0))=true->0<=qj .i64 (↑l.length:Int) 1/\qj .i64 (↑l.length:Int) 1<(↑l.length:Int))/\bif bif bif(↑l.length:Int)==0 then true else decide ((l.getD (Int.toNat 0) default).frm<0) then true else decide ((l.getD (qj .i64 (↑l.length:Int) 1).toNat default).to > 1099511627776) then K (B false) else l.length<=q8->At (En Tryz.f130) (fi Tryz.f130 K) [It.code [1,1,0,1,0],It.blk 0,It.code [1,1,1]] {sl:=[(0,L l 3 Sp.d),(25,L l 3 Sp.d),(26,I (↑l.length:Int)),(27,I 0)],h:=Heap.empty:St})):=by kernel_rfl
def qke(l:List Sp)(i:Int):St:=⟨[(0,L l 3 Sp.d),(25,L l 3 Sp.d),(26,I l.length),(27,I i)],.empty⟩
noncomputable def qjb:List Nat->Nat->Option Ans:=qf []
theorem qli[Lay](l:List Sp)(i:Int)(J:St->Prop)(K:D->Prop):qn (En Tryz.f130) (fi Tryz.f130 K) (qjb ) qne 200 [.code [1,1,0,1,0,0],stp [0,25,26,27] J,.blk 0,.code [1,1,1]] (qke l i) =
 (bif decide (i<(↑l.length:Int)) then(0<=i/\i<(↑l.length:Int))/\True/\((!decide ((l.getD i.toNat default).frm > (l.getD i.toNat default).to)&&decide (i > 0))=true->0<=qj .i64 i 1/\qj .i64 i 1<(↑l.length:Int))/\((!decide ((l.getD i.toNat default).frm > (l.getD i.toNat default).to)&&decide (i > 0) && !(l.getD i.toNat default).frm !=qg .i64 (l.getD (qj .i64 i 1).toNat default).to 1)=true->0<=qj .i64 i 1/\qj .i64 i 1<(↑l.length:Int))/\bif bif decide ((l.getD i.toNat default).frm > (l.getD i.toNat default).to) then true else bif decide (i > 0) then bif(l.getD i.toNat default).frm !=qg .i64 (l.getD (qj .i64 i 1).toNat default).to 1 then true else(l.getD i.toNat default).val==(l.getD (qj .i64 i 1).toNat default).val else false then K (B false) else J {sl:=[(0,L l 3 Sp.d),(25,L l 3 Sp.d),(26,I (↑l.length:Int)),(27,I (qg .i64 i 1))],h:=Heap.empty:St} else K (B true)):=by kernel_rfl
theorem qw5[Lay](l:List Sp):Pure PP 130 [L l 3 Sp.d] (B (zn l)):=by
 refine pu qw4 (by kernel_rfl) (of_eq (qnf l _) fun hl=> ?_)
 have hlast:((!bif(l.length:Int)==0 then true else decide ((l.getD (Int.toNat 0) default).frm<0))=true)->qj .i64 (l.length:Int) 1=((l.length-1:Nat):Int)/\0<l.length:=fun h=>by
  have h0:0<l.length:=by
   rcases Nat.eq_zero_or_pos l.length with h1|h1
   ·rw[h1]at h;simp at h
   ·exact h1
  exact⟨bq h0 hl,h0⟩
 refine⟨fun h=>⟨Int.le_refl _,?_⟩,fun _=>⟨fun h=> ?_,?_⟩⟩
 ·have:(l.length:Int)≠0:=by simpa using h
  omega
 ·obtain⟨e,h0⟩:=hlast h
  rw[e];omega
 have hv:zn l=(!(bif bif(l.length:Int)==0 then true else decide ((l.getD (Int.toNat 0) default).frm<0) then true else decide ((l.getD (qj .i64 (l.length:Int) 1).toNat default).to > 1099511627776))&&chk none l):=by
  cases hb:(bif(l.length:Int)==0 then true else decide ((l.getD (Int.toNat 0) default).frm<0)) with
  |true=>unfold zn;rw[show(bif(l.length:Int)==0 then true else decide ((l.getD 0 default).frm<0))=true from hb];rfl
  |false =>
   obtain⟨e,_⟩:=hlast (by rw[hb];rfl)
   rw[e,Int.toNat_natCast]
   unfold zn je
   rw[show(bif(l.length:Int)==0 then true else decide ((l.getD 0 default).frm<0))=false from hb]
 rw[hv]
 refine qa (fun h=> ?_) fun h _=> ?_
 ·rw[h];exact Wk.refl _
 rw[h]
 simp only[Bool.not_false,Bool.true_and]
 refine lp (fn:=Tryz.f130) (fun i:Nat=>i<=l.length/\chk none l=chk (sf l i) (l.drop i)) (fun i=>qke l i) (fun i=>l.length-i) [0,25,26,27] (by kernel_rfl) (fun i hi=>of_eq (qli l i _ _) (qa (fun hlt=> ?_) fun hge=> ?_)) 0 ⟨Nat.zero_le _,rfl⟩
 ·have hlt:=ltI hlt
  obtain⟨_,he⟩:=hi
  rw[nf hlt hl,Int.toNat_natCast,he,js _ _ hlt]
  have hp:0<i->qj .i64 (i:Int) 1=((i-1:Nat):Int):=fun h0=>bq h0 (by omega)
  have hok:(bif decide ((l.getD i default).frm > (l.getD i default).to) then true else bif decide ((i:Int) > 0) then bif(l.getD i default).frm !=qg .i64 (l.getD (qj .i64 (i:Int) 1).toNat default).to 1 then true else(l.getD i default).val==(l.getD (qj .i64 (i:Int) 1).toNat default).val else false) = !okN (sf l i) (l.getD i default):=by
   cases i with
   |zero=>simp[okN,sf]
   |succ i =>
    rw[hp (by omega),Int.toNat_natCast]
    have:decide (((i+1:Nat):Int) > 0)=true:=decide_eq_true (by omega)
    rw[this]
    simp[okN,sf]
  refine⟨⟨by omega,by omega⟩,trivial,fun h=> ?_,fun h=> ?_,?_⟩
  ·have h0:0<i:=by simp at h;omega
   rw[hp h0];omega
  ·have h0:0<i:=by simp at h;omega
   rw[hp h0];omega
  ·rw[hok]
   simp only[chk]
   refine qa (fun h=> ?_) fun h=> ?_
   ·have:okN (sf l i) (l.getD i default)=false:=by simpa using h
    rw[this];exact Wk.refl _
   ·have:okN (sf l i) (l.getD i default)=true:=by simpa using h
    rw[this,Bool.true_and]
    exact Nx.mk (i+1) ⟨hlt,rfl⟩ (by omega)
 ·have:=geI hge
  rw[hi.2,List.drop_of_length_le this]
  exact Wk.refl _
def srt:Option Chg->List Chg->Bool
 |_,[]=>true
 |p,x::r=>(match p with|none=>true|some y=> !decide (x.time<y.time))&&srt (some x) r
end Go.Proofs.YtiekphbkomddfaaGreatDoor.S1
