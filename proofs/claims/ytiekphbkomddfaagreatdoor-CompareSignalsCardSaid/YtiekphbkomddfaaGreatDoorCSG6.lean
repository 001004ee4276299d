/- Comparing: pairs of values, each once; the times near which a signal agrees. -/
import Derived.Test.YtiekphbkomddfaaGreatDoorCSG5
namespace Go.Proofs.YtiekphbkomddfaaGreatDoor.S1
open Go Go.Ab Go.Proofs
attribute [local instance] qda
instance rbMapB{f:Nat->Option Row}{k:Nat}{kk:KK}{has:ju->Bool}{q:ju->Bool}[h:RB f]:RB (upd f k (some (.map kk has (.b q)))):=⟨fun l row e=>by
 by_cases hx:l=k
 ·subst hx;rw[qb]at e;cases e;exact fun x=>trivial
 ·rw[qd _ _ hx]at e;exact h.p l row e⟩
def skF(k:Int)(t:Tol):ju->Bool
 | [.s a,.s b]=>saF k t a b
 |_=>false
def smF(k:Int)(t:Tol)(has:ju->Bool):ju->Bool:=fun x=>bif has x then skF k t x else false
def hSm(k:Int)(t:Tol)(has:ju->Bool):Heap:=⟨upd (fun _=>none) 0 (some (.map .ss has (.b (smF k t has)))),1,fun _=>none,0,fun _=>none⟩
theorem F89:OkF 89 Tryz.f89:=⟨by kernel_rfl,by kernel_rfl,by kernel_rfl⟩
def q3z:List (List Nat×List Nat):=[]
noncomputable def quu(k:Int)(t:Tol)(a:Str)(b:Str):List Nat->Nat->Option Ans:=qf [([1,1,1,0,1,0,0],6,Ans.pure [I k,.str a,.str b,t.d] (B (saF k t a b)))]
theorem q30(k:Int)(t:Tol)(a b:Str)(has:ju->Bool)(K:D->Heap->Prop):qn (En Tryz.f89) (fh Tryz.f89 K) (quu k t a b) q3z 200 [.code []] ⟨qc 0 [.agg [I k,I t.time,.str t.val,B t.unk,.mp 0],.str a,.str b],hSm k t has⟩ =
 (True/\bif !has [KA.s a,KA.s b] then PureW PP 9 [I k,.str a,.str b,t.d] [I k,.str a,.str b,t.d] (B (saF k t a b))/\True/\K (B (saF k t a b)) {box:=upd (upd (fun _=>none) 0 (some (Row.map KK.ss has (MV.b (smF k t has))))) 0 (some (Row.map KK.ss (ke has [KA.s a,KA.s b] true) (MV.b (ke (smF k t has) [KA.s a,KA.s b] (saF k t a b))))),nl:=1,hw:=fun _=>none,nt:=0,vw:=fun _=>none:Heap} else K (B (smF k t has [KA.s a,KA.s b])) {box:=upd (fun _=>none) 0 (some (Row.map KK.ss has (MV.b (smF k t has)))),nl:=1,hw:=fun _=>none,nt:=0,vw:=fun _=>none:Heap}):=by kernel_rfl
theorem qnk(k:Int)(t:Tol)(has:ju->Bool)(a b:Str):ke (smF k t has) [.s a,.s b] (saF k t a b)=smF k t (ke has [.s a,.s b] true):=by
 funext x
 unfold ke smF
 by_cases h:x=[.s a,.s b]
 ·subst h
  simp[skF]
 ·simp only[decide_eq_false h,cond_false]
theorem qnl(has:ju->Bool)(a b:Str)(h:has [.s a,.s b]=true):ke has [.s a,.s b] true=has:=by
 funext x
 unfold ke
 by_cases hx:x=[.s a,.s b]
 ·subst hx;rw[decide_eq_true rfl];exact h.symm
 ·rw[decide_eq_false hx];rfl
theorem e89[qga](k:Int)(t:Tol)(a b:Str)(has:ju->Bool):Does PP 89 [.agg [I k,I t.time,.str t.val,B t.unk,.mp 0],.str a,.str b] (hSm k t has) (B (saF k t a b)) (hSm k t (ke has [.s a,.s b] true)):=by
 refine du F89 (by kernel_rfl) (of_eq (q30 k t a b has _) ⟨trivial,qa (fun h=>⟨PureW.mk (c9 k a b t),trivial,?_⟩) fun h=> ?_⟩)
 ·rw[qnk,q6];exact RetLe.refl _ _
 ·have h:has [.s a,.s b]=true:=by simpa using h
  rw[qnl has a b h]
  have:smF k t has [.s a,.s b]=saF k t a b:=by
   unfold smF
   rw[h];rfl
  rw[this];exact RetLe.refl _ _
theorem eSm[qga](k tm:Int)(tv:Str)(tu:Bool)(a b:Str)(has:ju->Bool):Does PP 89 [.agg [I k,I tm,.str tv,B tu,.mp 0],.str a,.str b] (hSm k ⟨tm,tv,tu⟩ has) (B (saF k ⟨tm,tv,tu⟩ a b)) (hSm k ⟨tm,tv,tu⟩ (ke has [.s a,.s b] true)):=e89 k ⟨tm,tv,tu⟩ a b has
theorem F90:OkF 90 Tryz.f90:=⟨by kernel_rfl,by kernel_rfl,by kernel_rfl⟩
def qyb:List (List Nat×List Nat):=[([1,1,0,1,0],[2,3,4,9,12,13,14]),([1,1,1],[3,4,9])]
noncomputable def quv:List Nat->Nat->Option Ans:=qf []
theorem q31(k tm:Int)(tv:Str)(tu:Bool)(l:List Sp)(v:Str)(e:Int)(has:ju->Bool)(K:D->Heap->Prop):qn (En Tryz.f90) (fh Tryz.f90 K) (quv ) qyb 200 [.code []] ⟨qc 0 [.agg [I k,I tm,.str tv,B tu,.mp 0],L l 3 Sp.d,.str v,I e],hSm k ⟨tm,tv,tu⟩ has⟩ =
 (l.length<=q8->At (En Tryz.f90) (fh Tryz.f90 K) [It.code [1,1,0,1,0],It.blk 0,It.code [1,1,1]] {sl:=[(2,.str v),(3,I e),(4,.own [I k,I tm,.str tv,B tu,D.mp 0]),(9,.list 0 0 (fun _=>D.junk) .full),(12,L l 3 Sp.d),(13,I (↑l.length:Int)),(14,I 0)],h:={box:=upd (fun _=>none) 0 (some (Row.map KK.ss has (MV.b (smF k {time:=tm,val:=tv,unk:=tu:Tol} has)))),nl:=1,hw:=fun _=>none,nt:=0,vw:=fun _=>none:Heap}:St}):=by kernel_rfl
def hSn(k:Int)(t:Tol)(has:ju->Bool)(n:Nat):Heap:=⟨upd (fun _=>none) 0 (some (.map .ss has (.b (smF k t has)))),1,upd (fun _=>none) 0 (some n),1,fun _=>none⟩
def hSf(k:Int)(t:Tol)(has:ju->Bool):Heap:=⟨upd (fun _=>none) 0 (some (.map .ss has (.b (smF k t has)))),1,fun _=>none,1,fun _=>none⟩
def SCn(k:Int)(t:Tol)(l:List Sp)(v:Str)(e:Int)(has:ju->Bool)(out:List Iv)(i:Int):St:=⟨[(2,.str v),(3,I e),(4,.own [I k,I t.time,.str t.val,B t.unk,.mp 0]),(9,LT out 2 Iv.d 0),(12,L l 3 Sp.d),(13,I l.length),(14,I i)],hSn k t has out.length⟩
noncomputable def qp4(k:Int)(tm:Int)(tv:Str)(tu:Bool)(l:List Sp)(v:Str)(has:ju->Bool)(out:List Iv)(i:Int):List Nat->Nat->Option Ans:=qf [([1,1,0,1,0,0,1,1,0,0,1,0],4,Ans.eff (ren (rnm [0] 1) (rnm [] 1) (B (saF k {time:=tm,val:=tv,unk:=tu:Tol} v (l.getD i.toNat default).val))) (qh [0] [] {box:=upd (fun _=>none) 0 (some (Row.map KK.ss has (MV.b (smF k {time:=tm,val:=tv,unk:=tu:Tol} has)))),nl:=1,hw:=upd (fun _=>none) 0 (some out.length),nt:=1,vw:=fun _=>none:Heap} (hSm k {time:=tm,val:=tv,unk:=tu:Tol} (ke has [KA.s v,KA.s (l.getD i.toNat default).val] true))))]
theorem quw(k tm:Int)(tv:Str)(tu:Bool)(l:List Sp)(v:Str)(e:Int)(has:ju->Bool)(out:List Iv)(i:Int)(J:St->Prop)(K:D->Heap->Prop):qn (En Tryz.f90) (fh Tryz.f90 K) (qp4 k tm tv tu l v has out i) qyb 200 [.code [1,1,0,1,0,0],stp [2,3,4,9,12,13,14] J,.blk 0,.code [1,1,1]] (SCn k ⟨tm,tv,tu⟩ l v e has out i)=
 (bif decide (i<(↑l.length:Int)) then
 (0<=i/\i<(↑l.length:Int))/\
  True /\
   Does PP 89 [.agg [I k,I {time:=tm,val:=tv,unk:=tu:Tol}.time,.str {time:=tm,val:=tv,unk:=tu:Tol}.val,B {time:=tm,val:=tv,unk:=tu:Tol}.unk,D.mp 0],.str v,.str (l.getD i.toNat default).val] {box:=upd (fun _=>none) 0 (some (Row.map KK.ss has (MV.b (smF k {time:=tm,val:=tv,unk:=tu:Tol} has)))),nl:=1,hw:=upd (fun _=>none) 0 (some out.length),nt:=1,vw:=fun _=>none:Heap} (ren (rnm [0] 1) (rnm [] 1) (B (saF k {time:=tm,val:=tv,unk:=tu:Tol} v (l.getD i.toNat default).val))) (qh [0] [] {box:=upd (fun _=>none) 0 (some (Row.map KK.ss has (MV.b (smF k {time:=tm,val:=tv,unk:=tu:Tol} has)))),nl:=1,hw:=upd (fun _=>none) 0 (some out.length),nt:=1,vw:=fun _=>none:Heap} (hSm k {time:=tm,val:=tv,unk:=tu:Tol} (ke has [KA.s v,KA.s (l.getD i.toNat default).val] true)))/\
    bif saF k {time:=tm,val:=tv,unk:=tu:Tol} v (l.getD i.toNat default).val then(qd8 (upd (fun _=>none) 0 (some out.length)) (rnm [] 1) (fun _=>none) 0 0=some out.length/\(out.length+1)*16<=q7)/\J {sl:=[(2,.str v),(3,I e),(4,.own [I k,I {time:=tm,val:=tv,unk:=tu:Tol}.time,.str {time:=tm,val:=tv,unk:=tu:Tol}.val,B {time:=tm,val:=tv,unk:=tu:Tol}.unk,D.mp 0]),(9,.list (out.length+1) 2 (zo out.length (fun i=>(out.getD i default).d) (zf [.agg [I (l.getD i.toNat default).frm,I (l.getD i.toNat default).to]])) (.tok 0 2)),(12,L l 3 Sp.d),(13,I (↑l.length:Int)),(14,I (qg .i64 i 1))],h:={box:=upd (upd (fun _=>none) 0 (some (Row.map KK.ss has (MV.b (smF k {time:=tm,val:=tv,unk:=tu:Tol} has))))) 0 (some (Row.map KK.ss (ke has [KA.s v,KA.s (l.getD i.toNat default).val] true) (MV.b (smF k {time:=tm,val:=tv,unk:=tu:Tol} (ke has [KA.s v,KA.s (l.getD i.toNat default).val] true))))),nl:=1,hw:=upd (upd (fun _=>none) 0 (some out.length)) 0 (some (out.length+1)),nt:=1,vw:=fun _=>none:Heap}:St}
    else J {sl:=[(2,.str v),(3,I e),(4,.own [I k,I {time:=tm,val:=tv,unk:=tu:Tol}.time,.str {time:=tm,val:=tv,unk:=tu:Tol}.val,B {time:=tm,val:=tv,unk:=tu:Tol}.unk,D.mp 0]),(9,.list out.length 2 (fun i=>(out.getD i default).d) (.tok 0 2)),(12,L l 3 Sp.d),(13,I (↑l.length:Int)),(14,I (qg .i64 i 1))],h:={box:=upd (upd (fun _=>none) 0 (some (Row.map KK.ss has (MV.b (smF k {time:=tm,val:=tv,unk:=tu:Tol} has))))) 0 (some (Row.map KK.ss (ke has [KA.s v,KA.s (l.getD i.toNat default).val] true) (MV.b (smF k {time:=tm,val:=tv,unk:=tu:Tol} (ke has [KA.s v,KA.s (l.getD i.toNat default).val] true))))),nl:=1,hw:=upd (fun _=>none) 0 (some out.length),nt:=1,vw:=fun _=>none:Heap}:St}
 else At (En Tryz.f90) (fh Tryz.f90 K) [It.code [1,1,1]] {sl:=[(3,I e),(4,.own [I k,I {time:=tm,val:=tv,unk:=tu:Tol}.time,.str {time:=tm,val:=tv,unk:=tu:Tol}.val,B {time:=tm,val:=tv,unk:=tu:Tol}.unk,D.mp 0]),(9,.list out.length 2 (fun i=>(out.getD i default).d) (.tok 0 2))],h:={box:=upd (fun _=>none) 0 (some (Row.map KK.ss has (MV.b (smF k {time:=tm,val:=tv,unk:=tu:Tol} has)))),nl:=1,hw:=upd (fun _=>none) 0 (some out.length),nt:=1,vw:=fun _=>none:Heap}:St}):=by kernel_rfl
noncomputable def qp5(tm:Int)(e:Int)(out:List Iv):List Nat->Nat->Option Ans:=qf [([1,1,1,0],9,Ans.pure [L out 2 Iv.d,I (qj .i64 0 tm),I tm,I 0,I e] (L (yp out (qj .i64 0 tm) tm 0 e) 2 Iv.d))]
theorem qux(k tm:Int)(tv:Str)(tu:Bool)(e:Int)(has:ju->Bool)(out:List Iv)(K:D->Heap->Prop):qn (En Tryz.f90) (fh Tryz.f90 K) (qp5 tm e out) p8 200 [.code [1,1,1]] ⟨[(3,I e),(4,.own [I k,I tm,.str tv,B tu,.mp 0]),(9,L out 2 Iv.d)],hSf k ⟨tm,tv,tu⟩ has⟩ =
 (PureW PP 53 [L out 2 Iv.d,I (qj .i64 0 tm),I tm,I 0,I e] [L out 2 Iv.d,I (qj .i64 0 tm),I tm,I 0,I e] (L (yp out (qj .i64 0 tm) tm 0 e) 2 Iv.d)/\K (L (yp out (qj .i64 0 tm) tm 0 e) 2 Iv.d) {box:=upd (fun _=>none) 0 (some (Row.map KK.ss has (MV.b (smF k {time:=tm,val:=tv,unk:=tu:Tol} has)))),nl:=1,hw:=fun _=>none,nt:=1,vw:=fun _=>none:Heap}):=by kernel_rfl
def nrS(k:Int)(t:Tol)(v:Str)(l:List Sp):List Iv:=(l.filter fun x=>saF k t v x.val).map fun x=>⟨x.frm,x.to⟩
def iu(v:Str)(l:List Sp)(has:ju->Bool):ju->Bool:=l.foldl (fun h x=>ke h [.s v,.s x.val] true) has
def j3(k:Int)(t:Tol)(l:List Sp)(v:Str)(e:Int):List Iv:=yp (nrS k t v l) (qj .i64 0 t.time) t.time 0 e
theorem qk3(k:Int)(t:Tol)(v:Str)(l:List Sp)(i:Nat)(h:i<l.length):nrS k t v (l.take (i+1))=nrS k t v (l.take i)++if saF k t v (l.getD i default).val=true then[⟨(l.getD i default).frm,(l.getD i default).to⟩] else[]:=by
 unfold nrS
 rw[zu _ _ h,List.filter_append,List.map_append]
 congr 1
 by_cases hs:saF k t v (l.getD i default).val=true
 ·rw[if_pos hs,List.filter_cons,if_pos hs];rfl
 ·rw[if_neg hs,List.filter_cons,if_neg hs];rfl
theorem qdh(k:Int)(t:Tol)(v:Str)(l:List Sp):(nrS k t v l).length<=l.length:=by
 unfold nrS
 rw[List.length_map];exact List.length_filter_le _ _
theorem qih(v:Str)(l:List Sp)(has:ju->Bool)(i:Nat)(h:i<l.length):iu v (l.take (i+1)) has=ke (iu v (l.take i) has) [.s v,.s (l.getD i default).val] true:=by
 unfold iu
 rw[zu _ _ h,List.foldl_append];rfl
theorem qnm(k:Int)(t:Tol)(has:ju->Bool)(n:Nat):HeapLe (hSn k t has n) (hSf k t has) :=
 ⟨fun l row' e=>⟨row',e,RowLe.refl _⟩,Nat.le_refl _,fun t n e=>(by cases e),Nat.le_refl _,fun t n e=>(by cases e),fun _ _=>rfl⟩
theorem e90[qga](k:Int)(t:Tol)(l:List Sp)(v:Str)(e:Int)(has:ju->Bool)(hl:l.length<=10000):Does PP 90 [.agg [I k,I t.time,.str t.val,B t.unk,.mp 0],L l 3 Sp.d,.str v,I e] (hSm k t has) (L (j3 k t l v e) 2 Iv.d) (hSf k t (iu v l has)):=by
 obtain⟨tm,tv,tu⟩:=t
 refine du F90 (by kernel_rfl) (of_eq (q31 k tm tv tu l v e has _) fun hlm=> ?_)
 refine jc (st':=SCn k ⟨tm,tv,tu⟩ l v e (iu v (l.take 0) has) (nrS k ⟨tm,tv,tu⟩ v (l.take 0)) ((0:Nat):Int)) ?_ ((StLe.idle _ none 9 2 (fun i=>Iv.d (([]:List Iv).getD i default)) rfl).cast (by kernel_rfl))
 refine lp (fn:=Tryz.f90) (fun i:Nat=>i<=l.length) (fun i=>SCn k ⟨tm,tv,tu⟩ l v e (iu v (l.take i) has) (nrS k ⟨tm,tv,tu⟩ v (l.take i)) i) (fun i=>l.length-i) [2,3,4,9,12,13,14] (by kernel_rfl) (fun i hi=>of_eq (quw k tm tv tu l v e _ _ i _ _) (qa (fun hlt=> ?_) fun hge=> ?_)) 0 (Nat.zero_le _)
 ·have hlt:=ltI hlt
  have hs:=qk3 k ⟨tm,tv,tu⟩ v l i hlt
  have hh:=qih v l has i hlt
  have hn:=qdh k ⟨tm,tv,tu⟩ v (l.take i)
  have htk:(l.take i).length=i:=by rw[List.length_take];omega
  rw[bi hlt hlm,Int.toNat_natCast]
  refine⟨⟨by omega,by omega⟩,trivial,fr (eSm k tm tv tu v _ _) [0] [],qa (fun h=>⟨⟨rfl,by unfold q7;omega⟩,Nx.of (i+1) hlt (by omega) ?_⟩) fun h=>Nx.of (i+1) hlt (by omega) ?_⟩
  ·rw[hs,hh,if_pos h]
   generalize nrS k ⟨tm,tv,tu⟩ v (l.take i)=out
   generalize iu v (l.take i) has=h0
   unfold SCn hSn
   rw[List.length_append,List.length_singleton,q6,q6]
   exact(StLe.set 9 rfl (Wk.snoc (enc:=Iv.d) (x:=(⟨(l.getD i default).frm,(l.getD i default).to⟩:Iv))) rfl rfl).cast (by kernel_rfl)
  ·have h:¬saF k ⟨tm,tv,tu⟩ v (l.getD i default).val=true:=by rw[h];simp
   rw[hs,hh,if_neg h,List.append_nil,q6]
   exact(StLe.refl _ _).cast (by kernel_rfl)
 ·rw[List.take_of_length_le (geI hge)]
  have hn:=qdh k ⟨tm,tv,tu⟩ v l
  unfold j3
  generalize nrS k ⟨tm,tv,tu⟩ v l=out at hn⊢
  refine jc (st':=⟨[(3,I e),(4,.own [I k,I tm,.str tv,B tu,.mp 0]),(9,L out 2 Iv.d)],hSf k ⟨tm,tv,tu⟩ (iu v l has)⟩) (qe jv _ _ _ (of_eq (qux k tm tv tu e _ out _) ⟨PureW.mk (c53 out _ _ _ _ (by omega)),RetLe.refl _ _⟩)) ?_
  exact((StLe.set 9 (d':=L out 2 Iv.d) rfl Wk.tokL rfl rfl).trans (StLe.heapLe (qnm k ⟨tm,tv,tu⟩ (iu v l has) out.length))).cast (by kernel_rfl)
def qii:D:= .list 0 0 (fun _=> .junk) .full
def qgj(k:Int)(t:Tol)(has hb ha:ju->Bool)(nb na:ju->List Iv):Nat->Option Row:=upd (upd (upd (fun _=>none) 0 (some (.map .ss has (.b (smF k t has))))) 1 (some (.map .str hb (.d (.list 0 0 (fun _=> .junk) .full) fun x=>L (nb x) 2 Iv.d)))) 2 (some (.map .str ha (.d (.list 0 0 (fun _=> .junk) .full) fun x=>L (na x) 2 Iv.d)))
def hSp(k:Int)(t:Tol)(has hb ha:ju->Bool)(nb na:ju->List Iv)(n N:Nat):Heap:=⟨upd (upd (upd (fun _=>none) 0 (some (.map .ss has (.b (smF k t has))))) 1 (some (.map .str hb (.d (.list 0 0 (fun _=> .junk) .full) fun x=>L (nb x) 2 Iv.d)))) 2 (some (.map .str ha (.d (.list 0 0 (fun _=> .junk) .full) fun x=>L (na x) 2 Iv.d))),3,upd (fun _=>none) 0 (some n),N+1,fun _=>none⟩
theorem qp6[qga](k tm:Int)(tv:Str)(tu:Bool)(l:List Sp)(v:Str)(e:Int)(has:ju->Bool)(hl:l.length<=10000):Does PP 90 [.agg [I k,I tm,.str tv,B tu,.mp 0],L l 3 Sp.d,.str v,I e] (hSm k ⟨tm,tv,tu⟩ has) (L (j3 k ⟨tm,tv,tu⟩ l v e) 2 Iv.d) (hSf k ⟨tm,tv,tu⟩ (iu v l has)):=e90 k ⟨tm,tv,tu⟩ l v e has hl
theorem F55:OkF 55 Tryz.f55:=⟨by kernel_rfl,by kernel_rfl,by kernel_rfl⟩
def qyc:List (List Nat×List Nat):=[([1,1,1,1,1,0,1,0],[1,2,3,4,12,13,14,36,37,38]),([1,1,1,1,1,0,1,0,0,1,1,0,0,1,1,0,1],[1,2,3,4,12,13,14,16,17,18,36,37,38,53]),([1,1,1,1,1,0,1,0,0,1,1,0,0,1,1,1,1],[1,2,3,4,12,13,14,16,17,18,36,37,38]),([1,1,1,1,1,0,1,0,0,1,1,0,0,1,1,1,1,1],[1,2,3,4,12,13,14,16,17,18,36,37,38]),([1,1,1,1,1,1],[14])]
noncomputable def q32(a:List Sp)(b:List Sp):List Nat->Nat->Option Ans:=qf [([1,0],3,Ans.pure [L [a,b] 1 LLd] (.tup [L (rk a b) 3 Rw.d,I 0]))]
theorem nSp(k tm:Int)(tv:Str)(tu:Bool)(a b:List Sp)(e:Int)(has:ju->Bool)(K:D->Heap->Prop):qn (En Tryz.f55) (fh Tryz.f55 K) (q32 a b) qyc 200 [.code []] ⟨qc 0 [.agg [I k,I tm,.str tv,B tu,.mp 0],L a 3 Sp.d,L b 3 Sp.d,I e],hSm k ⟨tm,tv,tu⟩ has⟩ =
 (PureW PP 88 [.list 2 1 (zf [L a 3 Sp.d,L b 3 Sp.d]) .full] [L [a,b] 1 LLd] (.tup [L (rk a b) 3 Rw.d,I 0])/\True/\True/\((rk a b).length<=q8->At (En Tryz.f55) (fh Tryz.f55 K) [It.code [1,1,1,1,1,0,1,0],It.blk 0,It.code [1,1,1,1,1,1]] {sl:=[(1,L a 3 Sp.d),(2,L b 3 Sp.d),(3,I e),(4,.own [I k,I tm,.str tv,B tu,D.mp 0]),(12,D.mp 1),(13,D.mp 2),(14,.list 0 0 (fun _=>D.junk) .full),(36,L (rk a b) 3 Rw.d),(37,I (↑(rk a b).length:Int)),(38,I 0)],h:={box:=upd (upd (upd (fun _=>none) 0 (some (Row.map KK.ss has (MV.b (smF k ⟨tm,tv,tu⟩ has))))) 1 (some (Row.map KK.str (fun x=>false) (r9 (ofVal (Value.slice none 0 0)))))) 2 (some (Row.map KK.str (fun x=>false) (r9 (ofVal (Value.slice none 0 0))))),nl:=3,hw:=fun _=>none,nt:=0,vw:=fun _=>none:Heap}:St})):=by kernel_rfl
def SSp(k:Int)(t:Tol)(a b:List Sp)(e:Int)(q:List Rw)(has hb ha:ju->Bool)(nb na:ju->List Iv)(out:List Iv)(N:Nat)(i:Int):St:=⟨[(1,L a 3 Sp.d),(2,L b 3 Sp.d),(3,I e),(4,.own [I k,I t.time,.str t.val,B t.unk,.mp 0]),(12,.mp 1),(13,.mp 2),(14,LT out 2 Iv.d 0),(36,L q 3 Rw.d),(37,I q.length),(38,I i)],hSp k t has hb ha nb na out.length N⟩
def SSq(k:Int)(t:Tol)(a b:List Sp)(e:Int)(q:List Rw)(f u:Int)(vs:List Str)(x y:Str)(has hb ha:ju->Bool)(nb na:ju->List Iv)(out:List Iv)(N:Nat)(i:Int):St:=⟨[(1,L a 3 Sp.d),(2,L b 3 Sp.d),(3,I e),(4,.own [I k,I t.time,.str t.val,B t.unk,.mp 0]),(12,.mp 1),(13,.mp 2),(14,LT out 2 Iv.d 0),(16,.own [I f,I u,L vs 1 .str]),(17,.str x),(18,.str y),(36,L q 3 Rw.d),(37,I q.length),(38,I i)],hSp k t has hb ha nb na out.length N⟩
noncomputable def quy(k:Int)(tm:Int)(tv:Str)(tu:Bool)(q:List Rw)(has:ju->Bool)(hb:ju->Bool)(ha:ju->Bool)(nb:ju->List Iv)(na:ju->List Iv)(out:List Iv)(N:Nat)(i:Int):List Nat->Nat->Option Ans:=qf [([1,1,1,1,1,0,1,0,0,1,1,0,0,1,1,0,0],3,Ans.eff (ren (rnm [0] 3) (rnm [] (hSp k ⟨tm,tv,tu⟩ has hb ha nb na out.length N).nt) (B (saF k ⟨tm,tv,tu⟩ ((q.getD i.toNat default).vals.getD 0 default) ((q.getD i.toNat default).vals.getD 1 default)))) (qh [0] [] (hSp k ⟨tm,tv,tu⟩ has hb ha nb na out.length N) (hSm k ⟨tm,tv,tu⟩ (ke has [KA.s ((q.getD i.toNat default).vals.getD 0 default),KA.s ((q.getD i.toNat default).vals.getD 1 default)] true))))]
theorem q33(k tm:Int)(tv:Str)(tu:Bool)(a b:List Sp)(e:Int)(q:List Rw)(has hb ha:ju->Bool)(nb na:ju->List Iv)(out:List Iv)(N:Nat)(i:Int)(J:St->Prop)(K:D->Heap->Prop):qn (En Tryz.f55) (fh Tryz.f55 K) (quy k tm tv tu q has hb ha nb na out N i) qyc 200 [.code [1,1,1,1,1,0,1,0,0],stp [1,2,3,4,12,13,14,36,37,38] J,.blk 0,.code [1,1,1,1,1,1]] (SSp k ⟨tm,tv,tu⟩ a b e q has hb ha nb na out N i)=
 (bif decide (i<(↑q.length:Int)) then
 (0<=i/\i<(↑q.length:Int))/\
  True /\
   ((0:Int)<=0/\0<(↑(q.getD i.toNat default).vals.length:Int))/\
    ((0:Int)<=1/\1<(↑(q.getD i.toNat default).vals.length:Int))/\
     Does PP 89 [.agg [I k,I tm,.str tv,B tu,D.mp 0],.str ((q.getD i.toNat default).vals.getD 0 default),.str ((q.getD i.toNat default).vals.getD 1 default)] (hSp k ⟨tm,tv,tu⟩ has hb ha nb na out.length N) (ren (rnm [0] 3) (rnm [] (hSp k ⟨tm,tv,tu⟩ has hb ha nb na out.length N).nt) (B (saF k ⟨tm,tv,tu⟩ ((q.getD i.toNat default).vals.getD 0 default) ((q.getD i.toNat default).vals.getD 1 default))))
       (qh [0] [] (hSp k ⟨tm,tv,tu⟩ has hb ha nb na out.length N) (hSm k ⟨tm,tv,tu⟩ (ke has [KA.s ((q.getD i.toNat default).vals.getD 0 default),KA.s ((q.getD i.toNat default).vals.getD 1 default)] true)))/\
      At (En Tryz.f55) (fh Tryz.f55 K) [It.code [1,1,1,1,1,0,1,0,0,1,1,0,0,1,1,0,1],It.code [1,1,1,1,1,0,1,0,0,1,1,0,0,1,1,1],It.blk 1,It.code [1,1,1,1,1,0,1,0,0,1,1,1],stp [1,2,3,4,12,13,14,36,37,38] J,It.blk 0,It.code [1,1,1,1,1,1]] {sl:=[(1,L a 3 Sp.d),(2,L b 3 Sp.d),(3,I e),(4,.own [I k,I tm,.str tv,B tu,.mp 0]),(12,.mp 1),(13,.mp 2),(14,LT out 2 Iv.d 0),(16,.own [I (q.getD i.toNat default).frm,I (q.getD i.toNat default).to,L (q.getD i.toNat default).vals 1 .str]),(17,.str ((q.getD i.toNat default).vals.getD 0 default)),(18,.str ((q.getD i.toNat default).vals.getD 1 default)),(36,L q 3 Rw.d),(37,I (↑q.length:Int)),(38,I i),(53,B (saF k ⟨tm,tv,tu⟩ ((q.getD i.toNat default).vals.getD 0 default) ((q.getD i.toNat default).vals.getD 1 default)))],h:={box:=upd (qgj k ⟨tm,tv,tu⟩ has hb ha nb na) 0 (some (Row.map KK.ss (ke has [KA.s ((q.getD i.toNat default).vals.getD 0 default),KA.s ((q.getD i.toNat default).vals.getD 1 default)] true) (MV.b (smF k ⟨tm,tv,tu⟩ (ke has [KA.s ((q.getD i.toNat default).vals.getD 0 default),KA.s ((q.getD i.toNat default).vals.getD 1 default)] true))))),nl:=3,hw:=upd (fun _=>none) 0 (some out.length),nt:=N+1+0,vw:=fun _=>none:Heap}:St}
 else At (En Tryz.f55) (fh Tryz.f55 K) [It.code [1,1,1,1,1,1]] {sl:=[(14,.list out.length 2 (fun i=>(out.getD i default).d) (.tok 0 2))],h:=(hSp k ⟨tm,tv,tu⟩ has hb ha nb na out.length N):St}):=by kernel_rfl
def SSr(k:Int)(t:Tol)(a b:List Sp)(e:Int)(q:List Rw)(f u:Int)(vs:List Str)(x y:Str)(has hb ha:ju->Bool)(nb na:ju->List Iv)(out:List Iv)(N:Nat)(i:Int)(w:Bool):St:=⟨[(1,L a 3 Sp.d),(2,L b 3 Sp.d),(3,I e),(4,.own [I k,I t.time,.str t.val,B t.unk,.mp 0]),(12,.mp 1),(13,.mp 2),(14,LT out 2 Iv.d 0),(16,.own [I f,I u,L vs 1 .str]),(17,.str x),(18,.str y),(36,L q 3 Rw.d),(37,I q.length),(38,I i),(53,B w)],hSp k t has hb ha nb na out.length N⟩
def quz:List (List Nat×List Nat):=[([1,1,1,1,1,0,1,0,0,1,1,0,0,1,1,1,1],[1,2,3,4,12,13,14,16,17,18,36,37,38])]
noncomputable def qu0(k:Int)(tm:Int)(tv:Str)(tu:Bool)(b:List Sp)(e:Int)(x:Str)(has:ju->Bool)(hb:ju->Bool)(ha:ju->Bool)(nb:ju->List Iv)(na:ju->List Iv)(out:List Iv)(N:Nat):List Nat->Nat->Option Ans:=qf [([1,1,1,1,1,0,1,0,0,1,1,0,0,1,1,1,0,1,1,0],6,Ans.eff (ren (rnm [0] 3) (rnm [] (hSp k ⟨tm,tv,tu⟩ has hb ha nb na out.length N).nt) (L (j3 k ⟨tm,tv,tu⟩ b x e) 2 Iv.d)) (qh [0] [] (hSp k ⟨tm,tv,tu⟩ has hb ha nb na out.length N) (hSf k ⟨tm,tv,tu⟩ (iu x b has))))]
theorem q34(k tm:Int)(tv:Str)(tu:Bool)(a b:List Sp)(e:Int)(q:List Rw)(f u:Int)(vs:List Str)(x y:Str)(has hb ha:ju->Bool)(nb na:ju->List Iv)(out:List Iv)(N:Nat)(i:Int)(w:Bool)(J:St->Prop)(K:D->Heap->Prop):qn (En Tryz.f55) (fh Tryz.f55 K) (qu0 k tm tv tu b e x has hb ha nb na out N) quz 200 [.code [1,1,1,1,1,0,1,0,0,1,1,0,0,1,1,0,1],.code [1,1,1,1,1,0,1,0,0,1,1,0,0,1,1,1],.blk 1,.code [1,1,1,1,1,0,1,0,0,1,1,1],stp [1,2,3,4,12,13,14,36,37,38] J,.blk 0,.code [1,1,1,1,1,1]] (SSr k ⟨tm,tv,tu⟩ a b e q f u vs x y has hb ha nb na out N i w)=
 (bif w then J {sl:=[(1,L a 3 Sp.d),(2,L b 3 Sp.d),(3,I e),(4,.own [I k,I tm,.str tv,B tu,.mp 0]),(12,.mp 1),(13,.mp 2),(14,LT out 2 Iv.d 0),(36,L q 3 Rw.d),(37,I (↑q.length:Int)),(38,I (qg .i64 i 1))],h:=(hSp k ⟨tm,tv,tu⟩ has hb ha nb na out.length N):St}
 else
 bif !hb [KA.s x] then
  Does PP 90 [.agg [I k,I tm,.str tv,B tu,D.mp 0],L b 3 Sp.d,.str x,I e] (hSp k ⟨tm,tv,tu⟩ has hb ha nb na out.length N) (ren (rnm [0] 3) (rnm [] (hSp k ⟨tm,tv,tu⟩ has hb ha nb na out.length N).nt) (L (j3 k ⟨tm,tv,tu⟩ b x e) 2 Iv.d)) (qh [0] [] (hSp k ⟨tm,tv,tu⟩ has hb ha nb na out.length N) (hSf k ⟨tm,tv,tu⟩ (iu x b has)))/\
   True/\At (En Tryz.f55) (fh Tryz.f55 K) [It.code [1,1,1,1,1,0,1,0,0,1,1,0,0,1,1,1,1],It.blk 1,It.code [1,1,1,1,1,0,1,0,0,1,1,1],stp [1,2,3,4,12,13,14,36,37,38] J,It.blk 0,It.code [1,1,1,1,1,1]] {sl:=[(1,L a 3 Sp.d),(2,L b 3 Sp.d),(3,I e),(4,.own [I k,I tm,.str tv,B tu,.mp 0]),(12,.mp 1),(13,.mp 2),(14,LT out 2 Iv.d 0),(16,.own [I f,I u,L vs 1 .str]),(17,.str x),(18,.str y),(36,L q 3 Rw.d),(37,I (↑q.length:Int)),(38,I i)],h:={box:=upd (upd (qgj k ⟨tm,tv,tu⟩ has hb ha nb na) 0 (some (Row.map KK.ss (iu x b has) (MV.b (smF k ⟨tm,tv,tu⟩ (iu x b has)))))) 1 (some (Row.map KK.str (ke hb [KA.s x] true) (MV.d (.list 0 0 (fun _=>D.junk) .full) (ke (fun x=>L (nb x) 2 Iv.d) [KA.s x] (L (j3 k ⟨tm,tv,tu⟩ b x e) 2 Iv.d))))),nl:=3,hw:=upd (upd (fun _=>none) 0 (some out.length)) (N+1) none,nt:=N+1+1,vw:=upd (fun _=>none) (N+1) none:Heap}:St}
 else At (En Tryz.f55) (fh Tryz.f55 K) [It.code [1,1,1,1,1,0,1,0,0,1,1,0,0,1,1,1,1],It.blk 1,It.code [1,1,1,1,1,0,1,0,0,1,1,1],stp [1,2,3,4,12,13,14,36,37,38] J,It.blk 0,It.code [1,1,1,1,1,1]] {sl:=[(1,L a 3 Sp.d),(2,L b 3 Sp.d),(3,I e),(4,.own [I k,I tm,.str tv,B tu,.mp 0]),(12,.mp 1),(13,.mp 2),(14,LT out 2 Iv.d 0),(16,.own [I f,I u,L vs 1 .str]),(17,.str x),(18,.str y),(36,L q 3 Rw.d),(37,I (↑q.length:Int)),(38,I i)],h:=(hSp k ⟨tm,tv,tu⟩ has hb ha nb na out.length N):St}):=by kernel_rfl
def qu1:List (List Nat×List Nat):=[([1,1,1,1,1,0,1,0,0,1,1,0,0,1,1,1,1,1],[1,2,3,4,12,13,14,16,17,18,36,37,38])]
noncomputable def qu2(k:Int)(tm:Int)(tv:Str)(tu:Bool)(a:List Sp)(e:Int)(y:Str)(has:ju->Bool)(hb:ju->Bool)(ha:ju->Bool)(nb:ju->List Iv)(na:ju->List Iv)(out:List Iv)(N:Nat):List Nat->Nat->Option Ans:=qf [([1,1,1,1,1,0,1,0,0,1,1,0,0,1,1,1,1,0,1,1,0],6,Ans.eff (ren (rnm [0] 3) (rnm [] (hSp k ⟨tm,tv,tu⟩ has hb ha nb na out.length N).nt) (L (j3 k ⟨tm,tv,tu⟩ a y e) 2 Iv.d)) (qh [0] [] (hSp k ⟨tm,tv,tu⟩ has hb ha nb na out.length N) (hSf k ⟨tm,tv,tu⟩ (iu y a has))))]
theorem q35(k tm:Int)(tv:Str)(tu:Bool)(a b:List Sp)(e:Int)(q:List Rw)(f u:Int)(vs:List Str)(x y:Str)(has hb ha:ju->Bool)(nb na:ju->List Iv)(out:List Iv)(N:Nat)(i:Int)(J:St->Prop)(K:D->Heap->Prop):qn (En Tryz.f55) (fh Tryz.f55 K) (qu2 k tm tv tu a e y has hb ha nb na out N) qu1 200 [.code [1,1,1,1,1,0,1,0,0,1,1,0,0,1,1,1,1],.blk 1,.code [1,1,1,1,1,0,1,0,0,1,1,1],stp [1,2,3,4,12,13,14,36,37,38] J,.blk 0,.code [1,1,1,1,1,1]] (SSq k ⟨tm,tv,tu⟩ a b e q f u vs x y has hb ha nb na out N i)=
 (bif !ha [KA.s y] then
 Does PP 90 [.agg [I k,I tm,.str tv,B tu,D.mp 0],L a 3 Sp.d,.str y,I e] (hSp k ⟨tm,tv,tu⟩ has hb ha nb na out.length N) (ren (rnm [0] 3) (rnm [] (hSp k ⟨tm,tv,tu⟩ has hb ha nb na out.length N).nt) (L (j3 k ⟨tm,tv,tu⟩ a y e) 2 Iv.d)) (qh [0] [] (hSp k ⟨tm,tv,tu⟩ has hb ha nb na out.length N) (hSf k ⟨tm,tv,tu⟩ (iu y a has)))/\
  True/\At (En Tryz.f55) (fh Tryz.f55 K) [It.code [1,1,1,1,1,0,1,0,0,1,1,0,0,1,1,1,1,1],It.blk 1,It.code [1,1,1,1,1,0,1,0,0,1,1,1],stp [1,2,3,4,12,13,14,36,37,38] J,It.blk 0,It.code [1,1,1,1,1,1]] {sl:=[(1,L a 3 Sp.d),(2,L b 3 Sp.d),(3,I e),(4,.own [I k,I tm,.str tv,B tu,.mp 0]),(12,.mp 1),(13,.mp 2),(14,LT out 2 Iv.d 0),(16,.own [I f,I u,L vs 1 .str]),(17,.str x),(18,.str y),(36,L q 3 Rw.d),(37,I (↑q.length:Int)),(38,I i)],h:={box:=upd (upd (qgj k ⟨tm,tv,tu⟩ has hb ha nb na) 0 (some (Row.map KK.ss (iu y a has) (MV.b (smF k ⟨tm,tv,tu⟩ (iu y a has)))))) 2 (some (Row.map KK.str (ke ha [KA.s y] true) (MV.d (.list 0 0 (fun _=>D.junk) .full) (ke (fun x=>L (na x) 2 Iv.d) [KA.s y] (L (j3 k ⟨tm,tv,tu⟩ a y e) 2 Iv.d))))),nl:=3,hw:=upd (upd (fun _=>none) 0 (some out.length)) (N+1) none,nt:=N+1+1,vw:=upd (fun _=>none) (N+1) none:Heap}:St}
 else At (En Tryz.f55) (fh Tryz.f55 K) [It.code [1,1,1,1,1,0,1,0,0,1,1,0,0,1,1,1,1,1],It.blk 1,It.code [1,1,1,1,1,0,1,0,0,1,1,1],stp [1,2,3,4,12,13,14,36,37,38] J,It.blk 0,It.code [1,1,1,1,1,1]] {sl:=[(1,L a 3 Sp.d),(2,L b 3 Sp.d),(3,I e),(4,.own [I k,I tm,.str tv,B tu,.mp 0]),(12,.mp 1),(13,.mp 2),(14,LT out 2 Iv.d 0),(16,.own [I f,I u,L vs 1 .str]),(17,.str x),(18,.str y),(36,L q 3 Rw.d),(37,I (↑q.length:Int)),(38,I i)],h:=(hSp k ⟨tm,tv,tu⟩ has hb ha nb na out.length N):St}):=by kernel_rfl
noncomputable def qu3(f:Int)(u:Int)(x:Str)(y:Str)(nb:ju->List Iv)(na:ju->List Iv):List Nat->Nat->Option Ans:=qf [([1,1,1,1,1,0,1,0,0,1,1,0,0,1,1,1,1,1,0],7,Ans.pure [L (nb [KA.s x]) 2 Iv.d,I f,I u] (L (jn (nb [KA.s x]) f u) 2 Iv.d)),([1,1,1,1,1,0,1,0,0,1,1,0,0,1,1,1,1,1,0],15,Ans.pure [L (na [KA.s y]) 2 Iv.d,I f,I u] (L (jn (na [KA.s y]) f u) 2 Iv.d)),([1,1,1,1,1,0,1,0,0,1,1,0,0,1,1,1,1,1,0],16,Ans.pure [L (jn (nb [KA.s x]) f u) 2 Iv.d,L (jn (na [KA.s y]) f u) 2 Iv.d] (L (cmR 1 (jn (nb [KA.s x]) f u) (jn (na [KA.s y]) f u)) 2 Iv.d)),([1,1,1,1,1,0,1,0,0,1,1,0,0,1,1,1,1,1,1],6,Ans.pure [L (cmR 1 (jn (nb [KA.s x]) f u) (jn (na [KA.s y]) f u)) 2 Iv.d,I f,I u] (L (qcd (cmR 1 (jn (nb [KA.s x]) f u) (jn (na [KA.s y]) f u)) f u) 2 Iv.d))]
theorem q36(k tm:Int)(tv:Str)(tu:Bool)(a b:List Sp)(e:Int)(q:List Rw)(f u:Int)(vs:List Str)(x y:Str)(has hb ha:ju->Bool)(nb na:ju->List Iv)(out:List Iv)(N:Nat)(i:Int)(J:St->Prop)(K:D->Heap->Prop):qn (En Tryz.f55) (fh Tryz.f55 K) (qu3 f u x y nb na) p8 200 [.code [1,1,1,1,1,0,1,0,0,1,1,0,0,1,1,1,1,1],.blk 1,.code [1,1,1,1,1,0,1,0,0,1,1,1],stp [1,2,3,4,12,13,14,36,37,38] J,.blk 0,.code [1,1,1,1,1,1]] (SSq k ⟨tm,tv,tu⟩ a b e q f u vs x y has hb ha nb na out N i)=
 (PureW PP 20 [L (nb [KA.s x]) 2 Iv.d,I f,I u] [L (nb [KA.s x]) 2 Iv.d,I f,I u] (L (jn (nb [KA.s x]) f u) 2 Iv.d)/\
 PureW PP 20 [L (na [KA.s y]) 2 Iv.d,I f,I u] [L (na [KA.s y]) 2 Iv.d,I f,I u] (L (jn (na [KA.s y]) f u) 2 Iv.d)/\
  PureW PP 91 [L (jn (nb [KA.s x]) f u) 2 Iv.d,L (jn (na [KA.s y]) f u) 2 Iv.d] [L (jn (nb [KA.s x]) f u) 2 Iv.d,L (jn (na [KA.s y]) f u) 2 Iv.d] (L (cmR 1 (jn (nb [KA.s x]) f u) (jn (na [KA.s y]) f u)) 2 Iv.d)/\PureW PP 92 [L (cmR 1 (jn (nb [KA.s x]) f u) (jn (na [KA.s y]) f u)) 2 Iv.d,I f,I u] [L (cmR 1 (jn (nb [KA.s x]) f u) (jn (na [KA.s y]) f u)) 2 Iv.d,I f,I u] (L (qcd (cmR 1 (jn (nb [KA.s x]) f u) (jn (na [KA.s y]) f u)) f u) 2 Iv.d)/\(upd (fun _=>none) 0 (some out.length) 0=some out.length/\(out.length+(qcd (cmR 1 (jn (nb [KA.s x]) f u) (jn (na [KA.s y]) f u)) f u).length)*16<=q7)/\J {sl:=[(1,L a 3 Sp.d),(2,L b 3 Sp.d),(3,I e),(4,.own [I k,I tm,.str tv,B tu,D.mp 0]),(12,D.mp 1),(13,D.mp 2),(14,.list (out.length+(qcd (cmR 1 (jn (nb [KA.s x]) f u) (jn (na [KA.s y]) f u)) f u).length) 2 (zo out.length (fun i=>(out.getD i default).d) fun i=>((qcd (cmR 1 (jn (nb [KA.s x]) f u) (jn (na [KA.s y]) f u)) f u).getD i default).d) (.tok 0 2)),(36,L q 3 Rw.d),(37,I (↑q.length:Int)),(38,I (qg .i64 i 1))],h:={box:=qgj k ⟨tm,tv,tu⟩ has hb ha nb na,nl:=3,hw:=upd (upd (fun _=>none) 0 (some out.length)) 0 (some (out.length+(qcd (cmR 1 (jn (nb [KA.s x]) f u) (jn (na [KA.s y]) f u)) f u).length)),nt:=N+1,vw:=fun _=>none:Heap}:St}):=by kernel_rfl
def qu4(k:Int)(t:Tol)(has hb ha:ju->Bool)(nb na:ju->List Iv)(N:Nat):Heap:=⟨upd (upd (upd (fun _=>none) 0 (some (.map .ss has (.b (smF k t has))))) 1 (some (.map .str hb (.d (.list 0 0 (fun x=> .junk) .full) fun x=>L (nb x) 2 Iv.d)))) 2 (some (.map .str ha (.d (.list 0 0 (fun x=> .junk) .full) fun x=>L (na x) 2 Iv.d))),3,fun _=>none,N+1,fun _=>none⟩
noncomputable def qu5(out:List Iv):List Nat->Nat->Option Ans:=qf [([1,1,1,1,1,1,0],1,Ans.pure [L out 2 Iv.d] (L (vr out) 2 Iv.d))]
theorem q37(k:Int)(t:Tol)(has hb ha:ju->Bool)(nb na:ju->List Iv)(out:List Iv)(N:Nat)(K:D->Heap->Prop):qn (En Tryz.f55) (fh Tryz.f55 K) (qu5 out) p8 200 [.code [1,1,1,1,1,1]] ⟨[(14,L out 2 Iv.d)],qu4 k t has hb ha nb na N⟩ =
 (PureW PP 58 [L out 2 Iv.d] [L out 2 Iv.d] (L (vr out) 2 Iv.d)/\K (.tup [L (vr out) 2 Iv.d,I 0]) {box:=upd (upd (upd (fun _=>none) 0 (some (Row.map KK.ss has (MV.b (smF k t has))))) 1 (some (Row.map KK.str hb (MV.d (.list 0 0 (fun _=>D.junk) .full) fun x=>L (nb x) 2 Iv.d)))) 2 (some (Row.map KK.str ha (MV.d (.list 0 0 (fun _=>D.junk) .full) fun x=>L (na x) 2 Iv.d))),nl:=3,hw:=fun _=>none,nt:=N+1,vw:=fun _=>none:Heap}):=by kernel_rfl
theorem ql7{nb:ju->List Iv}{k:ju}{l:List Iv}:ke (fun x=>L (nb x) 2 Iv.d) k (L l 2 Iv.d)=fun x=>L (ke nb k l x) 2 Iv.d:=by
 funext x
 unfold ke
 cases decide (x=k) <;> rfl
end Go.Proofs.YtiekphbkomddfaaGreatDoor.S1
namespace Go.Proofs.YtiekphbkomddfaaGreatDoor.S1
open Go Go.Ab Go.Proofs
theorem qdi(t:Int)(p:Nat):adv [] t p=p:=by unfold adv;simp
theorem o7(x:Sp)(r:List Sp)(t:Int):adv (x::r) t 0=if x.to<t then adv r t 0+1 else 0:=by
 unfold adv
 simp only[List.drop_zero,Nat.zero_add,List.takeWhile_cons]
 by_cases h:x.to<t
 ·rw[decide_eq_true h,if_pos h];simp
 ·rw[decide_eq_false h,if_neg h];rfl
theorem qk4(x:Sp)(r:List Sp)(t:Int)(p:Nat):adv (x::r) t (p+1)=adv r t p+1:=by
 unfold adv
 simp only[List.drop_succ_cons]
 omega
theorem qdj{t t':Int}(h:t<=t'):∀l:List Sp,adv l t' (adv l t 0)=adv l t' 0
 | []=>by rw[qdi,qdi,qdi]
 |x::r=>by
  rw[o7 x r t]
  by_cases hx:x.to<t
  ·rw[if_pos hx,qk4,o7,if_pos (by omega),qdj h r]
  ·rw[if_neg hx]
theorem qdk:∀{l:List Sp} {f:Int} {p:Option Str},Vl f p l->∀t,l≠[]->t<=(jl l).to ->
  t<=(l.getD (adv l t 0) default).to/\(l.getD (adv l t 0) default).to<=(jl l).to/\∀u,t<=u->u<=(l.getD (adv l t 0) default).to->atL l u=(l.getD (adv l t 0) default).val
 | [],_,_,_,_,h,_=>absurd rfl h
 |x::r,f,p,⟨h1,h2,h3,h4,h5,h6⟩,t,_,ht=>by
  rw[o7]
  by_cases hx:x.to<t
  ·rw[if_pos hx]
   have hr:r≠[]:=by
    intro e;subst e
    have:t<=x.to:=ht
    omega
   rw[pl x hr]at ht⊢
   obtain⟨g1,g2,g3⟩:=qdk h6 t hr ht
   have e:∀n,(x::r).getD (n+1) default=r.getD n default:=fun n=>by simp[List.getD]
   rw[e]
   refine⟨g1,g2,fun u hu hu2=> ?_⟩
   simp only[atL]
   rw[if_neg (by omega)]
   exact g3 u hu hu2
  ·rw[if_neg hx]
   have e:(x::r).getD 0 default=x:=rfl
   rw[e]
   refine⟨by omega,?_,fun u hu hu2=> ?_⟩
   ·cases r with
    |nil=>exact Int.le_refl _
    |cons y s=>rw[fx];have:=Vl.last h6 (by simp);omega
   ·simp only[atL]
    rw[if_pos hu2]
def RwOk(A B:Int->Str)(T:Int):Int->List Rw->Prop
 |f,[]=>f=T+1
 |f,r::rs=>r.frm=f/\f<=r.to/\r.to<=T/\(∀u,f<=u->u<=r.to->r.vals=[A u,B u])/\RwOk A B T (r.to+1) rs
theorem ql8{a b:List Sp}{T fa fb:Int}(ha:Vl fa none a)(hb:Vl fb none b)(na:a≠[])(nb:b≠[])(ta:(jl a).to=T)(tb:(jl b).to=T) :
  ∀(n:Nat) (frm:Int) (p q:Nat),0<=frm->frm<=T+1->(T+1-frm).toNat<=n->adv a frm p=adv a frm 0->adv b frm q=adv b frm 0->RwOk (atL a) (atL b) T frm (qgi a b T n frm p q)
 |0,frm,p,q,h0,h1,hn,_,_=>by
  show frm=T+1
  omega
 |n+1,frm,p,q,h0,h1,hn,hp,hq=>by
  simp only[qgi]
  by_cases hle:frm<=T
  ·rw[if_pos hle,hp,hq]
   obtain⟨a1,a2,a3⟩:=qdk ha frm na (by rw[ta];exact hle)
   obtain⟨b1,b2,b3⟩:=qdk hb frm nb (by rw[tb];exact hle)
   rw[ta]at a2
   rw[tb]at b2
   have hT:=(ha.last na).2
   rw[ta]at hT
   have hpa:=fun(t':Int) (h:frm<=t')=>qdj h a
   have hpb:=fun(t':Int) (h:frm<=t')=>qdj h b
   generalize adv a frm 0=p' at *
   generalize adv b frm 0=q' at *
   generalize hm:mnI (b.getD q' default).to (mnI (a.getD p' default).to T)=m
   have hm1:frm<=m/\m<=T/\m<=(a.getD p' default).to/\m<=(b.getD q' default).to:=by
    rw[<-hm]
    unfold mnI
    (repeat' split) <;> omega
   obtain⟨m1,m2,m3,m4⟩:=hm1
   rw[jk (a:=m) (b:=1) (by omega) (by omega)]
   exact⟨rfl,m1,m2,fun u h1 h2=>by rw[a3 u h1 (by have h2:u<=m:=h2;omega),b3 u h1 (by have h2:u<=m:=h2;omega)],ql8 ha hb na nb ta tb n (m+1) p' q' (by omega) (by omega) (by omega) (hpa _ (by omega)) (hpb _ (by omega))⟩
  ·rw[if_neg hle]
   show frm=T+1
   omega
theorem qij{a b:List Sp}{f T:Int}(ha:Vl f none a)(hb:Vl f none b)(na:a≠[])(nb:b≠[])(ta:(jl a).to=T)(tb:(jl b).to=T)(h0:0<=f)(hle:f<=T) :
  qhq a b/\RwOk (atL a) (atL b) T f (rk a b):=by
 refine⟨⟨ha.valid na,hb.valid nb,by rw[ha.head na,hb.head nb],by rw[ta,tb]⟩,?_⟩
 unfold rk
 rw[ta,ha.head na]
 exact ql8 ha hb na nb ta tb _ f 0 0 h0 (by omega) (Nat.le_refl _) rfl rfl
theorem RwOk.any{A B:Int->Str}{T:Int}(g:Rw->List Iv)(v:Int->Bool):∀{rs:List Rw} {f:Int},RwOk A B T f rs->f<=T+1->(∀r∈rs,f<=r.frm->r.frm<=r.to->r.to<=T->(∀u,r.frm<=u->u<=r.to->r.vals=[A u,B u])->∀s,(g r).any (inP s)=(decide (r.frm<=s/\s<=r.to)&&v s))->
  ∀s,(rs.flatMap g).any (inP s)=(decide (f<=s/\s<=T)&&v s)
 | [],f,h,_,_,s=>by
  have h:f=T+1:=h
  rw[decide_eq_false (by omega)];rfl
 |r::rs,f,⟨h1,h2,h3,h4,h5⟩,hf,hg,s=>by
  rw[List.flatMap_cons,List.any_append,hg r (List.mem_cons_self ..) (by omega) (by omega) h3 (by rw[h1];exact h4) s,
   RwOk.any g v h5 (by omega) (fun r' hr' a1 a2 a3 a4=>hg r' (List.mem_cons_of_mem _ hr') (by omega) a2 a3 a4) s,h1]
  by_cases c1:f<=s/\s<=r.to
  ·rw[decide_eq_true c1,decide_eq_false (by omega),decide_eq_true (show f<=s/\s<=T by omega)]
   simp
  ·rw[decide_eq_false c1,Bool.false_and,Bool.false_or]
   congr 1
   rw[decide_eq_decide];omega
theorem RwOk.len{A B:Int->Str}{T:Int}:∀{rs:List Rw} {f:Int},RwOk A B T f rs->f<=T+1->(rs.length:Int)<=T+1-f
 | [],f,_,_=>by simp;omega
 |r::rs,f,⟨_,h2,h3,_,h5⟩,_=>by
  have:=RwOk.len h5 (by omega)
  simp only[List.length_cons];omega
theorem qik(k:Int)(t:Tol)(v:Str):∀{l:List Sp} {f:Int} {p:Option Str},Vl f p l->l≠[]->∀u,(nrS k t v l).any (inP u)=(decide (f<=u/\u<=(jl l).to)&&saF k t v (atL l u))
 | [],_,_,_,h,_=>absurd rfl h
 |x::r,f,p,⟨h1,h2,h3,h4,h5,h6⟩,_,u=>by
  have e:(nrS k t v (x::r)).any (inP u)=((decide (f<=u/\u<=x.to)&&saF k t v x.val) || (nrS k t v r).any (inP u)):=by
   unfold nrS
   rw[List.filter_cons]
   by_cases hs:saF k t v x.val=true
   ·rw[if_pos hs,List.map_cons,List.any_cons,hs,Bool.and_true]
    congr 1
    by_cases hc:f<=u/\u<=x.to
    ·rw[decide_eq_true hc];exact je.2 ⟨by show x.frm<=u;omega,hc.2⟩
    ·rw[decide_eq_false hc];exact uq.2 (by show ¬(x.frm<=u/\u<=x.to);omega)
   ·rw[if_neg hs]
    simp only[Bool.not_eq_true]at hs
    rw[hs,Bool.and_false,Bool.false_or]
  rw[e]
  simp only[atL]
  cases hr:r with
  |nil =>
   show(_ || false)=(decide (f<=u/\u<=x.to)&&_)
   rw[Bool.or_false]
   by_cases hc:f<=u/\u<=x.to
   ·rw[if_pos hc.2]
   ·rw[decide_eq_false hc,Bool.false_and,Bool.false_and]
  |cons y q =>
   rw[<-hr]
   have hne:r≠[]:=by rw[hr];simp
   rw[qik k t v h6 hne u,pl x hne]
   have hl:=Vl.last h6 hne
   by_cases hc:f<=u/\u<=x.to
   ·rw[decide_eq_true hc,if_pos hc.2,decide_eq_false (show ¬(x.to+1<=u/\u<=(jl r).to) by omega),decide_eq_true (show f<=u/\u<=(jl r).to by omega)]
    simp
   ·rw[decide_eq_false hc,Bool.false_and,Bool.false_or]
    by_cases hu:u<=x.to
    ·rw[decide_eq_false (show ¬(x.to+1<=u/\u<=(jl r).to) by omega),decide_eq_false (show ¬(f<=u/\u<=(jl r).to) by omega),Bool.false_and,Bool.false_and]
    ·rw[if_neg hu]
     congr 1
     rw[decide_eq_decide];omega
theorem qex(l:List Iv){a b:Int}(f t:Int)(ha : -1099511627776<=a)(hab:a<=b)(hb:b<=1099511627776) :
  Nor 0 (yp l a b f t)/\∀s,(yp l a b f t).any (inP s)=true↔(loT f<=s/\s<=hiT t)/\∃u,inI l u=true/\s+a<=u/\u<=s+b:=by
 have hd:qk2 a b=true:=by
  unfold qk2
  rw[decide_eq_true (show a>= -1099511627776 by omega),decide_eq_true hb,decide_eq_true hab];rfl
 obtain⟨n1,n2⟩:=xe l
 unfold yp mvI
 rw[hd,show(!true)=false from rfl,cond_false]
 obtain⟨c1,c2⟩:=gf ((vr l).map (mvF (qj .i64 0 b) (qj .i64 0 a))) f t
 refine⟨c1,fun s=> ?_⟩
 rw[c2,Bool.and_eq_true,decide_eq_true_eq,and_comm]
 refine and_congr_right fun hs=> ?_
 have hbd:=n1.bds
 rw[List.any_map,List.any_eq_true]
 have hmv:∀x∈vr l,(inP s∘mvF (qj .i64 0 b) (qj .i64 0 a)) x=true↔x.frm-b<=s/\s<=x.to-a:=fun x hx=>by
  obtain⟨b1,b2,b3⟩:=hbd x hx
  show inP s ⟨qg .i64 x.frm (qj .i64 0 b),qg .i64 x.to (qj .i64 0 a)⟩=true↔_
  rw[jy (a:=0) (b:=b) (by omega) (by omega),jy (a:=0) (b:=a) (by omega) (by omega),jk (by omega) (by omega),jk (by omega) (by omega),je]
  show x.frm+(0-b)<=s/\s<=x.to+(0-a)↔_
  omega
 constructor
 ·rintro⟨x,hx,h⟩
  have h:=(hmv x hx).1 h
  obtain⟨b1,b2,b3⟩:=hbd x hx
  refine⟨max x.frm (s+a),?_,by omega,by omega⟩
  rw[<-n2,List.any_eq_true]
  exact⟨x,hx,je.2 ⟨by omega,by omega⟩⟩
 ·rintro⟨u,hu,h1,h2⟩
  rw[<-n2,List.any_eq_true]at hu
  obtain⟨x,hx,h⟩:=hu
  have h:=je.1 h
  exact⟨x,hx,(hmv x hx).2 (by omega)⟩
def co(k:Int)(t:Tol)(B:Int->Str)(v:Str)(e s:Int):Prop:=∃u,0<=u/\u<=e/\s-t.time<=u/\u<=s+t.time/\saF k t v (B u)=true
theorem qey(k:Int)(t:Tol){l:List Sp}{v:Str}{e:Int}(hl:Vl 0 none l)(hn:l≠[])(he:(jl l).to=e)(h0:0<=t.time)(h1:t.time<=1099511627776)(hE:0<=e/\e<=1099511627776)(s:Int) :
  (j3 k t l v e).any (inP s)=true↔(0<=s/\s<=e)/\co k t (atL l) v e s:=by
 unfold j3 co
 rw[jy (a:=0) (by omega) (by omega),(qex _ 0 e (by omega) (by omega) h1).2,qt1,show hiT e=e by unfold hiT;split <;> omega]
 refine and_congr_right fun hs=> ?_
 have hi:∀u,inI (nrS k t v l) u=true↔0<=u/\u<=e/\saF k t v (atL l u)=true:=fun u=>by
  by_cases hu:0<=u/\u<=1099511627776
  ·rw[zb hu,qik k t v hl hn u,Bool.and_eq_true,decide_eq_true_eq,he,and_assoc]
  ·rw[uh hu]
   constructor
   ·intro h;cases h
   ·intro h;omega
 constructor
 ·rintro⟨u,h2,h3,h4⟩
  obtain⟨h5,h6,h7⟩:=(hi u).1 h2
  exact⟨u,h5,h6,by omega,h4,h7⟩
 ·rintro⟨u,h2,h3,h4,h5,h6⟩
  exact⟨u,(hi u).2 ⟨h2,h3,h6⟩,by omega,h5⟩
theorem qez{l:List Iv}{f t:Int}(h0:0<=f)(ht:t<=1099511627776)(s:Int):(qcd l f t).any (inP s)=(decide (f<=s/\s<=t) && !inI l s):=by
 unfold qcd
 rw[(gh 2 _ _).2]
 have e:∀x y,okR 2 x y=(x && !y):=fun x y=>by cases x <;> cases y <;> rfl
 rw[e]
 by_cases hs:0<=s/\s<=1099511627776
 ·rw[decide_eq_true hs,Bool.true_and,zb hs (l:=[⟨f,t⟩])]
  congr 1
  rw[List.any_cons,List.any_nil,Bool.or_false]
  by_cases hc:f<=s/\s<=t
  ·rw[decide_eq_true hc];exact je.2 hc
  ·rw[decide_eq_false hc];exact uq.2 hc
 ·rw[decide_eq_false hs,decide_eq_false (show ¬(f<=s/\s<=t) by omega)];rfl
def sj(k:Int)(t:Tol)(a b:List Sp)(e:Int)(r:Rw):List Iv :=
 if saF k t (r.vals.getD 0 default) (r.vals.getD 1 default)=true then[] else
  qcd (cmR 1 (jn (j3 k t b (r.vals.getD 0 default) e) r.frm r.to) (jn (j3 k t a (r.vals.getD 1 default) e) r.frm r.to)) r.frm r.to
def spI(k:Int)(t:Tol)(a b:List Sp)(e:Int):List Iv:=vr ((rk a b).flatMap (sj k t a b e))
theorem qnn{k:Int}{t:Tol}{a b:List Sp}{e:Int}(ha:Vl 0 none a)(hb:Vl 0 none b)(na:a≠[])(nb:b≠[])(ta:(jl a).to=e)(tb:(jl b).to=e)(h0:0<=t.time)(h1:t.time<=1099511627776)(hE:0<=e) :
  Nor 0 (spI k t a b e)/\∀s,(spI k t a b e).any (inP s)=true↔(0<=s/\s<=e)/\saF k t (atL a s) (atL b s)=false/\¬(co k t (atL b) (atL a s) e s/\co k t (atL a) (atL b s) e s):=by
 obtain⟨n1,n2⟩:=xe ((rk a b).flatMap (sj k t a b e))
 have hT:=(ha.last na).2
 rw[ta]at hT
 refine⟨n1,fun s=> ?_⟩
 unfold spI
 rw[n2]
 obtain⟨_,hr⟩:=qij ha hb na nb ta tb (Int.le_refl 0) hE
 have hv:∀s,((rk a b).flatMap (sj k t a b e)).any (inP s)=(decide (0<=s/\s<=e)&&(!saF k t (atL a s) (atL b s) && !((j3 k t b (atL a s) e).any (inP s)&&(j3 k t a (atL b s) e).any (inP s)))):=by
  refine hr.any (sj k t a b e) (fun s=> !saF k t (atL a s) (atL b s) && !((j3 k t b (atL a s) e).any (inP s)&&(j3 k t a (atL b s) e).any (inP s))) (by omega) fun r _ r1 r2 r3 r4 s=> ?_
  by_cases hs:r.frm<=s/\s<=r.to
  ·have hv:=r4 s hs.1 hs.2
   unfold sj
   rw[hv,show[atL a s,atL b s].getD 0 default=atL a s from rfl,show[atL a s,atL b s].getD 1 default=atL b s from rfl,decide_eq_true hs,Bool.true_and]
   by_cases hq:saF k t (atL a s) (atL b s)=true
   ·rw[if_pos hq,hq];rfl
   ·rw[if_neg hq]
    simp only[Bool.not_eq_true]at hq
    rw[hq,qez (by omega) (by omega),decide_eq_true hs,Bool.true_and,zb (show 0<=s/\s<=1099511627776 by omega),(gh 1 _ _).2,decide_eq_true (show 0<=s/\s<=1099511627776 by omega),Bool.true_and,zb (show 0<=s/\s<=1099511627776 by omega),zb (show 0<=s/\s<=1099511627776 by omega),(gf _ _ _).2,(gf _ _ _).2]
    have hlo:loT r.frm<=s/\s<=hiT r.to:=by
     unfold loT hiT
     constructor <;> split <;> omega
    rw[decide_eq_true hlo,Bool.and_true,Bool.and_true]
    have eo:∀x y,okR 1 x y=(x&&y):=fun x y=>by cases x <;> cases y <;> rfl
    rw[eo]
    rfl
  ·rw[decide_eq_false hs,Bool.false_and]
   unfold sj
   split
   ·rfl
   ·rw[qez (by omega) (by omega),decide_eq_false hs,Bool.false_and]
 by_cases hs:0<=s/\s<=1099511627776
 ·rw[zb hs,hv s,Bool.and_eq_true,Bool.and_eq_true,decide_eq_true_eq]
  refine and_congr_right fun hse=>and_congr (by simp) ?_
  rw[Bool.not_eq_true',<-Bool.not_eq_true,Bool.and_eq_true,qey k t hb nb tb h0 h1 ⟨hE,hT⟩,qey k t ha na ta h0 h1 ⟨hE,hT⟩]
  simp only[hse,true_and,and_self]
 ·rw[uh hs]
  constructor
  ·intro h;cases h
  ·intro h;omega

end Go.Proofs.YtiekphbkomddfaaGreatDoor.S1
namespace Go.Proofs.YtiekphbkomddfaaGreatDoor.S1
open Go Go.Ab Go.Proofs
attribute [local instance] qda
theorem rz(k:Int)(t:Tol)(l:List Sp)(v:Str)(e:Int):(j3 k t l v e).length<=l.length:=by
 have h0:=qdh k t v l
 unfold j3 yp mvI
 cases qk2 (qj .i64 0 t.time) t.time
 ·exact Nat.zero_le _
 ·have h1:=ui ((vr (nrS k t v l)).map (mvF (qj .i64 0 t.time) (qj .i64 0 (qj .i64 0 t.time)))) 0 e
  have h2:=gi (nrS k t v l)
  rw[List.length_map]at h1
  show(jn _ 0 e).length<=_
  omega
theorem cp(n:Int)(a b:List Iv):(cmR n a b).length<=2+2*(a.length+b.length):=by
 have h1:=qeg a b n (xu a b) []
 have h2:=(qbp a b).2
 unfold cmR
 rw[List.length_append]at h2
 simp only[List.length_nil]at h1
 omega
theorem qk5(k:Int)(t:Tol)(a b:List Sp)(e:Int)(r:Rw)(ha:a.length<=100)(hb:b.length<=100):(sj k t a b e r).length<=808:=by
 unfold sj
 split
 ·exact Nat.zero_le _
 ·unfold qcd
  refine Nat.le_trans (cp _ _ _) ?_
  have h1:=cp 1 (jn (j3 k t b (r.vals.getD 0 default) e) r.frm r.to) (jn (j3 k t a (r.vals.getD 1 default) e) r.frm r.to)
  have h2:=ui (j3 k t b (r.vals.getD 0 default) e) r.frm r.to
  have h3:=ui (j3 k t a (r.vals.getD 1 default) e) r.frm r.to
  have h4:=rz k t b (r.vals.getD 0 default) e
  have h5:=rz k t a (r.vals.getD 1 default) e
  simp only[List.length_singleton]
  omega
theorem qb0(a b:List Sp)(T:Int):∀(n:Nat) (f:Int) (p q:Nat),∀r∈qgi a b T n f p q,r.vals.length=2
 |0,_,_,_,_,h=>by cases h
 |n+1,f,p,q,r,h=>by
  rw[qgi]at h
  split at h
  ·rcases List.mem_cons.1 h with rfl|h
   ·rfl
   ·exact qb0 a b T n _ _ _ r h
  ·cases h
abbrev spT(J:St->Prop):List It:=[.blk 1,.code [1,1,1,1,1,0,1,0,0,1,1,1],stp [1,2,3,4,12,13,14,36,37,38] J,.blk 0,.code [1,1,1,1,1,1]]
section
variable {k:Int} {t:Tol} {a b:List Sp} {e:Int} {q:List Rw} {f u:Int} {vs:List Str} {x y:Str} {has hb ha:ju->Bool} {nb na:ju->List Iv} {out:List Iv} {N i:Nat} {J:St->Prop} {K:D->Heap->Prop}
theorem ql9(hx:nb [.s x]=j3 k t b x e)(hy:na [.s y]=j3 k t a y e)(la:a.length<=100)(lb:b.length<=100)(lo:out.length<=100000)(hi:i<q.length)(hq:q.length<=q8)
  (hJ:∀st,StLe (En Tryz.f55).nt st (SSp k t a b e q has hb ha nb na (out++qcd (cmR 1 (jn (j3 k t b x e) f u) (jn (j3 k t a y e) f u)) f u) N ((i+1:Nat):Int))->J st) :
  At (En Tryz.f55) (fh Tryz.f55 K) (.code [1,1,1,1,1,0,1,0,0,1,1,0,0,1,1,1,1,1]::spT J) (SSq k t a b e q f u vs x y has hb ha nb na out N i):=by
 obtain⟨tm,tv,tu⟩:=t
 have h4:=rz k ⟨tm,tv,tu⟩ b x e
 have h5:=rz k ⟨tm,tv,tu⟩ a y e
 have h2:=ui (j3 k ⟨tm,tv,tu⟩ b x e) f u
 have h3:=ui (j3 k ⟨tm,tv,tu⟩ a y e) f u
 have h6:=cp 1 (jn (j3 k ⟨tm,tv,tu⟩ b x e) f u) (jn (j3 k ⟨tm,tv,tu⟩ a y e) f u)
 have h7:=cp 2 [⟨f,u⟩] (cmR 1 (jn (j3 k ⟨tm,tv,tu⟩ b x e) f u) (jn (j3 k ⟨tm,tv,tu⟩ a y e) f u))
 simp only[List.length_singleton]at h7
 rw[<-hx]at hJ h2 h4 h6 h7
 rw[<-hy]at hJ h3 h5 h6 h7
 refine qe jv _ _ _ (of_eq (q36 k tm tv tu a b e q f u vs x y has hb ha nb na out N i J K) ⟨PureW.mk (c20 _ f u (by omega)),PureW.mk (c20 _ f u (by omega)),PureW.mk (c91 _ _ (by omega) (by omega)),PureW.mk (c92 _ f u (by omega)),⟨qb _ _ _,?_⟩,hJ _ ?_⟩)
 ·unfold qcd q7;omega
 ·rw[bi hi hq,q6]
  generalize qcd _ f u=l
  unfold SSp hSp
  rw[List.length_append]
  exact(StLe.set 14 rfl (Wk.app (a:=out) (b:=l) (enc:=Iv.d) rfl rfl (fun _ _=>rfl) (.inr rfl)) rfl rfl).cast (by kernel_rfl)
theorem up0{n:Nat}{N:Nat}:upd (upd (fun _=>(none:Option Nat)) 0 (some n)) (N+1) none=upd (fun _=>none) 0 (some n):=by
 funext l
 unfold upd
 cases hb:Nat.beq l (N+1)
 ·rfl
 ·have:=Nat.eq_of_beq_eq_true hb
  subst this;rfl
theorem up1{α:Type}{N:Nat}:upd (fun _=>(none:Option α)) N none=fun _=>none:=by
 funext l
 unfold upd
 cases Nat.beq l N <;> rfl
theorem q38{has':ju->Bool}{l:List Iv}{n:Nat}:(⟨upd (upd (qgj k t has hb ha nb na) 0 (some (.map .ss has' (.b (smF k t has'))))) 2 (some (.map .str (ke ha [.s y] true) (.d (.list 0 0 (fun _=> .junk) .full) (ke (fun x=>L (na x) 2 Iv.d) [.s y] (L l 2 Iv.d))))),3,upd (upd (fun _=>none) 0 (some n)) (N+1) none,N+1+1,upd (fun _=>none) (N+1) none⟩:Heap)=hSp k t has' hb (ke ha [.s y] true) nb (ke na [.s y] l) n (N+1):=by
 rw[ql7,up0,up1]
 have:upd (upd (qgj k t has hb ha nb na) 0 (some (.map .ss has' (.b (smF k t has'))))) 2 (some (.map .str (ke ha [.s y] true) (.d (.list 0 0 (fun _=> .junk) .full) fun x=>L (ke na [.s y] l x) 2 Iv.d)))=qgj k t has' hb (ke ha [.s y] true) nb (ke na [.s y] l):=by
  funext l
  rcases l with _|_|_|l <;> rfl
 rw[this];rfl
theorem q39{has':ju->Bool}{n:Nat}:(⟨upd (qgj k t has hb ha nb na) 0 (some (.map .ss has' (.b (smF k t has')))),3,upd (fun _=>none) 0 (some n),N+1+0,fun _=>none⟩:Heap)=hSp k t has' hb ha nb na n N :=
 pj (fun l=>by rcases l with _|_|_|l <;> rfl) rfl rfl
theorem q4a{has':ju->Bool}{l:List Iv}{n:Nat}:(⟨upd (upd (qgj k t has hb ha nb na) 0 (some (.map .ss has' (.b (smF k t has'))))) 1 (some (.map .str (ke hb [.s x] true) (.d (.list 0 0 (fun _=> .junk) .full) (ke (fun x=>L (nb x) 2 Iv.d) [.s x] (L l 2 Iv.d))))),3,upd (upd (fun _=>none) 0 (some n)) (N+1) none,N+1+1,upd (fun _=>none) (N+1) none⟩:Heap)=hSp k t has' (ke hb [.s x] true) ha (ke nb [.s x] l) na n (N+1):=by
 rw[ql7,up0,up1]
 have:upd (upd (qgj k t has hb ha nb na) 0 (some (.map .ss has' (.b (smF k t has'))))) 1 (some (.map .str (ke hb [.s x] true) (.d (.list 0 0 (fun _=> .junk) .full) fun y=>L (ke nb [.s x] l y) 2 Iv.d)))=qgj k t has' (ke hb [.s x] true) ha (ke nb [.s x] l) na:=by
  funext l
  rcases l with _|_|_|l <;> rfl
 rw[this];rfl
theorem qil{F:Str->List Iv}(h:∀v,hb [.s v]=true->nb [.s v]=F v):∀v,ke hb [.s x] true [.s v]=true->ke nb [.s x] (F x) [.s v]=F v:=fun v hv=>by
 unfold ke at hv⊢
 by_cases hx:v=x
 ·subst hx;rw[decide_eq_true rfl];rfl
 ·have:decide (([.s v]:ju)=[.s x])=false:=decide_eq_false fun e=>hx (by cases e;rfl)
  rw[this]at hv⊢
  exact h v hv
theorem qma[qga](hx:nb [.s x]=j3 k t b x e)(hA:∀v,ha [.s v]=true->na [.s v]=j3 k t a v e)(la:a.length<=100)(lb:b.length<=100)(lo:out.length<=100000)(hi:i<q.length)(hq:q.length<=q8)
  (hJ:∀st has' ha' na' N',N'<=N+1->(∀v,ha' [.s v]=true->na' [.s v]=j3 k t a v e)->StLe (En Tryz.f55).nt st (SSp k t a b e q has' hb ha' nb na' (out++qcd (cmR 1 (jn (j3 k t b x e) f u) (jn (j3 k t a y e) f u)) f u) N' ((i+1:Nat):Int))->J st) :
  At (En Tryz.f55) (fh Tryz.f55 K) (.code [1,1,1,1,1,0,1,0,0,1,1,0,0,1,1,1,1]::spT J) (SSq k t a b e q f u vs x y has hb ha nb na out N i):=by
 obtain⟨tm,tv,tu⟩:=t
 refine qe jv _ _ _ (of_eq (q35 k tm tv tu a b e q f u vs x y has hb ha nb na out N i J K) (qa (fun h=>⟨fr (qp6 k tm tv tu a y e has (by omega)) [0] [],trivial,?_⟩) fun h=> ?_))
 ·have hA':=qil (x:=y) hA
  exact jc (ql9 (vs:=vs) (has:=iu y a has) (N:=N+1) hx (hA' y (by unfold ke;rw[decide_eq_true rfl];rfl)) la lb lo hi hq fun st hs=>hJ st _ _ _ _ (Nat.le_refl _) hA' hs) ((StLe.heap q38).cast (by kernel_rfl))
 ·exact ql9 hx (hA y (by simpa using h)) la lb lo hi hq fun st hs=>hJ st _ _ _ _ (by omega) hA hs
theorem qp7[qga]{r:Rw}(hB:∀v,hb [.s v]=true->nb [.s v]=j3 k t b v e)(hA:∀v,ha [.s v]=true->na [.s v]=j3 k t a v e)(la:a.length<=100)(lb:b.length<=100)(lo:out.length<=100000)(hi:i<q.length)(hq:q.length<=q8)
  (hJ:∀st has' hb' ha' nb' na' N',N'<=N+2->(∀v,hb' [.s v]=true->nb' [.s v]=j3 k t b v e)->(∀v,ha' [.s v]=true->na' [.s v]=j3 k t a v e)->StLe (En Tryz.f55).nt st (SSp k t a b e q has' hb' ha' nb' na' (out++sj k t a b e r) N' ((i+1:Nat):Int))->J st) :
  At (En Tryz.f55) (fh Tryz.f55 K) (.code [1,1,1,1,1,0,1,0,0,1,1,0,0,1,1,0,1]::.code [1,1,1,1,1,0,1,0,0,1,1,0,0,1,1,1]::spT J) (SSr k t a b e q r.frm r.to r.vals (r.vals.getD 0 default) (r.vals.getD 1 default) has hb ha nb na out N i (saF k t (r.vals.getD 0 default) (r.vals.getD 1 default))):=by
 obtain⟨tm,tv,tu⟩:=t
 refine qe jv _ _ _ (of_eq (q34 k tm tv tu a b e q r.frm r.to r.vals (r.vals.getD 0 default) (r.vals.getD 1 default) has hb ha nb na out N i _ J K) (qa (fun h=> ?_) fun h=> ?_))
 ·have hd:sj k ⟨tm,tv,tu⟩ a b e r=[]:=by unfold sj;rw[if_pos h]
  refine hJ _ has hb ha nb na N (by omega) hB hA ?_
  rw[hd,List.append_nil,bi hi hq]
  exact(StLe.refl _ _).cast (by kernel_rfl)
 ·have hd:sj k ⟨tm,tv,tu⟩ a b e r=qcd (cmR 1 (jn (j3 k ⟨tm,tv,tu⟩ b (r.vals.getD 0 default) e) r.frm r.to) (jn (j3 k ⟨tm,tv,tu⟩ a (r.vals.getD 1 default) e) r.frm r.to)) r.frm r.to:=by
   unfold sj
   rw[if_neg (by rw[h];simp)]
  refine qa (fun h1=>⟨fr (qp6 k tm tv tu b _ e has (by omega)) [0] [],trivial,?_⟩) fun h1=> ?_
  ·have hB':=qil (x:=r.vals.getD 0 default) hB
   exact jc (qma (vs:=r.vals) (has:=iu (r.vals.getD 0 default) b has) (N:=N+1) (hB' _ (by unfold ke;rw[decide_eq_true rfl];rfl)) hA la lb lo hi hq fun st _ _ _ N' hN hA' hs=>hJ st _ _ _ _ _ N' (by omega) hB' hA' (by rw[hd];exact hs)) ((StLe.heap q4a).cast (by kernel_rfl))
  ·exact qma (vs:=r.vals) (hB _ (by simpa using h1)) hA la lb lo hi hq fun st _ _ _ N' hN hA' hs=>hJ st _ _ _ _ _ N' (by omega) hB hA' (by rw[hd];exact hs)
end
structure SpX where (i:Nat) (has hb ha:ju->Bool) (nb na:ju->List Iv) (N:Nat)
structure SpV(k:Int)(t:Tol)(a b:List Sp)(e:Int)(q:List Rw)(x:SpX):Prop where
 i:x.i<=q.length
 n:x.N<=2*x.i
 b:∀v,x.hb [.s v]=true->x.nb [.s v]=j3 k t b v e
 a:∀v,x.ha [.s v]=true->x.na [.s v]=j3 k t a v e
def o8:Heap:=⟨fun _=>none,1,fun _=>none,0,fun _=>none⟩
theorem o9(k:Int)(t:Tol)(a b:List Sp)(e:Int)(la:a.length<=100)(lb:b.length<=100):∀q:List Rw,(q.flatMap (sj k t a b e)).length<=808*q.length
 | []=>Nat.le_refl _
 |r::q=>by
  have h1:=o9 k t a b e la lb q
  have h2:=qk5 k t a b e r la lb
  rw[List.flatMap_cons,List.length_append,List.length_cons];omega
theorem e55[qga](k:Int)(t:Tol)(a b:List Sp)(e:Int)(has:ju->Bool)(hz:qhq a b)(la:a.length<=100)(lb:b.length<=100)(lq:(rk a b).length<=100) :
  Does PP 55 [.agg [I k,I t.time,.str t.val,B t.unk,.mp 0],L a 3 Sp.d,L b 3 Sp.d,I e] (hSm k t has) (.tup [L (spI k t a b e) 2 Iv.d,I 0]) o8:=by
 have c0:Does PP 55 [.agg [I k,I t.time,.str t.val,B t.unk,.mp 0],L a 3 Sp.d,L b 3 Sp.d,I e] (hSm k t has) (.tup [L (spI k t a b e) 2 Iv.d,I 0]) ⟨fun _=>none,3,fun _=>none,2*(rk a b).length+1,fun _=>none⟩:=by
  obtain⟨tm,tv,tu⟩:=t
  refine du F55 (by kernel_rfl) (of_eq (nSp k tm tv tu a b e has _) ⟨⟨Wks.cons (Wk.litL (enc:=LLd) (l:=[a,b]) rfl rfl) (Wks.refl _),c88 a b hz (by omega) (by omega)⟩,trivial,trivial,fun hlm=> ?_⟩)
  have hv:=qb0 a b (jl a).to ((jl a).to+1-(a.getD 0 default).frm).toNat (a.getD 0 default).frm 0 0
  have hv:∀r∈rk a b,r.vals.length=2:=hv
  unfold spI
  generalize rk a b=q at *
  refine jc (st':=SSp k ⟨tm,tv,tu⟩ a b e q has (fun _=>false) (fun _=>false) (fun _=>[]) (fun _=>[]) ((q.take 0).flatMap (sj k ⟨tm,tv,tu⟩ a b e)) 0 ((0:Nat):Int)) ?_ ((StLe.heapLe (h':=⟨qgj k ⟨tm,tv,tu⟩ has (fun _=>false) (fun _=>false) (fun _=>[]) (fun _=>[]),3,fun _=>none,0,fun _=>none⟩) ?_).trans ((StLe.idle _ none 14 2 (fun i=>Iv.d (([]:List Iv).getD i default)) rfl).cast (by kernel_rfl)))
  ·refine lp (fn:=Tryz.f55) (SpV k ⟨tm,tv,tu⟩ a b e q) (fun x=>SSp k ⟨tm,tv,tu⟩ a b e q x.has x.hb x.ha x.nb x.na ((q.take x.i).flatMap (sj k ⟨tm,tv,tu⟩ a b e)) x.N x.i) (fun x=>q.length-x.i) [1,2,3,4,12,13,14,36,37,38] (by kernel_rfl) (fun x hx=>of_eq (q33 k tm tv tu a b e q x.has x.hb x.ha x.nb x.na _ x.N x.i _ _) (qa (fun hlt=> ?_) fun hge=> ?_)) ⟨0,has,fun _=>false,fun _=>false,fun _=>[],fun _=>[],0⟩ ⟨Nat.zero_le _,Nat.le_refl _,fun _ h=>(by cases h),fun _ h=>(by cases h)⟩
   ·obtain⟨i,has,hb,ha,nb,na,N⟩:=x
    obtain⟨hi,hN,hB,hA⟩:=hx
    simp only at hi hN hB hA hlt⊢
    have hlt:=ltI hlt
    have h2:=hv (q.getD i default) (by rw[show q.getD i default=q[i] by simp[List.getD,hlt]];exact List.getElem_mem hlt)
    have hol:=o9 k ⟨tm,tv,tu⟩ a b e la lb (q.take i)
    have htl:(q.take i).length=i:=by rw[List.length_take];omega
    have hs:(q.take (i+1)).flatMap (sj k ⟨tm,tv,tu⟩ a b e)=(q.take i).flatMap (sj k ⟨tm,tv,tu⟩ a b e)++sj k ⟨tm,tv,tu⟩ a b e (q.getD i default):=by
     rw[zu _ _ hlt,List.flatMap_append,List.flatMap_singleton]
    rw[Int.toNat_natCast]
    refine⟨⟨by omega,by omega⟩,trivial,⟨by omega,by omega⟩,⟨by omega,by omega⟩,fr (eSm k tm tv tu _ _ has) [0] [],?_⟩
    refine jc (qp7 (r:=q.getD i default) (has:=ke has [.s ((q.getD i default).vals.getD 0 default),.s ((q.getD i default).vals.getD 1 default)] true) (out:=(q.take i).flatMap (sj k ⟨tm,tv,tu⟩ a b e)) (N:=N) hB hA la lb (by omega) hlt hlm fun st has' hb' ha' nb' na' N' hN' hB' hA' hs'=>⟨⟨i+1,has',hb',ha',nb',na',N'⟩,⟨hlt,(by show N'<=2*(i+1);omega),hB',hA'⟩,(by show q.length-(i+1)<q.length-i;omega),(by show StLe _ st (SSp k ⟨tm,tv,tu⟩ a b e q has' hb' ha' nb' na' ((q.take (i+1)).flatMap _) N' _);rw[hs];exact hs')⟩) ((StLe.heap q39).cast (by kernel_rfl))
   ·have hge:=geI hge
    rw[List.take_of_length_le hge]
    obtain⟨i,has,hb,ha,nb,na,N⟩:=x
    obtain⟨hi,hN,hB,hA⟩:=hx
    simp only at hi hN hB hA hge⊢
    have hol:=o9 k ⟨tm,tv,tu⟩ a b e la lb q
    generalize q.flatMap (sj k ⟨tm,tv,tu⟩ a b e)=out at *
    refine jc (st':=⟨[(14,L out 2 Iv.d)],qu4 k ⟨tm,tv,tu⟩ has hb ha nb na N⟩) (qe jv _ _ _ (of_eq (q37 k ⟨tm,tv,tu⟩ has hb ha nb na out N _) ⟨PureW.mk (c58 out (by omega)),RetLe.of (Wk.refl _) ⟨fun _ _ h=>(by cases h),Nat.le_refl _,fun _ _ h=>(by cases h),(by show N+1<=2*q.length+1;omega),fun _ _ h=>(by cases h),fun _ _=>rfl⟩⟩)) ?_
    exact((StLe.set (sl:=[(14,LT out 2 Iv.d 0)]) (h:=hSp k ⟨tm,tv,tu⟩ has hb ha nb na out.length N) 14 (d':=L out 2 Iv.d) rfl Wk.tokL rfl rfl).trans (StLe.heapLe (h':=qu4 k ⟨tm,tv,tu⟩ has hb ha nb na N) ⟨fun l row' e=>⟨row',e,RowLe.refl _⟩,Nat.le_refl _,fun _ _ h=>(by cases h),Nat.le_refl _,fun _ _ h=>(by cases h),fun _ _=>rfl⟩)).cast (by kernel_rfl)
  ·refine⟨fun l row' e=> ?_,Nat.le_refl _,fun _ _ h=>(by cases h),Nat.le_refl _,fun _ _ h=>(by cases h),fun _ _=>rfl⟩
   rcases l with _|_|_|l
   ·cases e;exact⟨_,rfl,RowLe.refl _⟩
   ·cases e;exact⟨_,rfl,.map (fun _=>rfl) rfl fun _=>Wk.nilL⟩
   ·cases e;exact⟨_,rfl,.map (fun _=>rfl) rfl fun _=>Wk.nilL⟩
   ·cases e
 exact Does.forget c0 ⟨fun _ _ h=>(by cases h),fun _ _ h=>(by cases h),fun _ _=>rfl,fun _ _ _ h=>(by cases h)⟩ ⟨fun i _=>(inferInstance:DD (Iv.d ((spI k t a b e).getD i default))).p,trivial,trivial⟩ rfl
end Go.Proofs.YtiekphbkomddfaaGreatDoor.S1
namespace Go.Proofs.YtiekphbkomddfaaGreatDoor.S1
open Go Go.Ab Go.Proofs
theorem q4b:OkF 209 Tryz.f209:=⟨by kernel_rfl,by kernel_rfl,by kernel_rfl⟩
def qp8:List (List Nat×List Nat):=[([1,1,1,1,0,1,0],[2,3,11,44,45,46])]
noncomputable def q4c(w:Wv)(lim:Int)(c:Int)(sig:Int):List Nat->Nat->Option Ans:=qf [([1,0,0],2,Ans.eff (I (jp w lim c sig)) (hM w lim (qg .i64 c 1)))]
theorem nWi[Lay](w:Wv)(lim c sig a b:Int)(K:D->Heap->Prop):qn (En Tryz.f209) (fh Tryz.f209 K) (q4c w lim c sig) qp8 200 [.code []] ⟨qc 0 [.bp 0 0,I sig,I a,I b],hM w lim c⟩ =
 (Does PP 210 [D.bp 0 0,I sig] {box:=upd (fun _=>none) 0 (some (Row.lit [L w.sig 3 Sig.d,L w.gap 2 Iv.d,I w.fin,I lim,I c])),nl:=1,hw:=fun _=>none,nt:=0,vw:=fun _=>none:Heap} (I (jp w lim c sig)) (hM w lim (qg .i64 c 1))/\bif jp w lim c sig !=0 then K (.tup [.list 0 0 (fun _=>D.junk) .full,I (jp w lim c sig)]) {box:=upd (fun _=>none) 0 (some (Row.lit [L w.sig 3 Sig.d,L w.gap 2 Iv.d,I w.fin,I lim,I (qg .i64 c 1)])),nl:=1,hw:=fun _=>none,nt:=0,vw:=fun _=>none:Heap} else bif bif bif decide (a<0) then true else decide (a > b) then true else decide (b > w.fin) then K (.tup [.list 0 0 (fun _=>D.junk) .full,I 2]) {box:=upd (fun _=>none) 0 (some (Row.lit [L w.sig 3 Sig.d,L w.gap 2 Iv.d,I w.fin,I lim,I (qg .i64 c 1)])),nl:=1,hw:=fun _=>none,nt:=0,vw:=fun _=>none:Heap} else(0<=sig/\sig<(↑w.sig.length:Int))/\((w.sig.getD sig.toNat default).chg.length<=q8->At (En Tryz.f209) (fh Tryz.f209 K) [It.code [1,1,1,1,0,1,0],It.blk 0,It.code [1,1,1,1,1]] {sl:=[(2,I a),(3,I b),(11,.list 0 0 (fun _=>D.junk) .full),(44,L (w.sig.getD sig.toNat default).chg 2 Chg.d),(45,I (↑(w.sig.getD sig.toNat default).chg.length:Int)),(46,I 0)],h:={box:=upd (fun _=>none) 0 (some (Row.lit [L w.sig 3 Sig.d,L w.gap 2 Iv.d,I w.fin,I lim,I (qg .i64 c 1)])),nl:=1,hw:=fun _=>none,nt:=0,vw:=fun _=>none:Heap}:St})):=by kernel_rfl
def SWi(w:Wv)(lim c a b:Int)(out ls:List Chg)(i:Int):St:=⟨[(2,I a),(3,I b),(11,LT out 2 Chg.d 0),(44,L ls 2 Chg.d),(45,I ls.length),(46,I i)],hT (hM w lim c) out.length⟩
noncomputable def qu6:List Nat->Nat->Option Ans:=qf []
theorem q4d[Lay](w:Wv)(lim c a b:Int)(out ls:List Chg)(i:Int)(J:St->Prop)(K:D->Heap->Prop):qn (En Tryz.f209) (fh Tryz.f209 K) (qu6 ) qp8 200 [.code [1,1,1,1,0,1,0,0],stp [2,3,11,44,45,46] J,.blk 0,.code [1,1,1,1,1]] (SWi w lim c a b out ls i)=
 (bif decide (i<(↑ls.length:Int)) then(0<=i/\i<(↑ls.length:Int))/\True/\bif bif decide ((ls.getD i.toNat default).time>=a) then decide ((ls.getD i.toNat default).time<=b) else false then(upd (fun _=>none) 0 (some out.length) 0=some out.length/\(out.length+1)*24<=q7)/\J {sl:=[(2,I a),(3,I b),(11,.list (out.length+1) 2 (zo out.length (fun i=>(out.getD i default).d) (zf [.agg [I (ls.getD i.toNat default).time,.str (ls.getD i.toNat default).val]])) (.tok 0 2)),(44,L ls 2 Chg.d),(45,I (↑ls.length:Int)),(46,I (qg .i64 i 1))],h:={box:=upd (fun _=>none) 0 (some (Row.lit [L w.sig 3 Sig.d,L w.gap 2 Iv.d,I w.fin,I lim,I c])),nl:=1,hw:=upd (upd (fun _=>none) 0 (some out.length)) 0 (some (out.length+1)),nt:=1,vw:=fun _=>none:Heap}:St} else J {sl:=[(2,I a),(3,I b),(11,.list out.length 2 (fun i=>(out.getD i default).d) (.tok 0 2)),(44,L ls 2 Chg.d),(45,I (↑ls.length:Int)),(46,I (qg .i64 i 1))],h:={box:=upd (fun _=>none) 0 (some (Row.lit [L w.sig 3 Sig.d,L w.gap 2 Iv.d,I w.fin,I lim,I c])),nl:=1,hw:=upd (fun _=>none) 0 (some out.length),nt:=1,vw:=fun _=>none:Heap}:St} else K (.tup [.list out.length 2 (fun i=>(out.getD i default).d) (.tok 0 2),I 0]) {box:=upd (fun _=>none) 0 (some (Row.lit [L w.sig 3 Sig.d,L w.gap 2 Iv.d,I w.fin,I lim,I c])),nl:=1,hw:=upd (fun _=>none) 0 (some out.length),nt:=1,vw:=fun _=>none:Heap}):=by kernel_rfl
theorem qp9(w:Wv)(lim c:Int)(nl nt:Nat):qon 1 0 ⟨(hM w lim c).box,nl,fun _=>none,nt,fun _=>none⟩:=by
 refine⟨fun k row e=> ?_,fun t n e=>(by cases e),fun _ _=>rfl,fun t n f e=>(by cases e)⟩
 rcases k with _|k
 ·cases e
  exact⟨by omega,⟨fun i _=>(inferInstance:DD (Sig.d (w.sig.getD i default))).p,fun i _=>(inferInstance:DD (Iv.d (w.gap.getD i default))).p,trivial,trivial,trivial,trivial⟩,rfl⟩
 ·cases e
theorem qim[Lay]{f:Nat}{args:List D}{v:D}{w:Wv}{lim c c':Int}{nl nt:Nat}(h:Does PP f args (hM w lim c) v ⟨(hM w lim c').box,nl,fun _=>none,nt,fun _=>none⟩)(h0:kb v)(hv:ren (fbF 1 nl) (fbF 0 nt) v=v):Does PP f args (hM w lim c) v (hM w lim c') :=
 Does.forget h (qp9 w lim c' nl nt) h0 hv
theorem qin{w:Wv}{lim c:Int}{h:Heap}{nl nt:Nat}(hb:h.box 0=some (qhl w lim c))(hn:h.nl<=nl)(ht:h.nt<=nt):HeapLe h ⟨(hM w lim c).box,nl,fun _=>none,nt,fun _=>none⟩:=by
 refine⟨fun l row' e=> ?_,hn,fun t n e=>(by cases e),ht,fun t n e=>(by cases e),fun _ _=>rfl⟩
 rcases l with _|l
 ·cases e;exact⟨_,hb,RowLe.refl _⟩
 ·cases e
theorem qyd[Lay](w:Wv)(hq:∀q∈w.sig,q.chg.length<=900/\q.width<=1000000/\Inc (-1) q.chg)(lim c sig frm til:Int):Does PP 54 [.iface 36 (.bp 0 0),I sig,I frm,I til] (hM w lim c) (.tup [L (ofR w lim c sig frm til).1 3 Sp.d,I (ofR w lim c sig frm til).2.1]) (hM w lim (ofR w lim c sig frm til).2.2) :=
 qim (nl:=4) (nt:=1) (e54 hq c) ⟨fun i _=>(inferInstance:DD (Sp.d ((ofR w lim c sig frm til).1.getD i default))).p,trivial,trivial⟩ rfl
def inR(l:List Chg)(a b:Int):List Chg:=l.filter fun x=>decide (x.time>=a)&&decide (x.time<=b)
def gk(w:Wv)(lim c sig a b:Int):List Chg×Int:=if jp w lim c sig≠0 then([],jp w lim c sig) else if a<0\/a > b\/b > w.fin then([],2) else(inR (qm w sig).chg a b,0)
theorem qye[Lay](w:Wv)(hq:∀q∈w.sig,q.chg.length<=900/\q.width<=1000000/\Inc (-1) q.chg)(lim c sig a b:Int):Does PP 209 [.bp 0 0,I sig,I a,I b] (hM w lim c) (.tup [L (gk w lim c sig a b).1 2 Chg.d,I (gk w lim c sig a b).2]) (hM w lim (qg .i64 c 1)):=by
 refine qim (nl:=1) (nt:=1) ?_ ⟨fun i _=>(inferInstance:DD (Chg.d ((gk w lim c sig a b).1.getD i default))).p,trivial,trivial⟩ rfl
 refine du q4b (by kernel_rfl) (of_eq (nWi w lim c sig a b _) ⟨qqy _ _ _ _,qa (fun h=> ?_) fun h=> ?_⟩)
 ·have h:jp w lim c sig≠0:=by simpa using h
  rw[gk,if_pos h]
  exact RetLe.of (Wk.tup (Wks.cons Wk.nilL (Wks.refl _))) (qin rfl (Nat.le_refl _) (Nat.zero_le _))
 have hc:=p9 h
 have h0:¬jp w lim c sig≠0:=by simpa using h
 rw[gk,if_neg h0]
 have hcc:(bif bif decide (a<0) then true else decide (a > b) then true else decide (b > w.fin))=decide (a<0\/a > b\/b > w.fin):=by
  rw[Bool.eq_iff_iff];simp[or_assoc]
 rw[hcc]
 refine qa (fun h1=> ?_) fun h1=>⟨⟨hc.2.1,hc.2.2⟩,fun hl=> ?_⟩
 ·rw[if_pos (of_decide_eq_true h1)]
  exact RetLe.of (Wk.tup (Wks.cons Wk.nilL (Wks.refl _))) (qin rfl (Nat.le_refl _) (Nat.zero_le _))
 rw[if_neg (of_decide_eq_false h1)]
 have hlq:(qm w sig).chg.length<=900:=by
  refine(hq _ ?_).1
  have:sig.toNat<w.sig.length:=by omega
  unfold qm
  rw[List.getD_eq_getElem?_getD,List.getElem?_eq_getElem this]
  exact List.getElem_mem this
 change (qm w sig).chg.length<=q8 at hl
 refine jc (st':=SWi w lim (qg .i64 c 1) a b [] (qm w sig).chg (0:Nat)) ?_ ((StLe.tok0 (α:=Chg) (enc:=Chg.d) _ 11 2 rfl).cast rfl)
 generalize (qm w sig).chg=ls at hl hlq⊢
 refine lp (fn:=Tryz.f209) (fun z:Nat×List Chg=>z.1<=ls.length/\z.2.length<=z.1/\inR ls a b=z.2++inR (ls.drop z.1) a b) (fun z=>SWi w lim (qg .i64 c 1) a b z.2 ls z.1) (fun z=>ls.length-z.1) [2,3,11,44,45,46] (by kernel_rfl) (fun z hz=>of_eq (q4d w lim (qg .i64 c 1) a b z.2 ls z.1 _ _) ?_) (0,[]) ⟨Nat.zero_le _,Nat.le_refl _,rfl⟩
 obtain⟨i,out⟩:=z
 obtain⟨hi,ho,he⟩:=hz
 simp only at hi ho he⊢
 refine qa (fun hlt=> ?_) fun hge=> ?_
 ·have hlt:=ltI hlt
  rw[bi hlt hl,Int.toNat_natCast]
  rw[jb _ _ hlt]at he
  unfold inR at he
  rw[List.filter_cons]at he
  generalize ls.getD i default=x at he⊢
  refine⟨⟨by omega,by omega⟩,trivial,qa (fun h2=>⟨⟨qb _ _ _,by unfold q7;omega⟩,?_⟩) fun h2=> ?_⟩
  ·have h2:(decide (x.time>=a)&&decide (x.time<=b))=true:=by simpa using h2
   rw[if_pos h2]at he
   refine Nx.of (i+1,out++[x]) ⟨hlt,by simp only[List.length_append,List.length_singleton];omega,by simp only;unfold inR;rw[he,List.append_assoc];rfl⟩ (by simp only;omega) ?_
   refine(StLe.set 11 rfl (Wk.snoc (x:=x) (enc:=Chg.d) (t:=0)) rfl rfl).cast ?_
   unfold SWi hT
   rw[List.length_append,List.length_singleton,q6]
   rfl
  ·have h2:¬(decide (x.time>=a)&&decide (x.time<=b))=true:=by
    intro h3;rw[Bool.and_eq_true]at h3;rw[h3.1,h3.2]at h2;cases h2
   rw[if_neg h2]at he
   exact Nx.mk (i+1,out) ⟨hlt,by simp only;omega,by simp only;exact he⟩ (by simp only;omega)
 ·rw[List.drop_of_length_le (geI hge)]at he
  have he:inR ls a b=out:=by rw[he];simp[inR]
  rw[he]
  exact RetLe.of (Wk.tup (Wks.cons Wk.tokL (Wks.refl _))) (qin rfl (Nat.le_refl _) (Nat.le_refl _))
end Go.Proofs.YtiekphbkomddfaaGreatDoor.S1
namespace Go.Proofs.YtiekphbkomddfaaGreatDoor.S1
open Go Go.Ab Go.Proofs
attribute [local instance] qda
theorem F51:OkF 51 Tryz.f51:=⟨by kernel_rfl,by kernel_rfl,by kernel_rfl⟩
def qyf:List (List Nat×List Nat):=[([1,1,0,1,0],[3,6,7,8]),([1,1,1],[3])]
noncomputable def q4e:List Nat->Nat->Option Ans:=qf []
theorem nTm(l:List Chg)(K:D->Prop):qn (En Tryz.f51) (fi Tryz.f51 K) (q4e ) qyf 200 [.code []] ⟨qc 0 [L l 2 Chg.d],.empty⟩ =
 (l.length<=q8->At (En Tryz.f51) (fi Tryz.f51 K) [It.code [1,1,0,1,0],It.blk 0,It.code [1,1,1]] {sl:=[(3,.list 0 0 (fun _=>D.junk) .full),(6,L l 2 Chg.d),(7,I (↑l.length:Int)),(8,I 0)],h:=Heap.empty:St}):=by kernel_rfl
def STm(l:List Chg)(out:List Int)(i:Int):St:=⟨[(3,LT out 1 I' 0),(6,L l 2 Chg.d),(7,I l.length),(8,I i)],hN out.length 1⟩
noncomputable def qu7:List Nat->Nat->Option Ans:=qf []
theorem q4f(l:List Chg)(out:List Int)(i:Int)(J:St->Prop)(K:D->Prop):qn (En Tryz.f51) (fi Tryz.f51 K) (qu7 ) qyf 200 [.code [1,1,0,1,0,0],stp [3,6,7,8] J,.blk 0,.code [1,1,1]] (STm l out i)=
 (bif decide (i<(↑l.length:Int)) then(0<=i/\i<(↑l.length:Int))/\True/\(upd (fun _=>none) 0 (some out.length) 0=some out.length/\(out.length+1)*8<=q7)/\J {sl:=[(3,.list (out.length+1) 1 (zo out.length (fun i=>I' (out.getD i default)) (zf [I (l.getD i.toNat default).time])) (.tok 0 1)),(6,L l 2 Chg.d),(7,I (↑l.length:Int)),(8,I (qg .i64 i 1))],h:={box:=fun _=>none,nl:=0,hw:=upd (upd (fun _=>none) 0 (some out.length)) 0 (some (out.length+1)),nt:=1,vw:=fun _=>none:Heap}:St} else At (En Tryz.f51) (fi Tryz.f51 K) [It.code [1,1,1]] {sl:=[(3,.list out.length 1 (fun i=>I' (out.getD i default)) (.tok 0 1))],h:={box:=fun _=>none,nl:=0,hw:=upd (fun _=>none) 0 (some out.length),nt:=1,vw:=fun _=>none:Heap}:St}):=by kernel_rfl
noncomputable def qu8(out:List Int):List Nat->Nat->Option Ans:=qf [([1,1,1,0],1,Ans.pure [L out 1 I'] (L (vr (List.map ptF out)) 2 Iv.d))]
theorem q4g(out:List Int)(K:D->Prop):qn (En Tryz.f51) (fi Tryz.f51 K) (qu8 out) p8 200 [.code [1,1,1]] ⟨[(3,L out 1 I')],hT1⟩ =
 (PQ PP 81 [L out 1 I'] (L (vr (List.map ptF out)) 2 Iv.d)/\K (L (vr (List.map ptF out)) 2 Iv.d)):=by kernel_rfl
theorem F22:OkF 22 Tryz.f22:=⟨by kernel_rfl,by kernel_rfl,by kernel_rfl⟩
def qyg:List (List Nat×List Nat):=[([1,1,0,1,0],[3,8,9,10])]
noncomputable def q4h:List Nat->Nat->Option Ans:=qf []
theorem nFi(K:D->Prop):qn (En Tryz.f22) (fi Tryz.f22 K) (q4h ) qyg 200 [.code []] ⟨qc 0 [qii],.empty⟩ =
 (0<=q8->At (En Tryz.f22) (fi Tryz.f22 K) [It.code [1,1,0,1,0],It.blk 0,It.code [1,1,1]] {sl:=[(3,I (-1)),(8,.list 0 0 (fun _=>D.junk) .full),(9,I (↑0:Int)),(10,I 0)],h:=Heap.empty:St}):=by kernel_rfl
def SFi:St:=⟨[(3,I (-1)),(8,qii),(9,I 0),(10,I 0)],.empty⟩
noncomputable def qu9:List Nat->Nat->Option Ans:=qf []
theorem q4i(J:St->Prop)(K:D->Prop):qn (En Tryz.f22) (fi Tryz.f22 K) (qu9 ) qyg 200 [.code [1,1,0,1,0,0],stp [3,8,9,10] J,.blk 0,.code [1,1,1]] (SFi)=
 (K (I (-1))):=by kernel_rfl
abbrev qw(w:Wv)(lim c:Int):Row:= .lit [L w.sig 3 Sig.d,L w.gap 2 Iv.d,I w.fin,I lim,I c]
def hM2(v:Wv)(l c:Int)(w:Wv)(m d:Int):Heap:=⟨upd (upd (fun _=>none) 0 (some (.lit [L v.sig 3 Sig.d,L v.gap 2 Iv.d,I v.fin,I l,I c]))) 1 (some (.lit [L w.sig 3 Sig.d,L w.gap 2 Iv.d,I w.fin,I m,I d])),2,fun _=>none,0,fun _=>none⟩
abbrev qe0:D:= .iface 36 (.bp 1 0)
theorem eKi(w:Wv)(lim c sig:Int):Does PP 206 [.bp 0 0,I sig] (hM w lim c) (.tup [I (qs w lim c sig).1,I (qs w lim c sig).2.1,I (qs w lim c sig).2.2]) (hM w lim (qg .i64 c 1)):=qxt w lim c sig
def tmI(l:List Chg):List Iv:=vr (l.map fun x=>ptF x.time)
theorem F30:OkF 30 Tryz.f30:=⟨by kernel_rfl,by kernel_rfl,by kernel_rfl⟩
def q4j:List (List Nat×List Nat):=[([1,1,1,1,1],[4,5,14,16])]
noncomputable def q4k(v:Wv)(w:Wv)(l:Int)(c:Int)(m:Int)(d:Int)(i:Int)(k:Int)(e:Int):List Nat->Nat->Option Ans:=qf [([1,0],3,Ans.eff (ren (rnm [0] 2) (rnm [] 0) (.tup [L (gk v l c i 0 e).fst 2 Chg.d,I (gk v l c i 0 e).snd])) (qh [0] [] (hM2 v l c w m d) (hM v l (qg .i64 c 1)))),([1,1,1,0],3,Ans.eff (ren (rnm [1] 2) (rnm [] 0) (.tup [L (gk w m d k 0 e).fst 2 Chg.d,I (gk w m d k 0 e).snd])) (qh [1] [] {box:=upd ((hM2 v l c w m d).box) 0 (some (qw v l (qg .i64 c 1))),nl:=2,hw:=fun _=>none,nt:=0,vw:=fun _=>none:Heap} (hM w m (qg .i64 d 1))))]
theorem nEv(v w:Wv)(l c m d i k most e:Int)(K:D->Heap->Prop):qn (En Tryz.f30) (fh Tryz.f30 K) (q4k v w l c m d i k e) q4j 200 [.code []] ⟨qc 0 [xy,I i,qe0,I k,I most,I e],hM2 v l c w m d⟩ =
 (Does PP 209 [D.bp 0 0,I i,I 0,I e] (hM2 v l c w m d) (ren (rnm [0] 2) (rnm [] 0) (.tup [L (gk v l c i 0 e).fst 2 Chg.d,I (gk v l c i 0 e).snd])) (qh [0] [] (hM2 v l c w m d) (hM v l (qg .i64 c 1)))/\
 bif(gk v l c i 0 e).snd !=0 then K (.tup [.list 0 0 (fun _=>D.junk) .full,I (gk v l c i 0 e).snd]) {box:=upd ((hM2 v l c w m d).box) 0 (some (qw v l (qg .i64 c 1))),nl:=2,hw:=fun _=>none,nt:=0,vw:=fun _=>none:Heap}
 else
  Does PP 209 [D.bp 1 0,I k,I 0,I e] {box:=upd ((hM2 v l c w m d).box) 0 (some (qw v l (qg .i64 c 1))),nl:=2,hw:=fun _=>none,nt:=0,vw:=fun _=>none:Heap} (ren (rnm [1] 2) (rnm [] 0) (.tup [L (gk w m d k 0 e).fst 2 Chg.d,I (gk w m d k 0 e).snd])) (qh [1] [] {box:=upd ((hM2 v l c w m d).box) 0 (some (qw v l (qg .i64 c 1))),nl:=2,hw:=fun _=>none,nt:=0,vw:=fun _=>none:Heap} (hM w m (qg .i64 d 1)))/\
   bif(gk w m d k 0 e).snd !=0 then K (.tup [.list 0 0 (fun _=>D.junk) .full,I (gk w m d k 0 e).snd]) {box:=upd (upd ((hM2 v l c w m d).box) 0 (some (qw v l (qg .i64 c 1)))) 1 (some (qw w m (qg .i64 d 1))),nl:=2,hw:=fun _=>none,nt:=0,vw:=fun _=>none:Heap} else At (En Tryz.f30) (fh Tryz.f30 K) [It.code [1,1,1,1,1]] {sl:=[(4,I most),(5,I e),(14,L (gk v l c i 0 e).fst 2 Chg.d),(16,L (gk w m d k 0 e).fst 2 Chg.d)],h:={box:=upd (upd ((hM2 v l c w m d).box) 0 (some (qw v l (qg .i64 c 1)))) 1 (some (qw w m (qg .i64 d 1))),nl:=2,hw:=fun _=>none,nt:=0,vw:=fun _=>none:Heap}:St}):=by kernel_rfl
theorem F31:OkF 31 Tryz.f31:=⟨by kernel_rfl,by kernel_rfl,by kernel_rfl⟩
def q4l:List (List Nat×List Nat):=[([1,1,1,1,1],[0,1,5,10,14,16])]
noncomputable def q4m(v:Wv)(w:Wv)(l:Int)(c:Int)(m:Int)(d:Int)(i:Int)(k:Int)(e:Int):List Nat->Nat->Option Ans:=qf [([1,0],3,Ans.eff (ren (rnm [0] 2) (rnm [] 0) (.tup [L (ofR v l c i 0 e).fst 3 Sp.d,I (ofR v l c i 0 e).snd.fst])) (qh [0] [] (hM2 v l c w m d) (hM v l (ofR v l c i 0 e).snd.snd))),([1,1,1,0],3,Ans.eff (ren (rnm [1] 2) (rnm [] 0) (.tup [L (ofR w m d k 0 e).fst 3 Sp.d,I (ofR w m d k 0 e).snd.fst])) (qh [1] [] {box:=upd ((hM2 v l c w m d).box) 0 (some (qw v l (ofR v l c i 0 e).snd.snd)),nl:=2,hw:=fun _=>none,nt:=0,vw:=fun _=>none:Heap} (hM w m (ofR w m d k 0 e).snd.snd)))]
theorem nVa(v w:Wv)(l c m d i k e:Int)(t:Tol)(K:D->Heap->Prop):qn (En Tryz.f31) (fh Tryz.f31 K) (q4m v w l c m d i k e) q4l 200 [.code []] ⟨qc 0 [xy,I i,qe0,I k,t.d,I e],hM2 v l c w m d⟩ =
 (Does PP 54 [D.iface 36 (D.bp 0 0),I i,I 0,I e] (hM2 v l c w m d) (ren (rnm [0] 2) (rnm [] 0) (.tup [L (ofR v l c i 0 e).fst 3 Sp.d,I (ofR v l c i 0 e).snd.fst])) (qh [0] [] (hM2 v l c w m d) (hM v l (ofR v l c i 0 e).snd.snd))/\
 bif(ofR v l c i 0 e).snd.fst !=0 then K (.tup [.list 0 0 (fun _=>D.junk) .full,I (ofR v l c i 0 e).snd.fst]) {box:=upd ((hM2 v l c w m d).box) 0 (some (qw v l (ofR v l c i 0 e).snd.snd)),nl:=2,hw:=fun _=>none,nt:=0,vw:=fun _=>none:Heap}
 else
  Does PP 54 [D.iface 36 (D.bp 1 0),I k,I 0,I e] {box:=upd ((hM2 v l c w m d).box) 0 (some (qw v l (ofR v l c i 0 e).snd.snd)),nl:=2,hw:=fun _=>none,nt:=0,vw:=fun _=>none:Heap} (ren (rnm [1] 2) (rnm [] 0) (.tup [L (ofR w m d k 0 e).fst 3 Sp.d,I (ofR w m d k 0 e).snd.fst])) (qh [1] [] {box:=upd ((hM2 v l c w m d).box) 0 (some (qw v l (ofR v l c i 0 e).snd.snd)),nl:=2,hw:=fun _=>none,nt:=0,vw:=fun _=>none:Heap} (hM w m (ofR w m d k 0 e).snd.snd))/\
   bif(ofR w m d k 0 e).snd.fst !=0 then K (.tup [.list 0 0 (fun _=>D.junk) .full,I (ofR w m d k 0 e).snd.fst]) {box:=upd (upd ((hM2 v l c w m d).box) 0 (some (qw v l (ofR v l c i 0 e).snd.snd))) 1 (some (qw w m (ofR w m d k 0 e).snd.snd)),nl:=2,hw:=fun _=>none,nt:=0,vw:=fun _=>none:Heap} else At (En Tryz.f31) (fh Tryz.f31 K) [It.code [1,1,1,1,1]] {sl:=[(0,xy),(1,I i),(5,I e),(10,.own [I t.time,.str t.val,B t.unk]),(14,L (ofR v l c i 0 e).fst 3 Sp.d),(16,L (ofR w m d k 0 e).fst 3 Sp.d)],h:={box:=upd (upd ((hM2 v l c w m d).box) 0 (some (qw v l (ofR v l c i 0 e).snd.snd))) 1 (some (qw w m (ofR w m d k 0 e).snd.snd)),nl:=2,hw:=fun _=>none,nt:=0,vw:=fun _=>none:Heap}:St}):=by kernel_rfl
noncomputable def qva(most:Int)(e:Int)(x:List Chg)(y:List Chg):List Nat->Nat->Option Ans:=qf [([1,1,1,1,1,0],1,Ans.pure [L x 2 Chg.d] (L (tmI x) 2 Iv.d)),([1,1,1,1,1,0],3,Ans.pure [L y 2 Chg.d] (L (tmI y) 2 Iv.d)),([1,1,1,1,1,1,0],6,Ans.pure [L (tmI y) 2 Iv.d,I (qj .i64 0 most),I most,I 0,I e] (L (yp (tmI y) (qj .i64 0 most) most 0 e) 2 Iv.d)),([1,1,1,1,1,1,0],7,Ans.pure [L (tmI x) 2 Iv.d,L (yp (tmI y) (qj .i64 0 most) most 0 e) 2 Iv.d] (L (cmR 2 (tmI x) (yp (tmI y) (qj .i64 0 most) most 0 e)) 2 Iv.d)),([1,1,1,1,1,1,0],14,Ans.pure [L (tmI x) 2 Iv.d,I (qj .i64 0 most),I most,I 0,I e] (L (yp (tmI x) (qj .i64 0 most) most 0 e) 2 Iv.d)),([1,1,1,1,1,1,0],15,Ans.pure [L (tmI y) 2 Iv.d,L (yp (tmI x) (qj .i64 0 most) most 0 e) 2 Iv.d] (L (cmR 2 (tmI y) (yp (tmI x) (qj .i64 0 most) most 0 e)) 2 Iv.d)),([1,1,1,1,1,1,0],16,Ans.pure [L (cmR 2 (tmI x) (yp (tmI y) (qj .i64 0 most) most 0 e)) 2 Iv.d,L (cmR 2 (tmI y) (yp (tmI x) (qj .i64 0 most) most 0 e)) 2 Iv.d] (L (cmR 0 (cmR 2 (tmI x) (yp (tmI y) (qj .i64 0 most) most 0 e)) (cmR 2 (tmI y) (yp (tmI x) (qj .i64 0 most) most 0 e))) 2 Iv.d))]
theorem q4n(v w:Wv)(l c m d most e:Int)(x y:List Chg)(K:D->Heap->Prop):qn (En Tryz.f30) (fh Tryz.f30 K) (qva most e x y) p8 200 [.code [1,1,1,1,1]] ⟨[(4,I most),(5,I e),(14,L x 2 Chg.d),(16,L y 2 Chg.d)],hM2 v l c w m d⟩ =
 (PQ PP 51 [L x 2 Chg.d] (L (tmI x) 2 Iv.d)/\
 PQ PP 51 [L y 2 Chg.d] (L (tmI y) 2 Iv.d)/\
  PQ PP 53 [L (tmI y) 2 Iv.d,I (qj .i64 0 most),I most,I 0,I e] (L (yp (tmI y) (qj .i64 0 most) most 0 e) 2 Iv.d)/\PQ PP 17 [L (tmI x) 2 Iv.d,L (yp (tmI y) (qj .i64 0 most) most 0 e) 2 Iv.d] (L (cmR 2 (tmI x) (yp (tmI y) (qj .i64 0 most) most 0 e)) 2 Iv.d)/\PQ PP 53 [L (tmI x) 2 Iv.d,I (qj .i64 0 most),I most,I 0,I e] (L (yp (tmI x) (qj .i64 0 most) most 0 e) 2 Iv.d)/\PQ PP 17 [L (tmI y) 2 Iv.d,L (yp (tmI x) (qj .i64 0 most) most 0 e) 2 Iv.d] (L (cmR 2 (tmI y) (yp (tmI x) (qj .i64 0 most) most 0 e)) 2 Iv.d)/\PQ PP 52 [L (cmR 2 (tmI x) (yp (tmI y) (qj .i64 0 most) most 0 e)) 2 Iv.d,L (cmR 2 (tmI y) (yp (tmI x) (qj .i64 0 most) most 0 e)) 2 Iv.d] (L (cmR 0 (cmR 2 (tmI x) (yp (tmI y) (qj .i64 0 most) most 0 e)) (cmR 2 (tmI y) (yp (tmI x) (qj .i64 0 most) most 0 e))) 2 Iv.d)/\K (.tup [L (cmR 0 (cmR 2 (tmI x) (yp (tmI y) (qj .i64 0 most) most 0 e)) (cmR 2 (tmI y) (yp (tmI x) (qj .i64 0 most) most 0 e))) 2 Iv.d,I 0]) (hM2 v l c w m d)):=by kernel_rfl
noncomputable def qvb(v:Wv)(w:Wv)(l:Int)(c:Int)(m:Int)(d:Int)(i:Int)(e:Int)(tm:Int)(tv:Str)(tu:Bool)(x:List Sp)(y:List Sp):List Nat->Nat->Option Ans:=qf [([1,1,1,1,1,0],2,Ans.eff (ren (rnm [0] 2) (rnm [] 0) (.tup [I (qs v l c i).fst,I (qs v l c i).snd.fst,I (qs v l c i).snd.snd])) (qh [0] [] (hM2 v l c w m d) (hM v l (qg .i64 c 1)))),([1,1,1,1,1,1,1,0],7,Ans.eff (ren (rnm [2] 3) (rnm [] 0) (.tup [L (spI (qs v l c i).fst ⟨tm,tv,tu⟩ x y e) 2 Iv.d,I 0])) (qh [2] [] {box:=upd (upd ((hM2 v l c w m d).box) 0 (some (qw v l (qg .i64 c 1)))) 2 (some (Row.map KK.ss (fun x=>false) (r9 (ofVal (Value.bool false))))),nl:=3,hw:=fun _=>none,nt:=0,vw:=fun _=>none:Heap} o8))]
theorem q4o(v w:Wv)(l c m d i e tm:Int)(tv:Str)(tu:Bool)(x y:List Sp)(K:D->Heap->Prop):qn (En Tryz.f31) (fh Tryz.f31 K) (qvb v w l c m d i e tm tv tu x y) p8 200 [.code [1,1,1,1,1]] ⟨[(0,xy),(1,I i),(5,I e),(10,.own [I tm,.str tv,B tu]),(14,L x 3 Sp.d),(16,L y 3 Sp.d)],hM2 v l c w m d⟩ =
 (Does PP 206 [D.bp 0 0,I i] (hM2 v l c w m d) (ren (rnm [0] 2) (rnm [] 0) (.tup [I (qs v l c i).fst,I (qs v l c i).snd.fst,I (qs v l c i).snd.snd])) (qh [0] [] (hM2 v l c w m d) (hM v l (qg .i64 c 1)))/\
 bif(qs v l c i).snd.snd !=0 then K (.tup [.list 0 0 (fun _=>D.junk) .full,I (qs v l c i).snd.snd]) {box:=upd ((hM2 v l c w m d).box) 0 (some (qw v l (qg .i64 c 1))),nl:=2,hw:=fun _=>none,nt:=0,vw:=fun _=>none:Heap}
 else
  True /\
   Does PP 55 [.agg [I (qs v l c i).fst,I tm,.str tv,B tu,D.mp 2],L x 3 Sp.d,L y 3 Sp.d,I e] {box:=upd (upd ((hM2 v l c w m d).box) 0 (some (qw v l (qg .i64 c 1)))) 2 (some (Row.map KK.ss (fun x=>false) (r9 (ofVal (Value.bool false))))),nl:=3,hw:=fun _=>none,nt:=0,vw:=fun _=>none:Heap} (ren (rnm [2] 3) (rnm [] 0) (.tup [L (spI (qs v l c i).fst ⟨tm,tv,tu⟩ x y e) 2 Iv.d,I 0])) (qh [2] [] {box:=upd (upd ((hM2 v l c w m d).box) 0 (some (qw v l (qg .i64 c 1)))) 2 (some (Row.map KK.ss (fun x=>false) (r9 (ofVal (Value.bool false))))),nl:=3,hw:=fun _=>none,nt:=0,vw:=fun _=>none:Heap} o8)/\
    K (.tup [L (spI (qs v l c i).fst ⟨tm,tv,tu⟩ x y e) 2 Iv.d,I 0]) {box:=upd (upd (upd ((hM2 v l c w m d).box) 0 (some (qw v l (qg .i64 c 1)))) 2 (some (Row.map KK.ss (fun x=>false) (r9 (ofVal (Value.bool false)))))) 2 none,nl:=3,hw:=fun _=>none,nt:=0,vw:=fun _=>none:Heap}):=by kernel_rfl
def evI(most e:Int)(x y:List Chg):List Iv:=cmR 0 (cmR 2 (tmI x) (yp (tmI y) (qj .i64 0 most) most 0 e)) (cmR 2 (tmI y) (yp (tmI x) (qj .i64 0 most) most 0 e))
structure Sg where (out:List Iv) (err c d:Int) deriving Inhabited
def Sg.d'(x:Sg):D:= .tup [L x.out 2 Iv.d,I x.err]
def evR(v:Wv)(l c:Int)(w:Wv)(m d i k most e:Int):Sg :=
 bif(gk v l c i 0 e).2 !=0 then⟨[],(gk v l c i 0 e).2,qg .i64 c 1,d⟩ else
  bif(gk w m d k 0 e).2 !=0 then⟨[],(gk w m d k 0 e).2,qg .i64 c 1,qg .i64 d 1⟩ else
   ⟨evI most e (gk v l c i 0 e).1 (gk w m d k 0 e).1,0,qg .i64 c 1,qg .i64 d 1⟩
def vaR(v:Wv)(l c:Int)(w:Wv)(m d i k:Int)(t:Tol)(e:Int):Sg :=
 bif(ofR v l c i 0 e).2.1 !=0 then⟨[],(ofR v l c i 0 e).2.1,(ofR v l c i 0 e).2.2,d⟩ else
  bif(ofR w m d k 0 e).2.1 !=0 then⟨[],(ofR w m d k 0 e).2.1,(ofR v l c i 0 e).2.2,(ofR w m d k 0 e).2.2⟩ else
   bif(qs v l (ofR v l c i 0 e).2.2 i).2.2 !=0 then⟨[],(qs v l (ofR v l c i 0 e).2.2 i).2.2,qg .i64 (ofR v l c i 0 e).2.2 1,(ofR w m d k 0 e).2.2⟩ else
    ⟨spI (qs v l (ofR v l c i 0 e).2.2 i).1 t (ofR v l c i 0 e).1 (ofR w m d k 0 e).1 e,0,qg .i64 (ofR v l c i 0 e).2.2 1,(ofR w m d k 0 e).2.2⟩
theorem eEn(w:Wv)(lim c:Int):Does PP 205 [.bp 0 0] (hM w lim c) (I w.fin) (hM w lim c):=qxo w lim c
theorem F13:OkF 13 Tryz.f13:=⟨by kernel_rfl,by kernel_rfl,by kernel_rfl⟩
def q4p:List (List Nat×List Nat):=[([1,1,1,1,1,1],[0,1,2,3,9,12,13,14,15,16,17]),([1,1,1,1,1,1,1],[0,1,2,3,9,12,17]),([1,1,1,1,1,1,1,1,1],[14,18])]
noncomputable def q4q(v:Wv)(w:Wv)(l:Int)(c:Int)(m:Int)(d:Int)(i:Int)(k:Int)(t:Tol):List Nat->Nat->Option Ans:=qf [([1,0,0],1,Ans.pure [t.d] (B (yq t))),([1,1,0],2,Ans.eff (ren (rnm [0] 2) (rnm [] 0) (.tup [I (qs v l c i).fst,I (qs v l c i).snd.fst,I (qs v l c i).snd.snd])) (qh [0] [] (hM2 v l c w m d) (hM v l (qg .i64 c 1)))),([1,1,1,1,0],2,Ans.eff (ren (rnm [1] 2) (rnm [] 0) (.tup [I (qs w m d k).fst,I (qs w m d k).snd.fst,I (qs w m d k).snd.snd])) (qh [1] [] {box:=upd ((hM2 v l c w m d).box) 0 (some (qw v l (qg .i64 c 1))),nl:=2,hw:=fun _=>none,nt:=0,vw:=fun _=>none:Heap} (hM w m (qg .i64 d 1)))),
 ([1,1,1,1,1,0],1,Ans.eff (ren (rnm [0] 2) (rnm [] 0) (I v.fin)) (qh [0] [] {box:=upd (upd ((hM2 v l c w m d).box) 0 (some (qw v l (qg .i64 c 1)))) 1 (some (qw w m (qg .i64 d 1))),nl:=2,hw:=fun _=>none,nt:=0,vw:=fun _=>none:Heap} (hM v l (qg .i64 c 1)))),([1,1,1,1,1,0],3,Ans.eff (ren (rnm [1] 2) (rnm [] 0) (I w.fin)) (qh [1] [] {box:=upd (upd (upd ((hM2 v l c w m d).box) 0 (some (qw v l (qg .i64 c 1)))) 1 (some (qw w m (qg .i64 d 1)))) 0 (some (qw v l (qg .i64 c 1))),nl:=2,hw:=fun _=>none,nt:=0,vw:=fun _=>none:Heap} (hM w m (qg .i64 d 1))))]
theorem nSg(v w:Wv)(l c m d i k:Int)(t:Tol)(K:D->Heap->Prop):qn (En Tryz.f13) (fh Tryz.f13 K) (q4q v w l c m d i k t) q4p 200 [.code []] ⟨qc 0 [xy,I i,qe0,I k,t.d],hM2 v l c w m d⟩ =
 (PQ PP 23 [t.d] (B (yq t))/\
 bif !yq t then K (.tup [.list 0 0 (fun _=>D.junk) .full,I 1]) (hM2 v l c w m d)
 else
  Does PP 206 [D.bp 0 0,I i] (hM2 v l c w m d) (ren (rnm [0] 2) (rnm [] 0) (.tup [I (qs v l c i).fst,I (qs v l c i).snd.fst,I (qs v l c i).snd.snd])) (qh [0] [] (hM2 v l c w m d) (hM v l (qg .i64 c 1)))/\
   bif(qs v l c i).snd.snd !=0 then K (.tup [.list 0 0 (fun _=>D.junk) .full,I (qs v l c i).snd.snd]) {box:=upd ((hM2 v l c w m d).box) 0 (some (qw v l (qg .i64 c 1))),nl:=2,hw:=fun _=>none,nt:=0,vw:=fun _=>none:Heap}
   else
    Does PP 206 [D.bp 1 0,I k] {box:=upd ((hM2 v l c w m d).box) 0 (some (qw v l (qg .i64 c 1))),nl:=2,hw:=fun _=>none,nt:=0,vw:=fun _=>none:Heap} (ren (rnm [1] 2) (rnm [] 0) (.tup [I (qs w m d k).fst,I (qs w m d k).snd.fst,I (qs w m d k).snd.snd])) (qh [1] [] {box:=upd ((hM2 v l c w m d).box) 0 (some (qw v l (qg .i64 c 1))),nl:=2,hw:=fun _=>none,nt:=0,vw:=fun _=>none:Heap} (hM w m (qg .i64 d 1)))/\
     Does PP 205 [D.bp 0 0] {box:=upd (upd ((hM2 v l c w m d).box) 0 (some (qw v l (qg .i64 c 1)))) 1 (some (qw w m (qg .i64 d 1))),nl:=2,hw:=fun _=>none,nt:=0,vw:=fun _=>none:Heap} (ren (rnm [0] 2) (rnm [] 0) (I v.fin)) (qh [0] [] {box:=upd (upd ((hM2 v l c w m d).box) 0 (some (qw v l (qg .i64 c 1)))) 1 (some (qw w m (qg .i64 d 1))),nl:=2,hw:=fun _=>none,nt:=0,vw:=fun _=>none:Heap} (hM v l (qg .i64 c 1)))/\
      Does PP 205 [D.bp 1 0] {box:=upd (upd (upd ((hM2 v l c w m d).box) 0 (some (qw v l (qg .i64 c 1)))) 1 (some (qw w m (qg .i64 d 1)))) 0 (some (qw v l (qg .i64 c 1))),nl:=2,hw:=fun _=>none,nt:=0,vw:=fun _=>none:Heap} (ren (rnm [1] 2) (rnm [] 0) (I w.fin)) (qh [1] [] {box:=upd (upd (upd ((hM2 v l c w m d).box) 0 (some (qw v l (qg .i64 c 1)))) 1 (some (qw w m (qg .i64 d 1)))) 0 (some (qw v l (qg .i64 c 1))),nl:=2,hw:=fun _=>none,nt:=0,vw:=fun _=>none:Heap} (hM w m (qg .i64 d 1)))/\
       At (En Tryz.f13) (fh Tryz.f13 K) [It.code [1,1,1,1,1,1]] {sl:=[(0,xy),(1,I i),(2,qe0),(3,I k),(9,.own [I t.time,.str t.val,B t.unk]),(12,I (qs v l c i).fst),(13,I (qs v l c i).snd.fst),(14,I (qs w m d k).snd.snd),(15,I (qs w m d k).fst),(16,I (qs w m d k).snd.fst),(17,I (if w.fin<v.fin then w.fin else v.fin))],h:={box:=upd (upd (upd (upd ((hM2 v l c w m d).box) 0 (some (qw v l (qg .i64 c 1)))) 1 (some (qw w m (qg .i64 d 1)))) 0 (some (qw v l (qg .i64 c 1)))) 1 (some (qw w m (qg .i64 d 1))),nl:=2,hw:=fun _=>none,nt:=0,vw:=fun _=>none:Heap}:St}):=by kernel_rfl
def qvc:List (List Nat×List Nat):=[([1,1,1,1,1,1,1],[0,1,2,3,9,12,17])]
noncomputable def qvd:List Nat->Nat->Option Ans:=qf []
theorem q4r(v w:Wv)(l c m d i k tm:Int)(tv:Str)(tu:Bool)(k1 w1 e2 k2 w2 en:Int)(K:D->Heap->Prop):qn (En Tryz.f13) (fh Tryz.f13 K) (qvd ) qvc 200 [.code [1,1,1,1,1,1]] ⟨[(0,xy),(1,I i),(2,qe0),(3,I k),(9,.own [I tm,.str tv,B tu]),(12,I k1),(13,I w1),(14,I e2),(15,I k2),(16,I w2),(17,I en)],hM2 v l c w m d⟩ =
 (bif e2 !=0 then K (.tup [.list 0 0 (fun _=>D.junk) .full,I e2]) (hM2 v l c w m d)
 else bif k1 !=k2 then K (.tup [.list 0 0 (fun _=>D.junk) .full,I 7]) (hM2 v l c w m d) else bif w1 !=w2 then K (.tup [.list 0 0 (fun _=>D.junk) .full,I 8]) (hM2 v l c w m d) else bif decide (en<0) then K (.tup [.list 0 0 (fun _=>D.junk) .full,I 0]) (hM2 v l c w m d) else At (En Tryz.f13) (fh Tryz.f13 K) [It.code [1,1,1,1,1,1,1]] {sl:=[(0,xy),(1,I i),(2,qe0),(3,I k),(9,.own [I tm,.str tv,B tu]),(12,I k1),(17,I en)],h:=(hM2 v l c w m d):St}):=by kernel_rfl
def qve:List (List Nat×List Nat):=[([1,1,1,1,1,1,1,1,1],[14,18])]
noncomputable def qvf(v:Wv)(w:Wv)(l:Int)(c:Int)(m:Int)(d:Int)(i:Int)(k:Int)(tm:Int)(tv:Str)(tu:Bool)(en:Int):List Nat->Nat->Option Ans:=qf [([1,1,1,1,1,1,1,1,0,1,0],7,Ans.eff (.tup [L (evR v l c w m d i k tm en).out 2 Iv.d,I (evR v l c w m d i k tm en).err]) (hM2 v l (evR v l c w m d i k tm en).c w m (evR v l c w m d i k tm en).d)),([1,1,1,1,1,1,1,1,0,1,1],6,Ans.eff (.tup [L (vaR v l c w m d i k ⟨tm,tv,tu⟩ en).out 2 Iv.d,I (vaR v l c w m d i k ⟨tm,tv,tu⟩ en).err]) (hM2 v l (vaR v l c w m d i k ⟨tm,tv,tu⟩ en).c w m (vaR v l c w m d i k ⟨tm,tv,tu⟩ en).d))]
theorem q4s(v w:Wv)(l c m d i k tm:Int)(tv:Str)(tu:Bool)(k1 en:Int)(K:D->Heap->Prop):qn (En Tryz.f13) (fh Tryz.f13 K) (qvf v w l c m d i k tm tv tu en) qve 200 [.code [1,1,1,1,1,1,1]] ⟨[(0,xy),(1,I i),(2,qe0),(3,I k),(9,.own [I tm,.str tv,B tu]),(12,I k1),(17,I en)],hM2 v l c w m d⟩ =
 (bif k1==3 then Does PP 30 [D.iface 36 (D.bp 0 0),I i,D.iface 36 (D.bp 1 0),I k,I tm,I en] (hM2 v l c w m d) (.tup [L (evR v l c w m d i k tm en).out 2 Iv.d,I (evR v l c w m d i k tm en).err]) (hM2 v l (evR v l c w m d i k tm en).c w m (evR v l c w m d i k tm en).d)/\At (En Tryz.f13) (fh Tryz.f13 K) [It.code [1,1,1,1,1,1,1,1,1]] {sl:=[(14,I (evR v l c w m d i k tm en).err),(18,L (evR v l c w m d i k tm en).out 2 Iv.d)],h:={box:=upd (upd (fun _=>none) 0 (some (qw v l (evR v l c w m d i k tm en).c))) 1 (some (qw w m (evR v l c w m d i k tm en).d)),nl:=2,hw:=fun _=>none,nt:=0,vw:=fun _=>none:Heap}:St}
 else Does PP 31 [D.iface 36 (D.bp 0 0),I i,D.iface 36 (D.bp 1 0),I k,.agg [I tm,.str tv,B tu],I en] (hM2 v l c w m d) (.tup [L (vaR v l c w m d i k ⟨tm,tv,tu⟩ en).out 2 Iv.d,I (vaR v l c w m d i k ⟨tm,tv,tu⟩ en).err]) (hM2 v l (vaR v l c w m d i k ⟨tm,tv,tu⟩ en).c w m (vaR v l c w m d i k ⟨tm,tv,tu⟩ en).d)/\At (En Tryz.f13) (fh Tryz.f13 K) [It.code [1,1,1,1,1,1,1,1,1]] {sl:=[(14,I (vaR v l c w m d i k ⟨tm,tv,tu⟩ en).err),(18,L (vaR v l c w m d i k ⟨tm,tv,tu⟩ en).out 2 Iv.d)],h:={box:=upd (upd (fun _=>none) 0 (some (qw v l (vaR v l c w m d i k ⟨tm,tv,tu⟩ en).c))) 1 (some (qw w m (vaR v l c w m d i k ⟨tm,tv,tu⟩ en).d)),nl:=2,hw:=fun _=>none,nt:=0,vw:=fun _=>none:Heap}:St}):=by kernel_rfl
noncomputable def qvg:List Nat->Nat->Option Ans:=qf []
theorem q4t(v w:Wv)(l c m d er:Int)(out:List Iv)(K:D->Heap->Prop):qn (En Tryz.f13) (fh Tryz.f13 K) (qvg ) p8 200 [.code [1,1,1,1,1,1,1,1,1]] ⟨[(14,I er),(18,L out 2 Iv.d)],hM2 v l c w m d⟩ =
 (bif er !=0 then K (.tup [.list 0 0 (fun _=>D.junk) .full,I er]) (hM2 v l c w m d) else out.length<=q8->bif decide ((↑out.length:Int) > 4096) then K (.tup [.list 0 0 (fun _=>D.junk) .full,I 9]) (hM2 v l c w m d) else K (.tup [L out 2 Iv.d,I 0]) (hM2 v l c w m d)):=by kernel_rfl
theorem c51(l:List Chg)(hb:l.length<=10000):Pure PP 51 [L l 2 Chg.d] (L (tmI l) 2 Iv.d):=by
 refine pu F51 (by kernel_rfl) (of_eq (nTm l _) fun hlm=> ?_)
 refine jc (st':=STm l ((l.take 0).map Chg.time) ((0:Nat):Int)) ?_ ((StLe.idle _ none 3 1 (fun i=>I' (([]:List Int).getD i default)) rfl).cast (by kernel_rfl))
 refine lp (fn:=Tryz.f51) (fun i:Nat=>i<=l.length) (fun i=>STm l ((l.take i).map Chg.time) i) (fun i=>l.length-i) [3,6,7,8] (by kernel_rfl) (fun i hi=>of_eq (q4f l _ i _ _) (qa (fun hlt=> ?_) fun hge=> ?_)) 0 (Nat.zero_le _)
 ·have hlt:=ltI hlt
  have ht:((l.take i).map Chg.time).length=i:=by rw[List.length_map,List.length_take];omega
  rw[bi hlt hlm,Int.toNat_natCast]
  refine⟨⟨by omega,by omega⟩,trivial,⟨qb _ _ _,by rw[ht];unfold q7;omega⟩,Nx.of (i+1) hlt (by omega) ?_⟩
  rw[zu _ _ hlt,List.map_append,List.map_singleton]
  generalize (l.take i).map Chg.time=out
  unfold STm hN
  rw[List.length_append,List.length_singleton,q6]
  exact(StLe.set 3 rfl (Wk.snoc (enc:=I') (x:=(l.getD i default).time)) rfl rfl).cast (by kernel_rfl)
 ·rw[List.take_of_length_le (geI hge)]
  have hml:(l.map Chg.time).length<=10000:=by rw[List.length_map];omega
  have e:tmI l=vr ((l.map Chg.time).map ptF):=by unfold tmI;rw[List.map_map];rfl
  rw[e]
  refine jc (st':=⟨[(3,L (l.map Chg.time) 1 I')],hT1⟩) (qe jv _ _ _ (of_eq (q4g _ _) ⟨PureW.mk (c81 _ hml),Wk.refl _⟩)) ?_
  exact((StLe.set 3 (d':=L (l.map Chg.time) 1 I') rfl Wk.tokL rfl rfl).trans (StLe.heapLe qew)).cast (by kernel_rfl)
theorem q4u:Pure PP 22 [qii] (I (-1)):=by
 refine pu F22 (da:=⟨⟨⟨fun i hi=>absurd hi (Nat.not_lt_zero _),fun _ _ h=>by cases h⟩,trivial⟩⟩) (by kernel_rfl) (of_eq (nFi _) fun _=> ?_)
 exact lp (fn:=Tryz.f22) (fun _:Unit=>True) (fun _=>SFi) (fun _=>0) [3,8,9,10] (by kernel_rfl) (fun _ _=>of_eq (q4i _ _) (Wk.refl _)) () trivial
theorem qio(l:List Chg):(tmI l).length<=l.length:=by
 have:=gi (l.map fun x=>ptF x.time)
 rw[List.length_map]at this
 exact this
theorem qip(l:List Iv)(a b f t:Int):(yp l a b f t).length<=l.length:=by
 unfold yp mvI
 cases qk2 a b
 ·exact Nat.zero_le _
 ·have h1:=ui ((vr l).map (mvF (qj .i64 0 b) (qj .i64 0 a))) f t
  have h2:=gi l
  rw[List.length_map]at h1
  show(jn _ f t).length<=_
  omega
abbrev WvOk(w:Wv):Prop:=∀q∈w.sig,q.chg.length<=900/\q.width<=1000000/\Inc (-1) q.chg
theorem WvOk.len{w:Wv}(h:WvOk w)(i:Int):(qm w i).chg.length<=900:=by
 unfold qm
 rw[List.getD_eq_getElem?_getD]
 cases hg:w.sig[i.toNat]? with
 |none=>exact Nat.zero_le _
 |some q=>exact(h q (List.mem_of_getElem? hg)).1
theorem qe1{w:Wv}(h:WvOk w)(l c i a b:Int):(gk w l c i a b).1.length<=900:=by
 unfold gk
 split
 ·exact Nat.zero_le _
 ·split
  ·exact Nat.zero_le _
  ·exact Nat.le_trans (List.length_filter_le _ _) (h.len i)
section
variable {v w:Wv} {l c m d c' d':Int}
theorem hB0:upd (hM2 v l c w m d).box 0 (some (qw v l c'))=(hM2 v l c' w m d).box:=by
 funext k
 rcases k with _|_|k <;> rfl
theorem hB1:upd (hM2 v l c w m d).box 1 (some (qw w m d'))=(hM2 v l c w m d').box:=by
 funext k
 rcases k with _|_|k <;> rfl
theorem hB2{r:Row}:upd (upd (hM2 v l c w m d).box 2 (some r)) 2 none=(hM2 v l c w m d).box:=by
 funext k
 rcases k with _|_|_|k <;> rfl
end
theorem retNI{e:Int}{h:Heap}:RetLe (.tup [.list 0 0 (fun _=> .junk) .full,I e]) h (.tup [L ([]:List Iv) 2 Iv.d,I e]) h:=RetLe.of (Wk.tup (Wks.cons Wk.nilL (Wks.refl _))) (HeapLe.refl _)
theorem e30{v w:Wv}(hv:WvOk v)(hw:WvOk w)(l c m d i k most e:Int):Does PP 30 [xy,I i,qe0,I k,I most,I e] (hM2 v l c w m d) (.tup [L (evR v l c w m d i k most e).out 2 Iv.d,I (evR v l c w m d i k most e).err]) (hM2 v l (evR v l c w m d i k most e).c w m (evR v l c w m d i k most e).d):=by
 refine du F30 (by kernel_rfl) (of_eq (nEv v w l c m d i k most e _) ⟨fr (qye v hv l c i 0 e) [0] [],qa (fun h=> ?_) fun h=>⟨fr (qye w hw m d k 0 e) [1] [],qa (fun h1=> ?_) fun h1=> ?_⟩⟩)
 ·unfold evR
  rw[h,hB0];exact retNI
 ·unfold evR
  rw[h,h1,hB0,hB1];exact retNI
 ·unfold evR
  rw[h,h1,hB0,hB1]
  have lx:=qe1 hv l c i 0 e
  have ly:=qe1 hw m d k 0 e
  generalize (gk v l c i 0 e).1=x at *
  generalize (gk w m d k 0 e).1=y at *
  have tx:=qio x
  have ty:=qio y
  have gx:=qip (tmI x) (qj .i64 0 most) most 0 e
  have gy:=qip (tmI y) (qj .i64 0 most) most 0 e
  have c1:=cp 2 (tmI x) (yp (tmI y) (qj .i64 0 most) most 0 e)
  have c2:=cp 2 (tmI y) (yp (tmI x) (qj .i64 0 most) most 0 e)
  exact qe jv _ _ _ (of_eq (q4n v w l _ m _ most e x y _) ⟨PureW.mk (c51 x (by omega)),PureW.mk (c51 y (by omega)),PureW.mk (c53 _ _ _ _ _ (by omega)),PureW.mk (c17 _ _ (by omega) (by omega)),PureW.mk (c53 _ _ _ _ _ (by omega)),PureW.mk (c17 _ _ (by omega) (by omega)),PureW.mk (c52 _ _ (by omega) (by omega)),RetLe.refl _ _⟩)
theorem q4v[qga](k tm:Int)(tv:Str)(tu:Bool)(a b:List Sp)(e:Int)(hz:qhq a b)(la:a.length<=100)(lb:b.length<=100)(lq:(rk a b).length<=100):Does PP 55 [.agg [I k,I tm,.str tv,B tu,.mp 0],L a 3 Sp.d,L b 3 Sp.d,I e] ⟨upd (fun _=>none) 0 (some (.map .ss (fun _=>false) (.b fun _=>false))),1,fun _=>none,0,fun _=>none⟩ (.tup [L (spI k ⟨tm,tv,tu⟩ a b e) 2 Iv.d,I 0]) o8:=e55 k ⟨tm,tv,tu⟩ a b e (fun _=>false) hz la lb lq
theorem qiq(v:Wv)(l c:Int)(w:Wv)(m d:Int):HeapLe (hM2 v l c w m d) ⟨(hM2 v l c w m d).box,3,fun _=>none,0,fun _=>none⟩:=⟨fun _ row' h=>⟨row',h,RowLe.refl _⟩,by show 2<=3;omega,fun _ _ h=>h,Nat.le_refl _,fun _ _ _=>VwLe.refl _ _,fun _ h=>h⟩
theorem qno(v:Wv)(l c:Int)(w:Wv)(m d:Int)(nl nt:Nat):qon 2 0 ⟨(hM2 v l c w m d).box,nl,fun _=>none,nt,fun _=>none⟩:=by
 refine⟨fun k row e=> ?_,fun t n e=>(by cases e),fun _ _=>rfl,fun t n f e=>(by cases e)⟩
 rcases k with _|_|k
 ·cases e
  exact⟨by omega,⟨fun i _=>(inferInstance:DD (Sig.d (v.sig.getD i default))).p,fun i _=>(inferInstance:DD (Iv.d (v.gap.getD i default))).p,trivial,trivial,trivial,trivial⟩,rfl⟩
 ·cases e
  exact⟨by omega,⟨fun i _=>(inferInstance:DD (Sig.d (w.sig.getD i default))).p,fun i _=>(inferInstance:DD (Iv.d (w.gap.getD i default))).p,trivial,trivial,trivial,trivial⟩,rfl⟩
 ·cases e
structure qvh(a b:List Sp):Prop where
 z:qhq a b
 la:a.length<=100
 lb:b.length<=100
 lq:(rk a b).length<=100
theorem e31[qga]{v w:Wv}(hv:WvOk v)(hw:WvOk w)(l c m d i k:Int)(t:Tol)(e:Int)(hz:(ofR v l c i 0 e).2.1=0->(ofR w m d k 0 e).2.1=0->qvh (ofR v l c i 0 e).1 (ofR w m d k 0 e).1) :
  Does PP 31 [xy,I i,qe0,I k,t.d,I e] (hM2 v l c w m d) (.tup [L (vaR v l c w m d i k t e).out 2 Iv.d,I (vaR v l c w m d i k t e).err]) (hM2 v l (vaR v l c w m d i k t e).c w m (vaR v l c w m d i k t e).d):=by
 have c0:Does PP 31 [xy,I i,qe0,I k,t.d,I e] (hM2 v l c w m d) (.tup [L (vaR v l c w m d i k t e).out 2 Iv.d,I (vaR v l c w m d i k t e).err]) ⟨(hM2 v l (vaR v l c w m d i k t e).c w m (vaR v l c w m d i k t e).d).box,3,fun _=>none,0,fun _=>none⟩:=by
  refine du F31 (by kernel_rfl) (of_eq (nVa v w l c m d i k e t _) ⟨fr (qyd v hv l c i 0 e) [0] [],qa (fun h=> ?_) fun h=>⟨fr (qyd w hw m d k 0 e) [1] [],qa (fun h1=> ?_) fun h1=> ?_⟩⟩)
  ·unfold vaR
   rw[h,hB0];exact retNI.trans (RetLe.of (Wk.refl _) (qiq _ _ _ _ _ _))
  ·unfold vaR
   rw[h,h1,hB0,hB1];exact retNI.trans (RetLe.of (Wk.refl _) (qiq _ _ _ _ _ _))
  ·obtain⟨z,la,lb,lq⟩:=hz (by simpa using h) (by simpa using h1)
   unfold vaR
   rw[h,h1,hB0,hB1,cond_false,cond_false]
   obtain⟨tm,tv,tu⟩:=t
   generalize (ofR v l c i 0 e).1=x at *
   generalize (ofR v l c i 0 e).2.2=c1 at *
   generalize (ofR w m d k 0 e).1=y at *
   generalize (ofR w m d k 0 e).2.2=d1 at *
   refine qe jv _ _ _ (of_eq (q4o v w l c1 m d1 i e tm tv tu x y _) ⟨fr (eKi v l c1 i) [0] [],qa (fun h2=> ?_) fun h2=>⟨trivial,fr (q4v (qs v l c1 i).1 tm tv tu x y e z la lb lq) [2] [],?_⟩⟩)
   ·rw[h2,hB0];exact retNI.trans (RetLe.of (Wk.refl _) (qiq _ _ _ _ _ _))
   ·rw[h2,hB0,hB2];exact RetLe.refl _ _
 exact Does.forget c0 (qno _ _ _ _ _ _ _ _) ⟨fun i _=>(inferInstance:DD (Iv.d ((vaR v l c w m d _ k t e).out.getD i default))).p,trivial,trivial⟩ rfl
def ka(v w:Wv):Int:=if w.fin<v.fin then w.fin else v.fin
def sgE(r:Sg):Sg:=bif r.err !=0 then⟨[],r.err,r.c,r.d⟩ else bif decide ((r.out.length:Int) > 4096) then⟨[],9,r.c,r.d⟩ else⟨r.out,0,r.c,r.d⟩
def sgV(v:Wv)(l c:Int)(w:Wv)(m d i k:Int)(t:Tol)(k1 en:Int):Sg:=bif k1==3 then evR v l c w m d i k t.time en else vaR v l c w m d i k t en
def sgR(v:Wv)(l c:Int)(w:Wv)(m d i k:Int)(t:Tol):Sg :=
 bif !yq t then⟨[],1,c,d⟩ else
  bif(qs v l c i).2.2 !=0 then⟨[],(qs v l c i).2.2,qg .i64 c 1,d⟩ else
   bif(qs w m d k).2.2 !=0 then⟨[],(qs w m d k).2.2,qg .i64 c 1,qg .i64 d 1⟩ else
    bif(qs v l c i).1 !=(qs w m d k).1 then⟨[],7,qg .i64 c 1,qg .i64 d 1⟩ else
     bif(qs v l c i).2.1 !=(qs w m d k).2.1 then⟨[],8,qg .i64 c 1,qg .i64 d 1⟩ else
      bif decide (ka v w<0) then⟨[],0,qg .i64 c 1,qg .i64 d 1⟩ else
       sgE (sgV v l (qg .i64 c 1) w m (qg .i64 d 1) i k t (qs v l c i).1 (ka v w))
theorem e13[qga]{v w:Wv}(hv:WvOk v)(hw:WvOk w)(l c m d i k:Int)(t:Tol)
  (hz:(qs v l c i).2.2=0->(qs w m d k).2.2=0->(qs v l c i).1=(qs w m d k).1->0<=ka v w->(qs v l c i).1≠3->(ofR v l (qg .i64 c 1) i 0 (ka v w)).2.1=0->(ofR w m (qg .i64 d 1) k 0 (ka v w)).2.1=0->qvh (ofR v l (qg .i64 c 1) i 0 (ka v w)).1 (ofR w m (qg .i64 d 1) k 0 (ka v w)).1) :
  Does PP 13 [xy,I i,qe0,I k,t.d] (hM2 v l c w m d) (.tup [L (sgR v l c w m d i k t).out 2 Iv.d,I (sgR v l c w m d i k t).err]) (hM2 v l (sgR v l c w m d i k t).c w m (sgR v l c w m d i k t).d):=by
 refine du F13 (by kernel_rfl) (of_eq (nSg v w l c m d i k t _) ⟨PureW.mk (c23 t),qa (fun h=> ?_) fun h=>⟨fr (eKi v l c i) [0] [],qa (fun h1=> ?_) fun h1=>⟨fr (eKi w m d k) [1] [],fr (eEn v l (qg .i64 c 1)) [0] [],fr (eEn w m (qg .i64 d 1)) [1] [],?_⟩⟩⟩)
 ·unfold sgR
  rw[h];exact retNI
 ·unfold sgR
  rw[h,h1,hB0];exact retNI
 ·unfold sgR
  rw[h,h1,hB0,hB1,hB0,hB1]
  have h1:(qs v l c i).2.2=0:=by simpa using h1
  change At _ _ [.code [1,1,1,1,1,1]] ⟨[(0,xy),(1,I i),(2,qe0),(3,I k),(9,.own [I t.time,.str t.val,B t.unk]),(12,I (qs v l c i).1),(13,I (qs v l c i).2.1),(14,I (qs w m d k).2.2),(15,I (qs w m d k).1),(16,I (qs w m d k).2.1),(17,I (ka v w))],hM2 v l (qg .i64 c 1) w m (qg .i64 d 1)⟩
  have hz:=hz h1
  generalize (qs v l c i).1=k1 at *
  generalize (qs v l c i).2.1=w1 at *
  generalize (qs w m d k).1=k2 at *
  generalize (qs w m d k).2.1=w2 at *
  generalize (qs w m d k).2.2=e2 at *
  generalize ka v w=en at *
  generalize qg .i64 c 1=c1 at *
  generalize qg .i64 d 1=d1 at *
  obtain⟨tm,tv,tu⟩:=t
  refine qe jv _ _ _ (of_eq (q4r v w l c1 m d1 i k tm tv tu k1 w1 e2 k2 w2 en _) (qa (fun h2=> ?_) fun h2=>qa (fun h3=> ?_) fun h3=>qa (fun h4=> ?_) fun h4=>qa (fun h5=> ?_) fun h5=> ?_))
  ·rw[h2];exact retNI
  ·rw[h2,h3];exact retNI
  ·rw[h2,h3,h4];exact retNI
  ·rw[h2,h3,h4,h5];exact retNI
  ·rw[h2,h3,h4,h5]
   have last:∀(r:Sg) (K:D->Heap->Prop),(K=fun d h''=>RetLe d h'' (.tup [L (sgE r).out 2 Iv.d,I (sgE r).err]) (hM2 v l (sgE r).c w m (sgE r).d))->At (En Tryz.f13) (fh Tryz.f13 K) [.code [1,1,1,1,1,1,1,1,1]] ⟨[(14,I r.err),(18,L r.out 2 Iv.d)],hM2 v l r.c w m r.d⟩:=fun r K hK=>by
    subst hK
    refine qe jv _ _ _ (of_eq (q4t v w l r.c m r.d r.err r.out _) (qa (fun g=> ?_) fun g _=>qa (fun g1=> ?_) fun g1=> ?_))
    ·unfold sgE
     rw[g];exact retNI
    ·unfold sgE
     rw[g,g1];exact retNI
    ·unfold sgE
     rw[g,g1];exact RetLe.refl _ _
   refine qe jv _ _ _ (of_eq (q4s v w l c1 m d1 i k tm tv tu k1 en _) (qa (fun g=>⟨e30 hv hw l c1 m d1 i k tm en,?_⟩) fun g=>⟨e31 hv hw l c1 m d1 i k ⟨tm,tv,tu⟩ en (hz (by simpa using h2) (by simpa using h3) (by simpa using h5) (by simpa using g)),?_⟩))
   ·have e:sgV v l c1 w m d1 i k ⟨tm,tv,tu⟩ k1 en=evR v l c1 w m d1 i k tm en:=by unfold sgV;rw[g];rfl
    exact last _ _ (by rw[<-e];rfl)
   ·have e:sgV v l c1 w m d1 i k ⟨tm,tv,tu⟩ k1 en=vaR v l c1 w m d1 i k ⟨tm,tv,tu⟩ en:=by unfold sgV;rw[g];rfl
    exact last _ _ (by rw[<-e];rfl)
end Go.Proofs.YtiekphbkomddfaaGreatDoor.S1
