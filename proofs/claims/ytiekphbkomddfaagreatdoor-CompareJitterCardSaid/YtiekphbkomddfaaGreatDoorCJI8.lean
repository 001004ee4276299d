/- Comparing: what the statements share; the code's parts. -/
import Derived.Test.YtiekphbkomddfaaGreatDoorCJI7
namespace Go.Proofs.YtiekphbkomddfaaGreatDoor.S1
open Go Go.Ab Go.Proofs

attribute [local instance] w7
theorem F11:OkF 11 Tryz.f11:=⟨by kernel_rfl,by kernel_rfl,by kernel_rfl⟩
def q3k:List (List Nat×List Nat):=[]
noncomputable def quc(v:Wv)(w:Wv):List Nat->Nat->Option Ans:=qf [([1,0],1,Ans.pure [v.d] (B (smB v))),([1,0],4,Ans.pure [w.d] (B (smB w)))]
theorem q3l(v w:Wv)(t:Tol)(K:D->Prop):qo (En Tryz.f11) (fi Tryz.f11 K) (quc v w) q3k 200 [.code []] ⟨qd 0 [v.d,w.d,t.d],.empty⟩ =
 (PQ PP 19 [v.d] (B (smB v))/\(smB v=true->PQ PP 19 [w.d] (B (smB w)))/\(((bif bif bif smB v then smB w else false then decide (v.fin<=40) else false then decide (w.fin<=40) else false)=true->List.length t.val<=j5)->K (B (bif bif bif bif smB v then smB w else false then decide (v.fin<=40) else false then decide (w.fin<=40) else false then decide ((↑(List.length t.val):Int)<=40) else false)))):=by kernel_rfl
theorem F16:OkF 16 Tryz.f16:=⟨by kernel_rfl,by kernel_rfl,by kernel_rfl⟩
def qwc:List (List Nat×List Nat):=[([1,1,0,1,0],[0,1,5])]
noncomputable def qud:List Nat->Nat->Option Ans:=qf []
theorem q3m(a:List Iv)(K:D->Prop):qo (En Tryz.f16) (fi Tryz.f16 K) (qud ) qwc 200 [.code []] ⟨qd 0 [L a 2 Iv.d,L a 2 Iv.d],.empty⟩ =
 (a.length<=q9->a.length<=q9->bif(↑a.length:Int)!=(↑a.length:Int) then K (B false) else At (En Tryz.f16) (fi Tryz.f16 K) [It.code [1,1,0,1,0],It.blk 0,It.code [1,1,1]] {sl:=[(0,L a 2 Iv.d),(1,L a 2 Iv.d),(5,I 0)],h:=Heap.empty:St}):=by kernel_rfl
def qwd(a:List Iv)(i:Int):St:=⟨[(0,L a 2 Iv.d),(1,L a 2 Iv.d),(5,I i)],.empty⟩
noncomputable def qov:List Nat->Nat->Option Ans:=qf []
theorem que(a:List Iv)(i:Int)(J:St->Prop)(K:D->Prop):qo (En Tryz.f16) (fi Tryz.f16 K) (qov ) qwc 200 [.code [1,1,0,1,0,0],stp [0,1,5] J,.blk 0,.code [1,1,1]] (qwd a i) =
 (a.length<=q9->bif decide (i<(↑a.length:Int)) then(0<=i/\i<(↑a.length:Int))/\(0<=i/\i<(↑a.length:Int))/\bif !((a.getD i.toNat default).frm==(a.getD i.toNat default).frm&&(a.getD i.toNat default).to==(a.getD i.toNat default).to) then K (B false) else J {sl:=[(0,L a 2 Iv.d),(1,L a 2 Iv.d),(5,I (qh .i64 i 1))],h:=Heap.empty:St} else K (B true)):=by kernel_rfl
theorem F12:OkF 12 Tryz.f12:=⟨by kernel_rfl,by kernel_rfl,by kernel_rfl⟩
def quf:List (List Nat×List Nat):=[([1,0,1,0],[8,9,10]),([1,0,1,0,0,1,1,0,0,1,1,0],[4,8,9,10,15,16,17])]
noncomputable def q3n:List Nat->Nat->Option Ans:=qf []
theorem nCl(w:Wv)(K:D->Prop):qo (En Tryz.f12) (fi Tryz.f12 K) (q3n ) quf 200 [.code []] ⟨qd 0 [w.d],.empty⟩ =
 (w.sig.length<=q9->At (En Tryz.f12) (fi Tryz.f12 K) [It.code [1,0,1,0],It.blk 0,It.code [1,1]] {sl:=[(8,L w.sig 3 Sig.d),(9,I (↑w.sig.length:Int)),(10,I 0)],h:=Heap.empty:St}):=by kernel_rfl
def SCl(w:Wv)(i:Int):St:=⟨[(8,L w.sig 3 Sig.d),(9,I w.sig.length),(10,I i)],.empty⟩
noncomputable def qug:List Nat->Nat->Option Ans:=qf []
theorem q3o(w:Wv)(i:Int)(J:St->Prop)(K:D->Prop):qo (En Tryz.f12) (fi Tryz.f12 K) (qug ) quf 200 [.code [1,0,1,0,0],stp [8,9,10] J,.blk 0,.code [1,1]] (SCl w i) =
 (bif decide (i<(↑w.sig.length:Int)) then(0<=i/\i<(↑w.sig.length:Int))/\True/\((w.sig.getD i.toNat default).chg.length<=q9->At (En Tryz.f12) (fi Tryz.f12 K) [It.code [1,0,1,0,0,1,1,0,0,1,1,0],It.blk 2,It.blk 1,It.code [1,0,1,0,0,1,1,1],stp [8,9,10] J,It.blk 0,It.code [1,1]] {sl:=[(4,.own [I (w.sig.getD i.toNat default).kind,I (w.sig.getD i.toNat default).width,L (w.sig.getD i.toNat default).chg 2 Chg.d]),(8,L w.sig 3 Sig.d),(9,I (↑w.sig.length:Int)),(10,I i),(15,L (w.sig.getD i.toNat default).chg 2 Chg.d),(16,I (↑(w.sig.getD i.toNat default).chg.length:Int)),(17,I 0)],h:=Heap.empty:St}) else K (B true)):=by kernel_rfl
def qwe(w:Wv)(i:Int)(q:Sig)(k:Int):St:=⟨[(4,.own [I q.kind,I q.width,L q.chg 2 Chg.d]),(8,L w.sig 3 Sig.d),(9,I w.sig.length),(10,I i),(15,L q.chg 2 Chg.d),(16,I q.chg.length),(17,I k)],.empty⟩
noncomputable def quh(q:Sig)(k:Int):List Nat->Nat->Option Ans:=qf [([1,0,1,0,0,1,1,0,0,1,1,0,0,1,1,0,0,1,0],6,Ans.pure [.str (q.chg.getD k.toNat default).val] (B (q8 (q.chg.getD k.toNat default).val).snd))]
theorem q3p(w:Wv)(i:Int)(q:Sig)(k:Int)(J J2:St->Prop)(K:D->Prop):qo (En Tryz.f12) (fi Tryz.f12 K) (quh q k) quf 200 [.code [1,0,1,0,0,1,1,0,0,1,1,0,0],stp [4,8,9,10,15,16,17] J,.blk 2,.blk 1,.code [1,0,1,0,0,1,1,1],stp [8,9,10] J2,.blk 0,.code [1,1]] (qwe w i q k) =
 (bif decide (k<(↑q.chg.length:Int)) then(0<=k/\k<(↑q.chg.length:Int))/\True/\((q.kind==1)=true->PQ PP 28 [.str (q.chg.getD k.toNat default).val] (B (q8 (q.chg.getD k.toNat default).val).snd))/\bif bif q.kind==1 then !(q8 (q.chg.getD k.toNat default).val).snd else false then K (B false) else J {sl:=[(4,.own [I q.kind,I q.width,L q.chg 2 Chg.d]),(8,L w.sig 3 Sig.d),(9,I (↑w.sig.length:Int)),(10,I i),(15,L q.chg 2 Chg.d),(16,I (↑q.chg.length:Int)),(17,I (qh .i64 k 1))],h:=Heap.empty:St} else J2 {sl:=[(8,L w.sig 3 Sig.d),(9,I (↑w.sig.length:Int)),(10,I (qh .i64 i 1))],h:=Heap.empty:St}):=by kernel_rfl
def cz(v w:Wv)(t:Tol):Bool:=bif bif bif bif smB v then smB w else false then decide (v.fin<=40) else false then decide (w.fin<=40) else false then decide ((t.val.length:Int)<=40) else false
def clB(w:Wv):Bool:=w.sig.all fun q=>q.chg.all fun x=> !(bif q.kind==1 then !(q8 x.val).2 else false)
theorem F21:OkF 21 Tryz.f21:=⟨by kernel_rfl,by kernel_rfl,by kernel_rfl⟩
def q3q:List (List Nat×List Nat):=[]
noncomputable def q3r(t:Int):List Nat->Nat->Option Ans:=qf [([1,0],7,Ans.eff (ren (rnm [] 0) (rnm [] 0) (D.bp 0 0)) (qg [] [] Heap.empty (hM {sig:=[{kind:=0,width:=1,chg:=[{time:=0,val:={data:= #[48]:ByteArray}.data.toList:Chg},{time:=t,val:={data:= #[49]:ByteArray}.data.toList:Chg}]:Sig}],gap:=[],fin:=9:Wv} (-1) 0)))]
theorem nRi(t:Int)(K:D->Heap->Prop):qo (En Tryz.f21) (fh Tryz.f21 K) (q3r t) q3q 200 [.code []] ⟨qd 0 [I t],.empty⟩ =
 (Does PP 14 [.agg [.list 1 3 (zj [.agg [I 0,I 1,.list 2 2 (zj [.agg [I 0,.str {data:= #[48]:ByteArray}.data.toList],.agg [I t,.str {data:= #[49]:ByteArray}.data.toList]]) .full]]) .full,.list 0 0 (fun _=>D.junk) .full,I 9]] Heap.empty (ren (rnm [] 0) (rnm [] 0) (D.bp 0 0)) (qg [] [] Heap.empty (hM {sig:=[{kind:=0,width:=1,chg:=[{time:=0,val:={data:= #[48]:ByteArray}.data.toList:Chg},{time:=t,val:={data:= #[49]:ByteArray}.data.toList:Chg}]:Sig}],gap:=[],fin:=9:Wv} (-1) 0))/\K (D.bp 0 0) {box:=upd (fun _=>none) 0 (some (Row.lit [L {sig:=[{kind:=0,width:=1,chg:=[{time:=0,val:={data:= #[48]:ByteArray}.data.toList:Chg},{time:=t,val:={data:= #[49]:ByteArray}.data.toList:Chg}]:Sig}],gap:=[],fin:=9:Wv}.sig 3 Sig.d,L {sig:=[{kind:=0,width:=1,chg:=[{time:=0,val:={data:= #[48]:ByteArray}.data.toList:Chg},{time:=t,val:={data:= #[49]:ByteArray}.data.toList:Chg}]:Sig}],gap:=[],fin:=9:Wv}.gap 2 Iv.d,I {sig:=[{kind:=0,width:=1,chg:=[{time:=0,val:={data:= #[48]:ByteArray}.data.toList:Chg},{time:=t,val:={data:= #[49]:ByteArray}.data.toList:Chg}]:Sig}],gap:=[],fin:=9:Wv}.fin,I (-1),I 0])),nl:=1,hw:=fun _=>none,nt:=0,vw:=fun _=>none:Heap}):=by kernel_rfl
def wA(t:Int):Wv:=⟨[⟨0,1,[⟨0,[48]⟩,⟨t,[49]⟩]⟩],[],9⟩
def sgA(q:Int):List Iv:=if q=1 then[⟨5,6⟩] else[]
theorem F8:OkF 8 Tryz.f8:=⟨by kernel_rfl,by kernel_rfl,by kernel_rfl⟩
def lv8:List (List Nat×List Nat):=[]
noncomputable def qui:List Nat->Nat->Option Ans:=qf [([1,1,0],1,Ans.eff (D.bp 0 0) (hM (wA 5) (-1) 0)),([1,1,0],4,Ans.eff (ren (rnm [] 1) (rnm [] 0) (D.bp 0 0)) (qg [] [] {box:=upd (fun _=>none) 0 (some (qw (wA 5) (-1) 0)),nl:=1,hw:=fun _=>none,nt:=0,vw:=fun _=>none:Heap} (hM (wA 7) (-1) 0))),([1,1,0],7,Ans.eff (.tup [L (sgA 1) 2 Iv.d,I 0]) (hM2 (wA 5) (-1) 6 (wA 7) (-1) 5)),([1,1,1,0],1,Ans.eff (ren (rnm [] 2) (rnm [] 0) (D.bp 0 0)) (qg [] [] {box:=upd (upd (fun _=>none) 0 (some (qw (wA 5) (-1) 6))) 1 (some (qw (wA 7) (-1) 5)),nl:=2,hw:=fun _=>none,nt:=0,vw:=fun _=>none:Heap} (hM (wA 5) (-1) 0))),([1,1,1,0],4,Ans.eff (ren (rnm [] 3) (rnm [] 0) (D.bp 0 0)) (qg [] [] {box:=upd (upd (upd (fun _=>none) 0 (some (qw (wA 5) (-1) 6))) 1 (some (qw (wA 7) (-1) 5))) 2 (some (qw (wA 5) (-1) 0)),nl:=3,hw:=fun _=>none,nt:=0,vw:=fun _=>none:Heap} (hM (wA 7) (-1) 0))),
 ([1,1,1,0],7,Ans.eff (ren (rnm [2,3] 4) (rnm [] 0) (.tup [L (sgA 2) 2 Iv.d,I 0])) (qg [2,3] [] {box:=upd (upd (upd (upd (fun _=>none) 0 (some (qw (wA 5) (-1) 6))) 1 (some (qw (wA 7) (-1) 5))) 2 (some (qw (wA 5) (-1) 0))) 3 (some (qw (wA 7) (-1) 0)),nl:=4,hw:=fun _=>none,nt:=0,vw:=fun _=>none:Heap} (hM2 (wA 5) (-1) 6 (wA 7) (-1) 5))),([1,1,1,1,0],6,Ans.pure [L (sgA 1) 2 Iv.d,L [{frm:=5,to:=6:Iv}] 2 Iv.d] (B true)),([1,1,1,1,0],18,Ans.pure [qg5] (I (-1)))]
theorem q3s(K:D->Prop):qo (En Tryz.f8) (fi Tryz.f8 K) (qui ) lv8 200 [.code []] ⟨qd 0 [],.empty⟩ =
 (Does PP 21 [I 5] Heap.empty (D.bp 0 0) (hM (wA 5) (-1) 0) /\
 Does PP 21 [I 7] {box:=upd (fun _=>none) 0 (some (qw (wA 5) (-1) 0)),nl:=1,hw:=fun _=>none,nt:=0,vw:=fun _=>none:Heap} (ren (rnm [] 1) (rnm [] 0) (D.bp 0 0)) (qg [] [] {box:=upd (fun _=>none) 0 (some (qw (wA 5) (-1) 0)),nl:=1,hw:=fun _=>none,nt:=0,vw:=fun _=>none:Heap} (hM (wA 7) (-1) 0)) /\
  Does PP 13 [D.iface 36 (D.bp 0 0),I 0,D.iface 36 (D.bp 1 0),I 0,.agg [I 1,.str {data:= #[48]:ByteArray}.data.toList,B false]] {box:=upd (upd (fun _=>none) 0 (some (qw (wA 5) (-1) 0))) 1 (some (qw (wA 7) (-1) 0)),nl:=2,hw:=fun _=>none,nt:=0,vw:=fun _=>none:Heap} (.tup [L (sgA 1) 2 Iv.d,I 0]) (hM2 (wA 5) (-1) 6 (wA 7) (-1) 5) /\
   Does PP 21 [I 5] {box:=upd (upd (fun _=>none) 0 (some (qw (wA 5) (-1) 6))) 1 (some (qw (wA 7) (-1) 5)),nl:=2,hw:=fun _=>none,nt:=0,vw:=fun _=>none:Heap} (ren (rnm [] 2) (rnm [] 0) (D.bp 0 0)) (qg [] [] {box:=upd (upd (fun _=>none) 0 (some (qw (wA 5) (-1) 6))) 1 (some (qw (wA 7) (-1) 5)),nl:=2,hw:=fun _=>none,nt:=0,vw:=fun _=>none:Heap} (hM (wA 5) (-1) 0)) /\
    Does PP 21 [I 7] {box:=upd (upd (upd (fun _=>none) 0 (some (qw (wA 5) (-1) 6))) 1 (some (qw (wA 7) (-1) 5))) 2 (some (qw (wA 5) (-1) 0)),nl:=3,hw:=fun _=>none,nt:=0,vw:=fun _=>none:Heap} (ren (rnm [] 3) (rnm [] 0) (D.bp 0 0)) (qg [] [] {box:=upd (upd (upd (fun _=>none) 0 (some (qw (wA 5) (-1) 6))) 1 (some (qw (wA 7) (-1) 5))) 2 (some (qw (wA 5) (-1) 0)),nl:=3,hw:=fun _=>none,nt:=0,vw:=fun _=>none:Heap} (hM (wA 7) (-1) 0)) /\
     Does PP 13 [D.iface 36 (D.bp 2 0),I 0,D.iface 36 (D.bp 3 0),I 0,.agg [I 2,.str {data:= #[48]:ByteArray}.data.toList,B false]] {box:=upd (upd (upd (upd (fun _=>none) 0 (some (qw (wA 5) (-1) 6))) 1 (some (qw (wA 7) (-1) 5))) 2 (some (qw (wA 5) (-1) 0))) 3 (some (qw (wA 7) (-1) 0)),nl:=4,hw:=fun _=>none,nt:=0,vw:=fun _=>none:Heap} (ren (rnm [2,3] 4) (rnm [] 0) (.tup [L (sgA 2) 2 Iv.d,I 0])) (qg [2,3] [] {box:=upd (upd (upd (upd (fun _=>none) 0 (some (qw (wA 5) (-1) 6))) 1 (some (qw (wA 7) (-1) 5))) 2 (some (qw (wA 5) (-1) 0))) 3 (some (qw (wA 7) (-1) 0)),nl:=4,hw:=fun _=>none,nt:=0,vw:=fun _=>none:Heap} (hM2 (wA 5) (-1) 6 (wA 7) (-1) 5))/\(true=true->PureW PP 16 [L (sgA 1) 2 Iv.d,.list 1 2 (zj [.agg [I 5,I 6]]) .full] [L (sgA 1) 2 Iv.d,L [{frm:=5,to:=6:Iv}] 2 Iv.d] (B true))/\((true=true->0<=q9)->(true=true->PQ PP 22 [qg5] (I (-1)))/\K (B true))):=by kernel_rfl
theorem F7:OkF 7 Tryz.f7:=⟨by kernel_rfl,by kernel_rfl,by kernel_rfl⟩
def quj:List (List Nat×List Nat):=[([1,1,1,1,1,0],[2,3,5,6,7,8,11,15,16,17])]
noncomputable def quk(v:Wv)(w:Wv)(i:Int)(k:Int)(t:Tol):List Nat->Nat->Option Ans:=qf [([1,0,0],3,Ans.pure [v.d,w.d,t.d] (B (cz v w t))),([1,0,0],7,Ans.pure [v.d] (B (clB v))),([1,0,0],12,Ans.pure [w.d] (B (clB w))),([1,0,1,0,0],0,Ans.pure [] (B true)),([1,1,0],1,Ans.eff (D.bp 0 0) (hM v (-1) 0)),([1,1,0],3,Ans.eff (ren (rnm [] 1) (rnm [] 0) (D.bp 0 0)) (qg [] [] {box:=upd (fun _=>none) 0 (some (qw v (-1) 0)),nl:=1,hw:=fun _=>none,nt:=0,vw:=fun _=>none:Heap} (hM w (-1) 0))),([1,1,1,0],7,Ans.eff (.tup [L (sgR v (-1) 0 w (-1) 0 i k t).out 2 Iv.d,I (sgR v (-1) 0 w (-1) 0 i k t).err]) (hM2 v (-1) (sgR v (-1) 0 w (-1) 0 i k t).c w (-1) (sgR v (-1) 0 w (-1) 0 i k t).d)),([1,1,1,1,0,1,0,0],4,Ans.pure [] (B true))]
theorem q3t(v w:Wv)(i k:Int)(t:Tol)(n:Int)(sec:Bool)(K:D->Prop):qo (En Tryz.f7) (fi Tryz.f7 K) (quk v w i k t) quj 200 [.code []] ⟨qd 0 [v.d,w.d,I i,I k,t.d,.int .u8 n,B sec],.empty⟩ =
 (PQ PP 11 [v.d,w.d,t.d] (B (cz v w t)) /\
 ((!!cz v w t)=true->PQ PP 12 [v.d] (B (clB v))) /\
  ((!bif !cz v w t then true else !clB v)=true->PQ PP 12 [w.d] (B (clB w))) /\
   bif bif bif !cz v w t then true else !clB v then true else !clB w then PQ PP 8 [] (B true)/\K (B true)
   else
    Does PP 14 [.agg [L v.sig 3 Sig.d,L v.gap 2 Iv.d,I v.fin]] Heap.empty (D.bp 0 0) (hM v (-1) 0) /\
     Does PP 14 [.agg [L w.sig 3 Sig.d,L w.gap 2 Iv.d,I w.fin]] {box:=upd (fun _=>none) 0 (some (qw v (-1) 0)),nl:=1,hw:=fun _=>none,nt:=0,vw:=fun _=>none:Heap} (ren (rnm [] 1) (rnm [] 0) (D.bp 0 0)) (qg [] [] {box:=upd (fun _=>none) 0 (some (qw v (-1) 0)),nl:=1,hw:=fun _=>none,nt:=0,vw:=fun _=>none:Heap} (hM w (-1) 0)) /\
      Does PP 13 [D.iface 36 (D.bp 0 0),I i,D.iface 36 (D.bp 1 0),I k,.agg [I t.time,.str t.val,B t.unk]] {box:=upd (upd (fun _=>none) 0 (some (qw v (-1) 0))) 1 (some (qw w (-1) 0)),nl:=2,hw:=fun _=>none,nt:=0,vw:=fun _=>none:Heap} (.tup [L (sgR v (-1) 0 w (-1) 0 i k t).out 2 Iv.d,I (sgR v (-1) 0 w (-1) 0 i k t).err]) (hM2 v (-1) (sgR v (-1) 0 w (-1) 0 i k t).c w (-1) (sgR v (-1) 0 w (-1) 0 i k t).d)/\bif(sgR v (-1) 0 w (-1) 0 i k t).err !=0 then(sgR v (-1) 0 w (-1) 0 i k t).out.length<=q9->(((↑(sgR v (-1) 0 w (-1) 0 i k t).out.length:Int)==0)=true->PQ PP 8 [] (B true))/\K (B (bif(↑(sgR v (-1) 0 w (-1) 0 i k t).out.length:Int)==0 then true else false)) else At (En Tryz.f7) (fi Tryz.f7 K) [It.code [1,1,1,1,1,0],It.code [1,1,1,1,1,1]] {sl:=[(2,I i),(3,I k),(5,D.int IntKind.u8 n),(6,B sec),(7,.own [L v.sig 3 Sig.d,L v.gap 2 Iv.d,I v.fin]),(8,.own [L w.sig 3 Sig.d,L w.gap 2 Iv.d,I w.fin]),(11,.own [I t.time,.str t.val,B t.unk]),(15,D.bp 0 0),(16,D.bp 1 0),(17,L (sgR v (-1) 0 w (-1) 0 i k t).out 2 Iv.d)],h:={box:=upd (upd (fun _=>none) 0 (some (qw v (-1) (sgR v (-1) 0 w (-1) 0 i k t).c))) 1 (some (qw w (-1) (sgR v (-1) 0 w (-1) 0 i k t).d)),nl:=2,hw:=fun _=>none,nt:=0,vw:=fun _=>none:Heap}:St}):=by kernel_rfl
def SLR(v:Wv)(c:Int)(w:Wv)(d i k tm:Int)(tv:Str)(tu:Bool)(n:Int)(sec:Bool)(out:List Iv):St:=⟨[(2,I i),(3,I k),(5,.int .u8 n),(6,B sec),(7,.own [L v.sig 3 Sig.d,L v.gap 2 Iv.d,I v.fin]),(8,.own [L w.sig 3 Sig.d,L w.gap 2 Iv.d,I w.fin]),(11,.own [I tm,.str tv,B tu]),(15,.bp 0 0),(16,.bp 1 0),(17,L out 2 Iv.d)],hM2 v (-1) c w (-1) d⟩
def qul:List (List Nat×List Nat):=[([1,1,1,1,1,1,1,1,0],[2,3,5,11,17,19,20,21])]
noncomputable def qum(v:Wv)(w:Wv)(c:Int)(d:Int):List Nat->Nat->Option Ans:=qf [([1,1,1,1,1,0],1,Ans.eff (ren (rnm [] 2) (rnm [] 0) (D.bp 0 0)) (qg [] [] {box:=upd (upd (fun _=>none) 0 (some (qw v (-1) c))) 1 (some (qw w (-1) d)),nl:=2,hw:=fun _=>none,nt:=0,vw:=fun _=>none:Heap} (hM v (-1) 0))),([1,1,1,1,1,0],3,Ans.eff (ren (rnm [] 3) (rnm [] 0) (D.bp 0 0)) (qg [] [] {box:=upd (upd (upd (fun _=>none) 0 (some (qw v (-1) c))) 1 (some (qw w (-1) d))) 2 (some (qw v (-1) 0)),nl:=3,hw:=fun _=>none,nt:=0,vw:=fun _=>none:Heap} (hM w (-1) 0)))]
theorem q3u(v w:Wv)(c d i k tm:Int)(tv:Str)(tu:Bool)(n:Int)(sec:Bool)(out:List Iv)(K:D->Prop):qo (En Tryz.f7) (fi Tryz.f7 K) (qum v w c d) qul 200 [.code [1,1,1,1,1,0],.code [1,1,1,1,1,1]] (SLR v c w d i k tm tv tu n sec out) =
 (Does PP 14 [.agg [L v.sig 3 Sig.d,L v.gap 2 Iv.d,I v.fin]] {box:=upd (upd (fun _=>none) 0 (some (qw v (-1) c))) 1 (some (qw w (-1) d)),nl:=2,hw:=fun _=>none,nt:=0,vw:=fun _=>none:Heap} (ren (rnm [] 2) (rnm [] 0) (D.bp 0 0)) (qg [] [] {box:=upd (upd (fun _=>none) 0 (some (qw v (-1) c))) 1 (some (qw w (-1) d)),nl:=2,hw:=fun _=>none,nt:=0,vw:=fun _=>none:Heap} (hM v (-1) 0)) /\
 Does PP 14 [.agg [L w.sig 3 Sig.d,L w.gap 2 Iv.d,I w.fin]] {box:=upd (upd (upd (fun _=>none) 0 (some (qw v (-1) c))) 1 (some (qw w (-1) d))) 2 (some (qw v (-1) 0)),nl:=3,hw:=fun _=>none,nt:=0,vw:=fun _=>none:Heap} (ren (rnm [] 3) (rnm [] 0) (D.bp 0 0)) (qg [] [] {box:=upd (upd (upd (fun _=>none) 0 (some (qw v (-1) c))) 1 (some (qw w (-1) d))) 2 (some (qw v (-1) 0)),nl:=3,hw:=fun _=>none,nt:=0,vw:=fun _=>none:Heap} (hM w (-1) 0)) /\
  bif sec then(32:Int)≠0/\True/\At (En Tryz.f7) (fi Tryz.f7 K) [It.code [1,1,1,1,1,1,1,1,0],It.code [1,1,1,1,1,1,1,1,1]] {sl:=[(2,I i),(3,I k),(5,D.int IntKind.u8 n),(11,.own [I tm,.str tv,B tu]),(17,L out 2 Iv.d),(19,D.bp 2 0),(20,D.bp 3 0),(21,I d)],h:={box:=upd (upd (upd (upd (upd (fun _=>none) 0 (some (qw v (-1) c))) 1 (some (qw w (-1) d))) 2 (some (qw v (-1) 0))) 3 (some (qw w (-1) 0))) 3 (some (Row.lit [L w.sig 3 Sig.d,L w.gap 2 Iv.d,I w.fin,I (IntKind.i64.wrap (n.tmod 32)),I 0])),nl:=4,hw:=fun _=>none,nt:=0,vw:=fun _=>none:Heap}:St}
  else(32:Int)≠0/\True/\At (En Tryz.f7) (fi Tryz.f7 K) [It.code [1,1,1,1,1,1,1,1,0],It.code [1,1,1,1,1,1,1,1,1]] {sl:=[(2,I i),(3,I k),(5,D.int IntKind.u8 n),(11,.own [I tm,.str tv,B tu]),(17,L out 2 Iv.d),(19,D.bp 2 0),(20,D.bp 3 0),(21,I c)],h:={box:=upd (upd (upd (upd (upd (fun _=>none) 0 (some (qw v (-1) c))) 1 (some (qw w (-1) d))) 2 (some (qw v (-1) 0))) 3 (some (qw w (-1) 0))) 2 (some (Row.lit [L v.sig 3 Sig.d,L v.gap 2 Iv.d,I v.fin,I (IntKind.i64.wrap (n.tmod 32)),I 0])),nl:=4,hw:=fun _=>none,nt:=0,vw:=fun _=>none:Heap}:St}):=by kernel_rfl
def hM4(v:Wv)(l:Int)(w:Wv)(m:Int):Heap:=⟨upd (upd (fun _=>none) 2 (some (.lit [L v.sig 3 Sig.d,L v.gap 2 Iv.d,I v.fin,I l,I 0]))) 3 (some (.lit [L w.sig 3 Sig.d,L w.gap 2 Iv.d,I w.fin,I m,I 0])),4,fun _=>none,0,fun _=>none⟩
def qpc(v:Wv)(l:Int)(w:Wv)(m i k tm:Int)(tv:Str)(tu:Bool)(n:Int)(out:List Iv)(q:Int):St:=⟨[(2,I i),(3,I k),(5,.int .u8 n),(11,.own [I tm,.str tv,B tu]),(17,L out 2 Iv.d),(19,.bp 2 0),(20,.bp 3 0),(21,I q)],hM4 v l w m⟩
noncomputable def qun(v:Wv)(w:Wv)(l:Int)(m:Int)(i:Int)(k:Int)(tm:Int)(tv:Str)(tu:Bool)(out:List Iv):List Nat->Nat->Option Ans:=qf [([1,1,1,1,1,1,1,1,0],7,Ans.eff (ren (rnm [2,3] 4) (rnm [] 0) (.tup [L (sgR v l 0 w m 0 i k {time:=tm,val:=tv,unk:=tu:Tol}).out 2 Iv.d,I (sgR v l 0 w m 0 i k {time:=tm,val:=tv,unk:=tu:Tol}).err])) (qg [2,3] [] {box:=upd (upd (fun _=>none) 2 (some (qw v l 0))) 3 (some (qw w m 0)),nl:=4,hw:=fun _=>none,nt:=0,vw:=fun _=>none:Heap} (hM2 v l (sgR v l 0 w m 0 i k {time:=tm,val:=tv,unk:=tu:Tol}).c w m (sgR v l 0 w m 0 i k {time:=tm,val:=tv,unk:=tu:Tol}).d))),([1,1,1,1,1,1,1,1,1,0,1,0,0],5,Ans.pure [L out 2 Iv.d,L (sgR v l 0 w m 0 i k {time:=tm,val:=tv,unk:=tu:Tol}).out 2 Iv.d] (B true)),([1,1,1,1,1,1,1,1,1,0,1,0,0],8,Ans.pure [] (B true)),([1,1,1,1,1,1,1,1,1,1,0],8,Ans.pure [] (B true))]
theorem q3v(v w:Wv)(l m i k tm:Int)(tv:Str)(tu:Bool)(n:Int)(out:List Iv)(q:Int)(K:D->Prop):qo (En Tryz.f7) (fi Tryz.f7 K) (qun v w l m i k tm tv tu out) dr 200 [.code [1,1,1,1,1,1,1,1,0],.code [1,1,1,1,1,1,1,1,1]] (qpc v l w m i k tm tv tu n out q) =
 (Does PP 13 [D.iface 36 (D.bp 2 0),I i,D.iface 36 (D.bp 3 0),I k,.agg [I tm,.str tv,B tu]] {box:=upd (upd (fun _=>none) 2 (some (qw v l 0))) 3 (some (qw w m 0)),nl:=4,hw:=fun _=>none,nt:=0,vw:=fun _=>none:Heap} (ren (rnm [2,3] 4) (rnm [] 0) (.tup [L (sgR v l 0 w m 0 i k {time:=tm,val:=tv,unk:=tu:Tol}).out 2 Iv.d,I (sgR v l 0 w m 0 i k {time:=tm,val:=tv,unk:=tu:Tol}).err])) (qg [2,3] [] {box:=upd (upd (fun _=>none) 2 (some (qw v l 0))) 3 (some (qw w m 0)),nl:=4,hw:=fun _=>none,nt:=0,vw:=fun _=>none:Heap} (hM2 v l (sgR v l 0 w m 0 i k {time:=tm,val:=tv,unk:=tu:Tol}).c w m (sgR v l 0 w m 0 i k {time:=tm,val:=tv,unk:=tu:Tol}).d)) /\
 (32:Int)≠0/\bif decide (IntKind.i64.wrap (n.tmod 32)>=q) then(((sgR v l 0 w m 0 i k {time:=tm,val:=tv,unk:=tu:Tol}).err==0)=true->PQ PP 16 [L out 2 Iv.d,L (sgR v l 0 w m 0 i k {time:=tm,val:=tv,unk:=tu:Tol}).out 2 Iv.d] (B true))/\((bif(sgR v l 0 w m 0 i k {time:=tm,val:=tv,unk:=tu:Tol}).err==0 then true else false)=true->PQ PP 8 [] (B true))/\K (B (bif bif(sgR v l 0 w m 0 i k {time:=tm,val:=tv,unk:=tu:Tol}).err==0 then true else false then true else false)) else(((sgR v l 0 w m 0 i k {time:=tm,val:=tv,unk:=tu:Tol}).err==14)=true->(sgR v l 0 w m 0 i k {time:=tm,val:=tv,unk:=tu:Tol}).out.length<=q9)->((bif(sgR v l 0 w m 0 i k {time:=tm,val:=tv,unk:=tu:Tol}).err==14 then(↑(sgR v l 0 w m 0 i k {time:=tm,val:=tv,unk:=tu:Tol}).out.length:Int)==0 else false)=true->PQ PP 8 [] (B true))/\K (B (bif bif(sgR v l 0 w m 0 i k {time:=tm,val:=tv,unk:=tu:Tol}).err==14 then(↑(sgR v l 0 w m 0 i k {time:=tm,val:=tv,unk:=tu:Tol}).out.length:Int)==0 else false then true else false))):=by kernel_rfl
end Go.Proofs.YtiekphbkomddfaaGreatDoor.S1
namespace Go.Proofs.YtiekphbkomddfaaGreatDoor.S1
open Go Go.Ab Go.Proofs

attribute [local instance] w7
theorem c11(v w:Wv)(t:Tol):Pure PP 11 [v.d,w.d,t.d] (B (cz v w t)) :=
 pu F11 (by kernel_rfl) (of_eq (q3l v w t _) ⟨PureW.mk (c19 v),fun _=>PureW.mk (c19 w),fun _=>Wk.refl _⟩)
theorem c16(a:List Iv):Pure PP 16 [L a 2 Iv.d,L a 2 Iv.d] (B true):=by
 refine pu F16 (by kernel_rfl) (of_eq (q3m a _) fun hl _=>qa (fun h=>by simp at h) fun h=> ?_)
 refine lp (fn:=Tryz.f16) (fun i:Nat=>i<=a.length) (fun i=>qwd a i) (fun i=>a.length-i) [0,1,5] (by kernel_rfl) (fun i hi=>of_eq (que a i _ _) fun hl=>qa (fun hlt=> ?_) fun hge=> ?_) 0 (Nat.zero_le _)
 ·have hlt:=ltI hlt
  rw[cn hlt hl]
  refine⟨⟨by omega,by omega⟩,⟨by omega,by omega⟩,qa (fun h=>by simp at h) fun h=>Nx.mk (i+1) (by omega) (by omega)⟩
 ·exact Wk.refl _
theorem qhl{w:Wv}(h:smB w=true):∀q∈w.sig,(0<=q.kind/\q.kind<=3)/\∀x∈q.chg,x.val.length<=64:=fun q hq=>by
 unfold smB at h
 rw[Bool.and_eq_true,Bool.and_eq_true]at h
 have h1:=List.all_eq_true.1 h.2.1 q hq
 unfold ry at h1
 rw[Bool.and_eq_true,Bool.not_eq_true']at h1
 obtain⟨w1,w2,w3,w4⟩:=ut h1.1
 refine⟨⟨w3,w4⟩,?_⟩
 have key:∀(l:List Chg) (p:Option Chg) (b:Str),ru w q p b l=true->∀x∈l,x.val.length<=64:=fun l=>by
  induction l with
  |nil=>intro p b _ x hx;cases hx
  |cons y r ih =>
   intro p b hc x hx
   rw[ru,Bool.and_eq_true,Bool.not_eq_true']at hc
   rcases List.mem_cons.1 hx with rfl|hx
   ·have hv:qhz q x.val=true:=by
     cases hv:qhz q x.val with
     |true=>rfl
     |false =>
      have h2:=hc.1
      unfold an at h2
      rw[hv]at h2
      simp only[Bool.cond_eq_ite]at h2
      simp at h2
    unfold qhz at hv
    by_cases k3:q.kind=3
    ·rw[show(q.kind==3)=true from beq_iff_eq.2 k3,cond_true]at hv
     rw[beq_iff_eq.1 hv];exact Nat.zero_le _
    ·rw[show(q.kind==3)=false from beq_eq_false_iff_ne.2 k3,cond_false]at hv
     by_cases k0:q.kind=0
     ·rw[show(q.kind==0)=true from beq_iff_eq.2 k0,cond_true,Bool.and_eq_true]at hv
      have:=beq_iff_eq.1 hv.2
      omega
     ·rw[show(q.kind==0)=false from beq_eq_false_iff_ne.2 k0,cond_false]at hv
      have:=of_decide_eq_true hv
      omega
   ·exact ih _ _ hc.2 x hx
 exact key _ _ _ h1.2
theorem c12(w:Wv)(h:smB w=true):Pure PP 12 [w.d] (B (clB w)):=by
 have hv:=qhl h
 have ho:=xx h
 refine pu F12 (by kernel_rfl) (of_eq (nCl w _) fun hl=> ?_)
 refine lp (fn:=Tryz.f12) (fun i:Nat=>i<=w.sig.length/\clB w=(w.sig.drop i).all fun q=>q.chg.all fun x=> !(bif q.kind==1 then !(q8 x.val).2 else false)) (fun i=>SCl w i) (fun i=>w.sig.length-i) [8,9,10] (by kernel_rfl) (fun i hi=>of_eq (q3o w i _ _) (qa (fun hlt=> ?_) fun hge=> ?_)) 0 ⟨Nat.zero_le _,rfl⟩
 ·have hlt:=ltI hlt
  obtain⟨_,he⟩:=hi
  rw[cp hlt]at he
  rw[Int.toNat_natCast]
  have hm:w.sig.getD i default∈w.sig:=by
   rw[List.getD_eq_getElem?_getD,List.getElem?_eq_getElem hlt];exact List.getElem_mem hlt
  have hx:=(hv _ hm).2
  generalize w.sig.getD i default=q at *
  refine⟨⟨by omega,by omega⟩,trivial,fun hql=> ?_⟩
  refine lp (fn:=Tryz.f12) (fun k:Nat=>k<=q.chg.length/\(q.chg.all fun x=> !(bif q.kind==1 then !(q8 x.val).2 else false))=(q.chg.drop k).all fun x=> !(bif q.kind==1 then !(q8 x.val).2 else false)) (fun k=>qwe w i q k) (fun k=>q.chg.length-k) [4,8,9,10,15,16,17] (by kernel_rfl) (fun k hk=>of_eq (q3p w i q k _ _ _) (qa (fun hlt2=> ?_) fun hge2=> ?_)) 0 ⟨Nat.zero_le _,rfl⟩
  ·have hlt2:=ltI hlt2
   obtain⟨_,hc⟩:=hk
   rw[cp hlt2]at hc
   rw[Int.toNat_natCast,cn hlt2 hql]
   have hm2:q.chg.getD k default∈q.chg:=by
    rw[List.getD_eq_getElem?_getD,List.getElem?_eq_getElem hlt2];exact List.getElem_mem hlt2
   have hxl:=hx _ hm2
   refine⟨⟨by omega,by omega⟩,trivial,fun _=>PureW.mk (c28 _ (by omega)),qa (fun h1=> ?_) fun h1=> ?_⟩
   ·rw[h1]at hc
    rw[he,hc];exact Wk.refl _
   ·rw[h1]at hc
    exact Nx.mk (k+1) ⟨hlt2,hc⟩ (by omega)
  ·obtain⟨_,hc⟩:=hk
   rw[List.drop_of_length_le (geI hge2)]at hc
   rw[hc]at he
   rw[cn hlt hl]
   exact Nx.mk (i+1) ⟨hlt,he⟩ (by omega)
 ·rw[hi.2,List.drop_of_length_le (geI hge)];exact Wk.refl _
theorem Does.args{f:Nat}{args args':List D}{h h':Heap}{v:D}(c:Does PP f args' h v h')(hw:Wks args args'):Does PP f args h v h':=fun K hk=>⟨(c K hk).ok,fun g U w vs i hs=>(c K hk).calls g U w vs i (hw g vs hs)⟩
theorem e21(t:Int):Does PP 21 [I t] .empty (.bp 0 0) (hM (wA t) (-1) 0):=by
 refine du F21 (by kernel_rfl) (of_eq (nRi t _) ⟨Does.args (args':=[(wA t).d]) (fr (e14 (wA t)) [] []) ?_,RetLe.refl _ _⟩)
 refine Wks.cons (Wk.agg (Wks.cons (Wk.litW (l:=(wA t).sig) (enc:=Sig.d) rfl fun i hi=> ?_) (Wks.cons (Wk.nilL (α:=Iv) (sz':=2) (enc:=Iv.d)) (Wks.refl _)))) (Wks.refl _)
 rcases i with _|i
 ·exact⟨Wk.agg (Wks.cons (Wk.refl _) (Wks.cons (Wk.refl _) (Wks.cons (Wk.litL rfl rfl) (Wks.refl _)))),fun _=>rfl⟩
 ·exact absurd hi (by simp[wA])
theorem eSg{v w:Wv}(hv:SmOk v)(hw:SmOk w)(h40:v.fin<=40)(l m i k:Int)(t:Tol):Does PP 13 [xk,I i,qdv,I k,t.d] (hM2 v l 0 w m 0) (.tup [L (sgR v l 0 w m 0 i k t).out 2 Iv.d,I (sgR v l 0 w m 0 i k t).err]) (hM2 v l (sgR v l 0 w m 0 i k t).c w m (sgR v l 0 w m 0 i k t).d) :=
 e13 hv.of hw.of l 0 m 0 i k t (qol hv hw h40 l m i k)
theorem qpd:smB (wA 5)=true:=by decide +kernel
theorem qpe:smB (wA 7)=true:=by decide +kernel
theorem q3w:sgR (wA 5) (-1) 0 (wA 7) (-1) 0 0 0 ⟨1,[48],false⟩=⟨[⟨5,6⟩],0,6,5⟩:=by
 have h:=(qau (xx qpd) (xx qpe) (i:=0) (k:=0) (t:=⟨1,[48],false⟩) (by decide) (by decide +kernel) (-1) (-1)).1 ⟨.inl (by decide),.inl (by decide)⟩
 rw[h]
 have h1:y6 (wA 5) (wA 7) 0 0 ⟨1,[48],false⟩=[⟨5,6⟩]:=by decide +kernel
 have h2:nA (wA 5) (wA 7) 0=6:=by decide +kernel
 have h3:nB (wA 5) (wA 7) 0=5:=by decide +kernel
 rw[h1,h2,h3]
theorem q3x:sgR (wA 5) (-1) 0 (wA 7) (-1) 0 0 0 ⟨2,[48],false⟩=⟨[],0,6,5⟩:=by
 have h:=(qau (xx qpd) (xx qpe) (i:=0) (k:=0) (t:=⟨2,[48],false⟩) (by decide) (by decide +kernel) (-1) (-1)).1 ⟨.inl (by decide),.inl (by decide)⟩
 rw[h]
 have h1:y6 (wA 5) (wA 7) 0 0 ⟨2,[48],false⟩=[]:=by decide +kernel
 have h2:nA (wA 5) (wA 7) 0=6:=by decide +kernel
 have h3:nB (wA 5) (wA 7) 0=5:=by decide +kernel
 rw[h1,h2,h3]
theorem c8:Pure PP 8 [] (B true):=by
 have h1:=eSg (xx qpd) (xx qpe) (by decide) (-1) (-1) 0 0 ⟨1,[48],false⟩
 have h2:=eSg (xx qpd) (xx qpe) (by decide) (-1) (-1) 0 0 ⟨2,[48],false⟩
 rw[q3w]at h1
 rw[q3x]at h2
 refine pu F8 (by kernel_rfl) (of_eq (q3s _) ⟨e21 5,fr (e21 7) [] [],h1,fr (e21 5) [] [],fr (e21 7) [] [],fr h2 [2,3] [],fun _=>⟨Wks.cons (Wk.refl _) (Wks.cons (Wk.litW rfl fun i hi=> ?_) (Wks.refl _)),c16 _⟩,fun _=>⟨fun _=>PureW.mk q1v,Wk.refl _⟩⟩)
 rcases i with _|i
 ·exact⟨Wk.refl _,fun _=>rfl⟩
 ·exact absurd hi (by simp)
end Go.Proofs.YtiekphbkomddfaaGreatDoor.S1
namespace Go.Proofs.YtiekphbkomddfaaGreatDoor.S1
open Go Go.Ab Go.Proofs

attribute [local instance] w7
theorem qhm(u:Bool)(x y:UInt8):qh1 u x y=qh1 u y x:=by
 unfold qh1
 have h:((x.toNat:Int)!=(y.toNat:Int))=((y.toNat:Int)!=(x.toNat:Int)):=bne_comm
 rw[h]
 cases ((y.toNat:Int)!=(x.toNat:Int)) <;> cases u <;> cases qex x <;> cases qex y <;> rfl
theorem qhn(u:Bool)(x:UInt8):qh1 u x x=false:=by
 unfold qh1
 rw[bne_self_eq_false];rfl
theorem qe0(u:Bool)(a b:Str):gk u a b=gk u b a:=by
 unfold gk
 by_cases h:a.length=b.length
 ·rw[decide_eq_true h,decide_eq_true h.symm,h]
  simp only[qhm u]
 ·rw[decide_eq_false h,decide_eq_false fun e=>h e.symm];rfl
theorem qe1(u:Bool)(a:Str):gk u a a=true:=by
 unfold gk
 rw[decide_eq_true rfl,Bool.true_and,List.all_eq_true]
 intro i _
 rw[qhn];rfl
theorem qjm(a b t:Str):wiB a b t=wiB b a t:=by
 unfold wiB
 cases ha:(q8 a).2 <;> cases hb:(q8 b).2 <;> cases ht:(q8 t).2 <;> try rfl
 show qli (q8 a).1 (q8 b).1 (q8 t).1=qli (q8 b).1 (q8 a).1 (q8 t).1
 rw[cr (zo ha) (zo hb) (zo ht),cr (zo hb) (zo ha) (zo ht),decide_eq_decide]
 omega
theorem qjn{a b t:Str}(h:wiB a b t=true):(q8 a).2=true/\(q8 b).2=true/\(q8 t).2=true/\(((q8 a).1.val-(q8 b).1.val).natAbs:Int)<=(q8 t).1.val:=by
 unfold wiB at h
 cases ha:(q8 a).2 <;> cases hb:(q8 b).2 <;> cases ht:(q8 t).2 <;> rw[ha,hb,ht]at h <;> try (cases h)
 have h:qli (q8 a).1 (q8 b).1 (q8 t).1=true:=h
 rw[cr (zo ha) (zo hb) (zo ht)]at h
 exact⟨rfl,rfl,rfl,of_decide_eq_true h⟩
theorem qko{a b t:Str}(ha:(q8 a).2=true)(hb:(q8 b).2=true)(ht:(q8 t).2=true)(h:(((q8 a).1.val-(q8 b).1.val).natAbs:Int)<=(q8 t).1.val):wiB a b t=true:=by
 unfold wiB
 rw[ha,hb,ht]
 show qli (q8 a).1 (q8 b).1 (q8 t).1=true
 rw[cr (zo ha) (zo hb) (zo ht)]
 exact decide_eq_true h
theorem qjo(k:Int)(t:Tol)(a b:Str):saF k t a b=saF k t b a:=by
 unfold saF
 rw[qe0,qjm,show(a==b)=(b==a) from BEq.comm]
theorem qho(v w:Wv):vt v w=vt w v:=by unfold vt;split <;> split <;> omega
theorem i6(v w:Wv)(i k:Int)(t:Tol):erF v w i k t=erF w v k i t:=by
 unfold erF
 simp only[and_comm (a:=inS v i),ne_comm (a:=(qj v i).kind),ne_comm (a:=(qj v i).width)]
theorem qd0{v w:Wv}{i k:Int}{t:Tol}{e s:Int}(hk:(qj v i).kind=(qj w k).kind)(h:dfP v i w k t e s):dfP w k v i t e s:=by
 unfold dfP at *
 rw[<-hk]
 refine⟨h.1,?_⟩
 rcases h.2 with ⟨h3,h4⟩|⟨h3,h4,h5⟩
 ·exact .inl ⟨h3,h4.symm⟩
 ·exact .inr ⟨h3,by rw[qjo];exact h4,fun g=>h5 ⟨g.2,g.1⟩⟩
theorem qhp{a b:List Iv}{P:Int->Prop}(h1:∀s,a.any (inP s)=true↔P s)(h2:∀s,b.any (inP s)=true↔P s):∀s,a.any (inP s)=b.any (inP s):=fun s=>by
 rw[Bool.eq_iff_iff,h1,h2]
theorem qhq{v w:Wv}(hv:SmOk v)(hw:SmOk w){i k:Int}{t:Tol}(h:erF v w i k t=0):y6 v w i k t=y6 w v k i t:=by
 obtain⟨n1,n2⟩:=yu hv hw h
 obtain⟨m1,m2⟩:=yu hw hv (by rw[<-i6];exact h)
 have hk:=(ix h).2.2.2.1
 refine qln n1 m1 (qhp n2 fun s=> ?_)
 rw[m2,qho]
 exact⟨qd0 hk.symm,qd0 hk⟩
theorem qjp{v w:Wv}{i k:Int}{t u:Tol}{e s:Int}(ht:t.time<=u.time)(hs:∀a b,saF (qj v i).kind t a b=true->saF (qj v i).kind u a b=true)(h:dfP v i w k u e s):dfP v i w k t e s:=by
 have hn:∀(B:Int->Str) (z:Str),th (qj v i).kind t B z e s->th (qj v i).kind u B z e s:=fun B z ⟨x,h1,h2,h3,h4,h5⟩=>⟨x,h1,h2,by omega,by omega,hs _ _ h5⟩
 unfold dfP at *
 refine⟨h.1,?_⟩
 rcases h.2 with ⟨h3,h4⟩|⟨h3,h4,h5⟩
 ·refine .inl ⟨h3,?_⟩
  rcases h4 with ⟨g1,g2⟩|⟨g1,g2⟩
  ·exact .inl ⟨g1,fun⟨x,k1,k2,k3,k4⟩=>g2 ⟨x,k1,k2,by omega,by omega⟩⟩
  ·exact .inr ⟨g1,fun⟨x,k1,k2,k3,k4⟩=>g2 ⟨x,k1,k2,by omega,by omega⟩⟩
 ·refine .inr ⟨h3,?_,fun g=>h5 ⟨hn _ _ g.1,hn _ _ g.2⟩⟩
  cases hc:saF (qj v i).kind t (vc (qj v i) s) (vc (qj w k) s) with
  |false=>rfl
  |true=>rw[hs _ _ hc]at h4;cases h4
theorem qcj:∀{l:List Iv} {lo:Int},Nor lo l->(∀s,l.any (inP s)=false)->l=[]
 | [],_,_,_=>rfl
 |x::r,_,h,hs=>by
  have:=hs x.frm
  rw[List.any_cons,jh.2 ⟨Int.le_refl _,h.2.1⟩]at this
  cases this
theorem qow{z x:List Iv}(h:∀s,z.any (inP s)=true->x.any (inP s)=true):cmR 2 z x=[]:=by
 obtain⟨n1,n2⟩:=pi 2 z x
 refine qcj n1 fun s=> ?_
 rw[n2]
 by_cases hs:0<=s/\s<=1099511627776
 ·rw[zc hs,zc hs]
  cases hz:z.any (inP s) with
  |false=>cases x.any (inP s) <;> simp[okR]
  |true=>rw[h s hz];simp[okR]
 ·rw[decide_eq_false hs];rfl
theorem i7{v w:Wv}(hv:SmOk v)(hw:SmOk w){i k:Int}{t u:Tol}(h:erF v w i k t=0)(h2:erF v w i k u=0)(ht:t.time<=u.time)(hs:∀a b,saF (qj v i).kind t a b=true->saF (qj v i).kind u a b=true):cmR 2 (y6 v w i k u) (y6 v w i k t)=[] :=
 qow fun s g=>((yu hv hw h).2 s).2 (qjp ht hs (((yu hv hw h2).2 s).1 g))
theorem ql7{k:Int}{t:Tol}{a b:Str}(h:saF k t a b=true):saF k ⟨t.time,t.val,true⟩ a b=true:=by
 unfold saF at *
 have e:px ⟨t.time,t.val,true⟩=px t:=rfl
 rw[e]
 cases ht:px t with
 |false=>rw[ht]at h;cases h
 |true =>
  rw[ht]at h
  cases k0:k==0 with
  |true =>
   rw[k0]at h
   have h:gk t.unk a b=true:=h
   show gk true a b=true
   unfold gk at *
   rw[Bool.and_eq_true]at h⊢
   refine⟨h.1,List.all_eq_true.2 fun i hi=> ?_⟩
   have:=List.all_eq_true.1 h.2 i hi
   rw[Bool.not_eq_true']at this⊢
   unfold qh1 at *
   cases hc:((((a.getD i 0).toNat:Int))!=((b.getD i 0).toNat:Int)) with
   |false=>rfl
   |true =>
    rw[hc]at this
    cases hu:t.unk with
    |false=>rw[hu]at this;cases this
    |true=>rw[hu]at this;exact this
  |false=>rw[k0]at h;exact h
theorem qjq{k:Int}{t:Tol}{a b:Str}{x:Int}(hx:0<=x/\x<=1099511627776)(h:saF k t a b=true):saF k ⟨x,t.val,t.unk⟩ a b=true:=by
 unfold saF at *
 cases ht:px t with
 |false=>rw[ht]at h;cases h
 |true =>
  have e:px ⟨x,t.val,t.unk⟩=true:=by
   unfold px at ht⊢
   have tt:=u0 (t:=t) ht
   rw[decide_eq_true (show t.time>=0 by omega),decide_eq_true tt.2]at ht
   simp only
   rw[decide_eq_true (show x>=0 by omega),decide_eq_true hx.2]
   exact ht
  rw[e]
  rw[ht]at h
  exact h
end Go.Proofs.YtiekphbkomddfaaGreatDoor.S1
namespace Go.Proofs.YtiekphbkomddfaaGreatDoor.S1
open Go Go.Ab Go.Proofs

attribute [local instance] w7
def sgO(v w:Wv)(i k:Int)(t:Tol):List Iv:=if erF v w i k t=0 then y6 v w i k t else[]
theorem F5:OkF 5 Tryz.f5:=⟨by kernel_rfl,by kernel_rfl,by kernel_rfl⟩
def qup:List (List Nat×List Nat):=[([1,1,0],[2,3,5,6,7,10])]
noncomputable def quq(v:Wv)(w:Wv)(t:Tol):List Nat->Nat->Option Ans:=qf [([1,0,0],3,Ans.pure [v.d,w.d,t.d] (B (cz v w t))),([1,0,0],7,Ans.pure [v.d] (B (clB v))),([1,0,0],12,Ans.pure [w.d] (B (clB w))),([1,0,1,0,0],0,Ans.pure [] (B true))]
theorem q3y(v w:Wv)(i k:Int)(t:Tol)(n:Int)(K:D->Prop):qo (En Tryz.f5) (fi Tryz.f5 K) (quq v w t) qup 200 [.code []] ⟨qd 0 [v.d,w.d,I i,I k,t.d,I n],.empty⟩ =
 (PQ PP 11 [v.d,w.d,t.d] (B (cz v w t))/\((!!cz v w t)=true->PQ PP 12 [v.d] (B (clB v)))/\((!bif !cz v w t then true else !clB v)=true->PQ PP 12 [w.d] (B (clB w)))/\bif bif bif bif bif !cz v w t then true else !clB v then true else !clB w then true else decide (n<0) then true else decide (n > 100) then PQ PP 8 [] (B true)/\K (B true) else At (En Tryz.f5) (fi Tryz.f5 K) [It.code [1,1,0],It.code [1,1,1]] {sl:=[(2,I i),(3,I k),(5,I n),(6,.own [L v.sig 3 Sig.d,L v.gap 2 Iv.d,I v.fin]),(7,.own [L w.sig 3 Sig.d,L w.gap 2 Iv.d,I w.fin]),(10,.own [I t.time,.str t.val,B t.unk])],h:=Heap.empty:St}):=by kernel_rfl
def sMe(v w:Wv)(i k n:Int)(t:Tol):List (Nat×D):=[(2,I i),(3,I k),(5,I n),(6,.own [L v.sig 3 Sig.d,L v.gap 2 Iv.d,I v.fin]),(7,.own [L w.sig 3 Sig.d,L w.gap 2 Iv.d,I w.fin]),(10,.own [I t.time,.str t.val,B t.unk])]
def hBl(n:Nat):Heap:=⟨fun _=>none,n,fun _=>none,0,fun _=>none⟩
def qur:List (List Nat×List Nat):=[([1,1,1,0],[2,3,5,6,7,10,13,14])]
noncomputable def qus(v:Wv)(w:Wv)(i:Int)(k:Int)(t:Tol):List Nat->Nat->Option Ans:=qf [([1,1,0],1,Ans.eff (D.bp 0 0) (hM v (-1) 0)),([1,1,0],5,Ans.eff (ren (rnm [] 1) (rnm [] 0) (D.bp 0 0)) (qg [] [] {box:=upd (fun _=>none) 0 (some (qw v (-1) 0)),nl:=1,hw:=fun _=>none,nt:=0,vw:=fun _=>none:Heap} (hM w (-1) 0))),([1,1,0],9,Ans.eff (.tup [L (sgO v w i k t) 2 Iv.d,I (erF v w i k t)]) (hBl 2))]
theorem q3z(v w:Wv)(i k n:Int)(t:Tol)(K:D->Prop):qo (En Tryz.f5) (fi Tryz.f5 K) (qus v w i k t) qur 200 [.code [1,1,0],.code [1,1,1]] ⟨sMe v w i k n t,.empty⟩ =
 (Does PP 14 [.agg [L v.sig 3 Sig.d,L v.gap 2 Iv.d,I v.fin]] Heap.empty (D.bp 0 0) (hM v (-1) 0) /\
 Does PP 14 [.agg [L w.sig 3 Sig.d,L w.gap 2 Iv.d,I w.fin]] {box:=upd (fun _=>none) 0 (some (qw v (-1) 0)),nl:=1,hw:=fun _=>none,nt:=0,vw:=fun _=>none:Heap} (ren (rnm [] 1) (rnm [] 0) (D.bp 0 0)) (qg [] [] {box:=upd (fun _=>none) 0 (some (qw v (-1) 0)),nl:=1,hw:=fun _=>none,nt:=0,vw:=fun _=>none:Heap} (hM w (-1) 0))/\Does PP 13 [D.iface 36 (D.bp 0 0),I i,D.iface 36 (D.bp 1 0),I k,.agg [I t.time,.str t.val,B t.unk]] {box:=upd (upd (fun _=>none) 0 (some (qw v (-1) 0))) 1 (some (qw w (-1) 0)),nl:=2,hw:=fun _=>none,nt:=0,vw:=fun _=>none:Heap} (.tup [L (sgO v w i k t) 2 Iv.d,I (erF v w i k t)]) (hBl 2)/\At (En Tryz.f5) (fi Tryz.f5 K) [It.code [1,1,1,0],It.code [1,1,1,1]] {sl:=[(2,I i),(3,I k),(5,I n),(6,.own [L v.sig 3 Sig.d,L v.gap 2 Iv.d,I v.fin]),(7,.own [L w.sig 3 Sig.d,L w.gap 2 Iv.d,I w.fin]),(10,.own [I t.time,.str t.val,B t.unk]),(13,L (sgO v w i k t) 2 Iv.d),(14,I (erF v w i k t))],h:=(hBl 2):St}):=by kernel_rfl
def qut:List (List Nat×List Nat):=[([1,1,1,1,1,1,0],[2,3,5,6,7,10,13])]
noncomputable def quu(v:Wv)(w:Wv)(i:Int)(k:Int)(t:Tol)(x:List Iv):List Nat->Nat->Option Ans:=qf [([1,1,1,0],1,Ans.eff (ren (rnm [] 2) (rnm [] 0) (D.bp 0 0)) (qg [] [] (hBl 2) (hM w (-1) 0))),([1,1,1,0],5,Ans.eff (ren (rnm [] 3) (rnm [] 0) (D.bp 0 0)) (qg [] [] {box:=upd (fun _=>none) 2 (some (qw w (-1) 0)),nl:=3,hw:=fun _=>none,nt:=0,vw:=fun _=>none:Heap} (hM v (-1) 0))),([1,1,1,0],9,Ans.eff (ren (rnm [2,3] 4) (rnm [] 0) (.tup [L (sgO w v k i t) 2 Iv.d,I (erF w v k i t)])) (qg [2,3] [] {box:=upd (upd (fun _=>none) 2 (some (qw w (-1) 0))) 3 (some (qw v (-1) 0)),nl:=4,hw:=fun _=>none,nt:=0,vw:=fun _=>none:Heap} (hBl 2))),([1,1,1,1,0,0],10,Ans.pure [L x 2 Iv.d,L (sgO w v k i t) 2 Iv.d] (B true)),([1,1,1,1,1,0,1,0,0],0,Ans.pure [] (B true))]
theorem q30(v w:Wv)(i k n:Int)(t:Tol)(x:List Iv)(e:Int)(K:D->Prop):qo (En Tryz.f5) (fi Tryz.f5 K) (quu v w i k t x) qut 200 [.code [1,1,1,0],.code [1,1,1,1]] ⟨sMe v w i k n t++[(13,L x 2 Iv.d),(14,I e)],hBl 2⟩ =
 (Does PP 14 [.agg [L w.sig 3 Sig.d,L w.gap 2 Iv.d,I w.fin]] (hBl 2) (ren (rnm [] 2) (rnm [] 0) (D.bp 0 0)) (qg [] [] (hBl 2) (hM w (-1) 0)) /\
 Does PP 14 [.agg [L v.sig 3 Sig.d,L v.gap 2 Iv.d,I v.fin]] {box:=upd (fun _=>none) 2 (some (qw w (-1) 0)),nl:=3,hw:=fun _=>none,nt:=0,vw:=fun _=>none:Heap} (ren (rnm [] 3) (rnm [] 0) (D.bp 0 0)) (qg [] [] {box:=upd (fun _=>none) 2 (some (qw w (-1) 0)),nl:=3,hw:=fun _=>none,nt:=0,vw:=fun _=>none:Heap} (hM v (-1) 0)) /\
  Does PP 13 [D.iface 36 (D.bp 2 0),I k,D.iface 36 (D.bp 3 0),I i,.agg [I t.time,.str t.val,B t.unk]] {box:=upd (upd (fun _=>none) 2 (some (qw w (-1) 0))) 3 (some (qw v (-1) 0)),nl:=4,hw:=fun _=>none,nt:=0,vw:=fun _=>none:Heap} (ren (rnm [2,3] 4) (rnm [] 0) (.tup [L (sgO w v k i t) 2 Iv.d,I (erF w v k i t)])) (qg [2,3] [] {box:=upd (upd (fun _=>none) 2 (some (qw w (-1) 0))) 3 (some (qw v (-1) 0)),nl:=4,hw:=fun _=>none,nt:=0,vw:=fun _=>none:Heap} (hBl 2)) /\
   ((!bif e !=erF w v k i t then e !=2 else false)=true->PQ PP 16 [L x 2 Iv.d,L (sgO w v k i t) 2 Iv.d] (B true))/\bif bif bif e !=erF w v k i t then e !=2 else false then true else false then K (B false) else bif e !=0 then PQ PP 8 [] (B true)/\K (B true) else At (En Tryz.f5) (fi Tryz.f5 K) [It.code [1,1,1,1,1,1,0],It.code [1,1,1,1,1,1,1]] {sl:=[(2,I i),(3,I k),(5,I n),(6,.own [L v.sig 3 Sig.d,L v.gap 2 Iv.d,I v.fin]),(7,.own [L w.sig 3 Sig.d,L w.gap 2 Iv.d,I w.fin]),(10,.own [I t.time,.str t.val,B t.unk]),(13,L x 2 Iv.d)],h:={box:=upd (upd (upd (upd (fun _=>none) 2 (some (qw w (-1) 0))) 3 (some (qw v (-1) 0))) 2 none) 3 none,nl:=4,hw:=fun _=>none,nt:=0,vw:=fun _=>none:Heap}:St}):=by kernel_rfl
def quv:List (List Nat×List Nat):=[([1,1,1,1,1,1,1,1,1,0],[2,3,5,6,7,10,13,17,18,19])]
noncomputable def quw(v:Wv)(i:Int)(t:Tol):List Nat->Nat->Option Ans:=qf [([1,1,1,1,1,1,0],1,Ans.eff (ren (rnm [] 4) (rnm [] 0) (D.bp 0 0)) (qg [] [] {box:=fun _=>none,nl:=4,hw:=fun _=>none,nt:=0,vw:=fun _=>none:Heap} (hM v (-1) 0))),([1,1,1,1,1,1,0],5,Ans.eff (ren (rnm [] 5) (rnm [] 0) (D.bp 0 0)) (qg [] [] {box:=upd (fun _=>none) 4 (some (qw v (-1) 0)),nl:=5,hw:=fun _=>none,nt:=0,vw:=fun _=>none:Heap} (hM v (-1) 0))),([1,1,1,1,1,1,0],9,Ans.eff (ren (rnm [4,5] 6) (rnm [] 0) (.tup [L (sgO v v i i t) 2 Iv.d,I (erF v v i i t)])) (qg [4,5] [] {box:=upd (upd (fun _=>none) 4 (some (qw v (-1) 0))) 5 (some (qw v (-1) 0)),nl:=6,hw:=fun _=>none,nt:=0,vw:=fun _=>none:Heap} (hBl 2)))]
theorem q31(v w:Wv)(i k n:Int)(t:Tol)(x:List Iv)(K:D->Prop):qo (En Tryz.f5) (fi Tryz.f5 K) (quw v i t) quv 200 [.code [1,1,1,1,1,1,0],.code [1,1,1,1,1,1,1]] ⟨sMe v w i k n t++[(13,L x 2 Iv.d)],hBl 4⟩ =
 (Does PP 14 [.agg [L v.sig 3 Sig.d,L v.gap 2 Iv.d,I v.fin]] {box:=fun _=>none,nl:=4,hw:=fun _=>none,nt:=0,vw:=fun _=>none:Heap} (ren (rnm [] 4) (rnm [] 0) (D.bp 0 0)) (qg [] [] {box:=fun _=>none,nl:=4,hw:=fun _=>none,nt:=0,vw:=fun _=>none:Heap} (hM v (-1) 0)) /\
 Does PP 14 [.agg [L v.sig 3 Sig.d,L v.gap 2 Iv.d,I v.fin]] {box:=upd (fun _=>none) 4 (some (qw v (-1) 0)),nl:=5,hw:=fun _=>none,nt:=0,vw:=fun _=>none:Heap} (ren (rnm [] 5) (rnm [] 0) (D.bp 0 0)) (qg [] [] {box:=upd (fun _=>none) 4 (some (qw v (-1) 0)),nl:=5,hw:=fun _=>none,nt:=0,vw:=fun _=>none:Heap} (hM v (-1) 0)) /\
  Does PP 13 [D.iface 36 (D.bp 4 0),I i,D.iface 36 (D.bp 5 0),I i,.agg [I t.time,.str t.val,B t.unk]] {box:=upd (upd (fun _=>none) 4 (some (qw v (-1) 0))) 5 (some (qw v (-1) 0)),nl:=6,hw:=fun _=>none,nt:=0,vw:=fun _=>none:Heap} (ren (rnm [4,5] 6) (rnm [] 0) (.tup [L (sgO v v i i t) 2 Iv.d,I (erF v v i i t)])) (qg [4,5] [] {box:=upd (upd (fun _=>none) 4 (some (qw v (-1) 0))) 5 (some (qw v (-1) 0)),nl:=6,hw:=fun _=>none,nt:=0,vw:=fun _=>none:Heap} (hBl 2)) /\
   True/\True/\At (En Tryz.f5) (fi Tryz.f5 K) [It.code [1,1,1,1,1,1,1,1,1,0],It.code [1,1,1,1,1,1,1,1,1,1]] {sl:=[(2,I i),(3,I k),(5,I n),(6,.own [L v.sig 3 Sig.d,L v.gap 2 Iv.d,I v.fin]),(7,.own [L w.sig 3 Sig.d,L w.gap 2 Iv.d,I w.fin]),(10,.own [I t.time,.str t.val,B t.unk]),(13,L x 2 Iv.d),(17,L (sgO v v i i t) 2 Iv.d),(18,I (erF v v i i t)),(19,.own [I t.time,.str t.val,B true])],h:={box:=upd (upd (upd (upd (fun _=>none) 4 (some (qw v (-1) 0))) 5 (some (qw v (-1) 0))) 4 none) 5 none,nl:=6,hw:=fun _=>none,nt:=0,vw:=fun _=>none:Heap}:St}):=by kernel_rfl
def qux:List (List Nat×List Nat):=[([1,1,1,1,1,1,1,1,1,1,1,1,1,0],[2,3,5,6,7,10,13,19])]
noncomputable def quy(v:Wv)(w:Wv)(i:Int)(k:Int)(x:List Iv)(um:Int)(uv:Str)(uu:Bool):List Nat->Nat->Option Ans:=qf [([1,1,1,1,1,1,1,1,1,0],1,Ans.eff (ren (rnm [] 6) (rnm [] 0) (D.bp 0 0)) (qg [] [] {box:=fun _=>none,nl:=6,hw:=fun _=>none,nt:=0,vw:=fun _=>none:Heap} (hM v (-1) 0))),([1,1,1,1,1,1,1,1,1,0],5,Ans.eff (ren (rnm [] 7) (rnm [] 0) (D.bp 0 0)) (qg [] [] {box:=upd (fun _=>none) 6 (some (qw v (-1) 0)),nl:=7,hw:=fun _=>none,nt:=0,vw:=fun _=>none:Heap} (hM w (-1) 0))),([1,1,1,1,1,1,1,1,1,0],9,Ans.eff (ren (rnm [6,7] 8) (rnm [] 0) (.tup [L (sgO v w i k ⟨um,uv,uu⟩) 2 Iv.d,I (erF v w i k ⟨um,uv,uu⟩)])) (qg [6,7] [] {box:=upd (upd (fun _=>none) 6 (some (qw v (-1) 0))) 7 (some (qw w (-1) 0)),nl:=8,hw:=fun _=>none,nt:=0,vw:=fun _=>none:Heap} (hBl 2))),([1,1,1,1,1,1,1,1,1,1,0,0],14,Ans.pure [L (sgO v w i k ⟨um,uv,uu⟩) 2 Iv.d,L x 2 Iv.d] (L (cmR 2 (sgO v w i k ⟨um,uv,uu⟩) x) 2 Iv.d))]
theorem q32(v w:Wv)(i k n:Int)(t:Tol)(x y:List Iv)(g um:Int)(uv:Str)(uu:Bool)(K:D->Prop):qo (En Tryz.f5) (fi Tryz.f5 K) (quy v w i k x um uv uu) qux 200 [.code [1,1,1,1,1,1,1,1,1,0],.code [1,1,1,1,1,1,1,1,1,1]] ⟨sMe v w i k n t++[(13,L x 2 Iv.d),(17,L y 2 Iv.d),(18,I g),(19,.own [I um,.str uv,B uu])],hBl 6⟩ =
 (Does PP 14 [.agg [L v.sig 3 Sig.d,L v.gap 2 Iv.d,I v.fin]] {box:=fun _=>none,nl:=6,hw:=fun _=>none,nt:=0,vw:=fun _=>none:Heap} (ren (rnm [] 6) (rnm [] 0) (D.bp 0 0)) (qg [] [] {box:=fun _=>none,nl:=6,hw:=fun _=>none,nt:=0,vw:=fun _=>none:Heap} (hM v (-1) 0)) /\
 Does PP 14 [.agg [L w.sig 3 Sig.d,L w.gap 2 Iv.d,I w.fin]] {box:=upd (fun _=>none) 6 (some (qw v (-1) 0)),nl:=7,hw:=fun _=>none,nt:=0,vw:=fun _=>none:Heap} (ren (rnm [] 7) (rnm [] 0) (D.bp 0 0)) (qg [] [] {box:=upd (fun _=>none) 6 (some (qw v (-1) 0)),nl:=7,hw:=fun _=>none,nt:=0,vw:=fun _=>none:Heap} (hM w (-1) 0)) /\
  Does PP 13 [D.iface 36 (D.bp 6 0),I i,D.iface 36 (D.bp 7 0),I k,.agg [I um,.str uv,B uu]] {box:=upd (upd (fun _=>none) 6 (some (qw v (-1) 0))) 7 (some (qw w (-1) 0)),nl:=8,hw:=fun _=>none,nt:=0,vw:=fun _=>none:Heap} (ren (rnm [6,7] 8) (rnm [] 0) (.tup [L (sgO v w i k ⟨um,uv,uu⟩) 2 Iv.d,I (erF v w i k ⟨um,uv,uu⟩)])) (qg [6,7] [] {box:=upd (upd (fun _=>none) 6 (some (qw v (-1) 0))) 7 (some (qw w (-1) 0)),nl:=8,hw:=fun _=>none,nt:=0,vw:=fun _=>none:Heap} (hBl 2)) /\
   (((!g !=0)=true->y.length<=q9)->((!bif bif g !=0 then true else decide ((↑y.length:Int) > 0) then true else erF v w i k ⟨um,uv,uu⟩!=0)=true->PQ PP 17 [L (sgO v w i k ⟨um,uv,uu⟩) 2 Iv.d,L x 2 Iv.d] (L (cmR 2 (sgO v w i k ⟨um,uv,uu⟩) x) 2 Iv.d))/\(((!bif bif g !=0 then true else decide ((↑y.length:Int) > 0) then true else erF v w i k ⟨um,uv,uu⟩!=0)=true->(cmR 2 (sgO v w i k ⟨um,uv,uu⟩) x).length<=q9)->bif bif bif bif g !=0 then true else decide ((↑y.length:Int) > 0) then true else erF v w i k ⟨um,uv,uu⟩!=0 then true else decide ((↑(cmR 2 (sgO v w i k ⟨um,uv,uu⟩) x).length:Int) > 0) then K (B false) else True/\True/\At (En Tryz.f5) (fi Tryz.f5 K) [It.code [1,1,1,1,1,1,1,1,1,1,1,1,1,0],It.code [1,1,1,1,1,1,1,1,1,1,1,1,1,1]] {sl:=[(2,I i),(3,I k),(5,I n),(6,.own [L v.sig 3 Sig.d,L v.gap 2 Iv.d,I v.fin]),(7,.own [L w.sig 3 Sig.d,L w.gap 2 Iv.d,I w.fin]),(10,.own [I t.time,.str t.val,B t.unk]),(13,L x 2 Iv.d),(19,.own [I (qh .i64 t.time n),.str t.val,B t.unk])],h:={box:=upd (upd (upd (upd (fun _=>none) 6 (some (qw v (-1) 0))) 7 (some (qw w (-1) 0))) 6 none) 7 none,nl:=8,hw:=fun _=>none,nt:=0,vw:=fun _=>none:Heap}:St}))):=by kernel_rfl
def quz:List (List Nat×List Nat):=[([1,1,1,1,1,1,1,1,1,1,1,1,1,1,1,1,1,0],[2,3,5,6,7,10,13,19])]
noncomputable def qu0(v:Wv)(w:Wv)(i:Int)(k:Int)(x:List Iv)(um:Int)(uv:Str)(uu:Bool):List Nat->Nat->Option Ans:=qf [([1,1,1,1,1,1,1,1,1,1,1,1,1,0],1,Ans.eff (ren (rnm [] 8) (rnm [] 0) (D.bp 0 0)) (qg [] [] {box:=fun _=>none,nl:=8,hw:=fun _=>none,nt:=0,vw:=fun _=>none:Heap} (hM v (-1) 0))),([1,1,1,1,1,1,1,1,1,1,1,1,1,0],5,Ans.eff (ren (rnm [] 9) (rnm [] 0) (D.bp 0 0)) (qg [] [] {box:=upd (fun _=>none) 8 (some (qw v (-1) 0)),nl:=9,hw:=fun _=>none,nt:=0,vw:=fun _=>none:Heap} (hM w (-1) 0))),([1,1,1,1,1,1,1,1,1,1,1,1,1,0],9,Ans.eff (ren (rnm [8,9] 10) (rnm [] 0) (.tup [L (sgO v w i k ⟨um,uv,uu⟩) 2 Iv.d,I (erF v w i k ⟨um,uv,uu⟩)])) (qg [8,9] [] {box:=upd (upd (fun _=>none) 8 (some (qw v (-1) 0))) 9 (some (qw w (-1) 0)),nl:=10,hw:=fun _=>none,nt:=0,vw:=fun _=>none:Heap} (hBl 2))),([1,1,1,1,1,1,1,1,1,1,1,1,1,1,0,0],9,Ans.pure [L (sgO v w i k ⟨um,uv,uu⟩) 2 Iv.d,L x 2 Iv.d] (L (cmR 2 (sgO v w i k ⟨um,uv,uu⟩) x) 2 Iv.d))]
theorem q33(v w:Wv)(i k n:Int)(t:Tol)(x:List Iv)(um:Int)(uv:Str)(uu:Bool)(K:D->Prop):qo (En Tryz.f5) (fi Tryz.f5 K) (qu0 v w i k x um uv uu) quz 200 [.code [1,1,1,1,1,1,1,1,1,1,1,1,1,0],.code [1,1,1,1,1,1,1,1,1,1,1,1,1,1]] ⟨sMe v w i k n t++[(13,L x 2 Iv.d),(19,.own [I um,.str uv,B uu])],hBl 8⟩ =
 (Does PP 14 [.agg [L v.sig 3 Sig.d,L v.gap 2 Iv.d,I v.fin]] {box:=fun _=>none,nl:=8,hw:=fun _=>none,nt:=0,vw:=fun _=>none:Heap} (ren (rnm [] 8) (rnm [] 0) (D.bp 0 0)) (qg [] [] {box:=fun _=>none,nl:=8,hw:=fun _=>none,nt:=0,vw:=fun _=>none:Heap} (hM v (-1) 0)) /\
 Does PP 14 [.agg [L w.sig 3 Sig.d,L w.gap 2 Iv.d,I w.fin]] {box:=upd (fun _=>none) 8 (some (qw v (-1) 0)),nl:=9,hw:=fun _=>none,nt:=0,vw:=fun _=>none:Heap} (ren (rnm [] 9) (rnm [] 0) (D.bp 0 0)) (qg [] [] {box:=upd (fun _=>none) 8 (some (qw v (-1) 0)),nl:=9,hw:=fun _=>none,nt:=0,vw:=fun _=>none:Heap} (hM w (-1) 0)) /\
  Does PP 13 [D.iface 36 (D.bp 8 0),I i,D.iface 36 (D.bp 9 0),I k,.agg [I um,.str uv,B uu]] {box:=upd (upd (fun _=>none) 8 (some (qw v (-1) 0))) 9 (some (qw w (-1) 0)),nl:=10,hw:=fun _=>none,nt:=0,vw:=fun _=>none:Heap} (ren (rnm [8,9] 10) (rnm [] 0) (.tup [L (sgO v w i k ⟨um,uv,uu⟩) 2 Iv.d,I (erF v w i k ⟨um,uv,uu⟩)])) (qg [8,9] [] {box:=upd (upd (fun _=>none) 8 (some (qw v (-1) 0))) 9 (some (qw w (-1) 0)),nl:=10,hw:=fun _=>none,nt:=0,vw:=fun _=>none:Heap} (hBl 2)) /\
   ((decide (um<=1099511627776) && !erF v w i k ⟨um,uv,uu⟩!=0)=true->PQ PP 17 [L (sgO v w i k ⟨um,uv,uu⟩) 2 Iv.d,L x 2 Iv.d] (L (cmR 2 (sgO v w i k ⟨um,uv,uu⟩) x) 2 Iv.d))/\(((decide (um<=1099511627776) && !erF v w i k ⟨um,uv,uu⟩!=0)=true->(cmR 2 (sgO v w i k ⟨um,uv,uu⟩) x).length<=q9)->bif bif decide (um<=1099511627776) then bif erF v w i k ⟨um,uv,uu⟩!=0 then true else decide ((↑(cmR 2 (sgO v w i k ⟨um,uv,uu⟩) x).length:Int) > 0) else false then K (B false) else True/\True/\At (En Tryz.f5) (fi Tryz.f5 K) [It.code [1,1,1,1,1,1,1,1,1,1,1,1,1,1,1,1,1,0],It.code [1,1,1,1,1,1,1,1,1,1,1,1,1,1,1,1,1,1]] {sl:=[(2,I i),(3,I k),(5,I n),(6,.own [L v.sig 3 Sig.d,L v.gap 2 Iv.d,I v.fin]),(7,.own [L w.sig 3 Sig.d,L w.gap 2 Iv.d,I w.fin]),(10,.own [I t.time,.str t.val,B t.unk]),(13,L x 2 Iv.d),(19,.own [I t.time,.str {data:= #[49,101,57]:ByteArray}.data.toList,B t.unk])],h:={box:=upd (upd (upd (upd (fun _=>none) 8 (some (qw v (-1) 0))) 9 (some (qw w (-1) 0))) 8 none) 9 none,nl:=10,hw:=fun _=>none,nt:=0,vw:=fun _=>none:Heap}:St})):=by kernel_rfl
noncomputable def qu1(v:Wv)(w:Wv)(i:Int)(k:Int)(t:Tol)(x:List Iv)(um:Int)(uv:Str)(uu:Bool):List Nat->Nat->Option Ans:=qf [([1,1,1,1,1,1,1,1,1,1,1,1,1,1,1,1,1,0],1,Ans.eff (ren (rnm [] 10) (rnm [] 0) (D.bp 0 0)) (qg [] [] {box:=fun _=>none,nl:=10,hw:=fun _=>none,nt:=0,vw:=fun _=>none:Heap} (hM v (-1) 0))),([1,1,1,1,1,1,1,1,1,1,1,1,1,1,1,1,1,0],5,Ans.eff (ren (rnm [] 11) (rnm [] 0) (D.bp 0 0)) (qg [] [] {box:=upd (fun _=>none) 10 (some (qw v (-1) 0)),nl:=11,hw:=fun _=>none,nt:=0,vw:=fun _=>none:Heap} (hM w (-1) 0))),([1,1,1,1,1,1,1,1,1,1,1,1,1,1,1,1,1,0],9,Ans.eff (ren (rnm [10,11] 12) (rnm [] 0) (.tup [L (sgO v w i k ⟨um,uv,uu⟩) 2 Iv.d,I (erF v w i k ⟨um,uv,uu⟩)])) (qg [10,11] [] {box:=upd (upd (fun _=>none) 10 (some (qw v (-1) 0))) 11 (some (qw w (-1) 0)),nl:=12,hw:=fun _=>none,nt:=0,vw:=fun _=>none:Heap} (hBl 2))),([1,1,1,1,1,1,1,1,1,1,1,1,1,1,1,1,1,1,0],5,Ans.pure [.str t.val] (I (tl t.val))),([1,1,1,1,1,1,1,1,1,1,1,1,1,1,1,1,1,1,0],10,Ans.pure [L (sgO v w i k ⟨um,uv,uu⟩) 2 Iv.d,L x 2 Iv.d] (L (cmR 2 (sgO v w i k ⟨um,uv,uu⟩) x) 2 Iv.d)),([1,1,1,1,1,1,1,1,1,1,1,1,1,1,1,1,1,1,0],16,Ans.pure [] (B true))]
theorem q34(v w:Wv)(i k n:Int)(t:Tol)(x:List Iv)(um:Int)(uv:Str)(uu:Bool)(K:D->Prop):qo (En Tryz.f5) (fi Tryz.f5 K) (qu1 v w i k t x um uv uu) dr 200 [.code [1,1,1,1,1,1,1,1,1,1,1,1,1,1,1,1,1,0],.code [1,1,1,1,1,1,1,1,1,1,1,1,1,1,1,1,1,1]] ⟨sMe v w i k n t++[(13,L x 2 Iv.d),(19,.own [I um,.str uv,B uu])],hBl 10⟩ =
 (Does PP 14 [.agg [L v.sig 3 Sig.d,L v.gap 2 Iv.d,I v.fin]] {box:=fun _=>none,nl:=10,hw:=fun _=>none,nt:=0,vw:=fun _=>none:Heap} (ren (rnm [] 10) (rnm [] 0) (D.bp 0 0)) (qg [] [] {box:=fun _=>none,nl:=10,hw:=fun _=>none,nt:=0,vw:=fun _=>none:Heap} (hM v (-1) 0)) /\
 Does PP 14 [.agg [L w.sig 3 Sig.d,L w.gap 2 Iv.d,I w.fin]] {box:=upd (fun _=>none) 10 (some (qw v (-1) 0)),nl:=11,hw:=fun _=>none,nt:=0,vw:=fun _=>none:Heap} (ren (rnm [] 11) (rnm [] 0) (D.bp 0 0)) (qg [] [] {box:=upd (fun _=>none) 10 (some (qw v (-1) 0)),nl:=11,hw:=fun _=>none,nt:=0,vw:=fun _=>none:Heap} (hM w (-1) 0)) /\
  Does PP 13 [D.iface 36 (D.bp 10 0),I i,D.iface 36 (D.bp 11 0),I k,.agg [I um,.str uv,B uu]] {box:=upd (upd (fun _=>none) 10 (some (qw v (-1) 0))) 11 (some (qw w (-1) 0)),nl:=12,hw:=fun _=>none,nt:=0,vw:=fun _=>none:Heap} (ren (rnm [10,11] 12) (rnm [] 0) (.tup [L (sgO v w i k ⟨um,uv,uu⟩) 2 Iv.d,I (erF v w i k ⟨um,uv,uu⟩)])) (qg [10,11] [] {box:=upd (upd (fun _=>none) 10 (some (qw v (-1) 0))) 11 (some (qw w (-1) 0)),nl:=12,hw:=fun _=>none,nt:=0,vw:=fun _=>none:Heap} (hBl 2)) /\
   ((erF v w i k ⟨um,uv,uu⟩==0)=true->PQ PP 18 [.str t.val] (I (tl t.val)))/\((erF v w i k ⟨um,uv,uu⟩==0 && !decide (tl t.val > 0))=true->PQ PP 17 [L (sgO v w i k ⟨um,uv,uu⟩) 2 Iv.d,L x 2 Iv.d] (L (cmR 2 (sgO v w i k ⟨um,uv,uu⟩) x) 2 Iv.d))/\(((erF v w i k ⟨um,uv,uu⟩==0 && !decide (tl t.val > 0))=true->(cmR 2 (sgO v w i k ⟨um,uv,uu⟩) x).length<=q9)->((bif erF v w i k ⟨um,uv,uu⟩==0 then bif decide (tl t.val > 0) then true else(↑(cmR 2 (sgO v w i k ⟨um,uv,uu⟩) x).length:Int)==0 else false)=true->PQ PP 8 [] (B true))/\K (B (bif bif erF v w i k ⟨um,uv,uu⟩==0 then bif decide (tl t.val > 0) then true else(↑(cmR 2 (sgO v w i k ⟨um,uv,uu⟩) x).length:Int)==0 else false then true else false)))):=by kernel_rfl
end Go.Proofs.YtiekphbkomddfaaGreatDoor.S1
namespace Go.Proofs.YtiekphbkomddfaaGreatDoor.S1
open Go Go.Ab Go.Proofs

attribute [local instance] w7
theorem au{v w:Wv}{t:Tol}(h:cz v w t=true):smB v=true/\smB w=true/\v.fin<=40/\w.fin<=40:=by
 unfold cz at h
 cases h1:smB v with
 |false=>rw[h1]at h;cases h
 |true =>
  cases h2:smB w with
  |false=>rw[h1,h2]at h;cases h
  |true =>
   by_cases h3:v.fin<=40
   ·by_cases h4:w.fin<=40
    ·exact⟨rfl,rfl,h3,h4⟩
    ·rw[h1,h2,decide_eq_true h3,decide_eq_false h4]at h;cases h
   ·rw[h1,h2,decide_eq_false h3]at h;cases h
theorem qox{bx:Nat->Option Row}{v w:Wv}{l m:Int}(h2:bx 2=some (qw v l 0))(h3:bx 3=some (qw w m 0)):HeapLe ⟨bx,4,fun _=>none,0,fun _=>none⟩ (hM4 v l w m):=by
 refine⟨fun k row' e=> ?_,Nat.le_refl _,fun _ _ h=>h,Nat.le_refl _,fun _ _ _=>VwLe.refl _ _,fun _ h=>h⟩
 rcases k with _|_|_|_|k
 ·cases e
 ·cases e
 ·cases e
  exact⟨_,h2,RowLe.refl _⟩
 ·cases e
  exact⟨_,h3,RowLe.refl _⟩
 ·cases e
theorem qoy{v w:Wv}(hv:SmOk v)(hw:SmOk w)(h40:v.fin<=40){i k:Int}{t:Tol}(h:erF v w i k t=0){l m n q:Int}(hn:0<=n)
  (hq:n.tmod 32>=q↔lOk l (nA v w i)/\lOk m (nB v w k)) :
  At (En Tryz.f7) (fi Tryz.f7 fun d=>Wk d (B true)) [.code [1,1,1,1,1,1,1,1,0],.code [1,1,1,1,1,1,1,1,1]] (qpc v l w m i k t.time t.val t.unk n (y6 v w i k t) q):=by
 have hkm:IntKind.wrap .i64 (n.tmod 32)=n.tmod 32:=IntWalk.i64_in _ ⟨by have:=Int.tmod_lt_of_pos n (show(0:Int)<32 by omega);have:=Int.tmod_nonneg 32 hn;omega,by have:=Int.tmod_lt_of_pos n (show(0:Int)<32 by omega);omega⟩
 refine qe jt _ _ _ (of_eq (q3v v w l m i k t.time t.val t.unk n _ q _) ⟨fr (eSg hv hw h40 l m i k t) [2,3] [],by decide,?_⟩)
 rw[hkm]
 obtain⟨y,x⟩:=qau hv hw h40 h l m
 refine qa (fun hc=> ?_) fun hc=> ?_
 ·rw[y (hq.1 (of_decide_eq_true hc))]
  exact⟨fun _=>PureW.mk (c16 _),fun _=>PureW.mk c8,Wk.refl _⟩
 ·obtain⟨x1,x2⟩:=x (fun g=>of_decide_eq_false hc (hq.2 g))
  rw[x1,x2]
  exact fun _=>⟨fun _=>PureW.mk c8,Wk.refl _⟩
theorem c7(v w:Wv)(i k:Int)(t:Tol)(n:Int)(hn:0<=n)(sec:Bool):Pure PP 7 [v.d,w.d,I i,I k,t.d,.int .u8 n,B sec] (B true):=by
 have hf:(!!cz v w t)=true->cz v w t=true:=fun h=>by simpa using h
 refine pu F7 (by kernel_rfl) (of_eq (q3t v w i k t n sec _) ⟨PureW.mk (c11 v w t),fun h=>PureW.mk (c12 v (au (hf h)).1),fun h=> ?_,qa (fun _=>⟨PureW.mk c8,Wk.refl _⟩) fun h=> ?_⟩)
 ·cases hb:cz v w t with
  |false=>rw[hb]at h;cases h
  |true=>exact PureW.mk (c12 w (au hb).2.1)
 have hb:cz v w t=true:=by
  cases hb:cz v w t with
  |false=>rw[hb]at h;cases h
  |true=>rfl
 obtain⟨s1,s2,h40,_⟩:=au hb
 have hv:=xx s1
 have hw:=xx s2
 refine⟨e14 v,fr (e14 w) [] [],eSg hv hw h40 (-1) (-1) i k t,?_⟩
 by_cases hz:erF v w i k t=0
 ·rw[(qau hv hw h40 hz (-1) (-1)).1 ⟨.inl (by decide),.inl (by decide)⟩]
  refine qa (fun h=>(by cases h)) fun _=> ?_
  have hA:2<=nA v w i:=by have:=qdy (w:=v) i (vt v w);unfold nA;split <;> omega
  have hB:2<=nB v w k:=by have:=qdy (w:=w) k (vt v w);unfold nB;split <;> omega
  have hl0:0<=n.tmod 32:=Int.tmod_nonneg 32 hn
  have hkm:IntKind.wrap .i64 (n.tmod 32)=n.tmod 32:=IntWalk.i64_in _ ⟨by have:=Int.tmod_lt_of_pos n (show(0:Int)<32 by omega);omega,by have:=Int.tmod_lt_of_pos n (show(0:Int)<32 by omega);omega⟩
  refine jg (st':=SLR v (nA v w i) w (nB v w k) i k t.time t.val t.unk n sec (y6 v w i k t)) ?_ ((StLe.refl _ _).cast (by kernel_rfl))
  refine qe jt _ _ _ (of_eq (q3u v w _ _ i k t.time t.val t.unk n sec _ _) ⟨fr (e14 v) [] [],fr (e14 w) [] [],qa (fun hs=>⟨by decide,trivial,?_⟩) fun hs=>⟨by decide,trivial,?_⟩⟩)
  ·rw[hkm]
   refine jg (st':=qpc v (-1) w (n.tmod 32) i k t.time t.val t.unk n (y6 v w i k t) (nB v w k)) (qoy hv hw h40 hz hn ?_) (StLe.heapLe (qox rfl rfl))
   unfold lOk;omega
  ·rw[hkm]
   refine jg (st':=qpc v (n.tmod 32) w (-1) i k t.time t.val t.unk n (y6 v w i k t) (nA v w i)) (qoy hv hw h40 hz hn ?_) (StLe.heapLe (qox rfl rfl))
   unfold lOk;omega
 ·obtain⟨x1,x2⟩:=qhf hz
  rw[x1,x2]
  refine qa (fun _ _=>⟨fun _=>PureW.mk c8,Wk.refl _⟩) fun h=> ?_
  exact absurd (by simpa using h) hz
end Go.Proofs.YtiekphbkomddfaaGreatDoor.S1
namespace Go.Proofs.YtiekphbkomddfaaGreatDoor.S1
open Go Go.Ab Go.Proofs

attribute [local instance] w7
theorem qay:∀(l:List Chg) (v:Str) (s:Int),v8 v l s=v\/∃x∈l,v8 v l s=x.val
 | [],v,s=> .inl rfl
 |y::r,v,s=>by
  rw[j6]
  rcases qay r (bif decide (y.time<=s) then y.val else v) s with h|⟨x,hx,h⟩
  ·rw[h]
   cases decide (y.time<=s)
   ·exact .inl rfl
   ·exact .inr ⟨y,List.mem_cons_self,rfl⟩
  ·exact .inr ⟨x,List.mem_cons_of_mem _ hx,h⟩
theorem qaz{v:Wv}{i:Int}(hi:inS v i):qj v i∈v.sig:=by
 have:i.toNat<v.sig.length:=by omega
 unfold qj
 rw[List.getD_eq_getElem?_getD,List.getElem?_eq_getElem this]
 exact List.getElem_mem this
theorem ec{v:Wv}(hb:smB v=true)(hc:clB v=true){i:Int}(hi:inS v i){t:Tol}(ht:px t=true)(h3:(qj v i).kind≠3)(s:Int):saF (qj v i).kind t (vc (qj v i) s) (vc (qj v i) s)=true:=by
 have hm:=qaz hi
 obtain⟨⟨k0,k3⟩,_⟩:=qhl hb _ hm
 have hq:=List.all_eq_true.1 hc _ hm
 generalize qj v i=q at *
 unfold saF
 rw[ht]
 have:q.kind=0\/q.kind=1\/q.kind=2:=by omega
 rcases this with e|e|e
 ·rw[e];exact qe1 _ _
 ·rw[e]
  have hv:(q8 (vc q s)).2=true:=by
   unfold vc
   rw[if_neg h3]
   have hi0:ini q=[48]:=by unfold ini;rw[if_pos e]
   rcases qay q.chg (ini q) s with h|⟨x,hx,h⟩
   ·rw[h,hi0];decide +kernel
   ·rw[h]
    have:=List.all_eq_true.1 hq x hx
    rw[e]at this
    cases hx2:(q8 x.val).2 with
    |true=>rfl
    |false=>rw[hx2]at this;cases this
  have htv:(q8 t.val).2=true/\dsF t.val>=0:=by
   unfold px at ht
   cases h1:(q8 t.val).2 with
   |true =>
    refine⟨rfl,?_⟩
    by_cases h2:dsF t.val>=0
    ·exact h2
    ·rw[decide_eq_false h2]at ht
     simp at ht
   |false=>rw[h1]at ht;simp at ht
  refine qko hv hv htv.1 ?_
  have hn:=(zo htv.1).n
  have h2:=htv.2
  unfold dsF at h2
  rw[if_pos htv.1,ig hn]at h2
  have:0<=(q8 t.val).1.val:=by
   rcases qlh (q8 t.val).1.val with ⟨g,e⟩|⟨g,_⟩|⟨g,_⟩
   ·rw[e]at h2;omega
   ·omega
   ·omega
  rw[Int.sub_self];exact this
 ·rw[e];exact beq_self_eq_true _
theorem qjr{v:Wv}(hv:SmOk v)(hb:smB v=true)(hc:clB v=true){i:Int}{t:Tol}(h:erF v v i i t=0):y6 v v i i t=[]:=by
 obtain⟨n1,n2⟩:=yu hv hv h
 obtain⟨ht,hi,_⟩:=ix h
 have tt:=u0 ht
 refine qcj n1 fun s=> ?_
 cases hs:(y6 v v i i t).any (inP s) with
 |false=>rfl
 |true =>
  obtain⟨⟨s0,s1⟩,h4⟩:=(n2 s).1 hs
  rcases h4 with ⟨_,⟨g1,g2⟩|⟨g1,g2⟩⟩|⟨h3,g,_⟩
  ·exact absurd ⟨s,s1,g1,by omega,by omega⟩ g2
  ·exact absurd ⟨s,s1,g1,by omega,by omega⟩ g2
  ·rw[ec hb hc hi ht h3 s]at g;cases g
theorem qck{v w:Wv}{i k:Int}{t u:Tol}(h:erF v w i k t=0)(hu:px u=true):erF v w i k u=0:=by
 obtain⟨_,h1,h2,h3,h4⟩:=ix h
 unfold erF
 rw[if_neg (by rw[hu];simp),if_neg (not_not_intro ⟨h1,h2⟩),if_neg (not_not_intro h3),if_neg (not_not_intro h4)]
theorem qjs{v w:Wv}{i k:Int}{t:Tol}(h:erF v w i k t=0):erF v v i i t=0:=by
 obtain⟨h0,h1,h2,h3,h4⟩:=ix h
 unfold erF
 rw[if_neg (by rw[h0];simp),if_neg (not_not_intro ⟨h1,h1⟩),if_neg (not_not_intro rfl),if_neg (not_not_intro rfl)]
def e9:Str:=[49,101,57]
theorem qjt:(q8 e9).2=true/\(q8 e9).1=⟨false,[49],9⟩/\dsF e9=1:=by decide +kernel
theorem qhr{t:Tol}(h:px t=true):px ⟨t.time,e9,t.unk⟩=true:=by
 have tt:=u0 h
 unfold px
 simp only
 rw[decide_eq_true (show t.time>=0 by omega),decide_eq_true tt.2,qjt.1,qjt.2.2];rfl
theorem qoz{k:Int}{t:Tol}{a b:Str}(h0:¬ dsF t.val > 0)(h:saF k t a b=true):saF k ⟨t.time,e9,t.unk⟩ a b=true:=by
 unfold saF at *
 cases ht:px t with
 |false=>rw[ht]at h;cases h
 |true =>
  rw[qhr ht]
  rw[ht]at h
  cases k0:k==0 with
  |true=>rw[k0]at h;exact h
  |false =>
   rw[k0]at h
   cases k1:k==1 with
   |false=>rw[k1]at h;exact h
   |true =>
    rw[k1]at h
    have h:wiB a b t.val=true:=h
    obtain⟨ha,hb,htv,hle⟩:=qjn h
    show wiB a b e9=true
    refine qko ha hb qjt.1 ?_
    have hn:=(zo htv).n
    unfold dsF at h0
    rw[if_pos htv,ig hn]at h0
    have h1:(q8 t.val).1.val<=0:=by
     rcases qlh (q8 t.val).1.val with ⟨g,_⟩|⟨g,_⟩|⟨g,e⟩
     ·omega
     ·omega
     ·rw[e]at h0;omega
    have h2:0<=(q8 e9).1.val:=by
     rw[qjt.2.1]
     exact qda _
    omega
theorem ee(z:Str):tl z=dsF z:=by
 unfold tl dsF
 obtain⟨h1,h2⟩:=qdk z
 have hc:tc tq z=tc kn z:=qb2 (by decide) (by decide) z
 rw[h1,hc]
 cases hb:tc kn z with
 |false=>rfl
 |true =>
  rw[h2 (by rw[hc];exact hb),if_pos rfl,(ie (c1:=tq) (c2:=kn) (by decide) (by decide) (by rw[hc];exact hb)).2];rfl
end Go.Proofs.YtiekphbkomddfaaGreatDoor.S1
namespace Go.Proofs.YtiekphbkomddfaaGreatDoor.S1
open Go Go.Ab Go.Proofs

attribute [local instance] w7
theorem Does.wk{f:Nat}{args:List D}{h h1 h2:Heap}{v w:D}(c:Does PP f args h v h1)(hr:RetLe v h1 w h2):Does PP f args h w h2:=Does.of_call (c (fun d h''=>RetLe d h'' w h2) hr)
theorem qmm(bx:Nat->Option Row)(n:Nat):HeapLe ⟨bx,n,fun _=>none,0,fun _=>none⟩ (hBl n):=⟨fun _ _ e=>(by cases e),Nat.le_refl _,fun _ _ h=>h,Nat.le_refl _,fun _ _ _=>VwLe.refl _ _,fun _ h=>h⟩
theorem ql8{v w:Wv}(hv:SmOk v)(hw:SmOk w)(h40:v.fin<=40)(i k:Int)(t:Tol):Does PP 13 [xk,I i,qdv,I k,t.d] (hM2 v (-1) 0 w (-1) 0) (.tup [L (sgO v w i k t) 2 Iv.d,I (erF v w i k t)]) ⟨fun _=>none,2,fun _=>none,0,fun _=>none⟩:=by
 have c:=eSg hv hw h40 (-1) (-1) i k t
 unfold sgO
 by_cases h:erF v w i k t=0
 ·rw[(qau hv hw h40 h (-1) (-1)).1 ⟨.inl (by decide),.inl (by decide)⟩]at c
  rw[if_pos h,h]
  exact Does.wk c (RetLe.of (Wk.refl _) (qmm _ _))
 ·rw[(qhf h).1,(qhf h).2]at c
  rw[if_neg h]
  exact Does.wk c (RetLe.of (Wk.refl _) (qmm _ _))
theorem qu2{a b:List Iv}(ha:a.length<=10000)(hb:b.length<=10000)(h:cmR 2 a b=[]):Pure PP 17 [L a 2 Iv.d,L b 2 Iv.d] (L ([]:List Iv) 2 Iv.d):=by
 have:=c17 a b ha hb
 rw[h]at this
 exact this
section
variable {v w:Wv} (hv:SmOk v) (hw:SmOk w) (h40:v.fin<=40) {i k n:Int} {t:Tol} (hl:t.val.length<=1000) (h:erF v w i k t=0)
include hv hw h40 hl h
theorem meG:At (En Tryz.f5) (fi Tryz.f5 fun d=>Wk d (B true)) [.code [1,1,1,1,1,1,1,1,1,1,1,1,1,1,1,1,1,0],.code [1,1,1,1,1,1,1,1,1,1,1,1,1,1,1,1,1,1]] ⟨sMe v w i k n t++[(13,L (y6 v w i k t) 2 Iv.d),(19,.own [I t.time,.str e9,B t.unk])],hBl 10⟩:=by
 have ht:=(ix h).1
 have he:erF v w i k ⟨t.time,e9,t.unk⟩=0:=qck h (qhr ht)
 have ho:sgO v w i k ⟨t.time,e9,t.unk⟩=y6 v w i k ⟨t.time,e9,t.unk⟩:=by unfold sgO;rw[if_pos he]
 have l1:=u3 hv hw h40 h
 have l2:=u3 hv hw h40 he
 refine qe jt _ _ _ (of_eq (q34 v w i k n t _ t.time e9 t.unk _) ⟨fr (e14 v) [] [],fr (e14 w) [] [],fr (ql8 hv hw h40 i k ⟨t.time,e9,t.unk⟩) [10,11] [],?_⟩)
 rw[ho,he,ee]
 by_cases hp:dsF t.val > 0
 ·rw[decide_eq_true hp]
  exact⟨fun _=>PureW.mk (by rw[<-ee];exact c18 _ hl),fun h=>(by cases h),fun _=>⟨fun _=>PureW.mk c8,Wk.refl _⟩⟩
 ·have hz:=i7 hv hw h he (Int.le_refl _) fun a b=>qoz hp
  rw[decide_eq_false hp,hz]
  exact⟨fun _=>PureW.mk (by rw[<-ee];exact c18 _ hl),fun _=>PureW.mk (qu2 (by omega) (by omega) hz),fun _=>⟨fun _=>PureW.mk c8,Wk.refl _⟩⟩
theorem meF(hn:0<=n/\n<=100):At (En Tryz.f5) (fi Tryz.f5 fun d=>Wk d (B true)) [.code [1,1,1,1,1,1,1,1,1,1,1,1,1,0],.code [1,1,1,1,1,1,1,1,1,1,1,1,1,1]] ⟨sMe v w i k n t++[(13,L (y6 v w i k t) 2 Iv.d),(19,.own [I (qh .i64 t.time n),.str t.val,B t.unk])],hBl 8⟩:=by
 have ht:=(ix h).1
 have tt:=u0 ht
 have l1:=u3 hv hw h40 h
 rw[jq (by omega) (by omega)]
 refine qe jt _ _ _ (of_eq (q33 v w i k n t _ (t.time+n) t.val t.unk _) ⟨fr (e14 v) [] [],fr (e14 w) [] [],fr (ql8 hv hw h40 i k ⟨t.time+n,t.val,t.unk⟩) [8,9] [],?_⟩)
 have fin:=jg (meG hv hw h40 hl h (n:=n)) (StLe.heapLe (qmm (upd (upd (upd (upd (fun _=>none) 8 (some (qw v (-1) 0))) 9 (some (qw w (-1) 0))) 8 none) 9 none) 10))
 by_cases hm:t.time+n<=1099511627776
 ·have hu:px ⟨t.time+n,t.val,t.unk⟩=true:=by
   unfold px at ht⊢
   rw[decide_eq_true (show t.time>=0 by omega),decide_eq_true tt.2]at ht
   simp only
   rw[decide_eq_true (show t.time+n>=0 by omega),decide_eq_true hm]
   exact ht
  have he:erF v w i k ⟨t.time+n,t.val,t.unk⟩=0:=qck h hu
  have ho:sgO v w i k ⟨t.time+n,t.val,t.unk⟩=y6 v w i k ⟨t.time+n,t.val,t.unk⟩:=by unfold sgO;rw[if_pos he]
  have l2:=u3 hv hw h40 he
  have hz:=i7 hv hw h he (show t.time<=t.time+n by omega) fun a b=>qjq ⟨by omega,hm⟩
  rw[ho,he,hz,decide_eq_true hm]
  exact⟨fun _=>PureW.mk (qu2 (by omega) (by omega) hz),fun _=>qa (fun h=>(by cases h)) fun _=>⟨trivial,trivial,fin⟩⟩
 ·rw[decide_eq_false hm]
  exact⟨fun h=>(by cases h),fun _=>qa (fun h=>(by cases h)) fun _=>⟨trivial,trivial,fin⟩⟩
theorem meE(hn:0<=n/\n<=100):At (En Tryz.f5) (fi Tryz.f5 fun d=>Wk d (B true)) [.code [1,1,1,1,1,1,1,1,1,0],.code [1,1,1,1,1,1,1,1,1,1]] ⟨sMe v w i k n t++[(13,L (y6 v w i k t) 2 Iv.d),(17,L ([]:List Iv) 2 Iv.d),(18,I 0),(19,.own [I t.time,.str t.val,B true])],hBl 6⟩:=by
 have l1:=u3 hv hw h40 h
 have he:erF v w i k ⟨t.time,t.val,true⟩=0:=qck h (ix h).1
 have ho:sgO v w i k ⟨t.time,t.val,true⟩=y6 v w i k ⟨t.time,t.val,true⟩:=by unfold sgO;rw[if_pos he]
 have l2:=u3 hv hw h40 he
 have hz:=i7 hv hw h he (Int.le_refl _) fun a b=>ql7
 refine qe jt _ _ _ (of_eq (q32 v w i k n t _ [] 0 t.time t.val true _) ⟨fr (e14 v) [] [],fr (e14 w) [] [],fr (ql8 hv hw h40 i k ⟨t.time,t.val,true⟩) [6,7] [],?_⟩)
 rw[ho,he,hz]
 exact fun _=>⟨fun _=>PureW.mk (qu2 (by omega) (by omega) hz),fun _=>qa (fun h=>(by cases h)) fun _=>⟨trivial,trivial,jg (meF hv hw h40 hl h hn) (StLe.heapLe (qmm _ _))⟩⟩
theorem meD(hb:smB v=true)(hc:clB v=true)(hn:0<=n/\n<=100):At (En Tryz.f5) (fi Tryz.f5 fun d=>Wk d (B true)) [.code [1,1,1,1,1,1,0],.code [1,1,1,1,1,1,1]] ⟨sMe v w i k n t++[(13,L (y6 v w i k t) 2 Iv.d)],hBl 4⟩:=by
 have he:erF v v i i t=0:=qjs h
 have ho:sgO v v i i t=[]:=by unfold sgO;rw[if_pos he,qjr hv hb hc he]
 refine qe jt _ _ _ (of_eq (q31 v w i k n t _ _) ⟨fr (e14 v) [] [],fr (e14 v) [] [],fr (ql8 hv hv h40 i i t) [4,5] [],trivial,trivial,?_⟩)
 rw[ho,he]
 exact jg (meE hv hw h40 hl h hn) (StLe.heapLe (qmm _ _))
end
theorem c5(v w:Wv)(i k:Int)(t:Tol)(n:Int):Pure PP 5 [v.d,w.d,I i,I k,t.d,I n] (B true):=by
 have hf:(!!cz v w t)=true->cz v w t=true:=fun h=>by simpa using h
 refine pu F5 (by kernel_rfl) (of_eq (q3y v w i k t n _) ⟨PureW.mk (c11 v w t),fun h=>PureW.mk (c12 v (au (hf h)).1),fun h=> ?_,qa (fun _=>⟨PureW.mk c8,Wk.refl _⟩) fun h=> ?_⟩)
 ·cases hb:cz v w t with
  |false=>rw[hb]at h;cases h
  |true=>exact PureW.mk (c12 w (au hb).2.1)
 have hb:cz v w t=true/\clB v=true/\0<=n/\n<=100:=by
  cases hb:cz v w t with
  |false=>rw[hb]at h;cases h
  |true =>
   cases hc:clB v with
   |false=>rw[hb,hc]at h;cases h
   |true =>
    by_cases h1:n<0
    ·rw[hb,hc,decide_eq_true h1]at h
     cases hw2:clB w <;> rw[hw2]at h <;> cases h
    ·by_cases h2:n > 100
     ·rw[hb,hc,decide_eq_false h1,decide_eq_true h2]at h
      cases hw2:clB w <;> rw[hw2]at h <;> cases h
     ·exact⟨rfl,rfl,by omega,by omega⟩
 obtain⟨hb,hc,hn⟩:=hb
 obtain⟨s1,s2,hx,hy⟩:=au hb
 have hv:=xx s1
 have hw:=xx s2
 have hl:t.val.length<=1000:=by
  unfold cz at hb
  by_cases hl:(t.val.length:Int)<=40
  ·omega
  ·rw[decide_eq_false hl]at hb
   simp at hb
 refine jg (st':=⟨sMe v w i k n t,.empty⟩) ?_ ((StLe.refl _ _).cast (by kernel_rfl))
 refine qe jt _ _ _ (of_eq (q3z v w i k n t _) ⟨e14 v,fr (e14 w) [] [],ql8 hv hw hx i k t,?_⟩)
 refine jg (st':=⟨sMe v w i k n t++[(13,L (sgO v w i k t) 2 Iv.d),(14,I (erF v w i k t))],hBl 2⟩) ?_ ((StLe.refl _ _).cast (by kernel_rfl))
 refine qe jt _ _ _ (of_eq (q30 v w i k n t _ _ _) ⟨fr (e14 w) [] [],fr (e14 v) [] [],fr (ql8 hw hv hy k i t) [2,3] [],?_⟩)
 have hos:sgO w v k i t=sgO v w i k t:=by
  unfold sgO
  rw[i6 w v k i t]
  by_cases he:erF v w i k t=0
  ·rw[if_pos he,if_pos he,qhq hv hw he]
  ·rw[if_neg he,if_neg he]
 rw[hos,i6 w v k i t,bne_self_eq_false]
 refine⟨fun _=>PureW.mk (c16 _),qa (fun h=>(by cases h)) fun _=>qa (fun _=>⟨PureW.mk c8,Wk.refl _⟩) fun he=> ?_⟩
 have he:erF v w i k t=0:=by simpa using he
 have ho:sgO v w i k t=y6 v w i k t:=by unfold sgO;rw[if_pos he]
 rw[ho]
 exact jg (meD hv hw hx hl he s1 hc hn) (StLe.heapLe (qmm _ _))
end Go.Proofs.YtiekphbkomddfaaGreatDoor.S1
namespace Go.Proofs.YtiekphbkomddfaaGreatDoor.S1
open Go Go.Ab Go.Proofs

attribute [local instance] w7
def Mv(d:Int):List Chg->List Chg->Prop
 | [],[]=>True
 |x::r,y::s=>(y.val=x.val/\x.time-d<=y.time/\y.time<=x.time+d)/\Mv d r s
 |_,_=>False
theorem Mv.symm{d:Int}:∀{a b:List Chg},Mv d a b->Mv d b a
 | [],[],_=>trivial
 |_::_,_::_,⟨⟨h1,h2,h3⟩,h⟩=>⟨⟨h1.symm,by omega,by omega⟩,h.symm⟩
theorem Mv.occ{d s:Int}:∀{a b:List Chg},Mv d a b->occ a s->∃u,occ b u/\s-d<=u/\u<=s+d
 | [],[],_,⟨_,hx,_⟩=>by cases hx
 |x::r,y::q,⟨⟨h1,h2,h3⟩,h⟩,⟨z,hz,e⟩=>by
  rcases List.mem_cons.1 hz with rfl|hz
  ·exact⟨y.time,⟨y,List.mem_cons_self,rfl⟩,by omega,by omega⟩
  ·obtain⟨u,⟨w,hw,hu⟩,g⟩:=Mv.occ h ⟨z,hz,e⟩
   exact⟨u,⟨w,List.mem_cons_of_mem _ hw,hu⟩,g⟩
theorem Mv.near{d t:Int}(hd:0<=d):∀{a b:List Chg} {lo lo':Int} (v:Str),Mv d a b->Inc lo a->Inc lo' b->lo<=t->lo'<=t+d->∃u,lo'<=u/\t-d<=u/\u<=t+d/\v8 v b u=v8 v a t
 | [],[],lo,lo',v,_,_,_,h1,h2=>by
  by_cases h:lo'<=t
  ·exact⟨t,h,by omega,by omega,rfl⟩
  ·exact⟨lo',by omega,by omega,h2,rfl⟩
 |x::r,y::q,lo,lo',v,⟨⟨g1,g2,g3⟩,hm⟩,⟨ha,hA⟩,⟨hb,hB⟩,h1,h2=>by
  by_cases hx:x.time<=t
  ·obtain⟨u,k1,k2,k3,k4⟩:=Mv.near hd x.val hm hA hB hx (by omega)
   refine⟨u,by omega,k2,k3,?_⟩
   rw[j6,j6,decide_eq_true hx,decide_eq_true k1,g1]
   exact k4
  ·have e1:v8 v (x::r) t=v:=bk _ _ _ fun z hz=>by
    have:=Inc.gt (t:=t) (l:=x::r) ⟨by omega,hA⟩ z hz
    exact this
   have e2:∀u,u<y.time->v8 v (y::q) u=v:=fun u hu=>bk _ _ _ fun z hz=>Inc.gt (t:=u) (l:=y::q) ⟨hu,hB⟩ z hz
   rw[e1]
   by_cases hy:y.time<=t
   ·exact⟨y.time-1,by omega,by omega,by omega,e2 _ (by omega)⟩
   ·by_cases h:lo'<=t
    ·exact⟨t,h,by omega,by omega,e2 _ (by omega)⟩
    ·exact⟨lo',by omega,by omega,h2,e2 _ hb⟩
theorem qo0{p q:Sig}(h1:p.kind=q.kind)(h2:p.width=q.width):ini p=ini q:=by unfold ini;rw[h1,h2]
theorem ql9{v w:Wv}(hv:SmOk v)(hw:SmOk w)(hb:smB v=true)(hc:clB v=true){i d:Int}(hd:0<=d){t:Tol}(htm:t.time=d)(h:erF v w i 0 t=0)(hm:Mv d (qj v i).chg (qj w 0).chg)(he:vt v w=v.fin) :
  jb (y6 v w i 0 t) d (v.fin-d)=[]:=by
 obtain⟨n1,n2⟩:=yu hv hw h
 obtain⟨c1,c2⟩:=w9 (y6 v w i 0 t) d (v.fin-d)
 obtain⟨ht,hi,hk0,hkd,hwd⟩:=ix h
 have hf:=hv.fin
 have hiv:=hv.at hi
 have hiw:=hw.at hk0
 refine qcj c1 fun s=> ?_
 rw[c2]
 cases hs:(y6 v w i 0 t).any (inP s) with
 |false=>rfl
 |true =>
  rw[Bool.true_and,decide_eq_false_iff_not]
  intro⟨s1,s2⟩
  have s1:d<=s:=by unfold loT at s1;split at s1 <;> omega
  have s2:s<=v.fin-d:=by unfold hiT at s2;split at s2 <;> omega
  obtain⟨_,h4⟩:=(n2 s).1 hs
  rw[he,htm]at h4
  have hi':ini (qj w 0)=ini (qj v i):=(qo0 hkd hwd).symm
  rcases h4 with ⟨_,⟨g1,g2⟩|⟨g1,g2⟩⟩|⟨h3,_,g⟩
  ·obtain⟨u,k1,k2,k3⟩:=hm.occ g1
   exact g2 ⟨u,by omega,k1,k2,k3⟩
  ·obtain⟨u,k1,k2,k3⟩:=hm.symm.occ g1
   exact g2 ⟨u,by omega,k1,k2,k3⟩
  ·refine g ⟨?_,?_⟩
   ·obtain⟨u,k0,k1,k2,k3⟩:=Mv.near (t:=s) hd (ini (qj v i)) hm hiv.2.2 hiw.2.2 (by omega) (by omega)
    refine⟨u,by omega,by omega,by omega,by omega,?_⟩
    have e:vc (qj w 0) u=vc (qj v i) s:=by
     unfold vc
     rw[if_neg h3,if_neg (by rw[<-hkd];exact h3),hi']
     exact k3
    rw[e]
    exact ec hb hc hi ht h3 s
   ·obtain⟨u,k0,k1,k2,k3⟩:=Mv.near (t:=s) hd (ini (qj v i)) hm.symm hiw.2.2 hiv.2.2 (by omega) (by omega)
    refine⟨u,by omega,by omega,by omega,by omega,?_⟩
    have e:vc (qj w 0) s=vc (qj v i) u:=by
     unfold vc
     rw[if_neg h3,if_neg (by rw[<-hkd];exact h3),hi']
     exact k3.symm
    rw[e]
    exact ec hb hc hi ht h3 u
end Go.Proofs.YtiekphbkomddfaaGreatDoor.S1
namespace Go.Proofs.YtiekphbkomddfaaGreatDoor.S1
open Go Go.Ab Go.Proofs

attribute [local instance] w7
def ll(d:Int):Tol:=⟨d,[48],false⟩
theorem F6:OkF 6 Tryz.f6:=⟨by kernel_rfl,by kernel_rfl,by kernel_rfl⟩
def qu3:List (List Nat×List Nat):=[([1,1,1,0],[1,2,4,9])]
noncomputable def qu4(w:Wv):List Nat->Nat->Option Ans:=qf [([1,1,0,0],1,Ans.pure [w.d] (B (smB w))),([1,1,0,0],5,Ans.pure [w.d] (B (clB w))),([1,1,0,1,0,0],0,Ans.pure [] (B true))]
theorem q35(w:Wv)(i:Int)(b:List Int)(n:Int)(K:D->Prop):qo (En Tryz.f6) (fi Tryz.f6 K) (qu4 w) qu3 200 [.code []] ⟨qd 0 [w.d,I i,L b 1 (D.int .i8),.int .u8 n],.empty⟩ =
 ((6:Int)≠0/\PQ PP 19 [w.d] (B (smB w))/\((!!smB w)=true->PQ PP 12 [w.d] (B (clB w)))/\(((!bif bif bif !smB w then true else !clB w then true else decide (w.fin > 40) then true else decide (i<0))=true->w.sig.length<=q9)->((!bif bif bif bif !smB w then true else !clB w then true else decide (w.fin > 40) then true else decide (i<0) then true else decide (i>=(↑w.sig.length:Int)))=true->b.length<=q9)->bif bif bif bif bif bif !smB w then true else !clB w then true else decide (w.fin > 40) then true else decide (i<0) then true else decide (i>=(↑w.sig.length:Int)) then true else decide ((↑b.length:Int) > 40) then PQ PP 8 [] (B true)/\K (B true) else At (En Tryz.f6) (fi Tryz.f6 K) [It.code [1,1,1,0],It.code [1,1,1,1]] {sl:=[(1,I i),(2,L b 1 (D.int IntKind.i8)),(4,.own [L w.sig 3 Sig.d,L w.gap 2 Iv.d,I w.fin]),(9,I (IntKind.i64.wrap (n.tmod 6)))],h:=Heap.empty:St})):=by kernel_rfl
def sJi(w:Wv)(i:Int)(b:List Int)(d:Int):List (Nat×D):=[(1,I i),(2,L b 1 (D.int .i8)),(4,.own [L w.sig 3 Sig.d,L w.gap 2 Iv.d,I w.fin]),(9,I d)]
def qu5:List (List Nat×List Nat):=[([1,1,1,1,1,1,0,1,0],[1,2,4,9,11,12,65,66,67])]
noncomputable def qu6:List Nat->Nat->Option Ans:=qf []
theorem q36(w:Wv)(i:Int)(b:List Int)(d:Int)(K:D->Prop):qo (En Tryz.f6) (fi Tryz.f6 K) (qu6 ) qu5 200 [.code [1,1,1,0],.code [1,1,1,1]] ⟨sJi w i b d,.empty⟩ =
 ((0<=i/\i<(↑w.sig.length:Int))/\True/\True/\((w.sig.getD i.toNat default).chg.length<=q9->At (En Tryz.f6) (fi Tryz.f6 K) [It.code [1,1,1,1,1,1,0,1,0],It.blk 0,It.code [1,1,1,1,1,1,1]] {sl:=[(1,I i),(2,L b 1 (D.int IntKind.i8)),(4,.own [L w.sig 3 Sig.d,L w.gap 2 Iv.d,I w.fin]),(9,I d),(11,.own [I (w.sig.getD i.toNat default).kind,I (w.sig.getD i.toNat default).width,.list 0 0 (fun _=>D.junk) .full]),(12,I (qn .i64 (qn .i64 0 d) 1)),(65,L (w.sig.getD i.toNat default).chg 2 Chg.d),(66,I (↑(w.sig.getD i.toNat default).chg.length:Int)),(67,I 0)],h:=Heap.empty:St})):=by kernel_rfl
def SJi(w:Wv)(i:Int)(b:List Int)(d:Int)(q:Sig)(out:List Chg)(la k:Int):St:=⟨sJi w i b d++[(11,.own [I q.kind,I q.width,LT out 2 Chg.d 0]),(12,I la),(65,L q.chg 2 Chg.d),(66,I q.chg.length),(67,I k)],hN out.length 1⟩
def qu7:List (List Nat×List Nat):=[([1,1,1,1,1,1,1],[1,4,9,11])]
noncomputable def qu8:List Nat->Nat->Option Ans:=qf [([1,1,1,1,1,1,0,1,0,0,1,1,0,0,1,0,1,0,0],0,Ans.pure [] (B true))]
theorem q37(w:Wv)(i:Int)(b:List Int)(d:Int)(q:Sig)(out:List Chg)(la k:Int)(J:St->Prop)(K:D->Prop):qo (En Tryz.f6) (fi Tryz.f6 K) (qu8 ) qu7 200 [.code [1,1,1,1,1,1,0,1,0,0],stp [1,2,4,9,11,12,65,66,67] J,.blk 0,.code [1,1,1,1,1,1,1]] (SJi w i b d q out la k) =
 (bif decide (k<(↑q.chg.length:Int)) then
 (0<=k/\k<(↑q.chg.length:Int)) /\
  True /\
   bif bif bif decide (qn .i64 (q.chg.getD k.toNat default).time la<=ww .i64 2 d) then true else decide ((q.chg.getD k.toNat default).time<d) then true else decide ((q.chg.getD k.toNat default).time > qn .i64 w.fin d) then PQ PP 8 [] (B true)/\K (B true)
   else b.length<=q9->bif decide (k<(↑b.length:Int)) then(0<=k/\k<(↑b.length:Int))/\qh .i64 d 1≠0/\True/\(upd (fun _=>none) 0 (some out.length) 0=some out.length/\(out.length+1) * 24<=jm)/\True/\J {sl:=[(1,I i),(2,L b 1 (D.int IntKind.i8)),(4,.own [L w.sig 3 Sig.d,L w.gap 2 Iv.d,I w.fin]),(9,I d),(11,.own [I q.kind,I q.width,.list (out.length+1) 2 (vy out.length (fun i=>(out.getD i default).d) (zj [.agg [I (qh .i64 (q.chg.getD k.toNat default).time ((IntKind.i64.wrap (b.getD k.toNat default)).tmod (qh .i64 d 1))),.str (q.chg.getD k.toNat default).val]])) (.tok 0 2)]),(12,I (q.chg.getD k.toNat default).time),(65,L q.chg 2 Chg.d),(66,I (↑q.chg.length:Int)),(67,I (qh .i64 k 1))],h:={box:=fun _=>none,nl:=0,hw:=upd (upd (fun _=>none) 0 (some out.length)) 0 (some (out.length+1)),nt:=1,vw:=fun _=>none:Heap}:St} else(upd (fun _=>none) 0 (some out.length) 0=some out.length/\(out.length+1) * 24<=jm)/\True/\J {sl:=[(1,I i),(2,L b 1 (D.int IntKind.i8)),(4,.own [L w.sig 3 Sig.d,L w.gap 2 Iv.d,I w.fin]),(9,I d),(11,.own [I q.kind,I q.width,.list (out.length+1) 2 (vy out.length (fun i=>(out.getD i default).d) (zj [.agg [I (q.chg.getD k.toNat default).time,.str (q.chg.getD k.toNat default).val]])) (.tok 0 2)]),(12,I (q.chg.getD k.toNat default).time),(65,L q.chg 2 Chg.d),(66,I (↑q.chg.length:Int)),(67,I (qh .i64 k 1))],h:={box:=fun _=>none,nl:=0,hw:=upd (upd (fun _=>none) 0 (some out.length)) 0 (some (out.length+1)),nt:=1,vw:=fun _=>none:Heap}:St}
 else At (En Tryz.f6) (fi Tryz.f6 K) [It.code [1,1,1,1,1,1,1]] {sl:=[(1,I i),(4,.own [L w.sig 3 Sig.d,L w.gap 2 Iv.d,I w.fin]),(9,I d),(11,.own [I q.kind,I q.width,.list out.length 2 (fun i=>(out.getD i default).d) (.tok 0 2)])],h:={box:=fun _=>none,nl:=0,hw:=upd (fun _=>none) 0 (some out.length),nt:=1,vw:=fun _=>none:Heap}:St}):=by kernel_rfl
def qu9:List (List Nat×List Nat):=[([1,1,1,1,1,1,1,1,0],[1,4,9,15])]
noncomputable def qva:List Nat->Nat->Option Ans:=qf []
theorem q38(w:Wv)(i d:Int)(q:Sig)(K:D->Prop):qo (En Tryz.f6) (fi Tryz.f6 K) (qva ) qu9 200 [.code [1,1,1,1,1,1,1]] ⟨[(1,I i),(4,.own [L w.sig 3 Sig.d,L w.gap 2 Iv.d,I w.fin]),(9,I d),(11,.own [I q.kind,I q.width,L q.chg 2 Chg.d])],hT1⟩ =
 (True/\At (En Tryz.f6) (fi Tryz.f6 K) [It.code [1,1,1,1,1,1,1,1,0],It.code [1,1,1,1,1,1,1,1,1]] {sl:=[(1,I i),(4,.own [L w.sig 3 Sig.d,L w.gap 2 Iv.d,I w.fin]),(9,I d),(15,.own [.list 1 3 (zj [.agg [I q.kind,I q.width,L q.chg 2 Chg.d]]) .full,.list 0 0 (fun _=>D.junk) .full,I w.fin])],h:=hT1:St}):=by kernel_rfl
noncomputable def qvb(v:Wv)(w:Wv)(i:Int)(d:Int):List Nat->Nat->Option Ans:=qf [([1,1,1,1,1,1,1,1,0],1,Ans.eff (ren (rnm [] 0) (rnm [] 1) (D.bp 0 0)) (qg [] [] hT1 (hM v (-1) 0))),([1,1,1,1,1,1,1,1,0],5,Ans.eff (ren (rnm [] 1) (rnm [] 1) (D.bp 0 0)) (qg [] [] {box:=upd (fun _=>none) 0 (some (qw v (-1) 0)),nl:=1,hw:=fun _=>none,nt:=1,vw:=fun _=>none:Heap} (hM w (-1) 0))),([1,1,1,1,1,1,1,1,0],9,Ans.eff (ren (rnm [0,1] 2) (rnm [] 1) (.tup [L (sgO v w i 0 (ll d)) 2 Iv.d,I (erF v w i 0 (ll d))])) (qg [0,1] [] {box:=upd (upd (fun _=>none) 0 (some (qw v (-1) 0))) 1 (some (qw w (-1) 0)),nl:=2,hw:=fun _=>none,nt:=1,vw:=fun _=>none:Heap} (hBl 2))),([1,1,1,1,1,1,1,1,1,0],9,Ans.pure [L (sgO v w i 0 (ll d)) 2 Iv.d,I d,I (qn .i64 v.fin d)] (L (jb (sgO v w i 0 (ll d)) d (qn .i64 v.fin d)) 2 Iv.d)),([1,1,1,1,1,1,1,1,1,0],14,Ans.pure [] (B true))]
theorem q39(v w:Wv)(i d:Int)(K:D->Prop):qo (En Tryz.f6) (fi Tryz.f6 K) (qvb v w i d) dr 200 [.code [1,1,1,1,1,1,1,1,0],.code [1,1,1,1,1,1,1,1,1]] ⟨[(1,I i),(4,.own [L v.sig 3 Sig.d,L v.gap 2 Iv.d,I v.fin]),(9,I d),(15,.own [L w.sig 3 Sig.d,L w.gap 2 Iv.d,I w.fin])],hT1⟩ =
 (Does PP 14 [.agg [L v.sig 3 Sig.d,L v.gap 2 Iv.d,I v.fin]] hT1 (ren (rnm [] 0) (rnm [] 1) (D.bp 0 0)) (qg [] [] hT1 (hM v (-1) 0)) /\
 Does PP 14 [.agg [L w.sig 3 Sig.d,L w.gap 2 Iv.d,I w.fin]] {box:=upd (fun _=>none) 0 (some (qw v (-1) 0)),nl:=1,hw:=fun _=>none,nt:=1,vw:=fun _=>none:Heap} (ren (rnm [] 1) (rnm [] 1) (D.bp 0 0)) (qg [] [] {box:=upd (fun _=>none) 0 (some (qw v (-1) 0)),nl:=1,hw:=fun _=>none,nt:=1,vw:=fun _=>none:Heap} (hM w (-1) 0)) /\
  Does PP 13 [D.iface 36 (D.bp 0 0),I i,D.iface 36 (D.bp 1 0),I 0,.agg [I d,.str {data:= #[48]:ByteArray}.data.toList,B false]] {box:=upd (upd (fun _=>none) 0 (some (qw v (-1) 0))) 1 (some (qw w (-1) 0)),nl:=2,hw:=fun _=>none,nt:=1,vw:=fun _=>none:Heap} (ren (rnm [0,1] 2) (rnm [] 1) (.tup [L (sgO v w i 0 (ll d)) 2 Iv.d,I (erF v w i 0 (ll d))])) (qg [0,1] [] {box:=upd (upd (fun _=>none) 0 (some (qw v (-1) 0))) 1 (some (qw w (-1) 0)),nl:=2,hw:=fun _=>none,nt:=1,vw:=fun _=>none:Heap} (hBl 2)) /\
   ((erF v w i 0 (ll d)==0)=true->PQ PP 20 [L (sgO v w i 0 (ll d)) 2 Iv.d,I d,I (qn .i64 v.fin d)] (L (jb (sgO v w i 0 (ll d)) d (qn .i64 v.fin d)) 2 Iv.d))/\(((erF v w i 0 (ll d)==0)=true->(jb (sgO v w i 0 (ll d)) d (qn .i64 v.fin d)).length<=q9)->((bif erF v w i 0 (ll d)==0 then(↑(jb (sgO v w i 0 (ll d)) d (qn .i64 v.fin d)).length:Int)==0 else false)=true->PQ PP 8 [] (B true))/\K (B (bif bif erF v w i 0 (ll d)==0 then(↑(jb (sgO v w i 0 (ll d)) d (qn .i64 v.fin d)).length:Int)==0 else false then true else false)))):=by kernel_rfl
end Go.Proofs.YtiekphbkomddfaaGreatDoor.S1
namespace Go.Proofs.YtiekphbkomddfaaGreatDoor.S1
open Go Go.Ab Go.Proofs

attribute [local instance] w7
theorem qma{w:Wv}(h:smB w=true):∀q∈w.sig,∀x∈q.chg,x.time<=w.fin:=fun q hq=>by
 unfold smB at h
 rw[Bool.and_eq_true,Bool.and_eq_true]at h
 have h1:=List.all_eq_true.1 h.2.1 q hq
 unfold ry at h1
 rw[Bool.and_eq_true]at h1
 have key:∀(l:List Chg) (p:Option Chg) (b:Str),ru w q p b l=true->∀x∈l,x.time<=w.fin:=fun l=>by
  induction l with
  |nil=>intro p b _ x hx;cases hx
  |cons y r ih =>
   intro p b hc x hx
   rw[ru,Bool.and_eq_true,Bool.not_eq_true']at hc
   rcases List.mem_cons.1 hx with rfl|hx
   ·by_cases ht:x.time > w.fin
    ·have h2:=hc.1
     unfold an at h2
     rw[decide_eq_true ht]at h2
     simp only[Bool.cond_eq_ite]at h2
     simp at h2
    ·omega
   ·exact ih _ _ hc.2 x hx
 exact key _ _ _ h1.2
theorem Mv.snoc{d:Int}:∀{a b:List Chg} {x y:Chg},Mv d a b->y.val=x.val->x.time-d<=y.time->y.time<=x.time+d->Mv d (a++[x]) (b++[y])
 | [],[],_,_,_,h1,h2,h3=>⟨⟨h1,h2,h3⟩,trivial⟩
 |_::_,_::_,_,_,⟨h0,h⟩,h1,h2,h3=>⟨h0,h.snoc h1 h2 h3⟩
theorem Inc.snocJ:∀{l:List Chg} {t:Int} {y:Chg},Inc t l->(∀x∈l,x.time<y.time)->t<y.time->Inc t (l++[y])
 | [],_,_,_,_,h=>⟨h,trivial⟩
 |x::r,_,_,⟨h1,h2⟩,h,_=>⟨h1,h2.snocJ (fun z hz=>h z (List.mem_cons_of_mem _ hz)) (h x List.mem_cons_self)⟩
theorem Mv.len{d:Int}:∀{a b:List Chg},Mv d a b->b.length=a.length
 | [],[],_=>rfl
 |_::_,_::_,⟨_,h⟩=>by rw[List.length_cons,List.length_cons,h.len]
theorem qmb{d:Int}(h0:0<=d)(h5:d<=5):px (ll d)=true:=by
 have e:(q8 [48]).2=true/\dsF [48]>=0:=by decide +kernel
 unfold px ll
 rw[decide_eq_true (show d>=0 from h0),decide_eq_true (show d<=1099511627776 by omega),e.1,decide_eq_true e.2];rfl
def wvJ(w:Wv)(q:Sig)(out:List Chg):Wv:=⟨[⟨q.kind,q.width,out⟩],[],w.fin⟩
theorem qo1{v:Wv}(hb:smB v=true)(hc:clB v=true)(h40:v.fin<=40){i d:Int}(h0:0<=d)(h5:d<=5)(hi:inS v i){out:List Chg}(hm:Mv d (qj v i).chg out)(hn:Inc (-1) out) :
  At (En Tryz.f6) (fi Tryz.f6 fun d=>Wk d (B true)) [.code [1,1,1,1,1,1,1,1,0],.code [1,1,1,1,1,1,1,1,1]] ⟨[(1,I i),(4,.own [L v.sig 3 Sig.d,L v.gap 2 Iv.d,I v.fin]),(9,I d),(15,.own [L (wvJ v (qj v i) out).sig 3 Sig.d,L (wvJ v (qj v i) out).gap 2 Iv.d,I (wvJ v (qj v i) out).fin])],hT1⟩:=by
 have hv:=xx hb
 have hq:=hv.at hi
 have hw:SmOk (wvJ v (qj v i) out):=⟨hv.fin,(show(1:Nat)<=8 by decide),fun q hq'=>by
  rw[List.mem_singleton.1 hq']
  exact⟨by show out.length<=20;rw[hm.len];exact hq.1,hq.2.1,hn⟩⟩
 have h:erF v (wvJ v (qj v i) out) i 0 (ll d)=0:=by
  have hj:inS (wvJ v (qj v i) out) 0:=⟨by decide,(show(0:Int)<((1:Nat):Int) by decide)⟩
  unfold erF
  rw[if_neg (by rw[qmb h0 h5];simp),if_neg (not_not_intro ⟨hi,hj⟩),if_neg (fun g=>g rfl),if_neg (fun g=>g rfl)]
 have he:vt v (wvJ v (qj v i) out)=v.fin:=by unfold vt;split <;> rfl
 have hz:=ql9 hv hw hb hc h0 rfl h hm he
 have l1:=u3 hv hw h40 h
 have hf:=hv.fin
 have ho:sgO v (wvJ v (qj v i) out) i 0 (ll d)=y6 v (wvJ v (qj v i) out) i 0 (ll d):=by unfold sgO;rw[if_pos h]
 generalize wvJ v (qj v i) out=w at *
 refine qe jt _ _ _ (of_eq (q39 v w i d _) ⟨fr (e14 v) [] [],fr (e14 w) [] [],fr (ql8 hv hw h40 i 0 (ll d)) [0,1] [],?_⟩)
 rw[ho,h,zy (by omega) (by omega),hz]
 exact⟨fun _=>PureW.mk (by rw[<-hz];exact c20 _ _ _ (by omega)),fun _=>⟨fun _=>PureW.mk c8,Wk.refl _⟩⟩
theorem c6(w:Wv)(i:Int)(b:List Int)(n:Int)(hn:0<=n):Pure PP 6 [w.d,I i,L b 1 (D.int .i8),.int .u8 n] (B true):=by
 have m1:=Int.tmod_lt_of_pos n (show(0:Int)<6 by omega)
 have m2:=Int.tmod_nonneg 6 hn
 have hwr:IntKind.wrap .i64 (n.tmod 6)=n.tmod 6:=IntWalk.i64_in _ ⟨by omega,by omega⟩
 refine pu F6 (by kernel_rfl) (of_eq (q35 w i b n _) ⟨by decide,PureW.mk (c19 w),fun h=>PureW.mk (c12 w (by simpa using h)),fun _ _=>qa (fun _=>⟨PureW.mk c8,Wk.refl _⟩) fun h=> ?_⟩)
 rw[hwr]
 generalize n.tmod 6=d at *
 have hg:smB w=true/\clB w=true/\w.fin<=40/\inS w i/\b.length<=40:=by
  cases c1:smB w with
  |false=>rw[c1]at h;cases h
  |true =>
   cases c2:clB w with
   |false=>rw[c1,c2]at h;cases h
   |true =>
    rw[c1,c2]at h
    by_cases c3:w.fin > 40
    ·rw[decide_eq_true c3]at h;cases h
    ·by_cases c4:i<0
     ·rw[decide_eq_false c3,decide_eq_true c4]at h;cases h
     ·by_cases c5:i>=(w.sig.length:Int)
      ·rw[decide_eq_false c3,decide_eq_false c4,decide_eq_true c5]at h;cases h
      ·rw[decide_eq_false c3,decide_eq_false c4,decide_eq_false c5]at h
       have:¬ (b.length:Int) > 40:=of_decide_eq_false h
       exact⟨rfl,rfl,by omega,⟨by omega,by omega⟩,by omega⟩
 obtain⟨hb,hc,h40,hi,hbl⟩:=hg
 have hv:=xx hb
 have hf:=hv.fin
 obtain⟨q1,q2,q3⟩:=hv.at hi
 have qt:=qma hb _ (qaz hi)
 refine qe jt _ _ _ (of_eq (q36 w i b d _) ⟨hi,trivial,trivial,fun hlm=> ?_⟩)
 rw[zy (a:=0) (by omega) (by omega),zy (by omega) (by omega)]
 refine jg (st':=SJi w i b d (qj w i) [] (0-d-1) (0:Nat)) ?_ ((StLe.idleOwn _ none 11 2 2 (fun i=>Chg.d (([]:List Chg).getD i default)) rfl rfl).cast (by kernel_rfl))
 refine lp (fn:=Tryz.f6) (fun z:Nat×List Chg×Int=>z.1<=(qj w i).chg.length/\Mv d ((qj w i).chg.take z.1) z.2.1/\Inc (-1) z.2.1/\(∀y∈z.2.1,y.time<=z.2.2+d)/\ -6<=z.2.2/\z.2.2<=40) (fun z=>SJi w i b d (qj w i) z.2.1 z.2.2 z.1) (fun z=>(qj w i).chg.length-z.1) [1,2,4,9,11,12,65,66,67] (by kernel_rfl) (fun z hz=>of_eq (q37 w i b d (qj w i) z.2.1 z.2.2 z.1 _ _) ?_) (0,[],0-d-1) ⟨Nat.zero_le _,trivial,trivial,fun _ h=>(by cases h),by simp only;omega,by simp only;omega⟩
 obtain⟨k,out,la⟩:=z
 obtain⟨hk,hm,hin,hle,hl1,hl2⟩:=hz
 simp only at hk hm hin hle hl1 hl2⊢
 refine qa (fun hlt=> ?_) fun hge=> ?_
 ·have hlt:=ltI hlt
  have hol:out.length=k:=by rw[hm.len,List.length_take];omega
  have hxm:(qj w i).chg.getD k default∈(qj w i).chg:=by rw[List.getD_eq_getElem?_getD,List.getElem?_eq_getElem hlt];exact List.getElem_mem hlt
  have htk:=ze (qj w i).chg _ hlt
  rw[cn hlt hlm,Int.toNat_natCast]
  have hx1:=qt _ hxm
  have hx0:=Inc.gt q3 _ hxm
  generalize (qj w i).chg.getD k default=x at *
  have hmul:ww .i64 2 d=2 * d:=IntWalk.i64_in _ ⟨by omega,by omega⟩
  rw[zy (by omega) (by omega),zy (by omega) (by omega),hmul]
  refine⟨⟨by omega,by omega⟩,trivial,qa (fun _=>⟨PureW.mk c8,Wk.refl _⟩) fun hg hbm=> ?_⟩
  have hg:x.time-la > 2 * d/\x.time>=d/\x.time<=w.fin-d:=by
   by_cases g1:x.time-la<=2 * d
   ·rw[decide_eq_true g1]at hg;cases hg
   ·by_cases g2:x.time<d
    ·rw[decide_eq_false g1,decide_eq_true g2]at hg;cases hg
    ·rw[decide_eq_false g1,decide_eq_false g2]at hg
     have:¬ x.time > w.fin-d:=of_decide_eq_false hg
     omega
  have step:∀y:Chg,y.val=x.val->x.time-d<=y.time->y.time<=x.time+d->Mv d ((qj w i).chg.take (k+1)) (out++[y])/\Inc (-1) (out++[y])/\∀z∈out++[y],z.time<=x.time+d:=fun y e1 e2 e3=>by
   rw[htk]
   refine⟨hm.snoc e1 e2 e3,hin.snocJ (fun z hz=>by have:=hle z hz;omega) (by omega),fun z hz=> ?_⟩
   rcases List.mem_append.1 hz with hz|hz
   ·have:=hle z hz;omega
   ·rw[List.mem_singleton.1 hz];exact e3
  have nx:∀y:Chg,y.val=x.val->x.time-d<=y.time->y.time<=x.time+d->Nx Tryz.f6.ntmps (fun z:Nat×List Chg×Int=>z.1<=(qj w i).chg.length/\Mv d ((qj w i).chg.take z.1) z.2.1/\Inc (-1) z.2.1/\(∀y∈z.2.1,y.time<=z.2.2+d)/\ -6<=z.2.2/\z.2.2<=40) (fun z=>SJi w i b d (qj w i) z.2.1 z.2.2 z.1) (fun z=>(qj w i).chg.length-z.1) ((qj w i).chg.length-k)
    ⟨sJi w i b d++[(11,.own [I (qj w i).kind,I (qj w i).width,.list (out.length+1) 2 (vy out.length (fun i=>(out.getD i default).d) (zj [y.d])) (.tok 0 2)]),(12,I x.time),(65,L (qj w i).chg 2 Chg.d),(66,I (qj w i).chg.length),(67,I ((k:Int)+1))],hN (out.length+1) 1⟩:=fun y e1 e2 e3=>by
   obtain⟨s1,s2,s3⟩:=step y e1 e2 e3
   refine Nx.of (k+1,out++[y],x.time) ⟨hlt,s1,s2,s3,by simp only;omega,by simp only;omega⟩ (by simp only;omega) ?_
   have e:(out++[y]).length=out.length+1:=by simp
   unfold SJi
   simp only
   rw[e]
   exact(StLe.setOwn (of_decide_eq_true (by kernel_rfl)) 11 rfl (Wks.cons (Wk.refl _) (Wks.cons (Wk.refl _) (Wks.cons (Wk.snoc (enc:=Chg.d) (x:=y)) (Wks.refl _))))).cast (by kernel_rfl)
  refine qa (fun hkb=> ?_) fun hkb=> ?_
  ·have hkb:=ltI hkb
   generalize IntKind.wrap .i64 (b.getD k default)=m
   rw[jq (a:=d) (by omega) (by omega)]
   have t1 : -d<=m.tmod (d+1)/\m.tmod (d+1)<=d:=by
    have a1:=Int.tmod_lt_of_pos m (show(0:Int)<d+1 by omega)
    have a2:=Int.lt_tmod_of_pos m (show(0:Int)<d+1 by omega)
    omega
   generalize m.tmod (d+1)=r at *
   rw[jq (by omega) (by omega)]
   refine⟨⟨by omega,by omega⟩,by omega,trivial,⟨qb _ _ _,by unfold jm;omega⟩,trivial,?_⟩
   rw[ja]
   exact nx ⟨x.time+r,x.val⟩ rfl (by simp only;omega) (by simp only;omega)
  ·refine⟨⟨qb _ _ _,by unfold jm;omega⟩,trivial,?_⟩
   rw[ja]
   exact nx ⟨x.time,x.val⟩ rfl (by simp only;omega) (by simp only;omega)
 ·rw[List.take_of_length_le (geI hge)]at hm
  refine jg (st':=⟨[(1,I i),(4,.own [L w.sig 3 Sig.d,L w.gap 2 Iv.d,I w.fin]),(9,I d),(11,.own [I (qj w i).kind,I (qj w i).width,L out 2 Chg.d])],hT1⟩) ?_ (((StLe.setOwn (of_decide_eq_true (by kernel_rfl)) 11 rfl (Wks.cons (Wk.refl _) (Wks.cons (Wk.refl _) (Wks.cons (Wk.tokL (a:=out) (enc:=Chg.d)) (Wks.refl _))))).trans (StLe.heapLe qdr)).cast (by kernel_rfl))
  refine qe jt _ _ _ (of_eq (q38 w i d ⟨(qj w i).kind,(qj w i).width,out⟩ _) ⟨trivial,?_⟩)
  refine jg (qo1 hb hc h40 m2 (by omega) hi hm hin) ?_
  exact(StLe.setOwn (of_decide_eq_true (by kernel_rfl)) 15 rfl (Wks.cons (Wk.litL (l:=[(⟨(qj w i).kind,(qj w i).width,out⟩:Sig)]) (enc:=Sig.d) rfl rfl) (Wks.cons (Wk.nilL (α:=Iv) (sz':=2) (enc:=Iv.d)) (Wks.refl _)))).cast (by kernel_rfl)
end Go.Proofs.YtiekphbkomddfaaGreatDoor.S1
namespace Go.Proofs.YtiekphbkomddfaaGreatDoor.S1
open Go Go.Ab Go.Proofs
open Go.ChangeShapes Go.WideShapes Go.ChangeAt Go.RowKit Go.Joins

theorem cI8:Tryz.prog.cellsOf 50=1:=by kernel_rfl
theorem q4a:Tryz.prog.cellsOf 44=1:=by kernel_rfl
theorem rI8:Reads Tryz.prog 50 (D.int .i8) any:=(Reads.int Tryz.underlying50 cI8).map (fun n=>n) (fun _=>rfl) (fun n=>⟨n,rfl⟩) fun _ _=>trivial
theorem q4b:Reads Tryz.prog 44 (fun es:List Int=>L es 1 (D.int .i8)) any:=rsl rI8 Tryz.underlying44 q4a cI8 (by decide)
end Go.Proofs.YtiekphbkomddfaaGreatDoor.S1
