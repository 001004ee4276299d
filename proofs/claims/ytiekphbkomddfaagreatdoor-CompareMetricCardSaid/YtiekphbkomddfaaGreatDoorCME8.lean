/- Comparing: what the statements share; the code's parts. -/
import Derived.Test.YtiekphbkomddfaaGreatDoorCME7
namespace Go.Proofs.YtiekphbkomddfaaGreatDoor.S1
open Go Go.Ab Go.Proofs

attribute [local instance] yu
theorem F11:OkF 11 Tryz.f11:=⟨by kernel_rfl,by kernel_rfl,by kernel_rfl⟩
def q23:List (List Nat×List Nat):=[]
noncomputable def qt5(v:Wv)(w:Wv):List Nat->Nat->Option Ans:=qf [([1,0],1,Ans.pure [v.d] (B (smB v))),([1,0],4,Ans.pure [w.d] (B (smB w)))]
theorem q24(v w:Wv)(t:Tol)(K:D->Prop):qo (En Tryz.f11) (fi Tryz.f11 K) (qt5 v w) q23 200 [.code []] ⟨qd 0 [v.d,w.d,t.d],.empty⟩ =
 (PQ PP 19 [v.d] (B (smB v))/\(smB v=true->PQ PP 19 [w.d] (B (smB w)))/\(((bif bif bif smB v then smB w else false then decide (v.fin<=40) else false then decide (w.fin<=40) else false)=true->List.length t.val<=j4)->K (B (bif bif bif bif smB v then smB w else false then decide (v.fin<=40) else false then decide (w.fin<=40) else false then decide ((↑(List.length t.val):Int)<=40) else false)))):=by kernel_rfl
theorem F16:OkF 16 Tryz.f16:=⟨by kernel_rfl,by kernel_rfl,by kernel_rfl⟩
def qvw:List (List Nat×List Nat):=[([1,1,0,1,0],[0,1,5])]
noncomputable def qt6:List Nat->Nat->Option Ans:=qf []
theorem q25(a:List Iv)(K:D->Prop):qo (En Tryz.f16) (fi Tryz.f16 K) (qt6 ) qvw 200 [.code []] ⟨qd 0 [L a 2 Iv.d,L a 2 Iv.d],.empty⟩ =
 (a.length<=q8->a.length<=q8->bif(↑a.length:Int)!=(↑a.length:Int) then K (B false) else At (En Tryz.f16) (fi Tryz.f16 K) [It.code [1,1,0,1,0],It.blk 0,It.code [1,1,1]] {sl:=[(0,L a 2 Iv.d),(1,L a 2 Iv.d),(5,I 0)],h:=Heap.empty:St}):=by kernel_rfl
def qvx(a:List Iv)(i:Int):St:=⟨[(0,L a 2 Iv.d),(1,L a 2 Iv.d),(5,I i)],.empty⟩
noncomputable def qop:List Nat->Nat->Option Ans:=qf []
theorem qt7(a:List Iv)(i:Int)(J:St->Prop)(K:D->Prop):qo (En Tryz.f16) (fi Tryz.f16 K) (qop ) qvw 200 [.code [1,1,0,1,0,0],stp [0,1,5] J,.blk 0,.code [1,1,1]] (qvx a i) =
 (a.length<=q8->bif decide (i<(↑a.length:Int)) then(0<=i/\i<(↑a.length:Int))/\(0<=i/\i<(↑a.length:Int))/\bif !((a.getD i.toNat default).frm==(a.getD i.toNat default).frm&&(a.getD i.toNat default).to==(a.getD i.toNat default).to) then K (B false) else J {sl:=[(0,L a 2 Iv.d),(1,L a 2 Iv.d),(5,I (qg .i64 i 1))],h:=Heap.empty:St} else K (B true)):=by kernel_rfl
theorem F12:OkF 12 Tryz.f12:=⟨by kernel_rfl,by kernel_rfl,by kernel_rfl⟩
def qt8:List (List Nat×List Nat):=[([1,0,1,0],[8,9,10]),([1,0,1,0,0,1,1,0,0,1,1,0],[4,8,9,10,15,16,17])]
noncomputable def q26:List Nat->Nat->Option Ans:=qf []
theorem nCl(w:Wv)(K:D->Prop):qo (En Tryz.f12) (fi Tryz.f12 K) (q26 ) qt8 200 [.code []] ⟨qd 0 [w.d],.empty⟩ =
 (w.sig.length<=q8->At (En Tryz.f12) (fi Tryz.f12 K) [It.code [1,0,1,0],It.blk 0,It.code [1,1]] {sl:=[(8,L w.sig 3 Sig.d),(9,I (↑w.sig.length:Int)),(10,I 0)],h:=Heap.empty:St}):=by kernel_rfl
def SCl(w:Wv)(i:Int):St:=⟨[(8,L w.sig 3 Sig.d),(9,I w.sig.length),(10,I i)],.empty⟩
noncomputable def qt9:List Nat->Nat->Option Ans:=qf []
theorem q27(w:Wv)(i:Int)(J:St->Prop)(K:D->Prop):qo (En Tryz.f12) (fi Tryz.f12 K) (qt9 ) qt8 200 [.code [1,0,1,0,0],stp [8,9,10] J,.blk 0,.code [1,1]] (SCl w i) =
 (bif decide (i<(↑w.sig.length:Int)) then(0<=i/\i<(↑w.sig.length:Int))/\True/\((w.sig.getD i.toNat default).chg.length<=q8->At (En Tryz.f12) (fi Tryz.f12 K) [It.code [1,0,1,0,0,1,1,0,0,1,1,0],It.blk 2,It.blk 1,It.code [1,0,1,0,0,1,1,1],stp [8,9,10] J,It.blk 0,It.code [1,1]] {sl:=[(4,.own [I (w.sig.getD i.toNat default).kind,I (w.sig.getD i.toNat default).width,L (w.sig.getD i.toNat default).chg 2 Chg.d]),(8,L w.sig 3 Sig.d),(9,I (↑w.sig.length:Int)),(10,I i),(15,L (w.sig.getD i.toNat default).chg 2 Chg.d),(16,I (↑(w.sig.getD i.toNat default).chg.length:Int)),(17,I 0)],h:=Heap.empty:St}) else K (B true)):=by kernel_rfl
def qvy(w:Wv)(i:Int)(q:Sig)(k:Int):St:=⟨[(4,.own [I q.kind,I q.width,L q.chg 2 Chg.d]),(8,L w.sig 3 Sig.d),(9,I w.sig.length),(10,I i),(15,L q.chg 2 Chg.d),(16,I q.chg.length),(17,I k)],.empty⟩
noncomputable def qua(q:Sig)(k:Int):List Nat->Nat->Option Ans:=qf [([1,0,1,0,0,1,1,0,0,1,1,0,0,1,1,0,0,1,0],6,Ans.pure [.str (q.chg.getD k.toNat default).val] (B (q7 (q.chg.getD k.toNat default).val).snd))]
theorem q28(w:Wv)(i:Int)(q:Sig)(k:Int)(J J2:St->Prop)(K:D->Prop):qo (En Tryz.f12) (fi Tryz.f12 K) (qua q k) qt8 200 [.code [1,0,1,0,0,1,1,0,0,1,1,0,0],stp [4,8,9,10,15,16,17] J,.blk 2,.blk 1,.code [1,0,1,0,0,1,1,1],stp [8,9,10] J2,.blk 0,.code [1,1]] (qvy w i q k) =
 (bif decide (k<(↑q.chg.length:Int)) then(0<=k/\k<(↑q.chg.length:Int))/\True/\((q.kind==1)=true->PQ PP 28 [.str (q.chg.getD k.toNat default).val] (B (q7 (q.chg.getD k.toNat default).val).snd))/\bif bif q.kind==1 then !(q7 (q.chg.getD k.toNat default).val).snd else false then K (B false) else J {sl:=[(4,.own [I q.kind,I q.width,L q.chg 2 Chg.d]),(8,L w.sig 3 Sig.d),(9,I (↑w.sig.length:Int)),(10,I i),(15,L q.chg 2 Chg.d),(16,I (↑q.chg.length:Int)),(17,I (qg .i64 k 1))],h:=Heap.empty:St} else J2 {sl:=[(8,L w.sig 3 Sig.d),(9,I (↑w.sig.length:Int)),(10,I (qg .i64 i 1))],h:=Heap.empty:St}):=by kernel_rfl
def cw(v w:Wv)(t:Tol):Bool:=bif bif bif bif smB v then smB w else false then decide (v.fin<=40) else false then decide (w.fin<=40) else false then decide ((t.val.length:Int)<=40) else false
def clB(w:Wv):Bool:=w.sig.all fun q=>q.chg.all fun x=> !(bif q.kind==1 then !(q7 x.val).2 else false)
theorem F21:OkF 21 Tryz.f21:=⟨by kernel_rfl,by kernel_rfl,by kernel_rfl⟩
def q29:List (List Nat×List Nat):=[]
noncomputable def q3a(t:Int):List Nat->Nat->Option Ans:=qf [([1,0],7,Ans.eff (ren (rnm [] 0) (rnm [] 0) (D.bp 0 0)) (qh [] [] Heap.empty (hM {sig:=[{kind:=0,width:=1,chg:=[{time:=0,val:={data:= #[48]:ByteArray}.data.toList:Chg},{time:=t,val:={data:= #[49]:ByteArray}.data.toList:Chg}]:Sig}],gap:=[],fin:=9:Wv} (-1) 0)))]
theorem nRi(t:Int)(K:D->Heap->Prop):qo (En Tryz.f21) (fh Tryz.f21 K) (q3a t) q29 200 [.code []] ⟨qd 0 [I t],.empty⟩ =
 (Does PP 14 [.agg [.list 1 3 (zx [.agg [I 0,I 1,.list 2 2 (zx [.agg [I 0,.str {data:= #[48]:ByteArray}.data.toList],.agg [I t,.str {data:= #[49]:ByteArray}.data.toList]]) .full]]) .full,.list 0 0 (fun _=>D.junk) .full,I 9]] Heap.empty (ren (rnm [] 0) (rnm [] 0) (D.bp 0 0)) (qh [] [] Heap.empty (hM {sig:=[{kind:=0,width:=1,chg:=[{time:=0,val:={data:= #[48]:ByteArray}.data.toList:Chg},{time:=t,val:={data:= #[49]:ByteArray}.data.toList:Chg}]:Sig}],gap:=[],fin:=9:Wv} (-1) 0))/\K (D.bp 0 0) {box:=upd (fun _=>none) 0 (some (Row.lit [L {sig:=[{kind:=0,width:=1,chg:=[{time:=0,val:={data:= #[48]:ByteArray}.data.toList:Chg},{time:=t,val:={data:= #[49]:ByteArray}.data.toList:Chg}]:Sig}],gap:=[],fin:=9:Wv}.sig 3 Sig.d,L {sig:=[{kind:=0,width:=1,chg:=[{time:=0,val:={data:= #[48]:ByteArray}.data.toList:Chg},{time:=t,val:={data:= #[49]:ByteArray}.data.toList:Chg}]:Sig}],gap:=[],fin:=9:Wv}.gap 2 Iv.d,I {sig:=[{kind:=0,width:=1,chg:=[{time:=0,val:={data:= #[48]:ByteArray}.data.toList:Chg},{time:=t,val:={data:= #[49]:ByteArray}.data.toList:Chg}]:Sig}],gap:=[],fin:=9:Wv}.fin,I (-1),I 0])),nl:=1,hw:=fun _=>none,nt:=0,vw:=fun _=>none:Heap}):=by kernel_rfl
def wA(t:Int):Wv:=⟨[⟨0,1,[⟨0,[48]⟩,⟨t,[49]⟩]⟩],[],9⟩
def sgA(q:Int):List Iv:=if q=1 then[⟨5,6⟩] else[]
theorem F8:OkF 8 Tryz.f8:=⟨by kernel_rfl,by kernel_rfl,by kernel_rfl⟩
def lv8:List (List Nat×List Nat):=[]
noncomputable def qub:List Nat->Nat->Option Ans:=qf [([1,1,0],1,Ans.eff (D.bp 0 0) (hM (wA 5) (-1) 0)),([1,1,0],4,Ans.eff (ren (rnm [] 1) (rnm [] 0) (D.bp 0 0)) (qh [] [] {box:=upd (fun _=>none) 0 (some (qw (wA 5) (-1) 0)),nl:=1,hw:=fun _=>none,nt:=0,vw:=fun _=>none:Heap} (hM (wA 7) (-1) 0))),([1,1,0],7,Ans.eff (.tup [L (sgA 1) 2 Iv.d,I 0]) (hM2 (wA 5) (-1) 6 (wA 7) (-1) 5)),([1,1,1,0],1,Ans.eff (ren (rnm [] 2) (rnm [] 0) (D.bp 0 0)) (qh [] [] {box:=upd (upd (fun _=>none) 0 (some (qw (wA 5) (-1) 6))) 1 (some (qw (wA 7) (-1) 5)),nl:=2,hw:=fun _=>none,nt:=0,vw:=fun _=>none:Heap} (hM (wA 5) (-1) 0))),([1,1,1,0],4,Ans.eff (ren (rnm [] 3) (rnm [] 0) (D.bp 0 0)) (qh [] [] {box:=upd (upd (upd (fun _=>none) 0 (some (qw (wA 5) (-1) 6))) 1 (some (qw (wA 7) (-1) 5))) 2 (some (qw (wA 5) (-1) 0)),nl:=3,hw:=fun _=>none,nt:=0,vw:=fun _=>none:Heap} (hM (wA 7) (-1) 0))),
 ([1,1,1,0],7,Ans.eff (ren (rnm [2,3] 4) (rnm [] 0) (.tup [L (sgA 2) 2 Iv.d,I 0])) (qh [2,3] [] {box:=upd (upd (upd (upd (fun _=>none) 0 (some (qw (wA 5) (-1) 6))) 1 (some (qw (wA 7) (-1) 5))) 2 (some (qw (wA 5) (-1) 0))) 3 (some (qw (wA 7) (-1) 0)),nl:=4,hw:=fun _=>none,nt:=0,vw:=fun _=>none:Heap} (hM2 (wA 5) (-1) 6 (wA 7) (-1) 5))),([1,1,1,1,0],6,Ans.pure [L (sgA 1) 2 Iv.d,L [{frm:=5,to:=6:Iv}] 2 Iv.d] (B true)),([1,1,1,1,0],18,Ans.pure [qg0] (I (-1)))]
theorem q3b(K:D->Prop):qo (En Tryz.f8) (fi Tryz.f8 K) (qub ) lv8 200 [.code []] ⟨qd 0 [],.empty⟩ =
 (Does PP 21 [I 5] Heap.empty (D.bp 0 0) (hM (wA 5) (-1) 0) /\
 Does PP 21 [I 7] {box:=upd (fun _=>none) 0 (some (qw (wA 5) (-1) 0)),nl:=1,hw:=fun _=>none,nt:=0,vw:=fun _=>none:Heap} (ren (rnm [] 1) (rnm [] 0) (D.bp 0 0)) (qh [] [] {box:=upd (fun _=>none) 0 (some (qw (wA 5) (-1) 0)),nl:=1,hw:=fun _=>none,nt:=0,vw:=fun _=>none:Heap} (hM (wA 7) (-1) 0)) /\
  Does PP 13 [D.iface 36 (D.bp 0 0),I 0,D.iface 36 (D.bp 1 0),I 0,.agg [I 1,.str {data:= #[48]:ByteArray}.data.toList,B false]] {box:=upd (upd (fun _=>none) 0 (some (qw (wA 5) (-1) 0))) 1 (some (qw (wA 7) (-1) 0)),nl:=2,hw:=fun _=>none,nt:=0,vw:=fun _=>none:Heap} (.tup [L (sgA 1) 2 Iv.d,I 0]) (hM2 (wA 5) (-1) 6 (wA 7) (-1) 5) /\
   Does PP 21 [I 5] {box:=upd (upd (fun _=>none) 0 (some (qw (wA 5) (-1) 6))) 1 (some (qw (wA 7) (-1) 5)),nl:=2,hw:=fun _=>none,nt:=0,vw:=fun _=>none:Heap} (ren (rnm [] 2) (rnm [] 0) (D.bp 0 0)) (qh [] [] {box:=upd (upd (fun _=>none) 0 (some (qw (wA 5) (-1) 6))) 1 (some (qw (wA 7) (-1) 5)),nl:=2,hw:=fun _=>none,nt:=0,vw:=fun _=>none:Heap} (hM (wA 5) (-1) 0)) /\
    Does PP 21 [I 7] {box:=upd (upd (upd (fun _=>none) 0 (some (qw (wA 5) (-1) 6))) 1 (some (qw (wA 7) (-1) 5))) 2 (some (qw (wA 5) (-1) 0)),nl:=3,hw:=fun _=>none,nt:=0,vw:=fun _=>none:Heap} (ren (rnm [] 3) (rnm [] 0) (D.bp 0 0)) (qh [] [] {box:=upd (upd (upd (fun _=>none) 0 (some (qw (wA 5) (-1) 6))) 1 (some (qw (wA 7) (-1) 5))) 2 (some (qw (wA 5) (-1) 0)),nl:=3,hw:=fun _=>none,nt:=0,vw:=fun _=>none:Heap} (hM (wA 7) (-1) 0)) /\
     Does PP 13 [D.iface 36 (D.bp 2 0),I 0,D.iface 36 (D.bp 3 0),I 0,.agg [I 2,.str {data:= #[48]:ByteArray}.data.toList,B false]] {box:=upd (upd (upd (upd (fun _=>none) 0 (some (qw (wA 5) (-1) 6))) 1 (some (qw (wA 7) (-1) 5))) 2 (some (qw (wA 5) (-1) 0))) 3 (some (qw (wA 7) (-1) 0)),nl:=4,hw:=fun _=>none,nt:=0,vw:=fun _=>none:Heap} (ren (rnm [2,3] 4) (rnm [] 0) (.tup [L (sgA 2) 2 Iv.d,I 0])) (qh [2,3] [] {box:=upd (upd (upd (upd (fun _=>none) 0 (some (qw (wA 5) (-1) 6))) 1 (some (qw (wA 7) (-1) 5))) 2 (some (qw (wA 5) (-1) 0))) 3 (some (qw (wA 7) (-1) 0)),nl:=4,hw:=fun _=>none,nt:=0,vw:=fun _=>none:Heap} (hM2 (wA 5) (-1) 6 (wA 7) (-1) 5))/\(true=true->PureW PP 16 [L (sgA 1) 2 Iv.d,.list 1 2 (zx [.agg [I 5,I 6]]) .full] [L (sgA 1) 2 Iv.d,L [{frm:=5,to:=6:Iv}] 2 Iv.d] (B true))/\((true=true->0<=q8)->(true=true->PQ PP 22 [qg0] (I (-1)))/\K (B true))):=by kernel_rfl
theorem F7:OkF 7 Tryz.f7:=⟨by kernel_rfl,by kernel_rfl,by kernel_rfl⟩
def quc:List (List Nat×List Nat):=[([1,1,1,1,1,0],[2,3,5,6,7,8,11,15,16,17])]
noncomputable def qud(v:Wv)(w:Wv)(i:Int)(k:Int)(t:Tol):List Nat->Nat->Option Ans:=qf [([1,0,0],3,Ans.pure [v.d,w.d,t.d] (B (cw v w t))),([1,0,0],7,Ans.pure [v.d] (B (clB v))),([1,0,0],12,Ans.pure [w.d] (B (clB w))),([1,0,1,0,0],0,Ans.pure [] (B true)),([1,1,0],1,Ans.eff (D.bp 0 0) (hM v (-1) 0)),([1,1,0],3,Ans.eff (ren (rnm [] 1) (rnm [] 0) (D.bp 0 0)) (qh [] [] {box:=upd (fun _=>none) 0 (some (qw v (-1) 0)),nl:=1,hw:=fun _=>none,nt:=0,vw:=fun _=>none:Heap} (hM w (-1) 0))),([1,1,1,0],7,Ans.eff (.tup [L (sgR v (-1) 0 w (-1) 0 i k t).out 2 Iv.d,I (sgR v (-1) 0 w (-1) 0 i k t).err]) (hM2 v (-1) (sgR v (-1) 0 w (-1) 0 i k t).c w (-1) (sgR v (-1) 0 w (-1) 0 i k t).d)),([1,1,1,1,0,1,0,0],4,Ans.pure [] (B true))]
theorem q3c(v w:Wv)(i k:Int)(t:Tol)(n:Int)(sec:Bool)(K:D->Prop):qo (En Tryz.f7) (fi Tryz.f7 K) (qud v w i k t) quc 200 [.code []] ⟨qd 0 [v.d,w.d,I i,I k,t.d,.int .u8 n,B sec],.empty⟩ =
 (PQ PP 11 [v.d,w.d,t.d] (B (cw v w t)) /\
 ((!!cw v w t)=true->PQ PP 12 [v.d] (B (clB v))) /\
  ((!bif !cw v w t then true else !clB v)=true->PQ PP 12 [w.d] (B (clB w))) /\
   bif bif bif !cw v w t then true else !clB v then true else !clB w then PQ PP 8 [] (B true)/\K (B true)
   else
    Does PP 14 [.agg [L v.sig 3 Sig.d,L v.gap 2 Iv.d,I v.fin]] Heap.empty (D.bp 0 0) (hM v (-1) 0) /\
     Does PP 14 [.agg [L w.sig 3 Sig.d,L w.gap 2 Iv.d,I w.fin]] {box:=upd (fun _=>none) 0 (some (qw v (-1) 0)),nl:=1,hw:=fun _=>none,nt:=0,vw:=fun _=>none:Heap} (ren (rnm [] 1) (rnm [] 0) (D.bp 0 0)) (qh [] [] {box:=upd (fun _=>none) 0 (some (qw v (-1) 0)),nl:=1,hw:=fun _=>none,nt:=0,vw:=fun _=>none:Heap} (hM w (-1) 0)) /\
      Does PP 13 [D.iface 36 (D.bp 0 0),I i,D.iface 36 (D.bp 1 0),I k,.agg [I t.time,.str t.val,B t.unk]] {box:=upd (upd (fun _=>none) 0 (some (qw v (-1) 0))) 1 (some (qw w (-1) 0)),nl:=2,hw:=fun _=>none,nt:=0,vw:=fun _=>none:Heap} (.tup [L (sgR v (-1) 0 w (-1) 0 i k t).out 2 Iv.d,I (sgR v (-1) 0 w (-1) 0 i k t).err]) (hM2 v (-1) (sgR v (-1) 0 w (-1) 0 i k t).c w (-1) (sgR v (-1) 0 w (-1) 0 i k t).d)/\bif(sgR v (-1) 0 w (-1) 0 i k t).err !=0 then(sgR v (-1) 0 w (-1) 0 i k t).out.length<=q8->(((↑(sgR v (-1) 0 w (-1) 0 i k t).out.length:Int)==0)=true->PQ PP 8 [] (B true))/\K (B (bif(↑(sgR v (-1) 0 w (-1) 0 i k t).out.length:Int)==0 then true else false)) else At (En Tryz.f7) (fi Tryz.f7 K) [It.code [1,1,1,1,1,0],It.code [1,1,1,1,1,1]] {sl:=[(2,I i),(3,I k),(5,D.int IntKind.u8 n),(6,B sec),(7,.own [L v.sig 3 Sig.d,L v.gap 2 Iv.d,I v.fin]),(8,.own [L w.sig 3 Sig.d,L w.gap 2 Iv.d,I w.fin]),(11,.own [I t.time,.str t.val,B t.unk]),(15,D.bp 0 0),(16,D.bp 1 0),(17,L (sgR v (-1) 0 w (-1) 0 i k t).out 2 Iv.d)],h:={box:=upd (upd (fun _=>none) 0 (some (qw v (-1) (sgR v (-1) 0 w (-1) 0 i k t).c))) 1 (some (qw w (-1) (sgR v (-1) 0 w (-1) 0 i k t).d)),nl:=2,hw:=fun _=>none,nt:=0,vw:=fun _=>none:Heap}:St}):=by kernel_rfl
def SLR(v:Wv)(c:Int)(w:Wv)(d i k tm:Int)(tv:Str)(tu:Bool)(n:Int)(sec:Bool)(out:List Iv):St:=⟨[(2,I i),(3,I k),(5,.int .u8 n),(6,B sec),(7,.own [L v.sig 3 Sig.d,L v.gap 2 Iv.d,I v.fin]),(8,.own [L w.sig 3 Sig.d,L w.gap 2 Iv.d,I w.fin]),(11,.own [I tm,.str tv,B tu]),(15,.bp 0 0),(16,.bp 1 0),(17,L out 2 Iv.d)],hM2 v (-1) c w (-1) d⟩
def que:List (List Nat×List Nat):=[([1,1,1,1,1,1,1,1,0],[2,3,5,11,17,19,20,21])]
noncomputable def quf(v:Wv)(w:Wv)(c:Int)(d:Int):List Nat->Nat->Option Ans:=qf [([1,1,1,1,1,0],1,Ans.eff (ren (rnm [] 2) (rnm [] 0) (D.bp 0 0)) (qh [] [] {box:=upd (upd (fun _=>none) 0 (some (qw v (-1) c))) 1 (some (qw w (-1) d)),nl:=2,hw:=fun _=>none,nt:=0,vw:=fun _=>none:Heap} (hM v (-1) 0))),([1,1,1,1,1,0],3,Ans.eff (ren (rnm [] 3) (rnm [] 0) (D.bp 0 0)) (qh [] [] {box:=upd (upd (upd (fun _=>none) 0 (some (qw v (-1) c))) 1 (some (qw w (-1) d))) 2 (some (qw v (-1) 0)),nl:=3,hw:=fun _=>none,nt:=0,vw:=fun _=>none:Heap} (hM w (-1) 0)))]
theorem q3d(v w:Wv)(c d i k tm:Int)(tv:Str)(tu:Bool)(n:Int)(sec:Bool)(out:List Iv)(K:D->Prop):qo (En Tryz.f7) (fi Tryz.f7 K) (quf v w c d) que 200 [.code [1,1,1,1,1,0],.code [1,1,1,1,1,1]] (SLR v c w d i k tm tv tu n sec out) =
 (Does PP 14 [.agg [L v.sig 3 Sig.d,L v.gap 2 Iv.d,I v.fin]] {box:=upd (upd (fun _=>none) 0 (some (qw v (-1) c))) 1 (some (qw w (-1) d)),nl:=2,hw:=fun _=>none,nt:=0,vw:=fun _=>none:Heap} (ren (rnm [] 2) (rnm [] 0) (D.bp 0 0)) (qh [] [] {box:=upd (upd (fun _=>none) 0 (some (qw v (-1) c))) 1 (some (qw w (-1) d)),nl:=2,hw:=fun _=>none,nt:=0,vw:=fun _=>none:Heap} (hM v (-1) 0)) /\
 Does PP 14 [.agg [L w.sig 3 Sig.d,L w.gap 2 Iv.d,I w.fin]] {box:=upd (upd (upd (fun _=>none) 0 (some (qw v (-1) c))) 1 (some (qw w (-1) d))) 2 (some (qw v (-1) 0)),nl:=3,hw:=fun _=>none,nt:=0,vw:=fun _=>none:Heap} (ren (rnm [] 3) (rnm [] 0) (D.bp 0 0)) (qh [] [] {box:=upd (upd (upd (fun _=>none) 0 (some (qw v (-1) c))) 1 (some (qw w (-1) d))) 2 (some (qw v (-1) 0)),nl:=3,hw:=fun _=>none,nt:=0,vw:=fun _=>none:Heap} (hM w (-1) 0)) /\
  bif sec then(32:Int)≠0/\True/\At (En Tryz.f7) (fi Tryz.f7 K) [It.code [1,1,1,1,1,1,1,1,0],It.code [1,1,1,1,1,1,1,1,1]] {sl:=[(2,I i),(3,I k),(5,D.int IntKind.u8 n),(11,.own [I tm,.str tv,B tu]),(17,L out 2 Iv.d),(19,D.bp 2 0),(20,D.bp 3 0),(21,I d)],h:={box:=upd (upd (upd (upd (upd (fun _=>none) 0 (some (qw v (-1) c))) 1 (some (qw w (-1) d))) 2 (some (qw v (-1) 0))) 3 (some (qw w (-1) 0))) 3 (some (Row.lit [L w.sig 3 Sig.d,L w.gap 2 Iv.d,I w.fin,I (IntKind.i64.wrap (n.tmod 32)),I 0])),nl:=4,hw:=fun _=>none,nt:=0,vw:=fun _=>none:Heap}:St}
  else(32:Int)≠0/\True/\At (En Tryz.f7) (fi Tryz.f7 K) [It.code [1,1,1,1,1,1,1,1,0],It.code [1,1,1,1,1,1,1,1,1]] {sl:=[(2,I i),(3,I k),(5,D.int IntKind.u8 n),(11,.own [I tm,.str tv,B tu]),(17,L out 2 Iv.d),(19,D.bp 2 0),(20,D.bp 3 0),(21,I c)],h:={box:=upd (upd (upd (upd (upd (fun _=>none) 0 (some (qw v (-1) c))) 1 (some (qw w (-1) d))) 2 (some (qw v (-1) 0))) 3 (some (qw w (-1) 0))) 2 (some (Row.lit [L v.sig 3 Sig.d,L v.gap 2 Iv.d,I v.fin,I (IntKind.i64.wrap (n.tmod 32)),I 0])),nl:=4,hw:=fun _=>none,nt:=0,vw:=fun _=>none:Heap}:St}):=by kernel_rfl
def hM4(v:Wv)(l:Int)(w:Wv)(m:Int):Heap:=⟨upd (upd (fun _=>none) 2 (some (.lit [L v.sig 3 Sig.d,L v.gap 2 Iv.d,I v.fin,I l,I 0]))) 3 (some (.lit [L w.sig 3 Sig.d,L w.gap 2 Iv.d,I w.fin,I m,I 0])),4,fun _=>none,0,fun _=>none⟩
def qo4(v:Wv)(l:Int)(w:Wv)(m i k tm:Int)(tv:Str)(tu:Bool)(n:Int)(out:List Iv)(q:Int):St:=⟨[(2,I i),(3,I k),(5,.int .u8 n),(11,.own [I tm,.str tv,B tu]),(17,L out 2 Iv.d),(19,.bp 2 0),(20,.bp 3 0),(21,I q)],hM4 v l w m⟩
noncomputable def qug(v:Wv)(w:Wv)(l:Int)(m:Int)(i:Int)(k:Int)(tm:Int)(tv:Str)(tu:Bool)(out:List Iv):List Nat->Nat->Option Ans:=qf [([1,1,1,1,1,1,1,1,0],7,Ans.eff (ren (rnm [2,3] 4) (rnm [] 0) (.tup [L (sgR v l 0 w m 0 i k {time:=tm,val:=tv,unk:=tu:Tol}).out 2 Iv.d,I (sgR v l 0 w m 0 i k {time:=tm,val:=tv,unk:=tu:Tol}).err])) (qh [2,3] [] {box:=upd (upd (fun _=>none) 2 (some (qw v l 0))) 3 (some (qw w m 0)),nl:=4,hw:=fun _=>none,nt:=0,vw:=fun _=>none:Heap} (hM2 v l (sgR v l 0 w m 0 i k {time:=tm,val:=tv,unk:=tu:Tol}).c w m (sgR v l 0 w m 0 i k {time:=tm,val:=tv,unk:=tu:Tol}).d))),([1,1,1,1,1,1,1,1,1,0,1,0,0],5,Ans.pure [L out 2 Iv.d,L (sgR v l 0 w m 0 i k {time:=tm,val:=tv,unk:=tu:Tol}).out 2 Iv.d] (B true)),([1,1,1,1,1,1,1,1,1,0,1,0,0],8,Ans.pure [] (B true)),([1,1,1,1,1,1,1,1,1,1,0],8,Ans.pure [] (B true))]
theorem q3e(v w:Wv)(l m i k tm:Int)(tv:Str)(tu:Bool)(n:Int)(out:List Iv)(q:Int)(K:D->Prop):qo (En Tryz.f7) (fi Tryz.f7 K) (qug v w l m i k tm tv tu out) my 200 [.code [1,1,1,1,1,1,1,1,0],.code [1,1,1,1,1,1,1,1,1]] (qo4 v l w m i k tm tv tu n out q) =
 (Does PP 13 [D.iface 36 (D.bp 2 0),I i,D.iface 36 (D.bp 3 0),I k,.agg [I tm,.str tv,B tu]] {box:=upd (upd (fun _=>none) 2 (some (qw v l 0))) 3 (some (qw w m 0)),nl:=4,hw:=fun _=>none,nt:=0,vw:=fun _=>none:Heap} (ren (rnm [2,3] 4) (rnm [] 0) (.tup [L (sgR v l 0 w m 0 i k {time:=tm,val:=tv,unk:=tu:Tol}).out 2 Iv.d,I (sgR v l 0 w m 0 i k {time:=tm,val:=tv,unk:=tu:Tol}).err])) (qh [2,3] [] {box:=upd (upd (fun _=>none) 2 (some (qw v l 0))) 3 (some (qw w m 0)),nl:=4,hw:=fun _=>none,nt:=0,vw:=fun _=>none:Heap} (hM2 v l (sgR v l 0 w m 0 i k {time:=tm,val:=tv,unk:=tu:Tol}).c w m (sgR v l 0 w m 0 i k {time:=tm,val:=tv,unk:=tu:Tol}).d)) /\
 (32:Int)≠0/\bif decide (IntKind.i64.wrap (n.tmod 32)>=q) then(((sgR v l 0 w m 0 i k {time:=tm,val:=tv,unk:=tu:Tol}).err==0)=true->PQ PP 16 [L out 2 Iv.d,L (sgR v l 0 w m 0 i k {time:=tm,val:=tv,unk:=tu:Tol}).out 2 Iv.d] (B true))/\((bif(sgR v l 0 w m 0 i k {time:=tm,val:=tv,unk:=tu:Tol}).err==0 then true else false)=true->PQ PP 8 [] (B true))/\K (B (bif bif(sgR v l 0 w m 0 i k {time:=tm,val:=tv,unk:=tu:Tol}).err==0 then true else false then true else false)) else(((sgR v l 0 w m 0 i k {time:=tm,val:=tv,unk:=tu:Tol}).err==14)=true->(sgR v l 0 w m 0 i k {time:=tm,val:=tv,unk:=tu:Tol}).out.length<=q8)->((bif(sgR v l 0 w m 0 i k {time:=tm,val:=tv,unk:=tu:Tol}).err==14 then(↑(sgR v l 0 w m 0 i k {time:=tm,val:=tv,unk:=tu:Tol}).out.length:Int)==0 else false)=true->PQ PP 8 [] (B true))/\K (B (bif bif(sgR v l 0 w m 0 i k {time:=tm,val:=tv,unk:=tu:Tol}).err==14 then(↑(sgR v l 0 w m 0 i k {time:=tm,val:=tv,unk:=tu:Tol}).out.length:Int)==0 else false then true else false))):=by kernel_rfl
end Go.Proofs.YtiekphbkomddfaaGreatDoor.S1
namespace Go.Proofs.YtiekphbkomddfaaGreatDoor.S1
open Go Go.Ab Go.Proofs

attribute [local instance] yu
theorem c11(v w:Wv)(t:Tol):Pure PP 11 [v.d,w.d,t.d] (B (cw v w t)) :=
 pu F11 (by kernel_rfl) (of_eq (q24 v w t _) ⟨PureW.mk (c19 v),fun _=>PureW.mk (c19 w),fun _=>Wk.refl _⟩)
theorem c16(a:List Iv):Pure PP 16 [L a 2 Iv.d,L a 2 Iv.d] (B true):=by
 refine pu F16 (by kernel_rfl) (of_eq (q25 a _) fun hl _=>qa (fun h=>by simp at h) fun h=> ?_)
 refine lp (fn:=Tryz.f16) (fun i:Nat=>i<=a.length) (fun i=>qvx a i) (fun i=>a.length-i) [0,1,5] (by kernel_rfl) (fun i hi=>of_eq (qt7 a i _ _) fun hl=>qa (fun hlt=> ?_) fun hge=> ?_) 0 (Nat.zero_le _)
 ·have hlt:=ltI hlt
  rw[rm hlt hl]
  refine⟨⟨by omega,by omega⟩,⟨by omega,by omega⟩,qa (fun h=>by simp at h) fun h=>Nx.mk (i+1) (by omega) (by omega)⟩
 ·exact Wk.refl _
theorem qhg{w:Wv}(h:smB w=true):∀q∈w.sig,(0<=q.kind/\q.kind<=3)/\∀x∈q.chg,x.val.length<=64:=fun q hq=>by
 unfold smB at h
 rw[Bool.and_eq_true,Bool.and_eq_true]at h
 have h1:=List.all_eq_true.1 h.2.1 q hq
 unfold ld at h1
 rw[Bool.and_eq_true,Bool.not_eq_true']at h1
 obtain⟨w1,w2,w3,w4⟩:=uo h1.1
 refine⟨⟨w3,w4⟩,?_⟩
 have key:∀(l:List Chg) (p:Option Chg) (b:Str),sr w q p b l=true->∀x∈l,x.val.length<=64:=fun l=>by
  induction l with
  |nil=>intro p b _ x hx;cases hx
  |cons y r ih =>
   intro p b hc x hx
   rw[sr,Bool.and_eq_true,Bool.not_eq_true']at hc
   rcases List.mem_cons.1 hx with rfl|hx
   ·have hv:qhv q x.val=true:=by
     cases hv:qhv q x.val with
     |true=>rfl
     |false =>
      have h2:=hc.1
      unfold qab at h2
      rw[hv]at h2
      simp only[Bool.cond_eq_ite]at h2
      simp at h2
    unfold qhv at hv
    by_cases k3:q.kind=3
    ·rw[show(q.kind==3)=true from beq_iff_eq.2 k3,cond_true]at hv
     rw[beq_iff_eq.1 hv];exact Nat.zero_le _
    ·rw[show(q.kind==3)=false from beq_eq_false_iff_ne.2 k3,cond_false]at hv
     by_cases k0:q.kind=0
     ·rw[show(q.kind==0)=true from beq_iff_eq.2 k0,cond_true,Bool.and_eq_true]at hv
      have:=beq_iff_eq.1 hv.2
      omega
     ·rw[show(q.kind==0)=false from beq_eq_false_iff_ne.2 k0,cond_false]at hv
      have:=of_decide_eq_true hv
      omega
   ·exact ih _ _ hc.2 x hx
 exact key _ _ _ h1.2
theorem c12(w:Wv)(h:smB w=true):Pure PP 12 [w.d] (B (clB w)):=by
 have hv:=qhg h
 have ho:=wz h
 refine pu F12 (by kernel_rfl) (of_eq (nCl w _) fun hl=> ?_)
 refine lp (fn:=Tryz.f12) (fun i:Nat=>i<=w.sig.length/\clB w=(w.sig.drop i).all fun q=>q.chg.all fun x=> !(bif q.kind==1 then !(q7 x.val).2 else false)) (fun i=>SCl w i) (fun i=>w.sig.length-i) [8,9,10] (by kernel_rfl) (fun i hi=>of_eq (q27 w i _ _) (qa (fun hlt=> ?_) fun hge=> ?_)) 0 ⟨Nat.zero_le _,rfl⟩
 ·have hlt:=ltI hlt
  obtain⟨_,he⟩:=hi
  rw[cn hlt]at he
  rw[Int.toNat_natCast]
  have hm:w.sig.getD i default∈w.sig:=by
   rw[List.getD_eq_getElem?_getD,List.getElem?_eq_getElem hlt];exact List.getElem_mem hlt
  have hx:=(hv _ hm).2
  generalize w.sig.getD i default=q at *
  refine⟨⟨by omega,by omega⟩,trivial,fun hql=> ?_⟩
  refine lp (fn:=Tryz.f12) (fun k:Nat=>k<=q.chg.length/\(q.chg.all fun x=> !(bif q.kind==1 then !(q7 x.val).2 else false))=(q.chg.drop k).all fun x=> !(bif q.kind==1 then !(q7 x.val).2 else false)) (fun k=>qvy w i q k) (fun k=>q.chg.length-k) [4,8,9,10,15,16,17] (by kernel_rfl) (fun k hk=>of_eq (q28 w i q k _ _ _) (qa (fun hlt2=> ?_) fun hge2=> ?_)) 0 ⟨Nat.zero_le _,rfl⟩
  ·have hlt2:=ltI hlt2
   obtain⟨_,hc⟩:=hk
   rw[cn hlt2]at hc
   rw[Int.toNat_natCast,rm hlt2 hql]
   have hm2:q.chg.getD k default∈q.chg:=by
    rw[List.getD_eq_getElem?_getD,List.getElem?_eq_getElem hlt2];exact List.getElem_mem hlt2
   have hxl:=hx _ hm2
   refine⟨⟨by omega,by omega⟩,trivial,fun _=>PureW.mk (c28 _ (by omega)),qa (fun h1=> ?_) fun h1=> ?_⟩
   ·rw[h1]at hc
    rw[he,hc];exact Wk.refl _
   ·rw[h1]at hc
    exact Nx.mk (k+1) ⟨hlt2,hc⟩ (by omega)
  ·obtain⟨_,hc⟩:=hk
   rw[List.drop_of_length_le (geI hge2)]at hc
   rw[hc]at he
   rw[rm hlt hl]
   exact Nx.mk (i+1) ⟨hlt,he⟩ (by omega)
 ·rw[hi.2,List.drop_of_length_le (geI hge)];exact Wk.refl _
theorem Does.args{f:Nat}{args args':List D}{h h':Heap}{v:D}(c:Does PP f args' h v h')(hw:Wks args args'):Does PP f args h v h':=fun K hk=>⟨(c K hk).ok,fun g U w vs i hs=>(c K hk).calls g U w vs i (hw g vs hs)⟩
theorem e21(t:Int):Does PP 21 [I t] .empty (.bp 0 0) (hM (wA t) (-1) 0):=by
 refine du F21 (by kernel_rfl) (of_eq (nRi t _) ⟨Does.args (args':=[(wA t).d]) (fr (e14 (wA t)) [] []) ?_,RetLe.refl _ _⟩)
 refine Wks.cons (Wk.agg (Wks.cons (Wk.litW (l:=(wA t).sig) (enc:=Sig.d) rfl fun i hi=> ?_) (Wks.cons (Wk.nilL (α:=Iv) (sz':=2) (enc:=Iv.d)) (Wks.refl _)))) (Wks.refl _)
 rcases i with _|i
 ·exact⟨Wk.agg (Wks.cons (Wk.refl _) (Wks.cons (Wk.refl _) (Wks.cons (Wk.litL rfl rfl) (Wks.refl _)))),fun _=>rfl⟩
 ·exact absurd hi (by simp[wA])
theorem eSg{v w:Wv}(hv:SmOk v)(hw:SmOk w)(h40:v.fin<=40)(l m i k:Int)(t:Tol):Does PP 13 [xj,I i,qdp,I k,t.d] (hM2 v l 0 w m 0) (.tup [L (sgR v l 0 w m 0 i k t).out 2 Iv.d,I (sgR v l 0 w m 0 i k t).err]) (hM2 v l (sgR v l 0 w m 0 i k t).c w m (sgR v l 0 w m 0 i k t).d) :=
 e13 hv.of hw.of l 0 m 0 i k t (qof hv hw h40 l m i k)
theorem qo5:smB (wA 5)=true:=by decide +kernel
theorem qo6:smB (wA 7)=true:=by decide +kernel
theorem q3f:sgR (wA 5) (-1) 0 (wA 7) (-1) 0 0 0 ⟨1,[48],false⟩=⟨[⟨5,6⟩],0,6,5⟩:=by
 have h:=(qar (wz qo5) (wz qo6) (i:=0) (k:=0) (t:=⟨1,[48],false⟩) (by decide) (by decide +kernel) (-1) (-1)).1 ⟨.inl (by decide),.inl (by decide)⟩
 rw[h]
 have h1:pt (wA 5) (wA 7) 0 0 ⟨1,[48],false⟩=[⟨5,6⟩]:=by decide +kernel
 have h2:nA (wA 5) (wA 7) 0=6:=by decide +kernel
 have h3:nB (wA 5) (wA 7) 0=5:=by decide +kernel
 rw[h1,h2,h3]
theorem q3g:sgR (wA 5) (-1) 0 (wA 7) (-1) 0 0 0 ⟨2,[48],false⟩=⟨[],0,6,5⟩:=by
 have h:=(qar (wz qo5) (wz qo6) (i:=0) (k:=0) (t:=⟨2,[48],false⟩) (by decide) (by decide +kernel) (-1) (-1)).1 ⟨.inl (by decide),.inl (by decide)⟩
 rw[h]
 have h1:pt (wA 5) (wA 7) 0 0 ⟨2,[48],false⟩=[]:=by decide +kernel
 have h2:nA (wA 5) (wA 7) 0=6:=by decide +kernel
 have h3:nB (wA 5) (wA 7) 0=5:=by decide +kernel
 rw[h1,h2,h3]
theorem c8:Pure PP 8 [] (B true):=by
 have h1:=eSg (wz qo5) (wz qo6) (by decide) (-1) (-1) 0 0 ⟨1,[48],false⟩
 have h2:=eSg (wz qo5) (wz qo6) (by decide) (-1) (-1) 0 0 ⟨2,[48],false⟩
 rw[q3f]at h1
 rw[q3g]at h2
 refine pu F8 (by kernel_rfl) (of_eq (q3b _) ⟨e21 5,fr (e21 7) [] [],h1,fr (e21 5) [] [],fr (e21 7) [] [],fr h2 [2,3] [],fun _=>⟨Wks.cons (Wk.refl _) (Wks.cons (Wk.litW rfl fun i hi=> ?_) (Wks.refl _)),c16 _⟩,fun _=>⟨fun _=>PureW.mk q1e,Wk.refl _⟩⟩)
 rcases i with _|i
 ·exact⟨Wk.refl _,fun _=>rfl⟩
 ·exact absurd hi (by simp)
end Go.Proofs.YtiekphbkomddfaaGreatDoor.S1
namespace Go.Proofs.YtiekphbkomddfaaGreatDoor.S1
open Go Go.Ab Go.Proofs

attribute [local instance] yu
theorem ao{v w:Wv}{t:Tol}(h:cw v w t=true):smB v=true/\smB w=true/\v.fin<=40/\w.fin<=40:=by
 unfold cw at h
 cases h1:smB v with
 |false=>rw[h1]at h;cases h
 |true =>
  cases h2:smB w with
  |false=>rw[h1,h2]at h;cases h
  |true =>
   by_cases h3:v.fin<=40
   ·by_cases h4:w.fin<=40
    ·exact⟨rfl,rfl,h3,h4⟩
    ·rw[h1,h2,decide_eq_true h3,decide_eq_false h4]at h;cases h
   ·rw[h1,h2,decide_eq_false h3]at h;cases h
theorem qoq{bx:Nat->Option Row}{v w:Wv}{l m:Int}(h2:bx 2=some (qw v l 0))(h3:bx 3=some (qw w m 0)):HeapLe ⟨bx,4,fun _=>none,0,fun _=>none⟩ (hM4 v l w m):=by
 refine⟨fun k row' e=> ?_,Nat.le_refl _,fun _ _ h=>h,Nat.le_refl _,fun _ _ _=>VwLe.refl _ _,fun _ h=>h⟩
 rcases k with _|_|_|_|k
 ·cases e
 ·cases e
 ·cases e
  exact⟨_,h2,RowLe.refl _⟩
 ·cases e
  exact⟨_,h3,RowLe.refl _⟩
 ·cases e
theorem qor{v w:Wv}(hv:SmOk v)(hw:SmOk w)(h40:v.fin<=40){i k:Int}{t:Tol}(h:erF v w i k t=0){l m n q:Int}(hn:0<=n)
  (hq:n.tmod 32>=q↔lOk l (nA v w i)/\lOk m (nB v w k)) :
  At (En Tryz.f7) (fi Tryz.f7 fun d=>Wk d (B true)) [.code [1,1,1,1,1,1,1,1,0],.code [1,1,1,1,1,1,1,1,1]] (qo4 v l w m i k t.time t.val t.unk n (pt v w i k t) q):=by
 have hkm:IntKind.wrap .i64 (n.tmod 32)=n.tmod 32:=IntWalk.i64_in _ ⟨by have:=Int.tmod_lt_of_pos n (show(0:Int)<32 by omega);have:=Int.tmod_nonneg 32 hn;omega,by have:=Int.tmod_lt_of_pos n (show(0:Int)<32 by omega);omega⟩
 refine qe js _ _ _ (of_eq (q3e v w l m i k t.time t.val t.unk n _ q _) ⟨fr (eSg hv hw h40 l m i k t) [2,3] [],by decide,?_⟩)
 rw[hkm]
 obtain⟨y,x⟩:=qar hv hw h40 h l m
 refine qa (fun hc=> ?_) fun hc=> ?_
 ·rw[y (hq.1 (of_decide_eq_true hc))]
  exact⟨fun _=>PureW.mk (c16 _),fun _=>PureW.mk c8,Wk.refl _⟩
 ·obtain⟨x1,x2⟩:=x (fun g=>of_decide_eq_false hc (hq.2 g))
  rw[x1,x2]
  exact fun _=>⟨fun _=>PureW.mk c8,Wk.refl _⟩
theorem c7(v w:Wv)(i k:Int)(t:Tol)(n:Int)(hn:0<=n)(sec:Bool):Pure PP 7 [v.d,w.d,I i,I k,t.d,.int .u8 n,B sec] (B true):=by
 have hf:(!!cw v w t)=true->cw v w t=true:=fun h=>by simpa using h
 refine pu F7 (by kernel_rfl) (of_eq (q3c v w i k t n sec _) ⟨PureW.mk (c11 v w t),fun h=>PureW.mk (c12 v (ao (hf h)).1),fun h=> ?_,qa (fun _=>⟨PureW.mk c8,Wk.refl _⟩) fun h=> ?_⟩)
 ·cases hb:cw v w t with
  |false=>rw[hb]at h;cases h
  |true=>exact PureW.mk (c12 w (ao hb).2.1)
 have hb:cw v w t=true:=by
  cases hb:cw v w t with
  |false=>rw[hb]at h;cases h
  |true=>rfl
 obtain⟨s1,s2,h40,_⟩:=ao hb
 have hv:=wz s1
 have hw:=wz s2
 refine⟨e14 v,fr (e14 w) [] [],eSg hv hw h40 (-1) (-1) i k t,?_⟩
 by_cases hz:erF v w i k t=0
 ·rw[(qar hv hw h40 hz (-1) (-1)).1 ⟨.inl (by decide),.inl (by decide)⟩]
  refine qa (fun h=>(by cases h)) fun _=> ?_
  have hA:2<=nA v w i:=by have:=qds (w:=v) i (vy v w);unfold nA;split <;> omega
  have hB:2<=nB v w k:=by have:=qds (w:=w) k (vy v w);unfold nB;split <;> omega
  have hl0:0<=n.tmod 32:=Int.tmod_nonneg 32 hn
  have hkm:IntKind.wrap .i64 (n.tmod 32)=n.tmod 32:=IntWalk.i64_in _ ⟨by have:=Int.tmod_lt_of_pos n (show(0:Int)<32 by omega);omega,by have:=Int.tmod_lt_of_pos n (show(0:Int)<32 by omega);omega⟩
  refine jk (st':=SLR v (nA v w i) w (nB v w k) i k t.time t.val t.unk n sec (pt v w i k t)) ?_ ((StLe.refl _ _).cast (by kernel_rfl))
  refine qe js _ _ _ (of_eq (q3d v w _ _ i k t.time t.val t.unk n sec _ _) ⟨fr (e14 v) [] [],fr (e14 w) [] [],qa (fun hs=>⟨by decide,trivial,?_⟩) fun hs=>⟨by decide,trivial,?_⟩⟩)
  ·rw[hkm]
   refine jk (st':=qo4 v (-1) w (n.tmod 32) i k t.time t.val t.unk n (pt v w i k t) (nB v w k)) (qor hv hw h40 hz hn ?_) (StLe.heapLe (qoq rfl rfl))
   unfold lOk;omega
  ·rw[hkm]
   refine jk (st':=qo4 v (n.tmod 32) w (-1) i k t.time t.val t.unk n (pt v w i k t) (nA v w i)) (qor hv hw h40 hz hn ?_) (StLe.heapLe (qoq rfl rfl))
   unfold lOk;omega
 ·obtain⟨x1,x2⟩:=qha hz
  rw[x1,x2]
  refine qa (fun _ _=>⟨fun _=>PureW.mk c8,Wk.refl _⟩) fun h=> ?_
  exact absurd (by simpa using h) hz
end Go.Proofs.YtiekphbkomddfaaGreatDoor.S1
namespace Go.Proofs.YtiekphbkomddfaaGreatDoor.S1
open Go Go.Ab Go.Proofs
open Go.ChangeShapes Go.WideShapes Go.ChangeAt Go.RowKit Go.Joins

theorem cB:Tryz.prog.cellsOf 4=1:=by kernel_rfl
theorem q3h:Tryz.prog.cellsOf 23=3:=by kernel_rfl
theorem rB:Reads Tryz.prog 4 (fun n:Bool=>B n) any:=(Reads.bool Tryz.underlying4 cB).map (fun n=>n) (fun _=>rfl) (fun n=>⟨n,rfl⟩) fun _ _=>trivial
theorem q3i:Reads Tryz.prog 23 Tol.d any:=by
 refine(Reads.struct (ok:=any) Tryz.underlying23 ?_).map (fun x:Int×Str×Bool×Unit=>(⟨x.1,x.2.1,x.2.2.1⟩:Tol)) (fun _=>rfl) (fun b=>⟨(b.time,b.val,b.unk,()),rfl⟩) fun _ _=>trivial
 rw[q3h]
 exact rc rI (rc qvc (rc rB rn rfl rfl (by rw[cB])) rfl rfl (by rw[qqh])) rfl rfl (by rw[cI])
end Go.Proofs.YtiekphbkomddfaaGreatDoor.S1
namespace Go.Proofs.YtiekphbkomddfaaGreatDoor.S1
open Go Go.Ab Go.Proofs

attribute [local instance] yu
theorem qhh(u:Bool)(x y:UInt8):qhx u x y=qhx u y x:=by
 unfold qhx
 have h:((x.toNat:Int)!=(y.toNat:Int))=((y.toNat:Int)!=(x.toNat:Int)):=bne_comm
 rw[h]
 cases ((y.toNat:Int)!=(x.toNat:Int)) <;> cases u <;> cases qer x <;> cases qer y <;> rfl
theorem qhi(u:Bool)(x:UInt8):qhx u x x=false:=by
 unfold qhx
 rw[bne_self_eq_false];rfl
theorem qeu(u:Bool)(a b:Str):gh u a b=gh u b a:=by
 unfold gh
 by_cases h:a.length=b.length
 ·rw[decide_eq_true h,decide_eq_true h.symm,h]
  simp only[qhh u]
 ·rw[decide_eq_false h,decide_eq_false fun e=>h e.symm];rfl
theorem qev(u:Bool)(a:Str):gh u a a=true:=by
 unfold gh
 rw[decide_eq_true rfl,Bool.true_and,List.all_eq_true]
 intro i _
 rw[qhi];rfl
theorem qji(a b t:Str):wiB a b t=wiB b a t:=by
 unfold wiB
 cases ha:(q7 a).2 <;> cases hb:(q7 b).2 <;> cases ht:(q7 t).2 <;> try rfl
 show qlf (q7 a).1 (q7 b).1 (q7 t).1=qlf (q7 b).1 (q7 a).1 (q7 t).1
 rw[cp (zm ha) (zm hb) (zm ht),cp (zm hb) (zm ha) (zm ht),decide_eq_decide]
 omega
theorem qjj{a b t:Str}(h:wiB a b t=true):(q7 a).2=true/\(q7 b).2=true/\(q7 t).2=true/\(((q7 a).1.val-(q7 b).1.val).natAbs:Int)<=(q7 t).1.val:=by
 unfold wiB at h
 cases ha:(q7 a).2 <;> cases hb:(q7 b).2 <;> cases ht:(q7 t).2 <;> rw[ha,hb,ht]at h <;> try (cases h)
 have h:qlf (q7 a).1 (q7 b).1 (q7 t).1=true:=h
 rw[cp (zm ha) (zm hb) (zm ht)]at h
 exact⟨rfl,rfl,rfl,of_decide_eq_true h⟩
theorem qkl{a b t:Str}(ha:(q7 a).2=true)(hb:(q7 b).2=true)(ht:(q7 t).2=true)(h:(((q7 a).1.val-(q7 b).1.val).natAbs:Int)<=(q7 t).1.val):wiB a b t=true:=by
 unfold wiB
 rw[ha,hb,ht]
 show qlf (q7 a).1 (q7 b).1 (q7 t).1=true
 rw[cp (zm ha) (zm hb) (zm ht)]
 exact decide_eq_true h
theorem qjk(k:Int)(t:Tol)(a b:Str):saF k t a b=saF k t b a:=by
 unfold saF
 rw[qeu,qji,show(a==b)=(b==a) from BEq.comm]
theorem qhj(v w:Wv):vy v w=vy w v:=by unfold vy;split <;> split <;> omega
theorem ix(v w:Wv)(i k:Int)(t:Tol):erF v w i k t=erF w v k i t:=by
 unfold erF
 simp only[and_comm (a:=inS v i),ne_comm (a:=(qm v i).kind),ne_comm (a:=(qm v i).width)]
theorem qdu{v w:Wv}{i k:Int}{t:Tol}{e s:Int}(hk:(qm v i).kind=(qm w k).kind)(h:dfP v i w k t e s):dfP w k v i t e s:=by
 unfold dfP at *
 rw[<-hk]
 refine⟨h.1,?_⟩
 rcases h.2 with ⟨h3,h4⟩|⟨h3,h4,h5⟩
 ·exact .inl ⟨h3,h4.symm⟩
 ·exact .inr ⟨h3,by rw[qjk];exact h4,fun g=>h5 ⟨g.2,g.1⟩⟩
theorem qhk{a b:List Iv}{P:Int->Prop}(h1:∀s,a.any (inP s)=true↔P s)(h2:∀s,b.any (inP s)=true↔P s):∀s,a.any (inP s)=b.any (inP s):=fun s=>by
 rw[Bool.eq_iff_iff,h1,h2]
theorem qhl{v w:Wv}(hv:SmOk v)(hw:SmOk w){i k:Int}{t:Tol}(h:erF v w i k t=0):pt v w i k t=pt w v k i t:=by
 obtain⟨n1,n2⟩:=pg hv hw h
 obtain⟨m1,m2⟩:=pg hw hv (by rw[<-ix];exact h)
 have hk:=(qaq h).2.2.2.1
 refine qlk n1 m1 (qhk n2 fun s=> ?_)
 rw[m2,qhj]
 exact⟨qdu hk.symm,qdu hk⟩
theorem qjl{v w:Wv}{i k:Int}{t u:Tol}{e s:Int}(ht:t.time<=u.time)(hs:∀a b,saF (qm v i).kind t a b=true->saF (qm v i).kind u a b=true)(h:dfP v i w k u e s):dfP v i w k t e s:=by
 have hn:∀(B:Int->Str) (z:Str),te (qm v i).kind t B z e s->te (qm v i).kind u B z e s:=fun B z ⟨x,h1,h2,h3,h4,h5⟩=>⟨x,h1,h2,by omega,by omega,hs _ _ h5⟩
 unfold dfP at *
 refine⟨h.1,?_⟩
 rcases h.2 with ⟨h3,h4⟩|⟨h3,h4,h5⟩
 ·refine .inl ⟨h3,?_⟩
  rcases h4 with ⟨g1,g2⟩|⟨g1,g2⟩
  ·exact .inl ⟨g1,fun⟨x,k1,k2,k3,k4⟩=>g2 ⟨x,k1,k2,by omega,by omega⟩⟩
  ·exact .inr ⟨g1,fun⟨x,k1,k2,k3,k4⟩=>g2 ⟨x,k1,k2,by omega,by omega⟩⟩
 ·refine .inr ⟨h3,?_,fun g=>h5 ⟨hn _ _ g.1,hn _ _ g.2⟩⟩
  cases hc:saF (qm v i).kind t (kb (qm v i) s) (kb (qm w k) s) with
  |false=>rfl
  |true=>rw[hs _ _ hc]at h4;cases h4
theorem qhm:∀{l:List Iv} {lo:Int},Nor lo l->(∀s,l.any (inP s)=false)->l=[]
 | [],_,_,_=>rfl
 |x::r,_,h,hs=>by
  have:=hs x.frm
  rw[List.any_cons,je.2 ⟨Int.le_refl _,h.2.1⟩]at this
  cases this
theorem qos{z x:List Iv}(h:∀s,z.any (inP s)=true->x.any (inP s)=true):cmR 2 z x=[]:=by
 obtain⟨n1,n2⟩:=pd 2 z x
 refine qhm n1 fun s=> ?_
 rw[n2]
 by_cases hs:0<=s/\s<=1099511627776
 ·rw[za hs,za hs]
  cases hz:z.any (inP s) with
  |false=>cases x.any (inP s) <;> simp[okR]
  |true=>rw[h s hz];simp[okR]
 ·rw[decide_eq_false hs];rfl
theorem iy{v w:Wv}(hv:SmOk v)(hw:SmOk w){i k:Int}{t u:Tol}(h:erF v w i k t=0)(h2:erF v w i k u=0)(ht:t.time<=u.time)(hs:∀a b,saF (qm v i).kind t a b=true->saF (qm v i).kind u a b=true):cmR 2 (pt v w i k u) (pt v w i k t)=[] :=
 qos fun s g=>((pg hv hw h).2 s).2 (qjl ht hs (((pg hv hw h2).2 s).1 g))
theorem ql4{k:Int}{t:Tol}{a b:Str}(h:saF k t a b=true):saF k ⟨t.time,t.val,true⟩ a b=true:=by
 unfold saF at *
 have e:gk ⟨t.time,t.val,true⟩=gk t:=rfl
 rw[e]
 cases ht:gk t with
 |false=>rw[ht]at h;cases h
 |true =>
  rw[ht]at h
  cases k0:k==0 with
  |true =>
   rw[k0]at h
   have h:gh t.unk a b=true:=h
   show gh true a b=true
   unfold gh at *
   rw[Bool.and_eq_true]at h⊢
   refine⟨h.1,List.all_eq_true.2 fun i hi=> ?_⟩
   have:=List.all_eq_true.1 h.2 i hi
   rw[Bool.not_eq_true']at this⊢
   unfold qhx at *
   cases hc:((((a.getD i 0).toNat:Int))!=((b.getD i 0).toNat:Int)) with
   |false=>rfl
   |true =>
    rw[hc]at this
    cases hu:t.unk with
    |false=>rw[hu]at this;cases this
    |true=>rw[hu]at this;exact this
  |false=>rw[k0]at h;exact h
theorem qjm{k:Int}{t:Tol}{a b:Str}{x:Int}(hx:0<=x/\x<=1099511627776)(h:saF k t a b=true):saF k ⟨x,t.val,t.unk⟩ a b=true:=by
 unfold saF at *
 cases ht:gk t with
 |false=>rw[ht]at h;cases h
 |true =>
  have e:gk ⟨x,t.val,t.unk⟩=true:=by
   unfold gk at ht⊢
   have tt:=uw (t:=t) ht
   rw[decide_eq_true (show t.time>=0 by omega),decide_eq_true tt.2]at ht
   simp only
   rw[decide_eq_true (show x>=0 by omega),decide_eq_true hx.2]
   exact ht
  rw[e]
  rw[ht]at h
  exact h
end Go.Proofs.YtiekphbkomddfaaGreatDoor.S1
namespace Go.Proofs.YtiekphbkomddfaaGreatDoor.S1
open Go Go.Ab Go.Proofs

attribute [local instance] yu
def sgO(v w:Wv)(i k:Int)(t:Tol):List Iv:=if erF v w i k t=0 then pt v w i k t else[]
theorem F5:OkF 5 Tryz.f5:=⟨by kernel_rfl,by kernel_rfl,by kernel_rfl⟩
def quh:List (List Nat×List Nat):=[([1,1,0],[2,3,5,6,7,10])]
noncomputable def qui(v:Wv)(w:Wv)(t:Tol):List Nat->Nat->Option Ans:=qf [([1,0,0],3,Ans.pure [v.d,w.d,t.d] (B (cw v w t))),([1,0,0],7,Ans.pure [v.d] (B (clB v))),([1,0,0],12,Ans.pure [w.d] (B (clB w))),([1,0,1,0,0],0,Ans.pure [] (B true))]
theorem q3j(v w:Wv)(i k:Int)(t:Tol)(n:Int)(K:D->Prop):qo (En Tryz.f5) (fi Tryz.f5 K) (qui v w t) quh 200 [.code []] ⟨qd 0 [v.d,w.d,I i,I k,t.d,I n],.empty⟩ =
 (PQ PP 11 [v.d,w.d,t.d] (B (cw v w t))/\((!!cw v w t)=true->PQ PP 12 [v.d] (B (clB v)))/\((!bif !cw v w t then true else !clB v)=true->PQ PP 12 [w.d] (B (clB w)))/\bif bif bif bif bif !cw v w t then true else !clB v then true else !clB w then true else decide (n<0) then true else decide (n > 100) then PQ PP 8 [] (B true)/\K (B true) else At (En Tryz.f5) (fi Tryz.f5 K) [It.code [1,1,0],It.code [1,1,1]] {sl:=[(2,I i),(3,I k),(5,I n),(6,.own [L v.sig 3 Sig.d,L v.gap 2 Iv.d,I v.fin]),(7,.own [L w.sig 3 Sig.d,L w.gap 2 Iv.d,I w.fin]),(10,.own [I t.time,.str t.val,B t.unk])],h:=Heap.empty:St}):=by kernel_rfl
def sMe(v w:Wv)(i k n:Int)(t:Tol):List (Nat×D):=[(2,I i),(3,I k),(5,I n),(6,.own [L v.sig 3 Sig.d,L v.gap 2 Iv.d,I v.fin]),(7,.own [L w.sig 3 Sig.d,L w.gap 2 Iv.d,I w.fin]),(10,.own [I t.time,.str t.val,B t.unk])]
def hBl(n:Nat):Heap:=⟨fun _=>none,n,fun _=>none,0,fun _=>none⟩
def quj:List (List Nat×List Nat):=[([1,1,1,0],[2,3,5,6,7,10,13,14])]
noncomputable def quk(v:Wv)(w:Wv)(i:Int)(k:Int)(t:Tol):List Nat->Nat->Option Ans:=qf [([1,1,0],1,Ans.eff (D.bp 0 0) (hM v (-1) 0)),([1,1,0],5,Ans.eff (ren (rnm [] 1) (rnm [] 0) (D.bp 0 0)) (qh [] [] {box:=upd (fun _=>none) 0 (some (qw v (-1) 0)),nl:=1,hw:=fun _=>none,nt:=0,vw:=fun _=>none:Heap} (hM w (-1) 0))),([1,1,0],9,Ans.eff (.tup [L (sgO v w i k t) 2 Iv.d,I (erF v w i k t)]) (hBl 2))]
theorem q3k(v w:Wv)(i k n:Int)(t:Tol)(K:D->Prop):qo (En Tryz.f5) (fi Tryz.f5 K) (quk v w i k t) quj 200 [.code [1,1,0],.code [1,1,1]] ⟨sMe v w i k n t,.empty⟩ =
 (Does PP 14 [.agg [L v.sig 3 Sig.d,L v.gap 2 Iv.d,I v.fin]] Heap.empty (D.bp 0 0) (hM v (-1) 0) /\
 Does PP 14 [.agg [L w.sig 3 Sig.d,L w.gap 2 Iv.d,I w.fin]] {box:=upd (fun _=>none) 0 (some (qw v (-1) 0)),nl:=1,hw:=fun _=>none,nt:=0,vw:=fun _=>none:Heap} (ren (rnm [] 1) (rnm [] 0) (D.bp 0 0)) (qh [] [] {box:=upd (fun _=>none) 0 (some (qw v (-1) 0)),nl:=1,hw:=fun _=>none,nt:=0,vw:=fun _=>none:Heap} (hM w (-1) 0))/\Does PP 13 [D.iface 36 (D.bp 0 0),I i,D.iface 36 (D.bp 1 0),I k,.agg [I t.time,.str t.val,B t.unk]] {box:=upd (upd (fun _=>none) 0 (some (qw v (-1) 0))) 1 (some (qw w (-1) 0)),nl:=2,hw:=fun _=>none,nt:=0,vw:=fun _=>none:Heap} (.tup [L (sgO v w i k t) 2 Iv.d,I (erF v w i k t)]) (hBl 2)/\At (En Tryz.f5) (fi Tryz.f5 K) [It.code [1,1,1,0],It.code [1,1,1,1]] {sl:=[(2,I i),(3,I k),(5,I n),(6,.own [L v.sig 3 Sig.d,L v.gap 2 Iv.d,I v.fin]),(7,.own [L w.sig 3 Sig.d,L w.gap 2 Iv.d,I w.fin]),(10,.own [I t.time,.str t.val,B t.unk]),(13,L (sgO v w i k t) 2 Iv.d),(14,I (erF v w i k t))],h:=(hBl 2):St}):=by kernel_rfl
def qul:List (List Nat×List Nat):=[([1,1,1,1,1,1,0],[2,3,5,6,7,10,13])]
noncomputable def qum(v:Wv)(w:Wv)(i:Int)(k:Int)(t:Tol)(x:List Iv):List Nat->Nat->Option Ans:=qf [([1,1,1,0],1,Ans.eff (ren (rnm [] 2) (rnm [] 0) (D.bp 0 0)) (qh [] [] (hBl 2) (hM w (-1) 0))),([1,1,1,0],5,Ans.eff (ren (rnm [] 3) (rnm [] 0) (D.bp 0 0)) (qh [] [] {box:=upd (fun _=>none) 2 (some (qw w (-1) 0)),nl:=3,hw:=fun _=>none,nt:=0,vw:=fun _=>none:Heap} (hM v (-1) 0))),([1,1,1,0],9,Ans.eff (ren (rnm [2,3] 4) (rnm [] 0) (.tup [L (sgO w v k i t) 2 Iv.d,I (erF w v k i t)])) (qh [2,3] [] {box:=upd (upd (fun _=>none) 2 (some (qw w (-1) 0))) 3 (some (qw v (-1) 0)),nl:=4,hw:=fun _=>none,nt:=0,vw:=fun _=>none:Heap} (hBl 2))),([1,1,1,1,0,0],10,Ans.pure [L x 2 Iv.d,L (sgO w v k i t) 2 Iv.d] (B true)),([1,1,1,1,1,0,1,0,0],0,Ans.pure [] (B true))]
theorem q3l(v w:Wv)(i k n:Int)(t:Tol)(x:List Iv)(e:Int)(K:D->Prop):qo (En Tryz.f5) (fi Tryz.f5 K) (qum v w i k t x) qul 200 [.code [1,1,1,0],.code [1,1,1,1]] ⟨sMe v w i k n t++[(13,L x 2 Iv.d),(14,I e)],hBl 2⟩ =
 (Does PP 14 [.agg [L w.sig 3 Sig.d,L w.gap 2 Iv.d,I w.fin]] (hBl 2) (ren (rnm [] 2) (rnm [] 0) (D.bp 0 0)) (qh [] [] (hBl 2) (hM w (-1) 0)) /\
 Does PP 14 [.agg [L v.sig 3 Sig.d,L v.gap 2 Iv.d,I v.fin]] {box:=upd (fun _=>none) 2 (some (qw w (-1) 0)),nl:=3,hw:=fun _=>none,nt:=0,vw:=fun _=>none:Heap} (ren (rnm [] 3) (rnm [] 0) (D.bp 0 0)) (qh [] [] {box:=upd (fun _=>none) 2 (some (qw w (-1) 0)),nl:=3,hw:=fun _=>none,nt:=0,vw:=fun _=>none:Heap} (hM v (-1) 0)) /\
  Does PP 13 [D.iface 36 (D.bp 2 0),I k,D.iface 36 (D.bp 3 0),I i,.agg [I t.time,.str t.val,B t.unk]] {box:=upd (upd (fun _=>none) 2 (some (qw w (-1) 0))) 3 (some (qw v (-1) 0)),nl:=4,hw:=fun _=>none,nt:=0,vw:=fun _=>none:Heap} (ren (rnm [2,3] 4) (rnm [] 0) (.tup [L (sgO w v k i t) 2 Iv.d,I (erF w v k i t)])) (qh [2,3] [] {box:=upd (upd (fun _=>none) 2 (some (qw w (-1) 0))) 3 (some (qw v (-1) 0)),nl:=4,hw:=fun _=>none,nt:=0,vw:=fun _=>none:Heap} (hBl 2)) /\
   ((!bif e !=erF w v k i t then e !=2 else false)=true->PQ PP 16 [L x 2 Iv.d,L (sgO w v k i t) 2 Iv.d] (B true))/\bif bif bif e !=erF w v k i t then e !=2 else false then true else false then K (B false) else bif e !=0 then PQ PP 8 [] (B true)/\K (B true) else At (En Tryz.f5) (fi Tryz.f5 K) [It.code [1,1,1,1,1,1,0],It.code [1,1,1,1,1,1,1]] {sl:=[(2,I i),(3,I k),(5,I n),(6,.own [L v.sig 3 Sig.d,L v.gap 2 Iv.d,I v.fin]),(7,.own [L w.sig 3 Sig.d,L w.gap 2 Iv.d,I w.fin]),(10,.own [I t.time,.str t.val,B t.unk]),(13,L x 2 Iv.d)],h:={box:=upd (upd (upd (upd (fun _=>none) 2 (some (qw w (-1) 0))) 3 (some (qw v (-1) 0))) 2 none) 3 none,nl:=4,hw:=fun _=>none,nt:=0,vw:=fun _=>none:Heap}:St}):=by kernel_rfl
def qun:List (List Nat×List Nat):=[([1,1,1,1,1,1,1,1,1,0],[2,3,5,6,7,10,13,17,18,19])]
noncomputable def qup(v:Wv)(i:Int)(t:Tol):List Nat->Nat->Option Ans:=qf [([1,1,1,1,1,1,0],1,Ans.eff (ren (rnm [] 4) (rnm [] 0) (D.bp 0 0)) (qh [] [] {box:=fun _=>none,nl:=4,hw:=fun _=>none,nt:=0,vw:=fun _=>none:Heap} (hM v (-1) 0))),([1,1,1,1,1,1,0],5,Ans.eff (ren (rnm [] 5) (rnm [] 0) (D.bp 0 0)) (qh [] [] {box:=upd (fun _=>none) 4 (some (qw v (-1) 0)),nl:=5,hw:=fun _=>none,nt:=0,vw:=fun _=>none:Heap} (hM v (-1) 0))),([1,1,1,1,1,1,0],9,Ans.eff (ren (rnm [4,5] 6) (rnm [] 0) (.tup [L (sgO v v i i t) 2 Iv.d,I (erF v v i i t)])) (qh [4,5] [] {box:=upd (upd (fun _=>none) 4 (some (qw v (-1) 0))) 5 (some (qw v (-1) 0)),nl:=6,hw:=fun _=>none,nt:=0,vw:=fun _=>none:Heap} (hBl 2)))]
theorem q3m(v w:Wv)(i k n:Int)(t:Tol)(x:List Iv)(K:D->Prop):qo (En Tryz.f5) (fi Tryz.f5 K) (qup v i t) qun 200 [.code [1,1,1,1,1,1,0],.code [1,1,1,1,1,1,1]] ⟨sMe v w i k n t++[(13,L x 2 Iv.d)],hBl 4⟩ =
 (Does PP 14 [.agg [L v.sig 3 Sig.d,L v.gap 2 Iv.d,I v.fin]] {box:=fun _=>none,nl:=4,hw:=fun _=>none,nt:=0,vw:=fun _=>none:Heap} (ren (rnm [] 4) (rnm [] 0) (D.bp 0 0)) (qh [] [] {box:=fun _=>none,nl:=4,hw:=fun _=>none,nt:=0,vw:=fun _=>none:Heap} (hM v (-1) 0)) /\
 Does PP 14 [.agg [L v.sig 3 Sig.d,L v.gap 2 Iv.d,I v.fin]] {box:=upd (fun _=>none) 4 (some (qw v (-1) 0)),nl:=5,hw:=fun _=>none,nt:=0,vw:=fun _=>none:Heap} (ren (rnm [] 5) (rnm [] 0) (D.bp 0 0)) (qh [] [] {box:=upd (fun _=>none) 4 (some (qw v (-1) 0)),nl:=5,hw:=fun _=>none,nt:=0,vw:=fun _=>none:Heap} (hM v (-1) 0)) /\
  Does PP 13 [D.iface 36 (D.bp 4 0),I i,D.iface 36 (D.bp 5 0),I i,.agg [I t.time,.str t.val,B t.unk]] {box:=upd (upd (fun _=>none) 4 (some (qw v (-1) 0))) 5 (some (qw v (-1) 0)),nl:=6,hw:=fun _=>none,nt:=0,vw:=fun _=>none:Heap} (ren (rnm [4,5] 6) (rnm [] 0) (.tup [L (sgO v v i i t) 2 Iv.d,I (erF v v i i t)])) (qh [4,5] [] {box:=upd (upd (fun _=>none) 4 (some (qw v (-1) 0))) 5 (some (qw v (-1) 0)),nl:=6,hw:=fun _=>none,nt:=0,vw:=fun _=>none:Heap} (hBl 2)) /\
   True/\True/\At (En Tryz.f5) (fi Tryz.f5 K) [It.code [1,1,1,1,1,1,1,1,1,0],It.code [1,1,1,1,1,1,1,1,1,1]] {sl:=[(2,I i),(3,I k),(5,I n),(6,.own [L v.sig 3 Sig.d,L v.gap 2 Iv.d,I v.fin]),(7,.own [L w.sig 3 Sig.d,L w.gap 2 Iv.d,I w.fin]),(10,.own [I t.time,.str t.val,B t.unk]),(13,L x 2 Iv.d),(17,L (sgO v v i i t) 2 Iv.d),(18,I (erF v v i i t)),(19,.own [I t.time,.str t.val,B true])],h:={box:=upd (upd (upd (upd (fun _=>none) 4 (some (qw v (-1) 0))) 5 (some (qw v (-1) 0))) 4 none) 5 none,nl:=6,hw:=fun _=>none,nt:=0,vw:=fun _=>none:Heap}:St}):=by kernel_rfl
def quq:List (List Nat×List Nat):=[([1,1,1,1,1,1,1,1,1,1,1,1,1,0],[2,3,5,6,7,10,13,19])]
noncomputable def qur(v:Wv)(w:Wv)(i:Int)(k:Int)(x:List Iv)(um:Int)(uv:Str)(uu:Bool):List Nat->Nat->Option Ans:=qf [([1,1,1,1,1,1,1,1,1,0],1,Ans.eff (ren (rnm [] 6) (rnm [] 0) (D.bp 0 0)) (qh [] [] {box:=fun _=>none,nl:=6,hw:=fun _=>none,nt:=0,vw:=fun _=>none:Heap} (hM v (-1) 0))),([1,1,1,1,1,1,1,1,1,0],5,Ans.eff (ren (rnm [] 7) (rnm [] 0) (D.bp 0 0)) (qh [] [] {box:=upd (fun _=>none) 6 (some (qw v (-1) 0)),nl:=7,hw:=fun _=>none,nt:=0,vw:=fun _=>none:Heap} (hM w (-1) 0))),([1,1,1,1,1,1,1,1,1,0],9,Ans.eff (ren (rnm [6,7] 8) (rnm [] 0) (.tup [L (sgO v w i k ⟨um,uv,uu⟩) 2 Iv.d,I (erF v w i k ⟨um,uv,uu⟩)])) (qh [6,7] [] {box:=upd (upd (fun _=>none) 6 (some (qw v (-1) 0))) 7 (some (qw w (-1) 0)),nl:=8,hw:=fun _=>none,nt:=0,vw:=fun _=>none:Heap} (hBl 2))),([1,1,1,1,1,1,1,1,1,1,0,0],14,Ans.pure [L (sgO v w i k ⟨um,uv,uu⟩) 2 Iv.d,L x 2 Iv.d] (L (cmR 2 (sgO v w i k ⟨um,uv,uu⟩) x) 2 Iv.d))]
theorem q3n(v w:Wv)(i k n:Int)(t:Tol)(x y:List Iv)(g um:Int)(uv:Str)(uu:Bool)(K:D->Prop):qo (En Tryz.f5) (fi Tryz.f5 K) (qur v w i k x um uv uu) quq 200 [.code [1,1,1,1,1,1,1,1,1,0],.code [1,1,1,1,1,1,1,1,1,1]] ⟨sMe v w i k n t++[(13,L x 2 Iv.d),(17,L y 2 Iv.d),(18,I g),(19,.own [I um,.str uv,B uu])],hBl 6⟩ =
 (Does PP 14 [.agg [L v.sig 3 Sig.d,L v.gap 2 Iv.d,I v.fin]] {box:=fun _=>none,nl:=6,hw:=fun _=>none,nt:=0,vw:=fun _=>none:Heap} (ren (rnm [] 6) (rnm [] 0) (D.bp 0 0)) (qh [] [] {box:=fun _=>none,nl:=6,hw:=fun _=>none,nt:=0,vw:=fun _=>none:Heap} (hM v (-1) 0)) /\
 Does PP 14 [.agg [L w.sig 3 Sig.d,L w.gap 2 Iv.d,I w.fin]] {box:=upd (fun _=>none) 6 (some (qw v (-1) 0)),nl:=7,hw:=fun _=>none,nt:=0,vw:=fun _=>none:Heap} (ren (rnm [] 7) (rnm [] 0) (D.bp 0 0)) (qh [] [] {box:=upd (fun _=>none) 6 (some (qw v (-1) 0)),nl:=7,hw:=fun _=>none,nt:=0,vw:=fun _=>none:Heap} (hM w (-1) 0)) /\
  Does PP 13 [D.iface 36 (D.bp 6 0),I i,D.iface 36 (D.bp 7 0),I k,.agg [I um,.str uv,B uu]] {box:=upd (upd (fun _=>none) 6 (some (qw v (-1) 0))) 7 (some (qw w (-1) 0)),nl:=8,hw:=fun _=>none,nt:=0,vw:=fun _=>none:Heap} (ren (rnm [6,7] 8) (rnm [] 0) (.tup [L (sgO v w i k ⟨um,uv,uu⟩) 2 Iv.d,I (erF v w i k ⟨um,uv,uu⟩)])) (qh [6,7] [] {box:=upd (upd (fun _=>none) 6 (some (qw v (-1) 0))) 7 (some (qw w (-1) 0)),nl:=8,hw:=fun _=>none,nt:=0,vw:=fun _=>none:Heap} (hBl 2)) /\
   (((!g !=0)=true->y.length<=q8)->((!bif bif g !=0 then true else decide ((↑y.length:Int) > 0) then true else erF v w i k ⟨um,uv,uu⟩!=0)=true->PQ PP 17 [L (sgO v w i k ⟨um,uv,uu⟩) 2 Iv.d,L x 2 Iv.d] (L (cmR 2 (sgO v w i k ⟨um,uv,uu⟩) x) 2 Iv.d))/\(((!bif bif g !=0 then true else decide ((↑y.length:Int) > 0) then true else erF v w i k ⟨um,uv,uu⟩!=0)=true->(cmR 2 (sgO v w i k ⟨um,uv,uu⟩) x).length<=q8)->bif bif bif bif g !=0 then true else decide ((↑y.length:Int) > 0) then true else erF v w i k ⟨um,uv,uu⟩!=0 then true else decide ((↑(cmR 2 (sgO v w i k ⟨um,uv,uu⟩) x).length:Int) > 0) then K (B false) else True/\True/\At (En Tryz.f5) (fi Tryz.f5 K) [It.code [1,1,1,1,1,1,1,1,1,1,1,1,1,0],It.code [1,1,1,1,1,1,1,1,1,1,1,1,1,1]] {sl:=[(2,I i),(3,I k),(5,I n),(6,.own [L v.sig 3 Sig.d,L v.gap 2 Iv.d,I v.fin]),(7,.own [L w.sig 3 Sig.d,L w.gap 2 Iv.d,I w.fin]),(10,.own [I t.time,.str t.val,B t.unk]),(13,L x 2 Iv.d),(19,.own [I (qg .i64 t.time n),.str t.val,B t.unk])],h:={box:=upd (upd (upd (upd (fun _=>none) 6 (some (qw v (-1) 0))) 7 (some (qw w (-1) 0))) 6 none) 7 none,nl:=8,hw:=fun _=>none,nt:=0,vw:=fun _=>none:Heap}:St}))):=by kernel_rfl
def qus:List (List Nat×List Nat):=[([1,1,1,1,1,1,1,1,1,1,1,1,1,1,1,1,1,0],[2,3,5,6,7,10,13,19])]
noncomputable def qut(v:Wv)(w:Wv)(i:Int)(k:Int)(x:List Iv)(um:Int)(uv:Str)(uu:Bool):List Nat->Nat->Option Ans:=qf [([1,1,1,1,1,1,1,1,1,1,1,1,1,0],1,Ans.eff (ren (rnm [] 8) (rnm [] 0) (D.bp 0 0)) (qh [] [] {box:=fun _=>none,nl:=8,hw:=fun _=>none,nt:=0,vw:=fun _=>none:Heap} (hM v (-1) 0))),([1,1,1,1,1,1,1,1,1,1,1,1,1,0],5,Ans.eff (ren (rnm [] 9) (rnm [] 0) (D.bp 0 0)) (qh [] [] {box:=upd (fun _=>none) 8 (some (qw v (-1) 0)),nl:=9,hw:=fun _=>none,nt:=0,vw:=fun _=>none:Heap} (hM w (-1) 0))),([1,1,1,1,1,1,1,1,1,1,1,1,1,0],9,Ans.eff (ren (rnm [8,9] 10) (rnm [] 0) (.tup [L (sgO v w i k ⟨um,uv,uu⟩) 2 Iv.d,I (erF v w i k ⟨um,uv,uu⟩)])) (qh [8,9] [] {box:=upd (upd (fun _=>none) 8 (some (qw v (-1) 0))) 9 (some (qw w (-1) 0)),nl:=10,hw:=fun _=>none,nt:=0,vw:=fun _=>none:Heap} (hBl 2))),([1,1,1,1,1,1,1,1,1,1,1,1,1,1,0,0],9,Ans.pure [L (sgO v w i k ⟨um,uv,uu⟩) 2 Iv.d,L x 2 Iv.d] (L (cmR 2 (sgO v w i k ⟨um,uv,uu⟩) x) 2 Iv.d))]
theorem q3o(v w:Wv)(i k n:Int)(t:Tol)(x:List Iv)(um:Int)(uv:Str)(uu:Bool)(K:D->Prop):qo (En Tryz.f5) (fi Tryz.f5 K) (qut v w i k x um uv uu) qus 200 [.code [1,1,1,1,1,1,1,1,1,1,1,1,1,0],.code [1,1,1,1,1,1,1,1,1,1,1,1,1,1]] ⟨sMe v w i k n t++[(13,L x 2 Iv.d),(19,.own [I um,.str uv,B uu])],hBl 8⟩ =
 (Does PP 14 [.agg [L v.sig 3 Sig.d,L v.gap 2 Iv.d,I v.fin]] {box:=fun _=>none,nl:=8,hw:=fun _=>none,nt:=0,vw:=fun _=>none:Heap} (ren (rnm [] 8) (rnm [] 0) (D.bp 0 0)) (qh [] [] {box:=fun _=>none,nl:=8,hw:=fun _=>none,nt:=0,vw:=fun _=>none:Heap} (hM v (-1) 0)) /\
 Does PP 14 [.agg [L w.sig 3 Sig.d,L w.gap 2 Iv.d,I w.fin]] {box:=upd (fun _=>none) 8 (some (qw v (-1) 0)),nl:=9,hw:=fun _=>none,nt:=0,vw:=fun _=>none:Heap} (ren (rnm [] 9) (rnm [] 0) (D.bp 0 0)) (qh [] [] {box:=upd (fun _=>none) 8 (some (qw v (-1) 0)),nl:=9,hw:=fun _=>none,nt:=0,vw:=fun _=>none:Heap} (hM w (-1) 0)) /\
  Does PP 13 [D.iface 36 (D.bp 8 0),I i,D.iface 36 (D.bp 9 0),I k,.agg [I um,.str uv,B uu]] {box:=upd (upd (fun _=>none) 8 (some (qw v (-1) 0))) 9 (some (qw w (-1) 0)),nl:=10,hw:=fun _=>none,nt:=0,vw:=fun _=>none:Heap} (ren (rnm [8,9] 10) (rnm [] 0) (.tup [L (sgO v w i k ⟨um,uv,uu⟩) 2 Iv.d,I (erF v w i k ⟨um,uv,uu⟩)])) (qh [8,9] [] {box:=upd (upd (fun _=>none) 8 (some (qw v (-1) 0))) 9 (some (qw w (-1) 0)),nl:=10,hw:=fun _=>none,nt:=0,vw:=fun _=>none:Heap} (hBl 2)) /\
   ((decide (um<=1099511627776) && !erF v w i k ⟨um,uv,uu⟩!=0)=true->PQ PP 17 [L (sgO v w i k ⟨um,uv,uu⟩) 2 Iv.d,L x 2 Iv.d] (L (cmR 2 (sgO v w i k ⟨um,uv,uu⟩) x) 2 Iv.d))/\(((decide (um<=1099511627776) && !erF v w i k ⟨um,uv,uu⟩!=0)=true->(cmR 2 (sgO v w i k ⟨um,uv,uu⟩) x).length<=q8)->bif bif decide (um<=1099511627776) then bif erF v w i k ⟨um,uv,uu⟩!=0 then true else decide ((↑(cmR 2 (sgO v w i k ⟨um,uv,uu⟩) x).length:Int) > 0) else false then K (B false) else True/\True/\At (En Tryz.f5) (fi Tryz.f5 K) [It.code [1,1,1,1,1,1,1,1,1,1,1,1,1,1,1,1,1,0],It.code [1,1,1,1,1,1,1,1,1,1,1,1,1,1,1,1,1,1]] {sl:=[(2,I i),(3,I k),(5,I n),(6,.own [L v.sig 3 Sig.d,L v.gap 2 Iv.d,I v.fin]),(7,.own [L w.sig 3 Sig.d,L w.gap 2 Iv.d,I w.fin]),(10,.own [I t.time,.str t.val,B t.unk]),(13,L x 2 Iv.d),(19,.own [I t.time,.str {data:= #[49,101,57]:ByteArray}.data.toList,B t.unk])],h:={box:=upd (upd (upd (upd (fun _=>none) 8 (some (qw v (-1) 0))) 9 (some (qw w (-1) 0))) 8 none) 9 none,nl:=10,hw:=fun _=>none,nt:=0,vw:=fun _=>none:Heap}:St})):=by kernel_rfl
noncomputable def quu(v:Wv)(w:Wv)(i:Int)(k:Int)(t:Tol)(x:List Iv)(um:Int)(uv:Str)(uu:Bool):List Nat->Nat->Option Ans:=qf [([1,1,1,1,1,1,1,1,1,1,1,1,1,1,1,1,1,0],1,Ans.eff (ren (rnm [] 10) (rnm [] 0) (D.bp 0 0)) (qh [] [] {box:=fun _=>none,nl:=10,hw:=fun _=>none,nt:=0,vw:=fun _=>none:Heap} (hM v (-1) 0))),([1,1,1,1,1,1,1,1,1,1,1,1,1,1,1,1,1,0],5,Ans.eff (ren (rnm [] 11) (rnm [] 0) (D.bp 0 0)) (qh [] [] {box:=upd (fun _=>none) 10 (some (qw v (-1) 0)),nl:=11,hw:=fun _=>none,nt:=0,vw:=fun _=>none:Heap} (hM w (-1) 0))),([1,1,1,1,1,1,1,1,1,1,1,1,1,1,1,1,1,0],9,Ans.eff (ren (rnm [10,11] 12) (rnm [] 0) (.tup [L (sgO v w i k ⟨um,uv,uu⟩) 2 Iv.d,I (erF v w i k ⟨um,uv,uu⟩)])) (qh [10,11] [] {box:=upd (upd (fun _=>none) 10 (some (qw v (-1) 0))) 11 (some (qw w (-1) 0)),nl:=12,hw:=fun _=>none,nt:=0,vw:=fun _=>none:Heap} (hBl 2))),([1,1,1,1,1,1,1,1,1,1,1,1,1,1,1,1,1,1,0],5,Ans.pure [.str t.val] (I (th t.val))),([1,1,1,1,1,1,1,1,1,1,1,1,1,1,1,1,1,1,0],10,Ans.pure [L (sgO v w i k ⟨um,uv,uu⟩) 2 Iv.d,L x 2 Iv.d] (L (cmR 2 (sgO v w i k ⟨um,uv,uu⟩) x) 2 Iv.d)),([1,1,1,1,1,1,1,1,1,1,1,1,1,1,1,1,1,1,0],16,Ans.pure [] (B true))]
theorem q3p(v w:Wv)(i k n:Int)(t:Tol)(x:List Iv)(um:Int)(uv:Str)(uu:Bool)(K:D->Prop):qo (En Tryz.f5) (fi Tryz.f5 K) (quu v w i k t x um uv uu) my 200 [.code [1,1,1,1,1,1,1,1,1,1,1,1,1,1,1,1,1,0],.code [1,1,1,1,1,1,1,1,1,1,1,1,1,1,1,1,1,1]] ⟨sMe v w i k n t++[(13,L x 2 Iv.d),(19,.own [I um,.str uv,B uu])],hBl 10⟩ =
 (Does PP 14 [.agg [L v.sig 3 Sig.d,L v.gap 2 Iv.d,I v.fin]] {box:=fun _=>none,nl:=10,hw:=fun _=>none,nt:=0,vw:=fun _=>none:Heap} (ren (rnm [] 10) (rnm [] 0) (D.bp 0 0)) (qh [] [] {box:=fun _=>none,nl:=10,hw:=fun _=>none,nt:=0,vw:=fun _=>none:Heap} (hM v (-1) 0)) /\
 Does PP 14 [.agg [L w.sig 3 Sig.d,L w.gap 2 Iv.d,I w.fin]] {box:=upd (fun _=>none) 10 (some (qw v (-1) 0)),nl:=11,hw:=fun _=>none,nt:=0,vw:=fun _=>none:Heap} (ren (rnm [] 11) (rnm [] 0) (D.bp 0 0)) (qh [] [] {box:=upd (fun _=>none) 10 (some (qw v (-1) 0)),nl:=11,hw:=fun _=>none,nt:=0,vw:=fun _=>none:Heap} (hM w (-1) 0)) /\
  Does PP 13 [D.iface 36 (D.bp 10 0),I i,D.iface 36 (D.bp 11 0),I k,.agg [I um,.str uv,B uu]] {box:=upd (upd (fun _=>none) 10 (some (qw v (-1) 0))) 11 (some (qw w (-1) 0)),nl:=12,hw:=fun _=>none,nt:=0,vw:=fun _=>none:Heap} (ren (rnm [10,11] 12) (rnm [] 0) (.tup [L (sgO v w i k ⟨um,uv,uu⟩) 2 Iv.d,I (erF v w i k ⟨um,uv,uu⟩)])) (qh [10,11] [] {box:=upd (upd (fun _=>none) 10 (some (qw v (-1) 0))) 11 (some (qw w (-1) 0)),nl:=12,hw:=fun _=>none,nt:=0,vw:=fun _=>none:Heap} (hBl 2)) /\
   ((erF v w i k ⟨um,uv,uu⟩==0)=true->PQ PP 18 [.str t.val] (I (th t.val)))/\((erF v w i k ⟨um,uv,uu⟩==0 && !decide (th t.val > 0))=true->PQ PP 17 [L (sgO v w i k ⟨um,uv,uu⟩) 2 Iv.d,L x 2 Iv.d] (L (cmR 2 (sgO v w i k ⟨um,uv,uu⟩) x) 2 Iv.d))/\(((erF v w i k ⟨um,uv,uu⟩==0 && !decide (th t.val > 0))=true->(cmR 2 (sgO v w i k ⟨um,uv,uu⟩) x).length<=q8)->((bif erF v w i k ⟨um,uv,uu⟩==0 then bif decide (th t.val > 0) then true else(↑(cmR 2 (sgO v w i k ⟨um,uv,uu⟩) x).length:Int)==0 else false)=true->PQ PP 8 [] (B true))/\K (B (bif bif erF v w i k ⟨um,uv,uu⟩==0 then bif decide (th t.val > 0) then true else(↑(cmR 2 (sgO v w i k ⟨um,uv,uu⟩) x).length:Int)==0 else false then true else false)))):=by kernel_rfl
end Go.Proofs.YtiekphbkomddfaaGreatDoor.S1
namespace Go.Proofs.YtiekphbkomddfaaGreatDoor.S1
open Go Go.Ab Go.Proofs

attribute [local instance] yu
theorem qav:∀(l:List Chg) (v:Str) (s:Int),xe v l s=v\/∃x∈l,xe v l s=x.val
 | [],v,s=> .inl rfl
 |y::r,v,s=>by
  rw[zw]
  rcases qav r (bif decide (y.time<=s) then y.val else v) s with h|⟨x,hx,h⟩
  ·rw[h]
   cases decide (y.time<=s)
   ·exact .inl rfl
   ·exact .inr ⟨y,List.mem_cons_self,rfl⟩
  ·exact .inr ⟨x,List.mem_cons_of_mem _ hx,h⟩
theorem qhn{v:Wv}{i:Int}(hi:inS v i):qm v i∈v.sig:=by
 have:i.toNat<v.sig.length:=by omega
 unfold qm
 rw[List.getD_eq_getElem?_getD,List.getElem?_eq_getElem this]
 exact List.getElem_mem this
theorem qjn{v:Wv}(hb:smB v=true)(hc:clB v=true){i:Int}(hi:inS v i){t:Tol}(ht:gk t=true)(h3:(qm v i).kind≠3)(s:Int):saF (qm v i).kind t (kb (qm v i) s) (kb (qm v i) s)=true:=by
 have hm:=qhn hi
 obtain⟨⟨k0,k3⟩,_⟩:=qhg hb _ hm
 have hq:=List.all_eq_true.1 hc _ hm
 generalize qm v i=q at *
 unfold saF
 rw[ht]
 have:q.kind=0\/q.kind=1\/q.kind=2:=by omega
 rcases this with e|e|e
 ·rw[e];exact qev _ _
 ·rw[e]
  have hv:(q7 (kb q s)).2=true:=by
   unfold kb
   rw[if_neg h3]
   have hi0:ini q=[48]:=by unfold ini;rw[if_pos e]
   rcases qav q.chg (ini q) s with h|⟨x,hx,h⟩
   ·rw[h,hi0];decide +kernel
   ·rw[h]
    have:=List.all_eq_true.1 hq x hx
    rw[e]at this
    cases hx2:(q7 x.val).2 with
    |true=>rfl
    |false=>rw[hx2]at this;cases this
  have htv:(q7 t.val).2=true/\dsF t.val>=0:=by
   unfold gk at ht
   cases h1:(q7 t.val).2 with
   |true =>
    refine⟨rfl,?_⟩
    by_cases h2:dsF t.val>=0
    ·exact h2
    ·rw[decide_eq_false h2]at ht
     simp at ht
   |false=>rw[h1]at ht;simp at ht
  refine qkl hv hv htv.1 ?_
  have hn:=(zm htv.1).n
  have h2:=htv.2
  unfold dsF at h2
  rw[if_pos htv.1,ic hn]at h2
  have:0<=(q7 t.val).1.val:=by
   rcases qle (q7 t.val).1.val with ⟨g,e⟩|⟨g,_⟩|⟨g,_⟩
   ·rw[e]at h2;omega
   ·omega
   ·omega
  rw[Int.sub_self];exact this
 ·rw[e];exact beq_self_eq_true _
theorem qjo{v:Wv}(hv:SmOk v)(hb:smB v=true)(hc:clB v=true){i:Int}{t:Tol}(h:erF v v i i t=0):pt v v i i t=[]:=by
 obtain⟨n1,n2⟩:=pg hv hv h
 obtain⟨ht,hi,_⟩:=qaq h
 have tt:=uw ht
 refine qhm n1 fun s=> ?_
 cases hs:(pt v v i i t).any (inP s) with
 |false=>rfl
 |true =>
  obtain⟨⟨s0,s1⟩,h4⟩:=(n2 s).1 hs
  rcases h4 with ⟨_,⟨g1,g2⟩|⟨g1,g2⟩⟩|⟨h3,g,_⟩
  ·exact absurd ⟨s,s1,g1,by omega,by omega⟩ g2
  ·exact absurd ⟨s,s1,g1,by omega,by omega⟩ g2
  ·rw[qjn hb hc hi ht h3 s]at g;cases g
theorem qcf{v w:Wv}{i k:Int}{t u:Tol}(h:erF v w i k t=0)(hu:gk u=true):erF v w i k u=0:=by
 obtain⟨_,h1,h2,h3,h4⟩:=qaq h
 unfold erF
 rw[if_neg (by rw[hu];simp),if_neg (not_not_intro ⟨h1,h2⟩),if_neg (not_not_intro h3),if_neg (not_not_intro h4)]
theorem qjp{v w:Wv}{i k:Int}{t:Tol}(h:erF v w i k t=0):erF v v i i t=0:=by
 obtain⟨h0,h1,h2,h3,h4⟩:=qaq h
 unfold erF
 rw[if_neg (by rw[h0];simp),if_neg (not_not_intro ⟨h1,h1⟩),if_neg (not_not_intro rfl),if_neg (not_not_intro rfl)]
def e9:Str:=[49,101,57]
theorem qjq:(q7 e9).2=true/\(q7 e9).1=⟨false,[49],9⟩/\dsF e9=1:=by decide +kernel
theorem qho{t:Tol}(h:gk t=true):gk ⟨t.time,e9,t.unk⟩=true:=by
 have tt:=uw h
 unfold gk
 simp only
 rw[decide_eq_true (show t.time>=0 by omega),decide_eq_true tt.2,qjq.1,qjq.2.2];rfl
theorem qot{k:Int}{t:Tol}{a b:Str}(h0:¬ dsF t.val > 0)(h:saF k t a b=true):saF k ⟨t.time,e9,t.unk⟩ a b=true:=by
 unfold saF at *
 cases ht:gk t with
 |false=>rw[ht]at h;cases h
 |true =>
  rw[qho ht]
  rw[ht]at h
  cases k0:k==0 with
  |true=>rw[k0]at h;exact h
  |false =>
   rw[k0]at h
   cases k1:k==1 with
   |false=>rw[k1]at h;exact h
   |true =>
    rw[k1]at h
    have h:wiB a b t.val=true:=h
    obtain⟨ha,hb,htv,hle⟩:=qjj h
    show wiB a b e9=true
    refine qkl ha hb qjq.1 ?_
    have hn:=(zm htv).n
    unfold dsF at h0
    rw[if_pos htv,ic hn]at h0
    have h1:(q7 t.val).1.val<=0:=by
     rcases qle (q7 t.val).1.val with ⟨g,_⟩|⟨g,_⟩|⟨g,e⟩
     ·omega
     ·omega
     ·rw[e]at h0;omega
    have h2:0<=(q7 e9).1.val:=by
     rw[qjq.2.1]
     exact qc5 _
    omega
theorem iz(z:Str):th z=dsF z:=by
 unfold th dsF
 obtain⟨h1,h2⟩:=qdf z
 have hc:r7 tj z=r7 km z:=qby (by decide) (by decide) z
 rw[h1,hc]
 cases hb:r7 km z with
 |false=>rfl
 |true =>
  rw[h2 (by rw[hc];exact hb),if_pos rfl,(s9 (c1:=tj) (c2:=km) (by decide) (by decide) (by rw[hc];exact hb)).2];rfl
end Go.Proofs.YtiekphbkomddfaaGreatDoor.S1
namespace Go.Proofs.YtiekphbkomddfaaGreatDoor.S1
open Go Go.Ab Go.Proofs

attribute [local instance] yu
theorem Does.wk{f:Nat}{args:List D}{h h1 h2:Heap}{v w:D}(c:Does PP f args h v h1)(hr:RetLe v h1 w h2):Does PP f args h w h2:=Does.of_call (c (fun d h''=>RetLe d h'' w h2) hr)
theorem qmf(bx:Nat->Option Row)(n:Nat):HeapLe ⟨bx,n,fun _=>none,0,fun _=>none⟩ (hBl n):=⟨fun _ _ e=>(by cases e),Nat.le_refl _,fun _ _ h=>h,Nat.le_refl _,fun _ _ _=>VwLe.refl _ _,fun _ h=>h⟩
theorem qmg{v w:Wv}(hv:SmOk v)(hw:SmOk w)(h40:v.fin<=40)(i k:Int)(t:Tol):Does PP 13 [xj,I i,qdp,I k,t.d] (hM2 v (-1) 0 w (-1) 0) (.tup [L (sgO v w i k t) 2 Iv.d,I (erF v w i k t)]) ⟨fun _=>none,2,fun _=>none,0,fun _=>none⟩:=by
 have c:=eSg hv hw h40 (-1) (-1) i k t
 unfold sgO
 by_cases h:erF v w i k t=0
 ·rw[(qar hv hw h40 h (-1) (-1)).1 ⟨.inl (by decide),.inl (by decide)⟩]at c
  rw[if_pos h,h]
  exact Does.wk c (RetLe.of (Wk.refl _) (qmf _ _))
 ·rw[(qha h).1,(qha h).2]at c
  rw[if_neg h]
  exact Does.wk c (RetLe.of (Wk.refl _) (qmf _ _))
theorem quv{a b:List Iv}(ha:a.length<=10000)(hb:b.length<=10000)(h:cmR 2 a b=[]):Pure PP 17 [L a 2 Iv.d,L b 2 Iv.d] (L ([]:List Iv) 2 Iv.d):=by
 have:=c17 a b ha hb
 rw[h]at this
 exact this
section
variable {v w:Wv} (hv:SmOk v) (hw:SmOk w) (h40:v.fin<=40) {i k n:Int} {t:Tol} (hl:t.val.length<=1000) (h:erF v w i k t=0)
include hv hw h40 hl h
theorem meG:At (En Tryz.f5) (fi Tryz.f5 fun d=>Wk d (B true)) [.code [1,1,1,1,1,1,1,1,1,1,1,1,1,1,1,1,1,0],.code [1,1,1,1,1,1,1,1,1,1,1,1,1,1,1,1,1,1]] ⟨sMe v w i k n t++[(13,L (pt v w i k t) 2 Iv.d),(19,.own [I t.time,.str e9,B t.unk])],hBl 10⟩:=by
 have ht:=(qaq h).1
 have he:erF v w i k ⟨t.time,e9,t.unk⟩=0:=qcf h (qho ht)
 have ho:sgO v w i k ⟨t.time,e9,t.unk⟩=pt v w i k ⟨t.time,e9,t.unk⟩:=by unfold sgO;rw[if_pos he]
 have l1:=gi hv hw h40 h
 have l2:=gi hv hw h40 he
 refine qe js _ _ _ (of_eq (q3p v w i k n t _ t.time e9 t.unk _) ⟨fr (e14 v) [] [],fr (e14 w) [] [],fr (qmg hv hw h40 i k ⟨t.time,e9,t.unk⟩) [10,11] [],?_⟩)
 rw[ho,he,iz]
 by_cases hp:dsF t.val > 0
 ·rw[decide_eq_true hp]
  exact⟨fun _=>PureW.mk (by rw[<-iz];exact c18 _ hl),fun h=>(by cases h),fun _=>⟨fun _=>PureW.mk c8,Wk.refl _⟩⟩
 ·have hz:=iy hv hw h he (Int.le_refl _) fun a b=>qot hp
  rw[decide_eq_false hp,hz]
  exact⟨fun _=>PureW.mk (by rw[<-iz];exact c18 _ hl),fun _=>PureW.mk (quv (by omega) (by omega) hz),fun _=>⟨fun _=>PureW.mk c8,Wk.refl _⟩⟩
theorem meF(hn:0<=n/\n<=100):At (En Tryz.f5) (fi Tryz.f5 fun d=>Wk d (B true)) [.code [1,1,1,1,1,1,1,1,1,1,1,1,1,0],.code [1,1,1,1,1,1,1,1,1,1,1,1,1,1]] ⟨sMe v w i k n t++[(13,L (pt v w i k t) 2 Iv.d),(19,.own [I (qg .i64 t.time n),.str t.val,B t.unk])],hBl 8⟩:=by
 have ht:=(qaq h).1
 have tt:=uw ht
 have l1:=gi hv hw h40 h
 rw[jp (by omega) (by omega)]
 refine qe js _ _ _ (of_eq (q3o v w i k n t _ (t.time+n) t.val t.unk _) ⟨fr (e14 v) [] [],fr (e14 w) [] [],fr (qmg hv hw h40 i k ⟨t.time+n,t.val,t.unk⟩) [8,9] [],?_⟩)
 have fin:=jk (meG hv hw h40 hl h (n:=n)) (StLe.heapLe (qmf (upd (upd (upd (upd (fun _=>none) 8 (some (qw v (-1) 0))) 9 (some (qw w (-1) 0))) 8 none) 9 none) 10))
 by_cases hm:t.time+n<=1099511627776
 ·have hu:gk ⟨t.time+n,t.val,t.unk⟩=true:=by
   unfold gk at ht⊢
   rw[decide_eq_true (show t.time>=0 by omega),decide_eq_true tt.2]at ht
   simp only
   rw[decide_eq_true (show t.time+n>=0 by omega),decide_eq_true hm]
   exact ht
  have he:erF v w i k ⟨t.time+n,t.val,t.unk⟩=0:=qcf h hu
  have ho:sgO v w i k ⟨t.time+n,t.val,t.unk⟩=pt v w i k ⟨t.time+n,t.val,t.unk⟩:=by unfold sgO;rw[if_pos he]
  have l2:=gi hv hw h40 he
  have hz:=iy hv hw h he (show t.time<=t.time+n by omega) fun a b=>qjm ⟨by omega,hm⟩
  rw[ho,he,hz,decide_eq_true hm]
  exact⟨fun _=>PureW.mk (quv (by omega) (by omega) hz),fun _=>qa (fun h=>(by cases h)) fun _=>⟨trivial,trivial,fin⟩⟩
 ·rw[decide_eq_false hm]
  exact⟨fun h=>(by cases h),fun _=>qa (fun h=>(by cases h)) fun _=>⟨trivial,trivial,fin⟩⟩
theorem meE(hn:0<=n/\n<=100):At (En Tryz.f5) (fi Tryz.f5 fun d=>Wk d (B true)) [.code [1,1,1,1,1,1,1,1,1,0],.code [1,1,1,1,1,1,1,1,1,1]] ⟨sMe v w i k n t++[(13,L (pt v w i k t) 2 Iv.d),(17,L ([]:List Iv) 2 Iv.d),(18,I 0),(19,.own [I t.time,.str t.val,B true])],hBl 6⟩:=by
 have l1:=gi hv hw h40 h
 have he:erF v w i k ⟨t.time,t.val,true⟩=0:=qcf h (qaq h).1
 have ho:sgO v w i k ⟨t.time,t.val,true⟩=pt v w i k ⟨t.time,t.val,true⟩:=by unfold sgO;rw[if_pos he]
 have l2:=gi hv hw h40 he
 have hz:=iy hv hw h he (Int.le_refl _) fun a b=>ql4
 refine qe js _ _ _ (of_eq (q3n v w i k n t _ [] 0 t.time t.val true _) ⟨fr (e14 v) [] [],fr (e14 w) [] [],fr (qmg hv hw h40 i k ⟨t.time,t.val,true⟩) [6,7] [],?_⟩)
 rw[ho,he,hz]
 exact fun _=>⟨fun _=>PureW.mk (quv (by omega) (by omega) hz),fun _=>qa (fun h=>(by cases h)) fun _=>⟨trivial,trivial,jk (meF hv hw h40 hl h hn) (StLe.heapLe (qmf _ _))⟩⟩
theorem meD(hb:smB v=true)(hc:clB v=true)(hn:0<=n/\n<=100):At (En Tryz.f5) (fi Tryz.f5 fun d=>Wk d (B true)) [.code [1,1,1,1,1,1,0],.code [1,1,1,1,1,1,1]] ⟨sMe v w i k n t++[(13,L (pt v w i k t) 2 Iv.d)],hBl 4⟩:=by
 have he:erF v v i i t=0:=qjp h
 have ho:sgO v v i i t=[]:=by unfold sgO;rw[if_pos he,qjo hv hb hc he]
 refine qe js _ _ _ (of_eq (q3m v w i k n t _ _) ⟨fr (e14 v) [] [],fr (e14 v) [] [],fr (qmg hv hv h40 i i t) [4,5] [],trivial,trivial,?_⟩)
 rw[ho,he]
 exact jk (meE hv hw h40 hl h hn) (StLe.heapLe (qmf _ _))
end
theorem c5(v w:Wv)(i k:Int)(t:Tol)(n:Int):Pure PP 5 [v.d,w.d,I i,I k,t.d,I n] (B true):=by
 have hf:(!!cw v w t)=true->cw v w t=true:=fun h=>by simpa using h
 refine pu F5 (by kernel_rfl) (of_eq (q3j v w i k t n _) ⟨PureW.mk (c11 v w t),fun h=>PureW.mk (c12 v (ao (hf h)).1),fun h=> ?_,qa (fun _=>⟨PureW.mk c8,Wk.refl _⟩) fun h=> ?_⟩)
 ·cases hb:cw v w t with
  |false=>rw[hb]at h;cases h
  |true=>exact PureW.mk (c12 w (ao hb).2.1)
 have hb:cw v w t=true/\clB v=true/\0<=n/\n<=100:=by
  cases hb:cw v w t with
  |false=>rw[hb]at h;cases h
  |true =>
   cases hc:clB v with
   |false=>rw[hb,hc]at h;cases h
   |true =>
    by_cases h1:n<0
    ·rw[hb,hc,decide_eq_true h1]at h
     cases hw2:clB w <;> rw[hw2]at h <;> cases h
    ·by_cases h2:n > 100
     ·rw[hb,hc,decide_eq_false h1,decide_eq_true h2]at h
      cases hw2:clB w <;> rw[hw2]at h <;> cases h
     ·exact⟨rfl,rfl,by omega,by omega⟩
 obtain⟨hb,hc,hn⟩:=hb
 obtain⟨s1,s2,hx,hy⟩:=ao hb
 have hv:=wz s1
 have hw:=wz s2
 have hl:t.val.length<=1000:=by
  unfold cw at hb
  by_cases hl:(t.val.length:Int)<=40
  ·omega
  ·rw[decide_eq_false hl]at hb
   simp at hb
 refine jk (st':=⟨sMe v w i k n t,.empty⟩) ?_ ((StLe.refl _ _).cast (by kernel_rfl))
 refine qe js _ _ _ (of_eq (q3k v w i k n t _) ⟨e14 v,fr (e14 w) [] [],qmg hv hw hx i k t,?_⟩)
 refine jk (st':=⟨sMe v w i k n t++[(13,L (sgO v w i k t) 2 Iv.d),(14,I (erF v w i k t))],hBl 2⟩) ?_ ((StLe.refl _ _).cast (by kernel_rfl))
 refine qe js _ _ _ (of_eq (q3l v w i k n t _ _ _) ⟨fr (e14 w) [] [],fr (e14 v) [] [],fr (qmg hw hv hy k i t) [2,3] [],?_⟩)
 have hos:sgO w v k i t=sgO v w i k t:=by
  unfold sgO
  rw[ix w v k i t]
  by_cases he:erF v w i k t=0
  ·rw[if_pos he,if_pos he,qhl hv hw he]
  ·rw[if_neg he,if_neg he]
 rw[hos,ix w v k i t,bne_self_eq_false]
 refine⟨fun _=>PureW.mk (c16 _),qa (fun h=>(by cases h)) fun _=>qa (fun _=>⟨PureW.mk c8,Wk.refl _⟩) fun he=> ?_⟩
 have he:erF v w i k t=0:=by simpa using he
 have ho:sgO v w i k t=pt v w i k t:=by unfold sgO;rw[if_pos he]
 rw[ho]
 exact jk (meD hv hw hx hl he s1 hc hn) (StLe.heapLe (qmf _ _))
end Go.Proofs.YtiekphbkomddfaaGreatDoor.S1
