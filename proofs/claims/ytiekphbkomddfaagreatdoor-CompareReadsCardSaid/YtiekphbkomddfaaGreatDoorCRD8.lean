/- Comparing: what the statements share; the code's parts. -/
import Derived.Test.YtiekphbkomddfaaGreatDoorCRD7
namespace Go.Proofs.YtiekphbkomddfaaGreatDoor.S1
open Go Go.Ab Go.Proofs
-- nolay
attribute [local instance] LT10
theorem F11:OkF 11 Tryz.f11:=⟨by kernel_rfl,by kernel_rfl,by kernel_rfl⟩
def lv11:List (List Nat × List Nat):=[]
noncomputable def nFews (v:Wv) (w:Wv):List Nat→Nat→Option Ans:=scrAt [([1,0],1,Ans.pure [v.d] (B (smB v))),([1,0],4,Ans.pure [w.d] (B (smB w)))]
theorem nFew (v w:Wv) (t:Tol) (K:D→Prop):runS (En Tryz.f11) (fi Tryz.f11 K) (nFews v w) lv11 200 [.code []] ⟨argSlots 0 [v.d,w.d,t.d],.empty⟩ =
 (PQ PP 19 [v.d] (B (smB v))∧(smB v=true→PQ PP 19 [w.d] (B (smB w)))∧(((bif bif bif smB v then smB w else false then decide (v.fin≤40) else false then decide (w.fin≤40) else false)=true→List.length t.val≤strM)→K (B (bif bif bif bif smB v then smB w else false then decide (v.fin≤40) else false then decide (w.fin≤40) else false then decide ((↑(List.length t.val):Int)≤40) else false)))):=by kernel_rfl
theorem F16:OkF 16 Tryz.f16:=⟨by kernel_rfl,by kernel_rfl,by kernel_rfl⟩
def lv16:List (List Nat × List Nat):=[([1,1,0,1,0],[0,1,5])]
noncomputable def nISas:List Nat→Nat→Option Ans:=scrAt []
theorem nISa (a:List Iv) (K:D→Prop):runS (En Tryz.f16) (fi Tryz.f16 K) (nISas ) lv16 200 [.code []] ⟨argSlots 0 [L a 2 Iv.d,L a 2 Iv.d],.empty⟩ =
 (a.length≤lenM→a.length≤lenM→bif (↑a.length:Int)!=(↑a.length:Int) then K (B false) else At (En Tryz.f16) (fi Tryz.f16 K) [It.code [1,1,0,1,0],It.blk 0,It.code [1,1,1]] {sl:=[(0,L a 2 Iv.d),(1,L a 2 Iv.d),(5,I 0)],h:=Heap.empty:St}):=by kernel_rfl
def SISa (a:List Iv) (i:Int):St:=⟨[(0,L a 2 Iv.d),(1,L a 2 Iv.d),(5,I i)],.empty⟩
noncomputable def nISaas:List Nat→Nat→Option Ans:=scrAt []
theorem nISaa (a:List Iv) (i:Int) (J:St→Prop) (K:D→Prop):runS (En Tryz.f16) (fi Tryz.f16 K) (nISaas ) lv16 200 [.code [1,1,0,1,0,0],stp [0,1,5] J,.blk 0,.code [1,1,1]] (SISa a i) =
 (a.length≤lenM→bif decide (i < (↑a.length:Int)) then (0≤i∧i < (↑a.length:Int))∧(0≤i∧i < (↑a.length:Int))∧bif !((a.getD i.toNat default).frm==(a.getD i.toNat default).frm&&(a.getD i.toNat default).to==(a.getD i.toNat default).to) then K (B false) else J {sl:=[(0,L a 2 Iv.d),(1,L a 2 Iv.d),(5,I (addI .i64 i 1))],h:=Heap.empty:St} else K (B true)):=by kernel_rfl
theorem F12:OkF 12 Tryz.f12:=⟨by kernel_rfl,by kernel_rfl,by kernel_rfl⟩
def lv12:List (List Nat × List Nat):=[([1,0,1,0],[8,9,10]),([1,0,1,0,0,1,1,0,0,1,1,0],[4,8,9,10,15,16,17])]
noncomputable def nCls:List Nat→Nat→Option Ans:=scrAt []
theorem nCl (w:Wv) (K:D→Prop):runS (En Tryz.f12) (fi Tryz.f12 K) (nCls ) lv12 200 [.code []] ⟨argSlots 0 [w.d],.empty⟩ =
 (w.sig.length≤lenM→At (En Tryz.f12) (fi Tryz.f12 K) [It.code [1,0,1,0],It.blk 0,It.code [1,1]] {sl:=[(8,L w.sig 3 Sig.d),(9,I (↑w.sig.length:Int)),(10,I 0)],h:=Heap.empty:St}):=by kernel_rfl
def SCl (w:Wv) (i:Int):St:=⟨[(8,L w.sig 3 Sig.d),(9,I w.sig.length),(10,I i)],.empty⟩
noncomputable def nClas:List Nat→Nat→Option Ans:=scrAt []
theorem nCla (w:Wv) (i:Int) (J:St→Prop) (K:D→Prop):runS (En Tryz.f12) (fi Tryz.f12 K) (nClas ) lv12 200 [.code [1,0,1,0,0],stp [8,9,10] J,.blk 0,.code [1,1]] (SCl w i) =
 (bif decide (i < (↑w.sig.length:Int)) then (0≤i∧i < (↑w.sig.length:Int))∧True∧((w.sig.getD i.toNat default).chg.length≤lenM→At (En Tryz.f12) (fi Tryz.f12 K) [It.code [1,0,1,0,0,1,1,0,0,1,1,0],It.blk 2,It.blk 1,It.code [1,0,1,0,0,1,1,1],stp [8,9,10] J,It.blk 0,It.code [1,1]] {sl:=[(4,.own [I (w.sig.getD i.toNat default).kind,I (w.sig.getD i.toNat default).width,L (w.sig.getD i.toNat default).chg 2 Chg.d]),(8,L w.sig 3 Sig.d),(9,I (↑w.sig.length:Int)),(10,I i),(15,L (w.sig.getD i.toNat default).chg 2 Chg.d),(16,I (↑(w.sig.getD i.toNat default).chg.length:Int)),(17,I 0)],h:=Heap.empty:St}) else K (B true)):=by kernel_rfl
def SCl2 (w:Wv) (i:Int) (q:Sig) (k:Int):St:=⟨[(4,.own [I q.kind,I q.width,L q.chg 2 Chg.d]),(8,L w.sig 3 Sig.d),(9,I w.sig.length),(10,I i),(15,L q.chg 2 Chg.d),(16,I q.chg.length),(17,I k)],.empty⟩
noncomputable def nClbs (q:Sig) (k:Int):List Nat→Nat→Option Ans:=scrAt [([1,0,1,0,0,1,1,0,0,1,1,0,0,1,1,0,0,1,0],6,Ans.pure [.str (q.chg.getD k.toNat default).val] (B (canG (q.chg.getD k.toNat default).val).snd))]
theorem nClb (w:Wv) (i:Int) (q:Sig) (k:Int) (J J2:St→Prop) (K:D→Prop):runS (En Tryz.f12) (fi Tryz.f12 K) (nClbs q k) lv12 200 [.code [1,0,1,0,0,1,1,0,0,1,1,0,0],stp [4,8,9,10,15,16,17] J,.blk 2,.blk 1,.code [1,0,1,0,0,1,1,1],stp [8,9,10] J2,.blk 0,.code [1,1]] (SCl2 w i q k) =
 (bif decide (k < (↑q.chg.length:Int)) then (0≤k∧k < (↑q.chg.length:Int))∧True∧((q.kind==1)=true→PQ PP 28 [.str (q.chg.getD k.toNat default).val] (B (canG (q.chg.getD k.toNat default).val).snd))∧bif bif q.kind==1 then !(canG (q.chg.getD k.toNat default).val).snd else false then K (B false) else J {sl:=[(4,.own [I q.kind,I q.width,L q.chg 2 Chg.d]),(8,L w.sig 3 Sig.d),(9,I (↑w.sig.length:Int)),(10,I i),(15,L q.chg 2 Chg.d),(16,I (↑q.chg.length:Int)),(17,I (addI .i64 k 1))],h:=Heap.empty:St} else J2 {sl:=[(8,L w.sig 3 Sig.d),(9,I (↑w.sig.length:Int)),(10,I (addI .i64 i 1))],h:=Heap.empty:St}):=by kernel_rfl
def fewB (v w:Wv) (t:Tol):Bool:=bif bif bif bif smB v then smB w else false then decide (v.fin≤40) else false then decide (w.fin≤40) else false then decide ((t.val.length:Int)≤40) else false
def clB (w:Wv):Bool:=w.sig.all fun q=>q.chg.all fun x=> !(bif q.kind==1 then !(canG x.val).2 else false)
theorem F21:OkF 21 Tryz.f21:=⟨by kernel_rfl,by kernel_rfl,by kernel_rfl⟩
def lv21:List (List Nat × List Nat):=[]
noncomputable def nRis (t:Int):List Nat→Nat→Option Ans:=scrAt [([1,0],7,Ans.eff (ren (rnm [] 0) (rnm [] 0) (D.bp 0 0)) (frameH [] [] Heap.empty (hM {sig:=[{kind:=0,width:=1,chg:=[{time:=0,val:={data:= #[48]:ByteArray}.data.toList:Chg},{time:=t,val:={data:= #[49]:ByteArray}.data.toList:Chg}]:Sig}],gap:=[],fin:=9:Wv} (-1) 0)))]
theorem nRi (t:Int) (K:D→Heap→Prop):runS (En Tryz.f21) (fh Tryz.f21 K) (nRis t) lv21 200 [.code []] ⟨argSlots 0 [I t],.empty⟩ =
 (Does PP 14 [.agg [.list 1 3 (litG [.agg [I 0,I 1,.list 2 2 (litG [.agg [I 0,.str {data:= #[48]:ByteArray}.data.toList],.agg [I t,.str {data:= #[49]:ByteArray}.data.toList]]) .full]]) .full,.list 0 0 (fun _=>D.junk) .full,I 9]] Heap.empty (ren (rnm [] 0) (rnm [] 0) (D.bp 0 0)) (frameH [] [] Heap.empty (hM {sig:=[{kind:=0,width:=1,chg:=[{time:=0,val:={data:= #[48]:ByteArray}.data.toList:Chg},{time:=t,val:={data:= #[49]:ByteArray}.data.toList:Chg}]:Sig}],gap:=[],fin:=9:Wv} (-1) 0))∧K (D.bp 0 0) {box:=upd (fun _=>none) 0 (some (Row.lit [L {sig:=[{kind:=0,width:=1,chg:=[{time:=0,val:={data:= #[48]:ByteArray}.data.toList:Chg},{time:=t,val:={data:= #[49]:ByteArray}.data.toList:Chg}]:Sig}],gap:=[],fin:=9:Wv}.sig 3 Sig.d,L {sig:=[{kind:=0,width:=1,chg:=[{time:=0,val:={data:= #[48]:ByteArray}.data.toList:Chg},{time:=t,val:={data:= #[49]:ByteArray}.data.toList:Chg}]:Sig}],gap:=[],fin:=9:Wv}.gap 2 Iv.d,I {sig:=[{kind:=0,width:=1,chg:=[{time:=0,val:={data:= #[48]:ByteArray}.data.toList:Chg},{time:=t,val:={data:= #[49]:ByteArray}.data.toList:Chg}]:Sig}],gap:=[],fin:=9:Wv}.fin,I (-1),I 0])),nl:=1,hw:=fun _=>none,nt:=0,vw:=fun _=>none:Heap}):=by kernel_rfl
def wA (t:Int):Wv:=⟨[⟨0,1,[⟨0,[48]⟩,⟨t,[49]⟩]⟩],[],9⟩
def sgA (q:Int):List Iv:=if q=1 then [⟨5,6⟩] else []
theorem F8:OkF 8 Tryz.f8:=⟨by kernel_rfl,by kernel_rfl,by kernel_rfl⟩
def lv8:List (List Nat × List Nat):=[]
noncomputable def nAwks:List Nat→Nat→Option Ans:=scrAt [([1,1,0],1,Ans.eff (D.bp 0 0) (hM (wA 5) (-1) 0)),([1,1,0],4,Ans.eff (ren (rnm [] 1) (rnm [] 0) (D.bp 0 0)) (frameH [] [] {box:=upd (fun _=>none) 0 (some (rowM (wA 5) (-1) 0)),nl:=1,hw:=fun _=>none,nt:=0,vw:=fun _=>none:Heap} (hM (wA 7) (-1) 0))),([1,1,0],7,Ans.eff (.tup [L (sgA 1) 2 Iv.d,I 0]) (hM2 (wA 5) (-1) 6 (wA 7) (-1) 5)),([1,1,1,0],1,Ans.eff (ren (rnm [] 2) (rnm [] 0) (D.bp 0 0)) (frameH [] [] {box:=upd (upd (fun _=>none) 0 (some (rowM (wA 5) (-1) 6))) 1 (some (rowM (wA 7) (-1) 5)),nl:=2,hw:=fun _=>none,nt:=0,vw:=fun _=>none:Heap} (hM (wA 5) (-1) 0))),([1,1,1,0],4,Ans.eff (ren (rnm [] 3) (rnm [] 0) (D.bp 0 0)) (frameH [] [] {box:=upd (upd (upd (fun _=>none) 0 (some (rowM (wA 5) (-1) 6))) 1 (some (rowM (wA 7) (-1) 5))) 2 (some (rowM (wA 5) (-1) 0)),nl:=3,hw:=fun _=>none,nt:=0,vw:=fun _=>none:Heap} (hM (wA 7) (-1) 0))),
 ([1,1,1,0],7,Ans.eff (ren (rnm [2,3] 4) (rnm [] 0) (.tup [L (sgA 2) 2 Iv.d,I 0])) (frameH [2,3] [] {box:=upd (upd (upd (upd (fun _=>none) 0 (some (rowM (wA 5) (-1) 6))) 1 (some (rowM (wA 7) (-1) 5))) 2 (some (rowM (wA 5) (-1) 0))) 3 (some (rowM (wA 7) (-1) 0)),nl:=4,hw:=fun _=>none,nt:=0,vw:=fun _=>none:Heap} (hM2 (wA 5) (-1) 6 (wA 7) (-1) 5))),([1,1,1,1,0],6,Ans.pure [L (sgA 1) 2 Iv.d,L [{frm:=5,to:=6:Iv}] 2 Iv.d] (B true)),([1,1,1,1,0],18,Ans.pure [nilIv] (I (-1)))]
theorem nAwk (K:D→Prop):runS (En Tryz.f8) (fi Tryz.f8 K) (nAwks ) lv8 200 [.code []] ⟨argSlots 0 [],.empty⟩ =
 (Does PP 21 [I 5] Heap.empty (D.bp 0 0) (hM (wA 5) (-1) 0) ∧
 Does PP 21 [I 7] {box:=upd (fun _=>none) 0 (some (rowM (wA 5) (-1) 0)),nl:=1,hw:=fun _=>none,nt:=0,vw:=fun _=>none:Heap} (ren (rnm [] 1) (rnm [] 0) (D.bp 0 0)) (frameH [] [] {box:=upd (fun _=>none) 0 (some (rowM (wA 5) (-1) 0)),nl:=1,hw:=fun _=>none,nt:=0,vw:=fun _=>none:Heap} (hM (wA 7) (-1) 0)) ∧
  Does PP 13 [D.iface 36 (D.bp 0 0),I 0,D.iface 36 (D.bp 1 0),I 0,.agg [I 1,.str {data:= #[48]:ByteArray}.data.toList,B false]] {box:=upd (upd (fun _=>none) 0 (some (rowM (wA 5) (-1) 0))) 1 (some (rowM (wA 7) (-1) 0)),nl:=2,hw:=fun _=>none,nt:=0,vw:=fun _=>none:Heap} (.tup [L (sgA 1) 2 Iv.d,I 0]) (hM2 (wA 5) (-1) 6 (wA 7) (-1) 5) ∧
   Does PP 21 [I 5] {box:=upd (upd (fun _=>none) 0 (some (rowM (wA 5) (-1) 6))) 1 (some (rowM (wA 7) (-1) 5)),nl:=2,hw:=fun _=>none,nt:=0,vw:=fun _=>none:Heap} (ren (rnm [] 2) (rnm [] 0) (D.bp 0 0)) (frameH [] [] {box:=upd (upd (fun _=>none) 0 (some (rowM (wA 5) (-1) 6))) 1 (some (rowM (wA 7) (-1) 5)),nl:=2,hw:=fun _=>none,nt:=0,vw:=fun _=>none:Heap} (hM (wA 5) (-1) 0)) ∧
    Does PP 21 [I 7] {box:=upd (upd (upd (fun _=>none) 0 (some (rowM (wA 5) (-1) 6))) 1 (some (rowM (wA 7) (-1) 5))) 2 (some (rowM (wA 5) (-1) 0)),nl:=3,hw:=fun _=>none,nt:=0,vw:=fun _=>none:Heap} (ren (rnm [] 3) (rnm [] 0) (D.bp 0 0)) (frameH [] [] {box:=upd (upd (upd (fun _=>none) 0 (some (rowM (wA 5) (-1) 6))) 1 (some (rowM (wA 7) (-1) 5))) 2 (some (rowM (wA 5) (-1) 0)),nl:=3,hw:=fun _=>none,nt:=0,vw:=fun _=>none:Heap} (hM (wA 7) (-1) 0)) ∧
     Does PP 13 [D.iface 36 (D.bp 2 0),I 0,D.iface 36 (D.bp 3 0),I 0,.agg [I 2,.str {data:= #[48]:ByteArray}.data.toList,B false]] {box:=upd (upd (upd (upd (fun _=>none) 0 (some (rowM (wA 5) (-1) 6))) 1 (some (rowM (wA 7) (-1) 5))) 2 (some (rowM (wA 5) (-1) 0))) 3 (some (rowM (wA 7) (-1) 0)),nl:=4,hw:=fun _=>none,nt:=0,vw:=fun _=>none:Heap} (ren (rnm [2,3] 4) (rnm [] 0) (.tup [L (sgA 2) 2 Iv.d,I 0])) (frameH [2,3] [] {box:=upd (upd (upd (upd (fun _=>none) 0 (some (rowM (wA 5) (-1) 6))) 1 (some (rowM (wA 7) (-1) 5))) 2 (some (rowM (wA 5) (-1) 0))) 3 (some (rowM (wA 7) (-1) 0)),nl:=4,hw:=fun _=>none,nt:=0,vw:=fun _=>none:Heap} (hM2 (wA 5) (-1) 6 (wA 7) (-1) 5))∧(true=true→PureW PP 16 [L (sgA 1) 2 Iv.d,.list 1 2 (litG [.agg [I 5,I 6]]) .full] [L (sgA 1) 2 Iv.d,L [{frm:=5,to:=6:Iv}] 2 Iv.d] (B true))∧((true=true→0≤lenM)→(true=true→PQ PP 22 [nilIv] (I (-1)))∧K (B true))):=by kernel_rfl
theorem F7:OkF 7 Tryz.f7:=⟨by kernel_rfl,by kernel_rfl,by kernel_rfl⟩
def lvLRa:List (List Nat × List Nat):=[([1,1,1,1,1,0],[2,3,5,6,7,8,11,15,16,17])]
noncomputable def nLRas (v:Wv) (w:Wv) (i:Int) (k:Int) (t:Tol):List Nat→Nat→Option Ans:=scrAt [([1,0,0],3,Ans.pure [v.d,w.d,t.d] (B (fewB v w t))),([1,0,0],7,Ans.pure [v.d] (B (clB v))),([1,0,0],12,Ans.pure [w.d] (B (clB w))),([1,0,1,0,0],0,Ans.pure [] (B true)),([1,1,0],1,Ans.eff (D.bp 0 0) (hM v (-1) 0)),([1,1,0],3,Ans.eff (ren (rnm [] 1) (rnm [] 0) (D.bp 0 0)) (frameH [] [] {box:=upd (fun _=>none) 0 (some (rowM v (-1) 0)),nl:=1,hw:=fun _=>none,nt:=0,vw:=fun _=>none:Heap} (hM w (-1) 0))),([1,1,1,0],7,Ans.eff (.tup [L (sgR v (-1) 0 w (-1) 0 i k t).out 2 Iv.d,I (sgR v (-1) 0 w (-1) 0 i k t).err]) (hM2 v (-1) (sgR v (-1) 0 w (-1) 0 i k t).c w (-1) (sgR v (-1) 0 w (-1) 0 i k t).d)),([1,1,1,1,0,1,0,0],4,Ans.pure [] (B true))]
theorem nLRa (v w : Wv) (i k : Int) (t : Tol) (n : Int) (sec : Bool) (K : D → Prop) : runS (En Tryz.f7) (fi Tryz.f7 K) (nLRas v w i k t) lvLRa 200 [.code []] ⟨argSlots 0 [v.d, w.d, I i, I k, t.d, .int .u8 n, B sec], .empty⟩ =
  (PQ PP 11 [v.d, w.d, t.d] (B (fewB v w t)) ∧
  ((!!fewB v w t) = true → PQ PP 12 [v.d] (B (clB v))) ∧
    ((!bif !fewB v w t then true else !clB v) = true → PQ PP 12 [w.d] (B (clB w))) ∧
      bif bif bif !fewB v w t then true else !clB v then true else !clB w then PQ PP 8 [] (B true) ∧ K (B true)
      else
        Does PP 14 [.agg [L v.sig 3 Sig.d, L v.gap 2 Iv.d, I v.fin]] Heap.empty (D.bp 0 0) (hM v (-1) 0) ∧
          Does PP 14 [.agg [L w.sig 3 Sig.d, L w.gap 2 Iv.d, I w.fin]] { box := upd (fun _ => none) 0 (some (rowM v (-1) 0)), nl := 1, hw := fun _ => none, nt := 0, vw := fun _ => none : Heap } (ren (rnm [] 1) (rnm [] 0) (D.bp 0 0)) (frameH [] [] { box := upd (fun _ => none) 0 (some (rowM v (-1) 0)), nl := 1, hw := fun _ => none, nt := 0, vw := fun _ => none : Heap } (hM w (-1) 0)) ∧
            Does PP 13 [D.iface 36 (D.bp 0 0), I i, D.iface 36 (D.bp 1 0), I k, .agg [I t.time, .str t.val, B t.unk]] { box := upd (upd (fun _ => none) 0 (some (rowM v (-1) 0))) 1 (some (rowM w (-1) 0)), nl := 2, hw := fun _ => none, nt := 0, vw := fun _ => none : Heap } (.tup [L (sgR v (-1) 0 w (-1) 0 i k t).out 2 Iv.d, I (sgR v (-1) 0 w (-1) 0 i k t).err]) (hM2 v (-1) (sgR v (-1) 0 w (-1) 0 i k t).c w (-1) (sgR v (-1) 0 w (-1) 0 i k t).d) ∧ bif (sgR v (-1) 0 w (-1) 0 i k t).err != 0 then (sgR v (-1) 0 w (-1) 0 i k t).out.length ≤ lenM → (((↑(sgR v (-1) 0 w (-1) 0 i k t).out.length : Int) == 0) = true → PQ PP 8 [] (B true)) ∧ K (B (bif (↑(sgR v (-1) 0 w (-1) 0 i k t).out.length : Int) == 0 then true else false)) else At (En Tryz.f7) (fi Tryz.f7 K) [It.code [1, 1, 1, 1, 1, 0], It.code [1, 1, 1, 1, 1, 1]] { sl := [(2, I i), (3, I k), (5, D.int IntKind.u8 n), (6, B sec), (7, .own [L v.sig 3 Sig.d, L v.gap 2 Iv.d, I v.fin]), (8, .own [L w.sig 3 Sig.d, L w.gap 2 Iv.d, I w.fin]), (11, .own [I t.time, .str t.val, B t.unk]), (15, D.bp 0 0), (16, D.bp 1 0), (17, L (sgR v (-1) 0 w (-1) 0 i k t).out 2 Iv.d)], h := { box := upd (upd (fun _ => none) 0 (some (rowM v (-1) (sgR v (-1) 0 w (-1) 0 i k t).c))) 1 (some (rowM w (-1) (sgR v (-1) 0 w (-1) 0 i k t).d)), nl := 2, hw := fun _ => none, nt := 0, vw := fun _ => none : Heap } : St }) := by kernel_rfl
def SLR (v:Wv) (c:Int) (w:Wv) (d i k tm:Int) (tv:Str) (tu:Bool) (n:Int) (sec:Bool) (out:List Iv):St:=⟨[(2,I i),(3,I k),(5,.int .u8 n),(6,B sec),(7,.own [L v.sig 3 Sig.d,L v.gap 2 Iv.d,I v.fin]),(8,.own [L w.sig 3 Sig.d,L w.gap 2 Iv.d,I w.fin]),(11,.own [I tm,.str tv,B tu]),(15,.bp 0 0),(16,.bp 1 0),(17,L out 2 Iv.d)],hM2 v (-1) c w (-1) d⟩
def lvLRb:List (List Nat × List Nat):=[([1,1,1,1,1,1,1,1,0],[2,3,5,11,17,19,20,21])]
noncomputable def nLRbs (v:Wv) (w:Wv) (c:Int) (d:Int):List Nat→Nat→Option Ans:=scrAt [([1,1,1,1,1,0],1,Ans.eff (ren (rnm [] 2) (rnm [] 0) (D.bp 0 0)) (frameH [] [] {box:=upd (upd (fun _=>none) 0 (some (rowM v (-1) c))) 1 (some (rowM w (-1) d)),nl:=2,hw:=fun _=>none,nt:=0,vw:=fun _=>none:Heap} (hM v (-1) 0))),([1,1,1,1,1,0],3,Ans.eff (ren (rnm [] 3) (rnm [] 0) (D.bp 0 0)) (frameH [] [] {box:=upd (upd (upd (fun _=>none) 0 (some (rowM v (-1) c))) 1 (some (rowM w (-1) d))) 2 (some (rowM v (-1) 0)),nl:=3,hw:=fun _=>none,nt:=0,vw:=fun _=>none:Heap} (hM w (-1) 0)))]
theorem nLRb (v w:Wv) (c d i k tm:Int) (tv:Str) (tu:Bool) (n:Int) (sec:Bool) (out:List Iv) (K:D→Prop):runS (En Tryz.f7) (fi Tryz.f7 K) (nLRbs v w c d) lvLRb 200 [.code [1,1,1,1,1,0],.code [1,1,1,1,1,1]] (SLR v c w d i k tm tv tu n sec out) =
 (Does PP 14 [.agg [L v.sig 3 Sig.d,L v.gap 2 Iv.d,I v.fin]] {box:=upd (upd (fun _=>none) 0 (some (rowM v (-1) c))) 1 (some (rowM w (-1) d)),nl:=2,hw:=fun _=>none,nt:=0,vw:=fun _=>none:Heap} (ren (rnm [] 2) (rnm [] 0) (D.bp 0 0)) (frameH [] [] {box:=upd (upd (fun _=>none) 0 (some (rowM v (-1) c))) 1 (some (rowM w (-1) d)),nl:=2,hw:=fun _=>none,nt:=0,vw:=fun _=>none:Heap} (hM v (-1) 0)) ∧
 Does PP 14 [.agg [L w.sig 3 Sig.d,L w.gap 2 Iv.d,I w.fin]] {box:=upd (upd (upd (fun _=>none) 0 (some (rowM v (-1) c))) 1 (some (rowM w (-1) d))) 2 (some (rowM v (-1) 0)),nl:=3,hw:=fun _=>none,nt:=0,vw:=fun _=>none:Heap} (ren (rnm [] 3) (rnm [] 0) (D.bp 0 0)) (frameH [] [] {box:=upd (upd (upd (fun _=>none) 0 (some (rowM v (-1) c))) 1 (some (rowM w (-1) d))) 2 (some (rowM v (-1) 0)),nl:=3,hw:=fun _=>none,nt:=0,vw:=fun _=>none:Heap} (hM w (-1) 0)) ∧
  bif sec then (32:Int)≠0∧True∧At (En Tryz.f7) (fi Tryz.f7 K) [It.code [1,1,1,1,1,1,1,1,0],It.code [1,1,1,1,1,1,1,1,1]] {sl:=[(2,I i),(3,I k),(5,D.int IntKind.u8 n),(11,.own [I tm,.str tv,B tu]),(17,L out 2 Iv.d),(19,D.bp 2 0),(20,D.bp 3 0),(21,I d)],h:={box:=upd (upd (upd (upd (upd (fun _=>none) 0 (some (rowM v (-1) c))) 1 (some (rowM w (-1) d))) 2 (some (rowM v (-1) 0))) 3 (some (rowM w (-1) 0))) 3 (some (Row.lit [L w.sig 3 Sig.d,L w.gap 2 Iv.d,I w.fin,I (IntKind.i64.wrap (n.tmod 32)),I 0])),nl:=4,hw:=fun _=>none,nt:=0,vw:=fun _=>none:Heap}:St}
  else (32:Int)≠0∧True∧At (En Tryz.f7) (fi Tryz.f7 K) [It.code [1,1,1,1,1,1,1,1,0],It.code [1,1,1,1,1,1,1,1,1]] {sl:=[(2,I i),(3,I k),(5,D.int IntKind.u8 n),(11,.own [I tm,.str tv,B tu]),(17,L out 2 Iv.d),(19,D.bp 2 0),(20,D.bp 3 0),(21,I c)],h:={box:=upd (upd (upd (upd (upd (fun _=>none) 0 (some (rowM v (-1) c))) 1 (some (rowM w (-1) d))) 2 (some (rowM v (-1) 0))) 3 (some (rowM w (-1) 0))) 2 (some (Row.lit [L v.sig 3 Sig.d,L v.gap 2 Iv.d,I v.fin,I (IntKind.i64.wrap (n.tmod 32)),I 0])),nl:=4,hw:=fun _=>none,nt:=0,vw:=fun _=>none:Heap}:St}):=by kernel_rfl
def hM4 (v:Wv) (l:Int) (w:Wv) (m:Int):Heap:=⟨upd (upd (fun _=>none) 2 (some (.lit [L v.sig 3 Sig.d,L v.gap 2 Iv.d,I v.fin,I l,I 0]))) 3 (some (.lit [L w.sig 3 Sig.d,L w.gap 2 Iv.d,I w.fin,I m,I 0])),4,fun _=>none,0,fun _=>none⟩
def SLRj (v:Wv) (l:Int) (w:Wv) (m i k tm:Int) (tv:Str) (tu:Bool) (n:Int) (out:List Iv) (q:Int):St:=⟨[(2,I i),(3,I k),(5,.int .u8 n),(11,.own [I tm,.str tv,B tu]),(17,L out 2 Iv.d),(19,.bp 2 0),(20,.bp 3 0),(21,I q)],hM4 v l w m⟩
noncomputable def nLRcs (v:Wv) (w:Wv) (l:Int) (m:Int) (i:Int) (k:Int) (tm:Int) (tv:Str) (tu:Bool) (out:List Iv):List Nat→Nat→Option Ans:=scrAt [([1,1,1,1,1,1,1,1,0],7,Ans.eff (ren (rnm [2,3] 4) (rnm [] 0) (.tup [L (sgR v l 0 w m 0 i k {time:=tm,val:=tv,unk:=tu:Tol}).out 2 Iv.d,I (sgR v l 0 w m 0 i k {time:=tm,val:=tv,unk:=tu:Tol}).err])) (frameH [2,3] [] {box:=upd (upd (fun _=>none) 2 (some (rowM v l 0))) 3 (some (rowM w m 0)),nl:=4,hw:=fun _=>none,nt:=0,vw:=fun _=>none:Heap} (hM2 v l (sgR v l 0 w m 0 i k {time:=tm,val:=tv,unk:=tu:Tol}).c w m (sgR v l 0 w m 0 i k {time:=tm,val:=tv,unk:=tu:Tol}).d))),([1,1,1,1,1,1,1,1,1,0,1,0,0],5,Ans.pure [L out 2 Iv.d,L (sgR v l 0 w m 0 i k {time:=tm,val:=tv,unk:=tu:Tol}).out 2 Iv.d] (B true)),([1,1,1,1,1,1,1,1,1,0,1,0,0],8,Ans.pure [] (B true)),([1,1,1,1,1,1,1,1,1,1,0],8,Ans.pure [] (B true))]
theorem nLRc (v w:Wv) (l m i k tm:Int) (tv:Str) (tu:Bool) (n:Int) (out:List Iv) (q:Int) (K:D→Prop):runS (En Tryz.f7) (fi Tryz.f7 K) (nLRcs v w l m i k tm tv tu out) nolv 200 [.code [1,1,1,1,1,1,1,1,0],.code [1,1,1,1,1,1,1,1,1]] (SLRj v l w m i k tm tv tu n out q) =
 (Does PP 13 [D.iface 36 (D.bp 2 0),I i,D.iface 36 (D.bp 3 0),I k,.agg [I tm,.str tv,B tu]] {box:=upd (upd (fun _=>none) 2 (some (rowM v l 0))) 3 (some (rowM w m 0)),nl:=4,hw:=fun _=>none,nt:=0,vw:=fun _=>none:Heap} (ren (rnm [2,3] 4) (rnm [] 0) (.tup [L (sgR v l 0 w m 0 i k {time:=tm,val:=tv,unk:=tu:Tol}).out 2 Iv.d,I (sgR v l 0 w m 0 i k {time:=tm,val:=tv,unk:=tu:Tol}).err])) (frameH [2,3] [] {box:=upd (upd (fun _=>none) 2 (some (rowM v l 0))) 3 (some (rowM w m 0)),nl:=4,hw:=fun _=>none,nt:=0,vw:=fun _=>none:Heap} (hM2 v l (sgR v l 0 w m 0 i k {time:=tm,val:=tv,unk:=tu:Tol}).c w m (sgR v l 0 w m 0 i k {time:=tm,val:=tv,unk:=tu:Tol}).d)) ∧
 (32:Int)≠0∧bif decide (IntKind.i64.wrap (n.tmod 32)≥q) then (((sgR v l 0 w m 0 i k {time:=tm,val:=tv,unk:=tu:Tol}).err==0)=true→PQ PP 16 [L out 2 Iv.d,L (sgR v l 0 w m 0 i k {time:=tm,val:=tv,unk:=tu:Tol}).out 2 Iv.d] (B true))∧((bif (sgR v l 0 w m 0 i k {time:=tm,val:=tv,unk:=tu:Tol}).err==0 then true else false)=true→PQ PP 8 [] (B true))∧K (B (bif bif (sgR v l 0 w m 0 i k {time:=tm,val:=tv,unk:=tu:Tol}).err==0 then true else false then true else false)) else (((sgR v l 0 w m 0 i k {time:=tm,val:=tv,unk:=tu:Tol}).err==14)=true→(sgR v l 0 w m 0 i k {time:=tm,val:=tv,unk:=tu:Tol}).out.length≤lenM)→((bif (sgR v l 0 w m 0 i k {time:=tm,val:=tv,unk:=tu:Tol}).err==14 then (↑(sgR v l 0 w m 0 i k {time:=tm,val:=tv,unk:=tu:Tol}).out.length:Int)==0 else false)=true→PQ PP 8 [] (B true))∧K (B (bif bif (sgR v l 0 w m 0 i k {time:=tm,val:=tv,unk:=tu:Tol}).err==14 then (↑(sgR v l 0 w m 0 i k {time:=tm,val:=tv,unk:=tu:Tol}).out.length:Int)==0 else false then true else false))):=by kernel_rfl
end Go.Proofs.YtiekphbkomddfaaGreatDoor.S1
namespace Go.Proofs.YtiekphbkomddfaaGreatDoor.S1
open Go Go.Ab Go.Proofs
-- nolay
attribute [local instance] LT10
theorem c11 (v w:Wv) (t:Tol):Pure PP 11 [v.d,w.d,t.d] (B (fewB v w t)) :=
 pu F11 (by kernel_rfl) (of_eq (nFew v w t _) ⟨PureW.mk (c19 v),fun _=>PureW.mk (c19 w),fun _=>Wk.refl _⟩)
theorem c16 (a:List Iv):Pure PP 16 [L a 2 Iv.d,L a 2 Iv.d] (B true):=by
 refine pu F16 (by kernel_rfl) (of_eq (nISa a _) fun hl _=>cond_intro (fun h=>by simp at h) fun h=> ?_)
 refine lp (fn:=Tryz.f16) (fun i:Nat=>i≤a.length) (fun i=>SISa a i) (fun i=>a.length - i) [0,1,5] (by kernel_rfl) (fun i hi=>of_eq (nISaa a i _ _) fun hl=>cond_intro (fun hlt=> ?_) fun hge=> ?_) 0 (Nat.zero_le _)
 ·have hlt:=ltI hlt
  rw [add1 hlt hl]
  refine ⟨⟨by omega,by omega⟩,⟨by omega,by omega⟩,cond_intro (fun h=>by simp at h) fun h=>Nx.mk (i+1) (by omega) (by omega)⟩
 ·exact Wk.refl _
theorem smB_val {w : Wv} (h : smB w = true) : ∀ q ∈ w.sig, (0 ≤ q.kind ∧ q.kind ≤ 3) ∧ ∀ x ∈ q.chg, x.val.length ≤ 64 := fun q hq => by
  unfold smB at h
  rw [Bool.and_eq_true, Bool.and_eq_true] at h
  have h1 := List.all_eq_true.1 h.2.1 q hq
  unfold sigOk at h1
  rw [Bool.and_eq_true, Bool.not_eq_true'] at h1
  obtain ⟨w1, w2, w3, w4⟩ := sigBad_width h1.1
  refine ⟨⟨w3, w4⟩, ?_⟩
  have key : ∀ (l : List Chg) (p : Option Chg) (b : Str), chgOk w q p b l = true → ∀ x ∈ l, x.val.length ≤ 64 := fun l => by
    induction l with
    | nil => intro p b _ x hx; cases hx
    | cons y r ih =>
      intro p b hc x hx
      rw [chgOk, Bool.and_eq_true, Bool.not_eq_true'] at hc
      rcases List.mem_cons.1 hx with rfl | hx
      · have hv : vlOk q x.val = true := by
          cases hv : vlOk q x.val with
          | true => rfl
          | false =>
            have h2 := hc.1
            unfold chgBad at h2
            rw [hv] at h2
            simp only [Bool.cond_eq_ite] at h2
            simp at h2
        unfold vlOk at hv
        by_cases k3 : q.kind = 3
        · rw [show (q.kind == 3) = true from beq_iff_eq.2 k3, cond_true] at hv
          rw [beq_iff_eq.1 hv]; exact Nat.zero_le _
        · rw [show (q.kind == 3) = false from beq_eq_false_iff_ne.2 k3, cond_false] at hv
          by_cases k0 : q.kind = 0
          · rw [show (q.kind == 0) = true from beq_iff_eq.2 k0, cond_true, Bool.and_eq_true] at hv
            have := beq_iff_eq.1 hv.2
            omega
          · rw [show (q.kind == 0) = false from beq_eq_false_iff_ne.2 k0, cond_false] at hv
            have := of_decide_eq_true hv
            omega
      · exact ih _ _ hc.2 x hx
  exact key _ _ _ h1.2
theorem c12 (w:Wv) (h:smB w=true):Pure PP 12 [w.d] (B (clB w)):=by
 have hv:=smB_val h
 have ho:=smB_ok h
 refine pu F12 (by kernel_rfl) (of_eq (nCl w _) fun hl=> ?_)
 refine lp (fn:=Tryz.f12) (fun i:Nat=>i≤w.sig.length∧clB w=(w.sig.drop i).all fun q=>q.chg.all fun x=> !(bif q.kind==1 then !(canG x.val).2 else false)) (fun i=>SCl w i) (fun i=>w.sig.length - i) [8,9,10] (by kernel_rfl) (fun i hi=>of_eq (nCla w i _ _) (cond_intro (fun hlt=> ?_) fun hge=> ?_)) 0 ⟨Nat.zero_le _,rfl⟩
 ·have hlt:=ltI hlt
  obtain ⟨_,he⟩:=hi
  rw [all_drop hlt] at he
  rw [Int.toNat_natCast]
  have hm:w.sig.getD i default∈w.sig:=by
   rw [List.getD_eq_getElem?_getD,List.getElem?_eq_getElem hlt]; exact List.getElem_mem hlt
  have hx:=(hv _ hm).2
  generalize w.sig.getD i default=q at *
  refine ⟨⟨by omega,by omega⟩,trivial,fun hql=> ?_⟩
  refine lp (fn:=Tryz.f12) (fun k:Nat=>k≤q.chg.length∧(q.chg.all fun x=> !(bif q.kind==1 then !(canG x.val).2 else false))=(q.chg.drop k).all fun x=> !(bif q.kind==1 then !(canG x.val).2 else false)) (fun k=>SCl2 w i q k) (fun k=>q.chg.length - k) [4,8,9,10,15,16,17] (by kernel_rfl) (fun k hk=>of_eq (nClb w i q k _ _ _) (cond_intro (fun hlt2=> ?_) fun hge2=> ?_)) 0 ⟨Nat.zero_le _,rfl⟩
  ·have hlt2:=ltI hlt2
   obtain ⟨_,hc⟩:=hk
   rw [all_drop hlt2] at hc
   rw [Int.toNat_natCast,add1 hlt2 hql]
   have hm2:q.chg.getD k default∈q.chg:=by
    rw [List.getD_eq_getElem?_getD,List.getElem?_eq_getElem hlt2]; exact List.getElem_mem hlt2
   have hxl:=hx _ hm2
   refine ⟨⟨by omega,by omega⟩,trivial,fun _=>PureW.mk (c28 _ (by omega)),cond_intro (fun h1=> ?_) fun h1=> ?_⟩
   ·rw [h1] at hc
    rw [he,hc]; exact Wk.refl _
   ·rw [h1] at hc
    exact Nx.mk (k+1) ⟨hlt2,hc⟩ (by omega)
  ·obtain ⟨_,hc⟩:=hk
   rw [List.drop_of_length_le (geI hge2)] at hc
   rw [hc] at he
   rw [add1 hlt hl]
   exact Nx.mk (i+1) ⟨hlt,he⟩ (by omega)
 ·rw [hi.2,List.drop_of_length_le (geI hge)]; exact Wk.refl _
theorem Does.args {f:Nat} {args args':List D} {h h':Heap} {v:D} (c:Does PP f args' h v h') (hw:Wks args args'):Does PP f args h v h':=fun K hk=>⟨(c K hk).ok,fun g U w vs i hs=>(c K hk).calls g U w vs i (hw g vs hs)⟩
theorem e21 (t:Int):Does PP 21 [I t] .empty (.bp 0 0) (hM (wA t) (-1) 0):=by
 refine du F21 (by kernel_rfl) (of_eq (nRi t _) ⟨Does.args (args':=[(wA t).d]) (fr (e14 (wA t)) [] []) ?_,RetLe.refl _ _⟩)
 refine Wks.cons (Wk.agg (Wks.cons (Wk.litW (l:=(wA t).sig) (enc:=Sig.d) rfl fun i hi=> ?_) (Wks.cons (Wk.nilL (α:=Iv) (sz':=2) (enc:=Iv.d)) (Wks.refl _)))) (Wks.refl _)
 rcases i with _ | i
 ·exact ⟨Wk.agg (Wks.cons (Wk.refl _) (Wks.cons (Wk.refl _) (Wks.cons (Wk.litL rfl rfl) (Wks.refl _)))),fun _=>rfl⟩
 ·exact absurd hi (by simp [wA])
theorem eSg {v w:Wv} (hv:SmOk v) (hw:SmOk w) (h40:v.fin≤40) (l m i k:Int) (t:Tol):Does PP 13 [memD,I i,mem1,I k,t.d] (hM2 v l 0 w m 0) (.tup [L (sgR v l 0 w m 0 i k t).out 2 Iv.d,I (sgR v l 0 w m 0 i k t).err]) (hM2 v l (sgR v l 0 w m 0 i k t).c w m (sgR v l 0 w m 0 i k t).d) :=
 e13 hv.of hw.of l 0 m 0 i k t (sg_zip hv hw h40 l m i k)
theorem smA5:smB (wA 5)=true:=by decide +kernel
theorem smA7:smB (wA 7)=true:=by decide +kernel
theorem sgA1:sgR (wA 5) (-1) 0 (wA 7) (-1) 0 0 0 ⟨1,[48],false⟩=⟨[⟨5,6⟩],0,6,5⟩:=by
 have h:=(sgR_sm (smB_ok smA5) (smB_ok smA7) (i:=0) (k:=0) (t:=⟨1,[48],false⟩) (by decide) (by decide +kernel) (-1) (-1)).1 ⟨.inl (by decide),.inl (by decide)⟩
 rw [h]
 have h1:outF (wA 5) (wA 7) 0 0 ⟨1,[48],false⟩=[⟨5,6⟩]:=by decide +kernel
 have h2:nA (wA 5) (wA 7) 0=6:=by decide +kernel
 have h3:nB (wA 5) (wA 7) 0=5:=by decide +kernel
 rw [h1,h2,h3]
theorem sgA2:sgR (wA 5) (-1) 0 (wA 7) (-1) 0 0 0 ⟨2,[48],false⟩=⟨[],0,6,5⟩:=by
 have h:=(sgR_sm (smB_ok smA5) (smB_ok smA7) (i:=0) (k:=0) (t:=⟨2,[48],false⟩) (by decide) (by decide +kernel) (-1) (-1)).1 ⟨.inl (by decide),.inl (by decide)⟩
 rw [h]
 have h1:outF (wA 5) (wA 7) 0 0 ⟨2,[48],false⟩=[]:=by decide +kernel
 have h2:nA (wA 5) (wA 7) 0=6:=by decide +kernel
 have h3:nB (wA 5) (wA 7) 0=5:=by decide +kernel
 rw [h1,h2,h3]
theorem c8:Pure PP 8 [] (B true):=by
 have h1:=eSg (smB_ok smA5) (smB_ok smA7) (by decide) (-1) (-1) 0 0 ⟨1,[48],false⟩
 have h2:=eSg (smB_ok smA5) (smB_ok smA7) (by decide) (-1) (-1) 0 0 ⟨2,[48],false⟩
 rw [sgA1] at h1
 rw [sgA2] at h2
 refine pu F8 (by kernel_rfl) (of_eq (nAwk _) ⟨e21 5,fr (e21 7) [] [],h1,fr (e21 5) [] [],fr (e21 7) [] [],fr h2 [2,3] [],fun _=>⟨Wks.cons (Wk.refl _) (Wks.cons (Wk.litW rfl fun i hi=> ?_) (Wks.refl _)),c16 _⟩,fun _=>⟨fun _=>PureW.mk c220,Wk.refl _⟩⟩)
 rcases i with _ | i
 ·exact ⟨Wk.refl _,fun _=>rfl⟩
 ·exact absurd hi (by simp)
end Go.Proofs.YtiekphbkomddfaaGreatDoor.S1
namespace Go.Proofs.YtiekphbkomddfaaGreatDoor.S1
open Go Go.Ab Go.Proofs
-- nolay
attribute [local instance] LT10
theorem few_sm {v w : Wv} {t : Tol} (h : fewB v w t = true) : smB v = true ∧ smB w = true ∧ v.fin ≤ 40 ∧ w.fin ≤ 40 := by
  unfold fewB at h
  cases h1 : smB v with
  | false => rw [h1] at h; cases h
  | true =>
    cases h2 : smB w with
    | false => rw [h1, h2] at h; cases h
    | true =>
      by_cases h3 : v.fin ≤ 40
      · by_cases h4 : w.fin ≤ 40
        · exact ⟨rfl, rfl, h3, h4⟩
        · rw [h1, h2, decide_eq_true h3, decide_eq_false h4] at h; cases h
      · rw [h1, h2, decide_eq_false h3] at h; cases h
theorem heap4 {bx:Nat→Option Row} {v w:Wv} {l m:Int} (h2:bx 2=some (rowM v l 0)) (h3:bx 3=some (rowM w m 0)):HeapLe ⟨bx,4,fun _=>none,0,fun _=>none⟩ (hM4 v l w m):=by
 refine ⟨fun k row' e=> ?_,Nat.le_refl _,fun _ _ h=>h,Nat.le_refl _,fun _ _ _=>VwLe.refl _ _,fun _ h=>h⟩
 rcases k with _ | _ | _ | _ | k
 ·cases e
 ·cases e
 ·cases e
  exact ⟨_,h2,RowLe.refl _⟩
 ·cases e
  exact ⟨_,h3,RowLe.refl _⟩
 ·cases e
theorem lrEnd {v w:Wv} (hv:SmOk v) (hw:SmOk w) (h40:v.fin≤40) {i k:Int} {t:Tol} (h:erF v w i k t=0) {l m n q:Int} (hn:0≤n)
  (hq:n.tmod 32≥q↔lOk l (nA v w i)∧lOk m (nB v w k)) :
  At (En Tryz.f7) (fi Tryz.f7 fun d=>Wk d (B true)) [.code [1,1,1,1,1,1,1,1,0],.code [1,1,1,1,1,1,1,1,1]] (SLRj v l w m i k t.time t.val t.unk n (outF v w i k t) q):=by
 have hkm:IntKind.wrap .i64 (n.tmod 32)=n.tmod 32:=IntWalk.i64_in _ ⟨by have:=Int.tmod_lt_of_pos n (show (0:Int) < 32 by omega); have:=Int.tmod_nonneg 32 hn; omega,by have:=Int.tmod_lt_of_pos n (show (0:Int) < 32 by omega); omega⟩
 refine runS_sound hmix _ _ _ (of_eq (nLRc v w l m i k t.time t.val t.unk n _ q _) ⟨fr (eSg hv hw h40 l m i k t) [2,3] [],by decide,?_⟩)
 rw [hkm]
 obtain ⟨y,x⟩:=sgR_sm hv hw h40 h l m
 refine cond_intro (fun hc=> ?_) fun hc=> ?_
 ·rw [y (hq.1 (of_decide_eq_true hc))]
  exact ⟨fun _=>PureW.mk (c16 _),fun _=>PureW.mk c8,Wk.refl _⟩
 ·obtain ⟨x1,x2⟩:=x (fun g=>of_decide_eq_false hc (hq.2 g))
  rw [x1,x2]
  exact fun _=>⟨fun _=>PureW.mk c8,Wk.refl _⟩
theorem c7 (v w:Wv) (i k:Int) (t:Tol) (n:Int) (hn:0≤n) (sec:Bool):Pure PP 7 [v.d,w.d,I i,I k,t.d,.int .u8 n,B sec] (B true):=by
 have hf:(!!fewB v w t)=true→fewB v w t=true:=fun h=>by simpa using h
 refine pu F7 (by kernel_rfl) (of_eq (nLRa v w i k t n sec _) ⟨PureW.mk (c11 v w t),fun h=>PureW.mk (c12 v (few_sm (hf h)).1),fun h=> ?_,cond_intro (fun _=>⟨PureW.mk c8,Wk.refl _⟩) fun h=> ?_⟩)
 ·cases hb:fewB v w t with
  | false=>rw [hb] at h; cases h
  | true=>exact PureW.mk (c12 w (few_sm hb).2.1)
 have hb:fewB v w t=true:=by
  cases hb:fewB v w t with
  | false=>rw [hb] at h; cases h
  | true=>rfl
 obtain ⟨s1,s2,h40,_⟩:=few_sm hb
 have hv:=smB_ok s1
 have hw:=smB_ok s2
 refine ⟨e14 v,fr (e14 w) [] [],eSg hv hw h40 (-1) (-1) i k t,?_⟩
 by_cases hz:erF v w i k t=0
 ·rw [(sgR_sm hv hw h40 hz (-1) (-1)).1 ⟨.inl (by decide),.inl (by decide)⟩]
  refine cond_intro (fun h=>(by cases h)) fun _=> ?_
  have hA:2≤nA v w i:=by have:=ofN_ge (w:=v) i (minE v w); unfold nA; split <;> omega
  have hB:2≤nB v w k:=by have:=ofN_ge (w:=w) k (minE v w); unfold nB; split <;> omega
  have hl0:0≤n.tmod 32:=Int.tmod_nonneg 32 hn
  have hkm:IntKind.wrap .i64 (n.tmod 32)=n.tmod 32:=IntWalk.i64_in _ ⟨by have:=Int.tmod_lt_of_pos n (show (0:Int) < 32 by omega); omega,by have:=Int.tmod_lt_of_pos n (show (0:Int) < 32 by omega); omega⟩
  refine at_le (st':=SLR v (nA v w i) w (nB v w k) i k t.time t.val t.unk n sec (outF v w i k t)) ?_ ((StLe.refl _ _).cast (by kernel_rfl))
  refine runS_sound hmix _ _ _ (of_eq (nLRb v w _ _ i k t.time t.val t.unk n sec _ _) ⟨fr (e14 v) [] [],fr (e14 w) [] [],cond_intro (fun hs=>⟨by decide,trivial,?_⟩) fun hs=>⟨by decide,trivial,?_⟩⟩)
  ·rw [hkm]
   refine at_le (st':=SLRj v (-1) w (n.tmod 32) i k t.time t.val t.unk n (outF v w i k t) (nB v w k)) (lrEnd hv hw h40 hz hn ?_) (StLe.heapLe (heap4 rfl rfl))
   unfold lOk; omega
  ·rw [hkm]
   refine at_le (st':=SLRj v (n.tmod 32) w (-1) i k t.time t.val t.unk n (outF v w i k t) (nA v w i)) (lrEnd hv hw h40 hz hn ?_) (StLe.heapLe (heap4 rfl rfl))
   unfold lOk; omega
 ·obtain ⟨x1,x2⟩:=sgR_er hz
  rw [x1,x2]
  refine cond_intro (fun _ _=>⟨fun _=>PureW.mk c8,Wk.refl _⟩) fun h=> ?_
  exact absurd (by simpa using h) hz
end Go.Proofs.YtiekphbkomddfaaGreatDoor.S1
namespace Go.Proofs.YtiekphbkomddfaaGreatDoor.S1
open Go Go.Ab Go.Proofs
open Go.ChangeShapes Go.WideShapes Go.ChangeAt Go.RowKit Go.Joins
-- nolay
theorem cB:Tryz.prog.cellsOf 4=1:=by kernel_rfl
theorem cTol:Tryz.prog.cellsOf 23=3:=by kernel_rfl
theorem rB:Reads Tryz.prog 4 (fun n:Bool=>B n) any:=(Reads.bool Tryz.underlying4 cB).map (fun n=>n) (fun _=>rfl) (fun n=>⟨n,rfl⟩) fun _ _=>trivial
theorem rTol:Reads Tryz.prog 23 Tol.d any:=by
 refine (Reads.struct (ok:=any) Tryz.underlying23 ?_).map (fun x:Int × Str × Bool × Unit=>(⟨x.1,x.2.1,x.2.2.1⟩:Tol)) (fun _=>rfl) (fun b=>⟨(b.time,b.val,b.unk,()),rfl⟩) fun _ _=>trivial
 rw [cTol]
 exact rc rI (rc rStr (rc rB rn rfl rfl (by rw [cB])) rfl rfl (by rw [cStr])) rfl rfl (by rw [cI])
end Go.Proofs.YtiekphbkomddfaaGreatDoor.S1
