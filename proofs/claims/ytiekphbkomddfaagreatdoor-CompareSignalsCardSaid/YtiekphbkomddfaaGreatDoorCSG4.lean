/- Decimals: scanning, parts. -/
import Derived.Test.YtiekphbkomddfaaGreatDoorCSG3
import Derived.Lib.Bytealg
import Derived.Lib.BytesEntry
import Derived.Ground.GgsProg
import Derived.Shelf.GgSortFunc.Tiny
import Derived.Shelf.SlSortFuncK.WholeK
import Derived.Deep.QuietTactic
namespace Go.Proofs.YtiekphbkomddfaaGreatDoor.S1
open Go Go.Ab Go.Proofs
def qf3(q:Str)(a:Int)(n:Nat):Heap:=⟨upd (upd (fun _=>none) 0 (some (.lit [.str q]))) 1 (some (.lit [I a])),2,upd (fun _=>none) 0 (some n),1,fun _=>none⟩
theorem F66:OkF 66 Tryz.f66:=⟨by kernel_rfl,by kernel_rfl,by kernel_rfl⟩
def q1n:List (List Nat×List Nat):=[([1,1,1,1,1,1,1,1,1,1,1,0,1,0,1,1,1,1,1,0,1,0],[1,2,4,5,10,12,66,67,68])]
abbrev qep:D:= .clo 118 [.bp 1 0,.bp 0 0]
abbrev ip:D:= .clo 119 [.bp 1 0,.bp 0 0]
abbrev ut:D:= .list 0 0 (fun _=> .junk) .full
noncomputable def q1o:List (List Nat×List Nat):=[([1,1,1,1,1,1],[1,2,4,5,6,7])]
noncomputable def qta:List Nat->Nat->Option Ans:=qf []
theorem q1p[Lay](q:Str)(K:D->Heap->Prop):qn (EnX [1,5] Tryz.f66) (fh Tryz.f66 K) (qta ) q1o 200 [.code []] ⟨qc 0 [.str q],.empty⟩ =
 (True/\(List.length q<=jt->bif decide ((↑(List.length q):Int) > 64) then True/\K (.tup [.agg [B false,.list 0 0 (fun _=>D.junk) .full,I 0],B false]) {box:=upd (fun _=>none) 0 (some (Row.lit [.str q])),nl:=1,hw:=fun _=>none,nt:=0,vw:=fun _=>none:Heap} else True/\True/\At (EnX [1,5] Tryz.f66) (fh Tryz.f66 K) [It.code [1,1,1,1,1,1]] {sl:=[(1,D.bp 0 0),(2,.own [B false,.list 0 0 (fun _=>D.junk) .full,I 0]),(4,.own [B false,.list 0 0 (fun _=>D.junk) .full,I 0]),(5,D.bp 1 0),(6,D.clo 118 [D.bp 1 0,D.bp 0 0]),(7,D.clo 119 [D.bp 1 0,D.bp 0 0])],h:={box:=upd (upd (upd (fun _=>none) 0 (some (Row.lit [.str q]))) 1 (some (Row.lit [I 0]))) 1 (some (Row.lit [I 0])),nl:=2,hw:=fun _=>none,nt:=0,vw:=fun _=>none:Heap}:St})):=by kernel_rfl
noncomputable def qtb:List (List Nat×List Nat):=[([1,1,1,1,1,1,1],[1,2,4,5,6,7])]
noncomputable def qpn(q:Str):List Nat->Nat->Option Ans:=qf [([1,1,1,1,1,1,0,0],1,Ans.eff (B (ge {data:= #[45]:ByteArray}.data.toList q 0)) (hSc q (j9 {data:= #[45]:ByteArray}.data.toList q 0))),([1,1,1,1,1,1,0,1,1],1,Ans.eff (B (ge {data:= #[43]:ByteArray}.data.toList q (j9 {data:= #[45]:ByteArray}.data.toList q 0))) (hSc q (j9 {data:= #[43]:ByteArray}.data.toList q (j9 {data:= #[45]:ByteArray}.data.toList q 0))))]
theorem qtc[Lay](q:Str)(K:D->Heap->Prop):qn (EnX [1,5] Tryz.f66) (fh Tryz.f66 K) (qpn q) qtb 200 [.code [1,1,1,1,1,1]] ⟨[(1,.bp 0 0),(2,.own [B false,ut,I 0]),(4,.own [B false,ut,I 0]),(5,.bp 1 0),(6,qep),(7,ip)],hSc q 0⟩ =
 (Does PP 118 [.str {data:= #[45]:ByteArray}.data.toList,D.bp 1 0,D.bp 0 0] {box:=upd (upd (fun _=>none) 0 (some (Row.lit [.str q]))) 1 (some (Row.lit [I 0])),nl:=2,hw:=fun _=>none,nt:=0,vw:=fun _=>none:Heap} (B (ge {data:= #[45]:ByteArray}.data.toList q 0)) (hSc q (j9 {data:= #[45]:ByteArray}.data.toList q 0))/\
 bif ge {data:= #[45]:ByteArray}.data.toList q 0 then True/\At (EnX [1,5] Tryz.f66) (fh Tryz.f66 K) [It.code [1,1,1,1,1,1,1]] {sl:=[(1,D.bp 0 0),(2,.own [B false,ut,I 0]),(4,.own [B true,ut,I 0]),(5,D.bp 1 0),(6,qep),(7,ip)],h:={box:=upd (upd (fun _=>none) 0 (some (Row.lit [.str q]))) 1 (some (Row.lit [I (j9 {data:= #[45]:ByteArray}.data.toList q 0)])),nl:=2,hw:=fun _=>none,nt:=0,vw:=fun _=>none:Heap}:St} else Does PP 118 [.str {data:= #[43]:ByteArray}.data.toList,D.bp 1 0,D.bp 0 0] {box:=upd (upd (fun _=>none) 0 (some (Row.lit [.str q]))) 1 (some (Row.lit [I (j9 {data:= #[45]:ByteArray}.data.toList q 0)])),nl:=2,hw:=fun _=>none,nt:=0,vw:=fun _=>none:Heap} (B (ge {data:= #[43]:ByteArray}.data.toList q (j9 {data:= #[45]:ByteArray}.data.toList q 0))) (hSc q (j9 {data:= #[43]:ByteArray}.data.toList q (j9 {data:= #[45]:ByteArray}.data.toList q 0)))/\At (EnX [1,5] Tryz.f66) (fh Tryz.f66 K) [It.code [1,1,1,1,1,1,1]] {sl:=[(1,D.bp 0 0),(2,.own [B false,ut,I 0]),(4,.own [B false,ut,I 0]),(5,D.bp 1 0),(6,qep),(7,ip)],h:={box:=upd (upd (fun _=>none) 0 (some (Row.lit [.str q]))) 1 (some (Row.lit [I (j9 {data:= #[43]:ByteArray}.data.toList q (j9 {data:= #[45]:ByteArray}.data.toList q 0))])),nl:=2,hw:=fun _=>none,nt:=0,vw:=fun _=>none:Heap}:St}):=by kernel_rfl
noncomputable def q1q:List (List Nat×List Nat):=[([1,1,1,1,1,1,1,1,1,1],[1,2,4,5,6,7])]
noncomputable def qtd(q:Str)(a:Int):List Nat->Nat->Option Ans:=qf [([1,1,1,1,1,1,1,0],1,Ans.eff (.str (qi (List.drop a.toNat q)).fst) (hSc q (a+(↑(List.length (qi (List.drop a.toNat q)).fst):Int))))]
theorem q1r[Lay](q:Str)(a:Int)(ng:Bool)(K:D->Heap->Prop):qn (EnX [1,5] Tryz.f66) (fh Tryz.f66 K) (qtd q a) q1q 200 [.code [1,1,1,1,1,1,1]] ⟨[(1,.bp 0 0),(2,.own [B false,ut,I 0]),(4,.own [B ng,ut,I 0]),(5,.bp 1 0),(6,qep),(7,ip)],hSc q a⟩ =
 (Does PP 119 [D.bp 1 0,D.bp 0 0] {box:=upd (upd (fun _=>none) 0 (some (Row.lit [.str q]))) 1 (some (Row.lit [I a])),nl:=2,hw:=fun _=>none,nt:=0,vw:=fun _=>none:Heap} (.str (qi (List.drop a.toNat q)).fst) (hSc q (a+(↑(List.length (qi (List.drop a.toNat q)).fst):Int)))/\bif(qi (List.drop a.toNat q)).fst=={data:= #[]:ByteArray}.data.toList then True/\K (.tup [.agg [B ng,ut,I 0],B false]) {box:=upd (upd (fun _=>none) 0 (some (Row.lit [.str q]))) 1 (some (Row.lit [I (a+(↑(List.length (qi (List.drop a.toNat q)).fst):Int))])),nl:=2,hw:=fun _=>none,nt:=0,vw:=fun _=>none:Heap} else(0+List.length (qi (List.drop a.toNat q)).fst)*1<=q7/\True/\At (EnX [1,5] Tryz.f66) (fh Tryz.f66 K) [It.code [1,1,1,1,1,1,1,1,1,1]] {sl:=[(1,D.bp 0 0),(2,.own [B false,ut,I 0]),(4,.own [B ng,.list (0+List.length (qi (List.drop a.toNat q)).fst) 1 (zo 0 (fun _=>D.junk) (qjc (qi (List.drop a.toNat q)).fst)) (.tok 0 1),I 0]),(5,D.bp 1 0),(6,qep),(7,ip)],h:={box:=upd (upd (fun _=>none) 0 (some (Row.lit [.str q]))) 1 (some (Row.lit [I (a+(↑(List.length (qi (List.drop a.toNat q)).fst):Int))])),nl:=2,hw:=upd (fun _=>none) 0 (some (0+List.length (qi (List.drop a.toNat q)).fst)),nt:=1,vw:=fun _=>none:Heap}:St}):=by kernel_rfl
noncomputable def q1s:List (List Nat×List Nat):=[([1,1,1,1,1,1,1,1,1,1,1],[1,2,4,5,6,7])]
noncomputable def qte(q:Str)(wh:Str)(a:Int):List Nat->Nat->Option Ans:=qf [([1,1,1,1,1,1,1,1,1,1,0,0],1,Ans.eff (ren (rnm [0,1] 2) (rnm [] 1) (B (ge {data:= #[46]:ByteArray}.data.toList q a))) (qh [0,1] [] {box:=upd (upd (fun _=>none) 0 (some (Row.lit [.str q]))) 1 (some (Row.lit [I a])),nl:=2,hw:=upd (fun _=>none) 0 (some (List.length wh)),nt:=1,vw:=fun _=>none:Heap} (hSc q (j9 {data:= #[46]:ByteArray}.data.toList q a)))),([1,1,1,1,1,1,1,1,1,1,0,1,0,0],1,Ans.eff (ren (rnm [0,1] 2) (rnm [] 1) (.str (qi (List.drop (j9 {data:= #[46]:ByteArray}.data.toList q a).toNat q)).fst)) (qh [0,1] [] {box:=upd (upd (upd (upd (fun _=>none) 0 (some (Row.lit [.str q]))) 1 (some (Row.lit [I a]))) 0 (some (Row.lit [.str q]))) 1 (some (Row.lit [I (j9 {data:= #[46]:ByteArray}.data.toList q a)])),nl:=2,hw:=upd (fun _=>none) 0 (some (List.length wh)),nt:=1,vw:=fun _=>none:Heap} (hSc q (j9 {data:= #[46]:ByteArray}.data.toList q a+(↑(List.length (qi (List.drop (j9 {data:= #[46]:ByteArray}.data.toList q a).toNat q)).fst):Int)))))]
theorem q1t[Lay](q wh:Str)(a:Int)(ng:Bool)(K:D->Heap->Prop):qn (EnX [1,5] Tryz.f66) (fh Tryz.f66 K) (qte q wh a) q1s 200 [.code [1,1,1,1,1,1,1,1,1,1]] ⟨[(1,.bp 0 0),(2,.own [B false,ut,I 0]),(4,.own [B ng,LT wh 1 qk 0,I 0]),(5,.bp 1 0),(6,qep),(7,ip)],qf3 q a wh.length⟩ =
 (Does PP 118 [.str {data:= #[46]:ByteArray}.data.toList,D.bp 1 0,D.bp 0 0] {box:=upd (upd (fun _=>none) 0 (some (Row.lit [.str q]))) 1 (some (Row.lit [I a])),nl:=2,hw:=upd (fun _=>none) 0 (some (List.length wh)),nt:=1,vw:=fun _=>none:Heap} (ren (rnm [0,1] 2) (rnm [] 1) (B (ge {data:= #[46]:ByteArray}.data.toList q a))) (qh [0,1] [] {box:=upd (upd (fun _=>none) 0 (some (Row.lit [.str q]))) 1 (some (Row.lit [I a])),nl:=2,hw:=upd (fun _=>none) 0 (some (List.length wh)),nt:=1,vw:=fun _=>none:Heap} (hSc q (j9 {data:= #[46]:ByteArray}.data.toList q a)))/\
 bif ge {data:= #[46]:ByteArray}.data.toList q a then
  Does PP 119 [D.bp 1 0,D.bp 0 0] {box:=upd (upd (upd (upd (fun _=>none) 0 (some (Row.lit [.str q]))) 1 (some (Row.lit [I a]))) 0 (some (Row.lit [.str q]))) 1 (some (Row.lit [I (j9 {data:= #[46]:ByteArray}.data.toList q a)])),nl:=2,hw:=upd (fun _=>none) 0 (some (List.length wh)),nt:=1,vw:=fun _=>none:Heap} (ren (rnm [0,1] 2) (rnm [] 1) (.str (qi (List.drop (j9 {data:= #[46]:ByteArray}.data.toList q a).toNat q)).fst)) (qh [0,1] [] {box:=upd (upd (upd (upd (fun _=>none) 0 (some (Row.lit [.str q]))) 1 (some (Row.lit [I a]))) 0 (some (Row.lit [.str q]))) 1 (some (Row.lit [I (j9 {data:= #[46]:ByteArray}.data.toList q a)])),nl:=2,hw:=upd (fun _=>none) 0 (some (List.length wh)),nt:=1,vw:=fun _=>none:Heap} (hSc q (j9 {data:= #[46]:ByteArray}.data.toList q a+(↑(List.length (qi (List.drop (j9 {data:= #[46]:ByteArray}.data.toList q a).toNat q)).fst):Int))))/\
   bif(qi (List.drop (j9 {data:= #[46]:ByteArray}.data.toList q a).toNat q)).fst=={data:= #[]:ByteArray}.data.toList then True/\K (.tup [.agg [B ng,.list (List.length wh) 1 (fun i=>qk (List.getD wh i default)) (.tok 0 1),I 0],B false]) {box:=upd (upd (upd (upd (upd (upd (fun _=>none) 0 (some (Row.lit [.str q]))) 1 (some (Row.lit [I a]))) 0 (some (Row.lit [.str q]))) 1 (some (Row.lit [I (j9 {data:= #[46]:ByteArray}.data.toList q a)]))) 0 (some (Row.lit [.str q]))) 1 (some (Row.lit [I (j9 {data:= #[46]:ByteArray}.data.toList q a+(↑(List.length (qi (List.drop (j9 {data:= #[46]:ByteArray}.data.toList q a).toNat q)).fst):Int))])),nl:=2,hw:=upd (fun _=>none) 0 (some (List.length wh)),nt:=1,vw:=fun _=>none:Heap}
   else(qd8 (upd (fun _=>none) 0 (some (List.length wh))) (rnm [] 1) (fun _=>none) 0 0=some (List.length wh)/\(List.length wh+List.length (qi (List.drop (j9 {data:= #[46]:ByteArray}.data.toList q a).toNat q)).fst)*1<=q7)/\True/\(List.length (qi (List.drop (j9 {data:= #[46]:ByteArray}.data.toList q a).toNat q)).fst<=jt->True/\At (EnX [1,5] Tryz.f66) (fh Tryz.f66 K) [It.code [1,1,1,1,1,1,1,1,1,1,1]] {sl:=[(1,D.bp 0 0),(2,.own [B false,ut,I 0]),(4,.own [B ng,.list (List.length wh+List.length (qi (List.drop (j9 {data:= #[46]:ByteArray}.data.toList q a).toNat q)).fst) 1 (zo (List.length wh) (fun i=>qk (List.getD wh i default)) (qjc (qi (List.drop (j9 {data:= #[46]:ByteArray}.data.toList q a).toNat q)).fst)) (.tok 0 1),I (qj .i64 0 (↑(List.length (qi (List.drop (j9 {data:= #[46]:ByteArray}.data.toList q a).toNat q)).fst):Int))]),(5,D.bp 1 0),(6,qep),(7,ip)],h:={box:=upd (upd (upd (upd (upd (upd (fun _=>none) 0 (some (Row.lit [.str q]))) 1 (some (Row.lit [I a]))) 0 (some (Row.lit [.str q]))) 1 (some (Row.lit [I (j9 {data:= #[46]:ByteArray}.data.toList q a)]))) 0 (some (Row.lit [.str q]))) 1 (some (Row.lit [I (j9 {data:= #[46]:ByteArray}.data.toList q a+(↑(List.length (qi (List.drop (j9 {data:= #[46]:ByteArray}.data.toList q a).toNat q)).fst):Int))])),nl:=2,hw:=upd (upd (fun _=>none) 0 (some (List.length wh))) 0 (some (List.length wh+List.length (qi (List.drop (j9 {data:= #[46]:ByteArray}.data.toList q a).toNat q)).fst)),nt:=1,vw:=fun _=>none:Heap}:St})
 else At (EnX [1,5] Tryz.f66) (fh Tryz.f66 K) [It.code [1,1,1,1,1,1,1,1,1,1,1]] {sl:=[(1,D.bp 0 0),(2,.own [B false,ut,I 0]),(4,.own [B ng,.list (List.length wh) 1 (fun i=>qk (List.getD wh i default)) (.tok 0 1),I 0]),(5,D.bp 1 0),(6,qep),(7,ip)],h:={box:=upd (upd (upd (upd (fun _=>none) 0 (some (Row.lit [.str q]))) 1 (some (Row.lit [I a]))) 0 (some (Row.lit [.str q]))) 1 (some (Row.lit [I (j9 {data:= #[46]:ByteArray}.data.toList q a)])),nl:=2,hw:=upd (fun _=>none) 0 (some (List.length wh)),nt:=1,vw:=fun _=>none:Heap}:St}):=by kernel_rfl
noncomputable def q1u:List (List Nat×List Nat):=[([1,1,1,1,1,1,1,1,1,1,1,1],[1,2,4,5]),([1,1,1,1,1,1,1,1,1,1,1,0,1,0],[1,2,4,5,6,7])]
noncomputable def qtf(q:Str)(dg:Str)(a:Int):List Nat->Nat->Option Ans:=qf [([1,1,1,1,1,1,1,1,1,1,1,0,0],1,Ans.eff (ren (rnm [0,1] 2) (rnm [] 1) (B (ge {data:= #[101,69]:ByteArray}.data.toList q a))) (qh [0,1] [] {box:=upd (upd (fun _=>none) 0 (some (Row.lit [.str q]))) 1 (some (Row.lit [I a])),nl:=2,hw:=upd (fun _=>none) 0 (some (List.length dg)),nt:=1,vw:=fun _=>none:Heap} (hSc q (j9 {data:= #[101,69]:ByteArray}.data.toList q a))))]
theorem q1v[Lay](q dg:Str)(a x:Int)(ng:Bool)(K:D->Heap->Prop):qn (EnX [1,5] Tryz.f66) (fh Tryz.f66 K) (qtf q dg a) q1u 200 [.code [1,1,1,1,1,1,1,1,1,1,1]] ⟨[(1,.bp 0 0),(2,.own [B false,ut,I 0]),(4,.own [B ng,LT dg 1 qk 0,I x]),(5,.bp 1 0),(6,qep),(7,ip)],qf3 q a dg.length⟩ =
 (Does PP 118 [.str {data:= #[101,69]:ByteArray}.data.toList,D.bp 1 0,D.bp 0 0] {box:=upd (upd (fun _=>none) 0 (some (Row.lit [.str q]))) 1 (some (Row.lit [I a])),nl:=2,hw:=upd (fun _=>none) 0 (some (List.length dg)),nt:=1,vw:=fun _=>none:Heap} (ren (rnm [0,1] 2) (rnm [] 1) (B (ge {data:= #[101,69]:ByteArray}.data.toList q a))) (qh [0,1] [] {box:=upd (upd (fun _=>none) 0 (some (Row.lit [.str q]))) 1 (some (Row.lit [I a])),nl:=2,hw:=upd (fun _=>none) 0 (some (List.length dg)),nt:=1,vw:=fun _=>none:Heap} (hSc q (j9 {data:= #[101,69]:ByteArray}.data.toList q a)))/\
 bif ge {data:= #[101,69]:ByteArray}.data.toList q a then At (EnX [1,5] Tryz.f66) (fh Tryz.f66 K) [It.code [1,1,1,1,1,1,1,1,1,1,1,0,1,0],It.code [1,1,1,1,1,1,1,1,1,1,1,1]] {sl:=[(1,D.bp 0 0),(2,.own [B false,ut,I 0]),(4,.own [B ng,.list (List.length dg) 1 (fun i=>qk (List.getD dg i default)) (.tok 0 1),I x]),(5,D.bp 1 0),(6,qep),(7,ip)],h:={box:=upd (upd (upd (upd (fun _=>none) 0 (some (Row.lit [.str q]))) 1 (some (Row.lit [I a]))) 0 (some (Row.lit [.str q]))) 1 (some (Row.lit [I (j9 {data:= #[101,69]:ByteArray}.data.toList q a)])),nl:=2,hw:=upd (fun _=>none) 0 (some (List.length dg)),nt:=1,vw:=fun _=>none:Heap}:St} else At (EnX [1,5] Tryz.f66) (fh Tryz.f66 K) [It.code [1,1,1,1,1,1,1,1,1,1,1,1]] {sl:=[(1,D.bp 0 0),(2,.own [B false,ut,I 0]),(4,.own [B ng,.list (List.length dg) 1 (fun i=>qk (List.getD dg i default)) (.tok 0 1),I x]),(5,D.bp 1 0)],h:={box:=upd (upd (upd (upd (fun _=>none) 0 (some (Row.lit [.str q]))) 1 (some (Row.lit [I a]))) 0 (some (Row.lit [.str q]))) 1 (some (Row.lit [I (j9 {data:= #[101,69]:ByteArray}.data.toList q a)])),nl:=2,hw:=upd (fun _=>none) 0 (some (List.length dg)),nt:=1,vw:=fun _=>none:Heap}:St}):=by kernel_rfl
noncomputable def qtg:List (List Nat×List Nat):=[([1,1,1,1,1,1,1,1,1,1,1,0,1,0,1,1],[1,2,4,5,7,10])]
noncomputable def qpo(q:Str)(dg:Str)(a:Int):List Nat->Nat->Option Ans:=qf [([1,1,1,1,1,1,1,1,1,1,1,0,1,0,0],1,Ans.eff (ren (rnm [0,1] 2) (rnm [] 1) (B (ge {data:= #[45]:ByteArray}.data.toList q a))) (qh [0,1] [] {box:=upd (upd (fun _=>none) 0 (some (Row.lit [.str q]))) 1 (some (Row.lit [I a])),nl:=2,hw:=upd (fun _=>none) 0 (some (List.length dg)),nt:=1,vw:=fun _=>none:Heap} (hSc q (j9 {data:= #[45]:ByteArray}.data.toList q a)))),([1,1,1,1,1,1,1,1,1,1,1,0,1,0,1,0,1,0],1,Ans.eff (ren (rnm [0,1] 2) (rnm [] 1) (B (ge {data:= #[43]:ByteArray}.data.toList q (j9 {data:= #[45]:ByteArray}.data.toList q a)))) (qh [0,1] [] {box:=upd (upd (upd (upd (fun _=>none) 0 (some (Row.lit [.str q]))) 1 (some (Row.lit [I a]))) 0 (some (Row.lit [.str q]))) 1 (some (Row.lit [I (j9 {data:= #[45]:ByteArray}.data.toList q a)])),nl:=2,hw:=upd (fun _=>none) 0 (some (List.length dg)),nt:=1,vw:=fun _=>none:Heap} (hSc q (j9 {data:= #[43]:ByteArray}.data.toList q (j9 {data:= #[45]:ByteArray}.data.toList q a)))))]
theorem qth[Lay](q dg:Str)(a x:Int)(ng:Bool)(K:D->Heap->Prop):qn (EnX [1,5] Tryz.f66) (fh Tryz.f66 K) (qpo q dg a) qtg 200 [.code [1,1,1,1,1,1,1,1,1,1,1,0,1,0],.code [1,1,1,1,1,1,1,1,1,1,1,1]] ⟨[(1,.bp 0 0),(2,.own [B false,ut,I 0]),(4,.own [B ng,LT dg 1 qk 0,I x]),(5,.bp 1 0),(6,qep),(7,ip)],qf3 q a dg.length⟩ =
 (Does PP 118 [.str {data:= #[45]:ByteArray}.data.toList,D.bp 1 0,D.bp 0 0] {box:=upd (upd (fun _=>none) 0 (some (Row.lit [.str q]))) 1 (some (Row.lit [I a])),nl:=2,hw:=upd (fun _=>none) 0 (some (List.length dg)),nt:=1,vw:=fun _=>none:Heap} (ren (rnm [0,1] 2) (rnm [] 1) (B (ge {data:= #[45]:ByteArray}.data.toList q a))) (qh [0,1] [] {box:=upd (upd (fun _=>none) 0 (some (Row.lit [.str q]))) 1 (some (Row.lit [I a])),nl:=2,hw:=upd (fun _=>none) 0 (some (List.length dg)),nt:=1,vw:=fun _=>none:Heap} (hSc q (j9 {data:= #[45]:ByteArray}.data.toList q a)))/\
 bif !ge {data:= #[45]:ByteArray}.data.toList q a then
  Does PP 118 [.str {data:= #[43]:ByteArray}.data.toList,D.bp 1 0,D.bp 0 0] {box:=upd (upd (upd (upd (fun _=>none) 0 (some (Row.lit [.str q]))) 1 (some (Row.lit [I a]))) 0 (some (Row.lit [.str q]))) 1 (some (Row.lit [I (j9 {data:= #[45]:ByteArray}.data.toList q a)])),nl:=2,hw:=upd (fun _=>none) 0 (some (List.length dg)),nt:=1,vw:=fun _=>none:Heap} (ren (rnm [0,1] 2) (rnm [] 1) (B (ge {data:= #[43]:ByteArray}.data.toList q (j9 {data:= #[45]:ByteArray}.data.toList q a)))) (qh [0,1] [] {box:=upd (upd (upd (upd (fun _=>none) 0 (some (Row.lit [.str q]))) 1 (some (Row.lit [I a]))) 0 (some (Row.lit [.str q]))) 1 (some (Row.lit [I (j9 {data:= #[45]:ByteArray}.data.toList q a)])),nl:=2,hw:=upd (fun _=>none) 0 (some (List.length dg)),nt:=1,vw:=fun _=>none:Heap} (hSc q (j9 {data:= #[43]:ByteArray}.data.toList q (j9 {data:= #[45]:ByteArray}.data.toList q a))))/\
   At (EnX [1,5] Tryz.f66) (fh Tryz.f66 K) [It.code [1,1,1,1,1,1,1,1,1,1,1,0,1,0,1,1],It.code [1,1,1,1,1,1,1,1,1,1,1,1]] {sl:=[(1,D.bp 0 0),(2,.own [B false,ut,I 0]),(4,.own [B ng,.list (List.length dg) 1 (fun i=>qk (List.getD dg i default)) (.tok 0 1),I x]),(5,D.bp 1 0),(7,ip),(10,B (ge {data:= #[45]:ByteArray}.data.toList q a))],h:={box:=upd (upd (upd (upd (upd (upd (fun _=>none) 0 (some (Row.lit [.str q]))) 1 (some (Row.lit [I a]))) 0 (some (Row.lit [.str q]))) 1 (some (Row.lit [I (j9 {data:= #[45]:ByteArray}.data.toList q a)]))) 0 (some (Row.lit [.str q]))) 1 (some (Row.lit [I (j9 {data:= #[43]:ByteArray}.data.toList q (j9 {data:= #[45]:ByteArray}.data.toList q a))])),nl:=2,hw:=upd (fun _=>none) 0 (some (List.length dg)),nt:=1,vw:=fun _=>none:Heap}:St}
 else At (EnX [1,5] Tryz.f66) (fh Tryz.f66 K) [It.code [1,1,1,1,1,1,1,1,1,1,1,0,1,0,1,1],It.code [1,1,1,1,1,1,1,1,1,1,1,1]] {sl:=[(1,D.bp 0 0),(2,.own [B false,ut,I 0]),(4,.own [B ng,.list (List.length dg) 1 (fun i=>qk (List.getD dg i default)) (.tok 0 1),I x]),(5,D.bp 1 0),(7,ip),(10,B (ge {data:= #[45]:ByteArray}.data.toList q a))],h:={box:=upd (upd (upd (upd (fun _=>none) 0 (some (Row.lit [.str q]))) 1 (some (Row.lit [I a]))) 0 (some (Row.lit [.str q]))) 1 (some (Row.lit [I (j9 {data:= #[45]:ByteArray}.data.toList q a)])),nl:=2,hw:=upd (fun _=>none) 0 (some (List.length dg)),nt:=1,vw:=fun _=>none:Heap}:St}):=by kernel_rfl
noncomputable def qx5:List (List Nat×List Nat):=q1n++[([1,1,1,1,1,1,1,1,1,1,1,1],[1,2,4,5])]
noncomputable def qti(q:Str)(dg:Str)(a:Int):List Nat->Nat->Option Ans:=qf [([1,1,1,1,1,1,1,1,1,1,1,0,1,0,1,1,0],1,Ans.eff (ren (rnm [0,1] 2) (rnm [] 1) (.str (qi (List.drop a.toNat q)).fst)) (qh [0,1] [] {box:=upd (upd (fun _=>none) 0 (some (Row.lit [.str q]))) 1 (some (Row.lit [I a])),nl:=2,hw:=upd (fun _=>none) 0 (some (List.length dg)),nt:=1,vw:=fun _=>none:Heap} (hSc q (a+(↑(List.length (qi (List.drop a.toNat q)).fst):Int)))))]
theorem q1w[Lay](q dg:Str)(a x:Int)(ng en:Bool)(K:D->Heap->Prop):qn (EnX [1,5] Tryz.f66) (fh Tryz.f66 K) (qti q dg a) qx5 200 [.code [1,1,1,1,1,1,1,1,1,1,1,0,1,0,1,1],.code [1,1,1,1,1,1,1,1,1,1,1,1]] ⟨[(1,.bp 0 0),(2,.own [B false,ut,I 0]),(4,.own [B ng,LT dg 1 qk 0,I x]),(5,.bp 1 0),(7,ip),(10,B en)],qf3 q a dg.length⟩ =
 (Does PP 119 [D.bp 1 0,D.bp 0 0] {box:=upd (upd (fun _=>none) 0 (some (Row.lit [.str q]))) 1 (some (Row.lit [I a])),nl:=2,hw:=upd (fun _=>none) 0 (some (List.length dg)),nt:=1,vw:=fun _=>none:Heap} (ren (rnm [0,1] 2) (rnm [] 1) (.str (qi (List.drop a.toNat q)).fst)) (qh [0,1] [] {box:=upd (upd (fun _=>none) 0 (some (Row.lit [.str q]))) 1 (some (Row.lit [I a])),nl:=2,hw:=upd (fun _=>none) 0 (some (List.length dg)),nt:=1,vw:=fun _=>none:Heap} (hSc q (a+(↑(List.length (qi (List.drop a.toNat q)).fst):Int))))/\
 bif(qi (List.drop a.toNat q)).fst=={data:= #[]:ByteArray}.data.toList then True/\K (.tup [.agg [B ng,.list (List.length dg) 1 (fun i=>qk (List.getD dg i default)) (.tok 0 1),I x],B false]) {box:=upd (upd (upd (upd (fun _=>none) 0 (some (Row.lit [.str q]))) 1 (some (Row.lit [I a]))) 0 (some (Row.lit [.str q]))) 1 (some (Row.lit [I (a+(↑(List.length (qi (List.drop a.toNat q)).fst):Int))])),nl:=2,hw:=upd (fun _=>none) 0 (some (List.length dg)),nt:=1,vw:=fun _=>none:Heap} else List.length (qi (List.drop a.toNat q)).fst<=q8->At (EnX [1,5] Tryz.f66) (fh Tryz.f66 K) [It.code [1,1,1,1,1,1,1,1,1,1,1,0,1,0,1,1,1,1,1,0,1,0],It.blk 0,It.code [1,1,1,1,1,1,1,1,1,1,1,0,1,0,1,1,1,1,1,1],It.code [1,1,1,1,1,1,1,1,1,1,1,1]] {sl:=[(1,D.bp 0 0),(2,.own [B false,ut,I 0]),(4,.own [B ng,.list (List.length dg) 1 (fun i=>qk (List.getD dg i default)) (.tok 0 1),I x]),(5,D.bp 1 0),(10,B en),(12,I 0),(66,.list (List.length (qi (List.drop a.toNat q)).fst) 1 (qjc (qi (List.drop a.toNat q)).fst) .none),(67,I (↑(List.length (qi (List.drop a.toNat q)).fst):Int)),(68,I 0)],h:={box:=upd (upd (upd (upd (fun _=>none) 0 (some (Row.lit [.str q]))) 1 (some (Row.lit [I a]))) 0 (some (Row.lit [.str q]))) 1 (some (Row.lit [I (a+(↑(List.length (qi (List.drop a.toNat q)).fst):Int))])),nl:=2,hw:=upd (fun _=>none) 0 (some (List.length dg)),nt:=1,vw:=fun _=>none:Heap}:St}):=by kernel_rfl
def SSe(q dg ed:Str)(a x:Int)(ng en:Bool)(e i:Int):St:=⟨[(1,.bp 0 0),(2,.own [B false,ut,I 0]),(4,.own [B ng,LT dg 1 qk 0,I x]),(5,.bp 1 0),(10,B en),(12,I e),(66,L ed 1 qk),(67,I ed.length),(68,I i)],qf3 q a dg.length⟩
noncomputable def qtj:List Nat->Nat->Option Ans:=qf []
theorem q1x[Lay](q dg ed:Str)(a x:Int)(ng en:Bool)(e i:Int)(J:St->Prop)(K:D->Heap->Prop):qn (EnX [1,5] Tryz.f66) (fh Tryz.f66 K) (qtj ) qx5 200 [.code [1,1,1,1,1,1,1,1,1,1,1,0,1,0,1,1,1,1,1,0,1,0,0],stp [1,2,4,5,10,12,66,67,68] J,.blk 0,.code [1,1,1,1,1,1,1,1,1,1,1,0,1,0,1,1,1,1,1,1],.code [1,1,1,1,1,1,1,1,1,1,1,1]] (SSe q dg ed a x ng en e i)=
 (bif decide (i<(↑(List.length ed):Int)) then(0<=i/\i<(↑(List.length ed):Int))/\J {sl:=[(1,D.bp 0 0),(2,.own [B false,ut,I 0]),(4,.own [B ng,.list (List.length dg) 1 (fun i=>qk (List.getD dg i default)) (.tok 0 1),I x]),(5,D.bp 1 0),(10,B en),(12,I (if qg .i64 (yt .i64 10 e) (IntKind.i64.wrap (qj IntKind.u8 (↑(List.getD ed i.toNat default).toNat:Int) 48))<1048576 then qg .i64 (yt .i64 10 e) (IntKind.i64.wrap (qj IntKind.u8 (↑(List.getD ed i.toNat default).toNat:Int) 48)) else 1048576)),(66,L ed 1 qk),(67,I (↑(List.length ed):Int)),(68,I (qg .i64 i 1))],h:={box:=upd (upd (fun _=>none) 0 (some (Row.lit [.str q]))) 1 (some (Row.lit [I a])),nl:=2,hw:=upd (fun _=>none) 0 (some (List.length dg)),nt:=1,vw:=fun _=>none:Heap}:St}
 else bif en then True/\At (EnX [1,5] Tryz.f66) (fh Tryz.f66 K) [It.code [1,1,1,1,1,1,1,1,1,1,1,1]] {sl:=[(1,D.bp 0 0),(2,.own [B false,ut,I 0]),(4,.own [B ng,.list (List.length dg) 1 (fun i=>qk (List.getD dg i default)) (.tok 0 1),I (qg .i64 x (qj .i64 0 e))]),(5,D.bp 1 0)],h:={box:=upd (upd (fun _=>none) 0 (some (Row.lit [.str q]))) 1 (some (Row.lit [I a])),nl:=2,hw:=upd (fun _=>none) 0 (some (List.length dg)),nt:=1,vw:=fun _=>none:Heap}:St} else True/\At (EnX [1,5] Tryz.f66) (fh Tryz.f66 K) [It.code [1,1,1,1,1,1,1,1,1,1,1,1]] {sl:=[(1,D.bp 0 0),(2,.own [B false,ut,I 0]),(4,.own [B ng,.list (List.length dg) 1 (fun i=>qk (List.getD dg i default)) (.tok 0 1),I (qg .i64 x e)]),(5,D.bp 1 0)],h:={box:=upd (upd (fun _=>none) 0 (some (Row.lit [.str q]))) 1 (some (Row.lit [I a])),nl:=2,hw:=upd (fun _=>none) 0 (some (List.length dg)),nt:=1,vw:=fun _=>none:Heap}:St}):=by kernel_rfl
noncomputable def qtk(dg:Str)(x:Int)(ng:Bool):List Nat->Nat->Option Ans:=qf [([1,1,1,1,1,1,1,1,1,1,1,1,0],1,Ans.pure [{neg:=ng,dig:=dg,ex:=x:Nm}.d] (qx {neg:=ng,dig:=dg,ex:=x:Nm}).d)]
theorem q1y[Lay](q dg:Str)(a x:Int)(ng:Bool)(K:D->Heap->Prop):qn (EnX [1,5] Tryz.f66) (fh Tryz.f66 K) (qtk dg x ng) p8 200 [.code [1,1,1,1,1,1,1,1,1,1,1,1]] ⟨[(1,.bp 0 0),(2,.own [B false,ut,I 0]),(4,.own [B ng,LT dg 1 qk 0,I x]),(5,.bp 1 0)],qf3 q a dg.length⟩ =
 (PureW PP 71 [.agg [B ng,.list (List.length dg) 1 (fun i=>qk (List.getD dg i default)) (.tok 0 1),I x]] [{neg:=ng,dig:=dg,ex:=x:Nm}.d] (qx {neg:=ng,dig:=dg,ex:=x:Nm}).d/\(List.length q<=jt->True/\K (.tup [.agg [B (qx {neg:=ng,dig:=dg,ex:=x:Nm}).neg,L (qx {neg:=ng,dig:=dg,ex:=x:Nm}).dig 1 qk,I (qx {neg:=ng,dig:=dg,ex:=x:Nm}).ex],B (a==(↑(List.length q):Int))]) {box:=upd (upd (fun _=>none) 0 (some (Row.lit [.str q]))) 1 (some (Row.lit [I a])),nl:=2,hw:=upd (fun _=>none) 0 (some (List.length dg)),nt:=1,vw:=fun _=>none:Heap})):=by kernel_rfl
theorem qeq{e q:Str}{a:Int}(h:q.drop a.toNat=[])(h0:0<=a):ge e q a=false:=by
 have:=List.drop_eq_nil_iff.1 h
 unfold ge
 rw[decide_eq_false (by omega),Bool.false_and]
theorem fy{e q r:Str}{c:UInt8}{a:Int}(h:q.drop a.toNat=c::r)(h0:0<=a):ge e q a=e.contains c/\q.drop (a+1).toNat=r/\a+1<=(q.length:Int):=by
 have hl:a.toNat<q.length:=by
  apply Classical.byContradiction
  intro h1
  rw[List.drop_of_length_le (by omega)]at h;cases h
 rw[jb _ _ hl,List.cons.injEq]at h
 have e1:(a+1).toNat=a.toNat+1:=by omega
 refine⟨?_,by rw[e1];exact h.2,by omega⟩
 unfold ge
 rw[decide_eq_true (by omega),Bool.true_and,<-h.1];rfl
theorem qh9{q:Str}{a:Int}(h0:0<=a)(h1:a<=(q.length:Int)):q.drop (a+(qi (q.drop a.toNat)).1.length).toNat=(qi (q.drop a.toNat)).2/\a+(qi (q.drop a.toNat)).1.length<=(q.length:Int)/\(qi (q.drop a.toNat)).1.length<=q.length:=by
 have hs:=po (q.drop a.toNat)
 have ha:=mc (q.drop a.toNat)
 rw[List.length_drop]at hs
 generalize qi (q.drop a.toNat)=p at *
 refine⟨?_,by omega,by omega⟩
 have:(a+(p.1.length:Int)).toNat=a.toNat+p.1.length:=by omega
 rw[this,<-List.drop_drop,ha,List.drop_left']
 rfl
noncomputable abbrev scE:Env:=EnX [1,5] Tryz.f66
abbrev scK[Lay](v:Nm×Bool):St->Prop:=fh Tryz.f66 fun d h=>∃h',RetLe d h (.tup [v.1.d,B v.2]) h'
abbrev qtl:List Nat:=[1,1,1,1,1,1,1,1,1,1,1,1]
theorem Wk.nmT{ng:Bool}{dg:Str}{x:Int}{t:Nat}:Wk (.agg [B ng,LT dg 1 qk t,I x]) (Nm.d ⟨ng,dg,x⟩):=Wk.agg (Wks.cons (Wk.refl _) (Wks.cons Wk.tokL (Wks.refl _)))
theorem scG[Lay](q dg:Str)(a x:Int)(ng:Bool)(hl:dg.length<=1000000)(h1 : -1000000000<=x)(h2:x<=1000000000)(ok:Bool)(hok:ok=decide (a=(q.length:Int))) :
  At scE (scK (qx ⟨ng,dg,x⟩,ok)) [.code qtl] ⟨[(1,.bp 0 0),(2,.own [B false,ut,I 0]),(4,.own [B ng,LT dg 1 qk 0,I x]),(5,.bp 1 0)],qf3 q a dg.length⟩:=by
 subst hok
 exact qe jv _ _ _ (of_eq (q1y q dg a x ng _) ⟨⟨Wks.cons Wk.nmT (Wks.refl _),c71 ⟨ng,dg,x⟩ hl h1 h2⟩,fun _=>⟨trivial,_,RetLe.refl _ _⟩⟩)
theorem emp(r:Str):(r==({data:= #[]:ByteArray}.data.toList:Str))=decide (r=[]):=by
 cases r <;> rfl
theorem q1z{a b:Int}(h : -9223372036854775808<=a*b)(k:a*b<=9223372036854775807):yt .i64 a b=a*b:=IntWalk.i64_in _ ⟨h,k⟩
theorem qnc(c:Nat)(q:Str):ug c q<=c:=by rw[ou];omega
theorem qx6[Lay](q dg:Str)(a x:Int)(ng en:Bool)(hq:q.length<=64)(hl:dg.length<=1000)(hx : -1000<=x/\x<=0)(h0:0<=a)(ha:a<=(q.length:Int)) :
  At scE (scK (if(qi (q.drop a.toNat)).1=[] then(⟨ng,dg,x⟩,false) else(qx ⟨ng,dg,x+(if en=true then-(ug 1048576 (qi (q.drop a.toNat)).1:Int) else(ug 1048576 (qi (q.drop a.toNat)).1:Int))⟩,decide ((qi (q.drop a.toNat)).2=[]))))
   [.code [1,1,1,1,1,1,1,1,1,1,1,0,1,0,1,1],.code qtl] ⟨[(1,.bp 0 0),(2,.own [B false,ut,I 0]),(4,.own [B ng,LT dg 1 qk 0,I x]),(5,.bp 1 0),(7,ip),(10,B en)],qf3 q a dg.length⟩:=by
 obtain⟨s1,s2,s3⟩:=qh9 h0 ha
 refine qe jv _ _ _ (of_eq (q1w q dg a x ng en _) ⟨fr (qs9 q a h0 ha (by omega)) [0,1] [],?_⟩)
 rw[emp]
 have hend:decide ((qi (q.drop a.toNat)).2=[])=decide (a+(qi (q.drop a.toNat)).1.length=(q.length:Int)):=by
  rw[decide_eq_decide,<-s1,List.drop_eq_nil_iff];omega
 rw[hend]
 have hdg:=md (q.drop a.toNat)
 generalize (qi (q.drop a.toNat)).1=ed at *
 generalize hb:a+(ed.length:Int)=b at *
 refine qa (fun h=>⟨trivial,_,RetLe.wk ?_ rfl⟩) fun h=>fun hlm=> ?_
 ·rw[if_pos (of_decide_eq_true h)]
  exact Wk.tup (Wks.cons Wk.nmT (Wks.refl _))
 rw[if_neg (of_decide_eq_false h)]
 refine jc (st':=SSe q dg ed b x ng en (0:Nat) (0:Nat)) ?_ (StLe.heap (pj (fun k=>by rcases k with _|_|k <;> rfl) rfl rfl))
 refine lp (fn:=Tryz.f66) (fun z:Nat×Nat=>z.1<=ed.length/\z.2<=1048576/\ug 1048576 ed=(ed.drop z.1).foldl (fun e c=>min 1048576 (10*e+dgt c)) z.2) (fun z=>SSe q dg ed b x ng en (z.2:Nat) (z.1:Nat)) (fun z=>ed.length-z.1) [1,2,4,5,10,12,66,67,68] (by kernel_rfl) (fun z hz=>of_eq (q1x q dg ed b x ng en (z.2:Nat) (z.1:Nat) _ _) ?_) (0,0) ⟨Nat.zero_le _,Nat.zero_le _,rfl⟩
 obtain⟨i,e⟩:=z
 obtain⟨hi,he,hv⟩:=hz
 simp only at hi he hv⊢
 refine qa (fun hlt=> ?_) fun hge=> ?_
 ·have hlt:=ltI hlt
  rw[jb _ _ hlt,List.foldl_cons]at hv
  have hc:zl (ed.getD i default)=true:=List.all_eq_true.1 hdg _ (by rw[List.getD_eq_getElem?_getD,List.getElem?_eq_getElem hlt];exact List.getElem_mem hlt)
  rw[Int.toNat_natCast,bi hlt hlm]
  generalize ed.getD i default=c at *
  have hc9:=ac hc
  have hc48:=of_decide_eq_true hc
  have e1:IntKind.i64.wrap (qj .u8 (c.toNat:Int) 48)=((dgt c:Nat):Int):=by
   unfold qj dgt
   rw[IntWalk.u8_in _ ⟨by omega,by omega⟩,IntWalk.i64_in _ ⟨by omega,by omega⟩];omega
  have e2:qg .i64 (yt .i64 10 (e:Int)) ((dgt c:Nat):Int)=((10*e+dgt c:Nat):Int):=by
   rw[q1z (by omega) (by omega),jk (by omega) (by omega)];omega
  have e3:(if((10*e+dgt c:Nat):Int)<1048576 then((10*e+dgt c:Nat):Int) else 1048576)=((min 1048576 (10*e+dgt c):Nat):Int):=by
   split <;> omega
  rw[e1,e2,e3]
  exact⟨⟨by omega,by omega⟩,Nx.mk (i+1,min 1048576 (10*e+dgt c)) ⟨hlt,by simp only;omega,hv⟩ (by simp only;omega)⟩
 ·rw[List.drop_of_length_le (geI hge),List.foldl_nil]at hv
  rw[hv]
  cases en
  ·refine⟨trivial,?_⟩
   rw[jk (by omega) (by omega)]
   exact scG q dg b (x+e) ng (by omega) (by omega) (by omega) _ rfl
  ·refine⟨trivial,?_⟩
   rw[jy (by omega) (by omega),jk (by omega) (by omega),Int.zero_sub]
   exact scG q dg b (x + -(e:Int)) ng (by omega) (by omega) (by omega) _ rfl
def tlG(ng:Bool)(dg:Str)(x:Int):Str->Nm×Bool
 | []=>(qx ⟨ng,dg,x⟩,true)
 |c::r=>if c=101\/c=69 then
   (if(qi (ky r).2).1=[] then(⟨ng,dg,x⟩,false) else(qx ⟨ng,dg,x+(if(ky r).1=true then-(ug 1048576 (qi (ky r).2).1:Int) else(ug 1048576 (qi (ky r).2).1:Int))⟩,decide ((qi (ky r).2).2=[])))
  else(qx ⟨ng,dg,x⟩,false)
def frG(ng:Bool)(wh:Str):Str->Nm×Bool
 | []=>tlG ng wh 0 []
 |c::r=>if c=46 then(if(qi r).1=[] then(⟨ng,wh,0⟩,false) else tlG ng (wh++(qi r).1) (-((qi r).1.length:Int)) (qi r).2) else tlG ng wh 0 (c::r)
def scF(q:Str):Nm×Bool :=
 if q.length > 64 then(nm0,false)
 else if(qi (ky q).2).1=[] then(⟨(ky q).1,[],0⟩,false)
 else frG (ky q).1 (qi (ky q).2).1 (qi (ky q).2).2
abbrev scS(q dg:Str)(a x:Int)(ng:Bool):St:=⟨[(1,.bp 0 0),(2,.own [B false,ut,I 0]),(4,.own [B ng,LT dg 1 qk 0,I x]),(5,.bp 1 0),(6,qep),(7,ip)],qf3 q a dg.length⟩
theorem e45:({data:= #[45]:ByteArray}.data.toList:Str)=[45]:=rfl
theorem e43:({data:= #[43]:ByteArray}.data.toList:Str)=[43]:=rfl
theorem e46[Lay]:({data:= #[46]:ByteArray}.data.toList:Str)=[46]:=rfl
theorem eEe:({data:= #[101,69]:ByteArray}.data.toList:Str)=[101,69]:=rfl
theorem qn8(a c:UInt8):([a]:Str).contains c=decide (c=a):=by
 rw[Bool.eq_iff_iff];simp
theorem q10(a b c:UInt8):([a,b]:Str).contains c=decide (c=a\/c=b):=by
 rw[Bool.eq_iff_iff];simp
theorem qtm(r:Str):(ky r=(false,r)/\(∀c t,r=c::t->c≠45/\c≠43))\/(∃t,r=45::t/\ky r=(true,t))\/(∃t,r=43::t/\ky r=(false,t)):=by
 cases r with
 |nil=>exact .inl ⟨rfl,fun _ _ h=>by cases h⟩
 |cons c t =>
  rw[ky]
  by_cases h1:c=45
  ·subst h1;exact .inr (.inl ⟨t,rfl,rfl⟩)
  ·rw[if_neg h1]
   by_cases h2:c=43
   ·subst h2;exact .inr (.inr ⟨t,rfl,rfl⟩)
   ·rw[if_neg h2]
    exact .inl ⟨rfl,fun c' t' h=>by cases h;exact⟨h1,h2⟩⟩
theorem qpp{q:Str}{a:Int}(h0:0<=a)(h1:a<=(q.length:Int)):ge [45] q a=(ky (q.drop a.toNat)).1 /\
  (ge [45] q a=true->q.drop (a+1).toNat=(ky (q.drop a.toNat)).2/\a+1<=(q.length:Int))/\
  (ge [45] q a=false->q.drop (j9 [43] q a).toNat=(ky (q.drop a.toNat)).2/\j9 [43] q a<=(q.length:Int)/\0<=j9 [43] q a):=by
 rcases qtm (q.drop a.toNat) with ⟨h,hn⟩|⟨t,hr,h⟩|⟨t,hr,h⟩
 ·have k:ge [45] q a=false/\ge [43] q a=false:=by
   cases hr:q.drop a.toNat with
   |nil=>exact⟨qeq hr h0,qeq hr h0⟩
   |cons c t =>
    obtain⟨n1,n2⟩:=hn c t hr
    rw[(fy hr h0).1,(fy hr h0).1,qn8,qn8,decide_eq_false n1,decide_eq_false n2]
    exact⟨rfl,rfl⟩
  rw[h,k.1]
  refine⟨rfl,fun h=>(by cases h),fun _=> ?_⟩
  unfold j9
  rw[k.2,if_neg (by simp)]
  exact⟨rfl,h1,h0⟩
 ·obtain⟨k1,k2,k3⟩:=fy (e:=[45]) hr h0
  rw[h,k1,qn8,decide_eq_true rfl]
  exact⟨rfl,fun _=>⟨k2,k3⟩,fun h=>(by cases h)⟩
 ·obtain⟨k1,k2,k3⟩:=fy (e:=[45]) hr h0
  obtain⟨m1,_,_⟩:=fy (e:=[43]) hr h0
  rw[h,k1,qn8,decide_eq_false (by decide)]
  refine⟨rfl,fun h=>(by cases h),fun _=> ?_⟩
  unfold j9
  rw[m1,qn8,decide_eq_true rfl,if_pos rfl]
  exact⟨k2,k3,by omega⟩
theorem q11[Lay](q dg:Str)(a x:Int)(ng:Bool)(hq:q.length<=64)(hl:dg.length<=1000)(hx : -1000<=x/\x<=0)(h0:0<=a)(ha:a<=(q.length:Int))(r:Str)(hr:q.drop a.toNat=r) :
  At scE (scK (if(qi (ky r).2).1=[] then(⟨ng,dg,x⟩,false) else(qx ⟨ng,dg,x+(if(ky r).1=true then-(ug 1048576 (qi (ky r).2).1:Int) else(ug 1048576 (qi (ky r).2).1:Int))⟩,decide ((qi (ky r).2).2=[]))))
   [.code [1,1,1,1,1,1,1,1,1,1,1,0,1,0],.code qtl] (scS q dg a x ng):=by
 subst hr
 obtain⟨g1,g2,g3⟩:=qpp h0 ha
 refine qe jv _ _ _ (of_eq (qth q dg a x ng _) ⟨fr (qn7 _ q a h0 (by omega) (by decide)) [0,1] [],?_⟩)
 rw[e45,e43]
 cases hb:ge [45] q a
 ·obtain⟨k1,k2,k3⟩:=g3 hb
  have hA:j9 [45] q a=a:=by unfold j9;rw[hb,if_neg (by simp)]
  rw[hA]
  refine⟨fr (qn7 _ q a h0 (by omega) (by decide)) [0,1] [],?_⟩
  rw[<-g1,hb,<-k1]
  refine jc (st':=⟨[(1,.bp 0 0),(2,.own [B false,ut,I 0]),(4,.own [B ng,LT dg 1 qk 0,I x]),(5,.bp 1 0),(7,ip),(10,B false)],qf3 q (j9 [43] q a) dg.length⟩) (qx6 q dg (j9 [43] q a) x ng false hq hl hx k3 k2) (StLe.heap (pj (fun k=>by rcases k with _|_|k <;> rfl) rfl rfl))
 ·obtain⟨k1,k2⟩:=g2 hb
  have hA:j9 [45] q a=a+1:=by unfold j9;rw[hb,if_pos rfl]
  rw[hA,<-g1,hb,<-k1]
  refine jc (st':=⟨[(1,.bp 0 0),(2,.own [B false,ut,I 0]),(4,.own [B ng,LT dg 1 qk 0,I x]),(5,.bp 1 0),(7,ip),(10,B true)],qf3 q (a+1) dg.length⟩) (qx6 q dg (a+1) x ng true hq hl hx (by omega) k2) (StLe.heap (pj (fun k=>by rcases k with _|_|k <;> rfl) rfl rfl))
theorem scD[Lay](q dg:Str)(a x:Int)(ng:Bool)(hq:q.length<=64)(hl:dg.length<=1000)(hx : -1000<=x/\x<=0)(h0:0<=a)(ha:a<=(q.length:Int))(r:Str)(hr:q.drop a.toNat=r) :
  At scE (scK (tlG ng dg x r)) [.code [1,1,1,1,1,1,1,1,1,1,1]] (scS q dg a x ng):=by
 refine qe jv _ _ _ (of_eq (q1v q dg a x ng _) ⟨fr (qn7 _ q a h0 (by omega) (by decide)) [0,1] [],?_⟩)
 rw[eEe]
 cases r with
 |nil =>
  have hb:=qeq (e:=[101,69]) hr h0
  have hA:j9 [101,69] q a=a:=by unfold j9;rw[hb,if_neg (by simp)]
  rw[hb,hA]
  have:=List.drop_eq_nil_iff.1 hr
  exact jc (st':=⟨[(1,.bp 0 0),(2,.own [B false,ut,I 0]),(4,.own [B ng,LT dg 1 qk 0,I x]),(5,.bp 1 0)],qf3 q a dg.length⟩) (scG q dg a x ng (by omega) (by omega) (by omega) true (decide_eq_true (by omega)).symm) (StLe.heap (pj (fun k=>by rcases k with _|_|k <;> rfl) rfl rfl))
 |cons c t =>
  obtain⟨k1,k2,k3⟩:=fy (e:=[101,69]) hr h0
  rw[q10]at k1
  rw[tlG]
  by_cases hc:c=101\/c=69
  ·rw[decide_eq_true hc]at k1
   have hA:j9 [101,69] q a=a+1:=by unfold j9;rw[k1,if_pos rfl]
   rw[k1,hA,if_pos hc]
   exact jc (st':=scS q dg (a+1) x ng) (q11 q dg (a+1) x ng hq hl hx (by omega) k3 t k2) (StLe.heap (pj (fun k=>by rcases k with _|_|k <;> rfl) rfl rfl))
  ·rw[decide_eq_false hc]at k1
   have hA:j9 [101,69] q a=a:=by unfold j9;rw[k1,if_neg (by simp)]
   rw[k1,hA,if_neg hc]
   exact jc (st':=⟨[(1,.bp 0 0),(2,.own [B false,ut,I 0]),(4,.own [B ng,LT dg 1 qk 0,I x]),(5,.bp 1 0)],qf3 q a dg.length⟩) (scG q dg a x ng (by omega) (by omega) (by omega) false (decide_eq_false (by omega)).symm) (StLe.heap (pj (fun k=>by rcases k with _|_|k <;> rfl) rfl rfl))
theorem scC[Lay](q wh:Str)(a:Int)(ng:Bool)(hq:q.length<=64)(hl:wh.length<=64)(h0:0<=a)(ha:a<=(q.length:Int))(r:Str)(hr:q.drop a.toNat=r) :
  At scE (scK (frG ng wh r)) [.code [1,1,1,1,1,1,1,1,1,1]] (scS q wh a 0 ng):=by
 have hK:∀(h:q.drop a.toNat=r) (hb:ge [46] q a=false),At scE (scK (tlG ng wh 0 r)) [.code [1,1,1,1,1,1,1,1,1,1,1]] (scS q wh a 0 ng):=fun h _=>scD q wh a 0 ng hq (by omega) (by omega) h0 ha r h
 refine qe jv _ _ _ (of_eq (q1t q wh a ng _) ⟨fr (qn7 _ q a h0 (by omega) (by decide)) [0,1] [],?_⟩)
 rw[e46]
 cases r with
 |nil =>
  have hb:=qeq (e:=[46]) hr h0
  have hA:j9 [46] q a=a:=by unfold j9;rw[hb,if_neg (by simp)]
  rw[hb,hA,frG]
  exact jc (st':=scS q wh a 0 ng) (hK hr hb) (StLe.heap (pj (fun k=>by rcases k with _|_|k <;> rfl) rfl rfl))
 |cons c t =>
  obtain⟨k1,k2,k3⟩:=fy (e:=[46]) hr h0
  rw[qn8]at k1
  rw[frG]
  by_cases hc:c=46
  ·rw[decide_eq_true hc]at k1
   have hA:j9 [46] q a=a+1:=by unfold j9;rw[k1,if_pos rfl]
   obtain⟨s1,s2,s3⟩:=qh9 (q:=q) (a:=a+1) (by omega) k3
   rw[k1,hA,if_pos hc,emp]
   refine⟨fr (qs9 q (a+1) (by omega) k3 (by omega)) [0,1] [],?_⟩
   rw[k2]at s1 s2 s3⊢
   refine qa (fun h=>⟨trivial,_,RetLe.wk ?_ rfl⟩) fun h=>⟨⟨rfl,by unfold q7;omega⟩,trivial,fun _=>⟨trivial,?_⟩⟩
   ·rw[if_pos (of_decide_eq_true h)]
    exact Wk.tup (Wks.cons Wk.nmT (Wks.refl _))
   ·rw[if_neg (of_decide_eq_false h),jy (by omega) (by omega),Int.zero_sub]
    refine jc (st':=scS q (wh++(qi t).1) (a+1+(qi t).1.length) (-((qi t).1.length:Int)) ng) (scD q (wh++(qi t).1) (a+1+(qi t).1.length) (-((qi t).1.length:Int)) ng hq (by rw[List.length_append];omega) (by omega) (by omega) s2 (qi t).2 s1) ?_
    refine(StLe.setOwn (by simp) 4 rfl (Wks.cons (Wk.refl _) (Wks.cons (Wk.app (a:=wh) (b:=(qi t).1) (sz:=1) (enc:=qk) (own':= .tok 0 1) rfl rfl (fun i hi=> ?_) (.inr rfl)) (Wks.refl _)))).trans (StLe.heap (pj (fun k=>by rcases k with _|_|k <;> rfl) ?_ rfl))
    ·rfl
    ·rw[List.length_append,q6]
  ·rw[decide_eq_false hc]at k1
   have hA:j9 [46] q a=a:=by unfold j9;rw[k1,if_neg (by simp)]
   rw[k1,hA,if_neg hc]
   exact jc (st':=scS q wh a 0 ng) (hK hr k1) (StLe.heap (pj (fun k=>by rcases k with _|_|k <;> rfl) rfl rfl))
theorem scB[Lay](q:Str)(a:Int)(ng:Bool)(hq:q.length<=64)(h0:0<=a)(ha:a<=(q.length:Int))(r:Str)(hr:q.drop a.toNat=r) :
  At scE (scK (if(qi r).1=[] then(⟨ng,[],0⟩,false) else frG ng (qi r).1 (qi r).2)) [.code [1,1,1,1,1,1,1]] ⟨[(1,.bp 0 0),(2,.own [B false,ut,I 0]),(4,.own [B ng,ut,I 0]),(5,.bp 1 0),(6,qep),(7,ip)],hSc q a⟩:=by
 subst hr
 obtain⟨s1,s2,s3⟩:=qh9 h0 ha
 refine qe jv _ _ _ (of_eq (q1r q a ng _) ⟨qs9 q a h0 ha (by omega),?_⟩)
 rw[emp]
 generalize qi (q.drop a.toNat)=p at *
 refine qa (fun h=>⟨trivial,_,RetLe.wk ?_ rfl⟩) fun h=>⟨by unfold q7;omega,trivial,?_⟩
 ·rw[if_pos (of_decide_eq_true h)]
  exact Wk.tup (Wks.cons (Wk.agg (Wks.cons (Wk.refl _) (Wks.cons Wk.nilL (Wks.refl _)))) (Wks.refl _))
 ·rw[if_neg (of_decide_eq_false h)]
  refine jc (st':=scS q p.1 (a+p.1.length) 0 ng) (scC q p.1 (a+p.1.length) ng hq (by omega) (by omega) s2 p.2 s1) ?_
  refine(StLe.setOwn (by simp) 4 rfl (Wks.cons (Wk.refl _) (Wks.cons (Wk.app (a:=([]:Str)) (b:=p.1) (sz:=1) (enc:=qk) (own':= .tok 0 1) rfl rfl (fun i hi=> ?_) (.inr rfl)) (Wks.refl _)))).trans (StLe.heap (pj (fun k=>by rcases k with _|_|k <;> rfl) ?_ rfl))
  ·rfl
  ·rw[Nat.zero_add]
theorem c66[Lay](q:Str):Pure PP 66 [.str q] (.tup [(scF q).1.d,B (scF q).2]):=by
 refine pr F66 (by kernel_rfl) (of_eq (q1p q _) ⟨trivial,fun _=>qa (fun h=>⟨trivial,_,RetLe.wk ?_ rfl⟩) fun h=>⟨trivial,trivial,?_⟩⟩)
 ·have h:q.length > 64:=by have:=of_decide_eq_true h;omega
  unfold scF
  rw[if_pos h]
  exact Wk.tup (Wks.cons (Wk.agg (Wks.cons (Wk.refl _) (Wks.cons Wk.nilL (Wks.refl _)))) (Wks.refl _))
 have hq:q.length<=64:=by have:=of_decide_eq_false h;omega
 have hF:scF q=if(qi (ky q).2).1=[] then(⟨(ky q).1,[],0⟩,false) else frG (ky q).1 (qi (ky q).2).1 (qi (ky q).2).2:=by
  unfold scF;rw[if_neg (by omega)]
 rw[hF]
 refine jc (st':=⟨[(1,.bp 0 0),(2,.own [B false,ut,I 0]),(4,.own [B false,ut,I 0]),(5,.bp 1 0),(6,qep),(7,ip)],hSc q 0⟩) ?_ (StLe.heap (qdc q 0 0))
 obtain⟨g1,g2,g3⟩:=qpp (q:=q) (a:=0) (by omega) (by omega)
 rw[show(0:Int).toNat=0 from rfl,List.drop_zero]at g1 g2 g3
 refine qe jv _ _ _ (of_eq (qtc q _) ⟨qn7 _ q 0 (by omega) (by omega) (by decide),?_⟩)
 rw[e45,e43]
 cases hb:ge [45] q 0
 ·obtain⟨k1,k2,k3⟩:=g3 hb
  have hA:j9 [45] q 0=0:=by unfold j9;rw[hb,if_neg (by simp)]
  rw[hA,<-g1,hb]
  exact⟨qn7 _ q 0 (by omega) (by omega) (by decide),scB q (j9 [43] q 0) false hq k3 k2 _ k1⟩
 ·obtain⟨k1,k2⟩:=g2 hb
  have hA:j9 [45] q 0=0+1:=by unfold j9;rw[hb,if_pos rfl]
  rw[hA,<-g1,hb]
  exact⟨trivial,scB q (0+1) true hq (by omega) k2 _ k1⟩
end Go.Proofs.YtiekphbkomddfaaGreatDoor.S1
namespace Go.Proofs.YtiekphbkomddfaaGreatDoor.S1
open Go Go.Ab Go.Proofs
attribute [local instance] qda
abbrev ra:Nat:=1048576
def RdR(r:Option Rd)(v:Nm×Bool):Prop:=match r with
 |some x=>v=(qx (x.nm ra),x.ok)
 |none=>v.2=false
theorem qia(ng:Bool)(dg:Str)(f:Nat)(q:Str):RdR (rdE ng dg f q) (tlG ng dg (-(f:Int)) q):=by
 have hz:∀ok,RdR (some ⟨ng,dg,f,false,[],ok⟩) (qx ⟨ng,dg,-(f:Int)⟩,ok):=fun ok=>by
  unfold RdR Rd.nm Rd.e
  have:(ug ra ([]:Str):Int)=0:=rfl
  simp only[Bool.false_eq_true,if_false,this,Int.zero_sub]
 cases q with
 |nil=>exact hz true
 |cons c r =>
  rw[rdE,tlG]
  by_cases hc:c=101\/c=69
  ·rw[if_pos hc,if_pos hc]
   by_cases h:(qi (ky r).2).1=[]
   ·rw[if_pos h,if_pos h];exact rfl
   ·rw[if_neg h,if_neg h]
    unfold RdR Rd.nm Rd.e
    simp only
    congr 3
    generalize (if(ky r).1=true then -(ug ra (qi (ky r).2).1:Int) else(ug ra (qi (ky r).2).1:Int))=e
    omega
  ·rw[if_neg hc,if_neg hc];exact hz false
theorem qpq(ng:Bool)(wh q:Str):RdR (rdF ng wh q) (frG ng wh q):=by
 cases q with
 |nil=>exact qia ng wh 0 []
 |cons c r =>
  rw[rdF,frG]
  by_cases hc:c=46
  ·rw[if_pos hc,if_pos hc]
   by_cases h:(qi r).1=[]
   ·rw[if_pos h,if_pos h];exact rfl
   ·rw[if_neg h,if_neg h];exact qia ng _ _ _
  ·rw[if_neg hc,if_neg hc];exact qia ng wh 0 (c::r)
theorem ql3(q:Str):RdR (rdP q) (scF q):=by
 unfold rdP scF
 by_cases h1:q.length > 64
 ·rw[if_pos (.inl h1),if_pos h1];exact rfl
 ·rw[if_neg h1]
  by_cases h2:(qi (ky q).2).1=[]
  ·rw[if_pos (.inr h2),if_pos h2];exact rfl
  ·rw[if_neg (not_or.2 ⟨h1,h2⟩),if_neg h2];exact qpq _ _ _
theorem qtn{q:Str}{x:Rd}(h:rdP q=some x)(cap:Nat):(qx (x.nm cap)).dig.length<=64/\ -(cap:Int)-64<=(qx (x.nm cap)).ex/\(qx (x.nm cap)).ex<=cap+64:=by
 obtain⟨r1,r2,r3,r4⟩:=qeo h
 have e1:=qnc cap x.ed
 have e2 : -(cap:Int)<=x.e cap/\x.e cap<=cap:=by unfold Rd.e;split <;> omega
 have t1:=nw x.dig
 have t2:=qbr (tL x.dig)
 rcases ov x cap with ⟨k1,k2⟩|⟨k1,k2⟩
 ·rw[k2];exact⟨by decide,by show _<=(0:Int);omega,by show(0:Int)<=_;omega⟩
 ·rw[k2];exact⟨by simp only;omega,by simp only;omega,by simp only;omega⟩
def qv(q:Str):Nm×Bool:=if(scF q).2=true then((scF q).1,decide (wu (scF q).1=some q)) else(nm0,false)
theorem qbu(q:Str):(qv q).2=ck ra q/\(ck ra q=true->(qv q).1=kg ra q):=by
 have h:=ql3 q
 unfold qv ck kg
 cases hr:rdP q with
 |none =>
  rw[hr]at h
  have h:(scF q).2=false:=h
  rw[h,if_neg (by simp)]
  exact⟨rfl,fun h=>absurd h (by simp)⟩
 |some x =>
  rw[hr]at h
  have h:scF q=(qx (x.nm ra),x.ok):=h
  rw[h]
  show(if x.ok=true then(qx (x.nm ra),decide (wu (qx (x.nm ra))=some q)) else(nm0,false)).2=(x.ok&&decide (wu (qx (x.nm ra))=some q))/\((x.ok&&decide (wu (qx (x.nm ra))=some q))=true->(if x.ok=true then(qx (x.nm ra),decide (wu (qx (x.nm ra))=some q)) else(nm0,false)).1=qx (x.nm ra))
  cases x.ok
  ·exact⟨rfl,fun h=>absurd h (by simp)⟩
  ·exact⟨rfl,fun _=>rfl⟩
theorem qpr{q:Str}(h:(scF q).2=true):(scF q).1.dig.length<=64/\ -2000000<=(scF q).1.ex/\(scF q).1.ex<=2000000:=by
 have h1:=ql3 q
 cases hr:rdP q with
 |none=>rw[hr]at h1;have h1:(scF q).2=false:=h1;rw[h1]at h;cases h
 |some x =>
  rw[hr]at h1
  have h1:scF q=(qx (x.nm ra),x.ok):=h1
  obtain⟨b1,b2,b3⟩:=qtn hr ra
  have hcap:((ra:Nat):Int)=1048576:=rfl
  rw[hcap]at b2 b3
  rw[h1]
  exact⟨b1,by simp only;omega,by simp only;omega⟩
theorem F42:OkF 42 Tryz.f42:=⟨by kernel_rfl,by kernel_rfl,by kernel_rfl⟩
def q12:List (List Nat×List Nat):=[]
noncomputable def qps(q:Str):List Nat->Nat->Option Ans:=qf [([1,0],1,Ans.pure [.str q] (.tup [(scF q).fst.d,B (scF q).snd])),([1,1,1,0],1,Ans.pure [(scF q).fst.d] (.tup [.str (qdb (scF q).fst).fst,I (qdb (scF q).fst).snd]))]
theorem qto(q:Str)(K:D->Prop):qn (En Tryz.f42) (fi Tryz.f42 K) (qps q) q12 200 [.code []] ⟨qc 0 [.str q],.empty⟩ =
 (PureW PP 66 [.str q] [.str q] (.tup [(scF q).fst.d,B (scF q).snd])/\True/\bif !(scF q).snd then True/\K (.tup [.agg [B false,.list 0 0 (fun _=>D.junk) .full,I 0],B false]) else PureW PP 67 [(scF q).fst.d] [(scF q).fst.d] (.tup [.str (qdb (scF q).fst).fst,I (qdb (scF q).fst).snd])/\True/\K (.tup [.agg [B (scF q).fst.neg,L (scF q).fst.dig 1 qk,I (scF q).fst.ex],B (bif(qdb (scF q).fst).snd==0 then(qdb (scF q).fst).fst==q else false)])):=by kernel_rfl
theorem F40:OkF 40 Tryz.f40:=⟨by kernel_rfl,by kernel_rfl,by kernel_rfl⟩
def q13:List (List Nat×List Nat):=[]
noncomputable def qpt(q:Str):List Nat->Nat->Option Ans:=qf [([1,0],1,Ans.pure [.str q] (.tup [(qv q).fst.d,B (qv q).snd]))]
theorem qtp(q:Str)(K:D->Prop):qn (En Tryz.f40) (fi Tryz.f40 K) (qpt q) q13 200 [.code []] ⟨qc 0 [.str q],.empty⟩ =
 (PureW PP 42 [.str q] [.str q] (.tup [(qv q).fst.d,B (qv q).snd])/\True/\K (B (qv q).snd)):=by kernel_rfl
theorem F41:OkF 41 Tryz.f41:=⟨by kernel_rfl,by kernel_rfl,by kernel_rfl⟩
def q14:List (List Nat×List Nat):=[]
noncomputable def qpu(q:Str):List Nat->Nat->Option Ans:=qf [([1,0],1,Ans.pure [.str q] (.tup [(qv q).fst.d,B (qv q).snd])),([1,1,1,0],1,Ans.pure [(qv q).fst.d] (I (xm (qv q).fst)))]
theorem qtq(q:Str)(K:D->Prop):qn (En Tryz.f41) (fi Tryz.f41 K) (qpu q) q14 200 [.code []] ⟨qc 0 [.str q],.empty⟩ =
 (PureW PP 42 [.str q] [.str q] (.tup [(qv q).fst.d,B (qv q).snd])/\True/\bif !(qv q).snd then K (I 0) else PureW PP 65 [(qv q).fst.d] [(qv q).fst.d] (I (xm (qv q).fst))/\K (I (xm (qv q).fst))):=by kernel_rfl
theorem qpv(x:Nm)(q:Str):(bif(qdb x).2==0 then(qdb x).1==q else false)=decide (wu x=some q):=by
 unfold qdb
 cases wu x with
 |none=>rw[decide_eq_false (by simp)];rfl
 |some t =>
  show(t==q)=_
  rw[Bool.eq_iff_iff];simp
theorem c42(q:Str):Pure PP 42 [.str q] (.tup [(qv q).1.d,B (qv q).2]):=by
 refine pu F42 (by kernel_rfl) (of_eq (qto q _) ⟨PureW.mk (c66 q),trivial,qa (fun h=>⟨trivial,?_⟩) fun h=> ?_⟩)
 ·have h:(scF q).2=false:=by simpa using h
  unfold qv
  rw[h,if_neg (by simp)]
  exact Wk.tup (Wks.cons (Wk.agg (Wks.cons (Wk.refl _) (Wks.cons Wk.nilL (Wks.refl _)))) (Wks.refl _))
 ·have h:(scF q).2=true:=by simpa using h
  obtain⟨b1,b2,b3⟩:=qpr h
  unfold qv
  rw[h,if_pos rfl,qpv]
  exact⟨PureW.mk (c67 (scF q).1 (by omega) (by omega) (by omega)),trivial,Wk.refl _⟩
theorem c40(q:Str):Pure PP 40 [.str q] (B (qv q).2) :=
 pu F40 (by kernel_rfl) (of_eq (qtp q _) ⟨PureW.mk (c42 q),trivial,Wk.refl _⟩)
def dsF(q:Str):Int:=if(qv q).2=true then xm (qv q).1 else 0
theorem c41(q:Str):Pure PP 41 [.str q] (I (dsF q)):=by
 refine pu F41 (by kernel_rfl) (of_eq (qtq q _) ⟨PureW.mk (c42 q),trivial,qa (fun h=> ?_) fun h=> ?_⟩)
 ·have h:(qv q).2=false:=by simpa using h
  unfold dsF
  rw[h,if_neg (by simp)];exact Wk.refl _
 ·have h:(qv q).2=true:=by simpa using h
  unfold dsF
  rw[h,if_pos rfl];exact⟨PureW.mk (c65 _),Wk.refl _⟩
theorem qnd{g:G}{q:Str}{v:Value}(h:R g (L q 1 qk) v):∃(p:Option Addr) (cap:Nat),v = .slice p q.length cap/\q.length<=cap/\∀i,i<q.length->∃a,p=some a/\a.spot=none/\g.σ ⟨a.block,a.off+i,none⟩=some (.int .u8 (q.getD i 0).toNat):=by
 simp only[L,R]at h
 obtain⟨_,p,cap,rfl,h1,_,h2⟩:=h
 refine⟨p,cap,rfl,h1,fun i hi=> ?_⟩
 obtain⟨a,u,h3,h4,h5,_,h6⟩:=h2 i hi
 subst h5
 have:=h6 0 (by omega)
 refine⟨a,h3,h4,?_⟩
 rw[Nat.mul_one,Nat.add_zero]at this
 exact this
theorem qkv{a:Addr}(h:a.spot=none)(j:Nat):a.add j=⟨a.block,a.off+j,none⟩:=by
 obtain⟨b,o,s⟩:=a
 simp only at h
 subst h
 unfold Addr.add
 split <;> simp_all
theorem mf{P:Program}{g:G}{w:World}(sub:∀a v,g.σ a=some v->w.cell? a=some v/\a.spot=none){q:Str}{v:Value}(h:R g (L q 1 qk) v):(Extern.Bytes.bytesOf v).run P w = .ok ⟨q.toArray⟩ w:=by
 obtain⟨p,cap,rfl,_,h2⟩:=qnd h
 cases q with
 |nil =>
  cases p with
  |none=>rfl
  |some a=>rfl
 |cons c r =>
  obtain⟨a,rfl,ha,_⟩:=h2 0 (by simp)
  have hl:=Lib.run_loadBytesX (P:=P) w ((c::r).map fun b=>(b.toNat:Int)) a .empty (fun j x hx=>by
   rw[List.getElem?_map]at hx
   obtain⟨y,hy,rfl⟩:=Option.map_eq_some_iff.1 hx
   have hj:j<(c::r).length:=(List.getElem?_eq_some_iff.1 hy).1
   obtain⟨a',h3,_,h5⟩:=h2 j hj
   cases h3
   rw[qkv ha,(sub _ _ h5).1,List.getD_eq_getElem?_getD,hy];rfl)
  rw[List.length_map]at hl
  have e:Lib.bytesOf ((c::r).map fun b=>(b.toNat:Int))=c::r:=by
   unfold Lib.bytesOf
   rw[List.map_map]
   refine(List.map_congr_left fun b _=> ?_).trans (List.map_id _)
   show UInt8.ofNat ((b.toNat:Int)).toNat=b
   rw[Int.toNat_natCast,UInt8.ofNat_toNat]
  rw[e]at hl
  show(Extern.Bytes.loadBytes a (c::r).length .empty).run P w=_
  rw[hl]
  show Result.ok (⟨#[]++(c::r).toArray⟩:ByteArray) w=_
  simp
theorem iq:∀a b:Str,ae a b=Lib.compareBytes a b
 | [],[]=>rfl
 | [],_::_=>rfl
 |_::_,[]=>rfl
 |a::u,b::v=>by
  unfold ae Lib.compareBytes
  rw[iq u v]
  rfl
theorem qtr{f:Nat}{args:List D}{v:D}(ok:yx PP f)[da:DS args][dv:DD v](h:∀(g:G) (w:World) (vs:List Value),(∀a x,g.σ a=some x->w.cell? a=some x/\a.spot=none)->Rs g args vs->∃x,R g v x/\Calls PP f vs.toArray w fun e w'=>e = .returned x/\RowKit.Below w.heap.size w w'):Pure PP f args v :=
 ⟨ok,da.p,dv.p,fun g w vs _ sub hs=>by
  obtain⟨x,hx,hc⟩:=h g w vs sub hs
  refine hc.mono fun e w' ⟨he,hb⟩=>⟨x,g.σ,he,R.mono ⟨fun _ _ h=>h,fun _ _ h=>h,fun _ k h=>⟨k,h,rfl,Nat.le_refl _,fun _=>rfl⟩⟩ _ _ hx,fun _ _ h=>h,fun a y hy=> ?_,fun _ _ h=> .inl h,hb⟩
  obtain⟨h1,h2⟩:=sub a y hy
  have hl:a.block<w.heap.size:=World.block_lt_of_cell? w a h1
  exact⟨(cell?_of_heap (hb.block _ hl)).trans h1,h2⟩⟩
theorem mg{P:Program}{g:G}{w:World}(sub:∀a v,g.σ a=some v->w.cell? a=some v/\a.spot=none){p q:Str}{v u:Value}(h:R g (L p 1 qk) v)(k:R g (L q 1 qk) u) :
  (Extern.BytealgCompare.compare #[v,u]).run P w = .ok (.int .i64 (ae p q)) w:=by
 change Sem.run P (do pure (goInt (Extern.BytealgCompare.cmp (<- Extern.Bytes.bytesOf v) (<- Extern.Bytes.bytesOf u)))) w=_
 simp only[Sem.run_bind,mf sub h,mf sub k,Sem.run_pure,Result.andThen]
 rw[Lib.cmp_eq,iq]
 rfl
set_option maxHeartbeats 2000000 in
set_option maxRecDepth 100000 in
theorem qf4(v u:Value)(n:Int)(w:World)(hcmp:(Extern.BytealgCompare.compare #[v,u]).run Tryz.prog w = .ok (.int .i64 n) w):Calls Tryz.prog 121 #[v,u] w fun e w'=>e = .returned (.int .i64 n)/\w'=w:=by
 have mixed:Tryz.prog.follows .mixedOrders=true:=by kernel_rfl
 go_enter Tryz.func121,Tryz.ntmps121
 go_wp2
 rw[run_callFunc_extern Tryz.func141 (by kernel_rfl) (by kernel_rfl) (by kernel_rfl) (e:=Extern.BytealgCompare.compare) (by kernel_rfl),hcmp]
 simp only[Result.andThen]
 rw[Oper.upon_value]
 go_wp2
 go_ret
 exact⟨rfl,rfl⟩
theorem q15(a b:Str):Pure PP 121 [L a 1 qk,L b 1 qk] (I (ae a b)):=by
 refine qtr ⟨Tryz.f121,by kernel_rfl,by kernel_rfl,by kernel_rfl⟩ fun g w vs sub h=> ?_
 simp only[Rs]at h
 obtain⟨v,_,rfl,hv,u,_,rfl,hu,rfl⟩:=h
 refine⟨.int .i64 (ae a b),by simp only[R],?_⟩
 refine(qf4 v u _ w (mg (P:=Tryz.prog) sub hv hu)).mono fun e w' ⟨h1,h2⟩=>⟨h1,?_⟩
 rw[h2];exact RowKit.Below.refl _ _
theorem F69:OkF 69 Tryz.f69:=⟨by kernel_rfl,by kernel_rfl,by kernel_rfl⟩
def q16:List (List Nat×List Nat):=[]
noncomputable def qts(a:Nm)(b:Nm):List Nat->Nat->Option Ans:=qf [([1,0,1,0,0],6,Ans.pure [I (↑(List.length a.dig):Int),I (↑(List.length b.dig):Int)] (I ((↑(List.length a.dig):Int)-(↑(List.length b.dig):Int)).sign)),([1,1,0,0],1,Ans.pure [a.d] (I a.fst)),([1,1,0,0],3,Ans.pure [b.d] (I b.fst)),([1,1,0,0],4,Ans.pure [I a.fst,I b.fst] (I (a.fst-b.fst).sign)),([1,1,1,0],4,Ans.pure [L a.dig 1 qk,L b.dig 1 qk] (I (ae a.dig b.dig)))]
theorem q17(a b:Nm)(K:D->Prop):qn (En Tryz.f69) (fi Tryz.f69 K) (qts a b) q16 200 [.code []] ⟨qc 0 [a.d,b.d],.empty⟩ =
 (List.length a.dig<=q8->((!(↑(List.length a.dig):Int)==0)=true->List.length b.dig<=q8)->bif bif(↑(List.length a.dig):Int)==0 then true else(↑(List.length b.dig):Int)==0 then List.length a.dig<=q8->List.length b.dig<=q8->PureW PP 72 [I (↑(List.length a.dig):Int),I (↑(List.length b.dig):Int)] [I (↑(List.length a.dig):Int),I (↑(List.length b.dig):Int)] (I ((↑(List.length a.dig):Int)-(↑(List.length b.dig):Int)).sign)/\K (I ((↑(List.length a.dig):Int)-(↑(List.length b.dig):Int)).sign) else PureW PP 68 [a.d] [a.d] (I a.fst)/\PureW PP 68 [b.d] [b.d] (I b.fst)/\PureW PP 72 [I a.fst,I b.fst] [I a.fst,I b.fst] (I (a.fst-b.fst).sign)/\bif(a.fst-b.fst).sign !=0 then K (I (a.fst-b.fst).sign) else PureW PP 121 [L a.dig 1 qk,L b.dig 1 qk] [L a.dig 1 qk,L b.dig 1 qk] (I (ae a.dig b.dig))/\K (I (ae a.dig b.dig))):=by kernel_rfl
theorem c69(a b:Nm)(ha:a.dig.length<=1000000/\ -1000000<=a.ex/\a.ex<=1000000)(hb:b.dig.length<=1000000/\ -1000000<=b.ex/\b.ex<=1000000):Pure PP 69 [a.d,b.d] (I (nv a b)):=by
 refine pu F69 (by kernel_rfl) (of_eq (q17 a b _) fun _ _=>qa (fun h=> ?_) fun h=> ?_)
 ·have e:nv a b=((a.dig.length:Int)-(b.dig.length:Int)).sign:=by
   unfold nv
   rw[if_pos (show a.dig=[]\/b.dig=[] by simpa using h)]
  rw[e]
  exact fun _ _=>⟨PureW.mk (c72 _ _),Wk.refl _⟩
 ·have hn:¬(a.dig=[]\/b.dig=[]):=by
   rintro(h1|h1)
   ·rw[h1]at h;cases h
   ·rw[h1]at h
    cases hx:((a.dig.length:Int)==0) <;> rw[hx]at h <;> cases h
  refine⟨PureW.mk (c68 a (by omega) (by omega) ha.1),PureW.mk (c68 b (by omega) (by omega) hb.1),PureW.mk (c72 _ _),qa (fun h2=> ?_) fun h2=>⟨PureW.mk (q15 _ _),?_⟩⟩
  ·have e:nv a b=(a.fst-b.fst).sign:=by
    unfold nv
    rw[if_neg hn]
    rcases ql1 (a.fst-b.fst) with ⟨h3,h4⟩|⟨h3,h4⟩|⟨h3,h4⟩
    ·rw[if_pos (by omega),h4]
    ·rw[h4]at h2;cases h2
    ·rw[if_neg (by omega),if_pos (by omega),h4]
   rw[e];exact Wk.refl _
  ·have e:nv a b=ae a.dig b.dig:=by
    unfold nv
    have h3:a.fst-b.fst=0:=by simpa using h2
    rw[if_neg hn,if_neg (by omega),if_neg (by omega)]
   rw[e];exact Wk.refl _
theorem F45:OkF 45 Tryz.f45:=⟨by kernel_rfl,by kernel_rfl,by kernel_rfl⟩
def q18:List (List Nat×List Nat):=[]
noncomputable def qtt(a:Nm)(b:Nm):List Nat->Nat->Option Ans:=qf [([1,0,0],1,Ans.pure [a.d] (I (xm a))),([1,0,0],3,Ans.pure [b.d] (I (xm b))),([1,0,0],4,Ans.pure [I (xm a),I (xm b)] (I (xm a-xm b).sign)),([1,1,0],1,Ans.pure [a.d] (I (xm a))),([1,1,0],4,Ans.pure [a.d,b.d] (I (nv a b)))]
theorem q19(a b:Nm)(K:D->Prop):qn (En Tryz.f45) (fi Tryz.f45 K) (qtt a b) q18 200 [.code []] ⟨qc 0 [a.d,b.d],.empty⟩ =
 (PureW PP 65 [a.d] [a.d] (I (xm a))/\PureW PP 65 [b.d] [b.d] (I (xm b))/\PureW PP 72 [I (xm a),I (xm b)] [I (xm a),I (xm b)] (I (xm a-xm b).sign)/\bif(xm a-xm b).sign !=0 then K (I (xm a-xm b).sign) else PureW PP 65 [a.d] [a.d] (I (xm a))/\PureW PP 69 [a.d,b.d] [a.d,b.d] (I (nv a b))/\K (I (yt .i64 (xm a) (nv a b)))):=by kernel_rfl
theorem c45(a b:Nm)(ha:a.dig.length<=1000000/\ -1000000<=a.ex/\a.ex<=1000000)(hb:b.dig.length<=1000000/\ -1000000<=b.ex/\b.ex<=1000000)(hm : -1<=nv a b/\nv a b<=1):Pure PP 45 [a.d,b.d] (I (qko a b)):=by
 refine pu F45 (by kernel_rfl) (of_eq (q19 a b _) ⟨PureW.mk (c65 a),PureW.mk (c65 b),PureW.mk (c72 _ _),qa (fun h=> ?_) fun h=>⟨PureW.mk (c65 a),PureW.mk (c69 a b ha hb),?_⟩⟩)
 ·have h:(xm a-xm b).sign≠0:=by simpa using h
  unfold qko
  rw[if_pos h];exact Wk.refl _
 ·have h:¬(xm a-xm b).sign≠0:=by simpa using h
  have hs : -1<=xm a/\xm a<=1:=by
   unfold xm
   split
   ·omega
   ·split <;> omega
  have e:yt .i64 (xm a) (nv a b)=xm a*nv a b:=by
   refine IntWalk.i64_in _ ?_
   rcases(by omega:xm a = -1\/xm a=0\/xm a=1) with h1|h1|h1 <;> rw[h1] <;> omega
  unfold qko
  rw[if_neg h,e];exact Wk.refl _
end Go.Proofs.YtiekphbkomddfaaGreatDoor.S1
namespace Go.Proofs
open Go.Shelf
def Tryz.sv6_ren:Go.Shelf.Ren:=⟨fun|6=>37|10=>60|11=>61|12=>62|13=>63|14=>64|24=>108|25=>109|26=>110|27=>111|28=>112|29=>113|30=>114|31=>115|32=>116|33=>117|34=>135|35=>136|36=>137|37=>138|38=>139|39=>163|n=>n,fun|20=>20|26=>78|35=>118|0=>0|37=>120|3=>3|41=>123|44=>126|49=>165|51=>167|4=>4|54=>170|53=>169|58=>82|5=>5|9=>9|60=>194|64=>198|66=>219|67=>220|17=>17|32=>115|33=>116|82=>262|12=>12|75=>255|76=>256|77=>257|78=>258|79=>259|80=>260|n=>n,fun|n=>n⟩
theorem Tryz.sv6:Go.Proofs.LaysGg.n6 Tryz.prog Tryz.sv6_ren:={
 mixed:=by kernel_rfl
 f6:=Tryz.func37.trans (congrArg some (by kernel_rfl))
 f10:=Tryz.func60.trans (congrArg some (by kernel_rfl))
 f11:=Tryz.func61.trans (congrArg some (by kernel_rfl))
 f12:=Tryz.func62.trans (congrArg some (by kernel_rfl))
 f13:=Tryz.func63.trans (congrArg some (by kernel_rfl))
 f14:=Tryz.func64.trans (congrArg some (by kernel_rfl))
 f24:=Tryz.func108.trans (congrArg some (by kernel_rfl))
 f25:=Tryz.func109.trans (congrArg some (by kernel_rfl))
 f26:=Tryz.func110.trans (congrArg some (by kernel_rfl))
 f27:=Tryz.func111.trans (congrArg some (by kernel_rfl))
 f28:=Tryz.func112.trans (congrArg some (by kernel_rfl))
 f29:=Tryz.func113.trans (congrArg some (by kernel_rfl))
 f30:=Tryz.func114.trans (congrArg some (by kernel_rfl))
 f31:=Tryz.func115.trans (congrArg some (by kernel_rfl))
 f32:=Tryz.func116.trans (congrArg some (by kernel_rfl))
 f33:=Tryz.func117.trans (congrArg some (by kernel_rfl))
 f34:=Tryz.func135.trans (congrArg some (by kernel_rfl))
 f35:=Tryz.func136.trans (congrArg some (by kernel_rfl))
 f36:=Tryz.func137.trans (congrArg some (by kernel_rfl))
 f37:=Tryz.func138.trans (congrArg some (by kernel_rfl))
 f38:=Tryz.func139.trans (congrArg some (by kernel_rfl))
 f39:=Tryz.func163.trans (congrArg some (by kernel_rfl))
 t0:=Tryz.underlying0
 a0:=Tryz.isAgg0
 z0:=Tryz.sizeOf0
 v0:=Tryz.zeroValue0
 i0:=by kernel_rfl
 t3:=Tryz.underlying3
 a3:=Tryz.isAgg3
 z3:=Tryz.sizeOf3
 v3:=Tryz.zeroValue3
 i3:=by kernel_rfl
 t4:=Tryz.underlying4
 a4:=Tryz.isAgg4
 z4:=Tryz.sizeOf4
 v4:=Tryz.zeroValue4
 i4:=by kernel_rfl
 t5:=Tryz.underlying5
 a5:=Tryz.isAgg5
 z5:=Tryz.sizeOf5
 v5:=Tryz.zeroValue5
 i5:=by kernel_rfl
 t9:=Tryz.underlying9
 a9:=Tryz.isAgg9
 z9:=Tryz.sizeOf9
 v9:=Tryz.zeroValue9
 i9:=by kernel_rfl
 t12:=Tryz.underlying12
 a12:=Tryz.isAgg12
 z12:=Tryz.sizeOf12
 v12:=Tryz.zeroValue12
 i12:=by kernel_rfl
 t17:=Tryz.underlying17
 a17:=Tryz.isAgg17
 z17:=Tryz.sizeOf17
 v17:=Tryz.zeroValue17
 i17:=by kernel_rfl
 t20:=Tryz.underlying20
 a20:=Tryz.isAgg20
 z20:=Tryz.sizeOf20
 v20:=Tryz.zeroValue20
 i20:=by kernel_rfl
 t26:=Tryz.underlying78
 a26:=Tryz.isAgg78
 z26:=Tryz.sizeOf78
 v26:=Tryz.zeroValue78
 i26:=by kernel_rfl
 t32:=Tryz.underlying115
 a32:=Tryz.isAgg115
 z32:=Tryz.sizeOf115
 v32:=Tryz.zeroValue115
 i32:=by kernel_rfl
 t33:=Tryz.underlying116
 a33:=Tryz.isAgg116
 z33:=Tryz.sizeOf116
 v33:=Tryz.zeroValue116
 i33:=by kernel_rfl
 t35:=Tryz.underlying118
 a35:=Tryz.isAgg118
 z35:=Tryz.sizeOf118
 v35:=Tryz.zeroValue118
 i35:=by kernel_rfl
 t37:=Tryz.underlying120
 a37:=Tryz.isAgg120
 z37:=Tryz.sizeOf120
 v37:=Tryz.zeroValue120
 i37:=by kernel_rfl
 t41:=Tryz.underlying123
 a41:=Tryz.isAgg123
 z41:=Tryz.sizeOf123
 v41:=Tryz.zeroValue123
 i41:=by kernel_rfl
 t44:=Tryz.underlying126
 a44:=Tryz.isAgg126
 z44:=Tryz.sizeOf126
 v44:=Tryz.zeroValue126
 i44:=by kernel_rfl
 t49:=Tryz.underlying165
 a49:=Tryz.isAgg165
 z49:=Tryz.sizeOf165
 v49:=Tryz.zeroValue165
 i49:=by kernel_rfl
 t51:=Tryz.underlying167
 a51:=Tryz.isAgg167
 z51:=Tryz.sizeOf167
 v51:=Tryz.zeroValue167
 i51:=by kernel_rfl
 t53:=Tryz.underlying169
 a53:=Tryz.isAgg169
 z53:=Tryz.sizeOf169
 v53:=Tryz.zeroValue169
 i53:=by kernel_rfl
 t54:=Tryz.underlying170
 a54:=Tryz.isAgg170
 z54:=Tryz.sizeOf170
 v54:=Tryz.zeroValue170
 i54:=by kernel_rfl
 t58:=Tryz.underlying82
 a58:=Tryz.isAgg82
 z58:=Tryz.sizeOf82
 v58:=Tryz.zeroValue82
 i58:=by kernel_rfl
 t60:=Tryz.underlying194
 a60:=Tryz.isAgg194
 z60:=Tryz.sizeOf194
 v60:=Tryz.zeroValue194
 i60:=by kernel_rfl
 t64:=Tryz.underlying198
 a64:=Tryz.isAgg198
 z64:=Tryz.sizeOf198
 v64:=Tryz.zeroValue198
 i64:=by kernel_rfl
 t66:=Tryz.underlying219
 a66:=Tryz.isAgg219
 z66:=Tryz.sizeOf219
 v66:=Tryz.zeroValue219
 i66:=by kernel_rfl
 t67:=Tryz.underlying220
 a67:=Tryz.isAgg220
 z67:=Tryz.sizeOf220
 v67:=Tryz.zeroValue220
 i67:=by kernel_rfl
 t75:=Tryz.underlying255
 a75:=Tryz.isAgg255
 z75:=Tryz.sizeOf255
 v75:=Tryz.zeroValue255
 i75:=by kernel_rfl
 t76:=Tryz.underlying256
 a76:=Tryz.isAgg256
 z76:=Tryz.sizeOf256
 v76:=Tryz.zeroValue256
 i76:=by kernel_rfl
 t77:=Tryz.underlying257
 a77:=Tryz.isAgg257
 z77:=Tryz.sizeOf257
 v77:=Tryz.zeroValue257
 i77:=by kernel_rfl
 t78:=Tryz.underlying258
 a78:=Tryz.isAgg258
 z78:=Tryz.sizeOf258
 v78:=Tryz.zeroValue258
 i78:=by kernel_rfl
 t79:=Tryz.underlying259
 a79:=Tryz.isAgg259
 z79:=Tryz.sizeOf259
 v79:=Tryz.zeroValue259
 i79:=by kernel_rfl
 t80:=Tryz.underlying260
 a80:=Tryz.isAgg260
 z80:=Tryz.sizeOf260
 v80:=Tryz.zeroValue260
 i80:=by kernel_rfl
 t82:=Tryz.underlying262
 a82:=Tryz.isAgg262
 z82:=Tryz.sizeOf262
 v82:=Tryz.zeroValue262
 i82:=by kernel_rfl}
noncomputable def Tryz.svT:TypeInfo:=(Tryz.prog.info? 32).get (by kernel_rfl)
noncomputable def Tryz.svE:TypeInfo:=(Tryz.prog.info? 58).get (by kernel_rfl)
theorem Tryz.svK(n:Nat)(h2:2<=n):Lib.swapperK n Tryz.svE 25=9:=by
 have a:Tryz.svE.hasPointers=false:=by kernel_rfl
 have b:Tryz.svE.bytes=16:=by kernel_rfl
 have c:(n==0)=false:=by simp;omega
 have d:(n==1)=false:=by simp;omega
 simp[Lib.swapperK,a,b,c,d]
end Go.Proofs
namespace Go.Proofs.YtiekphbkomddfaaGreatDoor.S1
open Go Go.Ab Go.Proofs
def ir(x:Iv):List Value:=[.int .i64 x.frm,.int .i64 x.to]
def mh(x y:Iv):Bool:=decide (x.frm<y.frm)
theorem qx7:Go.Sort.SWO mh where
 irrefl x:=by unfold mh;simp
 trans x y z h1 h2:=by unfold mh at *;simp at *;omega
 ntrans x y z h1 h2:=by unfold mh at *;simp at *;omega
def cn(es:List Iv):List Iv:=if es.length<=1 then es else(Go.Sort.pdq mh es.toArray 0 es.length (Go.Lib.bitLen es.length) true true).toList
theorem qbv(es:List Iv):(cn es).Perm es/\(cn es).Pairwise fun x y=>x.frm<=y.frm:=by
 unfold cn
 split
 ·rename_i h
  refine⟨List.Perm.refl _,?_⟩
  rcases es with _|⟨x,_|⟨y,r⟩⟩
  ·exact List.Pairwise.nil
  ·simp
  ·simp at h
 have h:=Go.Sort.pdq_sorts mh qx7 es.toArray 0 es.length (Go.Lib.bitLen es.length) true true (Nat.zero_le _) (by simp) (Or.inl rfl)
 obtain⟨⟨h1,_,h2⟩,h3⟩:=h
 have hsz:(Go.Sort.pdq mh es.toArray 0 es.length (Go.Lib.bitLen es.length) true true).size=es.length:=by rw[h1];simp
 generalize Go.Sort.pdq mh es.toArray 0 es.length (Go.Lib.bitLen es.length) true true=A at *
 refine⟨?_,?_⟩
 ·have e1:A.extract 0 es.length=A:=by rw[<-hsz];simp
  have e2:es.toArray.extract 0 es.length=es.toArray:=by simp
  rw[e1,e2]at h2
  exact h2
 ·rw[List.pairwise_iff_getElem]
  intro i j hi hj hij
  have hi':i<A.size:=by simpa using hi
  have hj':j<A.size:=by simpa using hj
  have:=h3 i j (Nat.zero_le _) hij (by omega)
  rw[getElem!_pos _ i hi',getElem!_pos _ j hj']at this
  unfold mh at this
  simp at this⊢
  omega
theorem ow(es:List Iv):(cn es).length=es.length:=(qbv es).1.length_eq
theorem Inv.vrow[Lay]{g:G}{U:Nat->Prop}{bx:Nat->Option Row}{nl nt t n:Nat}{hw:Nat->Option Nat}{vw:Nat->Option (Nat->D)}{f f':Nat->D}{w w':World}{k:Tok}{b T:Nat}{vals':Array Value}
  (i:Inv g U ⟨bx,nl,hw,nt,upd vw t (some f)⟩ w) (hn:hw t=some n) (hk:g.τ t=some k) (hcap:0<k.cap) (ha:k.a=some ⟨b,0,none⟩)
  (hb':RowB w' b vals' T) (hsz:k.cap*k.sz<=vals'.size/\T=k.ty) (hf:∀i,i<k.n->∃u,R g (f' i) u/\(u.cells.size=k.sz/\ones (f' i)=true)/\∀j,j<k.sz->vals'[i*k.sz+j]? = u.cells[j]?)
  (hs:w.heap.size<=w'.heap.size) (ho:∀k,k≠b->k<w.heap.size->w'.heap[k]? = w.heap[k]?):Inv g U ⟨bx,nl,hw,nt,upd vw t (some f')⟩ w':=by
 have hA:∀(t':Nat) (k':Tok),gq k' (upd vw t (some f') t')↔gq k' (upd vw t (some f) t'):=fun t' k'=>by
  by_cases h:t'=t
  ·subst h;rw[qb,qb];rfl
  ·rw[qd _ _ h,qd _ _ h]
 obtain⟨k0,e1,e2,e3⟩:=i.tok t n hn
 rw[hk]at e1;cases e1
 have hvt:(upd vw t (some f)) t=some f:=qb _ _ _
 have hact:gq k (upd vw t (some f) t):=by rw[hvt];exact hcap
 have hTk:=e3 hact
 obtain⟨b0,f1,f2,T0,vals,f3,f4,f5,f6⟩:=id hTk
 rw[ha]at f1;cases f1
 have hsg:∀a v,g.σ a=some v->a.block≠b:=fun a v e hb=>by
  obtain⟨_,h2⟩:=i.sub a v e
  obtain⟨bl,off,sp⟩:=a
  simp only at h2 hb
  subst h2;subst hb
  have hl:sd k (upd vw t (some f) t)=0:=by rw[hvt];rfl
  have:=f5 off (by show sd k (upd vw t (some f) t)*k.sz<=off;rw[hl];omega)
  rw[this]at e;cases e
 have cellEq:∀{a:Addr},a.block≠b->a.block<w.heap.size->w'.cell? a=w.cell? a:=fun h1 h2=>by simp only[World.cell?,ho _ h1 h2]
 refine⟨fun a v e=> ?_,fun k hk=>Nat.lt_of_lt_of_le (i.ub k hk) hs,fun l' k e=>Nat.lt_of_lt_of_le (i.muLt l' k e) hs,fun l' r e=> ?_,i.boxInj,fun t' m e=> ?_,fun t' m k' bb l' e f1 f2 f3 f4=>i.tokBox t' m k' bb l' e f1 ((hA t' k').1 f2) f3 f4,fun t1 t2 n1 n2 k1 k2 bb a1 a2 a3 a4 a5 a6 a7 a8=>i.tokInj t1 t2 n1 n2 k1 k2 bb a1 a2 a3 a4 ((hA t1 k1).1 a5) ((hA t2 k2).1 a6) a7 a8,i.frL,i.frT,fun t' ht'=> ?_,⟨i.ltab.1,fun b1 cs hr=>by
  obtain⟨T1,fz1,h1⟩:=i.ltab.2 b1 cs hr
  obtain⟨hp,hh⟩:=Lay.has b1 cs hr
  obtain⟨v,hv⟩:=hh 0 hp
  exact⟨T1,fz1,(ho b1 (hsg _ v (i.ltab.1 _ _ hv)) (jg h1)).trans h1⟩⟩⟩
 ·obtain⟨h1,h2⟩:=i.sub a v e
  exact⟨(cellEq (hsg a v e) (i.cellLt e)).trans h1,h2⟩
 ·obtain⟨b1,g1,g2,g4,g5⟩:=i.box l' r e
  have hne:b1≠b:=fun h=>by subst h;exact i.tokBox t n k _ l' hn hk hact ha (by show bx l'≠none;have e:bx l'=some r:=e;rw[e];simp) g1
  exact⟨b1,g1,g2.mono (G.le.refl g) (ho _ hne (i.muLt l' b1 g1)),g4,g5⟩
 ·obtain⟨k',g1,g2,g3⟩:=i.tok t' m e
  refine⟨k',g1,g2,fun hk'=> ?_⟩
  have hk'':=(hA t' k').1 hk'
  by_cases h:t'=t
  ·subst h
   rw[hk]at g1;cases g1
   show TokAt g w' U k (upd vw t' (some f') t')
   rw[qb]
   refine⟨b,ha,f2,T,vals',hb',hsz,fun j hj=>f5 j (by show sd k (upd vw t' (some f) t')*k.sz<=j;rw[hvt];exact hj),fun get hget=> ?_⟩
   cases hget
   exact⟨(f6 f hvt).1,hf⟩
  ·have h5:=g3 hk''
   have h6:(⟨bx,nl,hw,nt,upd vw t (some f')⟩:Heap).vw t'=(⟨bx,nl,hw,nt,upd vw t (some f)⟩:Heap).vw t':=by
    show upd vw t (some f') t'=upd vw t (some f) t'
    rw[qd _ _ h,qd _ _ h]
   rw[h6]
   refine h5.mono (G.le.refl g) fun bt c1 hlt=>⟨ho _ (fun hb=> ?_) hlt,fun _ h=>h⟩
   subst hb
   exact h (i.tokInj t' t m n k' k _ e hn g1 hk hk'' hact c1 ha)
 ·have:=i.frV t' ht'
  have hne:t'≠t:=fun h=>by
   subst h
   have:(upd vw t' (some f)) t'=none:=this
   rw[qb]at this;cases this
  show upd vw t (some f') t'=none
  rw[qd _ _ hne]
  have h7:upd vw t (some f) t'=none:=this
  rw[qd _ _ hne]at h7
  exact h7
open Go.Shelf Go.RowKit Go.Lib Go.Sort in
set_option maxHeartbeats 2000000 in
theorem qtu(blk c Bs o size:Nat)(W:World)(G:Nat->Int)(hs:W.cell? ⟨Bs,o,none⟩=some (.slice (some ⟨blk,0,none⟩) size c))
  (hc:∀t,t<size->W.cell? ⟨blk,t*2,none⟩=some (.int .i64 (G t))) (i j:Nat) (hi:i<size) (hj:j<size) (_hsz:size<4611686018427387904) :
  Calls Tryz.prog 38 #[.int .i64 i,.int .i64 j,.pointer (some ⟨Bs,o,none⟩)] W fun e w'=>e = .returned (.bool (decide (G i<G j)))/\∃q,w'=W.drewN q:=by
 have ci:=hc i hi
 have cj:=hc j hj
 go_enter Tryz.func38,Tryz.ntmps38
 go_wp2
 go_quiet (fail)
 go_wp2
 go_ret
 exact⟨rfl,nq,rfl⟩
open Go.Shelf Go.RowKit Go.Lib Go.Sort in
theorem qtv(blk c Bs o:Nat)(d:Array Iv)(h2:2<=d.size)(hsz:d.size<4611686018427387904)(w:World)(hH:HoldsK ir 2 w blk 0 d)(hblk:blk<w.heap.size)
  (hBs:w.cell? ⟨Bs,o,none⟩=some (.slice (some ⟨blk,0,none⟩) d.size c)) (hB1:Bs<w.heap.size) (hB2:Bs≠blk) :
  Calls Tryz.prog 37 #[.iface 32 (.slice (some ⟨blk,0,none⟩) d.size c),.func (.func 38) #[] #[.pointer (some ⟨Bs,o,none⟩)]] w fun e w' =>
   e = .returned (.tuple #[])/\∃n os,w'=grow (putRowK ir 2 (Sort.ahead w n) blk 0 (pdq mh d 0 d.size (Lib.bitLen d.size) true true)) os:=by
 have hless:LessReadsK Tryz.prog 38 #[.pointer (some ⟨Bs,o,none⟩)] ir 2 mh blk 0 d.size w:=by
  intro m os dk hs i j hi hj
  have e:sortWorldK ir 2 w blk 0 m dk os=putRowK ir 2 (grow (Sort.ahead w m) os) blk 0 dk:=by
   unfold sortWorldK;rw[putRowK_grow _ _ (Sort.ahead w m) _ blk 0 _ hblk]
  have hHg:HoldsK ir 2 (grow (Sort.ahead w m) os) blk 0 d:=holdsK_grow _ _ _ _ blk 0 d hblk (holdsK_ahead _ _ _ _ _ _ _ hH)
  refine qtu blk c Bs o d.size _ (fun t=>dk[t]!.frm) ?_ (fun t ht=> ?_) i j hi hj (by omega)
  ·rw[e,cell?_putRowK_other _ _ _ blk 0 dk _ (by exact hB2),cell?_grow _ _ _ (by exact hB1)];exact hBs
  ·rw[e]
   have:=((holdsK_putRowK _ _ _ blk 0 d dk hHg hs).cell (i:=t) (c:=0) (by omega) (by omega)).1
   rw[show 0+t*2+0=t*2 by omega]at this
   exact this
 exact Any.sort_Slice_cells_eq Tryz.sv6 32 58 Tryz.svT Tryz.svE (by kernel_rfl) (by kernel_rfl) (by kernel_rfl) (by kernel_rfl) 25 (fun _=>by kernel_rfl) ir 2 (fun _=>rfl) (by kernel_rfl) (fun _=>by kernel_rfl)
  (fun x v hv=>by simp[ir]at hv;rcases hv with rfl|rfl <;> rfl) mh qx7 38 _
  (enters_of Tryz.func38 (by kernel_rfl) rfl) blk 0 c d h2 hsz 107 (by rw[Tryz.svK _ h2];kernel_rfl) false
  (fun args W=>run_callFunc_extern Tryz.func107 (by kernel_rfl) (by kernel_rfl) (by kernel_rfl) (e:=Extern.ReflectliteSwapper.swap false) (by kernel_rfl) args W) w hless hH hblk
open Go.Shelf Go.RowKit Go.Lib Go.Sort in
theorem qtw(p:Option Addr)(n c:Nat)(h1:n<=1)(la lb:Array Value)(lf:Fn)(w:World) :
  Calls Tryz.prog 37 #[.iface 32 (.slice p n c),.func lf la lb] w fun e w'=>e = .returned (.tuple #[])/\∃os,w'=grow w os:=by
 rcases(by omega:n=0\/n=1) with rfl|rfl
 ·exact Any.sort_Slice_tiny Tryz.sv6 32 58 Tryz.svT Tryz.svE (by kernel_rfl) (by kernel_rfl) (by kernel_rfl) (by kernel_rfl) 25 (fun _=>by kernel_rfl) p 0 c (by omega) 99 (by kernel_rfl) lf la lb w
 ·exact Any.sort_Slice_tiny Tryz.sv6 32 58 Tryz.svT Tryz.svE (by kernel_rfl) (by kernel_rfl) (by kernel_rfl) (by kernel_rfl) 25 (fun _=>by kernel_rfl) p 1 c (by omega) 100 (by kernel_rfl) lf la lb w
open Go.Shelf Go.RowKit Go.Lib Go.Sort in
theorem qpw{w:World}{b n:Nat}{d:Array Iv}{os:Array Obj}{vals:Array Value}{T:Nat}{fz:Nat×Nat}(hb:w.heap[b]? = some (.cells vals T fz)) :
  (sortWorldK ir 2 w b 0 n d os).heap[b]? = some (.cells (putCells id 0 (flatK ir 2 d) vals) T fz)/\(∀k,k≠b->k<w.heap.size->(sortWorldK ir 2 w b 0 n d os).heap[k]? = w.heap[k]?)/\w.heap.size<=(sortWorldK ir 2 w b 0 n d os).heap.size /\
   (sortWorldK ir 2 w b 0 n d os).os=w.os/\(sortWorldK ir 2 w b 0 n d os).tape=w.tape/\(sortWorldK ir 2 w b 0 n d os).output=w.output:=by
 have hlt:b<w.heap.size:=jg hb
 refine⟨?_,fun k hk hkl=> ?_,?_,rfl,rfl,rfl⟩
 ·simp only[sortWorldK,grow,putRowK,putRow,mapBlock,Sort.ahead]
  rw[Array.getElem?_append_left (by simpa using hlt),Array.getElem?_modify,if_pos rfl,hb]
  rfl
 ·simp only[sortWorldK,grow,putRowK,putRow,mapBlock,Sort.ahead]
  rw[Array.getElem?_append_left (by simpa using hkl),Array.getElem?_modify,if_neg (fun h=>hk h.symm)]
 ·simp[sortWorldK,grow,putRowK,putRow,mapBlock,Sort.ahead]
def qf5(es:List Iv)(j:Nat):Int:=if j % 2=0 then(es.getD (j / 2) default).frm else(es.getD (j / 2) default).to
theorem qf6{es:List Iv}{i:Nat}(h:i<es.length):es.getD i default=es[i]:=by simp[List.getD,h]
theorem qib(es:List Iv)(j:Nat)(h:j<es.length*2):(Go.Sort.flatK ir 2 es.toArray)[j]! = .int .i64 (qf5 es j):=by
 rw[Go.Sort.get_flatK _ _ _ _ (by simpa using h)]
 have hj:j / 2<es.length:=by omega
 have e:es.toArray[j / 2]! = es.getD (j / 2) default:=by
  rw[getElem!_pos _ _ (by simpa using hj),qf6 hj];simp
 rw[e]
 unfold qf5
 rcases(by omega:j % 2=0\/j % 2=1) with h|h <;> rw[h] <;> rfl
theorem q2a{g:G}{x:Iv}{u:Value}(h:R g (Iv.d x) u):u = .agg #[.int .i64 x.frm,.int .i64 x.to]:=by
 simp only[Iv.d,R,Rs]at h
 obtain⟨vs,rfl,_,_,rfl,rfl,_,_,rfl,rfl,rfl⟩:=h
 rfl
theorem q2b(g:G)(x:Iv):R g (Iv.d x) (.agg #[.int .i64 x.frm,.int .i64 x.to]):=by
 simp only[Iv.d,R,Rs]
 exact⟨[.int .i64 x.frm,.int .i64 x.to],rfl,_,_,rfl,rfl,_,_,rfl,rfl,rfl⟩
theorem qdd(w:World)(os:Array Obj):RowKit.Below w.heap.size w (Go.Sort.grow w os) :=
 ⟨rfl,rfl,rfl,by simp[Go.Sort.grow],fun k hk=>Go.Sort.heap_grow_old w os hk⟩
open Go.Shelf Go.RowKit Go.Lib Go.Sort in
theorem e37[Lay](es:List Iv)(hl:es.length<=1000000):Does PP 37 [.iface 32 (.vec 0 es.length 2),.clo 38 [.ep [.vec 0 es.length 2]]] (zn es Iv.d) (.tup []) (zn (cn es) Iv.d):=by
 refine Does.of_calls ⟨Tryz.f37,by kernel_rfl,by kernel_rfl,by kernel_rfl⟩ fun g U w vs i hs=> ?_
 simp only[Rs,R]at hs
 obtain⟨_,_,rfl,⟨u,rfl,_,a,cap,rfl,hcap,k,hk,hks,hkn,hka⟩,_,_,rfl,⟨cvs,rfl,_,_,rfl,⟨p,pvs,rfl,hp,⟨_,_,rfl,⟨_,a2,cap2,rfl,hcap2,k2,hk2,hks2,hkn2,hka2⟩,rfl⟩,hσ⟩,rfl⟩,rfl⟩:=hs
 have hhw:(zn es Iv.d).hw 0=some es.length:=rfl
 obtain⟨k3,e1,e2,e3⟩:=i.tok 0 es.length hhw
 rw[hk]at e1 hk2
 cases e1;cases hk2
 obtain⟨rfl,rfl⟩:=hka e2.symm
 obtain⟨rfl,rfl⟩:=hka2 e2.symm
 by_cases h1:es.length<=1
 ·refine(qtw k.a es.length k.cap h1 #[] _ _ w).mono fun e w' ⟨he,os,hw'⟩=> ?_
  subst hw'
  have x:Ext g w g (grow w os):=⟨G.le.refl g,rfl,rfl,fun _ _ e=> .inl e,fun a v e=>⟨(cell?_grow w os a (i.cellLt e)).trans (i.sub a v e).1,(i.sub a v e).2⟩,qdd w os⟩
  have hse:cn es=es:=if_pos h1
  rw[hse]
  exact⟨.tuple #[],g,he,by simp[R,Rs],i.ext x,Grow.refl U g,x.kept i.ub⟩
 have h2:2<=es.length:=by omega
 have hc0:0<k.cap:=by omega
 have hvw:(zn es Iv.d).vw 0=some (cv es Iv.d):=rfl
 have hTk:=e3 (by rw[hvw];exact hc0)
 rw[hvw]at hTk
 obtain⟨b,f1,f2,T,vals,⟨fz,f3,hfz⟩,f4,f5,f6⟩:=hTk
 obtain⟨f7,f8⟩:=f6 _ rfl
 rw[f1]
 rw[hks]at f4 f8
 rw[e2]at f7 f8
 have hlt:b<w.heap.size:=jg f3
 obtain⟨Bs,o,sp⟩:=p
 simp only at hp hσ
 subst hp
 have hσ0:=hσ 0 (by simp)
 simp only[Nat.add_zero,List.getElem?_cons_zero]at hσ0
 have hB:=(i.sub _ _ hσ0).1
 have hB1:Bs<w.heap.size:=i.cellLt hσ0
 have hB2:Bs≠b:=fun h=>by
  subst h
  have:=f5 o (Nat.le_trans (by show 0*k.sz<=0;omega) (Nat.zero_le _))
  rw[this]at hσ0;cases hσ0
 have hH:HoldsK ir 2 w b 0 es.toArray:=by
  intro j hj
  have hj':j<es.length*2:=by simpa using hj
  obtain⟨u,h3,h4,h5⟩:=f8 (j / 2) (by omega)
  have hu:=q2a h3
  subst hu
  have h6:=h5 (j % 2) (by omega)
  rw[show j / 2*2+j % 2=j by omega]at h6
  have hv:vals[j]? = some (.int .i64 (qf5 es j)):=by
   rw[h6]
   unfold qf5
   rcases(by omega:j % 2=0\/j % 2=1) with h|h <;> rw[h] <;> rfl
  rw[qib es j hj']
  simp only[World.cell?,World.frozen?,f3,Nat.zero_add]
  refine⟨hv,?_⟩
  have:=hfz j (by omega)
  rw[<-Bool.not_eq_true,Bool.and_eq_true,decide_eq_true_eq,decide_eq_true_eq]
  exact this
 rw[f1]at hB
 refine(qtv b k.cap Bs o es.toArray (by simpa using h2) (by simp;omega) w hH hlt (by simpa using hB) hB1 hB2).mono fun e w' ⟨he,n,os,hw'⟩=> ?_
 subst hw'
 have hsz:es.toArray.size=es.length:=by simp
 rw[hsz]
 obtain⟨g1,g2,g3,g4,g5,g6⟩:=qpw (n:=n) (d:=pdq mh es.toArray 0 es.length (Lib.bitLen es.length) true true) (os:=os) f3
 have hd:pdq mh es.toArray 0 es.length (Lib.bitLen es.length) true true=(cn es).toArray:=by simp[cn,h1]
 rw[hd]at g1 g2 g3 g4 g5 g6⊢
 have hlen:=ow es
 refine⟨.tuple #[],g,he,by simp[R,Rs],?_,Grow.refl U g,⟨g4,g5,g6,g3,fun k hk=>g2 k (fun h=>f2 (h▸hk)) (i.ub k hk),fun k hk=> ?_⟩⟩
 ·have hH2:zn (cn es) Iv.d=⟨fun _=>none,0,upd (fun _=>none) 0 (some es.length),1,upd (fun _=>none) 0 (some (cv (cn es) Iv.d))⟩:=by
   unfold zn;rw[hlen]
  rw[hH2]
  have hps:qre fz (putCells id 0 (flatK ir 2 (cn es).toArray) vals).size:=by
   have:(putCells id 0 (flatK ir 2 (cn es).toArray) vals).size=vals.size:=by simp[putCells]
   rw[this];exact hfz
  refine Inv.vrow (k:=k) (b:=b) i hhw hk hc0 f1 ⟨fz,g1,hps⟩ ⟨by rw[hks];simp[putCells];exact f4.1,f4.2⟩ (fun q hq=> ?_) g3 g2
  rw[e2]at hq
  refine⟨_,q2b g _,⟨by rw[hks];rfl,rfl⟩,fun j hj=> ?_⟩
  rw[hks]at hj⊢
  have hq2:q*2+j<(cn es).length*2:=by omega
  have hcell:=qib (cn es) (q*2+j) hq2
  have hvs:q*2+j<vals.size:=by omega
  have hget:(putCells id 0 (flatK ir 2 (cn es).toArray) vals)[q*2+j]? = some (.int .i64 (qf5 (cn es) (q*2+j))):=by
   rw[<-hcell]
   simp[putCells,Array.getElem?_eq_getElem hvs,hq2]
  rw[hget]
  unfold qf5
  rw[show(q*2+j) / 2=q by omega,show(q*2+j) % 2=j by omega]
  rcases(by omega:j=0\/j=1) with rfl|rfl <;> rfl
 ·by_cases hkb:k=b
  ·subst hkb
   rw[f3]at hk;cases hk
  ·exact(g2 k hkb (jg hk)).trans hk
def za(f t:Int)(x:Iv):Option Iv :=
 if(if f > x.frm then f else x.frm)<=(if t<x.to then t else x.to) then some ⟨if f > x.frm then f else x.frm,if t<x.to then t else x.to⟩ else none
def yo(out:List Iv):Iv:=out.getD (out.length-1) default
def mrg(out:List Iv)(x:Iv):List Iv :=
 if out≠[]/\x.frm<=qg .i64 (yo out).to 1 then out.set (out.length-1) ⟨(yo out).frm,if x.to > (yo out).to then x.to else(yo out).to⟩ else out++[x]
def loT(f:Int):Int:=if 0 > f then 0 else f
def hiT(t:Int):Int:=if 1099511627776<t then 1099511627776 else t
def jn(l:List Iv)(f t:Int):List Iv:=(cn (l.filterMap (za (loT f) (hiT t)))).foldl mrg []
theorem qne(out:List Iv)(x:Iv):(mrg out x).length<=out.length+1:=by
 unfold mrg
 split <;> simp
theorem F20:OkF 20 Tryz.f20:=⟨by kernel_rfl,by kernel_rfl,by kernel_rfl⟩
def q2c:List (List Nat×List Nat):=[([1,1,1,0,1,0],[1,2,7,18,19,20]),([1,1,1,1,1,1,0,1,0],[10,48,49,50])]
noncomputable def q2d:List Nat->Nat->Option Ans:=qf []
theorem nic[Lay](l:List Iv)(f t:Int)(K:D->Heap->Prop):qn (EnV [] [42,87] Tryz.f20) (fh Tryz.f20 K) (q2d ) q2c 200 [.code []] ⟨qc 0 [L l 2 Iv.d,I f,I t],.empty⟩ =
 (l.length<=q8->At (EnV [] [42,87] Tryz.f20) (fh Tryz.f20 K) [It.code [1,1,1,0,1,0],It.blk 0,It.code [1,1,1,1]] {sl:=[(1,I (if 0 > f then 0 else f)),(2,I (if 1099511627776<t then 1099511627776 else t)),(7,.own [.list 0 0 (fun _=>D.junk) .full]),(18,L l 2 Iv.d),(19,I (↑l.length:Int)),(20,I 0)],h:=Heap.empty:St}):=by kernel_rfl
def Sic(l out:List Iv)(f t i:Int):St:=⟨[(1,I f),(2,I t),(7,.own [.vec 0 out.length 2]),(18,L l 2 Iv.d),(19,I l.length),(20,I i)],zn out Iv.d⟩
def q2e:List (List Nat×List Nat):=[([1,1,1,1],[7])]
noncomputable def qtx:List Nat->Nat->Option Ans:=qf []
theorem q2f[Lay](l out:List Iv)(f t i:Int)(J:St->Prop)(K:D->Heap->Prop):qn (EnV [] [42,87] Tryz.f20) (fh Tryz.f20 K) (qtx ) q2e 200 [.code [1,1,1,0,1,0,0],stp [1,2,7,18,19,20] J,.blk 0,.code [1,1,1,1]] (Sic l out f t i)=
 (bif decide (i<(↑l.length:Int)) then(0<=i/\i<(↑l.length:Int))/\True/\True/\True/\bif decide ((if f > (l.getD i.toNat default).frm then f else(l.getD i.toNat default).frm)<=if t<(l.getD i.toNat default).to then t else(l.getD i.toNat default).to) then(upd (fun _=>none) 0 (some out.length) 0=some out.length/\(out.length+1)*16<=q7)/\True/\J {sl:=[(1,I f),(2,I t),(7,.own [D.vec 0 (out.length+1) 2]),(18,L l 2 Iv.d),(19,I (↑l.length:Int)),(20,I (qg .i64 i 1))],h:={box:=fun _=>none,nl:=0,hw:=upd (upd (fun _=>none) 0 (some out.length)) 0 (some (out.length+1)),nt:=1,vw:=upd (upd (fun _=>none) 0 (some (cv out Iv.d))) 0 (some (zo out.length (cv out Iv.d) (zf [.agg [I (if f > (l.getD i.toNat default).frm then f else(l.getD i.toNat default).frm),I (if t<(l.getD i.toNat default).to then t else(l.getD i.toNat default).to)]]))):Heap}:St} else J {sl:=[(1,I f),(2,I t),(7,.own [D.vec 0 out.length 2]),(18,L l 2 Iv.d),(19,I (↑l.length:Int)),(20,I (qg .i64 i 1))],h:={box:=fun _=>none,nl:=0,hw:=upd (fun _=>none) 0 (some out.length),nt:=1,vw:=upd (fun _=>none) 0 (some (cv out Iv.d)):Heap}:St} else At (EnV [] [42,87] Tryz.f20) (fh Tryz.f20 K) [It.code [1,1,1,1]] {sl:=[(7,.own [D.vec 0 out.length 2])],h:={box:=fun _=>none,nl:=0,hw:=upd (fun _=>none) 0 (some out.length),nt:=1,vw:=upd (fun _=>none) 0 (some (cv out Iv.d)):Heap}:St}):=by kernel_rfl
def q2g:List (List Nat×List Nat):=[([1,1,1,1,1,1,0,1,0],[10,48,49,50])]
noncomputable def qty(out:List Iv):List Nat->Nat->Option Ans:=qf [([1,1,1,1,0],3,Ans.eff (.tup []) (zn (cn out) Iv.d))]
theorem q2h[Lay](out:List Iv)(K:D->Heap->Prop):qn (EnV [] [42,87] Tryz.f20) (fh Tryz.f20 K) (qty out) q2g 200 [.code [1,1,1,1]] ⟨[(7,.ep [.vec 0 out.length 2])],zn out Iv.d⟩ =
 (Does PP 37 [D.iface 32 (D.vec 0 out.length 2),D.clo 38 [D.ep [D.vec 0 out.length 2]]] {box:=fun _=>none,nl:=0,hw:=upd (fun _=>none) 0 (some out.length),nt:=1,vw:=upd (fun _=>none) 0 (some (cv out Iv.d)):Heap} (.tup []) (zn (cn out) Iv.d)/\(out.length<=q8->At (EnV [] [42,87] Tryz.f20) (fh Tryz.f20 K) [It.code [1,1,1,1,1,1,0,1,0],It.blk 2,It.code [1,1,1,1,1,1,1]] {sl:=[(10,.list 0 0 (fun _=>D.junk) .full),(48,D.vec 0 out.length 2),(49,I (↑out.length:Int)),(50,I 0)],h:={box:=fun _=>none,nl:=0,hw:=upd (fun _=>none) 0 (some (cn out).length),nt:=1,vw:=upd (fun _=>none) 0 (some (cv (cn out) Iv.d)):Heap}:St})):=by kernel_rfl
def Sie(q out:List Iv)(i:Int):St:=⟨[(10,.vec 1 out.length 2),(48,L q 2 Iv.d),(49,I q.length),(50,I i)],⟨fun _=>none,0,upd (fun _=>none) 1 (some out.length),2,upd (fun _=>none) 1 (some (cv out Iv.d))⟩⟩
noncomputable def qtz:List Nat->Nat->Option Ans:=qf []
theorem q2i[Lay](q out:List Iv)(i:Int)(J:St->Prop)(K:D->Heap->Prop):qn (EnV [] [42,87] Tryz.f20) (fh Tryz.f20 K) (qtz ) p8 200 [.code [1,1,1,1,1,1,0,1,0,0],stp [10,48,49,50] J,.blk 2,.code [1,1,1,1,1,1,1]] (Sie q out i)=
 (bif decide (i<(↑q.length:Int)) then
 (0<=i/\i<(↑q.length:Int))/\
  True /\
   (out.length<=q8 ->
    (decide ((↑out.length:Int) > 0)=true->upd (fun _=>none) 1 (some out.length) 1=some out.length/\0<=qj .i64 (↑out.length:Int) 1/\qj .i64 (↑out.length:Int) 1<(↑out.length:Int))/\
     (decide ((↑out.length:Int) > 0)=true->upd (fun _=>none) 1 (some out.length) 1=some out.length)/\
      bif bif decide ((↑out.length:Int) > 0) then decide ((q.getD i.toNat default).frm<=qg .i64 (out.getD (qj .i64 (↑out.length:Int) 1).toNat default).to 1) else false then(upd (fun _=>none) 1 (some out.length) 1=some out.length/\0<=qj .i64 (↑out.length:Int) 1/\qj .i64 (↑out.length:Int) 1<(↑out.length:Int))/\upd (fun _=>none) 1 (some out.length) 1=some out.length/\(upd (fun _=>none) 1 (some out.length) 1=some out.length/\0<=qj .i64 (↑out.length:Int) 1/\qj .i64 (↑out.length:Int) 1<(↑out.length:Int))/\upd (fun _=>none) 1 (some out.length) 1=some out.length/\J {sl:=[(10,D.vec 1 out.length 2),(48,L q 2 Iv.d),(49,I (↑q.length:Int)),(50,I (qg .i64 i 1))],h:={box:=fun _=>none,nl:=0,hw:=upd (fun _=>none) 1 (some out.length),nt:=2,vw:=upd (upd (fun _=>none) 1 (some (cv out Iv.d))) 1 (some (ny (cv out Iv.d) (qj .i64 (↑out.length:Int) 1).toNat (.agg [I (out.getD (qj .i64 (↑out.length:Int) 1).toNat default).frm,I (if(q.getD i.toNat default).to > (out.getD (qj .i64 (↑out.length:Int) 1).toNat default).to then(q.getD i.toNat default).to else(out.getD (qj .i64 (↑out.length:Int) 1).toNat default).to)]))):Heap}:St} else(upd (fun _=>none) 1 (some out.length) 1=some out.length/\(out.length+1)*16<=q7)/\J {sl:=[(10,D.vec 1 (out.length+1) 2),(48,L q 2 Iv.d),(49,I (↑q.length:Int)),(50,I (qg .i64 i 1))],h:={box:=fun _=>none,nl:=0,hw:=upd (upd (fun _=>none) 1 (some out.length)) 1 (some (out.length+1)),nt:=2,vw:=upd (upd (fun _=>none) 1 (some (cv out Iv.d))) 1 (some (zo out.length (cv out Iv.d) (zf [.agg [I (q.getD i.toNat default).frm,I (q.getD i.toNat default).to]]))):Heap}:St})
 else K (D.vec 1 out.length 2) {box:=fun _=>none,nl:=0,hw:=upd (fun _=>none) 1 (some out.length),nt:=2,vw:=upd (fun _=>none) 1 (some (cv out Iv.d)):Heap}):=by kernel_rfl
theorem qpx{hw0:Nat->Option Nat}{vw0:Nat->Option (Nat->D)}{n:Nat}{f:Nat->D}:HeapLe ⟨fun _=>none,0,upd hw0 1 (some n),2,upd vw0 1 (some f)⟩ ⟨fun _=>none,0,upd (fun _=>none) 1 (some n),2,upd (fun _=>none) 1 (some f)⟩:=by
 have h1:∀(t k:Nat),upd (fun _=>(none:Option Nat)) 1 (some n) t=some k->t=1:=fun t k e=>by
  by_cases h:t=1
  ·exact h
  ·rw[qd _ _ h]at e;cases e
 refine⟨fun l row' e=>(by cases e),Nat.le_refl _,fun t k e=> ?_,Nat.le_refl _,fun t k e=> ?_,fun t e=> ?_⟩
 ·have:=h1 t k e
  subst this
  exact e
 ·have:=h1 t k e
  subst this
  exact VwLe.refl _ _
 ·show upd (fun _=>none) 1 (some f) t=none
  by_cases h:t=1
  ·subst h
   have e:upd vw0 1 (some f) 1=none:=e
   rw[qb]at e;cases e
  ·rw[qd _ _ h]
theorem c20[Lay](l:List Iv)(f t:Int)(hb:l.length<=100000):Pure PP 20 [L l 2 Iv.d,I f,I t] (L (jn l f t) 2 Iv.d):=by
 refine pr F20 (by kernel_rfl) (of_eq (nic l f t _) fun hl=> ?_)
 refine jc (st':=Sic l ((l.take 0).filterMap (za (loT f) (hiT t))) (loT f) (hiT t) (0:Nat)) ?_ ((StLe.idleOwn _ (some (cv ([]:List Iv) Iv.d)) 7 0 2 (cv ([]:List Iv) Iv.d) rfl rfl).cast (by kernel_rfl))
 have hi:jn l f t=(cn ((l.take l.length).filterMap (za (loT f) (hiT t)))).foldl mrg []:=by rw[List.take_length];rfl
 rw[hi]
 generalize loT f=f
 generalize hiT t=t
 refine lp (fn:=Tryz.f20) (fun i:Nat=>i<=l.length) (fun i=>Sic l ((l.take i).filterMap (za f t)) f t i) (fun i=>l.length-i) [1,2,7,18,19,20] (by kernel_rfl) (fun i hi=>of_eq (q2f l _ f t i _ _) ?_) 0 (Nat.zero_le _)
 refine qa (fun hlt=> ?_) fun hge=> ?_
 ·have hlt:=ltI hlt
  have hol:((l.take i).filterMap (za f t)).length<=i:=by
   have h1:((l.take i).filterMap (za f t)).length<=(l.take i).length:=List.length_filterMap_le _ _
   have h2:(l.take i).length<=i:=by simp;omega
   omega
  rw[bi hlt hl,Int.toNat_natCast]
  have hst:(l.take (i+1)).filterMap (za f t)=(l.take i).filterMap (za f t)++(za f t (l.getD i default)).toList:=by
   rw[zu _ _ hlt,List.filterMap_append]
   generalize l.getD i default=x
   cases hc1:za f t x <;> simp[hc1]
  generalize (l.take i).filterMap (za f t)=out at hol hst⊢
  refine⟨⟨by omega,by omega⟩,trivial,trivial,trivial,qa (fun h=> ?_) fun h=> ?_⟩
  ·have h:=of_decide_eq_true h
   rw[za,if_pos h]at hst
   refine⟨⟨qb _ _ _,by unfold q7;omega⟩,trivial,Nx.of (i+1) (by omega) (by omega) ?_⟩
   rw[hst]
   simp only[Sic,zn,Option.toList_some,List.length_append,List.length_singleton]
   rw[q6,q6]
   exact StLe.vec (t:=0) (n:=out.length+1) (qb _ _ _) fun j hj=>il (enc:=Iv.d) (x:=(⟨_,_⟩:Iv)) rfl hj
  ·have h:=of_decide_eq_false h
   rw[za,if_neg h,Option.toList_none,List.append_nil]at hst
   refine Nx.of (i+1) (by omega) (by omega) ?_
   rw[hst];exact StLe.refl _ _
 ·rw[List.take_of_length_le (geI hge),List.take_length]
  have hpl:(l.filterMap (za f t)).length<=l.length:=List.length_filterMap_le _ _
  generalize l.filterMap (za f t)=out at hpl
  refine jc (st':=⟨[(7,.ep [.vec 0 out.length 2])],zn out Iv.d⟩) ?_ ((StLe.layOwn 7 rfl (by kernel_rfl)).cast (by kernel_rfl))
  refine qe jv _ _ _ (of_eq (q2h out _) ⟨e37 out (by omega),fun _=> ?_⟩)
  have hsl:=ow out
  rw[<-hsl]
  generalize cn out=q at hsl
  refine jc (st':=⟨[(10,.vec 1 0 2),(48,L q 2 Iv.d),(49,I q.length),(50,I 0)],⟨fun _=>none,0,upd (upd (fun _=>none) 0 (some q.length)) 1 (some 0),2,upd (upd (upd (fun _=>none) 0 (some (cv q Iv.d))) 0 none) 1 (some (cv ([]:List Iv) Iv.d))⟩⟩) ?_ (((StLe.frz 0 (n:=q.length) (f:=cv q Iv.d) rfl rfl (by simp[pf,ua])).trans ((StLe.set 48 (d':=L q 2 Iv.d) rfl Wk.tokL rfl rfl).trans (StLe.idle _ (some (cv ([]:List Iv) Iv.d)) 10 2 (cv ([]:List Iv) Iv.d) rfl))).cast rfl)
  refine jc (st':=Sie q [] (0:Nat)) ?_ (StLe.heapLe qpx)
  refine lp (fn:=Tryz.f20) (fun z:Nat×List Iv=>z.1<=q.length/\z.2.length<=z.1/\q.foldl mrg []=(q.drop z.1).foldl mrg z.2) (fun z=>Sie q z.2 z.1) (fun z=>q.length-z.1) [10,48,49,50] (by kernel_rfl) (fun z hz=>of_eq (q2i q z.2 z.1 _ _) ?_) (0,[]) ⟨Nat.zero_le _,Nat.le_refl _,rfl⟩
  obtain⟨i,out2⟩:=z
  obtain⟨_,hol,he⟩:=hz
  simp only at hol he⊢
  have hql:q.length<=q8:=by unfold q8;omega
  refine qa (fun hlt=> ?_) fun hge=> ?_
  ·have hlt:=ltI hlt
   rw[bi hlt hql,Int.toNat_natCast]
   rw[jb _ _ hlt,List.foldl_cons]at he
   generalize q.getD i default=x at he⊢
   have hpos:decide ((out2.length:Int) > 0)=true->0<out2.length:=fun h=>by simpa using h
   refine⟨⟨by omega,by omega⟩,trivial,fun hlo=>⟨fun h=>⟨qb _ _ _,by rw[pi (hpos h) hlo];have:=hpos h;omega⟩,fun _=>qb _ _ _,?_⟩⟩
   have hc:(bif decide ((out2.length:Int) > 0) then decide (x.frm<=qg .i64 (out2.getD (qj .i64 (out2.length:Int) 1).toNat default).to 1) else false)=decide (out2≠[]/\x.frm<=qg .i64 (yo out2).to 1):=by
    cases hd:decide ((out2.length:Int) > 0) with
    |false =>
     have:¬(out2.length:Int) > 0:=of_decide_eq_false hd
     have:out2=[]:=List.length_eq_zero_iff.1 (by omega)
     subst this;rfl
    |true =>
     have h0:=hpos hd
     rw[pi h0 hlo,Int.toNat_natCast]
     have:out2≠[]:=List.length_pos_iff.1 h0
     rw[Bool.eq_iff_iff];simp[this,yo]
   rw[hc]
   refine qa (fun h2=> ?_) fun h2=> ?_
   ·have h2:=of_decide_eq_true h2
    have h0:0<out2.length:=List.length_pos_iff.2 h2.1
    rw[pi h0 hlo,Int.toNat_natCast]
    rw[mrg,if_pos h2]at he
    have hin:(0:Int)<=((out2.length-1:Nat):Int)/\((out2.length-1:Nat):Int)<(out2.length:Int):=⟨by omega,by omega⟩
    refine⟨⟨qb _ _ _,hin⟩,qb _ _ _,⟨qb _ _ _,hin⟩,qb _ _ _,Nx.of (i+1,out2.set (out2.length-1) ⟨(yo out2).frm,if x.to > (yo out2).to then x.to else(yo out2).to⟩) ⟨hlt,by simp only[List.length_set];omega,he⟩ (by simp only;omega) ?_⟩
    simp only[Sie,List.length_set]
    rw[q6]
    exact StLe.vec (t:=1) (n:=out2.length) (qb _ _ _) fun j _=>dw (enc:=Iv.d) (k:=out2.length-1) (x:=(⟨(yo out2).frm,if x.to > (yo out2).to then x.to else(yo out2).to⟩:Iv)) (by omega) j
   ·have h2:=of_decide_eq_false h2
    rw[mrg,if_neg h2]at he
    refine⟨⟨qb _ _ _,by unfold q7;omega⟩,Nx.of (i+1,out2++[x]) ⟨hlt,by simp only[List.length_append,List.length_singleton];omega,he⟩ (by simp only;omega) ?_⟩
    simp only[Sie,List.length_append,List.length_singleton]
    rw[q6,q6]
    exact StLe.vec (t:=1) (n:=out2.length+1) (qb _ _ _) fun j hj=>il (enc:=Iv.d) (x:=x) rfl hj
  ·rw[he,List.drop_of_length_le (geI hge)]
   exact⟨_,(RetLe.frz (d:= .vec 1 out2.length 2) (t:=1) (n:=out2.length) (f:=cv out2 Iv.d) rfl rfl (by simp[ua])).trans (RetLe.wk Wk.tokL rfl)⟩
end Go.Proofs.YtiekphbkomddfaaGreatDoor.S1
