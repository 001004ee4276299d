/- Seat 2: rows. -/
import Derived.Test.YtiekphbkomddfaaGreatDoorCSG1
import Derived.Test.YtiekphbkomddfaaGreatDoorRows
namespace Go.Proofs.YtiekphbkomddfaaGreatDoor.S1
open Go Go.Ab Go.Proofs
abbrev LLd(l:List Sp):D:=L l 3 Sp.d
abbrev I':Int->D:=D.int .i64
def hZ(pq:List Int)(n N:Nat):Heap:=⟨fun _=>none,0,upd (upd (fun _=>none) 0 (some 2)) 1 (some n),N+2,upd (fun _=>none) 0 (some (cv pq I'))⟩
def hZ2(pq:List Int)(n N m:Nat):Heap:=⟨fun _=>none,0,upd (upd (upd (fun _=>none) 0 (some 2)) 1 (some n)) (N+2) (some m),N+3,upd (fun _=>none) 0 (some (cv pq I'))⟩
theorem F88:OkF 88 Tryz.f88:=⟨by kernel_rfl,by kernel_rfl,by kernel_rfl⟩
def qo2:List (List Nat×List Nat):=[([1,1,0,1,0],[0,21,22,23]),([1,1,1],[0]),([1,1,1,1,1,1,0,0],[0,6,7,8,9]),([1,1,1,1,1,1,0,0,0,1,0,1,0,1,0],[0,6,7,8,9,10,91,92,93]),([1,1,1,1,1,1,0,0,0,1,0,1,0,1,0,0,1,1,0,0,1,0,0],[0,6,7,8,9,10,11,12,91,92,93])]
noncomputable def qr9:List Nat->Nat->Option Ans:=qf []
theorem qzx[Lay](a b:List Sp)(K:D->Heap->Prop):qn (EnV [] [84] Tryz.f88) (fh Tryz.f88 K) (qr9 ) qo2 200 [.code []] ⟨qc 0 [L [a,b] 1 LLd],.empty⟩ =
 ([a,b].length<=q8->((!(↑[a,b].length:Int)==0)=true->[a,b].length<=q8)->[a,b].length<=q8->At (EnV [] [84] Tryz.f88) (fh Tryz.f88 K) [It.code [1,1,0,1,0],It.blk 0,It.code [1,1,1]] {sl:=[(0,L [a,b] 1 LLd),(21,L [a,b] 1 LLd),(22,I (↑[a,b].length:Int)),(23,I 0)],h:=Heap.empty:St}):=by kernel_rfl
def SZ1(a b:List Sp)(i:Int):St:=⟨[(0,L [a,b] 1 LLd),(21,L [a,b] 1 LLd),(22,I 2),(23,I i)],.empty⟩
noncomputable def qo3(a:List Sp)(b:List Sp)(i:Int):List Nat->Nat->Option Ans:=qf [([1,1,0,1,0,0,1,1,0,0,1,0],1,Ans.pure [L ([a,b].getD i.toNat default) 3 Sp.d] (B (zw ([a,b].getD i.toNat default))))]
theorem qsa[Lay](a b:List Sp)(i:Int)(J:St->Prop)(K:D->Heap->Prop):qn (EnV [] [84] Tryz.f88) (fh Tryz.f88 K) (qo3 a b i) qo2 200 [.code [1,1,0,1,0,0],stp [0,21,22,23] J,.blk 0,.code [1,1,1]] (SZ1 a b i)=
 (bif decide (i<2) then
 (0<=i/\i<(↑[a,b].length:Int))/\
  PureW PP 130 [L ([a,b].getD i.toNat default) 3 Sp.d] [L ([a,b].getD i.toNat default) 3 Sp.d] (B (zw ([a,b].getD i.toNat default)))/\
   ((!!zw ([a,b].getD i.toNat default))=true->(0:Int)<=0/\0<(↑([a,b].getD i.toNat default).length:Int))/\
    ((!!zw ([a,b].getD i.toNat default))=true->(0:Int)<=0/\0<(↑[a,b].length:Int))/\
     ((!!zw ([a,b].getD i.toNat default))=true->(0:Int)<=0/\0<(↑([a,b].getD 0 default).length:Int))/\
      (((!bif !zw ([a,b].getD i.toNat default) then true else(([a,b].getD i.toNat default).getD 0 default).frm !=(([a,b].getD 0 default).getD 0 default).frm)=true->([a,b].getD i.toNat default).length<=q8)->
       ((!bif !zw ([a,b].getD i.toNat default) then true else(([a,b].getD i.toNat default).getD 0 default).frm !=(([a,b].getD 0 default).getD 0 default).frm)=true->0<=qj .i64 (↑([a,b].getD i.toNat default).length:Int) 1/\qj .i64 (↑([a,b].getD i.toNat default).length:Int) 1<(↑([a,b].getD i.toNat default).length:Int))/\
        ((!bif !zw ([a,b].getD i.toNat default) then true else(([a,b].getD i.toNat default).getD 0 default).frm !=(([a,b].getD 0 default).getD 0 default).frm)=true->(0:Int)<=0/\0<(↑[a,b].length:Int))/\((!bif !zw ([a,b].getD i.toNat default) then true else(([a,b].getD i.toNat default).getD 0 default).frm !=(([a,b].getD 0 default).getD 0 default).frm)=true->(0:Int)<=0/\0<(↑[a,b].length:Int))/\(((!bif !zw ([a,b].getD i.toNat default) then true else(([a,b].getD i.toNat default).getD 0 default).frm !=(([a,b].getD 0 default).getD 0 default).frm)=true->([a,b].getD 0 default).length<=q8)->((!bif !zw ([a,b].getD i.toNat default) then true else(([a,b].getD i.toNat default).getD 0 default).frm !=(([a,b].getD 0 default).getD 0 default).frm)=true->0<=qj .i64 (↑([a,b].getD 0 default).length:Int) 1/\qj .i64 (↑([a,b].getD 0 default).length:Int) 1<(↑([a,b].getD 0 default).length:Int))/\bif bif bif !zw ([a,b].getD i.toNat default) then true else(([a,b].getD i.toNat default).getD 0 default).frm !=(([a,b].getD 0 default).getD 0 default).frm then true else(([a,b].getD i.toNat default).getD (qj .i64 (↑([a,b].getD i.toNat default).length:Int) 1).toNat default).to !=(([a,b].getD 0 default).getD (qj .i64 (↑([a,b].getD 0 default).length:Int) 1).toNat default).to then K (.tup [.list 0 0 (fun _=>D.junk) .full,I 1]) Heap.empty else J {sl:=[(0,L [a,b] 1 LLd),(21,L [a,b] 1 LLd),(22,I 2),(23,I (qg .i64 i 1))],h:=Heap.empty:St}))
 else At (EnV [] [84] Tryz.f88) (fh Tryz.f88 K) [It.code [1,1,1]] {sl:=[(0,L [a,b] 1 LLd)],h:=Heap.empty:St}):=by kernel_rfl
def lvZ:List (List Nat×List Nat):=[([1,1,1,1,1,1,0,0],[0,6,7,8,9])]
noncomputable def qo4:List Nat->Nat->Option Ans:=qf []
theorem qsb[Lay](a b:List Sp)(K:D->Heap->Prop):qn (EnV [] [84] Tryz.f88) (fh Tryz.f88 K) (qo4 ) lvZ 200 [.code [1,1,1]] ⟨[(0,L [a,b] 1 LLd)],.empty⟩ =
 (((0:Int)<=0/\0<(↑[a,b].length:Int))/\((0:Int)<=0/\0<(↑([a,b].getD 0 default).length:Int))/\((0:Int)<=0/\0<(↑[a,b].length:Int))/\((0:Int)<=0/\0<(↑[a,b].length:Int))/\(([a,b].getD 0 default).length<=q8->(0<=qj .i64 (↑([a,b].getD 0 default).length:Int) 1/\qj .i64 (↑([a,b].getD 0 default).length:Int) 1<(↑([a,b].getD 0 default).length:Int))/\([a,b].length<=q8->(0<=(↑[a,b].length:Int)/\(↑[a,b].length:Int)<=(↑[a,b].length:Int)/\(↑[a,b].length:Int)*((↑7:Int)+1)<=(↑q7:Int))/\At (EnV [] [84] Tryz.f88) (fh Tryz.f88 K) [It.code [1,1,1,1,1,1,0,0],It.blk 2,It.code [1,1,1,1,1,1,1]] {sl:=[(0,L [a,b] 1 LLd),(6,I (([a,b].getD 0 default).getD 0 default).frm),(7,I (([a,b].getD 0 default).getD (qj .i64 (↑([a,b].getD 0 default).length:Int) 1).toNat default).to),(8,D.vec 0 (↑[a,b].length:Int).toNat 1),(9,.list 0 0 (fun _=>D.junk) .full)],h:={box:=fun _=>none,nl:=0,hw:=upd (fun _=>none) 0 (some (↑[a,b].length:Int).toNat),nt:=1,vw:=upd (fun _=>none) 0 (some fun x=>ofVal (Value.int .i64 0)):Heap}:St}))):=by kernel_rfl
def SZ2(a b:List Sp)(frm to:Int)(pq:List Int)(out:List Rw)(N:Nat):St:=⟨[(0,L [a,b] 1 LLd),(6,I frm),(7,I to),(8,.vec 0 2 1),(9,LT out 3 Rw.d 1)],hZ pq out.length N⟩
noncomputable def qo5:List Nat->Nat->Option Ans:=qf []
theorem qsc[Lay](a b:List Sp)(frm to:Int)(pq:List Int)(out:List Rw)(N:Nat)(J:St->Prop)(K:D->Heap->Prop):qn (EnV [] [84] Tryz.f88) (fh Tryz.f88 K) (qo5 ) qo2 200 [.code [1,1,1,1,1,1,0,0,0],stp [0,6,7,8,9] J,.blk 2,.code [1,1,1,1,1,1,1]] (SZ2 a b frm to pq out N)=
 (bif decide (frm<=to) then True/\([a,b].length<=q8->At (EnV [] [84] Tryz.f88) (fh Tryz.f88 K) [It.code [1,1,1,1,1,1,0,0,0,1,0,1,0,1,0],It.blk 4,It.code [1,1,1,1,1,1,0,0,0,1,0,1,1],It.blk 3,stp [0,6,7,8,9] J,It.blk 2,It.code [1,1,1,1,1,1,1]] {sl:=[(0,L [a,b] 1 LLd),(6,I frm),(7,I to),(8,D.vec 0 2 1),(9,.list out.length 3 (fun i=>(out.getD i default).d) (.tok 1 3)),(10,.own [I frm,I to,.list 0 0 (fun _=>D.junk) .full]),(91,L [a,b] 1 LLd),(92,I (↑[a,b].length:Int)),(93,I 0)],h:={box:=fun _=>none,nl:=0,hw:=upd (upd (fun _=>none) 0 (some 2)) 1 (some out.length),nt:=N+2,vw:=upd (fun _=>none) 0 (some (cv pq I')):Heap}:St}) else K (.tup [.list out.length 3 (fun i=>(out.getD i default).d) (.tok 1 3),I 0]) {box:=fun _=>none,nl:=0,hw:=upd (upd (fun _=>none) 0 (some 2)) 1 (some out.length),nt:=N+2,vw:=upd (fun _=>none) 0 (some (cv pq I')):Heap}):=by kernel_rfl
def SZ3(a b:List Sp)(frm to:Int)(pq:List Int)(out:List Rw)(N:Nat)(m:Int)(vals:List Str)(i:Int):St:=⟨[(0,L [a,b] 1 LLd),(6,I frm),(7,I to),(8,.vec 0 2 1),(9,LT out 3 Rw.d 1),(10,.own [I frm,I m,LT vals 1 .str (N+2)]),(91,L [a,b] 1 LLd),(92,I 2),(93,I i)],hZ2 pq out.length N vals.length⟩
noncomputable def qo6:List Nat->Nat->Option Ans:=qf []
theorem qsd[Lay](a b:List Sp)(frm to:Int)(pq:List Int)(out:List Rw)(N:Nat)(m:Int)(vals:List Str)(i:Int)(J J2:St->Prop)(K:D->Heap->Prop):qn (EnV [] [84] Tryz.f88) (fh Tryz.f88 K) (qo6 ) qo2 200 [.code [1,1,1,1,1,1,0,0,0,1,0,1,0,1,0,0],stp [0,6,7,8,9,10,91,92,93] J,.blk 4,.code [1,1,1,1,1,1,0,0,0,1,0,1,1],.blk 3,stp [0,6,7,8,9] J2,.blk 2,.code [1,1,1,1,1,1,1]] (SZ3 a b frm to pq out N m vals i)=
 (bif decide (i<2) then(0<=i/\i<(↑[a,b].length:Int))/\At (EnV [] [84] Tryz.f88) (fh Tryz.f88 K) [It.code [1,1,1,1,1,1,0,0,0,1,0,1,0,1,0,0,1,1,0,0,1,0,0],It.blk 6,It.code [1,1,1,1,1,1,0,0,0,1,0,1,0,1,0,0,1,1,0,0,1,1],It.blk 5,It.code [1,1,1,1,1,1,0,0,0,1,0,1,0,1,0,0,1,1,1],stp [0,6,7,8,9,10,91,92,93] J,It.blk 4,It.code [1,1,1,1,1,1,0,0,0,1,0,1,1],It.blk 3,stp [0,6,7,8,9] J2,It.blk 2,It.code [1,1,1,1,1,1,1]] {sl:=[(0,L [a,b] 1 LLd),(6,I frm),(7,I to),(8,D.vec 0 2 1),(9,.list out.length 3 (fun i=>(out.getD i default).d) (.tok 1 3)),(10,.own [I frm,I m,.list vals.length 1 (fun i=> .str (vals.getD i default)) (.tok (N+2) 1)]),(11,I i),(12,L ([a,b].getD i.toNat default) 3 Sp.d),(91,L [a,b] 1 LLd),(92,I 2),(93,I i)],h:={box:=fun _=>none,nl:=0,hw:=upd (upd (upd (fun _=>none) 0 (some 2)) 1 (some out.length)) (N+2) (some vals.length),nt:=N+3,vw:=upd (fun _=>none) 0 (some (cv pq I')):Heap}:St} else(upd (upd (upd (fun _=>none) 0 (some 2)) 1 (some out.length)) (N+2) (some vals.length) 1=some out.length/\(out.length+1)*40<=q7)/\J2 {sl:=[(0,L [a,b] 1 LLd),(6,I (qg .i64 m 1)),(7,I to),(8,D.vec 0 2 1),(9,.list (out.length+1) 3 (zo out.length (fun i=>(out.getD i default).d) (zf [.agg [I frm,I m,.list vals.length 1 (fun i=> .str (vals.getD i default)) (.tok (N+2) 1)]])) (.tok 1 3))],h:={box:=fun _=>none,nl:=0,hw:=upd (upd (upd (upd (fun _=>none) 0 (some 2)) 1 (some out.length)) (N+2) (some vals.length)) 1 (some (out.length+1)),nt:=N+3,vw:=upd (fun _=>none) 0 (some (cv pq I')):Heap}:St}):=by kernel_rfl
def SZ4(a b:List Sp)(frm to:Int)(pq:List Int)(out:List Rw)(N:Nat)(m:Int)(vals:List Str)(i:Int)(l:List Sp):St:=⟨[(0,L [a,b] 1 LLd),(6,I frm),(7,I to),(8,.vec 0 2 1),(9,LT out 3 Rw.d 1),(10,.own [I frm,I m,LT vals 1 .str (N+2)]),(11,I i),(12,L l 3 Sp.d),(91,L [a,b] 1 LLd),(92,I 2),(93,I i)],hZ2 pq out.length N vals.length⟩
noncomputable def qo7:List Nat->Nat->Option Ans:=qf []
theorem qse[Lay](a b:List Sp)(frm to:Int)(pq:List Int)(out:List Rw)(N:Nat)(m:Int)(vals:List Str)(i:Int)(l:List Sp)(J J2 J3:St->Prop)(K:D->Heap->Prop):qn (EnV [] [84] Tryz.f88) (fh Tryz.f88 K) (qo7 ) qo2 200 [.code [1,1,1,1,1,1,0,0,0,1,0,1,0,1,0,0,1,1,0,0,1,0,0,0],stp [0,6,7,8,9,10,11,12,91,92,93] J,.blk 6,.code [1,1,1,1,1,1,0,0,0,1,0,1,0,1,0,0,1,1,0,0,1,1],.blk 5,.code [1,1,1,1,1,1,0,0,0,1,0,1,0,1,0,0,1,1,1],stp [0,6,7,8,9,10,91,92,93] J2,.blk 4,.code [1,1,1,1,1,1,0,0,0,1,0,1,1],.blk 3,stp [0,6,7,8,9] J3,.blk 2,.code [1,1,1,1,1,1,1]] (SZ4 a b frm to pq out N m vals i l)=
 ((upd (upd (upd (fun _=>none) 0 (some 2)) 1 (some out.length)) (N+2) (some vals.length) 0=some 2/\0<=i/\i<(↑2:Int))/\
 upd (upd (upd (fun _=>none) 0 (some 2)) 1 (some out.length)) (N+2) (some vals.length) 0=some 2 /\
  (0<=pq.getD i.toNat default/\pq.getD i.toNat default<(↑l.length:Int))/\
   bif decide ((l.getD (pq.getD i.toNat default).toNat default).to<frm) then(upd (upd (upd (fun _=>none) 0 (some 2)) 1 (some out.length)) (N+2) (some vals.length) 0=some 2/\0<=i/\i<(↑2:Int))/\upd (upd (upd (fun _=>none) 0 (some 2)) 1 (some out.length)) (N+2) (some vals.length) 0=some 2/\(upd (upd (upd (fun _=>none) 0 (some 2)) 1 (some out.length)) (N+2) (some vals.length) 0=some 2/\0<=i/\i<(↑2:Int))/\upd (upd (upd (fun _=>none) 0 (some 2)) 1 (some out.length)) (N+2) (some vals.length) 0=some 2/\J {sl:=[(0,L [a,b] 1 LLd),(6,I frm),(7,I to),(8,D.vec 0 2 1),(9,.list out.length 3 (fun i=>(out.getD i default).d) (.tok 1 3)),(10,.own [I frm,I m,.list vals.length 1 (fun i=> .str (vals.getD i default)) (.tok (N+2) 1)]),(11,I i),(12,L l 3 Sp.d),(91,L [a,b] 1 LLd),(92,I 2),(93,I i)],h:={box:=fun _=>none,nl:=0,hw:=upd (upd (upd (fun _=>none) 0 (some 2)) 1 (some out.length)) (N+2) (some vals.length),nt:=N+3,vw:=upd (upd (fun _=>none) 0 (some (cv pq I'))) 0 (some (ny (cv pq I') i.toNat (I (qg .i64 (pq.getD i.toNat default) 1)))):Heap}:St}
   else(upd (upd (upd (fun _=>none) 0 (some 2)) 1 (some out.length)) (N+2) (some vals.length) 0=some 2/\0<=i/\i<(↑2:Int))/\upd (upd (upd (fun _=>none) 0 (some 2)) 1 (some out.length)) (N+2) (some vals.length) 0=some 2/\(0<=pq.getD i.toNat default/\pq.getD i.toNat default<(↑l.length:Int))/\True/\(upd (upd (upd (fun _=>none) 0 (some 2)) 1 (some out.length)) (N+2) (some vals.length) 0=some 2/\0<=i/\i<(↑2:Int))/\upd (upd (upd (fun _=>none) 0 (some 2)) 1 (some out.length)) (N+2) (some vals.length) 0=some 2/\(0<=pq.getD i.toNat default/\pq.getD i.toNat default<(↑l.length:Int))/\(upd (upd (upd (fun _=>none) 0 (some 2)) 1 (some out.length)) (N+2) (some vals.length) (N+2)=some vals.length/\(vals.length+1)*16<=q7)/\True/\J2 {sl:=[(0,L [a,b] 1 LLd),(6,I frm),(7,I to),(8,D.vec 0 2 1),(9,.list out.length 3 (fun i=>(out.getD i default).d) (.tok 1 3)),(10,.own [I frm,I (if(l.getD (pq.getD i.toNat default).toNat default).to<m then(l.getD (pq.getD i.toNat default).toNat default).to else m),.list (vals.length+1) 1 (zo vals.length (fun i=> .str (vals.getD i default)) (strL [.str (l.getD (pq.getD i.toNat default).toNat default).val])) (.tok (N+2) 1)]),(91,L [a,b] 1 LLd),(92,I 2),(93,I (qg .i64 i 1))],h:={box:=fun _=>none,nl:=0,hw:=upd (upd (upd (upd (fun _=>none) 0 (some 2)) 1 (some out.length)) (N+2) (some vals.length)) (N+2) (some (vals.length+1)),nt:=N+3,vw:=upd (fun _=>none) 0 (some (cv pq I')):Heap}:St}):=by kernel_rfl
def adv(l:List Sp)(frm:Int)(p:Nat):Nat:=p+((l.drop p).takeWhile fun x=>decide (x.to<frm)).length
theorem qlw{l:List Sp}{frm:Int}{p:Nat}(hp:p<l.length)(h:(l.getD p default).to<frm):adv l frm p=adv l frm (p+1):=by
 unfold adv
 rw[jb _ _ hp,List.takeWhile_cons_of_pos (by simpa using h)]
 simp only[List.length_cons];omega
theorem qlx{l:List Sp}{frm:Int}{p:Nat}(hp:p<l.length)(h:¬(l.getD p default).to<frm):adv l frm p=p:=by
 unfold adv
 rw[jb _ _ hp,List.takeWhile_cons_of_neg (by simpa using h)]
 rfl
theorem qhp{l:List Sp}{frm:Int}(hl:frm<=(jl l).to):∀(n p:Nat),n=l.length-p->p<l.length->p<=adv l frm p/\adv l frm p<l.length/\¬(l.getD (adv l frm p) default).to<frm
 |0,p,hn,hp=>by omega
 |n+1,p,hn,hp=>by
  by_cases h:(l.getD p default).to<frm
  ·have hne:p+1<l.length:=by
    rcases Nat.lt_or_ge (p+1) l.length with h1|h1
    ·exact h1
    ·have:p=l.length-1:=by omega
     subst this
     exact absurd h (by unfold jl at hl;omega)
   obtain⟨h1,h2,h3⟩:=qhp hl n (p+1) (by omega) hne
   rw[qlw hp h]
   exact⟨by omega,h2,h3⟩
  ·rw[qlx hp h];exact⟨Nat.le_refl _,hp,h⟩
theorem Wk.snocStr{a:List Str}{x:Str}{t:Nat}:Wk (.list (a.length+1) 1 (zo a.length (fun i=>D.str (a.getD i default)) (Ab.strL [D.str x])) (.tok t 1)) (LT (a++[x]) 1 D.str t) :=
 Wk.app (b:=[x]) (enc:=D.str) rfl rfl (fun i hi=>by
  have:i=0:=by simpa using hi
  subst this;rfl) (.inr rfl)
def mnI(x m:Int):Int:=if x<m then x else m
def qgi(a b:List Sp)(to:Int):Nat->Int->Nat->Nat->List Rw
 |0,_,_,_=>[]
 |n+1,frm,p,q=>if frm<=to then
   ⟨frm,mnI (b.getD (adv b frm q) default).to (mnI (a.getD (adv a frm p) default).to to),[(a.getD (adv a frm p) default).val,(b.getD (adv b frm q) default).val]⟩ ::
    qgi a b to n (qg .i64 (mnI (b.getD (adv b frm q) default).to (mnI (a.getD (adv a frm p) default).to to)) 1) (adv a frm p) (adv b frm q) else[]
def rk(a b:List Sp):List Rw:=qgi a b (jl a).to ((jl a).to+1-(a.getD 0 default).frm).toNat (a.getD 0 default).frm 0 0
structure qhq(a b:List Sp):Prop where
 va:zw a=true
 vb:zw b=true
 frm:(b.getD 0 default).frm=(a.getD 0 default).frm
 to:(jl b).to=(jl a).to
theorem nu{l:List Sp}(h:zw l=true):0<l.length/\0<=(l.getD 0 default).frm/\(jl l).to<=1099511627776/\chk none l=true:=by
 unfold zw at h
 simp only[Bool.and_eq_true,Bool.not_eq_true']at h
 obtain⟨h1,h2⟩:=h
 cases hb:(bif(l.length:Int)==0 then true else decide ((l.getD 0 default).frm<0)) with
 |true=>rw[hb]at h1;cases h1
 |false =>
  rw[hb]at h1
  cases h0:((l.length:Int)==0) with
  |true=>rw[h0]at hb;cases hb
  |false =>
   rw[h0]at hb
   have:(l.length:Int)≠0:=by simpa using h0
   have h3:¬(l.getD 0 default).frm<0:=by simpa using hb
   have h4:¬(jl l).to > 1099511627776:=by simpa using h1
   exact⟨by omega,by omega,by omega,h2⟩
theorem qm5{pq:List Int}{n N m:Nat}:HeapLe ⟨fun _=>none,0,upd (upd (upd (upd (fun _=>none) 0 (some 2)) 1 (some n)) (N+2) (some m)) 1 (some (n+1)),N+3,upd (fun _=>none) 0 (some (cv pq I'))⟩ (hZ pq (n+1) (N+1)):=by
 refine⟨fun l row' e=>(by cases e),Nat.le_refl _,fun t k e=> ?_,Nat.le_refl _,fun _ _ _=>VwLe.refl _ _,fun _ h=>h⟩
 have e':upd (upd (fun _=>none) 0 (some 2)) 1 (some (n+1)) t=some k:=e
 show upd (upd (upd (upd (fun _=>none) 0 (some 2)) 1 (some n)) (N+2) (some m)) 1 (some (n+1)) t=some k
 rcases t with _|_|t
 ·have e1:(some 2:Option Nat)=some k:=e'
  have:upd (upd (upd (upd (fun _=>(none:Option Nat)) 0 (some 2)) 1 (some n)) (N+2) (some m)) 1 (some (n+1)) 0=some 2:=by
   rw[qd _ _ (by omega),qd _ _ (by omega)];rfl
  rw[this];exact e1
 ·exact e'
 ·have e1:(none:Option Nat)=some k:=e'
  cases e1
theorem hw0{n N m:Nat}:upd (upd (upd (fun _=>(none:Option Nat)) 0 (some 2)) 1 (some n)) (N+2) (some m) 0=some 2:=by rw[qd _ _ (by omega)];rfl
theorem hw1{n N m:Nat}:upd (upd (upd (fun _=>(none:Option Nat)) 0 (some 2)) 1 (some n)) (N+2) (some m) 1=some n:=by rw[qd _ _ (by omega)];rfl
def qq0(p q p' q':Nat):Nat->List Int
 |0=>[(p:Int),(q:Int)]
 |1=>[(p':Int),(q:Int)]
 |_=>[(p':Int),(q':Int)]
def mAt(T m1 m2:Int):Nat->Int
 |0=>T
 |1=>m1
 |_=>m2
def vAt(va vb:Str):Nat->List Str
 |0=>[]
 |1=>[va]
 |_=>[va,vb]
theorem qee[Lay]{K:D->Heap->Prop}{a b:List Sp}{frm T:Int}{out:List Rw}{N:Nat}{m:Int}{vals:List Str}{l:List Sp}{pq:List Int}{i k0:Nat}(J2 J3:St->Prop)(hi:i<2)(hk:k0<l.length)(hll:l.length<=100000)(hlast:frm<=(jl l).to)
  (hpl:pq.length=2) (hpq:pq.set i (k0:Int)=pq) (hvl:vals.length<=10)
  (hJ:∀st,StLe (EnV [] [84] Tryz.f88).nt st (SZ3 a b frm T (pq.set i ((adv l frm k0:Nat):Int)) out N (mnI (l.getD (adv l frm k0) default).to m) (vals++[(l.getD (adv l frm k0) default).val]) ((i+1:Nat):Int))->J2 st) :
  At (EnV [] [84] Tryz.f88) (fh Tryz.f88 K) [It.code [1,1,1,1,1,1,0,0,0,1,0,1,0,1,0,0,1,1,0,0,1,0,0],It.blk 6,
    It.code [1,1,1,1,1,1,0,0,0,1,0,1,0,1,0,0,1,1,0,0,1,1],It.blk 5,
    It.code [1,1,1,1,1,1,0,0,0,1,0,1,0,1,0,0,1,1,1],stp [0,6,7,8,9,10,91,92,93] J2,
    It.blk 4,It.code [1,1,1,1,1,1,0,0,0,1,0,1,1],It.blk 3,stp [0,6,7,8,9] J3,It.blk 2,
    It.code [1,1,1,1,1,1,1]] (SZ4 a b frm T pq out N m vals i l):=by
 refine jc (st':=SZ4 a b frm T (pq.set i (k0:Int)) out N m vals i l) ?_ (by rw[hpq];exact StLe.refl _ _)
 refine lp (fn:=Tryz.f88) (fun k:Nat=>k<l.length/\adv l frm k=adv l frm k0) (fun k=>SZ4 a b frm T (pq.set i (k:Int)) out N m vals i l) (fun k=>l.length-k) [0,6,7,8,9,10,11,12,91,92,93] (by kernel_rfl) (fun k hk=>of_eq (qse a b frm T (pq.set i (k:Int)) out N m vals i l _ _ _ _) ?_) k0 ⟨hk,rfl⟩
 obtain⟨hk,he⟩:=hk
 have hg:(pq.set i (k:Int)).getD i default=(k:Int):=by simp[List.getD,hpl,hi]
 rw[Int.toNat_natCast,hg,Int.toNat_natCast]
 have hin:(0:Int)<=(i:Int)/\(i:Int)<((2:Nat):Int):=⟨by omega,by omega⟩
 refine⟨⟨hw0,hin⟩,hw0,⟨by omega,by omega⟩,qa (fun h=> ?_) fun h=> ?_⟩
 ·have h:(l.getD k default).to<frm:=by simpa using h
  have ha:=qlw hk h
  have hne:k+1<l.length:=by
   rcases Nat.lt_or_ge (k+1) l.length with h1|h1
   ·exact h1
   ·have:k=l.length-1:=by omega
    subst this
    unfold jl at hlast
    omega
  refine⟨⟨hw0,hin⟩,hw0,⟨hw0,hin⟩,hw0,Nx.of (k+1) ⟨hne,by rw[<-he,ha]⟩ (by omega) ?_⟩
  have h1:qg .i64 (k:Int) 1=((k+1:Nat):Int):=by rw[jk (by omega) (by omega)];rfl
  rw[h1,q6]
  refine(StLe.vec (t:=0) (f':=cv (pq.set i ((k+1:Nat):Int)) I') hw0 fun j _=> ?_)
  have:=dw (es:=pq.set i (k:Int)) (enc:=I') (k:=i) (x:=((k+1:Nat):Int)) (by simp[hpl,hi]) j
  rw[List.set_set]at this
  exact this
 ·have h:¬(l.getD k default).to<frm:=by simpa using h
  have ha:=qlx hk h
  have hk':adv l frm k0=k:=by rw[<-he,ha]
  refine⟨⟨hw0,hin⟩,hw0,⟨by omega,by omega⟩,trivial,⟨hw0,hin⟩,hw0,⟨by omega,by omega⟩,⟨qb _ _ _,by unfold q7;omega⟩,trivial,hJ _ ?_⟩
  rw[hk']
  have h1:qg .i64 (i:Int) 1=((i+1:Nat):Int):=by rw[jk (by omega) (by omega)];rfl
  rw[h1,q6]
  refine(StLe.setOwn (by simp) 10 rfl (Wks.cons (Wk.refl _) (Wks.cons (Wk.refl _) (Wks.cons (Wk.snocStr (x:=(l.getD k default).val)) (Wks.refl _))))).trans (StLe.heap ?_)
  simp[hZ2]
theorem c88[Lay](a b:List Sp)(h:qhq a b)(hla:a.length<=100000)(hlb:b.length<=100000):Pure PP 88 [L [a,b] 1 LLd] (.tup [L (rk a b) 3 Rw.d,I 0]):=by
 obtain⟨va,vb,hf,ht⟩:=h
 obtain⟨a0,a1,a2,_⟩:=nu va
 obtain⟨b0,_,_,_⟩:=nu vb
 have la:qj .i64 (a.length:Int) 1=((a.length-1:Nat):Int):=pi a0 (by unfold q8;omega)
 have lb:qj .i64 (b.length:Int) 1=((b.length-1:Nat):Int):=pi b0 (by unfold q8;omega)
 refine pr F88 (by kernel_rfl) (of_eq (qzx a b _) fun _ _ _=> ?_)
 refine lp (fn:=Tryz.f88) (fun i:Nat=>i<=2) (fun i=>SZ1 a b i) (fun i=>2-i) [0,21,22,23] (by kernel_rfl) (fun i hi=>of_eq (qsa a b i _ _) (qa (fun hlt=> ?_) fun hge=> ?_)) 0 (by omega)
 ·have hlt:i<2:=by have:(i:Int)<2:=of_decide_eq_true hlt;omega
  have ha1:qg .i64 (i:Int) 1=((i+1:Nat):Int):=by rw[jk (by omega) (by omega)];rfl
  rw[ha1,Int.toNat_natCast]
  have hx:∀l,l=[a,b].getD i default->(zw l=true/\0<l.length/\qj .i64 (l.length:Int) 1=((l.length-1:Nat):Int)/\(l.getD 0 default).frm=(a.getD 0 default).frm/\(l.getD (l.length-1) default).to=(jl a).to):=fun l e=>by
   rcases i with _|_|i
   ·have:l=a:=e
    subst this;exact⟨va,a0,la,rfl,rfl⟩
   ·have:l=b:=e
    subst this;exact⟨vb,b0,lb,hf,ht⟩
   ·omega
  have hll:(([a,b].length:Nat):Int)=2:=rfl
  have hg0:[a,b].getD 0 default=a:=rfl
  rw[hg0,hll]
  generalize hl:[a,b].getD i default=l
  obtain⟨x1,x2,x3,x4,x5⟩:=hx l hl.symm
  rw[x3,la,Int.toNat_natCast,Int.toNat_natCast]
  refine⟨⟨by omega,by omega⟩,PureW.mk (qzw _),fun _=>⟨by omega,by omega⟩,fun _=>⟨by omega,by omega⟩,fun _=>⟨by omega,by omega⟩,fun _=>⟨fun _=>⟨by omega,by omega⟩,fun _=>⟨by omega,by omega⟩,fun _=>⟨by omega,by omega⟩,fun _=>⟨fun _=>⟨by omega,by omega⟩,qa (fun h=> ?_) fun h=>Nx.mk (i+1) (by omega) (by omega)⟩⟩⟩
  rw[x1,x4,x5]at h
  simp[jl]at h
 refine jc (qe jv _ _ _ (of_eq (qsb a b _) ?_)) (StLe.refl _ _)
 have hll:(([a,b].length:Nat):Int)=2:=rfl
 have hg0:[a,b].getD 0 default=a:=rfl
 rw[hg0,hll,la,Int.toNat_natCast]
 refine⟨⟨by omega,by omega⟩,⟨by omega,by omega⟩,⟨by omega,by omega⟩,⟨by omega,by omega⟩,fun _=>⟨⟨by omega,by omega⟩,fun _=>⟨⟨by omega,by omega,by unfold q7;decide⟩,?_⟩⟩⟩
 refine jc (st':=SZ2 a b (a.getD 0 default).frm (jl a).to [0,0] [] 0) ?_ (((StLe.tok0 _ (α:=Rw) (enc:=Rw.d) 9 3 rfl).trans (StLe.vec (t:=0) (n:=2) (f':=cv [0,0] I') rfl fun j hj=> ?_)).cast rfl)
 rotate_left
 ·rcases j with _|_|j
  ·rfl
  ·rfl
  ·omega
 generalize hT:(jl a).to=T at ht a2⊢
 have hzr:rk a b=qgi a b T (T+1-(a.getD 0 default).frm).toNat (a.getD 0 default).frm 0 0:=by unfold rk;rw[hT]
 generalize hF:(T+1-(a.getD 0 default).frm).toNat=F at hzr
 have hFb:F<=1099511627777:=by omega
 generalize hf0:(a.getD 0 default).frm=frm0 at a1 hzr hF hf⊢
 refine lp (fn:=Tryz.f88) (fun z:Int×Nat×Nat×List Rw×Nat×Nat=>0<=z.1/\z.2.1<a.length/\z.2.2.1<b.length/\z.2.2.2.1.length+z.2.2.2.2.2<=F/\(T+1-z.1).toNat<=z.2.2.2.2.2/\rk a b=z.2.2.2.1++qgi a b T z.2.2.2.2.2 z.1 z.2.1 z.2.2.1)
  (fun z=>SZ2 a b z.1 T [(z.2.1:Int),(z.2.2.1:Int)] z.2.2.2.1 z.2.2.2.2.1) (fun z=>z.2.2.2.2.2) [0,6,7,8,9] (by kernel_rfl) (fun z hz=>of_eq (qsc a b z.1 T [(z.2.1:Int),(z.2.2.1:Int)] z.2.2.2.1 z.2.2.2.2.1 _ _) ?_) (frm0,0,0,[],0,F) ⟨a1,a0,b0,by simp,by simp only;omega,by simpa using hzr⟩
 obtain⟨frm,p,q,out,N,n⟩:=z
 obtain⟨h0,hp,hq,hol,hn,hz⟩:=hz
 simp only at h0 hp hq hol hn hz⊢
 refine qa (fun hle0=>⟨trivial,fun _=> ?_⟩) fun hgt0=> ?_
 ·have hle:frm<=T:=of_decide_eq_true hle0
  obtain⟨n,rfl⟩:∃k,n=k+1:=⟨n-1,by omega⟩
  obtain⟨p1,p2,p3⟩:=qhp (l:=a) (frm:=frm) (by rw[hT];exact hle) _ p rfl hp
  obtain⟨q1,q2,q3⟩:=qhp (l:=b) (frm:=frm) (by rw[ht];exact hle) _ q rfl hq
  have hz':rk a b=(out++[⟨frm,mnI (b.getD (adv b frm q) default).to (mnI (a.getD (adv a frm p) default).to T),[(a.getD (adv a frm p) default).val,(b.getD (adv b frm q) default).val]⟩])++qgi a b T n (qg .i64 (mnI (b.getD (adv b frm q) default).to (mnI (a.getD (adv a frm p) default).to T)) 1) (adv a frm p) (adv b frm q):=by
   rw[hz]
   simp only[qgi]
   rw[if_pos hle]
   simp
  have hm:frm<=mnI (b.getD (adv b frm q) default).to (mnI (a.getD (adv a frm p) default).to T)/\mnI (b.getD (adv b frm q) default).to (mnI (a.getD (adv a frm p) default).to T)<=T:=by
   unfold mnI
   constructor <;> (repeat' split) <;> omega
  have ia:=fun(J2 J3:St->Prop)=>qee (K:=fun d h=>∃h',RetLe d h (.tup [L (rk a b) 3 Rw.d,I 0]) h') (a:=a) (b:=b) (frm:=frm) (T:=T) (out:=out) (N:=N) (m:=T) (vals:=[]) (l:=a) (pq:=[(p:Int),(q:Int)]) (i:=0) (k0:=p) J2 J3 (by omega) hp hla (by rw[hT];exact hle) rfl rfl (by simp)
  have ib:=fun(J2 J3:St->Prop)=>qee (K:=fun d h=>∃h',RetLe d h (.tup [L (rk a b) 3 Rw.d,I 0]) h') (a:=a) (b:=b) (frm:=frm) (T:=T) (out:=out) (N:=N) (m:=mnI (a.getD (adv a frm p) default).to T) (vals:=[(a.getD (adv a frm p) default).val]) (l:=b) (pq:=[((adv a frm p:Nat):Int),(q:Int)]) (i:=1) (k0:=q) J2 J3 (by omega) hq hlb (by rw[ht];exact hle) rfl rfl (by simp)
  generalize adv a frm p=p' at p1 p2 p3 hz' hm ia ib
  generalize adv b frm q=q' at q1 q2 q3 hz' hm ia ib
  generalize hm2:mnI (b.getD q' default).to (mnI (a.getD p' default).to T)=m2 at hz' hm ib
  generalize hm1:mnI (a.getD p' default).to T=m1 at hz' hm ia ib hm2
  refine jc (st':=SZ3 a b frm T (qq0 p q p' q' 0) out N (mAt T m1 m2 0) (vAt (a.getD p' default).val (b.getD q' default).val 0) (0:Nat)) ?_ ((StLe.idleOwn _ none 10 2 1 (fun i=> .str (([]:List Str).getD i default)) rfl rfl).cast rfl)
  refine lp (fn:=Tryz.f88) (fun i:Nat=>i<=2) (fun i=>SZ3 a b frm T (qq0 p q p' q' i) out N (mAt T m1 m2 i) (vAt (a.getD p' default).val (b.getD q' default).val i) i) (fun i=>2-i) [0,6,7,8,9,10,91,92,93] (by kernel_rfl) (fun i hi=>of_eq (qsd a b frm T (qq0 p q p' q' i) out N (mAt T m1 m2 i) (vAt (a.getD p' default).val (b.getD q' default).val i) i _ _ _) (qa (fun hlt=> ?_) fun hge=> ?_)) 0 (by omega)
  ·have hlt:i<2:=by have:(i:Int)<2:=of_decide_eq_true hlt;omega
   have hll:(([a,b].length:Nat):Int)=2:=rfl
   refine⟨⟨by omega,by omega⟩,?_⟩
   rcases i with _|_|i
   ·exact ia _ _ fun st hst=>Nx.of 1 (by omega) (by omega) hst
   ·exact ib _ _ fun st hst=>Nx.of 2 (by omega) (by omega) hst
   ·omega
  ·have hi2:i=2:=by have:¬(i:Int)<2:=of_decide_eq_false hge;omega
   subst hi2
   have hadd:qg .i64 m2 1=m2+1:=jk (by omega) (by omega)
   refine⟨⟨hw1,by unfold q7;omega⟩,Nx.of (qg .i64 m2 1,p',q',out++[⟨frm,m2,[(a.getD p' default).val,(b.getD q' default).val]⟩],N+1,n) ⟨by simp only;omega,p2,q2,by simp only[List.length_append,List.length_singleton];omega,by simp only;omega,hz'⟩ (by simp only;omega) ?_⟩
   refine(StLe.set (d':=LT (out++[⟨frm,m2,[(a.getD p' default).val,(b.getD q' default).val]⟩]) 3 Rw.d 1) 9 rfl (Wk.snocW (x:=(⟨frm,m2,[(a.getD p' default).val,(b.getD q' default).val]⟩:Rw)) (Wk.agg (Wks.cons (Wk.refl _) (Wks.cons (Wk.refl _) (Wks.cons Wk.tokL (Wks.refl _))))) rfl) rfl rfl).trans ?_
   refine(StLe.heapLe qm5).cast ?_
   simp only[SZ2,qq0,List.length_append,List.length_singleton]
   rfl
 ·have hgt:¬frm<=T:=of_decide_eq_false hgt0
  have:qgi a b T n frm p q=[]:=by
   cases n with
   |zero=>rfl
   |succ n=>simp only[qgi];rw[if_neg hgt]
  rw[hz,this,List.append_nil]
  exact⟨_,RetLe.wk (Wk.tup (Wks.cons Wk.tokL (Wks.refl _))) rfl⟩
def w0:Wv:=⟨[⟨0,1,[⟨2,[48]⟩,⟨5,[49]⟩]⟩],[],9⟩
def c0:List Sp:=[⟨2,6,[99]⟩]
def z0:List Rw:=[⟨2,4,[[48],[99]]⟩,⟨5,6,[[49],[99]]⟩]
theorem Wk.litW{α:Type}[Inhabited α]{sz:Nat}{enc:α->D}{l:List α}{ds:List D}{n:Nat}{own:Own}(hn:n=l.length)(hd:∀i,i<l.length->Wk (zf ds i) (enc (l.getD i default))/\(ones (zf ds i)=true->ones (enc (l.getD i default))=true)):Wk (.list n sz (zf ds) own) (L l sz enc) :=
 Wk.listW hn (.inl rfl) (fun i hi=>hd i (by omega)) (.inl rfl)
def qkj{α:Type}[Inhabited α](l:List α):Nat->Option α
 |0=>none
 |i+1=>some (l.getD i default)
theorem rm{α:Type}[Inhabited α]{f:α->Bool}{l:List α}{i:Nat}(h:i<l.length):(l.drop i).all f=(f (l.getD i default)&&(l.drop (i+1)).all f):=by
 rw[jb _ _ h,List.all_cons]
def l6(c:UInt8):Bool:=bif bif bif(c.toNat:Int)!=48 then(c.toNat:Int)!=49 else false then(c.toNat:Int)!=120 else false then(c.toNat:Int)!=122 else false
def qjh(q:Sig)(v:Str):Bool:=bif q.kind==3 then v==[] else bif q.kind==0 then v.all (fun c=> !l6 c)&&((v.length:Int)==q.width) else decide ((v.length:Int)<=64)
theorem F36:OkF 36 Tryz.f36:=⟨by kernel_rfl,by kernel_rfl,by kernel_rfl⟩
def qxu:List (List Nat×List Nat):=[([1,0,1,0,1,1,1,0,0,1,0],[1,2,5])]
noncomputable def qzy:List Nat->Nat->Option Ans:=qf []
theorem nvl[Lay](q:Sig)(v:Str)(K:D->Prop):qn (En Tryz.f36) (fi Tryz.f36 K) (qzy ) qxu 200 [.code []] ⟨qc 0 [q.d,.str v],.empty⟩ =
 (bif q.kind==3 then K (B (v=={data:= #[]:ByteArray}.data.toList)) else bif q.kind==0 then At (En Tryz.f36) (fi Tryz.f36 K) [It.code [1,0,1,0,1,1,1,0,0,1,0],It.blk 1,It.code [1,0,1,0,1,1,1,0,1],It.blk 0,It.code [1,1]] {sl:=[(1,.str v),(2,.own [I q.kind,I q.width,L q.chg 2 Chg.d]),(5,I 0)],h:=Heap.empty:St} else List.length v<=jt->K (B (decide ((↑(List.length v):Int)<=64)))):=by kernel_rfl
def Svl(q:Sig)(v:Str)(i:Int):St:=⟨[(1,.str v),(2,.own [I q.kind,I q.width,L q.chg 2 Chg.d]),(5,I i)],.empty⟩
noncomputable def qsf:List Nat->Nat->Option Ans:=qf []
theorem qzz[Lay](q:Sig)(v:Str)(i:Int)(J:St->Prop)(K:D->Prop):qn (En Tryz.f36) (fi Tryz.f36 K) (qsf ) qxu 200 [.code [1,0,1,0,1,1,1,0,0,1,0,0],stp [1,2,5] J,.blk 1,.code [1,0,1,0,1,1,1,0,1],.blk 0,.code [1,1]] (Svl q v i)=
 (List.length v<=jt->bif decide (i<(↑(List.length v):Int)) then(0<=i/\i<(↑(List.length v):Int))/\(((↑(List.getD v i.toNat 0).toNat:Int)!=48)=true->0<=i/\i<(↑(List.length v):Int))/\((bif(↑(List.getD v i.toNat 0).toNat:Int)!=48 then(↑(List.getD v i.toNat 0).toNat:Int)!=49 else false)=true->0<=i/\i<(↑(List.length v):Int))/\((bif bif(↑(List.getD v i.toNat 0).toNat:Int)!=48 then(↑(List.getD v i.toNat 0).toNat:Int)!=49 else false then(↑(List.getD v i.toNat 0).toNat:Int)!=120 else false)=true->0<=i/\i<(↑(List.length v):Int))/\bif bif bif bif(↑(List.getD v i.toNat 0).toNat:Int)!=48 then(↑(List.getD v i.toNat 0).toNat:Int)!=49 else false then(↑(List.getD v i.toNat 0).toNat:Int)!=120 else false then(↑(List.getD v i.toNat 0).toNat:Int)!=122 else false then K (B false) else J {sl:=[(1,.str v),(2,.own [I q.kind,I q.width,L q.chg 2 Chg.d]),(5,I (qg .i64 i 1))],h:=Heap.empty:St} else List.length v<=jt->K (B ((↑(List.length v):Int)==q.width))):=by kernel_rfl
theorem c36[Lay](q:Sig)(v:Str):Pure PP 36 [q.d,.str v] (B (qjh q v)):=by
 refine pu F36 (by kernel_rfl) (of_eq (nvl q v _) (qa (fun h=> ?_) fun h=>qa (fun h0=> ?_) fun h0=>fun _=> ?_)) <;> unfold qjh <;> rw[h]
 ·exact Wk.refl _
 ·rw[h0]
  simp only[cond_true,cond_false]
  refine lp (fn:=Tryz.f36) (fun i:Nat=>i<=v.length/\v.all (fun c=> !l6 c)=(v.drop i).all (fun c=> !l6 c)) (fun i=>Svl q v i) (fun i=>v.length-i) [1,2,5] (by kernel_rfl) (fun i hi=>of_eq (qzz q v i _ _) fun hl=>qa (fun hlt=> ?_) fun hge=>fun _=> ?_) 0 ⟨Nat.zero_le _,rfl⟩
  ·have hlt:=ltI hlt
   obtain⟨_,he⟩:=hi
   rw[bi hlt hl,Int.toNat_natCast]
   have hin:(0:Int)<=(i:Int)/\(i:Int)<(v.length:Int):=⟨by omega,by omega⟩
   rw[rm hlt,show(v.getD i default:UInt8)=v.getD i 0 from rfl]at he
   refine⟨hin,fun _=>hin,fun _=>hin,fun _=>hin,qa (fun h=> ?_) fun h=> ?_⟩
   ·have h:l6 (v.getD i 0)=true:=h
    rw[he,h];exact Wk.refl _
   ·have h:l6 (v.getD i 0)=false:=h
    exact Nx.mk (i+1) ⟨hlt,by rw[he,h];rfl⟩ (by omega)
  ·rw[hi.2,List.drop_of_length_le (geI hge)]
   exact Wk.refl _
 ·rw[h0];exact Wk.refl _
def qbl(w:Wv)(q:Sig)(p:Option Chg)(b:Str)(x:Chg):Bool :=
 bif bif bif bif decide (x.time<0) then true else decide (x.time > w.fin) then true else match p with|none=>false|some y=>decide (y.time>=x.time) then true else !qjh q x.val then true else bif q.kind !=3 then x.val==b else false
def oi(w:Wv)(q:Sig):Option Chg->Str->List Chg->Bool
 |_,_,[]=>true
 |p,b,x::r=> !qbl w q p b x&&oi w q (some x) x.val r
def l7(q:Sig):Bool :=
 bif bif bif bif bif decide (q.kind<0) then true else decide (q.kind > 3) then true else decide ((q.chg.length:Int) > 20) then true else bif q.kind==0 then bif decide (q.width<1) then true else decide (q.width > 64) else false then true else bif q.kind !=0 then q.width !=0 else false then true else false
def si(w:Wv)(q:Sig):Bool:= !l7 q&&oi w q none (ini q) q.chg
def qhr(w:Wv)(p:Option Iv)(x:Iv):Bool :=
 bif bif bif decide (x.frm<0) then true else decide (x.frm>=x.to) then true else decide (x.to > qg .i64 w.fin 1) then true else match p with|none=>false|some y=>decide (y.to>=x.frm)
def qhs(w:Wv):Option Iv->List Iv->Bool
 |_,[]=>true
 |p,x::r=> !qhr w p x&&qhs w (some x) r
def smB(w:Wv):Bool:= !(bif bif bif decide ((w.sig.length:Int) > 8) then true else decide ((w.gap.length:Int) > 4) then true else decide (w.fin<0) then true else decide (w.fin > 1099511627776))&&(w.sig.all (si w)&&qhs w none w.gap)
theorem F19:OkF 19 Tryz.f19:=⟨by kernel_rfl,by kernel_rfl,by kernel_rfl⟩
def qq1:List (List Nat×List Nat):=[([1,1,0,1,0],[1,3]),([1,1,0,1,0,0,1,0,0,1,1,1,1,0],[1,3,4,5,6]),([1,1,1,0,1,0],[1,8])]
noncomputable def qz0:List Nat->Nat->Option Ans:=qf []
theorem nSm[Lay](w:Wv)(K:D->Prop):qn (En Tryz.f19) (fi Tryz.f19 K) (qz0 ) qq1 200 [.code []] ⟨qc 0 [w.d],.empty⟩ =
 (w.sig.length<=q8->((!decide ((↑w.sig.length:Int) > 8))=true->w.gap.length<=q8)->bif bif bif bif decide ((↑w.sig.length:Int) > 8) then true else decide ((↑w.gap.length:Int) > 4) then true else decide (w.fin<0) then true else decide (w.fin > 1099511627776) then K (B false) else At (En Tryz.f19) (fi Tryz.f19 K) [It.code [1,1,0,1,0],It.blk 0,It.code [1,1,1]] {sl:=[(1,.own [L w.sig 3 Sig.d,L w.gap 2 Iv.d,I w.fin]),(3,I 0)],h:=Heap.empty:St}):=by kernel_rfl
def SSm(w:Wv)(i:Int):St:=⟨[(1,.own [L w.sig 3 Sig.d,L w.gap 2 Iv.d,I w.fin]),(3,I i)],.empty⟩
noncomputable def qsg(w:Wv)(i:Int):List Nat->Nat->Option Ans:=qf [([1,1,0,1,0,0,1,0,0,1,1,0],1,Ans.pure [(w.sig.getD i.toNat default).d] (.str (ini (w.sig.getD i.toNat default))))]
theorem qz1[Lay](w:Wv)(i:Int)(J:St->Prop)(K:D->Prop):qn (En Tryz.f19) (fi Tryz.f19 K) (qsg w i) qq1 200 [.code [1,1,0,1,0,0],stp [1,3] J,.blk 0,.code [1,1,1]] (SSm w i)=
 (w.sig.length<=q8->bif decide (i<(↑w.sig.length:Int)) then(0<=i/\i<(↑w.sig.length:Int))/\True/\(((!bif decide ((w.sig.getD i.toNat default).kind<0) then true else decide ((w.sig.getD i.toNat default).kind > 3))=true->(w.sig.getD i.toNat default).chg.length<=q8)->bif bif bif bif bif decide ((w.sig.getD i.toNat default).kind<0) then true else decide ((w.sig.getD i.toNat default).kind > 3) then true else decide ((↑(w.sig.getD i.toNat default).chg.length:Int) > 20) then true else bif(w.sig.getD i.toNat default).kind==0 then bif decide ((w.sig.getD i.toNat default).width<1) then true else decide ((w.sig.getD i.toNat default).width > 64) else false then true else bif(w.sig.getD i.toNat default).kind !=0 then(w.sig.getD i.toNat default).width !=0 else false then K (B false) else PureW PP 35 [(w.sig.getD i.toNat default).d] [(w.sig.getD i.toNat default).d] (.str (ini (w.sig.getD i.toNat default)))/\At (En Tryz.f19) (fi Tryz.f19 K) [It.code [1,1,0,1,0,0,1,0,0,1,1,1,1,0],It.blk 2,It.blk 1,It.code [1,1,0,1,0,0,1,1],stp [1,3] J,It.blk 0,It.code [1,1,1]] {sl:=[(1,.own [L w.sig 3 Sig.d,L w.gap 2 Iv.d,I w.fin]),(3,I i),(4,.own [I (w.sig.getD i.toNat default).kind,I (w.sig.getD i.toNat default).width,L (w.sig.getD i.toNat default).chg 2 Chg.d]),(5,.str (ini (w.sig.getD i.toNat default))),(6,I 0)],h:=Heap.empty:St}) else At (En Tryz.f19) (fi Tryz.f19 K) [It.code [1,1,1,0,1,0],It.blk 4,It.code [1,1,1,1]] {sl:=[(1,.own [L w.sig 3 Sig.d,L w.gap 2 Iv.d,I w.fin]),(8,I 0)],h:=Heap.empty:St}):=by kernel_rfl
def qxv(w:Wv)(i:Int)(q:Sig)(k:Int)(b:Str):St:=⟨[(1,.own [L w.sig 3 Sig.d,L w.gap 2 Iv.d,I w.fin]),(3,I i),(4,.own [I q.kind,I q.width,L q.chg 2 Chg.d]),(5,.str b),(6,I k)],.empty⟩
noncomputable def qsh(q:Sig)(k:Int):List Nat->Nat->Option Ans:=qf [([1,1,0,1,0,0,1,0,0,1,1,1,1,0,0,1,0,0,1,0,0],30,Ans.pure [q.d,.str (q.chg.getD k.toNat default).val] (B (qjh q (q.chg.getD k.toNat default).val)))]
theorem qz2[Lay](w:Wv)(i:Int)(q:Sig)(k:Int)(b:Str)(J J2:St->Prop)(K:D->Prop):qn (En Tryz.f19) (fi Tryz.f19 K) (qsh q k) qq1 200 [.code [1,1,0,1,0,0,1,0,0,1,1,1,1,0,0],stp [1,3,4,5,6] J,.blk 2,.blk 1,.code [1,1,0,1,0,0,1,1],stp [1,3] J2,.blk 0,.code [1,1,1]] (qxv w i q k b)=
 (q.chg.length<=q8->bif decide (k<(↑q.chg.length:Int)) then(0<=k/\k<(↑q.chg.length:Int))/\True/\(((!bif decide ((q.chg.getD k.toNat default).time<0) then true else decide ((q.chg.getD k.toNat default).time > w.fin))&&decide (k > 0))=true->0<=qj .i64 k 1/\qj .i64 k 1<(↑q.chg.length:Int))/\((!bif bif decide ((q.chg.getD k.toNat default).time<0) then true else decide ((q.chg.getD k.toNat default).time > w.fin) then true else bif decide (k > 0) then decide ((q.chg.getD (qj .i64 k 1).toNat default).time>=(q.chg.getD k.toNat default).time) else false)=true->PureW PP 36 [q.d,.str (q.chg.getD k.toNat default).val] [q.d,.str (q.chg.getD k.toNat default).val] (B (qjh q (q.chg.getD k.toNat default).val)))/\bif bif bif bif bif decide ((q.chg.getD k.toNat default).time<0) then true else decide ((q.chg.getD k.toNat default).time > w.fin) then true else bif decide (k > 0) then decide ((q.chg.getD (qj .i64 k 1).toNat default).time>=(q.chg.getD k.toNat default).time) else false then true else !qjh q (q.chg.getD k.toNat default).val then true else bif q.kind !=3 then(q.chg.getD k.toNat default).val==b else false then K (B false) else J {sl:=[(1,.own [L w.sig 3 Sig.d,L w.gap 2 Iv.d,I w.fin]),(3,I i),(4,.own [I q.kind,I q.width,L q.chg 2 Chg.d]),(5,.str (q.chg.getD k.toNat default).val),(6,I (qg .i64 k 1))],h:=Heap.empty:St} else J2 {sl:=[(1,.own [L w.sig 3 Sig.d,L w.gap 2 Iv.d,I w.fin]),(3,I (qg .i64 i 1))],h:=Heap.empty:St}):=by kernel_rfl
def qxw(w:Wv)(i:Int):St:=⟨[(1,.own [L w.sig 3 Sig.d,L w.gap 2 Iv.d,I w.fin]),(8,I i)],.empty⟩
noncomputable def qsi:List Nat->Nat->Option Ans:=qf []
theorem qz3[Lay](w:Wv)(i:Int)(J:St->Prop)(K:D->Prop):qn (En Tryz.f19) (fi Tryz.f19 K) (qsi ) qq1 200 [.code [1,1,1,0,1,0,0],stp [1,8] J,.blk 4,.code [1,1,1,1]] (qxw w i)=
 (w.gap.length<=q8->bif decide (i<(↑w.gap.length:Int)) then(0<=i/\i<(↑w.gap.length:Int))/\True/\(((!bif bif decide ((w.gap.getD i.toNat default).frm<0) then true else decide ((w.gap.getD i.toNat default).frm>=(w.gap.getD i.toNat default).to) then true else decide ((w.gap.getD i.toNat default).to > qg .i64 w.fin 1))&&decide (i > 0))=true->0<=qj .i64 i 1/\qj .i64 i 1<(↑w.gap.length:Int))/\bif bif bif bif decide ((w.gap.getD i.toNat default).frm<0) then true else decide ((w.gap.getD i.toNat default).frm>=(w.gap.getD i.toNat default).to) then true else decide ((w.gap.getD i.toNat default).to > qg .i64 w.fin 1) then true else bif decide (i > 0) then decide ((w.gap.getD (qj .i64 i 1).toNat default).to>=(w.gap.getD i.toNat default).frm) else false then K (B false) else J {sl:=[(1,.own [L w.sig 3 Sig.d,L w.gap 2 Iv.d,I w.fin]),(8,I (qg .i64 i 1))],h:=Heap.empty:St} else K (B true)):=by kernel_rfl
theorem pk{q:Sig}(h:l7 q=false):q.width<=64/\q.chg.length<=20/\0<=q.kind/\q.kind<=3:=by
 unfold l7 at h
 simp only[Bool.cond_eq_ite]at h
 by_cases h1:q.kind<0
 ·simp[h1]at h
 by_cases h2:q.kind > 3
 ·simp[h1,h2]at h
 by_cases h3:(q.chg.length:Int) > 20
 ·simp[h1,h2,h3]at h
 refine⟨?_,by omega,by omega,by omega⟩
 by_cases h4:q.kind=0
 ·by_cases h5:q.width<1
  ·simp[h1,h2,h3,h4,h5]at h
  ·by_cases h6:q.width > 64
   ·simp[h3,h4,h5,h6]at h
   ·omega
 ·by_cases h5:q.width=0
  ·omega
  ·simp[h1,h2,h3,h4,h5]at h
theorem c19[Lay](w:Wv):Pure PP 19 [w.d] (B (smB w)):=by
 refine pu F19 (by kernel_rfl) (of_eq (nSm w _) fun hl _=>qa (fun h=> ?_) fun h=> ?_) <;> unfold smB <;> rw[h]
 ·exact Wk.refl _
 simp only[Bool.not_false,Bool.true_and]
 refine lp (fn:=Tryz.f19) (fun i:Nat=>i<=w.sig.length/\w.sig.all (si w)=(w.sig.drop i).all (si w)) (fun i=>SSm w i) (fun i=>w.sig.length-i) [1,3] (by kernel_rfl) (fun i hi=>of_eq (qz1 w i _ _) fun _=>qa (fun hlt=> ?_) fun hge=> ?_) 0 ⟨Nat.zero_le _,rfl⟩
 ·have hlt:=ltI hlt
  obtain⟨_,he⟩:=hi
  rw[Int.toNat_natCast]
  rw[rm hlt]at he
  generalize w.sig.getD i default=q at he⊢
  refine⟨⟨by omega,by omega⟩,trivial,fun hx=>qa (fun h=> ?_) fun h=> ?_⟩
  ·have hb:l7 q=true:=by unfold l7;rw[h];rfl
   rw[he];unfold si;rw[hb];exact Wk.refl _
  ·have hb:l7 q=false:=by unfold l7;rw[h];rfl
   obtain⟨h1,h2,h3,h4⟩:=pk hb
   have hcl:q.chg.length<=q8:=by unfold q8;omega
   refine⟨PureW.mk (c35 q (by omega)),?_⟩
   refine lp (fn:=Tryz.f19) (fun z:Nat×Str=>z.1<=q.chg.length/\oi w q none (ini q) q.chg=oi w q (qkj q.chg z.1) z.2 (q.chg.drop z.1)) (fun z=>qxv w i q z.1 z.2) (fun z=>q.chg.length-z.1) [1,3,4,5,6] (by kernel_rfl) (fun z hz=>of_eq (qz2 w i q z.1 z.2 _ _ _) fun _=> ?_) (0,ini q) ⟨Nat.zero_le _,rfl⟩
   obtain⟨k,u⟩:=z
   obtain⟨_,hc⟩:=hz
   simp only at hc⊢
   refine qa (fun hlt2=> ?_) fun hge=> ?_
   ·have hlt2:=ltI hlt2
    rw[jb _ _ hlt2]at hc
    simp only[oi]at hc
    have hp:0<k->qj .i64 (k:Int) 1=((k-1:Nat):Int):=fun h0=>pi h0 (by omega)
    rw[bi hlt2 hcl,Int.toNat_natCast]
    have hbad:(bif bif bif bif decide ((q.chg.getD k default).time<0) then true else decide ((q.chg.getD k default).time > w.fin) then true else bif decide ((k:Int) > 0) then decide ((q.chg.getD (qj .i64 (k:Int) 1).toNat default).time>=(q.chg.getD k default).time) else false then true else !qjh q (q.chg.getD k default).val then true else bif q.kind !=3 then(q.chg.getD k default).val==u else false)=qbl w q (qkj q.chg k) u (q.chg.getD k default):=by
     unfold qbl
     cases k with
     |zero=>rfl
     |succ k=>rw[hp (by omega),Int.toNat_natCast,decide_eq_true (show((k+1:Nat):Int) > 0 by omega)];rfl
    refine⟨⟨by omega,by omega⟩,trivial,fun h=> ?_,fun _=>PureW.mk (c36 _ _),?_⟩
    ·have h0:0<k:=by simp at h;omega
     rw[hp h0];omega
    ·rw[hbad]
     refine qa (fun h=> ?_) fun h=> ?_
     ·rw[h]at hc
      rw[he];unfold si;rw[hb,hc];exact Wk.refl _
     ·rw[h]at hc
      exact Nx.mk (k+1,(q.chg.getD k default).val) ⟨hlt2,hc⟩ (by simp only;omega)
   ·rw[List.drop_of_length_le (geI hge)]at hc
    have hs:si w q=true:=by unfold si;rw[hb,hc];rfl
    rw[bi hlt hl]
    exact Nx.mk (i+1) ⟨hlt,by rw[he,hs];rfl⟩ (by omega)
 ·have ha:w.sig.all (si w)=true:=by rw[hi.2,List.drop_of_length_le (geI hge)];rfl
  rw[ha]
  simp only[Bool.true_and]
  refine lp (fn:=Tryz.f19) (fun i:Nat=>i<=w.gap.length/\qhs w none w.gap=qhs w (qkj w.gap i) (w.gap.drop i)) (fun i=>qxw w i) (fun i=>w.gap.length-i) [1,8] (by kernel_rfl) (fun i hi=>of_eq (qz3 w i _ _) fun hgl=>qa (fun hlt=> ?_) fun hge=> ?_) 0 ⟨Nat.zero_le _,rfl⟩
  ·have hlt:=ltI hlt
   obtain⟨_,he⟩:=hi
   have hp:0<i->qj .i64 (i:Int) 1=((i-1:Nat):Int):=fun h0=>pi h0 (by omega)
   rw[jb _ _ hlt]at he
   simp only[qhs]at he
   rw[bi hlt hgl,Int.toNat_natCast]
   have hbad:(bif bif bif decide ((w.gap.getD i default).frm<0) then true else decide ((w.gap.getD i default).frm>=(w.gap.getD i default).to) then true else decide ((w.gap.getD i default).to > qg .i64 w.fin 1) then true else bif decide ((i:Int) > 0) then decide ((w.gap.getD (qj .i64 (i:Int) 1).toNat default).to>=(w.gap.getD i default).frm) else false)=qhr w (qkj w.gap i) (w.gap.getD i default):=by
    unfold qhr
    cases i with
    |zero=>rfl
    |succ i=>rw[hp (by omega),Int.toNat_natCast,decide_eq_true (show((i+1:Nat):Int) > 0 by omega)];rfl
   refine⟨⟨by omega,by omega⟩,trivial,fun h=> ?_,?_⟩
   ·have h0:0<i:=by simp at h;omega
    rw[hp h0];omega
   ·rw[hbad]
    refine qa (fun h=> ?_) fun h=> ?_
    ·rw[h]at he;rw[he];exact Wk.refl _
    ·rw[h]at he;exact Nx.mk (i+1) ⟨hlt,he⟩ (by omega)
  ·rw[hi.2,List.drop_of_length_le (geI hge)];exact Wk.refl _
theorem qbm{w:Wv}{q:Sig}:∀{l:List Chg} {p:Option Chg} {b:Str} {t:Int},oi w q p b l=true->(match p with|none=>t = -1|some y=>t=y.time)->Inc t l
 | [],_,_,_,_,_=>trivial
 |x::r,p,b,t,h,ht=>by
  simp only[oi,Bool.and_eq_true,Bool.not_eq_true']at h
  obtain⟨h1,h2⟩:=h
  refine⟨?_,qbm h2 rfl⟩
  unfold qbl at h1
  by_cases h0:x.time<0
  ·rw[decide_eq_true h0]at h1;cases h1
  rw[decide_eq_false h0]at h1
  cases h3:decide (x.time > w.fin) with
  |true=>rw[h3]at h1;cases h1
  |false =>
   rw[h3]at h1
   cases p with
   |none=>simp only at ht;omega
   |some y =>
    simp only at ht
    by_cases h4:y.time>=x.time
    ·simp[h4]at h1
    ·omega
structure SmOk(w:Wv):Prop where
 fin:0<=w.fin/\w.fin<=1099511627776
 len:w.sig.length<=8
 sig:∀q∈w.sig,q.chg.length<=20/\q.width<=64/\Inc (-1) q.chg
theorem kn[Lay]{w:Wv}(h:smB w=true):SmOk w:=by
 unfold smB at h
 simp only[Bool.and_eq_true,Bool.not_eq_true']at h
 obtain⟨h1,h2,_⟩:=h
 by_cases c1:(w.sig.length:Int) > 8
 ·rw[decide_eq_true c1]at h1;cases h1
 rw[decide_eq_false c1]at h1
 cases c2:decide ((w.gap.length:Int) > 4) with
 |true=>rw[c2]at h1;cases h1
 |false =>
  rw[c2]at h1
  by_cases c3:w.fin<0
  ·rw[decide_eq_true c3]at h1;cases h1
  rw[decide_eq_false c3]at h1
  by_cases c4:w.fin > 1099511627776
  ·rw[decide_eq_true c4]at h1;cases h1
  refine⟨⟨by omega,by omega⟩,by omega,fun q hq=> ?_⟩
  have:=List.all_eq_true.1 h2 q hq
  unfold si at this
  simp only[Bool.and_eq_true,Bool.not_eq_true']at this
  obtain⟨d1,d2,_⟩:=pk this.1
  exact⟨d2,d1,qbm this.2 rfl⟩
theorem qly[Lay]{α:Type}[Inhabited α]{es:List α}{sz n:Nat}{enc:α->D}(hn:n=es.length):RetLe (.vec 0 n sz) (zn es enc) (L es sz enc) (qgh (zn es enc) 0):=by
 subst hn
 exact(RetLe.frz (d:= .vec 0 es.length sz) (t:=0) (n:=es.length) (f:=cv es enc) rfl rfl (show ua 0 es.length (.vec 0 es.length sz) by simp[ua])).trans (RetLe.wk Wk.tokL rfl)
instance {ds:List D}[h:DS ds]:DD (.ep ds):=⟨h.p⟩
def hR:Heap:=⟨fun _=>none,4,fun _=>none,1,fun _=>none⟩
theorem qm6{h:Heap}(hn:h.nl<=4)(ht:h.nt<=1):HeapLe h hR:=⟨fun l row' e=>(by cases e),hn,fun t n e=>(by cases e),ht,fun t n e=>(by cases e),fun _ _=>rfl⟩
theorem qc3{lim c:Int}(h0:0<=c)(h:c<=1000000):qjg lim c=decide (lim>=0/\c+1 > lim):=by
 unfold qjg
 rw[jk (by omega) (by omega)]
 by_cases h1:lim>=0
 ·rw[decide_eq_true h1];simp[h1]
 ·rw[decide_eq_false h1];simp[h1]
theorem qkk{at_ to:Int}{x:Chg}{l:List Chg}(h:Inc at_ (x::l))(ht:x.time<=to):cut (x::l) at_ to=x::cut l x.time to:=by
 obtain⟨h1,h2⟩:=h
 have hgt:=Inc.gt h2
 simp only[cut,List.filter_cons,decide_eq_true (show x.time > at_ by omega),decide_eq_true ht,Bool.and_self,if_true]
 congr 1
 refine List.filter_congr fun y hy=> ?_
 have:=hgt y hy
 rw[decide_eq_true (show y.time > at_ by omega),decide_eq_true (show y.time > x.time by omega)]
theorem qkl{at_ to:Int}{x:Chg}{l:List Chg}(h:Inc at_ (x::l))(ht:x.time > to):cut (x::l) at_ to=[]:=by
 unfold cut
 rw[List.filter_eq_nil_iff]
 intro y hy
 have:to<y.time:=by
  rcases List.mem_cons.1 hy with rfl|hy
  ·exact ht
  ·have:=Inc.gt h.2 y hy;omega
 simp;omega
theorem qbn(to lim:Int):∀(b:List Chg) (at_ c:Int) (out:List Sp),Inc at_ b->0<=c->c+b.length<=999999 ->
  ((lim<0\/c+(cut b at_ to).length+1<=lim)->itR lim to b c out=((cut b at_ to).foldl (fun o x=>ph o x.time x.val) out,c+(cut b at_ to).length+1,0))/\
  (¬(lim<0\/c+(cut b at_ to).length+1<=lim)->(itR lim to b c out).2.2=14)
 | [],at_,c,out,_,h0,hl=>by
  simp only[List.length_nil]at hl
  have ho:=qc3 (lim:=lim) h0 (by omega)
  have ha:qg .i64 c 1=c+1:=jk (by omega) (by omega)
  simp only[itR,ha,ho,cut,List.filter_nil,List.length_nil,List.foldl_nil]
  refine⟨fun h=> ?_,fun h=> ?_⟩
  ·rw[decide_eq_false (by omega)];simp
  ·rw[decide_eq_true (by omega)];rfl
 |x::l,at_,c,out,hi,h0,hl=>by
  simp only[List.length_cons]at hl
  have ho:=qc3 (lim:=lim) h0 (by omega)
  have ha:qg .i64 c 1=c+1:=jk (by omega) (by omega)
  have hi2:=hi
  obtain⟨h1,h2⟩:=hi2
  simp only[itR,ha,ho]
  by_cases ht:x.time > to
  ·rw[qkl hi ht,decide_eq_true ht]
   simp only[List.length_nil,List.foldl_nil,cond_true]
   refine⟨fun h=> ?_,fun h=> ?_⟩
   ·rw[decide_eq_false (by omega)];simp
   ·rw[decide_eq_true (by omega)];rfl
  ·rw[qkk hi (by omega),decide_eq_false ht]
   simp only[List.length_cons,List.foldl_cons,cond_false]
   have ih:=qbn to lim l x.time (c+1) (ph out x.time x.val) h2 (by omega) (by omega)
   refine⟨fun h=> ?_,fun h=> ?_⟩
   ·rw[decide_eq_false (by omega)]
    simp only[cond_false]
    rw[ih.1 (by omega)]
    congr 2
    push_cast;omega
   ·by_cases hc:lim>=0/\c+1 > lim
    ·rw[decide_eq_true hc];rfl
    ·rw[decide_eq_false hc]
     simp only[cond_false]
     exact ih.2 (by omega)
theorem qm7(l:List Chg)(frm to:Int):cut (aft l frm) frm to=cut l frm to:=by
 unfold cut aft
 rw[List.filter_filter]
 refine List.filter_congr fun x _=> ?_
 cases decide (x.time > frm) <;> simp
theorem qm8(l:List Chg)(frm:Int):(aft l frm).length<=l.length:=List.length_filter_le _ _
structure Ask(w:Wv)(sig frm to:Int):Prop where
 hsig:0<=sig/\sig<(w.sig.length:Int)
 hkind:(qm w sig).kind≠3
 hfrm:0<=frm
 hle:frm<=to
 hto:to<=w.fin
theorem SmOk.at{w:Wv}(h:SmOk w){sig:Int}(hs:0<=sig/\sig<(w.sig.length:Int)):(qm w sig).chg.length<=20/\(qm w sig).width<=64/\Inc (-1) (qm w sig).chg:=by
 have:sig.toNat<w.sig.length:=by omega
 refine h.sig _ ?_
 unfold qm
 rw[List.getD_eq_getElem?_getD,List.getElem?_eq_getElem this]
 exact List.getElem_mem this
def ofN(w:Wv)(sig frm to:Int):Int:=(cut (qm w sig).chg frm to).length+3
theorem SmOk.of{w:Wv}(h:SmOk w):∀q∈w.sig,q.chg.length<=900/\q.width<=1000000/\Inc (-1) q.chg:=fun q hq=>by
 obtain⟨h1,h2,h3⟩:=h.sig q hq
 exact⟨by omega,by omega,h3⟩
end Go.Proofs.YtiekphbkomddfaaGreatDoor.S1
namespace Go.Proofs.YtiekphbkomddfaaGreatDoor.S1
open Go Go.Ab Go.Proofs
open Go.ChangeShapes Go.WideShapes Go.ChangeAt Go.RowKit Go.Joins
abbrev any{α:Type}:α->Prop:=fun _=>True
theorem rc{P:Program}{total:Nat}{f:Field}{fs:List Field}{off off' t:Nat}{α β:Type}{enc:α->D}{encF:β->List D}(h:Reads P t enc any)(k:ReadsF P total fs off' encF any)(ht:f.type=t)(ho:f.offset=off)(hs:off+P.cellsOf t=off') :
  ReadsF P total (f::fs) off (fun x:α×β=>ql (enc x.1)++encF x.2) any:=by
 subst ht;subst hs
 have hc:=ReadsF.cons h k ho
 exact⟨hc.size,hc.ones,hc.data,fun a b=>by obtain⟨x,_,hr⟩:=hc.it a b;exact⟨x,trivial,hr⟩⟩
theorem rn{P:Program}{total:Nat}:ReadsF P total [] total (fun _:Unit=>[]) any:=ReadsF.nil
theorem cI:Tryz.prog.cellsOf 3=1:=by kernel_rfl
theorem qsj:Tryz.prog.cellsOf 9=1:=by kernel_rfl
theorem qxx:Tryz.prog.cellsOf 49=2:=by kernel_rfl
theorem qo8:Tryz.prog.cellsOf 45=1:=by kernel_rfl
theorem qxy:Tryz.prog.cellsOf 47=3:=by kernel_rfl
theorem qo9:Tryz.prog.cellsOf 26=1:=by kernel_rfl
theorem qxz:Tryz.prog.cellsOf 76=2:=by kernel_rfl
theorem qpa:Tryz.prog.cellsOf 27=1:=by kernel_rfl
theorem cWv:Tryz.prog.cellsOf 29=3:=by kernel_rfl
theorem rI:Reads Tryz.prog 3 (fun n:Int=>I n) any:=(Reads.int Tryz.underlying3 cI).map (fun n=>n) (fun _=>rfl) (fun n=>⟨n,rfl⟩) fun _ _=>trivial
theorem qx0:Reads Tryz.prog 9 (fun s:Str=> .str s) any:=(Reads.str Tryz.underlying9 qsj).map (fun n=>n) (fun _=>rfl) (fun n=>⟨n,rfl⟩) fun _ _=>trivial
theorem rsl{e t sz:Nat}{α:Type}[Inhabited α]{enc:α->D}(h:Reads Tryz.prog e enc any)(ht:Tryz.prog.underlying t=some (.slice e))(hc:Tryz.prog.cellsOf t=1)(hp:Tryz.prog.cellsOf e=sz)(h0:0<sz):Reads Tryz.prog t (fun es:List α=>L es sz enc) any:=by
 have h:=Reads.slice h ht hc (by rw[hp];exact h0)
 rw[hp]at h
 exact h.map (fun n=>n) (fun _=>rfl) (fun n=>⟨n,rfl⟩) fun _ _=>trivial
theorem qz4:Reads Tryz.prog 49 Chg.d any:=by
 refine(Reads.struct (ok:=any) Tryz.underlying49 ?_).map (fun x:Int×Str×Unit=>(⟨x.1,x.2.1⟩:Chg)) (fun _=>rfl) (fun b=>⟨(b.time,b.val,()),rfl⟩) fun _ _=>trivial
 rw[qxx]
 exact rc rI (rc qx0 rn rfl rfl (by rw[qsj])) rfl rfl (by rw[cI])
theorem qz5:Reads Tryz.prog 76 Iv.d any:=by
 refine(Reads.struct (ok:=any) Tryz.underlying76 ?_).map (fun x:Int×Int×Unit=>(⟨x.1,x.2.1⟩:Iv)) (fun _=>rfl) (fun b=>⟨(b.frm,b.to,()),rfl⟩) fun _ _=>trivial
 rw[qxz]
 exact rc rI (rc rI rn rfl rfl (by rw[cI])) rfl rfl (by rw[cI])
theorem qsk:Reads Tryz.prog 45 (fun es:List Chg=>L es 2 Chg.d) any:=rsl qz4 Tryz.underlying45 qo8 qxx (by decide)
theorem qsl:Reads Tryz.prog 27 (fun es:List Iv=>L es 2 Iv.d) any:=rsl qz5 Tryz.underlying27 qpa qxz (by decide)
theorem qz6:Reads Tryz.prog 47 Sig.d any:=by
 refine(Reads.struct (ok:=any) Tryz.underlying47 ?_).map (fun x:Int×Int×List Chg×Unit=>(⟨x.1,x.2.1,x.2.2.1⟩:Sig)) (fun _=>rfl) (fun b=>⟨(b.kind,b.width,b.chg,()),rfl⟩) fun _ _=>trivial
 rw[qxy]
 exact rc rI (rc rI (rc qsk rn rfl rfl (by rw[qo8])) rfl rfl (by rw[cI])) rfl rfl (by rw[cI])
theorem qsm:Reads Tryz.prog 26 (fun es:List Sig=>L es 3 Sig.d) any:=rsl qz6 Tryz.underlying26 qo9 qxy (by decide)
theorem rWv:Reads Tryz.prog 29 Wv.d any:=by
 refine(Reads.struct (ok:=any) Tryz.underlying29 ?_).map (fun x:List Sig×List Iv×Int×Unit=>(⟨x.1,x.2.1,x.2.2.1⟩:Wv)) (fun _=>rfl) (fun b=>⟨(b.sig,b.gap,b.fin,()),rfl⟩) fun _ _=>trivial
 rw[cWv]
 exact rc qsm (rc qsl (rc rI rn rfl rfl (by rw[cI])) rfl rfl (by rw[qpa])) rfl rfl (by rw[qo9])
theorem own:ownKnob Tryz.prog.godebug=none:=by kernel_rfl
theorem laid:laidOutB Tryz.prog=true:=by kernel_rfl
theorem vn{P:Program}{H:Type}{en:TypeId×Value->H}{W:World}{b:Nat}{sp:Nat->Bool}{hd:Bool}{t:TypeId}{ts:List TypeId}{vs:List Value}{ds:List (DataW H)}{ps:List MemPlace}(h:DataW.TrodAll en P W b sp hd (t::ts) vs ds ps) :
  ∃v r d e p q,vs=v::r/\ds=d::e/\DataW.Trod en P W b sp hd t v d p/\DataW.TrodAll en P W b sp hd ts r e q:=by
 cases vs with
 |nil=>simp[DataW.TrodAll]at h
 |cons v r=>cases ds with
  |nil=>simp[DataW.TrodAll]at h
  |cons d e =>
   obtain⟨p,q,h1,h2,_⟩:=h
   exact⟨v,r,d,e,p,q,rfl,rfl,h1,h2⟩
theorem qef{P:Program}{H:Type}{en:TypeId×Value->H}{W:World}{b:Nat}{sp:Nat->Bool}{hd:Bool}{vs:List Value}{ds:List (DataW H)}{ps:List MemPlace}(h:DataW.TrodAll en P W b sp hd [] vs ds ps):vs=[]/\ds=[]:=by
 cases vs with
 |nil=>cases ds with
  |nil=>exact⟨rfl,rfl⟩
  |cons d e=>simp[DataW.TrodAll]at h
 |cons v r=>simp[DataW.TrodAll]at h
end Go.Proofs.YtiekphbkomddfaaGreatDoor.S1
namespace Go.Proofs.YtiekphbkomddfaaGreatDoor.S1
open Go Go.Ab Go.Proofs
def inP(t:Int)(x:Iv):Bool:=bif decide (x.frm<=t) then decide (t<=x.to) else false
def inI(l:List Iv)(t:Int):Bool:=decide (0<=t)&&(decide (t<=1099511627776)&&l.any (inP t))
theorem qz7:OkF 133 Tryz.f133:=⟨by kernel_rfl,by kernel_rfl,by kernel_rfl⟩
noncomputable def qz8:List Nat->Nat->Option Ans:=qf []
theorem nrI[Lay](l:List Iv)(t:Int)(K:D->Prop):qn (En Tryz.f133) (fi Tryz.f133 K) (qz8 ) p8 200 [.code []] ⟨qc 0 [L l 2 Iv.d,I t],.empty⟩ =
 (bif bif decide (t<0) then true else decide (t > 1099511627776) then K (B false) else At (En Tryz.f133) (fi Tryz.f133 K) [It.code [1,1,0,1,0],It.blk 0,It.code [1,1,1]] {sl:=[(5,I 0),(11,B (bif decide (t<0) then true else decide (t > 1099511627776))),(8,B (decide (t<0))),(7,B (decide (t<0))),(6,I t),(4,B false),(0,L l 2 Iv.d),(1,I t)],h:=Heap.empty:St}):=by kernel_rfl
def SrI(l:List Iv)(t i:Int):St:=⟨[(0,L l 2 Iv.d),(1,I t),(5,I i)],.empty⟩
noncomputable def qsn:List Nat->Nat->Option Ans:=qf []
theorem qz9[Lay](l:List Iv)(t i:Int)(J:St->Prop)(K:D->Prop):qn (En Tryz.f133) (fi Tryz.f133 K) (qsn ) p8 200 [.code [1,1,0,1,0,0],stp [0,1,5] J,.blk 0,.code [1,1,1]] (SrI l t i)=
 (l.length<=q8->bif decide (i<(↑l.length:Int)) then(0<=i/\i<(↑l.length:Int))/\(decide ((l.getD i.toNat default).frm<=t)=true->0<=i/\i<(↑l.length:Int))/\bif bif decide ((l.getD i.toNat default).frm<=t) then decide (t<=(l.getD i.toNat default).to) else false then K (B true) else J {sl:=[(0,L l 2 Iv.d),(1,I t),(5,I (qg .i64 i 1))],h:=Heap.empty:St} else K (B false)):=by kernel_rfl
theorem qx1[Lay](l:List Iv)(t:Int):Pure PP 133 [L l 2 Iv.d,I t] (B (inI l t)):=by
 refine pu qz7 (by kernel_rfl) (of_eq (nrI l t _) (qa (fun h=> ?_) fun h=> ?_))
 ·have:inI l t=false:=by
   unfold inI
   by_cases h1:t<0
   ·rw[decide_eq_false (show ¬0<=t by omega)];rfl
   ·rw[decide_eq_false h1]at h
    have h:t > 1099511627776:=of_decide_eq_true h
    rw[decide_eq_false (show ¬t<=1099511627776 by omega)];simp
  rw[this];exact Wk.refl _
 have hr:0<=t/\t<=1099511627776:=by
  by_cases h1:t<0
  ·rw[decide_eq_true h1]at h;cases h
  ·rw[decide_eq_false h1]at h
   have h:¬t > 1099511627776:=of_decide_eq_false h
   omega
 have hi:inI l t=l.any (inP t):=by
  unfold inI
  rw[decide_eq_true hr.1,decide_eq_true hr.2];simp
 rw[hi]
 refine jc (st':=SrI l t (0:Nat)) ?_ (wm _ [0,1,5] _)
 refine lp (fn:=Tryz.f133) (fun i:Nat=>i<=l.length/\l.any (inP t)=(l.drop i).any (inP t)) (fun i=>SrI l t i) (fun i=>l.length-i) [0,1,5] (by kernel_rfl) (fun i hi=>of_eq (qz9 l t i _ _) fun hl=> ?_) 0 ⟨Nat.zero_le _,rfl⟩
 obtain⟨_,he⟩:=hi
 refine qa (fun hlt=> ?_) fun hge=> ?_
 ·have hlt:=ltI hlt
  rw[bi hlt hl,Int.toNat_natCast]
  rw[jb _ _ hlt,List.any_cons]at he
  have hin:(0:Int)<=(i:Int)/\(i:Int)<(l.length:Int):=⟨by omega,by omega⟩
  refine⟨hin,fun _=>hin,qa (fun h=> ?_) fun h=> ?_⟩
  ·have h:inP t (l.getD i default)=true:=h
   rw[he,h];exact Wk.refl _
  ·have h:inP t (l.getD i default)=false:=h
   rw[h,Bool.false_or]at he
   exact Nx.mk (i+1) ⟨hlt,he⟩ (by omega)
 ·rw[he,List.drop_of_length_le (geI hge)]
  exact Wk.refl _
theorem q0a:OkF 152 Tryz.f152:=⟨by kernel_rfl,by kernel_rfl,by kernel_rfl⟩
noncomputable def q0b:List Nat->Nat->Option Ans:=qf []
theorem nbd[Lay](x:Iv)(K:D->Prop):qn (En Tryz.f152) (fi Tryz.f152 K) (q0b ) p8 200 [.code []] ⟨qc 0 [x.d],.empty⟩ =
 (K (.tup [I (if 0 > x.frm then 0 else x.frm),I (if 1099511627776<x.to then 1099511627776 else x.to),B (decide ((if 0 > x.frm then 0 else x.frm)<=if 1099511627776<x.to then 1099511627776 else x.to))])):=by kernel_rfl
def bdL(x:Iv):Int:=if 0 > x.frm then 0 else x.frm
def bdR(x:Iv):Int:=if 1099511627776<x.to then 1099511627776 else x.to
theorem q0c[Lay](x:Iv):Pure PP 152 [x.d] (.tup [I (bdL x),I (bdR x),B (decide (bdL x<=bdR x))]) :=
 pu q0a (by kernel_rfl) (of_eq (nbd x _) (Wk.refl _))
def ga:List Int->Int->List Int
 | [],n=>[n]
 |x::r,n=>if x<n then x::ga r n else if x=n then x::r else n::x::r
theorem q0d:OkF 153 Tryz.f153:=⟨by kernel_rfl,by kernel_rfl,by kernel_rfl⟩
noncomputable def qso:List Nat->Nat->Option Ans:=qf []
theorem q0e[Lay](l:List Int)(n:Int)(K:D->Prop):qn (En Tryz.f153) (fi Tryz.f153 K) (qso ) p8 200 [.code []] ⟨qc 0 [L l 1 I',I n],.empty⟩ =
 (At (En Tryz.f153) (fi Tryz.f153 K) [It.code [1,1,0,0],It.blk 0,It.code [1,1,1]] {sl:=[(5,I 0),(4,.list 0 0 (fun _=>D.junk) .full),(0,L l 1 I'),(1,I n)],h:=Heap.empty:St}):=by kernel_rfl
def qsp(l:List Int)(n i:Int):St:=⟨[(0,L l 1 I'),(1,I n),(5,I i)],.empty⟩
noncomputable def qpb:List Nat->Nat->Option Ans:=qf []
theorem qsq[Lay](l:List Int)(n i:Int)(J:St->Prop)(K:D->Prop):qn (En Tryz.f153) (fi Tryz.f153 K) (qpb ) p8 200 [.code [1,1,0,0,0],stp [0,1,5] J,.blk 0,.code [1,1,1]] (qsp l n i)=
 (l.length<=q8->(decide (i<(↑l.length:Int))=true->0<=i/\i<(↑l.length:Int))/\bif bif decide (i<(↑l.length:Int)) then decide (l.getD i.toNat default<n) else false then J {sl:=[(0,L l 1 I'),(1,I n),(5,I (qg .i64 i 1))],h:=Heap.empty:St} else l.length<=q8->(decide (i<(↑l.length:Int))=true->0<=i/\i<(↑l.length:Int))/\bif bif decide (i<(↑l.length:Int)) then l.getD i.toNat default==n else false then K (L l 1 I') else(0<=i/\i<=(↑l.length:Int))/\(0+(l.length-i.toNat))*8<=q7/\((0:Int)<=0/\0<=i/\i<=(↑l.length:Int))/\(0+(i.toNat-0))*8<=q7/\(upd (upd (fun _=>none) 0 (some (0+(l.length-i.toNat)))) 1 (some (0+(i.toNat-0))) 1=some (0+(i.toNat-0))/\(0+(i.toNat-0)+1)*8<=q7)/\(upd (upd (upd (fun _=>none) 0 (some (0+(l.length-i.toNat)))) 1 (some (0+(i.toNat-0)))) 1 (some (0+(i.toNat-0)+1)) 1=some (0+(i.toNat-0)+1)/\(0+(i.toNat-0)+1+(0+(l.length-i.toNat)))*8<=q7)/\K (.list (0+(i.toNat-0)+1+(0+(l.length-i.toNat))) 1 (zo (0+(i.toNat-0)+1) (zo (0+(i.toNat-0)) (zo 0 (zf []) (jx (fun i=>I' (l.getD i default)) 0)) (zf [I n])) (zo 0 (zf []) (jx (fun i=>I' (l.getD i default)) i.toNat))) (.tok 1 1))):=by kernel_rfl
theorem qbo:∀(l:List Int) (n:Int) (i:Nat),i<=l.length->(∀k,k<i->l.getD k default<n)->(i<l.length->¬l.getD i default<n)->ga l n=if i<l.length/\l.getD i default=n then l else l.take i++[n]++l.drop i
 | [],n,i,hi,_,_=>by
  have:i=0:=by simpa using hi
  subst this
  rfl
 |x::r,n,0,_,_,h=>by
  have hx:¬x<n:=h (by simp)
  simp only[ga]
  rw[if_neg hx]
  have e:(x::r).getD 0 default=x:=rfl
  rw[e]
  by_cases hn:x=n
  ·rw[if_pos hn,if_pos ⟨by simp,hn⟩]
  ·rw[if_neg hn,if_neg (fun h=>hn h.2)];rfl
 |x::r,n,i+1,hi,hk,h=>by
  have hx:x<n:=hk 0 (by omega)
  simp only[ga]
  rw[if_pos hx]
  have e:∀k,(x::r).getD (k+1) default=r.getD k default:=fun k=>by simp[List.getD]
  have ih:=qbo r n i (by simpa using hi) (fun k hk'=>by have:=hk (k+1) (by omega);rw[e]at this;exact this) (fun hi'=>by have:=h (by simpa using hi');rw[e]at this;exact this)
  rw[ih,e]
  by_cases hc:i<r.length/\r.getD i default=n
  ·rw[if_pos hc,if_pos ⟨by simpa using hc.1,hc.2⟩]
  ·rw[if_neg hc,if_neg (fun h=>hc ⟨by simpa using h.1,h.2⟩)];simp
theorem qsr{l:List Int}{n:Int}{i t:Nat}(hi:i<=l.length):Wk (.list (0+(i-0)+1+(0+(l.length-i))) 1 (zo (0+(i-0)+1) (zo (0+(i-0)) (zo 0 (zf []) (jx (fun i=>I' (l.getD i default)) 0)) (zf [I n])) (zo 0 (zf []) (jx (fun i=>I' (l.getD i default)) i))) (.tok t 1)) (L (l.take i++[n]++l.drop i) 1 I'):=by
 have hz:(fun i=>D.int .i64 (l.getD i default))=fun i=>I' (l.getD i default):=rfl
 refine Wk.listW (by simp;omega) (.inl rfl) (fun k hk=> ?_) (.inl rfl)
 rw[qbg,od,od,Nat.sub_zero,Nat.zero_add]
 have hv:∀a b,a=b->Wk (I' a) (I' b)/\(ones (I' a)=true->ones (I' b)=true):=fun a b e=>by subst e;exact⟨Wk.refl _,fun h=>h⟩
 unfold zo
 have hm:min i l.length=i:=Nat.min_eq_left hi
 by_cases h1:k<i+1
 ·rw[up.2 h1]
  simp only[cond_true]
  by_cases h2:k<i
  ·rw[up.2 h2]
   refine hv _ _ ?_
   rw[List.getD_eq_getElem?_getD,List.getD_eq_getElem?_getD,List.append_assoc,List.getElem?_append_left (by rw[List.length_take,hm];exact h2),List.getElem?_take_of_lt h2]
  ·rw[tp.2 (by omega)]
   have:k=i:=by omega
   subst this
   rw[Nat.sub_self]
   refine hv n _ ?_
   rw[List.getD_eq_getElem?_getD,List.append_assoc,List.getElem?_append_right (by rw[List.length_take,hm];exact Nat.le_refl _),List.length_take,hm,Nat.sub_self]
   rfl
 ·rw[tp.2 (by omega)]
  simp only[cond_false,jx]
  refine hv _ _ ?_
  rw[List.getD_eq_getElem?_getD,List.getD_eq_getElem?_getD,List.getElem?_append_right (by rw[List.length_append,List.length_take,hm];simp;omega),List.getElem?_drop,List.length_append,List.length_take,hm]
  rfl
theorem qx2[Lay](l:List Int)(n:Int)(hb:l.length<=1000):Pure PP 153 [L l 1 I',I n] (L (ga l n) 1 I'):=by
 refine pu q0d (by kernel_rfl) (of_eq (q0e l n _) ?_)
 refine jc (st':=qsp l n (0:Nat)) ?_ (wm _ [0,1,5] _)
 refine lp (fn:=Tryz.f153) (fun i:Nat=>i<=l.length/\∀k,k<i->l.getD k default<n) (fun i=>qsp l n i) (fun i=>l.length-i) [0,1,5] (by kernel_rfl) (fun i hi=>of_eq (qsq l n i _ _) fun hl=> ?_) 0 ⟨Nat.zero_le _,fun k h=>absurd h (Nat.not_lt_zero k)⟩
 obtain⟨hi,hk⟩:=hi
 refine⟨fun h=>⟨by omega,by simpa using h⟩,?_⟩
 rw[Int.toNat_natCast]
 refine qa (fun h=> ?_) fun h=> ?_
 ·have hlt:i<l.length:=by
   cases hd:decide ((i:Int)<(l.length:Int)) with
   |true=>exact ltI hd
   |false=>rw[hd]at h;cases h
  rw[decide_eq_true (show(i:Int)<(l.length:Int) by omega)]at h
  have h:l.getD i default<n:=of_decide_eq_true h
  rw[bi hlt hl]
  refine Nx.mk (i+1) ⟨hlt,fun k hk'=> ?_⟩ (by omega)
  rcases Nat.lt_or_ge k i with h1|h1
  ·exact hk k h1
  ·rw[show k=i by omega];exact h
 ·have hnl:i<l.length->¬l.getD i default<n:=fun hlt=>by
   rw[decide_eq_true (show(i:Int)<(l.length:Int) by omega)]at h
   exact of_decide_eq_false h
  have hins:=qbo l n i hi hk hnl
  refine fun _=>⟨fun h=>⟨by omega,by simpa using h⟩,qa (fun h2=> ?_) fun h2=> ?_⟩
  ·have hlt:i<l.length:=by
    cases hd:decide ((i:Int)<(l.length:Int)) with
    |true=>exact ltI hd
    |false=>rw[hd]at h2;cases h2
   rw[decide_eq_true (show(i:Int)<(l.length:Int) by omega)]at h2
   have h2:l.getD i default=n:=by simpa using h2
   rw[hins,if_pos ⟨hlt,h2⟩];exact Wk.refl _
  ·have h2:¬(i<l.length/\l.getD i default=n):=fun hc=>by
    rw[decide_eq_true (show(i:Int)<(l.length:Int) by omega),hc.2]at h2
    simp at h2
   rw[hins,if_neg h2]
   refine⟨⟨by omega,by omega⟩,by unfold q7;omega,⟨by omega,by omega,by omega⟩,by unfold q7;omega,⟨qb _ _ _,by unfold q7;omega⟩,⟨qb _ _ _,by unfold q7;omega⟩,qsr hi⟩
def io(out:List Int)(x:Iv):List Int:=bif decide (bdL x<=bdR x) then ga (ga out (bdL x)) (qg .i64 (bdR x) 1) else out
def xu(a b:List Iv):List Int:=(a++b).foldl io [0,1099511627777]
theorem d7:∀(l:List Int) (n:Int),l.length<=(ga l n).length/\(ga l n).length<=l.length+1
 | [],_=>by simp[ga]
 |x::r,n=>by
  simp only[ga]
  split
  ·have:=d7 r n
   simp only[List.length_cons];omega
  ·split <;> simp
theorem q0f:OkF 132 Tryz.f132:=⟨by kernel_rfl,by kernel_rfl,by kernel_rfl⟩
def qpc:List (List Nat×List Nat):=[([1,1,1,0,1,0],[5,6,7])]
noncomputable def q0g:List Nat->Nat->Option Ans:=qf []
theorem ncu[Lay](a b:List Iv)(K:D->Prop):qn (En Tryz.f132) (fi Tryz.f132 K) (q0g ) qpc 200 [.code []] ⟨qc 0 [L a 2 Iv.d,L b 2 Iv.d],.empty⟩ =
 ((0+a.length)*16<=q7/\(upd (fun _=>none) 0 (some (0+a.length)) 0=some (0+a.length)/\(0+a.length+b.length)*16<=q7)/\At (En Tryz.f132) (fi Tryz.f132 K) [It.code [1,1,1,0,1,0],It.blk 0,It.code [1,1,1,1]] {sl:=[(5,.list 2 1 (zf [I 0,I 1099511627777]) .full),(6,.list (0+a.length+b.length) 2 (zo (0+a.length) (zo 0 (zf []) fun i=>(a.getD i default).d) fun i=>(b.getD i default).d) (.tok 0 2)),(7,I 0)],h:={box:=fun _=>none,nl:=0,hw:=upd (upd (fun _=>none) 0 (some (0+a.length))) 0 (some (0+a.length+b.length)),nt:=1,vw:=fun _=>none:Heap}:St}):=by kernel_rfl
def Scu(out:List Int)(l:List Iv)(i:Int):St:=⟨[(5,L out 1 I'),(6,L l 2 Iv.d),(7,I i)],hR⟩
noncomputable def qss(out:List Int)(l:List Iv)(i:Int):List Nat->Nat->Option Ans:=qf [([1,1,1,0,1,0,0,1,0,0,0],4,Ans.pure [(l.getD i.toNat default).d] (.tup [I (bdL (l.getD i.toNat default)),I (bdR (l.getD i.toNat default)),B (decide (bdL (l.getD i.toNat default)<=bdR (l.getD i.toNat default)))])),([1,1,1,0,1,0,0,1,0,0,1,1,0],2,Ans.pure [L out 1 I',I (bdL (l.getD i.toNat default))] (L (ga out (bdL (l.getD i.toNat default))) 1 I')),([1,1,1,0,1,0,0,1,0,0,1,1,0],5,Ans.pure [L (ga out (bdL (l.getD i.toNat default))) 1 I',I (qg .i64 (bdR (l.getD i.toNat default)) 1)] (L (ga (ga out (bdL (l.getD i.toNat default))) (qg .i64 (bdR (l.getD i.toNat default)) 1)) 1 I'))]
theorem q0h[Lay](out:List Int)(l:List Iv)(i:Int)(J:St->Prop)(K:D->Prop):qn (En Tryz.f132) (fi Tryz.f132 K) (qss out l i) qpc 200 [.code [1,1,1,0,1,0,0],stp [5,6,7] J,.blk 0,.code [1,1,1,1]] (Scu out l i)=
 (l.length<=q8->bif decide (i<(↑l.length:Int)) then(0<=i/\i<(↑l.length:Int))/\PureW PP 152 [(l.getD i.toNat default).d] [(l.getD i.toNat default).d] (.tup [I (bdL (l.getD i.toNat default)),I (bdR (l.getD i.toNat default)),B (decide (bdL (l.getD i.toNat default)<=bdR (l.getD i.toNat default)))])/\bif decide (bdL (l.getD i.toNat default)<=bdR (l.getD i.toNat default)) then PureW PP 153 [L out 1 I',I (bdL (l.getD i.toNat default))] [L out 1 I',I (bdL (l.getD i.toNat default))] (L (ga out (bdL (l.getD i.toNat default))) 1 I')/\PureW PP 153 [L (ga out (bdL (l.getD i.toNat default))) 1 I',I (qg .i64 (bdR (l.getD i.toNat default)) 1)] [L (ga out (bdL (l.getD i.toNat default))) 1 I',I (qg .i64 (bdR (l.getD i.toNat default)) 1)] (L (ga (ga out (bdL (l.getD i.toNat default))) (qg .i64 (bdR (l.getD i.toNat default)) 1)) 1 I')/\J {sl:=[(5,L (ga (ga out (bdL (l.getD i.toNat default))) (qg .i64 (bdR (l.getD i.toNat default)) 1)) 1 I'),(6,L l 2 Iv.d),(7,I (qg .i64 i 1))],h:={box:=fun _=>none,nl:=4,hw:=fun _=>none,nt:=1,vw:=fun _=>none:Heap}:St} else J {sl:=[(5,L out 1 I'),(6,L l 2 Iv.d),(7,I (qg .i64 i 1))],h:={box:=fun _=>none,nl:=4,hw:=fun _=>none,nt:=1,vw:=fun _=>none:Heap}:St} else K (L out 1 I')):=by kernel_rfl
theorem q0i[Lay](a b:List Iv)(hb:a.length+b.length<=100):Pure PP 132 [L a 2 Iv.d,L b 2 Iv.d] (L (xu a b) 1 I'):=by
 refine pu q0f (by kernel_rfl) (of_eq (ncu a b _) ⟨by unfold q7;omega,⟨qb _ _ _,by unfold q7;omega⟩,?_⟩)
 rw[od,Nat.zero_add]
 refine jc (st':=Scu [0,1099511627777] (a++b) (0:Nat)) ?_ (((StLe.set 5 (d':=L [0,1099511627777] 1 I') rfl (Wk.litL rfl rfl) rfl rfl).trans ((StLe.set 6 (d':=L (a++b) 2 Iv.d) rfl Wk.appsL rfl rfl).trans (StLe.heapLe (qm6 (Nat.zero_le _) (Nat.le_refl _))))).cast rfl)
 refine lp (fn:=Tryz.f132) (fun z:Nat×List Int=>z.1<=(a++b).length/\z.2.length<=2+2*z.1/\xu a b=((a++b).drop z.1).foldl io z.2) (fun z=>Scu z.2 (a++b) z.1) (fun z=>(a++b).length-z.1) [5,6,7] (by kernel_rfl) (fun z hz=>of_eq (q0h z.2 (a++b) z.1 _ _) fun hl=> ?_) (0,[0,1099511627777]) ⟨Nat.zero_le _,by decide,rfl⟩
 obtain⟨i,out⟩:=z
 obtain⟨_,hol,he⟩:=hz
 simp only at hol he⊢
 have hlen:(a++b).length<=100:=by rw[List.length_append];exact hb
 generalize a++b=q at hl hlen he⊢
 refine qa (fun hlt=> ?_) fun hge=> ?_
 ·have hlt:=ltI hlt
  rw[bi hlt hl,Int.toNat_natCast]
  rw[jb _ _ hlt,List.foldl_cons]at he
  generalize q.getD i default=x at he⊢
  have h1:=d7 out (bdL x)
  have h2:=d7 (ga out (bdL x)) (qg .i64 (bdR x) 1)
  refine⟨⟨by omega,by omega⟩,PureW.mk (q0c x),qa (fun h=>⟨PureW.mk (qx2 _ _ (by omega)),PureW.mk (qx2 _ _ (by omega)),Nx.mk (i+1,ga (ga out (bdL x)) (qg .i64 (bdR x) 1)) ⟨hlt,by simp only;omega,?_⟩ (by simp only;omega)⟩) fun h=>Nx.mk (i+1,out) ⟨hlt,by simp only;omega,?_⟩ (by simp only;omega)⟩
  ·rw[he];simp only[io,h,cond_true]
  ·rw[he];simp only[io,h,cond_false]
 ·rw[he,List.drop_of_length_le (geI hge)]
  exact Wk.refl _
theorem qbp(a b:List Iv):2<=(xu a b).length/\(xu a b).length<=2+2*(a++b).length:=by
 unfold xu
 suffices h:∀(l:List Iv) (out:List Int),out.length<=(l.foldl io out).length/\(l.foldl io out).length<=out.length+2*l.length from h (a++b) [0,1099511627777]
 intro l
 induction l with
 |nil=>intro out;simp
 |cons x r ih =>
  intro out
  rw[List.foldl_cons]
  have:=ih (io out x)
  have h3:out.length<=(io out x).length/\(io out x).length<=out.length+2:=by
   unfold io
   have h1:=d7 out (bdL x)
   have h2:=d7 (ga out (bdL x)) (qg .i64 (bdR x) 1)
   cases decide (bdL x<=bdR x) <;> simp only[cond_true,cond_false] <;> omega
  simp only[List.length_cons]
  omega
def okR(rule:Int)(x y:Bool):Bool:=bif rule==2 then(bif x then !y else false) else bif rule==1 then(bif x then y else false) else(bif x then true else y)
def l8(out:List Iv)(f t:Int):List Iv:=if out≠[]/\(out.getD (out.length-1) default).to=qj .i64 f 1 then out.set (out.length-1) ⟨(out.getD (out.length-1) default).frm,qj .i64 t 1⟩ else out++[⟨f,qj .i64 t 1⟩]
def ro(a b:List Iv)(rule:Int):List Int->List Iv->List Iv
 |f::t::r,out=>ro a b rule (t::r) (bif okR rule (inI a f) (inI b f) then l8 out f t else out)
 |_,out=>out
theorem F96:OkF 96 Tryz.f96:=⟨by kernel_rfl,by kernel_rfl,by kernel_rfl⟩
def q0j:List (List Nat×List Nat):=[([1,1,1,0,1,0],[0,1,2,7,8,9])]
noncomputable def q0k(a:List Iv)(b:List Iv):List Nat->Nat->Option Ans:=qf [([1,0],2,Ans.pure [L a 2 Iv.d,L b 2 Iv.d] (L (xu a b) 1 I'))]
theorem ncm[Lay](a b:List Iv)(rule:Int)(K:D->Heap->Prop):qn (EnV [] [97] Tryz.f96) (fh Tryz.f96 K) (q0k a b) q0j 200 [.code []] ⟨qc 0 [L a 2 Iv.d,L b 2 Iv.d,I rule],.empty⟩ =
 (PureW PP 132 [L a 2 Iv.d,L b 2 Iv.d] [L a 2 Iv.d,L b 2 Iv.d] (L (xu a b) 1 I')/\At (EnV [] [97] Tryz.f96) (fh Tryz.f96 K) [It.code [1,1,1,0,1,0],It.blk 0,It.code [1,1,1,1]] {sl:=[(0,L a 2 Iv.d),(1,L b 2 Iv.d),(2,I rule),(7,L (xu a b) 1 I'),(8,.list 0 0 (fun _=>D.junk) .full),(9,I 0)],h:=Heap.empty:St}):=by kernel_rfl
def Scm(a b:List Iv)(rule:Int)(c:List Int)(out:List Iv)(i:Int):St:=⟨[(0,L a 2 Iv.d),(1,L b 2 Iv.d),(2,I rule),(7,L c 1 I'),(8,.vec 0 out.length 2),(9,I i)],zn out Iv.d⟩
def q0l:List (List Nat×List Nat):=[([1,1,1,0,1,0,0,1,0,0,1,1,1,1],[0,1,2,7,8,9,12])]
noncomputable def qst(a:List Iv)(b:List Iv)(c:List Int)(i:Int):List Nat->Nat->Option Ans:=qf [([1,1,1,0,1,0,0,1,0,0,0],5,Ans.pure [L a 2 Iv.d,I (c.getD i.toNat default)] (B (inI a (c.getD i.toNat default)))),([1,1,1,0,1,0,0,1,0,0,0],11,Ans.pure [L b 2 Iv.d,I (c.getD i.toNat default)] (B (inI b (c.getD i.toNat default))))]
theorem q0m[Lay](a b:List Iv)(rule:Int)(c:List Int)(out:List Iv)(i:Int)(J:St->Prop)(K:D->Heap->Prop):qn (EnV [] [97] Tryz.f96) (fh Tryz.f96 K) (qst a b c i) q0l 200 [.code [1,1,1,0,1,0,0],stp [0,1,2,7,8,9] J,.blk 0,.code [1,1,1,1]] (Scm a b rule c out i)=
 (c.length<=q8 ->
 bif decide (qg .i64 i 1<(↑c.length:Int)) then
  (0<=i/\i<(↑c.length:Int))/\
   PureW PP 133 [L a 2 Iv.d,I (c.getD i.toNat default)] [L a 2 Iv.d,I (c.getD i.toNat default)] (B (inI a (c.getD i.toNat default)))/\
    (0<=i/\i<(↑c.length:Int))/\
     PureW PP 133 [L b 2 Iv.d,I (c.getD i.toNat default)] [L b 2 Iv.d,I (c.getD i.toNat default)] (B (inI b (c.getD i.toNat default)))/\
      bif rule==1 then bif rule==2 then At (EnV [] [97] Tryz.f96) (fh Tryz.f96 K) [It.code [1,1,1,0,1,0,0,1,0,0,1,1,1,1],It.blk 1,It.code [1,1,1,0,1,0,0,1,1],stp [0,1,2,7,8,9] J,It.blk 0,It.code [1,1,1,1]] {sl:=[(0,L a 2 Iv.d),(1,L b 2 Iv.d),(2,I rule),(7,L c 1 I'),(8,D.vec 0 out.length 2),(9,I i),(12,B (bif inI a (c.getD i.toNat default) then !inI b (c.getD i.toNat default) else false))],h:={box:=fun _=>none,nl:=0,hw:=upd (fun _=>none) 0 (some out.length),nt:=1,vw:=upd (fun _=>none) 0 (some (cv out Iv.d)):Heap}:St} else At (EnV [] [97] Tryz.f96) (fh Tryz.f96 K) [It.code [1,1,1,0,1,0,0,1,0,0,1,1,1,1],It.blk 1,It.code [1,1,1,0,1,0,0,1,1],stp [0,1,2,7,8,9] J,It.blk 0,It.code [1,1,1,1]] {sl:=[(0,L a 2 Iv.d),(1,L b 2 Iv.d),(2,I rule),(7,L c 1 I'),(8,D.vec 0 out.length 2),(9,I i),(12,B (bif inI a (c.getD i.toNat default) then inI b (c.getD i.toNat default) else false))],h:={box:=fun _=>none,nl:=0,hw:=upd (fun _=>none) 0 (some out.length),nt:=1,vw:=upd (fun _=>none) 0 (some (cv out Iv.d)):Heap}:St}
      else bif rule==2 then At (EnV [] [97] Tryz.f96) (fh Tryz.f96 K) [It.code [1,1,1,0,1,0,0,1,0,0,1,1,1,1],It.blk 1,It.code [1,1,1,0,1,0,0,1,1],stp [0,1,2,7,8,9] J,It.blk 0,It.code [1,1,1,1]] {sl:=[(0,L a 2 Iv.d),(1,L b 2 Iv.d),(2,I rule),(7,L c 1 I'),(8,D.vec 0 out.length 2),(9,I i),(12,B (bif inI a (c.getD i.toNat default) then !inI b (c.getD i.toNat default) else false))],h:={box:=fun _=>none,nl:=0,hw:=upd (fun _=>none) 0 (some out.length),nt:=1,vw:=upd (fun _=>none) 0 (some (cv out Iv.d)):Heap}:St} else At (EnV [] [97] Tryz.f96) (fh Tryz.f96 K) [It.code [1,1,1,0,1,0,0,1,0,0,1,1,1,1],It.blk 1,It.code [1,1,1,0,1,0,0,1,1],stp [0,1,2,7,8,9] J,It.blk 0,It.code [1,1,1,1]] {sl:=[(0,L a 2 Iv.d),(1,L b 2 Iv.d),(2,I rule),(7,L c 1 I'),(8,D.vec 0 out.length 2),(9,I i),(12,B (bif inI a (c.getD i.toNat default) then true else inI b (c.getD i.toNat default)))],h:={box:=fun _=>none,nl:=0,hw:=upd (fun _=>none) 0 (some out.length),nt:=1,vw:=upd (fun _=>none) 0 (some (cv out Iv.d)):Heap}:St}
 else K (D.vec 0 out.length 2) {box:=fun _=>none,nl:=0,hw:=upd (fun _=>none) 0 (some out.length),nt:=1,vw:=upd (fun _=>none) 0 (some (cv out Iv.d)):Heap}):=by kernel_rfl
noncomputable def qsu:List Nat->Nat->Option Ans:=qf []
theorem q0n[Lay](a b:List Iv)(rule:Int)(c:List Int)(out:List Iv)(i:Int)(ok:Bool)(J:St->Prop)(K:D->Heap->Prop):qn (EnV [] [97] Tryz.f96) (fh Tryz.f96 K) (qsu ) p8 200 [.code [1,1,1,0,1,0,0,1,0,0,1,1,1,1],.blk 1,.code [1,1,1,0,1,0,0,1,1],stp [0,1,2,7,8,9] J,.blk 0,.code [1,1,1,1]] ⟨[(0,L a 2 Iv.d),(1,L b 2 Iv.d),(2,I rule),(7,L c 1 I'),(8,.vec 0 out.length 2),(9,I i),(12,B ok)],zn out Iv.d⟩ =
 (bif !ok then J {sl:=[(0,L a 2 Iv.d),(1,L b 2 Iv.d),(2,I rule),(7,L c 1 I'),(8,D.vec 0 out.length 2),(9,I (qg .i64 i 1))],h:={box:=fun _=>none,nl:=0,hw:=upd (fun _=>none) 0 (some out.length),nt:=1,vw:=upd (fun _=>none) 0 (some (cv out Iv.d)):Heap}:St}
 else
 out.length<=q8 ->
  (decide ((↑out.length:Int) > 0)=true->upd (fun _=>none) 0 (some out.length) 0=some out.length/\0<=qj .i64 (↑out.length:Int) 1/\qj .i64 (↑out.length:Int) 1<(↑out.length:Int))/\
   (decide ((↑out.length:Int) > 0)=true->upd (fun _=>none) 0 (some out.length) 0=some out.length)/\
    (decide ((↑out.length:Int) > 0)=true->0<=i/\i<(↑c.length:Int))/\bif bif decide ((↑out.length:Int) > 0) then(out.getD (qj .i64 (↑out.length:Int) 1).toNat default).to==qj .i64 (c.getD i.toNat default) 1 else false then(0<=qg .i64 i 1/\qg .i64 i 1<(↑c.length:Int))/\(upd (fun _=>none) 0 (some out.length) 0=some out.length/\0<=qj .i64 (↑out.length:Int) 1/\qj .i64 (↑out.length:Int) 1<(↑out.length:Int))/\upd (fun _=>none) 0 (some out.length) 0=some out.length/\J {sl:=[(0,L a 2 Iv.d),(1,L b 2 Iv.d),(2,I rule),(7,L c 1 I'),(8,D.vec 0 out.length 2),(9,I (qg .i64 i 1))],h:={box:=fun _=>none,nl:=0,hw:=upd (fun _=>none) 0 (some out.length),nt:=1,vw:=upd (upd (fun _=>none) 0 (some (cv out Iv.d))) 0 (some (ny (cv out Iv.d) (qj .i64 (↑out.length:Int) 1).toNat (.agg [I (out.getD (qj .i64 (↑out.length:Int) 1).toNat default).frm,I (qj .i64 (c.getD (qg .i64 i 1).toNat default) 1)]))):Heap}:St} else(0<=i/\i<(↑c.length:Int))/\(0<=qg .i64 i 1/\qg .i64 i 1<(↑c.length:Int))/\(upd (fun _=>none) 0 (some out.length) 0=some out.length/\(out.length+1)*16<=q7)/\J {sl:=[(0,L a 2 Iv.d),(1,L b 2 Iv.d),(2,I rule),(7,L c 1 I'),(8,D.vec 0 (out.length+1) 2),(9,I (qg .i64 i 1))],h:={box:=fun _=>none,nl:=0,hw:=upd (upd (fun _=>none) 0 (some out.length)) 0 (some (out.length+1)),nt:=1,vw:=upd (upd (fun _=>none) 0 (some (cv out Iv.d))) 0 (some (zo out.length (cv out Iv.d) (zf [.agg [I (c.getD i.toNat default),I (qj .i64 (c.getD (qg .i64 i 1).toNat default) 1)]]))):Heap}:St}):=by kernel_rfl
theorem c96[Lay](a b:List Iv)(rule:Int)(hb:a.length+b.length<=100):Pure PP 96 [L a 2 Iv.d,L b 2 Iv.d,I rule] (L (ro a b rule (xu a b) []) 2 Iv.d):=by
 refine pr F96 (by kernel_rfl) (of_eq (ncm a b rule _) ⟨PureW.mk (q0i a b hb),?_⟩)
 obtain⟨c2,cl⟩:=qbp a b
 have hlen:(a++b).length<=100:=by rw[List.length_append];exact hb
 generalize xu a b=c at c2 cl⊢
 refine jc (st':=Scm a b rule c [] (0:Nat)) ?_ ((StLe.idle _ (some (cv ([]:List Iv) Iv.d)) 8 2 (cv ([]:List Iv) Iv.d) rfl).cast (by kernel_rfl))
 refine lp (fn:=Tryz.f96) (fun z:Nat×List Iv=>z.1<c.length/\z.2.length<=z.1/\ro a b rule c []=ro a b rule (c.drop z.1) z.2) (fun z=>Scm a b rule c z.2 z.1) (fun z=>c.length-z.1) [0,1,2,7,8,9] (by kernel_rfl) (fun z hz=>of_eq (q0m a b rule c z.2 z.1 _ _) fun hl=> ?_) (0,[]) ⟨by omega,Nat.le_refl _,rfl⟩
 obtain⟨i,out⟩:=z
 obtain⟨hi,hol,he⟩:=hz
 simp only at hi hol he⊢
 rw[bi hi hl,Int.toNat_natCast]
 refine qa (fun hlt=> ?_) fun hge=> ?_
 ·have hlt:=ltI hlt
  rw[jb _ _ hi,jb _ _ hlt]at he
  simp only[ro]at he
  rw[<-jb _ _ hlt]at he
  refine⟨⟨by omega,by omega⟩,PureW.mk (qx1 _ _),⟨by omega,by omega⟩,PureW.mk (qx1 _ _),?_⟩
  generalize hf:c.getD i default=f at he⊢
  generalize hok:okR rule (inI a f) (inI b f)=ok at he
  have hB:∀ok',ok'=ok->At (EnV [] [97] Tryz.f96) (fh Tryz.f96 fun d h=>∃h',RetLe d h (L (ro a b rule c []) 2 Iv.d) h') [.code [1,1,1,0,1,0,0,1,0,0,1,1,1,1],.blk 1,.code [1,1,1,0,1,0,0,1,1],stp [0,1,2,7,8,9] (Nx Tryz.f96.ntmps (fun z:Nat×List Iv=>z.1<c.length/\z.2.length<=z.1/\ro a b rule c []=ro a b rule (c.drop z.1) z.2) (fun z=>Scm a b rule c z.2 z.1) (fun z=>c.length-z.1) (c.length-i)),.blk 0,.code [1,1,1,1]]
    ⟨[(0,L a 2 Iv.d),(1,L b 2 Iv.d),(2,I rule),(7,L c 1 I'),(8,.vec 0 out.length 2),(9,I i),(12,B ok')],zn out Iv.d⟩:=fun ok' e=>by
   subst e
   refine qe jv _ _ _ (of_eq (q0n a b rule c out i ok' _ _) ?_)
   rw[bi hi hl,Int.toNat_natCast,Int.toNat_natCast,hf]
   refine qa (fun h=> ?_) fun h=>fun hlo=> ?_
   ·have h:ok'=false:=by simpa using h
    rw[h,cond_false]at he
    exact Nx.mk (i+1,out) ⟨hlt,by simp only;omega,he⟩ (by simp only;omega)
   ·have h:ok'=true:=by simpa using h
    rw[h,cond_true]at he
    generalize c.getD (i+1) default=t at he⊢
    have hin:(0:Int)<=(i:Int)/\(i:Int)<(c.length:Int):=⟨by omega,by omega⟩
    have hin1:(0:Int)<=((i+1:Nat):Int)/\((i+1:Nat):Int)<(c.length:Int):=⟨by omega,by omega⟩
    have hpos:decide ((out.length:Int) > 0)=true->0<out.length:=fun h=>by simpa using h
    refine⟨fun h=>⟨qb _ _ _,by rw[pi (hpos h) hlo];have:=hpos h;omega⟩,fun _=>qb _ _ _,fun _=>hin,?_⟩
    have hc:(bif decide ((out.length:Int) > 0) then(out.getD (qj .i64 (out.length:Int) 1).toNat default).to==qj .i64 f 1 else false)=decide (out≠[]/\(out.getD (out.length-1) default).to=qj .i64 f 1):=by
     cases hd:decide ((out.length:Int) > 0) with
     |false =>
      have:¬(out.length:Int) > 0:=of_decide_eq_false hd
      have:out=[]:=List.length_eq_zero_iff.1 (by omega)
      subst this;rfl
     |true =>
      have h0:=hpos hd
      rw[pi h0 hlo,Int.toNat_natCast]
      have:out≠[]:=List.length_pos_iff.1 h0
      rw[Bool.eq_iff_iff];simp[this]
    rw[hc]
    refine qa (fun h2=> ?_) fun h2=> ?_
    ·have h2:=of_decide_eq_true h2
     have h0:0<out.length:=List.length_pos_iff.2 h2.1
     rw[pi h0 hlo,Int.toNat_natCast]
     rw[l8,if_pos h2]at he
     refine⟨hin1,⟨qb _ _ _,by omega,by omega⟩,qb _ _ _,Nx.of (i+1,out.set (out.length-1) ⟨(out.getD (out.length-1) default).frm,qj .i64 t 1⟩) ⟨hlt,by simp only[List.length_set];omega,he⟩ (by simp only;omega) ?_⟩
     simp only[Scm,zn,List.length_set]
     rw[q6]
     exact StLe.vec (t:=0) (n:=out.length) (qb _ _ _) fun j _=>dw (enc:=Iv.d) (x:=(⟨(out.getD (out.length-1) default).frm,qj .i64 t 1⟩:Iv)) (by omega) j
    ·have h2:=of_decide_eq_false h2
     rw[l8,if_neg h2]at he
     refine⟨hin,hin1,⟨qb _ _ _,by unfold q7;omega⟩,Nx.of (i+1,out++[⟨f,qj .i64 t 1⟩]) ⟨hlt,by simp only[List.length_append,List.length_singleton];omega,he⟩ (by simp only;omega) ?_⟩
     simp only[Scm,zn,List.length_append,List.length_singleton]
     rw[q6,q6]
     exact StLe.vec (t:=0) (n:=out.length+1) (qb _ _ _) fun j hj=>il (enc:=Iv.d) (x:=(⟨f,qj .i64 t 1⟩:Iv)) rfl hj
  unfold okR at hok
  refine qa (fun h1=>qa (fun h2=>hB _ ?_) fun h2=>hB _ ?_) fun h1=>qa (fun h2=>hB _ ?_) fun h2=>hB _ ?_
  ·rw[h2]at hok;exact hok
  ·rw[h2,h1]at hok;exact hok
  ·rw[h2]at hok;exact hok
  ·rw[h2,h1]at hok;exact hok
 ·have:c.length<=i+1:=geI hge
  rw[jb _ _ hi,List.drop_of_length_le this]at he
  rw[he]
  exact⟨_,qly rfl⟩
theorem F57:OkF 57 Tryz.f57:=⟨by kernel_rfl,by kernel_rfl,by kernel_rfl⟩
def q0o:List (List Nat×List Nat):=[]
noncomputable def q0p(a:List Iv):List Nat->Nat->Option Ans:=qf [([1,0],1,Ans.pure [L a 2 Iv.d,L [] 2 Iv.d,I 0] (L (ro a [] 0 (xu a []) []) 2 Iv.d))]
theorem nnm[Lay](a:List Iv)(K:D->Prop):qn (En Tryz.f57) (fi Tryz.f57 K) (q0p a) q0o 200 [.code []] ⟨qc 0 [L a 2 Iv.d],.empty⟩ =
 (PureW PP 96 [L a 2 Iv.d,.list 0 0 (fun _=>D.junk) .full,I 0] [L a 2 Iv.d,L [] 2 Iv.d,I 0] (L (ro a [] 0 (xu a []) []) 2 Iv.d)/\K (L (ro a [] 0 (xu a []) []) 2 Iv.d)):=by kernel_rfl
def qkm(a:List Iv):List Iv:=ro a [] 0 (xu a []) []
theorem c57[Lay](a:List Iv)(hb:a.length<=100):Pure PP 57 [L a 2 Iv.d] (L (qkm a) 2 Iv.d) :=
 pu F57 (by kernel_rfl) (of_eq (nnm a _) ⟨⟨Wks.cons (Wk.refl _) (Wks.cons Wk.nilL (Wks.refl _)),c96 a [] 0 (by simpa using hb)⟩,Wk.refl _⟩)
theorem qht(out:List Iv)(f t:Int):(l8 out f t).length<=out.length+1:=by
 unfold l8
 split <;> simp
theorem qeg(a b:List Iv)(rule:Int):∀(c:List Int) (out:List Iv),(ro a b rule c out).length<=out.length+c.length
 | [],_=>by simp[ro]
 | [_],_=>by simp[ro]
 |f::t::r,out=>by
  simp only[ro]
  have h1:=qeg a b rule (t::r) (bif okR rule (inI a f) (inI b f) then l8 out f t else out)
  have h2:(bif okR rule (inI a f) (inI b f) then l8 out f t else out).length<=out.length+1:=by
   cases okR rule (inI a f) (inI b f)
   ·simp
   ·exact qht out f t
  simp only[List.length_cons]at h1⊢
  omega
def Vl:Int->Option Str->List Sp->Prop
 |_,_,[]=>True
 |f,p,x::r=>x.frm=f/\0<=f/\f<=x.to/\x.to<=1099511627776/\p≠some x.val/\Vl (x.to+1) (some x.val) r
def atL:List Sp->Int->Str
 | [],_=>[]
 |x::r,t=>if t<=x.to then x.val else atL r t
theorem Vl.chk:∀{l:List Sp} {p:Option Sp} {f:Int},(match p with|none=>True|some y=>f=y.to+1)->Vl f (p.map Sp.val) l->S1.chk p l=true
 | [],_,_,_,_=>rfl
 |x::r,p,f,hp,⟨h1,h2,h3,h4,h5,h6⟩=>by
  simp only[S1.chk,Bool.and_eq_true]
  refine⟨?_,Vl.chk (p:=some x) rfl h6⟩
  unfold okN
  cases p with
  |none=>rw[decide_eq_false (by omega)];rfl
  |some y =>
   simp only at hp
   rw[decide_eq_false (by omega)]
   simp only
   rw[jk (a:=y.to) (b:=1) (by omega) (by omega)]
   have:(x.val==y.val)=false:=by
    rw[beq_eq_false_iff_ne]
    intro e2
    exact h5 (by rw[e2];rfl)
   rw[this,show(x.frm !=y.to+1)=false by rw[h1,hp];simp]
   rfl
theorem fx(x y:Sp)(r:List Sp):jl (x::y::r)=jl (y::r):=by
 unfold jl
 simp[List.getD]
theorem Vl.last:∀{l:List Sp} {f:Int} {p:Option Str},Vl f p l->l≠[]->f<=(jl l).to/\(jl l).to<=1099511627776
 | [x],_,_,⟨_,_,h3,h4,_⟩,_=>⟨h3,h4⟩
 |x::y::r,f,_,⟨_,_,h3,_,_,h6⟩,_=>by
  have:=Vl.last h6 (by simp)
  rw[fx];omega
theorem Vl.valid{l:List Sp}{f:Int}(h:Vl f none l)(hne:l≠[]):zw l=true:=by
 have hl:=h.last hne
 have hc:S1.chk none l=true:=Vl.chk (p:=none) trivial h
 cases l with
 |nil=>exact absurd rfl hne
 |cons x r =>
  obtain⟨h1,h2,_⟩:=h
  unfold zw
  rw[hc,show(((x::r).length:Int)==0)=false by simp;omega,decide_eq_false (show ¬((x::r).getD 0 default).frm<0 by simp;omega),decide_eq_false (show ¬(jl (x::r)).to > 1099511627776 by omega)]
  rfl
def seg(to:Int):Int->Str->List Chg->List Sp
 |f,v,[]=>[⟨f,to,v⟩]
 |f,v,x::r=>if v=x.val then seg to f v r else⟨f,x.time-1,v⟩::seg to x.time x.val r
theorem oj(to:Int):∀(l:List Chg) (a:List Sp) (f e:Int) (v:Str),0<=f->Inc f l->(∀x∈l,x.time<=1099511627776)->zk (l.foldl (fun o x=>ph o x.time x.val) (a++[⟨f,e,v⟩])) to=a++seg to f v l
 | [],a,f,e,v,_,_,_=>by
  simp only[List.foldl_nil,seg]
  rw[l4]
 |x::r,a,f,e,v,h0,⟨h1,h2⟩,hb=>by
  have hb':∀y∈r,y.time<=1099511627776:=fun y hy=>hb y (List.mem_cons_of_mem _ hy)
  have hx:=hb x (List.mem_cons_self ..)
  rw[List.foldl_cons,qhj]
  simp only[seg]
  by_cases hv:v=x.val
  ·rw[if_pos hv,if_pos hv]
   exact oj to r a f e v h0 (h2.mono (by omega)) hb'
  ·rw[if_neg hv,if_neg hv,jy (by omega) (by omega)]
   have:=oj to r (a++[⟨f,x.time-1,v⟩]) x.time 0 x.val (by omega) h2 hb'
   rw[this]
   simp only[List.append_assoc,List.singleton_append]
theorem qhu{v:Str}{l:List Chg}{f to:Int}(h0:0<=f)(hi:Inc f l)(hb:∀x∈l,x.time<=1099511627776):qhk v l f to=seg to f v l:=by
 unfold qhk
 exact oj to l [] f 0 v h0 hi hb
theorem qhv(to:Int):∀(l:List Chg) (f:Int) (v:Str),seg to f v l≠[]
 | [],_,_=>by simp[seg]
 |x::r,f,v=>by
  simp only[seg]
  split
  ·exact qhv to r f v
  ·simp
theorem qhw{to:Int}(ht:to<=1099511627776):∀{l:List Chg} {f:Int} {v:Str} {p:Option Str},0<=f->f<=to->Inc f l->(∀x∈l,x.time<=to)->p≠some v->Vl f p (seg to f v l)
 | [],f,v,p,h0,hf,_,_,hp=>⟨rfl,h0,hf,ht,hp,trivial⟩
 |x::r,f,v,p,h0,hf,⟨h1,h2⟩,hb,hp=>by
  have hb':∀y∈r,y.time<=to:=fun y hy=>hb y (List.mem_cons_of_mem _ hy)
  have hx:=hb x (List.mem_cons_self ..)
  simp only[seg]
  split
  ·exact qhw ht h0 hf (h2.mono (by omega)) hb' hp
  ·rename_i hv
   refine⟨rfl,h0,?_,?_,hp,?_⟩
   ·show f<=x.time-1
    omega
   ·show x.time-1<=_
    omega
   ·show Vl (x.time-1+1) (some v) _
    rw[show x.time-1+1=x.time by omega]
    exact qhw ht (by omega) hx h2 hb' (fun e=>hv (Option.some.inj e))
theorem pl(x:Sp){l:List Sp}(h:l≠[]):jl (x::l)=jl l:=by
 cases l with
 |nil=>exact absurd rfl h
 |cons y r=>exact fx x y r
theorem ol(to:Int):∀(l:List Chg) (f:Int) (v:Str),(jl (seg to f v l)).to=to
 | [],_,_=>rfl
 |x::r,f,v=>by
  simp only[seg]
  split
  ·exact ol to r f v
  ·rw[pl _ (qhv to r _ _)]
   exact ol to r _ _
theorem Vl.head{l:List Sp}{f:Int}{p:Option Str}(h:Vl f p l)(hne:l≠[]):(l.getD 0 default).frm=f:=by
 cases l with
 |nil=>exact absurd rfl hne
 |cons x r=>exact h.1
theorem qhx(to:Int):∀(l:List Chg) (f:Int) (v:Str) (t:Int),f<=t->t<=to->Inc f l->(∀x∈l,x.time<=to)->atL (seg to f v l) t=xt v l t
 | [],f,v,t,h0,h1,_,_=>by
  simp only[seg,atL,xt,List.foldl_nil]
  rw[if_pos h1]
 |x::r,f,v,t,h0,h1,⟨g1,g2⟩,hb=>by
  have hb':∀y∈r,y.time<=to:=fun y hy=>hb y (List.mem_cons_of_mem _ hy)
  rw[vi]
  simp only[seg]
  split
  ·rename_i hv
   rw[qhx to r f v t h0 h1 (g2.mono (by omega)) hb',<-hv]
   cases decide (x.time<=t) <;> rfl
  ·simp only[atL]
   by_cases ht:x.time<=t
   ·rw[if_neg (by omega),decide_eq_true ht]
    exact qhx to r x.time x.val t ht h1 g2 hb'
   ·rw[if_pos (by omega),decide_eq_false ht]
    exact(oh r v t fun y hy=>by have:=g2.gt y hy;omega).symm
theorem l9(to:Int):∀{l:List Chg} {s f:Int},Inc s l->Inc f (cut l f to)
 | [],_,_,_=>trivial
 |x::r,s,f,⟨h1,h2⟩=>by
  unfold cut
  rw[List.filter_cons]
  split
  ·rename_i h
   simp only[Bool.and_eq_true,decide_eq_true_eq]at h
   refine⟨h.1,?_⟩
   have:(r.filter fun y=>decide (y.time > f)&&decide (y.time<=to))=cut r x.time to:=by
    unfold cut
    refine List.filter_congr fun y hy=> ?_
    have:=h2.gt y hy
    rw[decide_eq_true (show y.time > f by omega),decide_eq_true (show y.time > x.time by omega)]
   rw[this]
   exact l9 to h2
  ·exact l9 to h2
theorem qhy{l:List Chg}{f to:Int}:∀x∈cut l f to,x.time<=to:=fun x hx=>by
 unfold cut at hx
 have:=(List.mem_filter.1 hx).2
 simp only[Bool.and_eq_true,decide_eq_true_eq]at this
 exact this.2
theorem qhz{s f t to:Int}(ht:f<=t)(hto:t<=to):∀{l:List Chg} (v:Str),Inc s l->xt (xt v l f) (cut l f to) t=xt v l t
 |l,v,hi=>by
  obtain⟨a,b,rfl,ha,hb⟩:=hi.split f
  have hv:xt v (a++b) f=xt v a f:=by rw[qbk];exact oh b _ _ hb.gt
  have hc:cut (a++b) f to=cut b f to:=by
   have:cut a f to=[]:=by
    unfold cut
    rw[List.filter_eq_nil_iff]
    intro x hx
    have:=ha x hx
    simp;omega
   rw[cut,List.filter_append]
   show cut a f to++cut b f to=_
   rw[this];rfl
  have hva:∀(a:List Chg) (v:Str),(∀x∈a,x.time<=f)->xt v a f=xt v a t:=fun a=>by
   induction a with
   |nil=>intro v _;rfl
   |cons y r ih =>
    intro v h
    have:=h y (List.mem_cons_self ..)
    rw[vi,vi,decide_eq_true this,decide_eq_true (show y.time<=t by omega)]
    exact ih _ fun z hz=>h z (List.mem_cons_of_mem _ hz)
  rw[hv,hc,qbk,<-hva a v ha]
  generalize xt v a f=u
  clear hv hc ha hi hva
  have hin:=hb
  revert hb
  suffices h:∀(b:List Chg) (s:Int) (u:Str),Inc s b->xt u (b.filter fun x=>decide (x.time > f)&&decide (x.time<=to)) t=xt u (b.filter fun x=>decide (x.time > f)) t by
   intro hb
   have e:(b.filter fun x=>decide (x.time > f))=b:=List.filter_eq_self.2 fun x hx=>by have:=hb.gt x hx;simp;omega
   have:=h b f u hb
   rw[e]at this
   exact this
  intro b
  induction b with
  |nil=>intros;rfl
  |cons y r ih =>
   intro s u hi
   obtain⟨g1,g2⟩:=hi
   rw[List.filter_cons,List.filter_cons]
   by_cases h1:y.time > f
   ·rw[decide_eq_true h1]
    by_cases h2:y.time<=to
    ·rw[decide_eq_true h2]
     simp only[Bool.and_self,if_true]
     rw[vi,vi]
     exact ih _ _ g2
    ·rw[decide_eq_false h2]
     simp only[Bool.and_false,if_true]
     rw[vi,decide_eq_false (by omega)]
     exact ih _ _ g2
   ·rw[decide_eq_false h1]
    simp only[Bool.false_and]
    exact ih _ _ g2
structure q0q(w:Wv)(sig frm to:Int)(l:List Sp):Prop where
 vl:Vl frm none l
 ne:l≠[]
 last:(jl l).to=to
 len:l.length<=100
 at_:∀t,frm<=t->t<=to->atL l t=jd (qm w sig) t
theorem qc4(to:Int):∀(l:List Chg) (f:Int) (v:Str),(seg to f v l).length<=l.length+1
 | [],_,_=>Nat.le_refl _
 |x::r,f,v=>by
  simp only[seg]
  split
  ·have:=qc4 to r f v
   simp only[List.length_cons];omega
  ·have:=qc4 to r x.time x.val
   simp only[List.length_cons];omega
theorem qq2{w:Wv}(hw:SmOk w){sig frm to:Int}(a:Ask w sig frm to):q0q w sig frm to (qhk (jd (qm w sig) frm) (cut (qm w sig).chg frm to) frm to):=by
 obtain⟨hs,hk,h0,h1,h2⟩:=a
 obtain⟨q1,_,q3⟩:=hw.at hs
 have hf:=hw.fin.2
 rw[qhu h0 (l9 to q3) (fun x hx=>by have:=qhy x hx;omega)]
 refine⟨qhw (by omega) h0 h1 (l9 to q3) qhy (by simp),qhv _ _ _ _,ol _ _ _ _,?_,fun t ht1 ht2=> ?_⟩
 ·have:=qc4 to (cut (qm w sig).chg frm to) frm (jd (qm w sig) frm)
  have:(cut (qm w sig).chg frm to).length<=(qm w sig).chg.length:=List.length_filter_le _ _
  omega
 ·rw[qhx to _ frm _ t ht1 ht2 (l9 to q3) qhy]
  unfold jd
  rw[if_neg hk,if_neg hk]
  exact qhz ht1 ht2 _ q3
end Go.Proofs.YtiekphbkomddfaaGreatDoor.S1
