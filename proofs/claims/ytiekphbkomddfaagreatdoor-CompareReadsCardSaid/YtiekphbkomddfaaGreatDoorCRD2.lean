/- Seat 2: rows. -/
import Derived.Test.YtiekphbkomddfaaGreatDoorCRD1
import Derived.Test.YtiekphbkomddfaaGreatDoorRows
namespace Go.Proofs.YtiekphbkomddfaaGreatDoor.S1
open Go Go.Ab Go.Proofs
abbrev LLd (l:List Sp):D:=L l 3 Sp.d
abbrev I':Int→D:=D.int .i64
def hZ (pq:List Int) (n N:Nat):Heap:=⟨fun _=>none,0,upd (upd (fun _=>none) 0 (some 2)) 1 (some n),N+2,upd (fun _=>none) 0 (some (cv pq I'))⟩
def hZ2 (pq:List Int) (n N m:Nat):Heap:=⟨fun _=>none,0,upd (upd (upd (fun _=>none) 0 (some 2)) 1 (some n)) (N+2) (some m),N+3,upd (fun _=>none) 0 (some (cv pq I'))⟩
theorem F88:OkF 88 Tryz.f88:=⟨by kernel_rfl,by kernel_rfl,by kernel_rfl⟩
def lv88:List (List Nat × List Nat):=[([1,1,0,1,0],[0,21,22,23]),([1,1,1],[0]),([1,1,1,1,1,1,0,0],[0,6,7,8,9]),([1,1,1,1,1,1,0,0,0,1,0,1,0,1,0],[0,6,7,8,9,10,91,92,93]),([1,1,1,1,1,1,0,0,0,1,0,1,0,1,0,0,1,1,0,0,1,0,0],[0,6,7,8,9,10,11,12,91,92,93])]
noncomputable def nZips:List Nat→Nat→Option Ans:=scrAt []
theorem nZip [Lay] (a b:List Sp) (K:D→Heap→Prop):runS (EnV [] [84] Tryz.f88) (fh Tryz.f88 K) (nZips ) lv88 200 [.code []] ⟨argSlots 0 [L [a,b] 1 LLd],.empty⟩ =
 ([a,b].length≤lenM→((!(↑[a,b].length:Int)==0)=true→[a,b].length≤lenM)→[a,b].length≤lenM→At (EnV [] [84] Tryz.f88) (fh Tryz.f88 K) [It.code [1,1,0,1,0],It.blk 0,It.code [1,1,1]] {sl:=[(0,L [a,b] 1 LLd),(21,L [a,b] 1 LLd),(22,I (↑[a,b].length:Int)),(23,I 0)],h:=Heap.empty:St}):=by kernel_rfl
def SZ1 (a b:List Sp) (i:Int):St:=⟨[(0,L [a,b] 1 LLd),(21,L [a,b] 1 LLd),(22,I 2),(23,I i)],.empty⟩
noncomputable def nZipas (a:List Sp) (b:List Sp) (i:Int):List Nat→Nat→Option Ans:=scrAt [([1,1,0,1,0,0,1,1,0,0,1,0],1,Ans.pure [L ([a,b].getD i.toNat default) 3 Sp.d] (B (validL ([a,b].getD i.toNat default))))]
theorem nZipa [Lay] (a b : List Sp) (i : Int) (J : St → Prop) (K : D → Heap → Prop) : runS (EnV [] [84] Tryz.f88) (fh Tryz.f88 K) (nZipas a b i) lv88 200 [.code [1, 1, 0, 1, 0, 0], stp [0, 21, 22, 23] J, .blk 0, .code [1, 1, 1]] (SZ1 a b i) =
  (bif decide (i < 2) then
  (0 ≤ i ∧ i < (↑[a, b].length : Int)) ∧
    PureW PP 130 [L ([a, b].getD i.toNat default) 3 Sp.d] [L ([a, b].getD i.toNat default) 3 Sp.d] (B (validL ([a, b].getD i.toNat default))) ∧
      ((!!validL ([a, b].getD i.toNat default)) = true → (0 : Int) ≤ 0 ∧ 0 < (↑([a, b].getD i.toNat default).length : Int)) ∧
        ((!!validL ([a, b].getD i.toNat default)) = true → (0 : Int) ≤ 0 ∧ 0 < (↑[a, b].length : Int)) ∧
          ((!!validL ([a, b].getD i.toNat default)) = true → (0 : Int) ≤ 0 ∧ 0 < (↑([a, b].getD 0 default).length : Int)) ∧
            (((!bif !validL ([a, b].getD i.toNat default) then true else (([a, b].getD i.toNat default).getD 0 default).frm != (([a, b].getD 0 default).getD 0 default).frm) = true → ([a, b].getD i.toNat default).length ≤ lenM) →
              ((!bif !validL ([a, b].getD i.toNat default) then true else (([a, b].getD i.toNat default).getD 0 default).frm != (([a, b].getD 0 default).getD 0 default).frm) = true → 0 ≤ subI .i64 (↑([a, b].getD i.toNat default).length : Int) 1 ∧ subI .i64 (↑([a, b].getD i.toNat default).length : Int) 1 < (↑([a, b].getD i.toNat default).length : Int)) ∧
                ((!bif !validL ([a, b].getD i.toNat default) then true else (([a, b].getD i.toNat default).getD 0 default).frm != (([a, b].getD 0 default).getD 0 default).frm) = true → (0 : Int) ≤ 0 ∧ 0 < (↑[a, b].length : Int)) ∧ ((!bif !validL ([a, b].getD i.toNat default) then true else (([a, b].getD i.toNat default).getD 0 default).frm != (([a, b].getD 0 default).getD 0 default).frm) = true → (0 : Int) ≤ 0 ∧ 0 < (↑[a, b].length : Int)) ∧ (((!bif !validL ([a, b].getD i.toNat default) then true else (([a, b].getD i.toNat default).getD 0 default).frm != (([a, b].getD 0 default).getD 0 default).frm) = true → ([a, b].getD 0 default).length ≤ lenM) → ((!bif !validL ([a, b].getD i.toNat default) then true else (([a, b].getD i.toNat default).getD 0 default).frm != (([a, b].getD 0 default).getD 0 default).frm) = true → 0 ≤ subI .i64 (↑([a, b].getD 0 default).length : Int) 1 ∧ subI .i64 (↑([a, b].getD 0 default).length : Int) 1 < (↑([a, b].getD 0 default).length : Int)) ∧ bif bif bif !validL ([a, b].getD i.toNat default) then true else (([a, b].getD i.toNat default).getD 0 default).frm != (([a, b].getD 0 default).getD 0 default).frm then true else (([a, b].getD i.toNat default).getD (subI .i64 (↑([a, b].getD i.toNat default).length : Int) 1).toNat default).to != (([a, b].getD 0 default).getD (subI .i64 (↑([a, b].getD 0 default).length : Int) 1).toNat default).to then K (.tup [.list 0 0 (fun _ => D.junk) .full, I 1]) Heap.empty else J { sl := [(0, L [a, b] 1 LLd), (21, L [a, b] 1 LLd), (22, I 2), (23, I (addI .i64 i 1))], h := Heap.empty : St }))
 else At (EnV [] [84] Tryz.f88) (fh Tryz.f88 K) [It.code [1,1,1]] {sl:=[(0,L [a,b] 1 LLd)],h:=Heap.empty:St}):=by kernel_rfl
def lvZ:List (List Nat × List Nat):=[([1,1,1,1,1,1,0,0],[0,6,7,8,9])]
noncomputable def nZipbs:List Nat→Nat→Option Ans:=scrAt []
theorem nZipb [Lay] (a b:List Sp) (K:D→Heap→Prop):runS (EnV [] [84] Tryz.f88) (fh Tryz.f88 K) (nZipbs ) lvZ 200 [.code [1,1,1]] ⟨[(0,L [a,b] 1 LLd)],.empty⟩ =
 (((0:Int)≤0∧0 < (↑[a,b].length:Int))∧((0:Int)≤0∧0 < (↑([a,b].getD 0 default).length:Int))∧((0:Int)≤0∧0 < (↑[a,b].length:Int))∧((0:Int)≤0∧0 < (↑[a,b].length:Int))∧(([a,b].getD 0 default).length≤lenM→(0≤subI .i64 (↑([a,b].getD 0 default).length:Int) 1∧subI .i64 (↑([a,b].getD 0 default).length:Int) 1 < (↑([a,b].getD 0 default).length:Int))∧([a,b].length≤lenM→(0≤(↑[a,b].length:Int)∧(↑[a,b].length:Int)≤(↑[a,b].length:Int)∧(↑[a,b].length:Int) * ((↑7:Int)+1)≤(↑roomM:Int))∧At (EnV [] [84] Tryz.f88) (fh Tryz.f88 K) [It.code [1,1,1,1,1,1,0,0],It.blk 2,It.code [1,1,1,1,1,1,1]] {sl:=[(0,L [a,b] 1 LLd),(6,I (([a,b].getD 0 default).getD 0 default).frm),(7,I (([a,b].getD 0 default).getD (subI .i64 (↑([a,b].getD 0 default).length:Int) 1).toNat default).to),(8,D.vec 0 (↑[a,b].length:Int).toNat 1),(9,.list 0 0 (fun _=>D.junk) .full)],h:={box:=fun _=>none,nl:=0,hw:=upd (fun _=>none) 0 (some (↑[a,b].length:Int).toNat),nt:=1,vw:=upd (fun _=>none) 0 (some fun x=>ofVal (Value.int .i64 0)):Heap}:St}))):=by kernel_rfl
def SZ2 (a b:List Sp) (frm to:Int) (pq:List Int) (out:List Rw) (N:Nat):St:=⟨[(0,L [a,b] 1 LLd),(6,I frm),(7,I to),(8,.vec 0 2 1),(9,LT out 3 Rw.d 1)],hZ pq out.length N⟩
noncomputable def nZipcs:List Nat→Nat→Option Ans:=scrAt []
theorem nZipc [Lay] (a b:List Sp) (frm to:Int) (pq:List Int) (out:List Rw) (N:Nat) (J:St→Prop) (K:D→Heap→Prop):runS (EnV [] [84] Tryz.f88) (fh Tryz.f88 K) (nZipcs ) lv88 200 [.code [1,1,1,1,1,1,0,0,0],stp [0,6,7,8,9] J,.blk 2,.code [1,1,1,1,1,1,1]] (SZ2 a b frm to pq out N) =
 (bif decide (frm≤to) then True∧([a,b].length≤lenM→At (EnV [] [84] Tryz.f88) (fh Tryz.f88 K) [It.code [1,1,1,1,1,1,0,0,0,1,0,1,0,1,0],It.blk 4,It.code [1,1,1,1,1,1,0,0,0,1,0,1,1],It.blk 3,stp [0,6,7,8,9] J,It.blk 2,It.code [1,1,1,1,1,1,1]] {sl:=[(0,L [a,b] 1 LLd),(6,I frm),(7,I to),(8,D.vec 0 2 1),(9,.list out.length 3 (fun i=>(out.getD i default).d) (.tok 1 3)),(10,.own [I frm,I to,.list 0 0 (fun _=>D.junk) .full]),(91,L [a,b] 1 LLd),(92,I (↑[a,b].length:Int)),(93,I 0)],h:={box:=fun _=>none,nl:=0,hw:=upd (upd (fun _=>none) 0 (some 2)) 1 (some out.length),nt:=N+2,vw:=upd (fun _=>none) 0 (some (cv pq I')):Heap}:St}) else K (.tup [.list out.length 3 (fun i=>(out.getD i default).d) (.tok 1 3),I 0]) {box:=fun _=>none,nl:=0,hw:=upd (upd (fun _=>none) 0 (some 2)) 1 (some out.length),nt:=N+2,vw:=upd (fun _=>none) 0 (some (cv pq I')):Heap}):=by kernel_rfl
def SZ3 (a b:List Sp) (frm to:Int) (pq:List Int) (out:List Rw) (N:Nat) (m:Int) (vals:List Str) (i:Int):St:=⟨[(0,L [a,b] 1 LLd),(6,I frm),(7,I to),(8,.vec 0 2 1),(9,LT out 3 Rw.d 1),(10,.own [I frm,I m,LT vals 1 .str (N+2)]),(91,L [a,b] 1 LLd),(92,I 2),(93,I i)],hZ2 pq out.length N vals.length⟩
noncomputable def nZipds:List Nat→Nat→Option Ans:=scrAt []
theorem nZipd [Lay] (a b:List Sp) (frm to:Int) (pq:List Int) (out:List Rw) (N:Nat) (m:Int) (vals:List Str) (i:Int) (J J2:St→Prop) (K:D→Heap→Prop):runS (EnV [] [84] Tryz.f88) (fh Tryz.f88 K) (nZipds ) lv88 200 [.code [1,1,1,1,1,1,0,0,0,1,0,1,0,1,0,0],stp [0,6,7,8,9,10,91,92,93] J,.blk 4,.code [1,1,1,1,1,1,0,0,0,1,0,1,1],.blk 3,stp [0,6,7,8,9] J2,.blk 2,.code [1,1,1,1,1,1,1]] (SZ3 a b frm to pq out N m vals i) =
 (bif decide (i < 2) then (0≤i∧i < (↑[a,b].length:Int))∧At (EnV [] [84] Tryz.f88) (fh Tryz.f88 K) [It.code [1,1,1,1,1,1,0,0,0,1,0,1,0,1,0,0,1,1,0,0,1,0,0],It.blk 6,It.code [1,1,1,1,1,1,0,0,0,1,0,1,0,1,0,0,1,1,0,0,1,1],It.blk 5,It.code [1,1,1,1,1,1,0,0,0,1,0,1,0,1,0,0,1,1,1],stp [0,6,7,8,9,10,91,92,93] J,It.blk 4,It.code [1,1,1,1,1,1,0,0,0,1,0,1,1],It.blk 3,stp [0,6,7,8,9] J2,It.blk 2,It.code [1,1,1,1,1,1,1]] {sl:=[(0,L [a,b] 1 LLd),(6,I frm),(7,I to),(8,D.vec 0 2 1),(9,.list out.length 3 (fun i=>(out.getD i default).d) (.tok 1 3)),(10,.own [I frm,I m,.list vals.length 1 (fun i=> .str (vals.getD i default)) (.tok (N+2) 1)]),(11,I i),(12,L ([a,b].getD i.toNat default) 3 Sp.d),(91,L [a,b] 1 LLd),(92,I 2),(93,I i)],h:={box:=fun _=>none,nl:=0,hw:=upd (upd (upd (fun _=>none) 0 (some 2)) 1 (some out.length)) (N+2) (some vals.length),nt:=N+3,vw:=upd (fun _=>none) 0 (some (cv pq I')):Heap}:St} else (upd (upd (upd (fun _=>none) 0 (some 2)) 1 (some out.length)) (N+2) (some vals.length) 1=some out.length∧(out.length+1) * 40≤roomM)∧J2 {sl:=[(0,L [a,b] 1 LLd),(6,I (addI .i64 m 1)),(7,I to),(8,D.vec 0 2 1),(9,.list (out.length+1) 3 (catG out.length (fun i=>(out.getD i default).d) (litG [.agg [I frm,I m,.list vals.length 1 (fun i=> .str (vals.getD i default)) (.tok (N+2) 1)]])) (.tok 1 3))],h:={box:=fun _=>none,nl:=0,hw:=upd (upd (upd (upd (fun _=>none) 0 (some 2)) 1 (some out.length)) (N+2) (some vals.length)) 1 (some (out.length+1)),nt:=N+3,vw:=upd (fun _=>none) 0 (some (cv pq I')):Heap}:St}):=by kernel_rfl
def SZ4 (a b:List Sp) (frm to:Int) (pq:List Int) (out:List Rw) (N:Nat) (m:Int) (vals:List Str) (i:Int) (l:List Sp):St:=⟨[(0,L [a,b] 1 LLd),(6,I frm),(7,I to),(8,.vec 0 2 1),(9,LT out 3 Rw.d 1),(10,.own [I frm,I m,LT vals 1 .str (N+2)]),(11,I i),(12,L l 3 Sp.d),(91,L [a,b] 1 LLd),(92,I 2),(93,I i)],hZ2 pq out.length N vals.length⟩
noncomputable def nZipes:List Nat→Nat→Option Ans:=scrAt []
theorem nZipe [Lay] (a b:List Sp) (frm to:Int) (pq:List Int) (out:List Rw) (N:Nat) (m:Int) (vals:List Str) (i:Int) (l:List Sp) (J J2 J3:St→Prop) (K:D→Heap→Prop):runS (EnV [] [84] Tryz.f88) (fh Tryz.f88 K) (nZipes ) lv88 200 [.code [1,1,1,1,1,1,0,0,0,1,0,1,0,1,0,0,1,1,0,0,1,0,0,0],stp [0,6,7,8,9,10,11,12,91,92,93] J,.blk 6,.code [1,1,1,1,1,1,0,0,0,1,0,1,0,1,0,0,1,1,0,0,1,1],.blk 5,.code [1,1,1,1,1,1,0,0,0,1,0,1,0,1,0,0,1,1,1],stp [0,6,7,8,9,10,91,92,93] J2,.blk 4,.code [1,1,1,1,1,1,0,0,0,1,0,1,1],.blk 3,stp [0,6,7,8,9] J3,.blk 2,.code [1,1,1,1,1,1,1]] (SZ4 a b frm to pq out N m vals i l) =
 ((upd (upd (upd (fun _=>none) 0 (some 2)) 1 (some out.length)) (N+2) (some vals.length) 0=some 2∧0≤i∧i < (↑2:Int)) ∧
 upd (upd (upd (fun _=>none) 0 (some 2)) 1 (some out.length)) (N+2) (some vals.length) 0=some 2 ∧
  (0≤pq.getD i.toNat default∧pq.getD i.toNat default < (↑l.length:Int)) ∧
   bif decide ((l.getD (pq.getD i.toNat default).toNat default).to < frm) then (upd (upd (upd (fun _=>none) 0 (some 2)) 1 (some out.length)) (N+2) (some vals.length) 0=some 2∧0≤i∧i < (↑2:Int))∧upd (upd (upd (fun _=>none) 0 (some 2)) 1 (some out.length)) (N+2) (some vals.length) 0=some 2∧(upd (upd (upd (fun _=>none) 0 (some 2)) 1 (some out.length)) (N+2) (some vals.length) 0=some 2∧0≤i∧i < (↑2:Int))∧upd (upd (upd (fun _=>none) 0 (some 2)) 1 (some out.length)) (N+2) (some vals.length) 0=some 2∧J {sl:=[(0,L [a,b] 1 LLd),(6,I frm),(7,I to),(8,D.vec 0 2 1),(9,.list out.length 3 (fun i=>(out.getD i default).d) (.tok 1 3)),(10,.own [I frm,I m,.list vals.length 1 (fun i=> .str (vals.getD i default)) (.tok (N+2) 1)]),(11,I i),(12,L l 3 Sp.d),(91,L [a,b] 1 LLd),(92,I 2),(93,I i)],h:={box:=fun _=>none,nl:=0,hw:=upd (upd (upd (fun _=>none) 0 (some 2)) 1 (some out.length)) (N+2) (some vals.length),nt:=N+3,vw:=upd (upd (fun _=>none) 0 (some (cv pq I'))) 0 (some (setG (cv pq I') i.toNat (I (addI .i64 (pq.getD i.toNat default) 1)))):Heap}:St}
   else (upd (upd (upd (fun _=>none) 0 (some 2)) 1 (some out.length)) (N+2) (some vals.length) 0=some 2∧0≤i∧i < (↑2:Int))∧upd (upd (upd (fun _=>none) 0 (some 2)) 1 (some out.length)) (N+2) (some vals.length) 0=some 2∧(0≤pq.getD i.toNat default∧pq.getD i.toNat default < (↑l.length:Int))∧True∧(upd (upd (upd (fun _=>none) 0 (some 2)) 1 (some out.length)) (N+2) (some vals.length) 0=some 2∧0≤i∧i < (↑2:Int))∧upd (upd (upd (fun _=>none) 0 (some 2)) 1 (some out.length)) (N+2) (some vals.length) 0=some 2∧(0≤pq.getD i.toNat default∧pq.getD i.toNat default < (↑l.length:Int))∧(upd (upd (upd (fun _=>none) 0 (some 2)) 1 (some out.length)) (N+2) (some vals.length) (N+2)=some vals.length∧(vals.length+1) * 16≤roomM)∧True∧J2 {sl:=[(0,L [a,b] 1 LLd),(6,I frm),(7,I to),(8,D.vec 0 2 1),(9,.list out.length 3 (fun i=>(out.getD i default).d) (.tok 1 3)),(10,.own [I frm,I (if (l.getD (pq.getD i.toNat default).toNat default).to < m then (l.getD (pq.getD i.toNat default).toNat default).to else m),.list (vals.length+1) 1 (catG vals.length (fun i=> .str (vals.getD i default)) (strL [.str (l.getD (pq.getD i.toNat default).toNat default).val])) (.tok (N+2) 1)]),(91,L [a,b] 1 LLd),(92,I 2),(93,I (addI .i64 i 1))],h:={box:=fun _=>none,nl:=0,hw:=upd (upd (upd (upd (fun _=>none) 0 (some 2)) 1 (some out.length)) (N+2) (some vals.length)) (N+2) (some (vals.length+1)),nt:=N+3,vw:=upd (fun _=>none) 0 (some (cv pq I')):Heap}:St}):=by kernel_rfl
def adv (l:List Sp) (frm:Int) (p:Nat):Nat:=p+((l.drop p).takeWhile fun x=>decide (x.to < frm)).length
theorem adv_lt {l:List Sp} {frm:Int} {p:Nat} (hp:p < l.length) (h:(l.getD p default).to < frm):adv l frm p=adv l frm (p+1):=by
 unfold adv
 rw [drop_cons _ _ hp,List.takeWhile_cons_of_pos (by simpa using h)]
 simp only [List.length_cons]; omega
theorem adv_ge {l:List Sp} {frm:Int} {p:Nat} (hp:p < l.length) (h:¬ (l.getD p default).to < frm):adv l frm p=p:=by
 unfold adv
 rw [drop_cons _ _ hp,List.takeWhile_cons_of_neg (by simpa using h)]
 rfl
theorem adv_in {l : List Sp} {frm : Int} (hl : frm ≤ (lastSp l).to) : ∀ (n p : Nat), n = l.length - p → p < l.length → p ≤ adv l frm p ∧ adv l frm p < l.length ∧ ¬ (l.getD (adv l frm p) default).to < frm
  | 0, p, hn, hp => by omega
  | n + 1, p, hn, hp => by
    by_cases h : (l.getD p default).to < frm
    · have hne : p + 1 < l.length := by
        rcases Nat.lt_or_ge (p + 1) l.length with h1 | h1
        · exact h1
        · have : p = l.length - 1 := by omega
          subst this
          exact absurd h (by unfold lastSp at hl; omega)
      obtain ⟨h1, h2, h3⟩ := adv_in hl n (p + 1) (by omega) hne
      rw [adv_lt hp h]
      exact ⟨by omega, h2, h3⟩
    · rw [adv_ge hp h]; exact ⟨Nat.le_refl _, hp, h⟩
theorem Wk.snocStr {a:List Str} {x:Str} {t:Nat}:Wk (.list (a.length+1) 1 (catG a.length (fun i=>D.str (a.getD i default)) (Ab.strL [D.str x])) (.tok t 1)) (LT (a++[x]) 1 D.str t) :=
 Wk.app (b:=[x]) (enc:=D.str) rfl rfl (fun i hi=>by
  have:i=0:=by simpa using hi
  subst this; rfl) (.inr rfl)
def mnI (x m:Int):Int:=if x < m then x else m
def zipW (a b:List Sp) (to:Int):Nat→Int→Nat→Nat→List Rw
 | 0,_,_,_=>[]
 | n+1,frm,p,q=>if frm≤to then
   ⟨frm,mnI (b.getD (adv b frm q) default).to (mnI (a.getD (adv a frm p) default).to to),[(a.getD (adv a frm p) default).val,(b.getD (adv b frm q) default).val]⟩ ::
    zipW a b to n (addI .i64 (mnI (b.getD (adv b frm q) default).to (mnI (a.getD (adv a frm p) default).to to)) 1) (adv a frm p) (adv b frm q) else []
def zipR (a b:List Sp):List Rw:=zipW a b (lastSp a).to ((lastSp a).to+1 - (a.getD 0 default).frm).toNat (a.getD 0 default).frm 0 0
structure ZipOk (a b:List Sp):Prop where
 va:validL a=true
 vb:validL b=true
 frm:(b.getD 0 default).frm=(a.getD 0 default).frm
 to:(lastSp b).to=(lastSp a).to
theorem validL_facts {l : List Sp} (h : validL l = true) : 0 < l.length ∧ 0 ≤ (l.getD 0 default).frm ∧ (lastSp l).to ≤ 1099511627776 ∧ chk none l = true := by
  unfold validL at h
  simp only [Bool.and_eq_true, Bool.not_eq_true'] at h
  obtain ⟨h1, h2⟩ := h
  cases hb : (bif (l.length : Int) == 0 then true else decide ((l.getD 0 default).frm < 0)) with
  | true => rw [hb] at h1; cases h1
  | false =>
    rw [hb] at h1
    cases h0 : ((l.length : Int) == 0) with
    | true => rw [h0] at hb; cases hb
    | false =>
      rw [h0] at hb
      have : (l.length : Int) ≠ 0 := by simpa using h0
      have h3 : ¬ (l.getD 0 default).frm < 0 := by simpa using hb
      have h4 : ¬ (lastSp l).to > 1099511627776 := by simpa using h1
      exact ⟨by omega, by omega, by omega, h2⟩
theorem hZ_drop {pq:List Int} {n N m:Nat}:HeapLe ⟨fun _=>none,0,upd (upd (upd (upd (fun _=>none) 0 (some 2)) 1 (some n)) (N+2) (some m)) 1 (some (n+1)),N+3,upd (fun _=>none) 0 (some (cv pq I'))⟩ (hZ pq (n+1) (N+1)):=by
 refine ⟨fun l row' e=>(by cases e),Nat.le_refl _,fun t k e=> ?_,Nat.le_refl _,fun _ _ _=>VwLe.refl _ _,fun _ h=>h⟩
 have e':upd (upd (fun _=>none) 0 (some 2)) 1 (some (n+1)) t=some k:=e
 show upd (upd (upd (upd (fun _=>none) 0 (some 2)) 1 (some n)) (N+2) (some m)) 1 (some (n+1)) t=some k
 rcases t with _ | _ | t
 ·have e1:(some 2:Option Nat)=some k:=e'
  have:upd (upd (upd (upd (fun _=>(none:Option Nat)) 0 (some 2)) 1 (some n)) (N+2) (some m)) 1 (some (n+1)) 0=some 2:=by
   rw [upd_other _ _ (by omega),upd_other _ _ (by omega)]; rfl
  rw [this]; exact e1
 ·exact e'
 ·have e1:(none:Option Nat)=some k:=e'
  cases e1
theorem hw0 {n N m:Nat}:upd (upd (upd (fun _=>(none:Option Nat)) 0 (some 2)) 1 (some n)) (N+2) (some m) 0=some 2:=by rw [upd_other _ _ (by omega)]; rfl
theorem hw1 {n N m:Nat}:upd (upd (upd (fun _=>(none:Option Nat)) 0 (some 2)) 1 (some n)) (N+2) (some m) 1=some n:=by rw [upd_other _ _ (by omega)]; rfl
def pqAt (p q p' q':Nat):Nat→List Int
 | 0=>[(p:Int),(q:Int)]
 | 1=>[(p':Int),(q:Int)]
 | _=>[(p':Int),(q':Int)]
def mAt (T m1 m2:Int):Nat→Int
 | 0=>T
 | 1=>m1
 | _=>m2
def vAt (va vb:Str):Nat→List Str
 | 0=>[]
 | 1=>[va]
 | _=>[va,vb]
theorem zipInner [Lay] {K : D → Heap → Prop} {a b : List Sp} {frm T : Int} {out : List Rw} {N : Nat} {m : Int} {vals : List Str} {l : List Sp} {pq : List Int} {i k0 : Nat} (J2 J3 : St → Prop) (hi : i < 2) (hk : k0 < l.length) (hll : l.length ≤ 100000) (hlast : frm ≤ (lastSp l).to)
    (hpl : pq.length = 2) (hpq : pq.set i (k0 : Int) = pq) (hvl : vals.length ≤ 10)
    (hJ : ∀ st, StLe (EnV [] [84] Tryz.f88).nt st (SZ3 a b frm T (pq.set i ((adv l frm k0 : Nat) : Int)) out N (mnI (l.getD (adv l frm k0) default).to m) (vals ++ [(l.getD (adv l frm k0) default).val]) ((i + 1 : Nat) : Int)) → J2 st) :
    At (EnV [] [84] Tryz.f88) (fh Tryz.f88 K) [It.code [1, 1, 1, 1, 1, 1, 0, 0, 0, 1, 0, 1, 0, 1, 0, 0, 1, 1, 0, 0, 1, 0, 0], It.blk 6,
        It.code [1, 1, 1, 1, 1, 1, 0, 0, 0, 1, 0, 1, 0, 1, 0, 0, 1, 1, 0, 0, 1, 1], It.blk 5,
        It.code [1, 1, 1, 1, 1, 1, 0, 0, 0, 1, 0, 1, 0, 1, 0, 0, 1, 1, 1], stp [0, 6, 7, 8, 9, 10, 91, 92, 93] J2,
        It.blk 4, It.code [1, 1, 1, 1, 1, 1, 0, 0, 0, 1, 0, 1, 1], It.blk 3, stp [0, 6, 7, 8, 9] J3, It.blk 2,
        It.code [1, 1, 1, 1, 1, 1, 1]] (SZ4 a b frm T pq out N m vals i l) := by
  refine at_le (st' := SZ4 a b frm T (pq.set i (k0 : Int)) out N m vals i l) ?_ (by rw [hpq]; exact StLe.refl _ _)
  refine lp (fn := Tryz.f88) (fun k : Nat => k < l.length ∧ adv l frm k = adv l frm k0) (fun k => SZ4 a b frm T (pq.set i (k : Int)) out N m vals i l) (fun k => l.length - k) [0, 6, 7, 8, 9, 10, 11, 12, 91, 92, 93] (by kernel_rfl) (fun k hk => of_eq (nZipe a b frm T (pq.set i (k : Int)) out N m vals i l _ _ _ _) ?_) k0 ⟨hk, rfl⟩
  obtain ⟨hk, he⟩ := hk
  have hg : (pq.set i (k : Int)).getD i default = (k : Int) := by simp [List.getD, hpl, hi]
  rw [Int.toNat_natCast, hg, Int.toNat_natCast]
  have hin : (0 : Int) ≤ (i : Int) ∧ (i : Int) < ((2 : Nat) : Int) := ⟨by omega, by omega⟩
  refine ⟨⟨hw0, hin⟩, hw0, ⟨by omega, by omega⟩, cond_intro (fun h => ?_) fun h => ?_⟩
  · have h : (l.getD k default).to < frm := by simpa using h
    have ha := adv_lt hk h
    have hne : k + 1 < l.length := by
      rcases Nat.lt_or_ge (k + 1) l.length with h1 | h1
      · exact h1
      · have : k = l.length - 1 := by omega
        subst this
        unfold lastSp at hlast
        omega
    refine ⟨⟨hw0, hin⟩, hw0, ⟨hw0, hin⟩, hw0, Nx.of (k + 1) ⟨hne, by rw [← he, ha]⟩ (by omega) ?_⟩
    have h1 : addI .i64 (k : Int) 1 = ((k + 1 : Nat) : Int) := by rw [add64 (by omega) (by omega)]; rfl
    rw [h1, upd_upd]
    refine (StLe.vec (t := 0) (f' := cv (pq.set i ((k + 1 : Nat) : Int)) I') hw0 fun j _ => ?_)
    have := cv_set (es := pq.set i (k : Int)) (enc := I') (k := i) (x := ((k + 1 : Nat) : Int)) (by simp [hpl, hi]) j
    rw [List.set_set] at this
    exact this
  · have h : ¬ (l.getD k default).to < frm := by simpa using h
    have ha := adv_ge hk h
    have hk' : adv l frm k0 = k := by rw [← he, ha]
    refine ⟨⟨hw0, hin⟩, hw0, ⟨by omega, by omega⟩, trivial, ⟨hw0, hin⟩, hw0, ⟨by omega, by omega⟩, ⟨upd_same _ _ _, by unfold roomM; omega⟩, trivial, hJ _ ?_⟩
    rw [hk']
    have h1 : addI .i64 (i : Int) 1 = ((i + 1 : Nat) : Int) := by rw [add64 (by omega) (by omega)]; rfl
    rw [h1, upd_upd]
    refine (StLe.setOwn (by simp) 10 rfl (Wks.cons (Wk.refl _) (Wks.cons (Wk.refl _) (Wks.cons (Wk.snocStr (x := (l.getD k default).val)) (Wks.refl _))))).trans (StLe.heap ?_)
    simp [hZ2]
theorem c88 [Lay] (a b:List Sp) (h:ZipOk a b) (hla:a.length≤100000) (hlb:b.length≤100000):Pure PP 88 [L [a,b] 1 LLd] (.tup [L (zipR a b) 3 Rw.d,I 0]):=by
 obtain ⟨va,vb,hf,ht⟩:=h
 obtain ⟨a0,a1,a2,_⟩:=validL_facts va
 obtain ⟨b0,_,_,_⟩:=validL_facts vb
 have la:subI .i64 (a.length:Int) 1=((a.length - 1:Nat):Int):=lastI a0 (by unfold lenM; omega)
 have lb:subI .i64 (b.length:Int) 1=((b.length - 1:Nat):Int):=lastI b0 (by unfold lenM; omega)
 refine pr F88 (by kernel_rfl) (of_eq (nZip a b _) fun _ _ _=> ?_)
 refine lp (fn:=Tryz.f88) (fun i:Nat=>i≤2) (fun i=>SZ1 a b i) (fun i=>2 - i) [0,21,22,23] (by kernel_rfl) (fun i hi=>of_eq (nZipa a b i _ _) (cond_intro (fun hlt=> ?_) fun hge=> ?_)) 0 (by omega)
 ·have hlt:i < 2:=by have:(i:Int) < 2:=of_decide_eq_true hlt; omega
  have ha1:addI .i64 (i:Int) 1=((i+1:Nat):Int):=by rw [add64 (by omega) (by omega)]; rfl
  rw [ha1,Int.toNat_natCast]
  have hx:∀ l,l=[a,b].getD i default→(validL l=true∧0 < l.length∧subI .i64 (l.length:Int) 1=((l.length - 1:Nat):Int)∧(l.getD 0 default).frm=(a.getD 0 default).frm∧(l.getD (l.length - 1) default).to=(lastSp a).to):=fun l e=>by
   rcases i with _ | _ | i
   ·have:l=a:=e
    subst this; exact ⟨va,a0,la,rfl,rfl⟩
   ·have:l=b:=e
    subst this; exact ⟨vb,b0,lb,hf,ht⟩
   ·omega
  have hll:(([a,b].length:Nat):Int)=2:=rfl
  have hg0:[a,b].getD 0 default=a:=rfl
  rw [hg0,hll]
  generalize hl:[a,b].getD i default=l
  obtain ⟨x1,x2,x3,x4,x5⟩:=hx l hl.symm
  rw [x3,la,Int.toNat_natCast,Int.toNat_natCast]
  refine ⟨⟨by omega,by omega⟩,PureW.mk (c130 _),fun _=>⟨by omega,by omega⟩,fun _=>⟨by omega,by omega⟩,fun _=>⟨by omega,by omega⟩,fun _=>⟨fun _=>⟨by omega,by omega⟩,fun _=>⟨by omega,by omega⟩,fun _=>⟨by omega,by omega⟩,fun _=>⟨fun _=>⟨by omega,by omega⟩,cond_intro (fun h=> ?_) fun h=>Nx.mk (i+1) (by omega) (by omega)⟩⟩⟩
  rw [x1,x4,x5] at h
  simp [lastSp] at h
 refine at_le (runS_sound hmix _ _ _ (of_eq (nZipb a b _) ?_)) (StLe.refl _ _)
 have hll:(([a,b].length:Nat):Int)=2:=rfl
 have hg0:[a,b].getD 0 default=a:=rfl
 rw [hg0,hll,la,Int.toNat_natCast]
 refine ⟨⟨by omega,by omega⟩,⟨by omega,by omega⟩,⟨by omega,by omega⟩,⟨by omega,by omega⟩,fun _=>⟨⟨by omega,by omega⟩,fun _=>⟨⟨by omega,by omega,by unfold roomM; decide⟩,?_⟩⟩⟩
 refine at_le (st':=SZ2 a b (a.getD 0 default).frm (lastSp a).to [0,0] [] 0) ?_ (((StLe.tok0 _ (α:=Rw) (enc:=Rw.d) 9 3 rfl).trans (StLe.vec (t:=0) (n:=2) (f':=cv [0,0] I') rfl fun j hj=> ?_)).cast rfl)
 rotate_left
 ·rcases j with _ | _ | j
  ·rfl
  ·rfl
  ·omega
 generalize hT:(lastSp a).to=T at ht a2 ⊢
 have hzr:zipR a b=zipW a b T (T+1 - (a.getD 0 default).frm).toNat (a.getD 0 default).frm 0 0:=by unfold zipR; rw [hT]
 generalize hF:(T+1 - (a.getD 0 default).frm).toNat=F at hzr
 have hFb:F≤1099511627777:=by omega
 generalize hf0:(a.getD 0 default).frm=frm0 at a1 hzr hF hf ⊢
 refine lp (fn:=Tryz.f88) (fun z:Int × Nat × Nat × List Rw × Nat × Nat=>0≤z.1∧z.2.1 < a.length∧z.2.2.1 < b.length∧z.2.2.2.1.length+z.2.2.2.2.2≤F∧(T+1 - z.1).toNat≤z.2.2.2.2.2∧zipR a b=z.2.2.2.1++zipW a b T z.2.2.2.2.2 z.1 z.2.1 z.2.2.1)
  (fun z=>SZ2 a b z.1 T [(z.2.1:Int),(z.2.2.1:Int)] z.2.2.2.1 z.2.2.2.2.1) (fun z=>z.2.2.2.2.2) [0,6,7,8,9] (by kernel_rfl) (fun z hz=>of_eq (nZipc a b z.1 T [(z.2.1:Int),(z.2.2.1:Int)] z.2.2.2.1 z.2.2.2.2.1 _ _) ?_) (frm0,0,0,[],0,F) ⟨a1,a0,b0,by simp,by simp only; omega,by simpa using hzr⟩
 obtain ⟨frm,p,q,out,N,n⟩:=z
 obtain ⟨h0,hp,hq,hol,hn,hz⟩:=hz
 simp only at h0 hp hq hol hn hz ⊢
 refine cond_intro (fun hle0=>⟨trivial,fun _=> ?_⟩) fun hgt0=> ?_
 ·have hle:frm≤T:=of_decide_eq_true hle0
  obtain ⟨n,rfl⟩:∃ k,n=k+1:=⟨n - 1,by omega⟩
  obtain ⟨p1,p2,p3⟩:=adv_in (l:=a) (frm:=frm) (by rw [hT]; exact hle) _ p rfl hp
  obtain ⟨q1,q2,q3⟩:=adv_in (l:=b) (frm:=frm) (by rw [ht]; exact hle) _ q rfl hq
  have hz':zipR a b=(out++[⟨frm,mnI (b.getD (adv b frm q) default).to (mnI (a.getD (adv a frm p) default).to T),[(a.getD (adv a frm p) default).val,(b.getD (adv b frm q) default).val]⟩])++zipW a b T n (addI .i64 (mnI (b.getD (adv b frm q) default).to (mnI (a.getD (adv a frm p) default).to T)) 1) (adv a frm p) (adv b frm q):=by
   rw [hz]
   simp only [zipW]
   rw [if_pos hle]
   simp
  have hm:frm≤mnI (b.getD (adv b frm q) default).to (mnI (a.getD (adv a frm p) default).to T)∧mnI (b.getD (adv b frm q) default).to (mnI (a.getD (adv a frm p) default).to T)≤T:=by
   unfold mnI
   constructor <;> (repeat' split) <;> omega
  have ia:=fun (J2 J3:St→Prop)=>zipInner (K:=fun d h=>∃ h',RetLe d h (.tup [L (zipR a b) 3 Rw.d,I 0]) h') (a:=a) (b:=b) (frm:=frm) (T:=T) (out:=out) (N:=N) (m:=T) (vals:=[]) (l:=a) (pq:=[(p:Int),(q:Int)]) (i:=0) (k0:=p) J2 J3 (by omega) hp hla (by rw [hT]; exact hle) rfl rfl (by simp)
  have ib:=fun (J2 J3:St→Prop)=>zipInner (K:=fun d h=>∃ h',RetLe d h (.tup [L (zipR a b) 3 Rw.d,I 0]) h') (a:=a) (b:=b) (frm:=frm) (T:=T) (out:=out) (N:=N) (m:=mnI (a.getD (adv a frm p) default).to T) (vals:=[(a.getD (adv a frm p) default).val]) (l:=b) (pq:=[((adv a frm p:Nat):Int),(q:Int)]) (i:=1) (k0:=q) J2 J3 (by omega) hq hlb (by rw [ht]; exact hle) rfl rfl (by simp)
  generalize adv a frm p=p' at p1 p2 p3 hz' hm ia ib
  generalize adv b frm q=q' at q1 q2 q3 hz' hm ia ib
  generalize hm2:mnI (b.getD q' default).to (mnI (a.getD p' default).to T)=m2 at hz' hm ib
  generalize hm1:mnI (a.getD p' default).to T=m1 at hz' hm ia ib hm2
  refine at_le (st':=SZ3 a b frm T (pqAt p q p' q' 0) out N (mAt T m1 m2 0) (vAt (a.getD p' default).val (b.getD q' default).val 0) (0:Nat)) ?_ ((StLe.idleOwn _ none 10 2 1 (fun i=> .str (([]:List Str).getD i default)) rfl rfl).cast rfl)
  refine lp (fn:=Tryz.f88) (fun i:Nat=>i≤2) (fun i=>SZ3 a b frm T (pqAt p q p' q' i) out N (mAt T m1 m2 i) (vAt (a.getD p' default).val (b.getD q' default).val i) i) (fun i=>2 - i) [0,6,7,8,9,10,91,92,93] (by kernel_rfl) (fun i hi=>of_eq (nZipd a b frm T (pqAt p q p' q' i) out N (mAt T m1 m2 i) (vAt (a.getD p' default).val (b.getD q' default).val i) i _ _ _) (cond_intro (fun hlt=> ?_) fun hge=> ?_)) 0 (by omega)
  ·have hlt:i < 2:=by have:(i:Int) < 2:=of_decide_eq_true hlt; omega
   have hll:(([a,b].length:Nat):Int)=2:=rfl
   refine ⟨⟨by omega,by omega⟩,?_⟩
   rcases i with _ | _ | i
   ·exact ia _ _ fun st hst=>Nx.of 1 (by omega) (by omega) hst
   ·exact ib _ _ fun st hst=>Nx.of 2 (by omega) (by omega) hst
   ·omega
  ·have hi2:i=2:=by have:¬ (i:Int) < 2:=of_decide_eq_false hge; omega
   subst hi2
   have hadd:addI .i64 m2 1=m2+1:=add64 (by omega) (by omega)
   refine ⟨⟨hw1,by unfold roomM; omega⟩,Nx.of (addI .i64 m2 1,p',q',out++[⟨frm,m2,[(a.getD p' default).val,(b.getD q' default).val]⟩],N+1,n) ⟨by simp only; omega,p2,q2,by simp only [List.length_append,List.length_singleton]; omega,by simp only; omega,hz'⟩ (by simp only; omega) ?_⟩
   refine (StLe.set (d':=LT (out++[⟨frm,m2,[(a.getD p' default).val,(b.getD q' default).val]⟩]) 3 Rw.d 1) 9 rfl (Wk.snocW (x:=(⟨frm,m2,[(a.getD p' default).val,(b.getD q' default).val]⟩:Rw)) (Wk.agg (Wks.cons (Wk.refl _) (Wks.cons (Wk.refl _) (Wks.cons Wk.tokL (Wks.refl _))))) rfl) rfl rfl).trans ?_
   refine (StLe.heapLe hZ_drop).cast ?_
   simp only [SZ2,pqAt,List.length_append,List.length_singleton]
   rfl
 ·have hgt:¬ frm≤T:=of_decide_eq_false hgt0
  have:zipW a b T n frm p q=[]:=by
   cases n with
   | zero=>rfl
   | succ n=>simp only [zipW]; rw [if_neg hgt]
  rw [hz,this,List.append_nil]
  exact ⟨_,RetLe.wk (Wk.tup (Wks.cons Wk.tokL (Wks.refl _))) rfl⟩
end Go.Proofs.YtiekphbkomddfaaGreatDoor.S1
namespace Go.Proofs.YtiekphbkomddfaaGreatDoor.S1
open Go Go.Ab Go.Proofs
def w0:Wv:=⟨[⟨0,1,[⟨2,[48]⟩,⟨5,[49]⟩]⟩],[],9⟩
def c0:List Sp:=[⟨2,6,[99]⟩]
def z0:List Rw:=[⟨2,4,[[48],[99]]⟩,⟨5,6,[[49],[99]]⟩]
theorem Wk.litW {α:Type} [Inhabited α] {sz:Nat} {enc:α→D} {l:List α} {ds:List D} {n:Nat} {own:Own} (hn:n=l.length) (hd:∀ i,i < l.length→Wk (litG ds i) (enc (l.getD i default))∧(ones (litG ds i)=true→ones (enc (l.getD i default))=true)):Wk (.list n sz (litG ds) own) (L l sz enc) :=
 Wk.listW hn (.inl rfl) (fun i hi=>hd i (by omega)) (.inl rfl)
end Go.Proofs.YtiekphbkomddfaaGreatDoor.S1
namespace Go.Proofs.YtiekphbkomddfaaGreatDoor.S1
open Go Go.Ab Go.Proofs
def prevX {α:Type} [Inhabited α] (l:List α):Nat→Option α
 | 0=>none
 | i+1=>some (l.getD i default)
theorem all_drop {α:Type} [Inhabited α] {f:α→Bool} {l:List α} {i:Nat} (h:i < l.length):(l.drop i).all f=(f (l.getD i default)&&(l.drop (i+1)).all f):=by
 rw [drop_cons _ _ h,List.all_cons]
def byteBad (c:UInt8):Bool:=bif bif bif (c.toNat:Int)!=48 then (c.toNat:Int)!=49 else false then (c.toNat:Int)!=120 else false then (c.toNat:Int)!=122 else false
def vlOk (q:Sig) (v:Str):Bool:=bif q.kind==3 then v==[] else bif q.kind==0 then v.all (fun c=> !byteBad c)&&((v.length:Int)==q.width) else decide ((v.length:Int)≤64)
theorem F36:OkF 36 Tryz.f36:=⟨by kernel_rfl,by kernel_rfl,by kernel_rfl⟩
def lv36:List (List Nat × List Nat):=[([1,0,1,0,1,1,1,0,0,1,0],[1,2,5])]
noncomputable def nvls:List Nat→Nat→Option Ans:=scrAt []
theorem nvl [Lay] (q:Sig) (v:Str) (K:D→Prop):runS (En Tryz.f36) (fi Tryz.f36 K) (nvls ) lv36 200 [.code []] ⟨argSlots 0 [q.d,.str v],.empty⟩ =
 (bif q.kind==3 then K (B (v=={data:= #[]:ByteArray}.data.toList)) else bif q.kind==0 then At (En Tryz.f36) (fi Tryz.f36 K) [It.code [1,0,1,0,1,1,1,0,0,1,0],It.blk 1,It.code [1,0,1,0,1,1,1,0,1],It.blk 0,It.code [1,1]] {sl:=[(1,.str v),(2,.own [I q.kind,I q.width,L q.chg 2 Chg.d]),(5,I 0)],h:=Heap.empty:St} else List.length v≤strM→K (B (decide ((↑(List.length v):Int)≤64)))):=by kernel_rfl
def Svl (q:Sig) (v:Str) (i:Int):St:=⟨[(1,.str v),(2,.own [I q.kind,I q.width,L q.chg 2 Chg.d]),(5,I i)],.empty⟩
noncomputable def nvlas:List Nat→Nat→Option Ans:=scrAt []
theorem nvla [Lay] (q:Sig) (v:Str) (i:Int) (J:St→Prop) (K:D→Prop):runS (En Tryz.f36) (fi Tryz.f36 K) (nvlas ) lv36 200 [.code [1,0,1,0,1,1,1,0,0,1,0,0],stp [1,2,5] J,.blk 1,.code [1,0,1,0,1,1,1,0,1],.blk 0,.code [1,1]] (Svl q v i) =
 (List.length v≤strM→bif decide (i < (↑(List.length v):Int)) then (0≤i∧i < (↑(List.length v):Int))∧(((↑(List.getD v i.toNat 0).toNat:Int)!=48)=true→0≤i∧i < (↑(List.length v):Int))∧((bif (↑(List.getD v i.toNat 0).toNat:Int)!=48 then (↑(List.getD v i.toNat 0).toNat:Int)!=49 else false)=true→0≤i∧i < (↑(List.length v):Int))∧((bif bif (↑(List.getD v i.toNat 0).toNat:Int)!=48 then (↑(List.getD v i.toNat 0).toNat:Int)!=49 else false then (↑(List.getD v i.toNat 0).toNat:Int)!=120 else false)=true→0≤i∧i < (↑(List.length v):Int))∧bif bif bif bif (↑(List.getD v i.toNat 0).toNat:Int)!=48 then (↑(List.getD v i.toNat 0).toNat:Int)!=49 else false then (↑(List.getD v i.toNat 0).toNat:Int)!=120 else false then (↑(List.getD v i.toNat 0).toNat:Int)!=122 else false then K (B false) else J {sl:=[(1,.str v),(2,.own [I q.kind,I q.width,L q.chg 2 Chg.d]),(5,I (addI .i64 i 1))],h:=Heap.empty:St} else List.length v≤strM→K (B ((↑(List.length v):Int)==q.width))):=by kernel_rfl
theorem c36 [Lay] (q:Sig) (v:Str):Pure PP 36 [q.d,.str v] (B (vlOk q v)):=by
 refine pu F36 (by kernel_rfl) (of_eq (nvl q v _) (cond_intro (fun h=> ?_) fun h=>cond_intro (fun h0=> ?_) fun h0=>fun _=> ?_)) <;> unfold vlOk <;> rw [h]
 ·exact Wk.refl _
 ·rw [h0]
  simp only [cond_true,cond_false]
  refine lp (fn:=Tryz.f36) (fun i:Nat=>i≤v.length∧v.all (fun c=> !byteBad c)=(v.drop i).all (fun c=> !byteBad c)) (fun i=>Svl q v i) (fun i=>v.length - i) [1,2,5] (by kernel_rfl) (fun i hi=>of_eq (nvla q v i _ _) fun hl=>cond_intro (fun hlt=> ?_) fun hge=>fun _=> ?_) 0 ⟨Nat.zero_le _,rfl⟩
  ·have hlt:=ltI hlt
   obtain ⟨_,he⟩:=hi
   rw [add1 hlt hl,Int.toNat_natCast]
   have hin:(0:Int)≤(i:Int)∧(i:Int) < (v.length:Int):=⟨by omega,by omega⟩
   rw [all_drop hlt,show (v.getD i default:UInt8)=v.getD i 0 from rfl] at he
   refine ⟨hin,fun _=>hin,fun _=>hin,fun _=>hin,cond_intro (fun h=> ?_) fun h=> ?_⟩
   ·have h:byteBad (v.getD i 0)=true:=h
    rw [he,h]; exact Wk.refl _
   ·have h:byteBad (v.getD i 0)=false:=h
    exact Nx.mk (i+1) ⟨hlt,by rw [he,h]; rfl⟩ (by omega)
  ·rw [hi.2,List.drop_of_length_le (geI hge)]
   exact Wk.refl _
 ·rw [h0]; exact Wk.refl _
def chgBad (w:Wv) (q:Sig) (p:Option Chg) (b:Str) (x:Chg):Bool :=
 bif bif bif bif decide (x.time < 0) then true else decide (x.time > w.fin) then true else match p with | none=>false | some y=>decide (y.time≥x.time) then true else !vlOk q x.val then true else bif q.kind !=3 then x.val==b else false
def chgOk (w:Wv) (q:Sig):Option Chg→Str→List Chg→Bool
 | _,_,[]=>true
 | p,b,x::r=> !chgBad w q p b x&&chgOk w q (some x) x.val r
def sigBad (q:Sig):Bool :=
 bif bif bif bif bif decide (q.kind < 0) then true else decide (q.kind > 3) then true else decide ((q.chg.length:Int) > 20) then true else bif q.kind==0 then bif decide (q.width < 1) then true else decide (q.width > 64) else false then true else bif q.kind !=0 then q.width !=0 else false then true else false
def sigOk (w:Wv) (q:Sig):Bool:= !sigBad q&&chgOk w q none (ini q) q.chg
def gapBad (w:Wv) (p:Option Iv) (x:Iv):Bool :=
 bif bif bif decide (x.frm < 0) then true else decide (x.frm≥x.to) then true else decide (x.to > addI .i64 w.fin 1) then true else match p with | none=>false | some y=>decide (y.to≥x.frm)
def gapOk (w:Wv):Option Iv→List Iv→Bool
 | _,[]=>true
 | p,x::r=> !gapBad w p x&&gapOk w (some x) r
def smB (w:Wv):Bool:= !(bif bif bif decide ((w.sig.length:Int) > 8) then true else decide ((w.gap.length:Int) > 4) then true else decide (w.fin < 0) then true else decide (w.fin > 1099511627776))&&(w.sig.all (sigOk w)&&gapOk w none w.gap)
theorem F19:OkF 19 Tryz.f19:=⟨by kernel_rfl,by kernel_rfl,by kernel_rfl⟩
def lv19:List (List Nat × List Nat):=[([1,1,0,1,0],[1,3]),([1,1,0,1,0,0,1,0,0,1,1,1,1,0],[1,3,4,5,6]),([1,1,1,0,1,0],[1,8])]
noncomputable def nSms:List Nat→Nat→Option Ans:=scrAt []
theorem nSm [Lay] (w:Wv) (K:D→Prop):runS (En Tryz.f19) (fi Tryz.f19 K) (nSms ) lv19 200 [.code []] ⟨argSlots 0 [w.d],.empty⟩ =
 (w.sig.length≤lenM→((!decide ((↑w.sig.length:Int) > 8))=true→w.gap.length≤lenM)→bif bif bif bif decide ((↑w.sig.length:Int) > 8) then true else decide ((↑w.gap.length:Int) > 4) then true else decide (w.fin < 0) then true else decide (w.fin > 1099511627776) then K (B false) else At (En Tryz.f19) (fi Tryz.f19 K) [It.code [1,1,0,1,0],It.blk 0,It.code [1,1,1]] {sl:=[(1,.own [L w.sig 3 Sig.d,L w.gap 2 Iv.d,I w.fin]),(3,I 0)],h:=Heap.empty:St}):=by kernel_rfl
def SSm (w:Wv) (i:Int):St:=⟨[(1,.own [L w.sig 3 Sig.d,L w.gap 2 Iv.d,I w.fin]),(3,I i)],.empty⟩
noncomputable def nSmas (w:Wv) (i:Int):List Nat→Nat→Option Ans:=scrAt [([1,1,0,1,0,0,1,0,0,1,1,0],1,Ans.pure [(w.sig.getD i.toNat default).d] (.str (ini (w.sig.getD i.toNat default))))]
theorem nSma [Lay] (w:Wv) (i:Int) (J:St→Prop) (K:D→Prop):runS (En Tryz.f19) (fi Tryz.f19 K) (nSmas w i) lv19 200 [.code [1,1,0,1,0,0],stp [1,3] J,.blk 0,.code [1,1,1]] (SSm w i) =
 (w.sig.length≤lenM→bif decide (i < (↑w.sig.length:Int)) then (0≤i∧i < (↑w.sig.length:Int))∧True∧(((!bif decide ((w.sig.getD i.toNat default).kind < 0) then true else decide ((w.sig.getD i.toNat default).kind > 3))=true→(w.sig.getD i.toNat default).chg.length≤lenM)→bif bif bif bif bif decide ((w.sig.getD i.toNat default).kind < 0) then true else decide ((w.sig.getD i.toNat default).kind > 3) then true else decide ((↑(w.sig.getD i.toNat default).chg.length:Int) > 20) then true else bif (w.sig.getD i.toNat default).kind==0 then bif decide ((w.sig.getD i.toNat default).width < 1) then true else decide ((w.sig.getD i.toNat default).width > 64) else false then true else bif (w.sig.getD i.toNat default).kind !=0 then (w.sig.getD i.toNat default).width !=0 else false then K (B false) else PureW PP 35 [(w.sig.getD i.toNat default).d] [(w.sig.getD i.toNat default).d] (.str (ini (w.sig.getD i.toNat default)))∧At (En Tryz.f19) (fi Tryz.f19 K) [It.code [1,1,0,1,0,0,1,0,0,1,1,1,1,0],It.blk 2,It.blk 1,It.code [1,1,0,1,0,0,1,1],stp [1,3] J,It.blk 0,It.code [1,1,1]] {sl:=[(1,.own [L w.sig 3 Sig.d,L w.gap 2 Iv.d,I w.fin]),(3,I i),(4,.own [I (w.sig.getD i.toNat default).kind,I (w.sig.getD i.toNat default).width,L (w.sig.getD i.toNat default).chg 2 Chg.d]),(5,.str (ini (w.sig.getD i.toNat default))),(6,I 0)],h:=Heap.empty:St}) else At (En Tryz.f19) (fi Tryz.f19 K) [It.code [1,1,1,0,1,0],It.blk 4,It.code [1,1,1,1]] {sl:=[(1,.own [L w.sig 3 Sig.d,L w.gap 2 Iv.d,I w.fin]),(8,I 0)],h:=Heap.empty:St}):=by kernel_rfl
def SSm2 (w:Wv) (i:Int) (q:Sig) (k:Int) (b:Str):St:=⟨[(1,.own [L w.sig 3 Sig.d,L w.gap 2 Iv.d,I w.fin]),(3,I i),(4,.own [I q.kind,I q.width,L q.chg 2 Chg.d]),(5,.str b),(6,I k)],.empty⟩
noncomputable def nSmbs (q:Sig) (k:Int):List Nat→Nat→Option Ans:=scrAt [([1,1,0,1,0,0,1,0,0,1,1,1,1,0,0,1,0,0,1,0,0],30,Ans.pure [q.d,.str (q.chg.getD k.toNat default).val] (B (vlOk q (q.chg.getD k.toNat default).val)))]
theorem nSmb [Lay] (w:Wv) (i:Int) (q:Sig) (k:Int) (b:Str) (J J2:St→Prop) (K:D→Prop):runS (En Tryz.f19) (fi Tryz.f19 K) (nSmbs q k) lv19 200 [.code [1,1,0,1,0,0,1,0,0,1,1,1,1,0,0],stp [1,3,4,5,6] J,.blk 2,.blk 1,.code [1,1,0,1,0,0,1,1],stp [1,3] J2,.blk 0,.code [1,1,1]] (SSm2 w i q k b) =
 (q.chg.length≤lenM→bif decide (k < (↑q.chg.length:Int)) then (0≤k∧k < (↑q.chg.length:Int))∧True∧(((!bif decide ((q.chg.getD k.toNat default).time < 0) then true else decide ((q.chg.getD k.toNat default).time > w.fin))&&decide (k > 0))=true→0≤subI .i64 k 1∧subI .i64 k 1 < (↑q.chg.length:Int))∧((!bif bif decide ((q.chg.getD k.toNat default).time < 0) then true else decide ((q.chg.getD k.toNat default).time > w.fin) then true else bif decide (k > 0) then decide ((q.chg.getD (subI .i64 k 1).toNat default).time≥(q.chg.getD k.toNat default).time) else false)=true→PureW PP 36 [q.d,.str (q.chg.getD k.toNat default).val] [q.d,.str (q.chg.getD k.toNat default).val] (B (vlOk q (q.chg.getD k.toNat default).val)))∧bif bif bif bif bif decide ((q.chg.getD k.toNat default).time < 0) then true else decide ((q.chg.getD k.toNat default).time > w.fin) then true else bif decide (k > 0) then decide ((q.chg.getD (subI .i64 k 1).toNat default).time≥(q.chg.getD k.toNat default).time) else false then true else !vlOk q (q.chg.getD k.toNat default).val then true else bif q.kind !=3 then (q.chg.getD k.toNat default).val==b else false then K (B false) else J {sl:=[(1,.own [L w.sig 3 Sig.d,L w.gap 2 Iv.d,I w.fin]),(3,I i),(4,.own [I q.kind,I q.width,L q.chg 2 Chg.d]),(5,.str (q.chg.getD k.toNat default).val),(6,I (addI .i64 k 1))],h:=Heap.empty:St} else J2 {sl:=[(1,.own [L w.sig 3 Sig.d,L w.gap 2 Iv.d,I w.fin]),(3,I (addI .i64 i 1))],h:=Heap.empty:St}):=by kernel_rfl
def SSm3 (w:Wv) (i:Int):St:=⟨[(1,.own [L w.sig 3 Sig.d,L w.gap 2 Iv.d,I w.fin]),(8,I i)],.empty⟩
noncomputable def nSmcs:List Nat→Nat→Option Ans:=scrAt []
theorem nSmc [Lay] (w:Wv) (i:Int) (J:St→Prop) (K:D→Prop):runS (En Tryz.f19) (fi Tryz.f19 K) (nSmcs ) lv19 200 [.code [1,1,1,0,1,0,0],stp [1,8] J,.blk 4,.code [1,1,1,1]] (SSm3 w i) =
 (w.gap.length≤lenM→bif decide (i < (↑w.gap.length:Int)) then (0≤i∧i < (↑w.gap.length:Int))∧True∧(((!bif bif decide ((w.gap.getD i.toNat default).frm < 0) then true else decide ((w.gap.getD i.toNat default).frm≥(w.gap.getD i.toNat default).to) then true else decide ((w.gap.getD i.toNat default).to > addI .i64 w.fin 1))&&decide (i > 0))=true→0≤subI .i64 i 1∧subI .i64 i 1 < (↑w.gap.length:Int))∧bif bif bif bif decide ((w.gap.getD i.toNat default).frm < 0) then true else decide ((w.gap.getD i.toNat default).frm≥(w.gap.getD i.toNat default).to) then true else decide ((w.gap.getD i.toNat default).to > addI .i64 w.fin 1) then true else bif decide (i > 0) then decide ((w.gap.getD (subI .i64 i 1).toNat default).to≥(w.gap.getD i.toNat default).frm) else false then K (B false) else J {sl:=[(1,.own [L w.sig 3 Sig.d,L w.gap 2 Iv.d,I w.fin]),(8,I (addI .i64 i 1))],h:=Heap.empty:St} else K (B true)):=by kernel_rfl
theorem sigBad_width {q:Sig} (h:sigBad q=false):q.width≤64∧q.chg.length≤20∧0≤q.kind∧q.kind≤3:=by
 unfold sigBad at h
 simp only [Bool.cond_eq_ite] at h
 by_cases h1:q.kind < 0
 ·simp [h1] at h
 by_cases h2:q.kind > 3
 ·simp [h1,h2] at h
 by_cases h3:(q.chg.length:Int) > 20
 ·simp [h1,h2,h3] at h
 refine ⟨?_,by omega,by omega,by omega⟩
 by_cases h4:q.kind=0
 ·by_cases h5:q.width < 1
  ·simp [h1,h2,h3,h4,h5] at h
  ·by_cases h6:q.width > 64
   ·simp [h3,h4,h5,h6] at h
   ·omega
 ·by_cases h5:q.width=0
  ·omega
  ·simp [h1,h2,h3,h4,h5] at h
theorem c19 [Lay] (w:Wv):Pure PP 19 [w.d] (B (smB w)):=by
 refine pu F19 (by kernel_rfl) (of_eq (nSm w _) fun hl _=>cond_intro (fun h=> ?_) fun h=> ?_) <;> unfold smB <;> rw [h]
 ·exact Wk.refl _
 simp only [Bool.not_false,Bool.true_and]
 refine lp (fn:=Tryz.f19) (fun i:Nat=>i≤w.sig.length∧w.sig.all (sigOk w)=(w.sig.drop i).all (sigOk w)) (fun i=>SSm w i) (fun i=>w.sig.length - i) [1,3] (by kernel_rfl) (fun i hi=>of_eq (nSma w i _ _) fun _=>cond_intro (fun hlt=> ?_) fun hge=> ?_) 0 ⟨Nat.zero_le _,rfl⟩
 ·have hlt:=ltI hlt
  obtain ⟨_,he⟩:=hi
  rw [Int.toNat_natCast]
  rw [all_drop hlt] at he
  generalize w.sig.getD i default=q at he ⊢
  refine ⟨⟨by omega,by omega⟩,trivial,fun hx=>cond_intro (fun h=> ?_) fun h=> ?_⟩
  ·have hb:sigBad q=true:=by unfold sigBad; rw [h]; rfl
   rw [he]; unfold sigOk; rw [hb]; exact Wk.refl _
  ·have hb:sigBad q=false:=by unfold sigBad; rw [h]; rfl
   obtain ⟨h1,h2,h3,h4⟩:=sigBad_width hb
   have hcl:q.chg.length≤lenM:=by unfold lenM; omega
   refine ⟨PureW.mk (c35 q (by omega)),?_⟩
   refine lp (fn:=Tryz.f19) (fun z:Nat × Str=>z.1≤q.chg.length∧chgOk w q none (ini q) q.chg=chgOk w q (prevX q.chg z.1) z.2 (q.chg.drop z.1)) (fun z=>SSm2 w i q z.1 z.2) (fun z=>q.chg.length - z.1) [1,3,4,5,6] (by kernel_rfl) (fun z hz=>of_eq (nSmb w i q z.1 z.2 _ _ _) fun _=> ?_) (0,ini q) ⟨Nat.zero_le _,rfl⟩
   obtain ⟨k,u⟩:=z
   obtain ⟨_,hc⟩:=hz
   simp only at hc ⊢
   refine cond_intro (fun hlt2=> ?_) fun hge=> ?_
   ·have hlt2:=ltI hlt2
    rw [drop_cons _ _ hlt2] at hc
    simp only [chgOk] at hc
    have hp:0 < k→subI .i64 (k:Int) 1=((k - 1:Nat):Int):=fun h0=>lastI h0 (by omega)
    rw [add1 hlt2 hcl,Int.toNat_natCast]
    have hbad:(bif bif bif bif decide ((q.chg.getD k default).time < 0) then true else decide ((q.chg.getD k default).time > w.fin) then true else bif decide ((k:Int) > 0) then decide ((q.chg.getD (subI .i64 (k:Int) 1).toNat default).time≥(q.chg.getD k default).time) else false then true else !vlOk q (q.chg.getD k default).val then true else bif q.kind !=3 then (q.chg.getD k default).val==u else false)=chgBad w q (prevX q.chg k) u (q.chg.getD k default):=by
     unfold chgBad
     cases k with
     | zero=>rfl
     | succ k=>rw [hp (by omega),Int.toNat_natCast,decide_eq_true (show ((k+1:Nat):Int) > 0 by omega)]; rfl
    refine ⟨⟨by omega,by omega⟩,trivial,fun h=> ?_,fun _=>PureW.mk (c36 _ _),?_⟩
    ·have h0:0 < k:=by simp at h; omega
     rw [hp h0]; omega
    ·rw [hbad]
     refine cond_intro (fun h=> ?_) fun h=> ?_
     ·rw [h] at hc
      rw [he]; unfold sigOk; rw [hb,hc]; exact Wk.refl _
     ·rw [h] at hc
      exact Nx.mk (k+1,(q.chg.getD k default).val) ⟨hlt2,hc⟩ (by simp only; omega)
   ·rw [List.drop_of_length_le (geI hge)] at hc
    have hs:sigOk w q=true:=by unfold sigOk; rw [hb,hc]; rfl
    rw [add1 hlt hl]
    exact Nx.mk (i+1) ⟨hlt,by rw [he,hs]; rfl⟩ (by omega)
 ·have ha:w.sig.all (sigOk w)=true:=by rw [hi.2,List.drop_of_length_le (geI hge)]; rfl
  rw [ha]
  simp only [Bool.true_and]
  refine lp (fn:=Tryz.f19) (fun i:Nat=>i≤w.gap.length∧gapOk w none w.gap=gapOk w (prevX w.gap i) (w.gap.drop i)) (fun i=>SSm3 w i) (fun i=>w.gap.length - i) [1,8] (by kernel_rfl) (fun i hi=>of_eq (nSmc w i _ _) fun hgl=>cond_intro (fun hlt=> ?_) fun hge=> ?_) 0 ⟨Nat.zero_le _,rfl⟩
  ·have hlt:=ltI hlt
   obtain ⟨_,he⟩:=hi
   have hp:0 < i→subI .i64 (i:Int) 1=((i - 1:Nat):Int):=fun h0=>lastI h0 (by omega)
   rw [drop_cons _ _ hlt] at he
   simp only [gapOk] at he
   rw [add1 hlt hgl,Int.toNat_natCast]
   have hbad:(bif bif bif decide ((w.gap.getD i default).frm < 0) then true else decide ((w.gap.getD i default).frm≥(w.gap.getD i default).to) then true else decide ((w.gap.getD i default).to > addI .i64 w.fin 1) then true else bif decide ((i:Int) > 0) then decide ((w.gap.getD (subI .i64 (i:Int) 1).toNat default).to≥(w.gap.getD i default).frm) else false)=gapBad w (prevX w.gap i) (w.gap.getD i default):=by
    unfold gapBad
    cases i with
    | zero=>rfl
    | succ i=>rw [hp (by omega),Int.toNat_natCast,decide_eq_true (show ((i+1:Nat):Int) > 0 by omega)]; rfl
   refine ⟨⟨by omega,by omega⟩,trivial,fun h=> ?_,?_⟩
   ·have h0:0 < i:=by simp at h; omega
    rw [hp h0]; omega
   ·rw [hbad]
    refine cond_intro (fun h=> ?_) fun h=> ?_
    ·rw [h] at he; rw [he]; exact Wk.refl _
    ·rw [h] at he; exact Nx.mk (i+1) ⟨hlt,he⟩ (by omega)
  ·rw [hi.2,List.drop_of_length_le (geI hge)]; exact Wk.refl _
theorem chgOk_inc {w : Wv} {q : Sig} : ∀ {l : List Chg} {p : Option Chg} {b : Str} {t : Int}, chgOk w q p b l = true → (match p with | none => t = -1 | some y => t = y.time) → Inc t l
  | [], _, _, _, _, _ => trivial
  | x :: r, p, b, t, h, ht => by
    simp only [chgOk, Bool.and_eq_true, Bool.not_eq_true'] at h
    obtain ⟨h1, h2⟩ := h
    refine ⟨?_, chgOk_inc h2 rfl⟩
    unfold chgBad at h1
    by_cases h0 : x.time < 0
    · rw [decide_eq_true h0] at h1; cases h1
    rw [decide_eq_false h0] at h1
    cases h3 : decide (x.time > w.fin) with
    | true => rw [h3] at h1; cases h1
    | false =>
      rw [h3] at h1
      cases p with
      | none => simp only at ht; omega
      | some y =>
        simp only at ht
        by_cases h4 : y.time ≥ x.time
        · simp [h4] at h1
        · omega
structure SmOk (w:Wv):Prop where
 fin:0≤w.fin∧w.fin≤1099511627776
 len:w.sig.length≤8
 sig:∀ q∈w.sig,q.chg.length≤20∧q.width≤64∧Inc (-1) q.chg
theorem smB_ok [Lay] {w : Wv} (h : smB w = true) : SmOk w := by
  unfold smB at h
  simp only [Bool.and_eq_true, Bool.not_eq_true'] at h
  obtain ⟨h1, h2, _⟩ := h
  by_cases c1 : (w.sig.length : Int) > 8
  · rw [decide_eq_true c1] at h1; cases h1
  rw [decide_eq_false c1] at h1
  cases c2 : decide ((w.gap.length : Int) > 4) with
  | true => rw [c2] at h1; cases h1
  | false =>
    rw [c2] at h1
    by_cases c3 : w.fin < 0
    · rw [decide_eq_true c3] at h1; cases h1
    rw [decide_eq_false c3] at h1
    by_cases c4 : w.fin > 1099511627776
    · rw [decide_eq_true c4] at h1; cases h1
    refine ⟨⟨by omega, by omega⟩, by omega, fun q hq => ?_⟩
    have := List.all_eq_true.1 h2 q hq
    unfold sigOk at this
    simp only [Bool.and_eq_true, Bool.not_eq_true'] at this
    obtain ⟨d1, d2, _⟩ := sigBad_width this.1
    exact ⟨d2, d1, chgOk_inc this.2 rfl⟩
end Go.Proofs.YtiekphbkomddfaaGreatDoor.S1
namespace Go.Proofs.YtiekphbkomddfaaGreatDoor.S1
open Go Go.Ab Go.Proofs
end Go.Proofs.YtiekphbkomddfaaGreatDoor.S1
namespace Go.Proofs.YtiekphbkomddfaaGreatDoor.S1
open Go Go.Ab Go.Proofs
instance {ds:List D} [h:DS ds]:DD (.ep ds):=⟨h.p⟩
def hR:Heap:=⟨fun _=>none,4,fun _=>none,1,fun _=>none⟩
theorem over_eq {lim c:Int} (h0:0≤c) (h:c≤1000000):over lim c=decide (lim≥0∧c+1 > lim):=by
 unfold over
 rw [add64 (by omega) (by omega)]
 by_cases h1:lim≥0
 ·rw [decide_eq_true h1]; simp [h1]
 ·rw [decide_eq_false h1]; simp [h1]
theorem cut_cons {at_ to:Int} {x:Chg} {l:List Chg} (h:Inc at_ (x::l)) (ht:x.time≤to):cut (x::l) at_ to=x::cut l x.time to:=by
 obtain ⟨h1,h2⟩:=h
 have hgt:=Inc.gt h2
 simp only [cut,List.filter_cons,decide_eq_true (show x.time > at_ by omega),decide_eq_true ht,Bool.and_self,if_true]
 congr 1
 refine List.filter_congr fun y hy=> ?_
 have:=hgt y hy
 rw [decide_eq_true (show y.time > at_ by omega),decide_eq_true (show y.time > x.time by omega)]
theorem cut_stop {at_ to:Int} {x:Chg} {l:List Chg} (h:Inc at_ (x::l)) (ht:x.time > to):cut (x::l) at_ to=[]:=by
 unfold cut
 rw [List.filter_eq_nil_iff]
 intro y hy
 have:to < y.time:=by
  rcases List.mem_cons.1 hy with rfl | hy
  ·exact ht
  ·have:=Inc.gt h.2 y hy; omega
 simp; omega
theorem itR_plain (to lim : Int) : ∀ (b : List Chg) (at_ c : Int) (out : List Sp), Inc at_ b → 0 ≤ c → c + b.length ≤ 999999 →
    ((lim < 0 ∨ c + (cut b at_ to).length + 1 ≤ lim) → itR lim to b c out = ((cut b at_ to).foldl (fun o x => addS o x.time x.val) out, c + (cut b at_ to).length + 1, 0)) ∧
    (¬ (lim < 0 ∨ c + (cut b at_ to).length + 1 ≤ lim) → (itR lim to b c out).2.2 = 14)
  | [], at_, c, out, _, h0, hl => by
    simp only [List.length_nil] at hl
    have ho := over_eq (lim := lim) h0 (by omega)
    have ha : addI .i64 c 1 = c + 1 := add64 (by omega) (by omega)
    simp only [itR, ha, ho, cut, List.filter_nil, List.length_nil, List.foldl_nil]
    refine ⟨fun h => ?_, fun h => ?_⟩
    · rw [decide_eq_false (by omega)]; simp
    · rw [decide_eq_true (by omega)]; rfl
  | x :: l, at_, c, out, hi, h0, hl => by
    simp only [List.length_cons] at hl
    have ho := over_eq (lim := lim) h0 (by omega)
    have ha : addI .i64 c 1 = c + 1 := add64 (by omega) (by omega)
    have hi2 := hi
    obtain ⟨h1, h2⟩ := hi2
    simp only [itR, ha, ho]
    by_cases ht : x.time > to
    · rw [cut_stop hi ht, decide_eq_true ht]
      simp only [List.length_nil, List.foldl_nil, cond_true]
      refine ⟨fun h => ?_, fun h => ?_⟩
      · rw [decide_eq_false (by omega)]; simp
      · rw [decide_eq_true (by omega)]; rfl
    · rw [cut_cons hi (by omega), decide_eq_false ht]
      simp only [List.length_cons, List.foldl_cons, cond_false]
      have ih := itR_plain to lim l x.time (c + 1) (addS out x.time x.val) h2 (by omega) (by omega)
      refine ⟨fun h => ?_, fun h => ?_⟩
      · rw [decide_eq_false (by omega)]
        simp only [cond_false]
        rw [ih.1 (by omega)]
        congr 2
        push_cast; omega
      · by_cases hc : lim ≥ 0 ∧ c + 1 > lim
        · rw [decide_eq_true hc]; rfl
        · rw [decide_eq_false hc]
          simp only [cond_false]
          exact ih.2 (by omega)
theorem cut_aft (l:List Chg) (frm to:Int):cut (aft l frm) frm to=cut l frm to:=by
 unfold cut aft
 rw [List.filter_filter]
 refine List.filter_congr fun x _=> ?_
 cases decide (x.time > frm) <;> simp
theorem aft_len (l:List Chg) (frm:Int):(aft l frm).length≤l.length:=List.length_filter_le _ _
structure Ask (w:Wv) (sig frm to:Int):Prop where
 hsig:0≤sig∧sig < (w.sig.length:Int)
 hkind:(sigOf w sig).kind≠3
 hfrm:0≤frm
 hle:frm≤to
 hto:to≤w.fin
theorem SmOk.at {w:Wv} (h:SmOk w) {sig:Int} (hs:0≤sig∧sig < (w.sig.length:Int)):(sigOf w sig).chg.length≤20∧(sigOf w sig).width≤64∧Inc (-1) (sigOf w sig).chg:=by
 have:sig.toNat < w.sig.length:=by omega
 refine h.sig _ ?_
 unfold sigOf
 rw [List.getD_eq_getElem?_getD,List.getElem?_eq_getElem this]
 exact List.getElem_mem this
def ofN (w:Wv) (sig frm to:Int):Int:=(cut (sigOf w sig).chg frm to).length+3
theorem SmOk.of {w:Wv} (h:SmOk w):∀ q∈w.sig,q.chg.length≤900∧q.width≤1000000∧Inc (-1) q.chg:=fun q hq=>by
 obtain ⟨h1,h2,h3⟩:=h.sig q hq
 exact ⟨by omega,by omega,h3⟩
end Go.Proofs.YtiekphbkomddfaaGreatDoor.S1
namespace Go.Proofs.YtiekphbkomddfaaGreatDoor.S1
open Go Go.Ab Go.Proofs
open Go.ChangeShapes Go.WideShapes Go.ChangeAt Go.RowKit Go.Joins
abbrev any {α:Type}:α→Prop:=fun _=>True
theorem rc {P:Program} {total:Nat} {f:Field} {fs:List Field} {off off' t:Nat} {α β:Type} {enc:α→D} {encF:β→List D} (h:Reads P t enc any) (k:ReadsF P total fs off' encF any) (ht:f.type=t) (ho:f.offset=off) (hs:off+P.cellsOf t=off') :
  ReadsF P total (f::fs) off (fun x:α × β=>cellsD (enc x.1)++encF x.2) any:=by
 subst ht; subst hs
 have hc:=ReadsF.cons h k ho
 exact ⟨hc.size,hc.ones,hc.data,fun a b=>by obtain ⟨x,_,hr⟩:=hc.it a b; exact ⟨x,trivial,hr⟩⟩
theorem rn {P:Program} {total:Nat}:ReadsF P total [] total (fun _:Unit=>[]) any:=ReadsF.nil
theorem cI:Tryz.prog.cellsOf 3=1:=by kernel_rfl
theorem cStr:Tryz.prog.cellsOf 9=1:=by kernel_rfl
theorem cChg:Tryz.prog.cellsOf 49=2:=by kernel_rfl
theorem cChgs:Tryz.prog.cellsOf 45=1:=by kernel_rfl
theorem cSig:Tryz.prog.cellsOf 47=3:=by kernel_rfl
theorem cSigs:Tryz.prog.cellsOf 26=1:=by kernel_rfl
theorem cGap:Tryz.prog.cellsOf 76=2:=by kernel_rfl
theorem cGaps:Tryz.prog.cellsOf 27=1:=by kernel_rfl
theorem cWv:Tryz.prog.cellsOf 29=3:=by kernel_rfl
theorem rI:Reads Tryz.prog 3 (fun n:Int=>I n) any:=(Reads.int Tryz.underlying3 cI).map (fun n=>n) (fun _=>rfl) (fun n=>⟨n,rfl⟩) fun _ _=>trivial
theorem rStr:Reads Tryz.prog 9 (fun s:Str=> .str s) any:=(Reads.str Tryz.underlying9 cStr).map (fun n=>n) (fun _=>rfl) (fun n=>⟨n,rfl⟩) fun _ _=>trivial
theorem rsl {e t sz:Nat} {α:Type} [Inhabited α] {enc:α→D} (h:Reads Tryz.prog e enc any) (ht:Tryz.prog.underlying t=some (.slice e)) (hc:Tryz.prog.cellsOf t=1) (hp:Tryz.prog.cellsOf e=sz) (h0:0 < sz):Reads Tryz.prog t (fun es:List α=>L es sz enc) any:=by
 have h:=Reads.slice h ht hc (by rw [hp]; exact h0)
 rw [hp] at h
 exact h.map (fun n=>n) (fun _=>rfl) (fun n=>⟨n,rfl⟩) fun _ _=>trivial
theorem rChg:Reads Tryz.prog 49 Chg.d any:=by
 refine (Reads.struct (ok:=any) Tryz.underlying49 ?_).map (fun x:Int × Str × Unit=>(⟨x.1,x.2.1⟩:Chg)) (fun _=>rfl) (fun b=>⟨(b.time,b.val,()),rfl⟩) fun _ _=>trivial
 rw [cChg]
 exact rc rI (rc rStr rn rfl rfl (by rw [cStr])) rfl rfl (by rw [cI])
theorem rGap:Reads Tryz.prog 76 Iv.d any:=by
 refine (Reads.struct (ok:=any) Tryz.underlying76 ?_).map (fun x:Int × Int × Unit=>(⟨x.1,x.2.1⟩:Iv)) (fun _=>rfl) (fun b=>⟨(b.frm,b.to,()),rfl⟩) fun _ _=>trivial
 rw [cGap]
 exact rc rI (rc rI rn rfl rfl (by rw [cI])) rfl rfl (by rw [cI])
theorem rChgs:Reads Tryz.prog 45 (fun es:List Chg=>L es 2 Chg.d) any:=rsl rChg Tryz.underlying45 cChgs cChg (by decide)
theorem rGaps:Reads Tryz.prog 27 (fun es:List Iv=>L es 2 Iv.d) any:=rsl rGap Tryz.underlying27 cGaps cGap (by decide)
theorem rSig:Reads Tryz.prog 47 Sig.d any:=by
 refine (Reads.struct (ok:=any) Tryz.underlying47 ?_).map (fun x:Int × Int × List Chg × Unit=>(⟨x.1,x.2.1,x.2.2.1⟩:Sig)) (fun _=>rfl) (fun b=>⟨(b.kind,b.width,b.chg,()),rfl⟩) fun _ _=>trivial
 rw [cSig]
 exact rc rI (rc rI (rc rChgs rn rfl rfl (by rw [cChgs])) rfl rfl (by rw [cI])) rfl rfl (by rw [cI])
theorem rSigs:Reads Tryz.prog 26 (fun es:List Sig=>L es 3 Sig.d) any:=rsl rSig Tryz.underlying26 cSigs cSig (by decide)
theorem rWv:Reads Tryz.prog 29 Wv.d any:=by
 refine (Reads.struct (ok:=any) Tryz.underlying29 ?_).map (fun x:List Sig × List Iv × Int × Unit=>(⟨x.1,x.2.1,x.2.2.1⟩:Wv)) (fun _=>rfl) (fun b=>⟨(b.sig,b.gap,b.fin,()),rfl⟩) fun _ _=>trivial
 rw [cWv]
 exact rc rSigs (rc rGaps (rc rI rn rfl rfl (by rw [cI])) rfl rfl (by rw [cGaps])) rfl rfl (by rw [cSigs])
theorem own:ownKnob Tryz.prog.godebug=none:=by kernel_rfl
theorem laid:laidOutB Tryz.prog=true:=by kernel_rfl
theorem trod_cons {P : Program} {H : Type} {en : TypeId × Value → H} {W : World} {b : Nat} {sp : Nat → Bool} {hd : Bool} {t : TypeId} {ts : List TypeId} {vs : List Value} {ds : List (DataW H)} {ps : List MemPlace} (h : DataW.TrodAll en P W b sp hd (t :: ts) vs ds ps) :
    ∃ v r d e p q, vs = v :: r ∧ ds = d :: e ∧ DataW.Trod en P W b sp hd t v d p ∧ DataW.TrodAll en P W b sp hd ts r e q := by
  cases vs with
  | nil => simp [DataW.TrodAll] at h
  | cons v r => cases ds with
    | nil => simp [DataW.TrodAll] at h
    | cons d e =>
      obtain ⟨p, q, h1, h2, _⟩ := h
      exact ⟨v, r, d, e, p, q, rfl, rfl, h1, h2⟩
theorem trod_nil {P : Program} {H : Type} {en : TypeId × Value → H} {W : World} {b : Nat} {sp : Nat → Bool} {hd : Bool} {vs : List Value} {ds : List (DataW H)} {ps : List MemPlace} (h : DataW.TrodAll en P W b sp hd [] vs ds ps) : vs = [] ∧ ds = [] := by
  cases vs with
  | nil => cases ds with
    | nil => exact ⟨rfl, rfl⟩
    | cons d e => simp [DataW.TrodAll] at h
  | cons v r => simp [DataW.TrodAll] at h
end Go.Proofs.YtiekphbkomddfaaGreatDoor.S1
namespace Go.Proofs.YtiekphbkomddfaaGreatDoor.S1
open Go Go.Ab Go.Proofs
def inP (t:Int) (x:Iv):Bool:=bif decide (x.frm≤t) then decide (t≤x.to) else false
def inI (l:List Iv) (t:Int):Bool:=decide (0≤t)&&(decide (t≤1099511627776)&&l.any (inP t))
def bdL (x:Iv):Int:=if 0 > x.frm then 0 else x.frm
def bdR (x:Iv):Int:=if 1099511627776 < x.to then 1099511627776 else x.to
def insC:List Int→Int→List Int
 | [],n=>[n]
 | x::r,n=>if x < n then x::insC r n else if x=n then x::r else n::x::r
end Go.Proofs.YtiekphbkomddfaaGreatDoor.S1
namespace Go.Proofs.YtiekphbkomddfaaGreatDoor.S1
open Go Go.Ab Go.Proofs
def cutS (out:List Int) (x:Iv):List Int:=bif decide (bdL x≤bdR x) then insC (insC out (bdL x)) (addI .i64 (bdR x) 1) else out
def cutsR (a b:List Iv):List Int:=(a++b).foldl cutS [0,1099511627777]
theorem insC_len : ∀ (l : List Int) (n : Int), l.length ≤ (insC l n).length ∧ (insC l n).length ≤ l.length + 1
  | [], _ => by simp [insC]
  | x :: r, n => by
    simp only [insC]
    split
    · have := insC_len r n
      simp only [List.length_cons]; omega
    · split <;> simp
theorem cutsR_len (a b : List Iv) : 2 ≤ (cutsR a b).length ∧ (cutsR a b).length ≤ 2 + 2 * (a ++ b).length := by
  unfold cutsR
  suffices h : ∀ (l : List Iv) (out : List Int), out.length ≤ (l.foldl cutS out).length ∧ (l.foldl cutS out).length ≤ out.length + 2 * l.length from h (a ++ b) [0, 1099511627777]
  intro l
  induction l with
  | nil => intro out; simp
  | cons x r ih =>
    intro out
    rw [List.foldl_cons]
    have := ih (cutS out x)
    have h3 : out.length ≤ (cutS out x).length ∧ (cutS out x).length ≤ out.length + 2 := by
      unfold cutS
      have h1 := insC_len out (bdL x)
      have h2 := insC_len (insC out (bdL x)) (addI .i64 (bdR x) 1)
      cases decide (bdL x ≤ bdR x) <;> simp only [cond_true, cond_false] <;> omega
    simp only [List.length_cons]
    omega
def okR (rule:Int) (x y:Bool):Bool:=bif rule==2 then (bif x then !y else false) else bif rule==1 then (bif x then y else false) else (bif x then true else y)
def pushI (out:List Iv) (f t:Int):List Iv:=if out≠[]∧(out.getD (out.length - 1) default).to=subI .i64 f 1 then out.set (out.length - 1) ⟨(out.getD (out.length - 1) default).frm,subI .i64 t 1⟩ else out++[⟨f,subI .i64 t 1⟩]
def cmbS (a b:List Iv) (rule:Int):List Int→List Iv→List Iv
 | f::t::r,out=>cmbS a b rule (t::r) (bif okR rule (inI a f) (inI b f) then pushI out f t else out)
 | _,out=>out
theorem pushI_len (out:List Iv) (f t:Int):(pushI out f t).length≤out.length+1:=by
 unfold pushI
 split <;> simp
theorem cmbS_len (a b : List Iv) (rule : Int) : ∀ (c : List Int) (out : List Iv), (cmbS a b rule c out).length ≤ out.length + c.length
  | [], _ => by simp [cmbS]
  | [_], _ => by simp [cmbS]
  | f :: t :: r, out => by
    simp only [cmbS]
    have h1 := cmbS_len a b rule (t :: r) (bif okR rule (inI a f) (inI b f) then pushI out f t else out)
    have h2 : (bif okR rule (inI a f) (inI b f) then pushI out f t else out).length ≤ out.length + 1 := by
      cases okR rule (inI a f) (inI b f)
      · simp
      · exact pushI_len out f t
    simp only [List.length_cons] at h1 ⊢
    omega
end Go.Proofs.YtiekphbkomddfaaGreatDoor.S1
namespace Go.Proofs.YtiekphbkomddfaaGreatDoor.S1
open Go Go.Ab Go.Proofs
def Vl:Int→Option Str→List Sp→Prop
 | _,_,[]=>True
 | f,p,x::r=>x.frm=f∧0≤f∧f≤x.to∧x.to≤1099511627776∧p≠some x.val∧Vl (x.to+1) (some x.val) r
def atL:List Sp→Int→Str
 | [],_=>[]
 | x::r,t=>if t≤x.to then x.val else atL r t
theorem Vl.chk : ∀ {l : List Sp} {p : Option Sp} {f : Int}, (match p with | none => True | some y => f = y.to + 1) → Vl f (p.map Sp.val) l → S1.chk p l = true
  | [], _, _, _, _ => rfl
  | x :: r, p, f, hp, ⟨h1, h2, h3, h4, h5, h6⟩ => by
    simp only [S1.chk, Bool.and_eq_true]
    refine ⟨?_, Vl.chk (p := some x) rfl h6⟩
    unfold okN
    cases p with
    | none => rw [decide_eq_false (by omega)]; rfl
    | some y =>
      simp only at hp
      rw [decide_eq_false (by omega)]
      simp only
      rw [add64 (a := y.to) (b := 1) (by omega) (by omega)]
      have : (x.val == y.val) = false := by
        rw [beq_eq_false_iff_ne]
        intro e2
        exact h5 (by rw [e2]; rfl)
      rw [this, show (x.frm != y.to + 1) = false by rw [h1, hp]; simp]
      rfl
theorem lastSp_cons (x y:Sp) (r:List Sp):lastSp (x::y::r)=lastSp (y::r):=by
 unfold lastSp
 simp [List.getD]
theorem Vl.last : ∀ {l : List Sp} {f : Int} {p : Option Str}, Vl f p l → l ≠ [] → f ≤ (lastSp l).to ∧ (lastSp l).to ≤ 1099511627776
  | [x], _, _, ⟨_, _, h3, h4, _⟩, _ => ⟨h3, h4⟩
  | x :: y :: r, f, _, ⟨_, _, h3, _, _, h6⟩, _ => by
    have := Vl.last h6 (by simp)
    rw [lastSp_cons]; omega
theorem Vl.valid {l : List Sp} {f : Int} (h : Vl f none l) (hne : l ≠ []) : validL l = true := by
  have hl := h.last hne
  have hc : S1.chk none l = true := Vl.chk (p := none) trivial h
  cases l with
  | nil => exact absurd rfl hne
  | cons x r =>
    obtain ⟨h1, h2, _⟩ := h
    unfold validL
    rw [hc, show (((x :: r).length : Int) == 0) = false by simp; omega, decide_eq_false (show ¬ ((x :: r).getD 0 default).frm < 0 by simp; omega), decide_eq_false (show ¬ (lastSp (x :: r)).to > 1099511627776 by omega)]
    rfl
def seg (to:Int):Int→Str→List Chg→List Sp
 | f,v,[]=>[⟨f,to,v⟩]
 | f,v,x::r=>if v=x.val then seg to f v r else ⟨f,x.time - 1,v⟩::seg to x.time x.val r
theorem seg_fold (to : Int) : ∀ (l : List Chg) (a : List Sp) (f e : Int) (v : Str), 0 ≤ f → Inc f l → (∀ x ∈ l, x.time ≤ 1099511627776) → lastTo (l.foldl (fun o x => addS o x.time x.val) (a ++ [⟨f, e, v⟩])) to = a ++ seg to f v l
  | [], a, f, e, v, _, _, _ => by
    simp only [List.foldl_nil, seg]
    rw [lastTo_snoc]
  | x :: r, a, f, e, v, h0, ⟨h1, h2⟩, hb => by
    have hb' : ∀ y ∈ r, y.time ≤ 1099511627776 := fun y hy => hb y (List.mem_cons_of_mem _ hy)
    have hx := hb x (List.mem_cons_self ..)
    rw [List.foldl_cons, addS_snoc]
    simp only [seg]
    by_cases hv : v = x.val
    · rw [if_pos hv, if_pos hv]
      exact seg_fold to r a f e v h0 (h2.mono (by omega)) hb'
    · rw [if_neg hv, if_neg hv, sub64 (by omega) (by omega)]
      have := seg_fold to r (a ++ [⟨f, x.time - 1, v⟩]) x.time 0 x.val (by omega) h2 hb'
      rw [this]
      simp only [List.append_assoc, List.singleton_append]
theorem codeL_seg {v:Str} {l:List Chg} {f to:Int} (h0:0≤f) (hi:Inc f l) (hb:∀ x∈l,x.time≤1099511627776):codeL v l f to=seg to f v l:=by
 unfold codeL
 exact seg_fold to l [] f 0 v h0 hi hb
theorem seg_ne (to : Int) : ∀ (l : List Chg) (f : Int) (v : Str), seg to f v l ≠ []
  | [], _, _ => by simp [seg]
  | x :: r, f, v => by
    simp only [seg]
    split
    · exact seg_ne to r f v
    · simp
theorem seg_vl {to : Int} (ht : to ≤ 1099511627776) : ∀ {l : List Chg} {f : Int} {v : Str} {p : Option Str}, 0 ≤ f → f ≤ to → Inc f l → (∀ x ∈ l, x.time ≤ to) → p ≠ some v → Vl f p (seg to f v l)
  | [], f, v, p, h0, hf, _, _, hp => ⟨rfl, h0, hf, ht, hp, trivial⟩
  | x :: r, f, v, p, h0, hf, ⟨h1, h2⟩, hb, hp => by
    have hb' : ∀ y ∈ r, y.time ≤ to := fun y hy => hb y (List.mem_cons_of_mem _ hy)
    have hx := hb x (List.mem_cons_self ..)
    simp only [seg]
    split
    · exact seg_vl ht h0 hf (h2.mono (by omega)) hb' hp
    · rename_i hv
      refine ⟨rfl, h0, ?_, ?_, hp, ?_⟩
      · show f ≤ x.time - 1
        omega
      · show x.time - 1 ≤ _
        omega
      · show Vl (x.time - 1 + 1) (some v) _
        rw [show x.time - 1 + 1 = x.time by omega]
        exact seg_vl ht (by omega) hx h2 hb' (fun e => hv (Option.some.inj e))
theorem lastSp_cons' (x:Sp) {l:List Sp} (h:l≠[]):lastSp (x::l)=lastSp l:=by
 cases l with
 | nil=>exact absurd rfl h
 | cons y r=>exact lastSp_cons x y r
theorem seg_last (to : Int) : ∀ (l : List Chg) (f : Int) (v : Str), (lastSp (seg to f v l)).to = to
  | [], _, _ => rfl
  | x :: r, f, v => by
    simp only [seg]
    split
    · exact seg_last to r f v
    · rw [lastSp_cons' _ (seg_ne to r _ _)]
      exact seg_last to r _ _
theorem Vl.head {l:List Sp} {f:Int} {p:Option Str} (h:Vl f p l) (hne:l≠[]):(l.getD 0 default).frm=f:=by
 cases l with
 | nil=>exact absurd rfl hne
 | cons x r=>exact h.1
theorem seg_at (to : Int) : ∀ (l : List Chg) (f : Int) (v : Str) (t : Int), f ≤ t → t ≤ to → Inc f l → (∀ x ∈ l, x.time ≤ to) → atL (seg to f v l) t = valAt v l t
  | [], f, v, t, h0, h1, _, _ => by
    simp only [seg, atL, valAt, List.foldl_nil]
    rw [if_pos h1]
  | x :: r, f, v, t, h0, h1, ⟨g1, g2⟩, hb => by
    have hb' : ∀ y ∈ r, y.time ≤ to := fun y hy => hb y (List.mem_cons_of_mem _ hy)
    rw [valAt_cons]
    simp only [seg]
    split
    · rename_i hv
      rw [seg_at to r f v t h0 h1 (g2.mono (by omega)) hb', ← hv]
      cases decide (x.time ≤ t) <;> rfl
    · simp only [atL]
      by_cases ht : x.time ≤ t
      · rw [if_neg (by omega), decide_eq_true ht]
        exact seg_at to r x.time x.val t ht h1 g2 hb'
      · rw [if_pos (by omega), decide_eq_false ht]
        exact (valAt_gt r v t fun y hy => by have := g2.gt y hy; omega).symm
theorem cut_inc (to : Int) : ∀ {l : List Chg} {s f : Int}, Inc s l → Inc f (cut l f to)
  | [], _, _, _ => trivial
  | x :: r, s, f, ⟨h1, h2⟩ => by
    unfold cut
    rw [List.filter_cons]
    split
    · rename_i h
      simp only [Bool.and_eq_true, decide_eq_true_eq] at h
      refine ⟨h.1, ?_⟩
      have : (r.filter fun y => decide (y.time > f) && decide (y.time ≤ to)) = cut r x.time to := by
        unfold cut
        refine List.filter_congr fun y hy => ?_
        have := h2.gt y hy
        rw [decide_eq_true (show y.time > f by omega), decide_eq_true (show y.time > x.time by omega)]
      rw [this]
      exact cut_inc to h2
    · exact cut_inc to h2
theorem cut_le {l:List Chg} {f to:Int}:∀ x∈cut l f to,x.time≤to:=fun x hx=>by
 unfold cut at hx
 have:=(List.mem_filter.1 hx).2
 simp only [Bool.and_eq_true,decide_eq_true_eq] at this
 exact this.2
theorem valAt_cut {s f t to : Int} (ht : f ≤ t) (hto : t ≤ to) : ∀ {l : List Chg} (v : Str), Inc s l → valAt (valAt v l f) (cut l f to) t = valAt v l t
  | l, v, hi => by
    obtain ⟨a, b, rfl, ha, hb⟩ := hi.split f
    have hv : valAt v (a ++ b) f = valAt v a f := by rw [valAt_app]; exact valAt_gt b _ _ hb.gt
    have hc : cut (a ++ b) f to = cut b f to := by
      have : cut a f to = [] := by
        unfold cut
        rw [List.filter_eq_nil_iff]
        intro x hx
        have := ha x hx
        simp; omega
      rw [cut, List.filter_append]
      show cut a f to ++ cut b f to = _
      rw [this]; rfl
    have hva : ∀ (a : List Chg) (v : Str), (∀ x ∈ a, x.time ≤ f) → valAt v a f = valAt v a t := fun a => by
      induction a with
      | nil => intro v _; rfl
      | cons y r ih =>
        intro v h
        have := h y (List.mem_cons_self ..)
        rw [valAt_cons, valAt_cons, decide_eq_true this, decide_eq_true (show y.time ≤ t by omega)]
        exact ih _ fun z hz => h z (List.mem_cons_of_mem _ hz)
    rw [hv, hc, valAt_app, ← hva a v ha]
    generalize valAt v a f = u
    clear hv hc ha hi hva
    have hin := hb
    revert hb
    suffices h : ∀ (b : List Chg) (s : Int) (u : Str), Inc s b → valAt u (b.filter fun x => decide (x.time > f) && decide (x.time ≤ to)) t = valAt u (b.filter fun x => decide (x.time > f)) t by
      intro hb
      have e : (b.filter fun x => decide (x.time > f)) = b := List.filter_eq_self.2 fun x hx => by have := hb.gt x hx; simp; omega
      have := h b f u hb
      rw [e] at this
      exact this
    intro b
    induction b with
    | nil => intros; rfl
    | cons y r ih =>
      intro s u hi
      obtain ⟨g1, g2⟩ := hi
      rw [List.filter_cons, List.filter_cons]
      by_cases h1 : y.time > f
      · rw [decide_eq_true h1]
        by_cases h2 : y.time ≤ to
        · rw [decide_eq_true h2]
          simp only [Bool.and_self, if_true]
          rw [valAt_cons, valAt_cons]
          exact ih _ _ g2
        · rw [decide_eq_false h2]
          simp only [Bool.and_false, if_true]
          rw [valAt_cons, decide_eq_false (by omega)]
          exact ih _ _ g2
      · rw [decide_eq_false h1]
        simp only [Bool.false_and]
        exact ih _ _ g2
structure OfOk (w:Wv) (sig frm to:Int) (l:List Sp):Prop where
 vl:Vl frm none l
 ne:l≠[]
 last:(lastSp l).to=to
 len:l.length≤100
 at_:∀ t,frm≤t→t≤to→atL l t=sigAt (sigOf w sig) t
theorem seg_len (to : Int) : ∀ (l : List Chg) (f : Int) (v : Str), (seg to f v l).length ≤ l.length + 1
  | [], _, _ => Nat.le_refl _
  | x :: r, f, v => by
    simp only [seg]
    split
    · have := seg_len to r f v
      simp only [List.length_cons]; omega
    · have := seg_len to r x.time x.val
      simp only [List.length_cons]; omega
theorem ofOk {w:Wv} (hw:SmOk w) {sig frm to:Int} (a:Ask w sig frm to):OfOk w sig frm to (codeL (sigAt (sigOf w sig) frm) (cut (sigOf w sig).chg frm to) frm to):=by
 obtain ⟨hs,hk,h0,h1,h2⟩:=a
 obtain ⟨q1,_,q3⟩:=hw.at hs
 have hf:=hw.fin.2
 rw [codeL_seg h0 (cut_inc to q3) (fun x hx=>by have:=cut_le x hx; omega)]
 refine ⟨seg_vl (by omega) h0 h1 (cut_inc to q3) cut_le (by simp),seg_ne _ _ _ _,seg_last _ _ _ _,?_,fun t ht1 ht2=> ?_⟩
 ·have:=seg_len to (cut (sigOf w sig).chg frm to) frm (sigAt (sigOf w sig) frm)
  have:(cut (sigOf w sig).chg frm to).length≤(sigOf w sig).chg.length:=List.length_filter_le _ _
  omega
 ·rw [seg_at to _ frm _ t ht1 ht2 (cut_inc to q3) cut_le]
  unfold sigAt
  rw [if_neg hk,if_neg hk]
  exact valAt_cut ht1 ht2 _ q3
end Go.Proofs.YtiekphbkomddfaaGreatDoor.S1
