/- Sets of times combined by the code: the library's sort and Compact at numbers. -/
import Derived.Test.YtiekphbkomddfaaGreatDoorCRD4
import Derived.Ground.NamesProg
import Derived.Ground.Names2Prog
import Derived.Shelf.Sort.Plain
import Derived.Shelf.Slices.CompactI
import Derived.Shelf.Slices.In.SortNone
namespace Go.Proofs
open Go.Shelf
def Tryz.sri_ren:Go.Shelf.Ren:=⟨fun | 189=>97 | 125=>63 | 257=>134 | 128=>108 | 129=>109 | 294=>154 | 295=>155 | 296=>156 | 297=>157 | 298=>158 | 299=>159 | 216=>160 | 300=>161 | 301=>162 | 328=>171 | 329=>172 | 330=>173 | 331=>174 | 332=>175 | 215=>125 | 343=>182 | n=>n,fun | 28=>113 | 3=>3 | 46=>123 | 0=>0 | 51=>165 | 53=>167 | 4=>4 | 183=>214 | 182=>213 | 131=>82 | 5=>5 | 9=>9 | 218=>230 | 222=>198 | 228=>237 | 229=>220 | n=>n,fun | n=>n⟩
theorem Tryz.sri:Go.Proofs.Lays.n189 Tryz.prog Tryz.sri_ren:={
 mixed:=by kernel_rfl
 f125:=Tryz.func63.trans (congrArg some (by kernel_rfl))
 f128:=Tryz.func108.trans (congrArg some (by kernel_rfl))
 f129:=Tryz.func109.trans (congrArg some (by kernel_rfl))
 f189:=Tryz.func97.trans (congrArg some (by kernel_rfl))
 f215:=Tryz.func125.trans (congrArg some (by kernel_rfl))
 f216:=Tryz.func160.trans (congrArg some (by kernel_rfl))
 f257:=Tryz.func134.trans (congrArg some (by kernel_rfl))
 f294:=Tryz.func154.trans (congrArg some (by kernel_rfl))
 f295:=Tryz.func155.trans (congrArg some (by kernel_rfl))
 f296:=Tryz.func156.trans (congrArg some (by kernel_rfl))
 f297:=Tryz.func157.trans (congrArg some (by kernel_rfl))
 f298:=Tryz.func158.trans (congrArg some (by kernel_rfl))
 f299:=Tryz.func159.trans (congrArg some (by kernel_rfl))
 f300:=Tryz.func161.trans (congrArg some (by kernel_rfl))
 f301:=Tryz.func162.trans (congrArg some (by kernel_rfl))
 f328:=Tryz.func171.trans (congrArg some (by kernel_rfl))
 f329:=Tryz.func172.trans (congrArg some (by kernel_rfl))
 f330:=Tryz.func173.trans (congrArg some (by kernel_rfl))
 f331:=Tryz.func174.trans (congrArg some (by kernel_rfl))
 f332:=Tryz.func175.trans (congrArg some (by kernel_rfl))
 f343:=Tryz.func182.trans (congrArg some (by kernel_rfl))
 t0:=Tryz.underlying0
 a0:=Tryz.isAgg0
 z0:=Tryz.sizeOf0
 v0:=Tryz.zeroValue0
 t3:=Tryz.underlying3
 a3:=Tryz.isAgg3
 z3:=Tryz.sizeOf3
 v3:=Tryz.zeroValue3
 t4:=Tryz.underlying4
 a4:=Tryz.isAgg4
 z4:=Tryz.sizeOf4
 v4:=Tryz.zeroValue4
 t5:=Tryz.underlying5
 a5:=Tryz.isAgg5
 z5:=Tryz.sizeOf5
 v5:=Tryz.zeroValue5
 t9:=Tryz.underlying9
 a9:=Tryz.isAgg9
 z9:=Tryz.sizeOf9
 v9:=Tryz.zeroValue9
 t28:=Tryz.underlying113
 a28:=Tryz.isAgg113
 z28:=Tryz.sizeOf113
 v28:=Tryz.zeroValue113
 t46:=Tryz.underlying123
 a46:=Tryz.isAgg123
 z46:=Tryz.sizeOf123
 v46:=Tryz.zeroValue123
 t51:=Tryz.underlying165
 a51:=Tryz.isAgg165
 z51:=Tryz.sizeOf165
 v51:=Tryz.zeroValue165
 t53:=Tryz.underlying167
 a53:=Tryz.isAgg167
 z53:=Tryz.sizeOf167
 v53:=Tryz.zeroValue167
 t131:=Tryz.underlying82
 a131:=Tryz.isAgg82
 z131:=Tryz.sizeOf82
 v131:=Tryz.zeroValue82
 t182:=Tryz.underlying213
 a182:=Tryz.isAgg213
 z182:=Tryz.sizeOf213
 v182:=Tryz.zeroValue213
 t183:=Tryz.underlying214
 a183:=Tryz.isAgg214
 z183:=Tryz.sizeOf214
 v183:=Tryz.zeroValue214
 t218:=Tryz.underlying230
 a218:=Tryz.isAgg230
 z218:=Tryz.sizeOf230
 v218:=Tryz.zeroValue230
 t222:=Tryz.underlying198
 a222:=Tryz.isAgg198
 z222:=Tryz.sizeOf198
 v222:=Tryz.zeroValue198
 t228:=Tryz.underlying237
 a228:=Tryz.isAgg237
 z228:=Tryz.sizeOf237
 v228:=Tryz.zeroValue237
 t229:=Tryz.underlying220
 a229:=Tryz.isAgg220
 z229:=Tryz.sizeOf220
 v229:=Tryz.zeroValue220}
def Tryz.cmi_ren:Go.Shelf.Ren:=⟨fun | 20=>98 | n=>n,fun | 22=>113 | 3=>3 | 4=>4 | 0=>0 | n=>n,fun | n=>n⟩
theorem Tryz.cmi:Go.Proofs.Lays2.n20 Tryz.prog Tryz.cmi_ren:={
 mixed:=by kernel_rfl
 f20:=Tryz.func98.trans (congrArg some (by kernel_rfl))
 t0:=Tryz.underlying0
 a0:=Tryz.isAgg0
 z0:=Tryz.sizeOf0
 v0:=Tryz.zeroValue0
 t3:=Tryz.underlying3
 a3:=Tryz.isAgg3
 z3:=Tryz.sizeOf3
 v3:=Tryz.zeroValue3
 t4:=Tryz.underlying4
 a4:=Tryz.isAgg4
 z4:=Tryz.sizeOf4
 v4:=Tryz.zeroValue4
 t22:=Tryz.underlying113
 a22:=Tryz.isAgg113
 z22:=Tryz.sizeOf113
 v22:=Tryz.zeroValue113
 i3:=by kernel_rfl}
end Go.Proofs
namespace Go.Proofs.YtiekphbkomddfaaGreatDoor.S1
open Go Go.Ab Go.Proofs
open Go.Shelf Go.RowKit Go.Lib Go.Sort in
theorem rowZ {w:World} {b n:Nat} {zs:List Int} {os:Array Obj} {vals:Array Value} {T:Nat} {fz:Nat × Nat} (hb:w.heap[b]? = some (.cells vals T fz)) :
  (grow (putRow (Value.int .i64) (Sort.ahead w n) b 0 zs.toArray) os).heap[b]? = some (.cells (putCells (Value.int .i64) 0 zs.toArray vals) T fz)∧(∀ k,k≠b→k < w.heap.size→(grow (putRow (Value.int .i64) (Sort.ahead w n) b 0 zs.toArray) os).heap[k]? = w.heap[k]?) ∧
   w.heap.size≤(grow (putRow (Value.int .i64) (Sort.ahead w n) b 0 zs.toArray) os).heap.size∧(grow (putRow (Value.int .i64) (Sort.ahead w n) b 0 zs.toArray) os).os=w.os∧(grow (putRow (Value.int .i64) (Sort.ahead w n) b 0 zs.toArray) os).tape=w.tape∧(grow (putRow (Value.int .i64) (Sort.ahead w n) b 0 zs.toArray) os).output=w.output:=by
 have hlt:b < w.heap.size:=lt_of_heap hb
 refine ⟨?_,fun k hk hkl=> ?_,?_,rfl,rfl,rfl⟩
 ·simp only [grow,putRow,mapBlock,Sort.ahead]
  rw [Array.getElem?_append_left (by simpa using hlt),Array.getElem?_modify,if_pos rfl,hb]
  rfl
 ·simp only [grow,putRow,mapBlock,Sort.ahead]
  rw [Array.getElem?_append_left (by simpa using hkl),Array.getElem?_modify,if_neg (fun h=>hk h.symm)]
 ·simp [grow,putRow,mapBlock,Sort.ahead]
open Go.Shelf Go.RowKit Go.Lib Go.Sort in
theorem doesZ [Lay] {f:Nat} (ok:Callable PP f) (zs zs':List Int) (hz:zs'.length=zs.length) (v:D) (h':Heap) (res:Option Addr→Nat→Value)
  (h0:zs.length=0→zs'=zs∧∀ (p:Option Addr) (cap:Nat) (w:World),Calls Tryz.prog f #[.slice p 0 cap] w fun e w'=>e = .returned (res p cap)∧w'=w)
  (hc:1≤zs.length→∀ (b cap:Nat) (w:World),Holds (Value.int .i64) w b 0 zs.toArray→b < w.heap.size→zs.length≤cap→Calls Tryz.prog f #[.slice (some ⟨b,0,none⟩) zs.length cap] w fun e w'=>e = .returned (res (some ⟨b,0,none⟩) cap)∧∃ n os,w'=grow (putRow (Value.int .i64) (Sort.ahead w n) b 0 zs'.toArray) os)
  (hr:∀ (g:G) (U:Nat→Prop) (w':World) (k:Tok),Inv g U (hVec zs' I') w'→g.τ 0=some k→k.sz=1→k.n=zs.length→zs.length≤k.cap→∃ g',R g' v (res k.a k.cap)∧Inv g' U h' w'∧Grow U g g'):Does PP f [.vec 0 zs.length 1] (hVec zs I') v h':=by
 refine Does.of_calls ok fun g U w vs i hs=> ?_
 simp only [Rs,R] at hs
 obtain ⟨_,_,rfl,⟨_,a,cap,rfl,hcap,k,hk,hks,hkn,hka⟩,rfl⟩:=hs
 have hhw:(hVec zs I').hw 0=some zs.length:=rfl
 obtain ⟨k3,e1,e2,e3⟩:=i.tok 0 zs.length hhw
 rw [hk] at e1
 cases e1
 obtain ⟨rfl,rfl⟩:=hka e2.symm
 by_cases h1:zs.length=0
 ·obtain ⟨hz',hcc⟩:=h0 h1
  rw [h1]
  refine (hcc k.a k.cap w).mono fun e w' ⟨he,hw'⟩=> ?_
  rw [hw']
  obtain ⟨g',r1,r2,r3⟩:=hr g U w k (by rw [hz']; exact i) hk hks e2 hcap
  exact ⟨_,g',he,r1,r2,r3,⟨rfl,rfl,rfl,Nat.le_refl _,fun _ _=>rfl,fun _ h=>h⟩⟩
 have h2:1≤zs.length:=by omega
 have hc0:0 < k.cap:=by omega
 have hvw:(hVec zs I').vw 0=some (cv zs I'):=rfl
 have hTk:=e3 (by rw [hvw]; exact hc0)
 rw [hvw] at hTk
 obtain ⟨b,f1,f2,T,vals,⟨fz,f3,hfz⟩,f4,f5,f6⟩:=hTk
 obtain ⟨f7,f8⟩:=f6 _ rfl
 rw [f1]
 rw [hks] at f4 f8
 rw [e2] at f7 f8
 have hlt:b < w.heap.size:=lt_of_heap f3
 have hcell:∀ j,j < zs.length→vals[j]? = some (.int .i64 (zs.getD j default)):=fun j hj=>by
  obtain ⟨u,h3,h4,h5⟩:=f8 j hj
  have hu:u = .int .i64 (zs.getD j default):=h3
  subst hu
  have:=h5 0 (by omega)
  rw [Nat.mul_one,Nat.add_zero] at this
  exact this
 have hH:Holds (Value.int .i64) w b 0 zs.toArray:=by
  intro j hj
  have hj':j < zs.length:=by simpa using hj
  have e:zs.toArray[j]! = zs.getD j default:=by
   rw [getElem!_pos zs.toArray j hj,List.getD_eq_getElem?_getD,List.getElem?_eq_getElem hj']; simp
  rw [e]
  simp only [World.cell?,World.frozen?,f3,Nat.zero_add]
  refine ⟨hcell j hj',?_⟩
  have:=hfz j (by omega)
  rw [← Bool.not_eq_true,Bool.and_eq_true,decide_eq_true_eq,decide_eq_true_eq]
  exact this
 refine (hc h2 b k.cap w hH hlt hcap).mono fun e w' ⟨he,n,os,hw'⟩=> ?_
 subst hw'
 obtain ⟨g1,g2,g3,g4,g5,g6⟩:=rowZ (n:=n) (zs:=zs') (os:=os) f3
 have hinv:Inv g U (hVec zs' I') (grow (putRow (Value.int .i64) (Sort.ahead w n) b 0 zs'.toArray) os):=by
  have hH2:hVec zs' I'=⟨fun _=>none,0,upd (fun _=>none) 0 (some zs.length),1,upd (fun _=>none) 0 (some (cv zs' I'))⟩:=by
   unfold hVec; rw [hz]
  rw [hH2]
  have hsz:(putCells (Value.int .i64) 0 zs'.toArray vals).size=vals.size:=by simp [putCells]
  refine Inv.vrow (k:=k) (b:=b) i hhw hk hc0 f1 ⟨fz,g1,by rw [hsz]; exact hfz⟩ ⟨by rw [hks,hsz]; exact f4.1,f4.2⟩ (fun q hq=> ?_) g3 g2
  rw [e2] at hq
  refine ⟨.int .i64 (zs'.getD q default),rfl,⟨by rw [hks]; rfl,rfl⟩,fun j hj=> ?_⟩
  rw [hks] at hj ⊢
  have hj0:j=0:=by omega
  subst hj0
  have hvs:q < vals.size:=by omega
  have hq2:q < zs'.length:=by omega
  rw [Nat.mul_one,Nat.add_zero]
  simp [putCells,Array.getElem?_eq_getElem hvs,hq2,List.getD_eq_getElem?_getD]
  rfl
 obtain ⟨g',r1,r2,r3⟩:=hr g U _ k hinv hk hks e2 hcap
 rw [f1] at r1
 refine ⟨_,g',he,r1,r2,r3,⟨g4,g5,g6,g3,fun k hk=>g2 k (fun h=>f2 (h▸hk)) (i.ub k hk),fun k hk=> ?_⟩⟩
 by_cases hkb:k=b
 ·subst hkb
  rw [f3] at hk; cases hk
 ·exact (g2 k hkb (lt_of_heap hk)).trans hk
theorem srtZ_len (zs:List Int):(srtZ zs).length=zs.length:=(srtZ_spec zs).1.length_eq
theorem cpt_len (zs:List Int):(Lib.compact zs).length≤zs.length:=by
 unfold Lib.compact Lib.compactUpTo
 rw [List.length_map]
 refine Nat.le_trans (List.length_filter_le _ _) ?_
 simp
open Go.Shelf Go.RowKit Go.Lib Go.Sort in
theorem e97 [Lay] (zs:List Int) (hl:zs.length≤1000000):Does PP 97 [.vec 0 zs.length 1] (hVec zs I') (.tup []) (hVec (srtZ zs) I') :=
 doesZ ⟨Tryz.f97,by kernel_rfl,by kernel_rfl,by kernel_rfl⟩ zs (srtZ zs) (srtZ_len zs) (.tup []) _ (fun _ _=> .tuple #[])
  (fun h=>⟨by
   have:zs=[]:=List.length_eq_zero_iff.1 h
   subst this; simp [srtZ],fun p cap w=>Any.slices_Sort_int_none Tryz.sri p cap w⟩)
  (fun _ b cap w hH hb _=>Any.slices_Sort_int Tryz.sri b 0 cap zs w hH hb (by omega))
  (fun g U w' k i _ _ _ _=>⟨g,by simp [R,Rs],i,Grow.refl U g⟩)
def cptZ (zs:List Int):List Int:=Lib.compact zs++List.replicate (zs.length - (Lib.compact zs).length) 0
theorem cptZ_len (zs:List Int):(cptZ zs).length=zs.length:=by
 have:=cpt_len zs
 unfold cptZ
 rw [List.length_append,List.length_replicate]; omega
open Go.Shelf Go.RowKit Go.Lib Go.Sort in
theorem e98 [Lay] (zs:List Int) (hl:zs.length≤1000000):Does PP 98 [.vec 0 zs.length 1] (hVec zs I') (L (Lib.compact zs) 1 I') (hFrz (hVec (cptZ zs) I') 0) :=
 doesZ ⟨Tryz.f98,by kernel_rfl,by kernel_rfl,by kernel_rfl⟩ zs (cptZ zs) (cptZ_len zs) (L (Lib.compact zs) 1 I') _ (fun p cap=> .slice p (Lib.compact zs).length cap)
  (fun h=>⟨by
   have:zs=[]:=List.length_eq_zero_iff.1 h
   subst this; rfl,fun p cap w=>by
   have:zs=[]:=List.length_eq_zero_iff.1 h
   subst this
   exact Any.slices_Compact_int_empty Tryz.cmi p cap w⟩)
  (fun _ b cap w hH hb hcap=>(Any.slices_Compact_int Tryz.cmi b 0 cap zs w hH (by omega) hcap).mono fun e w' ⟨h1,q,h2⟩=>⟨h1,q,#[],by rw [h2]; simp [Go.Sort.grow]; rfl⟩)
  (fun g U w' k i h1 h2 h3 h4=>by
   have hle:=cpt_len zs
   have hvw:(hVec (cptZ zs) I').vw 0=some (cv (cptZ zs) I'):=rfl
   have hhw:(hVec (cptZ zs) I').hw 0=some (cptZ zs).length:=rfl
   obtain ⟨g',q1,q2,q3,_⟩:=i.freeze hvw hhw
   have hn:=cptZ_len zs
   have hlm:(cptZ zs).length≤lenM:=by unfold lenM; omega
   have hR:=q3 (.slice k.a (cptZ zs).length k.cap) 1 (by
    simp only [R]
    exact ⟨hlm,k.a,k.cap,rfl,by omega,k,h1,h2,by omega,fun _=>⟨rfl,rfl⟩⟩)
   refine ⟨g',?_,q1,q2⟩
   simp only [L,R] at hR ⊢
   obtain ⟨_,a,cap,hv,_,_,he⟩:=hR
   cases hv
   refine ⟨by unfold lenM at hlm ⊢; omega,_,_,rfl,by omega,trivial,fun j hj=> ?_⟩
   obtain ⟨p,u,r1,r2,r3,r4,r5⟩:=he j (by omega)
   refine ⟨p,u,r1,r2,?_,r4,r5⟩
   have e:cv (cptZ zs) I' j=I' ((Lib.compact zs).getD j default):=by
    unfold cv cptZ
    rw [List.getD_eq_getElem?_getD,List.getElem?_append_left hj,← List.getD_eq_getElem?_getD]
   rw [e] at r3; exact r3)
end Go.Proofs.YtiekphbkomddfaaGreatDoor.S1
namespace Go.Proofs.YtiekphbkomddfaaGreatDoor.S1
open Go Go.Ab Go.Proofs
theorem lpC [Lay] {fn:Func} {cfg:Cfg} {fin:St→Prop} {α:Type} (I:α→Prop) (S:α→St) (μ:α→Nat) (l:List Nat) {p:List Nat} {td:List It} (hs:isLoop (sub (EnC cfg fn).root p)=true)
  (hr:∀ x,I x→At (EnC cfg fn) fin (.code (p++[0])::stp l (Nx (EnC cfg fn).nt I S μ (μ x))::td) (S x)) (x:α) (hx:I x):At (EnC cfg fn) fin (.code p::td) (S x):=by
 have:∃ c,sub (EnC cfg fn).root p=some (.loop c):=by
  unfold isLoop at hs
  split at hs
  ·rename_i c h; exact ⟨c,h⟩
  ·cases hs
 obtain ⟨c,hc⟩:=this
 exact at_loopK I S μ l hc hr x hx
theorem F58:OkF 58 Tryz.f58:=⟨by kernel_rfl,by kernel_rfl,by kernel_rfl⟩
def lv58:List (List Nat × List Nat):=[]
noncomputable def nNos (l:List Iv):List Nat→Nat→Option Ans:=scrAt [([1,0],1,Ans.pure [L l 2 Iv.d,I 0,I 1099511627776] (L (iclip l 0 1099511627776) 2 Iv.d))]
theorem nNo [Lay] (l:List Iv) (K:D→Prop):runS (En Tryz.f58) (fi Tryz.f58 K) (nNos l) lv58 200 [.code []] ⟨argSlots 0 [L l 2 Iv.d],.empty⟩ =
 (PureW PP 20 [L l 2 Iv.d,I 0,I 1099511627776] [L l 2 Iv.d,I 0,I 1099511627776] (L (iclip l 0 1099511627776) 2 Iv.d)∧K (L (iclip l 0 1099511627776) 2 Iv.d)):=by kernel_rfl
theorem c58 [Lay] (l:List Iv) (hb:l.length≤100000):Pure PP 58 [L l 2 Iv.d] (L (norI l) 2 Iv.d):=pu F58 (by kernel_rfl) (of_eq (nNo l _) ⟨PureW.mk (c20 l 0 1099511627776 hb),Wk.refl _⟩)
abbrev LLi:List Iv→D:=fun l=>L l 2 Iv.d
theorem F59:OkF 59 Tryz.f59:=⟨by kernel_rfl,by kernel_rfl,by kernel_rfl⟩
def lv59:List (List Nat × List Nat):=[([1,1,0,1,0],[5,12,13,14]),([1,1,0,1,0,0,1,1,0,0,1,1,0],[5,12,13,14,18,19,20]),([1,1,1,0],[5])]
noncomputable def nCzs:List Nat→Nat→Option Ans:=scrAt []
theorem nCz [Lay] (a b:List Iv) (K:D→Heap→Prop):runS (EnV [] [31] Tryz.f59) (fh Tryz.f59 K) (nCzs ) lv59 200 [.code []] ⟨argSlots 0 [L a 2 Iv.d,L b 2 Iv.d],.empty⟩ =
 (2≤lenM→At (EnV [] [31] Tryz.f59) (fh Tryz.f59 K) [It.code [1,1,0,1,0],It.blk 0,It.code [1,1,1]] {sl:=[(5,.list 0 0 (fun _=>D.junk) .full),(12,.list 2 1 (litG [L a 2 Iv.d,L b 2 Iv.d]) .full),(13,I (↑2:Int)),(14,I 0)],h:=Heap.empty:St}):=by kernel_rfl
def SCz (a b:List Iv) (out:List Int) (i:Int):St:=⟨[(5,.vec 0 out.length 1),(12,L [a,b] 1 LLi),(13,I 2),(14,I i)],hVec out I'⟩
def TCz (a b:List Iv) (out:List Int) (i:Int) (l:List Iv) (k:Int):St:=⟨[(5,.vec 0 out.length 1),(12,L [a,b] 1 LLi),(13,I 2),(14,I i),(18,L l 2 Iv.d),(19,I l.length),(20,I k)],hVec out I'⟩
noncomputable def nCzas:List Nat→Nat→Option Ans:=scrAt []
theorem nCza [Lay] (a b:List Iv) (out:List Int) (i:Int) (J:St→Prop) (K:D→Heap→Prop):runS (EnV [] [31] Tryz.f59) (fh Tryz.f59 K) (nCzas ) lv59 200 [.code [1,1,0,1,0,0],stp [5,12,13,14] J,.blk 0,.code [1,1,1]] (SCz a b out i) =
 (bif decide (i < 2) then (0≤i∧i < (↑[a,b].length:Int))∧(([a,b].getD i.toNat default).length≤lenM→At (EnV [] [31] Tryz.f59) (fh Tryz.f59 K) [It.code [1,1,0,1,0,0,1,1,0,0,1,1,0],It.blk 2,It.blk 1,It.code [1,1,0,1,0,0,1,1,1],stp [5,12,13,14] J,It.blk 0,It.code [1,1,1]] {sl:=[(5,D.vec 0 out.length 1),(12,L [a,b] 1 LLi),(13,I 2),(14,I i),(18,L ([a,b].getD i.toNat default) 2 Iv.d),(19,I (↑([a,b].getD i.toNat default).length:Int)),(20,I 0)],h:={box:=fun _=>none,nl:=0,hw:=upd (fun _=>none) 0 (some out.length),nt:=1,vw:=upd (fun _=>none) 0 (some (cv out I')):Heap}:St}) else At (EnV [] [31] Tryz.f59) (fh Tryz.f59 K) [It.code [1,1,1,0],It.code [1,1,1,1]] {sl:=[(5,D.vec 0 out.length 1)],h:={box:=fun _=>none,nl:=0,hw:=upd (fun _=>none) 0 (some out.length),nt:=1,vw:=upd (fun _=>none) 0 (some (cv out I')):Heap}:St}):=by kernel_rfl
noncomputable def nCzbs:List Nat→Nat→Option Ans:=scrAt []
theorem nCzb [Lay] (a b:List Iv) (out:List Int) (i:Int) (l:List Iv) (k:Int) (J J2:St→Prop) (K:D→Heap→Prop):runS (EnV [] [31] Tryz.f59) (fh Tryz.f59 K) (nCzbs ) lv59 200 [.code [1,1,0,1,0,0,1,1,0,0,1,1,0,0],stp [5,12,13,14,18,19,20] J,.blk 2,.blk 1,.code [1,1,0,1,0,0,1,1,1],stp [5,12,13,14] J2,.blk 0,.code [1,1,1]] (TCz a b out i l k) =
 (bif decide (k < (↑l.length:Int)) then (0≤k∧k < (↑l.length:Int))∧True∧(upd (fun _=>none) 0 (some out.length) 0=some out.length∧(out.length+2) * 8≤roomM)∧J {sl:=[(5,D.vec 0 (out.length+2) 1),(12,L [a,b] 1 LLi),(13,I 2),(14,I i),(18,L l 2 Iv.d),(19,I (↑l.length:Int)),(20,I (addI .i64 k 1))],h:={box:=fun _=>none,nl:=0,hw:=upd (upd (fun _=>none) 0 (some out.length)) 0 (some (out.length+2)),nt:=1,vw:=upd (upd (fun _=>none) 0 (some (cv out I'))) 0 (some (catG out.length (cv out I') (litG [I (l.getD k.toNat default).frm,I (addI .i64 (l.getD k.toNat default).to 1)]))):Heap}:St} else J2 {sl:=[(5,D.vec 0 out.length 1),(12,L [a,b] 1 LLi),(13,I 2),(14,I (addI .i64 i 1))],h:={box:=fun _=>none,nl:=0,hw:=upd (fun _=>none) 0 (some out.length),nt:=1,vw:=upd (fun _=>none) 0 (some (cv out I')):Heap}:St}):=by kernel_rfl
def lvCz:List (List Nat × List Nat):=[([1,1,1,1,0],[5])]
noncomputable def nCzcs (out:List Int):List Nat→Nat→Option Ans:=scrAt [([1,1,1,0],1,Ans.eff (.tup []) (hVec (srtZ out) I'))]
theorem nCzc [Lay] (out:List Int) (K:D→Heap→Prop):runS (EnV [] [31] Tryz.f59) (fh Tryz.f59 K) (nCzcs out) lvCz 200 [.code [1,1,1,0],.code [1,1,1,1]] ⟨[(5,.vec 0 out.length 1)],hVec out I'⟩ =
 (Does PP 97 [D.vec 0 out.length 1] {box:=fun _=>none,nl:=0,hw:=upd (fun _=>none) 0 (some out.length),nt:=1,vw:=upd (fun _=>none) 0 (some (cv out I')):Heap} (.tup []) (hVec (srtZ out) I')∧At (EnV [] [31] Tryz.f59) (fh Tryz.f59 K) [It.code [1,1,1,1,0],It.code [1,1,1,1,1]] {sl:=[(5,D.vec 0 out.length 1)],h:={box:=fun _=>none,nl:=0,hw:=upd (fun _=>none) 0 (some (srtZ out).length),nt:=1,vw:=upd (fun _=>none) 0 (some (cv (srtZ out) I')):Heap}:St}):=by kernel_rfl
noncomputable def nCzds (out:List Int):List Nat→Nat→Option Ans:=scrAt [([1,1,1,1,0],1,Ans.eff (L (Lib.compact out) 1 I') (hFrz (hVec (cptZ out) I') 0))]
theorem nCzd [Lay] (out:List Int) (K:D→Heap→Prop):runS (EnV [] [31] Tryz.f59) (fh Tryz.f59 K) (nCzds out) nolv 200 [.code [1,1,1,1,0],.code [1,1,1,1,1]] ⟨[(5,.vec 0 out.length 1)],hVec out I'⟩ =
 (Does PP 98 [D.vec 0 out.length 1] {box:=fun _=>none,nl:=0,hw:=upd (fun _=>none) 0 (some out.length),nt:=1,vw:=upd (fun _=>none) 0 (some (cv out I')):Heap} (L (Lib.compact out) 1 I') (hFrz (hVec (cptZ out) I') 0)∧K (L (Lib.compact out) 1 I') {box:=fun _=>none,nl:=0,hw:=upd (fun _=>none) 0 (some (cptZ out).length),nt:=1,vw:=upd (upd (fun _=>none) 0 (some (cv (cptZ out) I'))) 0 none:Heap}):=by kernel_rfl
theorem ptsI_len (l:List Iv):(ptsI l).length=2 * l.length:=by
 unfold ptsI
 induction l with
 | nil=>rfl
 | cons x r ih=>rw [List.flatMap_cons,List.length_append,ih,List.length_cons]; simp; omega
theorem ptsI_snoc (l:List Iv) (i:Nat) (h:i < l.length):ptsI (l.take (i+1))=ptsI (l.take i)++[(l.getD i default).frm,addI .i64 (l.getD i default).to 1]:=by
 unfold ptsI
 rw [take_snoc _ _ h,List.flatMap_append]; rfl
theorem cat_cv2 {es:List Int} {x y:Int} {i:Nat} (_hi:i < es.length+2):catG es.length (cv es I') (litG [I x,I y]) i=cv (es++[x,y]) I' i:=by
 unfold catG cv
 rcases Nat.lt_or_ge i es.length with h | h
 ·rw [blt_tt.2 h]; simp [List.getD,List.getElem?_append_left h]
 ·rw [blt_ff.2 h]
  rcases (by omega:i=es.length∨i=es.length+1) with rfl | rfl
  ·simp [List.getD,litG]
  ·simp [List.getD,litG,List.getElem?_append_right]
theorem c59 [Lay] (a b:List Iv) (ha:a.length≤10000) (hb:b.length≤10000):Pure PP 59 [L a 2 Iv.d,L b 2 Iv.d] (L (cutZ a b) 1 I'):=by
 refine pr F59 (by kernel_rfl) (of_eq (nCz a b _) fun _=> ?_)
 refine at_le (st':=SCz a b (([a,b].take 0).flatMap ptsI) ((0:Nat):Int)) ?_ (((StLe.set 12 (d':=L [a,b] 1 LLi) rfl (Wk.litL (enc:=LLi) (l:=[a,b]) rfl rfl) rfl rfl).trans (StLe.idle _ (some (cv ([]:List Int) I')) 5 1 (cv ([]:List Int) I') rfl)).cast (by kernel_rfl))
 have hl:∀ i,i < 2→([a,b].getD i default).length≤10000:=fun i hi=>by
  rcases (by omega:i=0∨i=1) with rfl | rfl
  ·exact ha
  ·exact hb
 refine lpC (fn:=Tryz.f59) (fun i:Nat=>i≤2∧(([a,b].take i).flatMap ptsI).length≤20000 * i) (fun i=>SCz a b (([a,b].take i).flatMap ptsI) i) (fun i=>2 - i) [5,12,13,14] (by kernel_rfl) (fun i hi=>runS_sound hmix _ _ _ (of_eq (nCza a b _ i _ _) (cond_intro (fun hlt=> ?_) fun hge=> ?_))) 0 ⟨Nat.zero_le _,Nat.zero_le _⟩
 ·obtain ⟨_,hP⟩:=hi
  have hlt:i < 2:=by have:=of_decide_eq_true hlt; omega
  have hnext:([a,b].take (i+1)).flatMap ptsI=([a,b].take i).flatMap ptsI++ptsI ([a,b].getD i default):=by
   rw [take_snoc _ _ (show i < [a,b].length from hlt),List.flatMap_append,List.flatMap_singleton]
  have hll:=hl i hlt
  rw [Int.toNat_natCast]
  generalize [a,b].getD i default=l at hnext hll ⊢
  generalize ([a,b].take i).flatMap ptsI=P at hP hnext ⊢
  have hpl:=ptsI_len l
  refine ⟨⟨by omega,by show (i:Int) < 2; omega⟩,fun hlm=> ?_⟩
  refine at_le (st':=TCz a b (P++ptsI (l.take 0)) i l ((0:Nat):Int)) ?_ ((StLe.refl _ _).cast (by rw [show P++ptsI (l.take 0)=P by unfold ptsI; simp]; kernel_rfl))
  refine lp (fn:=Tryz.f59) (fun k:Nat=>k≤l.length) (fun k=>TCz a b (P++ptsI (l.take k)) i l k) (fun k=>l.length - k) [5,12,13,14,18,19,20] (by kernel_rfl) (fun k hk=>of_eq (nCzb a b _ i l k _ _ _) (cond_intro (fun hlt2=> ?_) fun hge2=> ?_)) 0 (Nat.zero_le _)
  ·have hlt2:=ltI hlt2
   have hq:=ptsI_len (l.take k)
   have htk:(l.take k).length=k:=by rw [List.length_take]; omega
   rw [add1 hlt2 hlm,Int.toNat_natCast]
   refine ⟨⟨by omega,by omega⟩,trivial,⟨upd_same _ _ _,by rw [List.length_append]; unfold roomM; omega⟩,Nx.of (k+1) hlt2 (by omega) ?_⟩
   rw [ptsI_snoc l k hlt2,← List.append_assoc]
   generalize P++ptsI (l.take k)=out
   have he:(out++[(l.getD k default).frm,addI .i64 (l.getD k default).to 1]).length=out.length+2:=by simp
   unfold TCz hVec
   rw [he,upd_upd,upd_upd]
   exact StLe.vec (t:=0) (n:=out.length+2) (upd_same _ _ _) fun j hj=>cat_cv2 hj
  ·rw [List.take_of_length_le (geI hge2),← hnext]
   have hi1:addI .i64 (i:Int) 1=((i+1:Nat):Int):=by rw [add64 (by omega) (by omega)]; rfl
   rw [hi1]
   refine Nx.mk (i+1) ⟨hlt,?_⟩ (by omega)
   rw [hnext,List.length_append]; omega
 ·obtain ⟨hi2,hP⟩:=hi
  have h2:i=2:=by have:=of_decide_eq_false hge; omega
  subst h2
  have hout:([a,b].take 2).flatMap ptsI=ptsI a++ptsI b:=by simp
  unfold cutZ
  rw [hout] at hP ⊢
  generalize ptsI a++ptsI b=out at hP ⊢
  refine runS_sound hmix _ _ _ (of_eq (nCzc out _) ⟨e97 out (by omega),?_⟩)
  have hsl:=srtZ_len out
  rw [← hsl]
  generalize srtZ out=zs at hsl ⊢
  exact runS_sound hmix _ _ _ (of_eq (nCzd zs _) ⟨e98 zs (by omega),⟨_,RetLe.refl _ _⟩⟩)
end Go.Proofs.YtiekphbkomddfaaGreatDoor.S1
namespace Go.Proofs.YtiekphbkomddfaaGreatDoor.S1
open Go Go.Ab Go.Proofs
theorem F82:OkF 82 Tryz.f82:=⟨by kernel_rfl,by kernel_rfl,by kernel_rfl⟩
def lv82:List (List Nat × List Nat):=[]
noncomputable def nU1s:List Nat→Nat→Option Ans:=scrAt []
theorem nU1 [Lay] (x y:Bool) (K:D→Prop):runS (En Tryz.f82) (fi Tryz.f82 K) (nU1s ) lv82 200 [.code []] ⟨argSlots 0 [B x,B y],.empty⟩ =
 (K (B (bif x then true else y))):=by kernel_rfl
theorem F131:OkF 131 Tryz.f131:=⟨by kernel_rfl,by kernel_rfl,by kernel_rfl⟩
def lv131:List (List Nat × List Nat):=[]
noncomputable def nI1s:List Nat→Nat→Option Ans:=scrAt []
theorem nI1 [Lay] (x y:Bool) (K:D→Prop):runS (En Tryz.f131) (fi Tryz.f131 K) (nI1s ) lv131 200 [.code []] ⟨argSlots 0 [B x,B y],.empty⟩ =
 (K (B (bif x then y else false))):=by kernel_rfl
theorem F34:OkF 34 Tryz.f34:=⟨by kernel_rfl,by kernel_rfl,by kernel_rfl⟩
def lv34:List (List Nat × List Nat):=[]
noncomputable def nW1s:List Nat→Nat→Option Ans:=scrAt []
theorem nW1 [Lay] (x y:Bool) (K:D→Prop):runS (En Tryz.f34) (fi Tryz.f34 K) (nW1s ) lv34 200 [.code []] ⟨argSlots 0 [B x,B y],.empty⟩ =
 (K (B (bif x then !y else false))):=by kernel_rfl
theorem c82 [Lay] (x y:Bool):Pure PP 82 [B x,B y] (B (okR 0 x y)):=pu F82 (by kernel_rfl) (of_eq (nU1 x y _) (Wk.of_eq (by cases x <;> cases y <;> rfl)))
theorem c131 [Lay] (x y:Bool):Pure PP 131 [B x,B y] (B (okR 1 x y)):=pu F131 (by kernel_rfl) (of_eq (nI1 x y _) (Wk.of_eq (by cases x <;> cases y <;> rfl)))
theorem c34 [Lay] (x y:Bool):Pure PP 34 [B x,B y] (B (okR 2 x y)):=pu F34 (by kernel_rfl) (of_eq (nW1 x y _) (Wk.of_eq (by cases x <;> cases y <;> rfl)))
theorem F33:OkF 33 Tryz.f33:=⟨by kernel_rfl,by kernel_rfl,by kernel_rfl⟩
def lv33:List (List Nat × List Nat):=[([1,1,1,1,1,0,1,0],[0,1,2,7,8,9,10,11]),([1,1,1,1,1,0,1,0,0,1,0,0,1,0,0],[0,1,2,7,8,9,10,11,12]),([1,1,1,1,1,0,1,0,0,1,0,0,1,1,0,0],[0,1,2,7,8,9,10,11,12]),([1,1,1,1,1,1],[8])]
noncomputable def nCos (a:List Iv) (b:List Iv):List Nat→Nat→Option Ans:=scrAt [([1,0],1,Ans.pure [L a 2 Iv.d] (L (norI a) 2 Iv.d)),([1,0],3,Ans.pure [L b 2 Iv.d] (L (norI b) 2 Iv.d)),([1,1,0],2,Ans.pure [L (norI a) 2 Iv.d,L (norI b) 2 Iv.d] (L (cutZ (norI a) (norI b)) 1 I'))]
theorem nCo [Lay] (fn:Nat) (a b:List Iv) (K:D→Heap→Prop):runS (EnV [] [99] Tryz.f33) (fh Tryz.f33 K) (nCos a b) lv33 200 [.code []] ⟨argSlots 0 [L a 2 Iv.d,L b 2 Iv.d,.clo fn []],.empty⟩ =
 (PureW PP 58 [L a 2 Iv.d] [L a 2 Iv.d] (L (norI a) 2 Iv.d)∧PureW PP 58 [L b 2 Iv.d] [L b 2 Iv.d] (L (norI b) 2 Iv.d)∧PureW PP 59 [L (norI a) 2 Iv.d,L (norI b) 2 Iv.d] [L (norI a) 2 Iv.d,L (norI b) 2 Iv.d] (L (cutZ (norI a) (norI b)) 1 I')∧At (EnV [] [99] Tryz.f33) (fh Tryz.f33 K) [It.code [1,1,1,1,1,0,1,0],It.blk 0,It.code [1,1,1,1,1,1]] {sl:=[(0,L (norI a) 2 Iv.d),(1,L (norI b) 2 Iv.d),(2,D.clo fn []),(7,L (cutZ (norI a) (norI b)) 1 I'),(8,.list 0 0 (fun _=>D.junk) .full),(9,I 0),(10,I 0),(11,I 0)],h:=Heap.empty:St}):=by kernel_rfl
def SCm (fn:Nat) (a b:List Iv) (c:List Int) (out:List Iv) (i k n:Int):St:=⟨[(0,L a 2 Iv.d),(1,L b 2 Iv.d),(2,.clo fn []),(7,L c 1 I'),(8,.vec 0 out.length 2),(9,I i),(10,I k),(11,I n)],hVec out Iv.d⟩
def TCm (fn:Nat) (a b:List Iv) (c:List Int) (out:List Iv) (i k n t:Int):St:=⟨[(0,L a 2 Iv.d),(1,L b 2 Iv.d),(2,.clo fn []),(7,L c 1 I'),(8,.vec 0 out.length 2),(9,I i),(10,I k),(11,I n),(12,I t)],hVec out Iv.d⟩
noncomputable def nCmAs:List Nat→Nat→Option Ans:=scrAt []
theorem nCmA [Lay] (fn:Nat) (a b:List Iv) (c:List Int) (out:List Iv) (i k n:Int) (J:St→Prop) (K:D→Heap→Prop):runS (EnV [] [99] Tryz.f33) (fh Tryz.f33 K) (nCmAs ) lv33 200 [.code [1,1,1,1,1,0,1,0,0],stp [0,1,2,7,8,9,10,11] J,.blk 0,.code [1,1,1,1,1,1]] (SCm fn a b c out i k n) =
 (c.length≤lenM→bif decide (addI .i64 n 1 < (↑c.length:Int)) then (0≤n∧n < (↑c.length:Int))∧At (EnV [] [99] Tryz.f33) (fh Tryz.f33 K) [It.code [1,1,1,1,1,0,1,0,0,1,0,0,1,0,0],It.blk 2,It.code [1,1,1,1,1,0,1,0,0,1,0,0,1,1],It.blk 1,It.code [1,1,1,1,1,0,1,0,0,1,1],stp [0,1,2,7,8,9,10,11] J,It.blk 0,It.code [1,1,1,1,1,1]] {sl:=[(0,L a 2 Iv.d),(1,L b 2 Iv.d),(2,D.clo fn []),(7,L c 1 I'),(8,D.vec 0 out.length 2),(9,I i),(10,I k),(11,I n),(12,I (c.getD n.toNat default))],h:={box:=fun _=>none,nl:=0,hw:=upd (fun _=>none) 0 (some out.length),nt:=1,vw:=upd (fun _=>none) 0 (some (cv out Iv.d)):Heap}:St} else At (EnV [] [99] Tryz.f33) (fh Tryz.f33 K) [It.code [1,1,1,1,1,1]] {sl:=[(8,D.vec 0 out.length 2)],h:={box:=fun _=>none,nl:=0,hw:=upd (fun _=>none) 0 (some out.length),nt:=1,vw:=upd (fun _=>none) 0 (some (cv out Iv.d)):Heap}:St}):=by kernel_rfl
noncomputable def nCmBs:List Nat→Nat→Option Ans:=scrAt []
theorem nCmB [Lay] (fn:Nat) (a b:List Iv) (c:List Int) (out:List Iv) (i k n t:Int) (J J2:St→Prop) (K:D→Heap→Prop):runS (EnV [] [99] Tryz.f33) (fh Tryz.f33 K) (nCmBs ) lv33 200 [.code [1,1,1,1,1,0,1,0,0,1,0,0,1,0,0,0],stp [0,1,2,7,8,9,10,11,12] J,.blk 2,.code [1,1,1,1,1,0,1,0,0,1,0,0,1,1],.blk 1,.code [1,1,1,1,1,0,1,0,0,1,1],stp [0,1,2,7,8,9,10,11] J2,.blk 0,.code [1,1,1,1,1,1]] (TCm fn a b c out i k n t) =
 (a.length≤lenM→(decide (i < (↑a.length:Int))=true→0≤i∧i < (↑a.length:Int))∧bif bif decide (i < (↑a.length:Int)) then decide ((a.getD i.toNat default).to < t) else false then J {sl:=[(0,L a 2 Iv.d),(1,L b 2 Iv.d),(2,D.clo fn []),(7,L c 1 I'),(8,D.vec 0 out.length 2),(9,I (addI .i64 i 1)),(10,I k),(11,I n),(12,I t)],h:={box:=fun _=>none,nl:=0,hw:=upd (fun _=>none) 0 (some out.length),nt:=1,vw:=upd (fun _=>none) 0 (some (cv out Iv.d)):Heap}:St} else At (EnV [] [99] Tryz.f33) (fh Tryz.f33 K) [It.code [1,1,1,1,1,0,1,0,0,1,0,0,1,1,0,0],It.blk 4,It.code [1,1,1,1,1,0,1,0,0,1,0,0,1,1,1],It.blk 1,It.code [1,1,1,1,1,0,1,0,0,1,1],stp [0,1,2,7,8,9,10,11] J2,It.blk 0,It.code [1,1,1,1,1,1]] {sl:=[(0,L a 2 Iv.d),(1,L b 2 Iv.d),(2,D.clo fn []),(7,L c 1 I'),(8,D.vec 0 out.length 2),(9,I i),(10,I k),(11,I n),(12,I t)],h:={box:=fun _=>none,nl:=0,hw:=upd (fun _=>none) 0 (some out.length),nt:=1,vw:=upd (fun _=>none) 0 (some (cv out Iv.d)):Heap}:St}):=by kernel_rfl
noncomputable def lvCx:List (List Nat × List Nat):=lv33++[([1,1,1,1,1,0,1,0,0,1,0,0,1,1,1],[0,1,2,7,8,9,10,11,12])]
noncomputable def nCmCs:List Nat→Nat→Option Ans:=scrAt []
theorem nCmC [Lay] (fn:Nat) (a b:List Iv) (c:List Int) (out:List Iv) (i k n t:Int) (J J2:St→Prop) (K:D→Heap→Prop):runS (EnV [] [99] Tryz.f33) (fh Tryz.f33 K) (nCmCs ) lvCx 200 [.code [1,1,1,1,1,0,1,0,0,1,0,0,1,1,0,0,0],stp [0,1,2,7,8,9,10,11,12] J,.blk 4,.code [1,1,1,1,1,0,1,0,0,1,0,0,1,1,1],.blk 1,.code [1,1,1,1,1,0,1,0,0,1,1],stp [0,1,2,7,8,9,10,11] J2,.blk 0,.code [1,1,1,1,1,1]] (TCm fn a b c out i k n t) =
 (b.length≤lenM→(decide (k < (↑b.length:Int))=true→0≤k∧k < (↑b.length:Int))∧bif bif decide (k < (↑b.length:Int)) then decide ((b.getD k.toNat default).to < t) else false then J {sl:=[(0,L a 2 Iv.d),(1,L b 2 Iv.d),(2,D.clo fn []),(7,L c 1 I'),(8,D.vec 0 out.length 2),(9,I i),(10,I (addI .i64 k 1)),(11,I n),(12,I t)],h:={box:=fun _=>none,nl:=0,hw:=upd (fun _=>none) 0 (some out.length),nt:=1,vw:=upd (fun _=>none) 0 (some (cv out Iv.d)):Heap}:St} else At (EnV [] [99] Tryz.f33) (fh Tryz.f33 K) [It.code [1,1,1,1,1,0,1,0,0,1,0,0,1,1,1],It.blk 1,It.code [1,1,1,1,1,0,1,0,0,1,1],stp [0,1,2,7,8,9,10,11] J2,It.blk 0,It.code [1,1,1,1,1,1]] {sl:=[(0,L a 2 Iv.d),(1,L b 2 Iv.d),(2,D.clo fn []),(7,L c 1 I'),(8,D.vec 0 out.length 2),(9,I i),(10,I k),(11,I n),(12,I t)],h:={box:=fun _=>none,nl:=0,hw:=upd (fun _=>none) 0 (some out.length),nt:=1,vw:=upd (fun _=>none) 0 (some (cv out Iv.d)):Heap}:St}):=by kernel_rfl
noncomputable def lvCy:List (List Nat × List Nat):=[([1,1,1,1,1,0,1,0,0,1,0,0,1,1,1,1],[0,1,2,7,8,9,10,11,12,88])]
noncomputable def nCmUs (a:List Iv) (b:List Iv) (i:Int) (k:Int) (t:Int):List Nat→Nat→Option Ans:=scrAt [([1,1,1,1,1,0,1,0,0,1,0,0,1,1,1,0],27,Ans.pure [B (bif decide (i < (↑a.length:Int)) then decide ((a.getD i.toNat default).frm≤t) else false),B (bif decide (k < (↑b.length:Int)) then decide ((b.getD k.toNat default).frm≤t) else false)] (B (okR 0 (bif decide (i < (↑a.length:Int)) then decide ((a.getD i.toNat default).frm≤t) else false) (bif decide (k < (↑b.length:Int)) then decide ((b.getD k.toNat default).frm≤t) else false))))]
theorem nCmU [Lay] (a b:List Iv) (c:List Int) (out:List Iv) (i k n t:Int) (J:St→Prop) (K:D→Heap→Prop):runS (EnV [] [99] Tryz.f33) (fh Tryz.f33 K) (nCmUs a b i k t) lvCy 200 [.code [1,1,1,1,1,0,1,0,0,1,0,0,1,1,1],.blk 1,.code [1,1,1,1,1,0,1,0,0,1,1],stp [0,1,2,7,8,9,10,11] J,.blk 0,.code [1,1,1,1,1,1]] (TCm 82 a b c out i k n t) =
 (a.length≤lenM→(decide (i < (↑a.length:Int))=true→0≤i∧i < (↑a.length:Int))∧(b.length≤lenM→(decide (k < (↑b.length:Int))=true→0≤k∧k < (↑b.length:Int))∧PureW PP 82 [B (bif decide (i < (↑a.length:Int)) then decide ((a.getD i.toNat default).frm≤t) else false),B (bif decide (k < (↑b.length:Int)) then decide ((b.getD k.toNat default).frm≤t) else false)] [B (bif decide (i < (↑a.length:Int)) then decide ((a.getD i.toNat default).frm≤t) else false),B (bif decide (k < (↑b.length:Int)) then decide ((b.getD k.toNat default).frm≤t) else false)] (B (okR 0 (bif decide (i < (↑a.length:Int)) then decide ((a.getD i.toNat default).frm≤t) else false) (bif decide (k < (↑b.length:Int)) then decide ((b.getD k.toNat default).frm≤t) else false)))∧At (EnV [] [99] Tryz.f33) (fh Tryz.f33 K) [It.code [1,1,1,1,1,0,1,0,0,1,0,0,1,1,1,1],It.blk 1,It.code [1,1,1,1,1,0,1,0,0,1,1],stp [0,1,2,7,8,9,10,11] J,It.blk 0,It.code [1,1,1,1,1,1]] {sl:=[(0,L a 2 Iv.d),(1,L b 2 Iv.d),(2,D.clo 82 []),(7,L c 1 I'),(8,D.vec 0 out.length 2),(9,I i),(10,I k),(11,I n),(12,I t),(88,B (okR 0 (bif decide (i < (↑a.length:Int)) then decide ((a.getD i.toNat default).frm≤t) else false) (bif decide (k < (↑b.length:Int)) then decide ((b.getD k.toNat default).frm≤t) else false)))],h:={box:=fun _=>none,nl:=0,hw:=upd (fun _=>none) 0 (some out.length),nt:=1,vw:=upd (fun _=>none) 0 (some (cv out Iv.d)):Heap}:St})):=by kernel_rfl
noncomputable def nCmIs (a:List Iv) (b:List Iv) (i:Int) (k:Int) (t:Int):List Nat→Nat→Option Ans:=scrAt [([1,1,1,1,1,0,1,0,0,1,0,0,1,1,1,0],27,Ans.pure [B (bif decide (i < (↑a.length:Int)) then decide ((a.getD i.toNat default).frm≤t) else false),B (bif decide (k < (↑b.length:Int)) then decide ((b.getD k.toNat default).frm≤t) else false)] (B (okR 1 (bif decide (i < (↑a.length:Int)) then decide ((a.getD i.toNat default).frm≤t) else false) (bif decide (k < (↑b.length:Int)) then decide ((b.getD k.toNat default).frm≤t) else false))))]
theorem nCmI [Lay] (a b:List Iv) (c:List Int) (out:List Iv) (i k n t:Int) (J:St→Prop) (K:D→Heap→Prop):runS (EnV [] [99] Tryz.f33) (fh Tryz.f33 K) (nCmIs a b i k t) lvCy 200 [.code [1,1,1,1,1,0,1,0,0,1,0,0,1,1,1],.blk 1,.code [1,1,1,1,1,0,1,0,0,1,1],stp [0,1,2,7,8,9,10,11] J,.blk 0,.code [1,1,1,1,1,1]] (TCm 131 a b c out i k n t) =
 (a.length≤lenM→(decide (i < (↑a.length:Int))=true→0≤i∧i < (↑a.length:Int))∧(b.length≤lenM→(decide (k < (↑b.length:Int))=true→0≤k∧k < (↑b.length:Int))∧PureW PP 131 [B (bif decide (i < (↑a.length:Int)) then decide ((a.getD i.toNat default).frm≤t) else false),B (bif decide (k < (↑b.length:Int)) then decide ((b.getD k.toNat default).frm≤t) else false)] [B (bif decide (i < (↑a.length:Int)) then decide ((a.getD i.toNat default).frm≤t) else false),B (bif decide (k < (↑b.length:Int)) then decide ((b.getD k.toNat default).frm≤t) else false)] (B (okR 1 (bif decide (i < (↑a.length:Int)) then decide ((a.getD i.toNat default).frm≤t) else false) (bif decide (k < (↑b.length:Int)) then decide ((b.getD k.toNat default).frm≤t) else false)))∧At (EnV [] [99] Tryz.f33) (fh Tryz.f33 K) [It.code [1,1,1,1,1,0,1,0,0,1,0,0,1,1,1,1],It.blk 1,It.code [1,1,1,1,1,0,1,0,0,1,1],stp [0,1,2,7,8,9,10,11] J,It.blk 0,It.code [1,1,1,1,1,1]] {sl:=[(0,L a 2 Iv.d),(1,L b 2 Iv.d),(2,D.clo 131 []),(7,L c 1 I'),(8,D.vec 0 out.length 2),(9,I i),(10,I k),(11,I n),(12,I t),(88,B (okR 1 (bif decide (i < (↑a.length:Int)) then decide ((a.getD i.toNat default).frm≤t) else false) (bif decide (k < (↑b.length:Int)) then decide ((b.getD k.toNat default).frm≤t) else false)))],h:={box:=fun _=>none,nl:=0,hw:=upd (fun _=>none) 0 (some out.length),nt:=1,vw:=upd (fun _=>none) 0 (some (cv out Iv.d)):Heap}:St})):=by kernel_rfl
noncomputable def nCmWs (a:List Iv) (b:List Iv) (i:Int) (k:Int) (t:Int):List Nat→Nat→Option Ans:=scrAt [([1,1,1,1,1,0,1,0,0,1,0,0,1,1,1,0],27,Ans.pure [B (bif decide (i < (↑a.length:Int)) then decide ((a.getD i.toNat default).frm≤t) else false),B (bif decide (k < (↑b.length:Int)) then decide ((b.getD k.toNat default).frm≤t) else false)] (B (okR 2 (bif decide (i < (↑a.length:Int)) then decide ((a.getD i.toNat default).frm≤t) else false) (bif decide (k < (↑b.length:Int)) then decide ((b.getD k.toNat default).frm≤t) else false))))]
theorem nCmW [Lay] (a b:List Iv) (c:List Int) (out:List Iv) (i k n t:Int) (J:St→Prop) (K:D→Heap→Prop):runS (EnV [] [99] Tryz.f33) (fh Tryz.f33 K) (nCmWs a b i k t) lvCy 200 [.code [1,1,1,1,1,0,1,0,0,1,0,0,1,1,1],.blk 1,.code [1,1,1,1,1,0,1,0,0,1,1],stp [0,1,2,7,8,9,10,11] J,.blk 0,.code [1,1,1,1,1,1]] (TCm 34 a b c out i k n t) =
 (a.length≤lenM→(decide (i < (↑a.length:Int))=true→0≤i∧i < (↑a.length:Int))∧(b.length≤lenM→(decide (k < (↑b.length:Int))=true→0≤k∧k < (↑b.length:Int))∧PureW PP 34 [B (bif decide (i < (↑a.length:Int)) then decide ((a.getD i.toNat default).frm≤t) else false),B (bif decide (k < (↑b.length:Int)) then decide ((b.getD k.toNat default).frm≤t) else false)] [B (bif decide (i < (↑a.length:Int)) then decide ((a.getD i.toNat default).frm≤t) else false),B (bif decide (k < (↑b.length:Int)) then decide ((b.getD k.toNat default).frm≤t) else false)] (B (okR 2 (bif decide (i < (↑a.length:Int)) then decide ((a.getD i.toNat default).frm≤t) else false) (bif decide (k < (↑b.length:Int)) then decide ((b.getD k.toNat default).frm≤t) else false)))∧At (EnV [] [99] Tryz.f33) (fh Tryz.f33 K) [It.code [1,1,1,1,1,0,1,0,0,1,0,0,1,1,1,1],It.blk 1,It.code [1,1,1,1,1,0,1,0,0,1,1],stp [0,1,2,7,8,9,10,11] J,It.blk 0,It.code [1,1,1,1,1,1]] {sl:=[(0,L a 2 Iv.d),(1,L b 2 Iv.d),(2,D.clo 34 []),(7,L c 1 I'),(8,D.vec 0 out.length 2),(9,I i),(10,I k),(11,I n),(12,I t),(88,B (okR 2 (bif decide (i < (↑a.length:Int)) then decide ((a.getD i.toNat default).frm≤t) else false) (bif decide (k < (↑b.length:Int)) then decide ((b.getD k.toNat default).frm≤t) else false)))],h:={box:=fun _=>none,nl:=0,hw:=upd (fun _=>none) 0 (some out.length),nt:=1,vw:=upd (fun _=>none) 0 (some (cv out Iv.d)):Heap}:St})):=by kernel_rfl
noncomputable def nCmEs:List Nat→Nat→Option Ans:=scrAt []
theorem nCmE [Lay] (fn:Nat) (a b:List Iv) (c:List Int) (out:List Iv) (i k n t:Int) (ok:Bool) (J:St→Prop) (K:D→Heap→Prop):runS (EnV [] [99] Tryz.f33) (fh Tryz.f33 K) (nCmEs ) nolv 200 [.code [1,1,1,1,1,0,1,0,0,1,0,0,1,1,1,1],.blk 1,.code [1,1,1,1,1,0,1,0,0,1,1],stp [0,1,2,7,8,9,10,11] J,.blk 0,.code [1,1,1,1,1,1]] ⟨[(0,L a 2 Iv.d),(1,L b 2 Iv.d),(2,.clo fn []),(7,L c 1 I'),(8,.vec 0 out.length 2),(9,I i),(10,I k),(11,I n),(12,I t),(88,B ok)],hVec out Iv.d⟩ =
 (bif ok then (0≤addI .i64 n 1∧addI .i64 n 1 < (↑c.length:Int))∧(upd (fun _=>none) 0 (some out.length) 0=some out.length∧(out.length+1) * 16≤roomM)∧J {sl:=[(0,L a 2 Iv.d),(1,L b 2 Iv.d),(2,D.clo fn []),(7,L c 1 I'),(8,D.vec 0 (out.length+1) 2),(9,I i),(10,I k),(11,I (addI .i64 n 1))],h:={box:=fun _=>none,nl:=0,hw:=upd (upd (fun _=>none) 0 (some out.length)) 0 (some (out.length+1)),nt:=1,vw:=upd (upd (fun _=>none) 0 (some (cv out Iv.d))) 0 (some (catG out.length (cv out Iv.d) (litG [.agg [I t,I (subI .i64 (c.getD (addI .i64 n 1).toNat default) 1)]]))):Heap}:St} else J {sl:=[(0,L a 2 Iv.d),(1,L b 2 Iv.d),(2,D.clo fn []),(7,L c 1 I'),(8,D.vec 0 out.length 2),(9,I i),(10,I k),(11,I (addI .i64 n 1))],h:={box:=fun _=>none,nl:=0,hw:=upd (fun _=>none) 0 (some out.length),nt:=1,vw:=upd (fun _=>none) 0 (some (cv out Iv.d)):Heap}:St}):=by kernel_rfl
noncomputable def nCmFs (out:List Iv):List Nat→Nat→Option Ans:=scrAt [([1,1,1,1,1,1,0],1,Ans.pure [L out 2 Iv.d] (L (norI out) 2 Iv.d))]
theorem nCmF [Lay] (out:List Iv) (K:D→Heap→Prop):runS (EnV [] [99] Tryz.f33) (fh Tryz.f33 K) (nCmFs out) nolv 200 [.code [1,1,1,1,1,1]] ⟨[(8,L out 2 Iv.d)],hFrz (hVec out Iv.d) 0⟩ =
 (PureW PP 58 [L out 2 Iv.d] [L out 2 Iv.d] (L (norI out) 2 Iv.d)∧K (L (norI out) 2 Iv.d) {box:=fun _=>none,nl:=0,hw:=upd (fun _=>none) 0 (some out.length),nt:=1,vw:=upd (upd (fun _=>none) 0 (some (cv out Iv.d))) 0 none:Heap}):=by kernel_rfl
theorem ixA_le (l:List Iv) (t:Int):ixA l t≤l.length:=(List.takeWhile_sublist _).length_le
theorem ixA_lt : ∀ (l : List Iv) (t : Int) (j : Nat), j < ixA l t → (l.getD j default).to < t
  | [], _, _, h => by simp [ixA] at h
  | x :: r, t, j, h => by
    unfold ixA at h
    rw [List.takeWhile_cons] at h
    by_cases hx : x.to < t
    · rw [decide_eq_true hx, if_pos rfl, List.length_cons] at h
      cases j with
      | zero => exact hx
      | succ j => exact ixA_lt r t j (by unfold ixA; omega)
    · rw [decide_eq_false hx, if_neg (by simp)] at h
      simp at h
theorem ixA_at : ∀ (l : List Iv) (t : Int), ixA l t < l.length → ¬ (l.getD (ixA l t) default).to < t
  | [], _, h => by simp at h
  | x :: r, t, h => by
    unfold ixA at h ⊢
    rw [List.takeWhile_cons] at h ⊢
    by_cases hx : x.to < t
    · rw [decide_eq_true hx, if_pos rfl] at h ⊢
      rw [List.length_cons, List.getD_cons_succ]
      exact ixA_at r t (by unfold ixA; simp only [List.length_cons] at h; omega)
    · rw [decide_eq_false hx, if_neg (by simp)]
      exact hx
theorem ixA_mono : ∀ (l : List Iv) {t u : Int}, t ≤ u → ixA l t ≤ ixA l u
  | [], _, _, _ => Nat.le_refl _
  | x :: r, t, u, h => by
    unfold ixA
    rw [List.takeWhile_cons, List.takeWhile_cons]
    by_cases hx : x.to < t
    · rw [decide_eq_true hx, if_pos rfl, decide_eq_true (show x.to < u by omega), if_pos rfl, List.length_cons, List.length_cons]
      exact Nat.succ_le_succ (ixA_mono r h)
    · rw [decide_eq_false hx, if_neg (by simp)]
      exact Nat.zero_le _
theorem ixA_cond {l:List Iv} {t:Int} {i:Nat} (h:i≤ixA l t):(bif decide ((i:Int) < (l.length:Int)) then decide ((l.getD i default).to < t) else false)=decide (i < ixA l t):=by
 have hle:=ixA_le l t
 by_cases hi:i < ixA l t
 ·rw [decide_eq_true hi,decide_eq_true (show (i:Int) < l.length by omega),cond_true,decide_eq_true (ixA_lt l t i hi)]
 ·have he:i=ixA l t:=by omega
  rw [decide_eq_false hi]
  by_cases hl:i < l.length
  ·rw [decide_eq_true (show (i:Int) < l.length by omega),cond_true,he,decide_eq_false (ixA_at l t (by omega))]
  ·rw [decide_eq_false (show ¬ (i:Int) < l.length by omega)]; rfl
theorem ixA_in {l:List Iv} {lo:Int} (hn:Nor lo l) (t:Int):(bif decide ((ixA l t:Int) < (l.length:Int)) then decide ((l.getD (ixA l t) default).frm≤t) else false)=l.any (inP t):=by
 rw [ixA_any hn t]
 by_cases hl:ixA l t < l.length
 ·rw [decide_eq_true (show (ixA l t:Int) < l.length by omega),cond_true]
  exact decide_eq_decide.2 ⟨fun h=>⟨hl,h⟩,fun h=>h.2⟩
 ·rw [decide_eq_false (show ¬ (ixA l t:Int) < l.length by omega),cond_false]
  symm
  exact decide_eq_false fun h=>hl h.1
noncomputable abbrev EnM:Env:=EnV [] [99] Tryz.f33
def StepP [Lay] (fn:Nat) (r:Int):Prop:=∀ (K:D→Heap→Prop) (J:St→Prop) (a b:List Iv) (c:List Int) (out:List Iv) (i k:Nat) (n t:Int),a.length≤1000000→b.length≤1000000 →
 At EnM (fh Tryz.f33 K) [It.code [1,1,1,1,1,0,1,0,0,1,0,0,1,1,1,1],It.blk 1,It.code [1,1,1,1,1,0,1,0,0,1,1],stp [0,1,2,7,8,9,10,11] J,It.blk 0,It.code [1,1,1,1,1,1]] ⟨[(0,L a 2 Iv.d),(1,L b 2 Iv.d),(2,.clo fn []),(7,L c 1 I'),(8,.vec 0 out.length 2),(9,I i),(10,I k),(11,I n),(12,I t),(88,B (okR r (bif decide ((i:Int) < (a.length:Int)) then decide ((a.getD i default).frm≤t) else false) (bif decide ((k:Int) < (b.length:Int)) then decide ((b.getD k default).frm≤t) else false)))],hVec out Iv.d⟩ →
 At EnM (fh Tryz.f33 K) [It.code [1,1,1,1,1,0,1,0,0,1,0,0,1,1,1],It.blk 1,It.code [1,1,1,1,1,0,1,0,0,1,1],stp [0,1,2,7,8,9,10,11] J,It.blk 0,It.code [1,1,1,1,1,1]] (TCm fn a b c out i k n t)
theorem stepU [Lay]:StepP 82 0:=fun K J a b c out i k n t _ _ h=>by
 refine runS_sound hmix _ _ _ (of_eq (nCmU a b c out i k n t _ _) fun _=>⟨fun hh=>⟨by omega,of_decide_eq_true hh⟩,fun _=>⟨fun hh=>⟨by omega,of_decide_eq_true hh⟩,PureW.mk (c82 _ _),?_⟩⟩)
 rw [Int.toNat_natCast,Int.toNat_natCast]
 exact h
theorem stepI [Lay]:StepP 131 1:=fun K J a b c out i k n t _ _ h=>by
 refine runS_sound hmix _ _ _ (of_eq (nCmI a b c out i k n t _ _) fun _=>⟨fun hh=>⟨by omega,of_decide_eq_true hh⟩,fun _=>⟨fun hh=>⟨by omega,of_decide_eq_true hh⟩,PureW.mk (c131 _ _),?_⟩⟩)
 rw [Int.toNat_natCast,Int.toNat_natCast]
 exact h
theorem stepW [Lay]:StepP 34 2:=fun K J a b c out i k n t _ _ h=>by
 refine runS_sound hmix _ _ _ (of_eq (nCmW a b c out i k n t _ _) fun _=>⟨fun hh=>⟨by omega,of_decide_eq_true hh⟩,fun _=>⟨fun hh=>⟨by omega,of_decide_eq_true hh⟩,PureW.mk (c34 _ _),?_⟩⟩)
 rw [Int.toNat_natCast,Int.toNat_natCast]
 exact h
theorem cutZ_len (a b:List Iv):(cutZ a b).length≤2 * a.length+2 * b.length:=by
 refine Nat.le_trans (cpt_len _) ?_
 rw [srtZ_len,List.length_append,ptsI_len,ptsI_len]; omega
theorem filt_len (l : List Iv) (f t : Int) : (iclip l f t).length ≤ l.length := by
  have hm : ∀ (q out : List Iv), (q.foldl mrg out).length ≤ out.length + q.length := fun q => by
    induction q with
    | nil => intro out; simp
    | cons x r ih =>
      intro out
      rw [List.foldl_cons]
      have := ih (mrg out x)
      have := mrg_len out x
      rw [List.length_cons]; omega
  unfold iclip
  have h1 := hm (srtI (l.filterMap (clip1I (loT f) (hiT t)))) []
  have h2 := srtI_len (l.filterMap (clip1I (loT f) (hiT t)))
  have h3 : (l.filterMap (clip1I (loT f) (hiT t))).length ≤ l.length := List.length_filterMap_le _ _
  simp only [List.length_nil] at h1
  omega
theorem norI_len (l:List Iv):(norI l).length≤l.length:=filt_len _ _ _
theorem combG [Lay] (fn:Nat) (r:Int) (hst:StepP fn r) (a b:List Iv) (ha:a.length≤10000) (hb:b.length≤10000):Pure PP 33 [L a 2 Iv.d,L b 2 Iv.d,.clo fn []] (L (cmR r a b) 2 Iv.d):=by
 rw [← comb_eq]
 have la:=norI_len a
 have lb:=norI_len b
 have na:=(norI_spec a).1
 have nb:=(norI_spec b).1
 refine pr F33 (by kernel_rfl) (of_eq (nCo fn a b _) ⟨PureW.mk (c58 a (by omega)),PureW.mk (c58 b (by omega)),PureW.mk (c59 _ _ (by omega) (by omega)),?_⟩)
 have hcs:=(cutZ_spec (norI a) (norI b)).1
 have hcl:=cutZ_len (norI a) (norI b)
 generalize norI a=A at *
 generalize norI b=B' at *
 generalize cutZ A B'=c at *
 have hcm:c.length≤lenM:=by unfold lenM; omega
 refine at_le (st':=SCm fn A B' c [] ((0:Nat):Int) ((0:Nat):Int) ((0:Nat):Int)) ?_ ((StLe.idle _ (some (cv ([]:List Iv) Iv.d)) 8 2 (cv ([]:List Iv) Iv.d) rfl).cast (by kernel_rfl))
 refine lp (fn:=Tryz.f33) (fun z:Nat × Nat × Nat × List Iv=>z.1≤c.length∧(z.1 < c.length→z.2.1≤ixA A (c.getD z.1 default)∧z.2.2.1≤ixA B' (c.getD z.1 default))∧z.2.2.2.length≤z.1∧cmbC (okR r) A B' c=z.2.2.2++cmbC (okR r) A B' (c.drop z.1)) (fun z=>SCm fn A B' c z.2.2.2 z.2.1 z.2.2.1 z.1) (fun z=>c.length - z.1) [0,1,2,7,8,9,10,11] (by kernel_rfl) (fun z hz=>of_eq (nCmA fn A B' c z.2.2.2 z.2.1 z.2.2.1 z.1 _ _) fun _=> ?_) (0,0,0,[]) ⟨Nat.zero_le _,fun _=>⟨Nat.zero_le _,Nat.zero_le _⟩,Nat.le_refl _,rfl⟩
 obtain ⟨n,i,k,out⟩:=z
 obtain ⟨hn,hik,hol,hcc⟩:=hz
 simp only at hn hik hol hcc ⊢
 have hn1:addI .i64 (n:Int) 1=((n+1:Nat):Int):=by rw [add64 (by omega) (by omega)]; rfl
 rw [hn1]
 refine cond_intro (fun hlt=>⟨⟨by omega,by have:=of_decide_eq_true hlt; omega⟩,?_⟩) fun hge=> ?_
 ·have hlt:n+1 < c.length:=ltI hlt
  obtain ⟨hi,hk⟩:=hik (by omega)
  have htu:c.getD n default≤c.getD (n+1) default:=by
   have:=List.pairwise_iff_getElem.1 hcs n (n+1) (by omega) hlt (by omega)
   rw [List.getD_eq_getElem?_getD,List.getD_eq_getElem?_getD,List.getElem?_eq_getElem (show n < c.length by omega),List.getElem?_eq_getElem hlt]
   exact Int.le_of_lt this
  rw [drop_cons c n (by omega),drop_cons c (n+1) hlt,cmbC,← drop_cons c (n+1) hlt] at hcc
  rw [Int.toNat_natCast]
  generalize hte:c.getD n default=t at hi hk htu hcc ⊢
  refine lp (fn:=Tryz.f33) (fun i:Nat=>i≤ixA A t) (fun i=>TCm fn A B' c out i k n t) (fun i=>A.length - i) [0,1,2,7,8,9,10,11,12] (by kernel_rfl) (fun i hi=>of_eq (nCmB fn A B' c out i k n t _ _ _) fun _=> ?_) i hi
  have hiA:=ixA_le A t
  rw [Int.toNat_natCast,ixA_cond hi]
  refine ⟨fun h=>⟨by omega,of_decide_eq_true h⟩,cond_intro (fun h=> ?_) fun h=> ?_⟩
  ·have h:=of_decide_eq_true h
   have hi1:addI .i64 (i:Int) 1=((i+1:Nat):Int):=by rw [add64 (by omega) (by omega)]; rfl
   rw [hi1]
   exact Nx.mk (i+1) h (by omega)
  have hie:i=ixA A t:=by have:=of_decide_eq_false h; omega
  refine lp (fn:=Tryz.f33) (fun k:Nat=>k≤ixA B' t) (fun k=>TCm fn A B' c out i k n t) (fun k=>B'.length - k) [0,1,2,7,8,9,10,11,12] (by kernel_rfl) (fun k hk=>of_eq (nCmC fn A B' c out i k n t _ _ _) fun _=> ?_) k hk
  have hkB:=ixA_le B' t
  rw [Int.toNat_natCast,ixA_cond hk]
  refine ⟨fun h=>⟨by omega,of_decide_eq_true h⟩,cond_intro (fun h=> ?_) fun h=> ?_⟩
  ·have h:=of_decide_eq_true h
   have hk1:addI .i64 (k:Int) 1=((k+1:Nat):Int):=by rw [add64 (by omega) (by omega)]; rfl
   rw [hk1]
   exact Nx.mk (k+1) h (by omega)
  have hke:k=ixA B' t:=by have:=of_decide_eq_false h; omega
  refine hst _ _ A B' c out i k n t (by omega) (by omega) ?_
  rw [hie,hke,ixA_in na t,ixA_in nb t]
  generalize hok:okR r (A.any (inP t)) (B'.any (inP t))=ok at hcc ⊢
  refine runS_sound hmix _ _ _ (of_eq (nCmE fn A B' c out (ixA A t) (ixA B' t) n t ok _ _) ?_)
  rw [hn1,Int.toNat_natCast]
  have hnx:n+1 < c.length→ixA A t≤ixA A (c.getD (n+1) default)∧ixA B' t≤ixA B' (c.getD (n+1) default):=fun _=>⟨ixA_mono A htu,ixA_mono B' htu⟩
  refine cond_intro (fun h=> ?_) fun h=> ?_
  ·rw [h,if_pos rfl,← List.append_assoc] at hcc
   refine ⟨⟨by omega,by omega⟩,⟨upd_same _ _ _,by unfold roomM; omega⟩,Nx.of (n+1,ixA A t,ixA B' t,out++[⟨t,subI .i64 (c.getD (n+1) default) 1⟩]) ⟨by simp only; omega,hnx,by simp only [List.length_append,List.length_singleton]; omega,hcc⟩ (by simp only; omega) ?_⟩
   simp only [SCm,hVec,List.length_append,List.length_singleton]
   rw [upd_upd,upd_upd]
   exact StLe.vec (t:=0) (n:=out.length+1) (upd_same _ _ _) fun j hj=>cat_cv (enc:=Iv.d) (x:=(⟨t,subI .i64 (c.getD (n+1) default) 1⟩:Iv)) rfl hj
  ·rw [h,if_neg (by simp),List.nil_append] at hcc
   exact Nx.mk (n+1,ixA A t,ixA B' t,out) ⟨by simp only; omega,hnx,by simp only; omega,hcc⟩ (by simp only; omega)
 ·have hge:c.length≤n+1:=geI hge
  have hrest:cmbC (okR r) A B' (c.drop n)=[]:=by
   rcases hd:c.drop n with _ | ⟨x,_ | ⟨y,q⟩⟩
   ·rfl
   ·rfl
   ·have:=congrArg List.length hd
    simp only [List.length_drop,List.length_cons] at this
    omega
  rw [hrest,List.append_nil] at hcc
  rw [hcc]
  refine at_le (st':=⟨[(8,L out 2 Iv.d)],hFrz (hVec out Iv.d) 0⟩) ?_ (((StLe.frz 0 (n:=out.length) (f:=cv out Iv.d) rfl rfl (by simp [frzSlOk,frzOk])).trans (StLe.set 8 (d':=L out 2 Iv.d) rfl Wk.tokL rfl rfl)).cast (by kernel_rfl))
  exact runS_sound hmix _ _ _ (of_eq (nCmF out _) ⟨PureW.mk (c58 out (by omega)),⟨_,RetLe.refl _ _⟩⟩)
theorem c33U [Lay] (a b:List Iv) (ha:a.length≤10000) (hb:b.length≤10000):Pure PP 33 [L a 2 Iv.d,L b 2 Iv.d,.clo 82 []] (L (cmR 0 a b) 2 Iv.d):=combG _ 0 stepU a b ha hb
theorem c33I [Lay] (a b:List Iv) (ha:a.length≤10000) (hb:b.length≤10000):Pure PP 33 [L a 2 Iv.d,L b 2 Iv.d,.clo 131 []] (L (cmR 1 a b) 2 Iv.d):=combG _ 1 stepI a b ha hb
theorem c33W [Lay] (a b:List Iv) (ha:a.length≤10000) (hb:b.length≤10000):Pure PP 33 [L a 2 Iv.d,L b 2 Iv.d,.clo 34 []] (L (cmR 2 a b) 2 Iv.d):=combG _ 2 stepW a b ha hb
end Go.Proofs.YtiekphbkomddfaaGreatDoor.S1
namespace Go.Proofs.YtiekphbkomddfaaGreatDoor.S1
open Go Go.Ab Go.Proofs
theorem heap_e {h:Heap}:HeapLe h ⟨fun _=>none,h.nl,fun _=>none,h.nt,fun _=>none⟩:=⟨fun l row' e=>(by cases e),Nat.le_refl _,fun t n e=>(by cases e),Nat.le_refl _,fun t n e=>(by cases e),fun _ _=>rfl⟩
def hT1:Heap:=⟨fun _=>none,0,fun _=>none,1,fun _=>none⟩
theorem F52:OkF 52 Tryz.f52:=⟨by kernel_rfl,by kernel_rfl,by kernel_rfl⟩
def lv52:List (List Nat × List Nat):=[]
noncomputable def nUns (a:List Iv) (b:List Iv):List Nat→Nat→Option Ans:=scrAt [([1,0],2,Ans.pure [L a 2 Iv.d,L b 2 Iv.d,D.clo 82 []] (L (cmR 0 a b) 2 Iv.d))]
theorem nUn [Lay] (a b:List Iv) (K:D→Prop):runS (En Tryz.f52) (fi Tryz.f52 K) (nUns a b) lv52 200 [.code []] ⟨argSlots 0 [L a 2 Iv.d,L b 2 Iv.d],.empty⟩ =
 (PureW PP 33 [L a 2 Iv.d,L b 2 Iv.d,D.clo 82 []] [L a 2 Iv.d,L b 2 Iv.d,D.clo 82 []] (L (cmR 0 a b) 2 Iv.d)∧K (L (cmR 0 a b) 2 Iv.d)):=by kernel_rfl
theorem F91:OkF 91 Tryz.f91:=⟨by kernel_rfl,by kernel_rfl,by kernel_rfl⟩
def lv91:List (List Nat × List Nat):=[]
noncomputable def nIss (a:List Iv) (b:List Iv):List Nat→Nat→Option Ans:=scrAt [([1,0],2,Ans.pure [L a 2 Iv.d,L b 2 Iv.d,D.clo 131 []] (L (cmR 1 a b) 2 Iv.d))]
theorem nIs [Lay] (a b:List Iv) (K:D→Prop):runS (En Tryz.f91) (fi Tryz.f91 K) (nIss a b) lv91 200 [.code []] ⟨argSlots 0 [L a 2 Iv.d,L b 2 Iv.d],.empty⟩ =
 (PureW PP 33 [L a 2 Iv.d,L b 2 Iv.d,D.clo 131 []] [L a 2 Iv.d,L b 2 Iv.d,D.clo 131 []] (L (cmR 1 a b) 2 Iv.d)∧K (L (cmR 1 a b) 2 Iv.d)):=by kernel_rfl
theorem F17:OkF 17 Tryz.f17:=⟨by kernel_rfl,by kernel_rfl,by kernel_rfl⟩
def lv17:List (List Nat × List Nat):=[]
noncomputable def nWos (a:List Iv) (b:List Iv):List Nat→Nat→Option Ans:=scrAt [([1,0],2,Ans.pure [L a 2 Iv.d,L b 2 Iv.d,D.clo 34 []] (L (cmR 2 a b) 2 Iv.d))]
theorem nWo [Lay] (a b:List Iv) (K:D→Prop):runS (En Tryz.f17) (fi Tryz.f17 K) (nWos a b) lv17 200 [.code []] ⟨argSlots 0 [L a 2 Iv.d,L b 2 Iv.d],.empty⟩ =
 (PureW PP 33 [L a 2 Iv.d,L b 2 Iv.d,D.clo 34 []] [L a 2 Iv.d,L b 2 Iv.d,D.clo 34 []] (L (cmR 2 a b) 2 Iv.d)∧K (L (cmR 2 a b) 2 Iv.d)):=by kernel_rfl
theorem c52 [Lay] (a b:List Iv) (ha:a.length≤10000) (hb:b.length≤10000):Pure PP 52 [L a 2 Iv.d,L b 2 Iv.d] (L (cmR 0 a b) 2 Iv.d):=pu F52 (by kernel_rfl) (of_eq (nUn a b _) ⟨PureW.mk (c33U a b ha hb),Wk.refl _⟩)
theorem c91 [Lay] (a b:List Iv) (ha:a.length≤10000) (hb:b.length≤10000):Pure PP 91 [L a 2 Iv.d,L b 2 Iv.d] (L (cmR 1 a b) 2 Iv.d):=pu F91 (by kernel_rfl) (of_eq (nIs a b _) ⟨PureW.mk (c33I a b ha hb),Wk.refl _⟩)
theorem c17 [Lay] (a b:List Iv) (ha:a.length≤10000) (hb:b.length≤10000):Pure PP 17 [L a 2 Iv.d,L b 2 Iv.d] (L (cmR 2 a b) 2 Iv.d):=pu F17 (by kernel_rfl) (of_eq (nWo a b _) ⟨PureW.mk (c33W a b ha hb),Wk.refl _⟩)
theorem Pure.wkA [Lay] {f:Nat} {args args':List D} {v:D} (p:Pure PP f args' v) (da:Datas args) (h:Wks args args'):Pure PP f args v:=by
 obtain ⟨h1,h2,h3,h4⟩:=p
 exact ⟨h1,da,h3,fun g w vs a b hs=>h4 g w vs a b (h g vs hs)⟩
instance ddLit1 {sz:Nat} {x:D} [h:DD x]:DD (.list 1 sz (litG [x]) .full):=⟨by
 simp only [Ab.Data]
 refine ⟨fun i hi=> ?_,fun _ _ h=>by cases h⟩
 have:i=0:=by omega
 subst this
 exact h.p⟩
theorem c171 [Lay] (f t:Int) (b:List Iv) (hb:b.length≤10000):Pure PP 17 [.list 1 2 (litG [.agg [I f,I t]]) .full,L b 2 Iv.d] (L (cmR 2 [⟨f,t⟩] b) 2 Iv.d):=by
 have d:DS [D.list 1 2 (litG [.agg [I f,I t]]) .full,L b 2 Iv.d]:=inferInstance
 exact Pure.wkA (c17 [⟨f,t⟩] b (by simp) hb) d.p (Wks.cons (Wk.litL (enc:=Iv.d) (l:=[⟨f,t⟩]) rfl rfl) (Wks.refl _))
theorem F92:OkF 92 Tryz.f92:=⟨by kernel_rfl,by kernel_rfl,by kernel_rfl⟩
def lv92:List (List Nat × List Nat):=[]
noncomputable def nCps (l:List Iv) (f:Int) (t:Int):List Nat→Nat→Option Ans:=scrAt [([1,0],5,Ans.pure [.list 1 2 (litG [.agg [I f,I t]]) .full,L l 2 Iv.d] (L (cmR 2 [{frm:=f,to:=t:Iv}] l) 2 Iv.d))]
theorem nCp [Lay] (l:List Iv) (f t:Int) (K:D→Prop):runS (En Tryz.f92) (fi Tryz.f92 K) (nCps l f t) lv92 200 [.code []] ⟨argSlots 0 [L l 2 Iv.d,I f,I t],.empty⟩ =
 (PureW PP 17 [.list 1 2 (litG [.agg [I f,I t]]) .full,L l 2 Iv.d] [.list 1 2 (litG [.agg [I f,I t]]) .full,L l 2 Iv.d] (L (cmR 2 [{frm:=f,to:=t:Iv}] l) 2 Iv.d)∧K (L (cmR 2 [{frm:=f,to:=t:Iv}] l) 2 Iv.d)):=by kernel_rfl
def cmpI (l:List Iv) (f t:Int):List Iv:=cmR 2 [⟨f,t⟩] l
theorem c92 [Lay] (l:List Iv) (f t:Int) (hl:l.length≤10000):Pure PP 92 [L l 2 Iv.d,I f,I t] (L (cmpI l f t) 2 Iv.d):=pu F92 (by kernel_rfl) (of_eq (nCp l f t _) ⟨PureW.mk (c171 f t l hl),Wk.refl _⟩)
theorem F83:OkF 83 Tryz.f83:=⟨by kernel_rfl,by kernel_rfl,by kernel_rfl⟩
def lv83:List (List Nat × List Nat):=[]
noncomputable def nDls:List Nat→Nat→Option Ans:=scrAt []
theorem nDl [Lay] (a b:Int) (K:D→Prop):runS (En Tryz.f83) (fi Tryz.f83 K) (nDls ) lv83 200 [.code []] ⟨argSlots 0 [I a,I b],.empty⟩ =
 (K (B (bif bif decide (a≥ -1099511627776) then decide (b≤1099511627776) else false then decide (a≤b) else false))):=by kernel_rfl
def dlyB (a b:Int):Bool:=bif bif decide (a≥ -1099511627776) then decide (b≤1099511627776) else false then decide (a≤b) else false
theorem c83 [Lay] (a b:Int):Pure PP 83 [I a,I b] (B (dlyB a b)):=pu F83 (by kernel_rfl) (of_eq (nDl a b _) (Wk.refl _))
theorem F84:OkF 84 Tryz.f84:=⟨by kernel_rfl,by kernel_rfl,by kernel_rfl⟩
def lv84:List (List Nat × List Nat):=[([1,1,0,1,0],[1,2,3,4,11,15,16,17]),([1,1,1],[3,4,11])]
noncomputable def nMvs (l:List Iv):List Nat→Nat→Option Ans:=scrAt [([1,1,0,0],1,Ans.pure [L l 2 Iv.d] (L (norI l) 2 Iv.d))]
theorem nMv [Lay] (l:List Iv) (u v f t:Int) (K:D→Prop):runS (En Tryz.f84) (fi Tryz.f84 K) (nMvs l) lv84 200 [.code []] ⟨argSlots 0 [L l 2 Iv.d,I u,I v,I f,I t],.empty⟩ =
 (PureW PP 58 [L l 2 Iv.d] [L l 2 Iv.d] (L (norI l) 2 Iv.d)∧((norI l).length≤lenM→At (En Tryz.f84) (fi Tryz.f84 K) [It.code [1,1,0,1,0],It.blk 0,It.code [1,1,1]] {sl:=[(1,I u),(2,I v),(3,I f),(4,I t),(11,.list 0 0 (fun _=>D.junk) .full),(15,L (norI l) 2 Iv.d),(16,I (↑(norI l).length:Int)),(17,I 0)],h:=Heap.empty:St})):=by kernel_rfl
def SMv (q:List Iv) (u v f t:Int) (out:List Iv) (i:Int):St:=⟨[(1,I u),(2,I v),(3,I f),(4,I t),(11,LT out 2 Iv.d 0),(15,L q 2 Iv.d),(16,I q.length),(17,I i)],hN out.length 1⟩
noncomputable def nMvas:List Nat→Nat→Option Ans:=scrAt []
theorem nMva [Lay] (q:List Iv) (u v f t:Int) (out:List Iv) (i:Int) (J:St→Prop) (K:D→Prop):runS (En Tryz.f84) (fi Tryz.f84 K) (nMvas ) lv84 200 [.code [1,1,0,1,0,0],stp [1,2,3,4,11,15,16,17] J,.blk 0,.code [1,1,1]] (SMv q u v f t out i) =
 (bif decide (i < (↑q.length:Int)) then (0≤i∧i < (↑q.length:Int))∧True∧(upd (fun _=>none) 0 (some out.length) 0=some out.length∧(out.length+1) * 16≤roomM)∧J {sl:=[(1,I u),(2,I v),(3,I f),(4,I t),(11,.list (out.length+1) 2 (catG out.length (fun i=>(out.getD i default).d) (litG [.agg [I (addI .i64 (q.getD i.toNat default).frm u),I (addI .i64 (q.getD i.toNat default).to v)]])) (.tok 0 2)),(15,L q 2 Iv.d),(16,I (↑q.length:Int)),(17,I (addI .i64 i 1))],h:={box:=fun _=>none,nl:=0,hw:=upd (upd (fun _=>none) 0 (some out.length)) 0 (some (out.length+1)),nt:=1,vw:=fun _=>none:Heap}:St} else At (En Tryz.f84) (fi Tryz.f84 K) [It.code [1,1,1]] {sl:=[(3,I f),(4,I t),(11,.list out.length 2 (fun i=>(out.getD i default).d) (.tok 0 2))],h:={box:=fun _=>none,nl:=0,hw:=upd (fun _=>none) 0 (some out.length),nt:=1,vw:=fun _=>none:Heap}:St}):=by kernel_rfl
noncomputable def nMvbs (f:Int) (t:Int) (out:List Iv):List Nat→Nat→Option Ans:=scrAt [([1,1,1,0],3,Ans.pure [L out 2 Iv.d,I f,I t] (L (iclip out f t) 2 Iv.d))]
theorem nMvb [Lay] (f t:Int) (out:List Iv) (K:D→Prop):runS (En Tryz.f84) (fi Tryz.f84 K) (nMvbs f t out) nolv 200 [.code [1,1,1]] ⟨[(3,I f),(4,I t),(11,L out 2 Iv.d)],hT1⟩ =
 (PureW PP 20 [L out 2 Iv.d,I f,I t] [L out 2 Iv.d,I f,I t] (L (iclip out f t) 2 Iv.d)∧K (L (iclip out f t) 2 Iv.d)):=by kernel_rfl
def mvF (u v:Int) (x:Iv):Iv:=⟨addI .i64 x.frm u,addI .i64 x.to v⟩
def mvI (l:List Iv) (u v f t:Int):List Iv:=iclip ((norI l).map (mvF u v)) f t
theorem c84 [Lay] (l:List Iv) (u v f t:Int) (hb:l.length≤10000):Pure PP 84 [L l 2 Iv.d,I u,I v,I f,I t] (L (mvI l u v f t) 2 Iv.d):=by
 have hn:=norI_len l
 refine pu F84 (by kernel_rfl) (of_eq (nMv l u v f t _) ⟨PureW.mk (c58 l (by omega)),fun hlm=> ?_⟩)
 unfold mvI
 generalize norI l=q at hn hlm ⊢
 refine at_le (st':=SMv q u v f t ((q.take 0).map (mvF u v)) ((0:Nat):Int)) ?_ ((StLe.idle _ none 11 2 (fun i=>Iv.d (([]:List Iv).getD i default)) rfl).cast (by kernel_rfl))
 refine lp (fn:=Tryz.f84) (fun i:Nat=>i≤q.length) (fun i=>SMv q u v f t ((q.take i).map (mvF u v)) i) (fun i=>q.length - i) [1,2,3,4,11,15,16,17] (by kernel_rfl) (fun i hi=>of_eq (nMva q u v f t _ i _ _) (cond_intro (fun hlt=> ?_) fun hge=> ?_)) 0 (Nat.zero_le _)
 ·have hlt:=ltI hlt
  have ht:((q.take i).map (mvF u v)).length=i:=by rw [List.length_map,List.length_take]; omega
  rw [add1 hlt hlm,Int.toNat_natCast]
  refine ⟨⟨by omega,by omega⟩,trivial,⟨upd_same _ _ _,by rw [ht]; unfold roomM; omega⟩,Nx.of (i+1) hlt (by omega) ?_⟩
  rw [take_snoc _ _ hlt,List.map_append,List.map_singleton]
  generalize (q.take i).map (mvF u v)=out
  unfold SMv hN
  rw [List.length_append,List.length_singleton,upd_upd]
  exact (StLe.set 11 rfl (Wk.snoc (enc:=Iv.d) (x:=mvF u v (q.getD i default))) rfl rfl).cast (by kernel_rfl)
 ·rw [List.take_of_length_le (geI hge)]
  have hml:(q.map (mvF u v)).length≤100000:=by rw [List.length_map]; omega
  refine at_le (st':=⟨[(3,I f),(4,I t),(11,L (q.map (mvF u v)) 2 Iv.d)],hT1⟩) (runS_sound hmix _ _ _ (of_eq (nMvb f t _ _) ⟨PureW.mk (c20 _ f t hml),Wk.refl _⟩)) ?_
  exact ((StLe.set 11 (d':=L (q.map (mvF u v)) 2 Iv.d) rfl Wk.tokL rfl rfl).trans (StLe.heapLe heap_e)).cast (by kernel_rfl)
theorem F53:OkF 53 Tryz.f53:=⟨by kernel_rfl,by kernel_rfl,by kernel_rfl⟩
def lv53:List (List Nat × List Nat):=[]
noncomputable def nGrs (l:List Iv) (a:Int) (b:Int) (f:Int) (t:Int):List Nat→Nat→Option Ans:=scrAt [([1,0,0],2,Ans.pure [I a,I b] (B (dlyB a b))),([1,1,0],7,Ans.pure [L l 2 Iv.d,I (subI .i64 0 b),I (subI .i64 0 a),I f,I t] (L (mvI l (subI .i64 0 b) (subI .i64 0 a) f t) 2 Iv.d))]
theorem nGr [Lay] (l:List Iv) (a b f t:Int) (K:D→Prop):runS (En Tryz.f53) (fi Tryz.f53 K) (nGrs l a b f t) lv53 200 [.code []] ⟨argSlots 0 [L l 2 Iv.d,I a,I b,I f,I t],.empty⟩ =
 (PureW PP 83 [I a,I b] [I a,I b] (B (dlyB a b))∧bif !dlyB a b then K (.list 0 0 (fun _=>D.junk) .full) else PureW PP 84 [L l 2 Iv.d,I (subI .i64 0 b),I (subI .i64 0 a),I f,I t] [L l 2 Iv.d,I (subI .i64 0 b),I (subI .i64 0 a),I f,I t] (L (mvI l (subI .i64 0 b) (subI .i64 0 a) f t) 2 Iv.d)∧K (L (mvI l (subI .i64 0 b) (subI .i64 0 a) f t) 2 Iv.d)):=by kernel_rfl
def grwI (l:List Iv) (a b f t:Int):List Iv:=bif !dlyB a b then [] else mvI l (subI .i64 0 b) (subI .i64 0 a) f t
theorem c53 [Lay] (l:List Iv) (a b f t:Int) (hb:l.length≤10000):Pure PP 53 [L l 2 Iv.d,I a,I b,I f,I t] (L (grwI l a b f t) 2 Iv.d):=by
 refine pu F53 (by kernel_rfl) (of_eq (nGr l a b f t _) ⟨PureW.mk (c83 a b),cond_intro (fun h=> ?_) fun h=> ?_⟩)
 ·unfold grwI
  rw [h]; exact Wk.nilL
 ·unfold grwI
  rw [h]; exact ⟨PureW.mk (c84 l _ _ f t hb),Wk.refl _⟩
theorem F81:OkF 81 Tryz.f81:=⟨by kernel_rfl,by kernel_rfl,by kernel_rfl⟩
def lv81:List (List Nat × List Nat):=[([1,1,0,1,0],[3,6,7,8]),([1,1,1],[3])]
noncomputable def nIofs:List Nat→Nat→Option Ans:=scrAt []
theorem nIof [Lay] (l:List Int) (K:D→Prop):runS (En Tryz.f81) (fi Tryz.f81 K) (nIofs ) lv81 200 [.code []] ⟨argSlots 0 [L l 1 I'],.empty⟩ =
 (l.length≤lenM→At (En Tryz.f81) (fi Tryz.f81 K) [It.code [1,1,0,1,0],It.blk 0,It.code [1,1,1]] {sl:=[(3,.list 0 0 (fun _=>D.junk) .full),(6,L l 1 I'),(7,I (↑l.length:Int)),(8,I 0)],h:=Heap.empty:St}):=by kernel_rfl
def SIof (l:List Int) (out:List Iv) (i:Int):St:=⟨[(3,LT out 2 Iv.d 0),(6,L l 1 I'),(7,I l.length),(8,I i)],hN out.length 1⟩
noncomputable def nIofas:List Nat→Nat→Option Ans:=scrAt []
theorem nIofa [Lay] (l:List Int) (out:List Iv) (i:Int) (J:St→Prop) (K:D→Prop):runS (En Tryz.f81) (fi Tryz.f81 K) (nIofas ) lv81 200 [.code [1,1,0,1,0,0],stp [3,6,7,8] J,.blk 0,.code [1,1,1]] (SIof l out i) =
 (bif decide (i < (↑l.length:Int)) then (0≤i∧i < (↑l.length:Int))∧(upd (fun _=>none) 0 (some out.length) 0=some out.length∧(out.length+1) * 16≤roomM)∧J {sl:=[(3,.list (out.length+1) 2 (catG out.length (fun i=>(out.getD i default).d) (litG [.agg [I (l.getD i.toNat default),I (l.getD i.toNat default)]])) (.tok 0 2)),(6,L l 1 I'),(7,I (↑l.length:Int)),(8,I (addI .i64 i 1))],h:={box:=fun _=>none,nl:=0,hw:=upd (upd (fun _=>none) 0 (some out.length)) 0 (some (out.length+1)),nt:=1,vw:=fun _=>none:Heap}:St} else At (En Tryz.f81) (fi Tryz.f81 K) [It.code [1,1,1]] {sl:=[(3,.list out.length 2 (fun i=>(out.getD i default).d) (.tok 0 2))],h:={box:=fun _=>none,nl:=0,hw:=upd (fun _=>none) 0 (some out.length),nt:=1,vw:=fun _=>none:Heap}:St}):=by kernel_rfl
noncomputable def nIofbs (out:List Iv):List Nat→Nat→Option Ans:=scrAt [([1,1,1,0],1,Ans.pure [L out 2 Iv.d] (L (norI out) 2 Iv.d))]
theorem nIofb [Lay] (out:List Iv) (K:D→Prop):runS (En Tryz.f81) (fi Tryz.f81 K) (nIofbs out) nolv 200 [.code [1,1,1]] ⟨[(3,L out 2 Iv.d)],hT1⟩ =
 (PureW PP 58 [L out 2 Iv.d] [L out 2 Iv.d] (L (norI out) 2 Iv.d)∧K (L (norI out) 2 Iv.d)):=by kernel_rfl
def ptF (t:Int):Iv:=⟨t,t⟩
theorem c81 [Lay] (l:List Int) (hb:l.length≤10000):Pure PP 81 [L l 1 I'] (L (norI (l.map ptF)) 2 Iv.d):=by
 refine pu F81 (by kernel_rfl) (of_eq (nIof l _) fun hlm=> ?_)
 refine at_le (st':=SIof l ((l.take 0).map ptF) ((0:Nat):Int)) ?_ ((StLe.idle _ none 3 2 (fun i=>Iv.d (([]:List Iv).getD i default)) rfl).cast (by kernel_rfl))
 refine lp (fn:=Tryz.f81) (fun i:Nat=>i≤l.length) (fun i=>SIof l ((l.take i).map ptF) i) (fun i=>l.length - i) [3,6,7,8] (by kernel_rfl) (fun i hi=>of_eq (nIofa l _ i _ _) (cond_intro (fun hlt=> ?_) fun hge=> ?_)) 0 (Nat.zero_le _)
 ·have hlt:=ltI hlt
  have ht:((l.take i).map ptF).length=i:=by rw [List.length_map,List.length_take]; omega
  rw [add1 hlt hlm,Int.toNat_natCast]
  refine ⟨⟨by omega,by omega⟩,⟨upd_same _ _ _,by rw [ht]; unfold roomM; omega⟩,Nx.of (i+1) hlt (by omega) ?_⟩
  rw [take_snoc _ _ hlt,List.map_append,List.map_singleton]
  generalize (l.take i).map ptF=out
  unfold SIof hN
  rw [List.length_append,List.length_singleton,upd_upd]
  exact (StLe.set 3 rfl (Wk.snoc (enc:=Iv.d) (x:=ptF (l.getD i default))) rfl rfl).cast (by kernel_rfl)
 ·rw [List.take_of_length_le (geI hge)]
  have hml:(l.map ptF).length≤100000:=by rw [List.length_map]; omega
  refine at_le (st':=⟨[(3,L (l.map ptF) 2 Iv.d)],hT1⟩) (runS_sound hmix _ _ _ (of_eq (nIofb _ _) ⟨PureW.mk (c58 _ hml),Wk.refl _⟩)) ?_
  exact ((StLe.set 3 (d':=L (l.map ptF) 2 Iv.d) rfl Wk.tokL rfl rfl).trans (StLe.heapLe heap_e)).cast (by kernel_rfl)
end Go.Proofs.YtiekphbkomddfaaGreatDoor.S1
namespace Go.Proofs.YtiekphbkomddfaaGreatDoor.S1
open Go Go.Ab Go.Proofs
-- nolay
attribute [local instance] LT10
structure Tol where (time:Int) (val:Str) (unk:Bool) deriving Inhabited,DecidableEq
def Tol.d (x:Tol):D:= .agg [I x.time,.str x.val,B x.unk]
instance ddTol {x:Tol}:DD x.d:=inferInstanceAs (DD (.agg _))
theorem F23:OkF 23 Tryz.f23:=⟨by kernel_rfl,by kernel_rfl,by kernel_rfl⟩
def lv23:List (List Nat × List Nat):=[]
noncomputable def nCvas (t:Tol):List Nat→Nat→Option Ans:=scrAt [([1,0],11,Ans.pure [.str t.val] (B (canG t.val).snd)),([1,0],16,Ans.pure [.str t.val] (I (dsF t.val)))]
theorem nCva (t:Tol) (K:D→Prop):runS (En Tryz.f23) (fi Tryz.f23 K) (nCvas t) lv23 200 [.code []] ⟨argSlots 0 [t.d],.empty⟩ =
 (((bif decide (t.time≥0) then decide (t.time≤1099511627776) else false)=true→PureW PP 40 [.str t.val] [.str t.val] (B (canG t.val).snd))∧((bif bif decide (t.time≥0) then decide (t.time≤1099511627776) else false then (canG t.val).snd else false)=true→PureW PP 41 [.str t.val] [.str t.val] (I (dsF t.val)))∧K (B (bif bif bif decide (t.time≥0) then decide (t.time≤1099511627776) else false then (canG t.val).snd else false then decide (dsF t.val≥0) else false))):=by kernel_rfl
theorem F24:OkF 24 Tryz.f24:=⟨by kernel_rfl,by kernel_rfl,by kernel_rfl⟩
def lv24:List (List Nat × List Nat):=[]
noncomputable def nCuks:List Nat→Nat→Option Ans:=scrAt []
theorem nCuk (c:UInt8) (K:D→Prop):runS (En Tryz.f24) (fi Tryz.f24 K) (nCuks ) lv24 200 [.code []] ⟨argSlots 0 [encB c],.empty⟩ =
 (K (B (bif (↑c.toNat:Int)==120 then true else (↑c.toNat:Int)==122))):=by kernel_rfl
def tolB (t:Tol):Bool:=bif bif bif decide (t.time≥0) then decide (t.time≤1099511627776) else false then (canG t.val).2 else false then decide (dsF t.val≥0) else false
def unkB (c:UInt8):Bool:=bif (c.toNat:Int)==120 then true else (c.toNat:Int)==122
theorem c23 (t:Tol):Pure PP 23 [t.d] (B (tolB t)):=pu F23 (by kernel_rfl) (of_eq (nCva t _) ⟨fun _=>PureW.mk (c40 _),fun _=>PureW.mk (c41 _),Wk.refl _⟩)
theorem c24 (c:UInt8):Pure PP 24 [encB c] (B (unkB c)):=pu F24 (by kernel_rfl) (of_eq (nCuk c _) (Wk.refl _))
def wiB (a b t:Str):Bool:=bif bif bif !(canG a).2 then true else !(canG b).2 then true else !(canG t).2 then false else witF (canG a).1 (canG b).1 (canG t).1
class HasW:Prop where
 p:∀ a b t:Str,Pure PP 25 [.str a,.str b,.str t] (B (wiB a b t))
theorem cWi [h:HasW] (a b t:Str):Pure PP 25 [.str a,.str b,.str t] (B (wiB a b t)):=h.p a b t
theorem F9:OkF 9 Tryz.f9:=⟨by kernel_rfl,by kernel_rfl,by kernel_rfl⟩
def lv9:List (List Nat × List Nat):=[([1,1,0,1,0,1,0,1,0,1,0],[1,2,7,22,23])]
noncomputable def nCsas (a:Str) (b:Str) (t:Tol):List Nat→Nat→Option Ans:=scrAt [([1,0,0],1,Ans.pure [t.d] (B (tolB t))),([1,1,0,1,0,1,1,1,0,0],4,Ans.pure [.str a,.str b,.str t.val] (B (wiB a b t.val)))]
theorem nCsa (k:Int) (a b:Str) (t:Tol) (K:D→Prop):runS (En Tryz.f9) (fi Tryz.f9 K) (nCsas a b t) lv9 200 [.code []] ⟨argSlots 0 [I k,.str a,.str b,t.d],.empty⟩ =
 (PureW PP 23 [t.d] [t.d] (B (tolB t))∧bif !tolB t then K (B false) else bif k==0 then List.length a≤strM→List.length b≤strM→bif (↑(List.length a):Int)!=(↑(List.length b):Int) then K (B false) else List.length a≤strM→At (En Tryz.f9) (fi Tryz.f9 K) [It.code [1,1,0,1,0,1,0,1,0,1,0],It.blk 1,It.code [1,1,0,1,0,1,0,1,1],It.blk 0,It.code [1,1,1]] {sl:=[(1,.str a),(2,.str b),(7,.own [I t.time,.str t.val,B t.unk]),(22,I (↑(List.length a):Int)),(23,I 0)],h:=Heap.empty:St} else bif k==1 then PureW PP 25 [.str a,.str b,.str t.val] [.str a,.str b,.str t.val] (B (wiB a b t.val))∧K (B (wiB a b t.val)) else bif k==2 then K (B (a==b)) else K (B (k==3))):=by kernel_rfl
def SCsa (a b:Str) (t:Tol) (i:Int):St:=⟨[(1,.str a),(2,.str b),(7,.own [I t.time,.str t.val,B t.unk]),(22,I a.length),(23,I i)],.empty⟩
noncomputable def nCsaas (a:Str) (b:Str) (i:Int):List Nat→Nat→Option Ans:=scrAt [([1,1,0,1,0,1,0,1,0,1,0,0,1,1,0,0,1,0],14,Ans.pure [encB (List.getD a i.toNat 0)] (B (unkB (List.getD a i.toNat 0)))),([1,1,0,1,0,1,0,1,0,1,0,0,1,1,0,0,1,0],19,Ans.pure [encB (List.getD b i.toNat 0)] (B (unkB (List.getD b i.toNat 0))))]
theorem nCsaa (a b:Str) (t:Tol) (i:Int) (J:St→Prop) (K:D→Prop):runS (En Tryz.f9) (fi Tryz.f9 K) (nCsaas a b i) lv9 200 [.code [1,1,0,1,0,1,0,1,0,1,0,0],stp [1,2,7,22,23] J,.blk 1,.code [1,1,0,1,0,1,0,1,1],.blk 0,.code [1,1,1]] (SCsa a b t i) =
 (bif decide (i < (↑(List.length a):Int)) then (0≤i∧i < (↑(List.length a):Int))∧(0≤i∧i < (↑(List.length b):Int))∧(((↑(List.getD a i.toNat 0).toNat:Int)!=(↑(List.getD b i.toNat 0).toNat:Int)&&t.unk)=true→0≤i∧i < (↑(List.length a):Int))∧(((↑(List.getD a i.toNat 0).toNat:Int)!=(↑(List.getD b i.toNat 0).toNat:Int)&&t.unk)=true→PureW PP 24 [encB (List.getD a i.toNat 0)] [encB (List.getD a i.toNat 0)] (B (unkB (List.getD a i.toNat 0))))∧(((↑(List.getD a i.toNat 0).toNat:Int)!=(↑(List.getD b i.toNat 0).toNat:Int)&&t.unk && !unkB (List.getD a i.toNat 0))=true→0≤i∧i < (↑(List.length b):Int))∧(((↑(List.getD a i.toNat 0).toNat:Int)!=(↑(List.getD b i.toNat 0).toNat:Int)&&t.unk && !unkB (List.getD a i.toNat 0))=true→PureW PP 24 [encB (List.getD b i.toNat 0)] [encB (List.getD b i.toNat 0)] (B (unkB (List.getD b i.toNat 0))))∧bif bif (↑(List.getD a i.toNat 0).toNat:Int)!=(↑(List.getD b i.toNat 0).toNat:Int) then !bif t.unk then bif unkB (List.getD a i.toNat 0) then true else unkB (List.getD b i.toNat 0) else false else false then K (B false) else J {sl:=[(1,.str a),(2,.str b),(7,.own [I t.time,.str t.val,B t.unk]),(22,I (↑(List.length a):Int)),(23,I (addI .i64 i 1))],h:=Heap.empty:St} else K (B true)):=by kernel_rfl
def bBad (u:Bool) (x y:UInt8):Bool:=bif (x.toNat:Int)!=(y.toNat:Int) then !bif u then bif unkB x then true else unkB y else false else false
def bitsB (u:Bool) (a b:Str):Bool:=decide (a.length=b.length)&&(List.range a.length).all fun i=> !bBad u (a.getD i 0) (b.getD i 0)
def saF (k:Int) (t:Tol) (a b:Str):Bool:=bif !tolB t then false else bif k==0 then bitsB t.unk a b else bif k==1 then wiB a b t.val else bif k==2 then a==b else k==3
theorem c9 [HasW] (k:Int) (a b:Str) (t:Tol):Pure PP 9 [I k,.str a,.str b,t.d] (B (saF k t a b)):=by
 refine pu F9 (by kernel_rfl) (of_eq (nCsa k a b t _) ⟨PureW.mk (c23 t),?_⟩)
 unfold saF
 refine cond_intro (fun h=>by rw [h]; exact Wk.refl _) fun h=> ?_
 rw [h,cond_false]
 refine cond_intro (fun h0=> ?_) fun h0=> ?_
 ·rw [h0,cond_true]
  refine fun hla _=>cond_intro (fun h1=> ?_) fun h1 _=> ?_
  ·have:bitsB t.unk a b=false:=by
    unfold bitsB
    rw [decide_eq_false (by simp at h1; omega)]; rfl
   rw [this]; exact Wk.refl _
  ·have hab:a.length=b.length:=by simp at h1; omega
   refine lp (fn:=Tryz.f9) (fun i:Nat=>i≤a.length∧∀ j,j < i→bBad t.unk (a.getD j 0) (b.getD j 0)=false) (fun i=>SCsa a b t i) (fun i=>a.length - i) [1,2,7,22,23] (by kernel_rfl) (fun i hi=>of_eq (nCsaa a b t i _ _) (cond_intro (fun hlt=> ?_) fun hge=> ?_)) 0 ⟨Nat.zero_le _,fun j hj=>by omega⟩
   ·have hlt:=ltI hlt
    obtain ⟨hi,hj⟩:=hi
    rw [add1 hlt (by unfold lenM; unfold strM at hla; exact hla),Int.toNat_natCast]
    refine ⟨⟨by omega,by omega⟩,⟨by omega,by omega⟩,fun _=>⟨by omega,by omega⟩,fun _=>PureW.mk (c24 _),fun _=>⟨by omega,by omega⟩,fun _=>PureW.mk (c24 _),?_⟩
    refine cond_intro (fun hb=> ?_) fun hb=> ?_
    ·have hb:bBad t.unk (a.getD i 0) (b.getD i 0)=true:=hb
     have:bitsB t.unk a b=false:=by
      unfold bitsB
      rw [decide_eq_true hab,Bool.true_and,← Bool.not_eq_true,List.all_eq_true]
      intro hc
      have:=hc i (List.mem_range.2 hlt)
      rw [hb] at this; cases this
     rw [this]; exact Wk.refl _
    ·have hb:bBad t.unk (a.getD i 0) (b.getD i 0)=false:=hb
     refine Nx.mk (i+1) ⟨hlt,fun j hj'=> ?_⟩ (by omega)
     rcases Nat.lt_succ_iff_lt_or_eq.1 hj' with h2 | rfl
     ·exact hj j h2
     ·exact hb
   ·have hge:=geI hge
    obtain ⟨hi,hj⟩:=hi
    have:bitsB t.unk a b=true:=by
     unfold bitsB
     rw [decide_eq_true hab,Bool.true_and,List.all_eq_true]
     intro j hjm
     rw [hj j (by have:=List.mem_range.1 hjm; omega)]; rfl
    rw [this]; exact Wk.refl _
 ·rw [h0,cond_false]
  refine cond_intro (fun h1=> ?_) fun h1=> ?_
  ·rw [h1]; exact ⟨PureW.mk (cWi a b t.val),Wk.refl _⟩
  ·rw [h1,cond_false]
   exact cond_intro (fun h2=>by rw [h2]; exact Wk.refl _) fun h2=>by rw [h2]; exact Wk.refl _
end Go.Proofs.YtiekphbkomddfaaGreatDoor.S1
namespace Go.Proofs.YtiekphbkomddfaaGreatDoor.S1
open Go Go.Ab Go.Proofs
-- nolay
attribute [local instance] LT10
instance rbMapB {f:Nat→Option Row} {k:Nat} {kk:KK} {has:MKey→Bool} {q:MKey→Bool} [h:RB f]:RB (upd f k (some (.map kk has (.b q)))):=⟨fun l row e=>by
 by_cases hx:l=k
 ·subst hx; rw [upd_same] at e; cases e; exact fun x=>trivial
 ·rw [upd_other _ _ hx] at e; exact h.p l row e⟩
def skF (k:Int) (t:Tol):MKey→Bool
 | [.s a,.s b]=>saF k t a b
 | _=>false
def smF (k:Int) (t:Tol) (has:MKey→Bool):MKey→Bool:=fun x=>bif has x then skF k t x else false
def hSm (k:Int) (t:Tol) (has:MKey→Bool):Heap:=⟨upd (fun _=>none) 0 (some (.map .ss has (.b (smF k t has)))),1,fun _=>none,0,fun _=>none⟩
theorem F89:OkF 89 Tryz.f89:=⟨by kernel_rfl,by kernel_rfl,by kernel_rfl⟩
def lv89:List (List Nat × List Nat):=[]
noncomputable def nCsms (k:Int) (t:Tol) (a:Str) (b:Str):List Nat→Nat→Option Ans:=scrAt [([1,1,1,0,1,0,0],6,Ans.pure [I k,.str a,.str b,t.d] (B (saF k t a b)))]
theorem nCsm (k:Int) (t:Tol) (a b:Str) (has:MKey→Bool) (K:D→Heap→Prop):runS (En Tryz.f89) (fh Tryz.f89 K) (nCsms k t a b) lv89 200 [.code []] ⟨argSlots 0 [.agg [I k,I t.time,.str t.val,B t.unk,.mp 0],.str a,.str b],hSm k t has⟩ =
 (True∧bif !has [KA.s a,KA.s b] then PureW PP 9 [I k,.str a,.str b,t.d] [I k,.str a,.str b,t.d] (B (saF k t a b))∧True∧K (B (saF k t a b)) {box:=upd (upd (fun _=>none) 0 (some (Row.map KK.ss has (MV.b (smF k t has))))) 0 (some (Row.map KK.ss (updK has [KA.s a,KA.s b] true) (MV.b (updK (smF k t has) [KA.s a,KA.s b] (saF k t a b))))),nl:=1,hw:=fun _=>none,nt:=0,vw:=fun _=>none:Heap} else K (B (smF k t has [KA.s a,KA.s b])) {box:=upd (fun _=>none) 0 (some (Row.map KK.ss has (MV.b (smF k t has)))),nl:=1,hw:=fun _=>none,nt:=0,vw:=fun _=>none:Heap}):=by kernel_rfl
theorem smF_upd (k:Int) (t:Tol) (has:MKey→Bool) (a b:Str):updK (smF k t has) [.s a,.s b] (saF k t a b)=smF k t (updK has [.s a,.s b] true):=by
 funext x
 unfold updK smF
 by_cases h:x=[.s a,.s b]
 ·subst h
  simp [skF]
 ·simp only [decide_eq_false h,cond_false]
theorem smF_has (has:MKey→Bool) (a b:Str) (h:has [.s a,.s b]=true):updK has [.s a,.s b] true=has:=by
 funext x
 unfold updK
 by_cases hx:x=[.s a,.s b]
 ·subst hx; rw [decide_eq_true rfl]; exact h.symm
 ·rw [decide_eq_false hx]; rfl
theorem e89 [HasW] (k:Int) (t:Tol) (a b:Str) (has:MKey→Bool):Does PP 89 [.agg [I k,I t.time,.str t.val,B t.unk,.mp 0],.str a,.str b] (hSm k t has) (B (saF k t a b)) (hSm k t (updK has [.s a,.s b] true)):=by
 refine du F89 (by kernel_rfl) (of_eq (nCsm k t a b has _) ⟨trivial,cond_intro (fun h=>⟨PureW.mk (c9 k a b t),trivial,?_⟩) fun h=> ?_⟩)
 ·rw [smF_upd,upd_upd]; exact RetLe.refl _ _
 ·have h:has [.s a,.s b]=true:=by simpa using h
  rw [smF_has has a b h]
  have:smF k t has [.s a,.s b]=saF k t a b:=by
   unfold smF
   rw [h]; rfl
  rw [this]; exact RetLe.refl _ _
theorem eSm [HasW] (k tm:Int) (tv:Str) (tu:Bool) (a b:Str) (has:MKey→Bool):Does PP 89 [.agg [I k,I tm,.str tv,B tu,.mp 0],.str a,.str b] (hSm k ⟨tm,tv,tu⟩ has) (B (saF k ⟨tm,tv,tu⟩ a b)) (hSm k ⟨tm,tv,tu⟩ (updK has [.s a,.s b] true)):=e89 k ⟨tm,tv,tu⟩ a b has
theorem F90:OkF 90 Tryz.f90:=⟨by kernel_rfl,by kernel_rfl,by kernel_rfl⟩
def lv90:List (List Nat × List Nat):=[([1,1,0,1,0],[2,3,4,9,12,13,14]),([1,1,1],[3,4,9])]
noncomputable def nCnrs:List Nat→Nat→Option Ans:=scrAt []
theorem nCnr (k tm:Int) (tv:Str) (tu:Bool) (l:List Sp) (v:Str) (e:Int) (has:MKey→Bool) (K:D→Heap→Prop):runS (En Tryz.f90) (fh Tryz.f90 K) (nCnrs ) lv90 200 [.code []] ⟨argSlots 0 [.agg [I k,I tm,.str tv,B tu,.mp 0],L l 3 Sp.d,.str v,I e],hSm k ⟨tm,tv,tu⟩ has⟩ =
 (l.length≤lenM→At (En Tryz.f90) (fh Tryz.f90 K) [It.code [1,1,0,1,0],It.blk 0,It.code [1,1,1]] {sl:=[(2,.str v),(3,I e),(4,.own [I k,I tm,.str tv,B tu,D.mp 0]),(9,.list 0 0 (fun _=>D.junk) .full),(12,L l 3 Sp.d),(13,I (↑l.length:Int)),(14,I 0)],h:={box:=upd (fun _=>none) 0 (some (Row.map KK.ss has (MV.b (smF k {time:=tm,val:=tv,unk:=tu:Tol} has)))),nl:=1,hw:=fun _=>none,nt:=0,vw:=fun _=>none:Heap}:St}):=by kernel_rfl
def hSn (k:Int) (t:Tol) (has:MKey→Bool) (n:Nat):Heap:=⟨upd (fun _=>none) 0 (some (.map .ss has (.b (smF k t has)))),1,upd (fun _=>none) 0 (some n),1,fun _=>none⟩
def hSf (k:Int) (t:Tol) (has:MKey→Bool):Heap:=⟨upd (fun _=>none) 0 (some (.map .ss has (.b (smF k t has)))),1,fun _=>none,1,fun _=>none⟩
def SCn (k:Int) (t:Tol) (l:List Sp) (v:Str) (e:Int) (has:MKey→Bool) (out:List Iv) (i:Int):St:=⟨[(2,.str v),(3,I e),(4,.own [I k,I t.time,.str t.val,B t.unk,.mp 0]),(9,LT out 2 Iv.d 0),(12,L l 3 Sp.d),(13,I l.length),(14,I i)],hSn k t has out.length⟩
noncomputable def nCnras (k:Int) (tm:Int) (tv:Str) (tu:Bool) (l:List Sp) (v:Str) (has:MKey→Bool) (out:List Iv) (i:Int):List Nat→Nat→Option Ans:=scrAt [([1,1,0,1,0,0,1,1,0,0,1,0],4,Ans.eff (ren (rnm [0] 1) (rnm [] 1) (B (saF k {time:=tm,val:=tv,unk:=tu:Tol} v (l.getD i.toNat default).val))) (frameH [0] [] {box:=upd (fun _=>none) 0 (some (Row.map KK.ss has (MV.b (smF k {time:=tm,val:=tv,unk:=tu:Tol} has)))),nl:=1,hw:=upd (fun _=>none) 0 (some out.length),nt:=1,vw:=fun _=>none:Heap} (hSm k {time:=tm,val:=tv,unk:=tu:Tol} (updK has [KA.s v,KA.s (l.getD i.toNat default).val] true))))]
theorem nCnra (k tm:Int) (tv:Str) (tu:Bool) (l:List Sp) (v:Str) (e:Int) (has:MKey→Bool) (out:List Iv) (i:Int) (J:St→Prop) (K:D→Heap→Prop):runS (En Tryz.f90) (fh Tryz.f90 K) (nCnras k tm tv tu l v has out i) lv90 200 [.code [1,1,0,1,0,0],stp [2,3,4,9,12,13,14] J,.blk 0,.code [1,1,1]] (SCn k ⟨tm,tv,tu⟩ l v e has out i) =
 (bif decide (i < (↑l.length:Int)) then
 (0≤i∧i < (↑l.length:Int)) ∧
  True ∧
   Does PP 89 [.agg [I k,I {time:=tm,val:=tv,unk:=tu:Tol}.time,.str {time:=tm,val:=tv,unk:=tu:Tol}.val,B {time:=tm,val:=tv,unk:=tu:Tol}.unk,D.mp 0],.str v,.str (l.getD i.toNat default).val] {box:=upd (fun _=>none) 0 (some (Row.map KK.ss has (MV.b (smF k {time:=tm,val:=tv,unk:=tu:Tol} has)))),nl:=1,hw:=upd (fun _=>none) 0 (some out.length),nt:=1,vw:=fun _=>none:Heap} (ren (rnm [0] 1) (rnm [] 1) (B (saF k {time:=tm,val:=tv,unk:=tu:Tol} v (l.getD i.toNat default).val))) (frameH [0] [] {box:=upd (fun _=>none) 0 (some (Row.map KK.ss has (MV.b (smF k {time:=tm,val:=tv,unk:=tu:Tol} has)))),nl:=1,hw:=upd (fun _=>none) 0 (some out.length),nt:=1,vw:=fun _=>none:Heap} (hSm k {time:=tm,val:=tv,unk:=tu:Tol} (updK has [KA.s v,KA.s (l.getD i.toNat default).val] true))) ∧
    bif saF k {time:=tm,val:=tv,unk:=tu:Tol} v (l.getD i.toNat default).val then (updN (upd (fun _=>none) 0 (some out.length)) (rnm [] 1) (fun _=>none) 0 0=some out.length∧(out.length+1) * 16≤roomM)∧J {sl:=[(2,.str v),(3,I e),(4,.own [I k,I {time:=tm,val:=tv,unk:=tu:Tol}.time,.str {time:=tm,val:=tv,unk:=tu:Tol}.val,B {time:=tm,val:=tv,unk:=tu:Tol}.unk,D.mp 0]),(9,.list (out.length+1) 2 (catG out.length (fun i=>(out.getD i default).d) (litG [.agg [I (l.getD i.toNat default).frm,I (l.getD i.toNat default).to]])) (.tok 0 2)),(12,L l 3 Sp.d),(13,I (↑l.length:Int)),(14,I (addI .i64 i 1))],h:={box:=upd (upd (fun _=>none) 0 (some (Row.map KK.ss has (MV.b (smF k {time:=tm,val:=tv,unk:=tu:Tol} has))))) 0 (some (Row.map KK.ss (updK has [KA.s v,KA.s (l.getD i.toNat default).val] true) (MV.b (smF k {time:=tm,val:=tv,unk:=tu:Tol} (updK has [KA.s v,KA.s (l.getD i.toNat default).val] true))))),nl:=1,hw:=upd (upd (fun _=>none) 0 (some out.length)) 0 (some (out.length+1)),nt:=1,vw:=fun _=>none:Heap}:St}
    else J {sl:=[(2,.str v),(3,I e),(4,.own [I k,I {time:=tm,val:=tv,unk:=tu:Tol}.time,.str {time:=tm,val:=tv,unk:=tu:Tol}.val,B {time:=tm,val:=tv,unk:=tu:Tol}.unk,D.mp 0]),(9,.list out.length 2 (fun i=>(out.getD i default).d) (.tok 0 2)),(12,L l 3 Sp.d),(13,I (↑l.length:Int)),(14,I (addI .i64 i 1))],h:={box:=upd (upd (fun _=>none) 0 (some (Row.map KK.ss has (MV.b (smF k {time:=tm,val:=tv,unk:=tu:Tol} has))))) 0 (some (Row.map KK.ss (updK has [KA.s v,KA.s (l.getD i.toNat default).val] true) (MV.b (smF k {time:=tm,val:=tv,unk:=tu:Tol} (updK has [KA.s v,KA.s (l.getD i.toNat default).val] true))))),nl:=1,hw:=upd (fun _=>none) 0 (some out.length),nt:=1,vw:=fun _=>none:Heap}:St}
 else At (En Tryz.f90) (fh Tryz.f90 K) [It.code [1,1,1]] {sl:=[(3,I e),(4,.own [I k,I {time:=tm,val:=tv,unk:=tu:Tol}.time,.str {time:=tm,val:=tv,unk:=tu:Tol}.val,B {time:=tm,val:=tv,unk:=tu:Tol}.unk,D.mp 0]),(9,.list out.length 2 (fun i=>(out.getD i default).d) (.tok 0 2))],h:={box:=upd (fun _=>none) 0 (some (Row.map KK.ss has (MV.b (smF k {time:=tm,val:=tv,unk:=tu:Tol} has)))),nl:=1,hw:=upd (fun _=>none) 0 (some out.length),nt:=1,vw:=fun _=>none:Heap}:St}):=by kernel_rfl
noncomputable def nCnrbs (tm:Int) (e:Int) (out:List Iv):List Nat→Nat→Option Ans:=scrAt [([1,1,1,0],9,Ans.pure [L out 2 Iv.d,I (subI .i64 0 tm),I tm,I 0,I e] (L (grwI out (subI .i64 0 tm) tm 0 e) 2 Iv.d))]
theorem nCnrb (k tm:Int) (tv:Str) (tu:Bool) (e:Int) (has:MKey→Bool) (out:List Iv) (K:D→Heap→Prop):runS (En Tryz.f90) (fh Tryz.f90 K) (nCnrbs tm e out) nolv 200 [.code [1,1,1]] ⟨[(3,I e),(4,.own [I k,I tm,.str tv,B tu,.mp 0]),(9,L out 2 Iv.d)],hSf k ⟨tm,tv,tu⟩ has⟩ =
 (PureW PP 53 [L out 2 Iv.d,I (subI .i64 0 tm),I tm,I 0,I e] [L out 2 Iv.d,I (subI .i64 0 tm),I tm,I 0,I e] (L (grwI out (subI .i64 0 tm) tm 0 e) 2 Iv.d)∧K (L (grwI out (subI .i64 0 tm) tm 0 e) 2 Iv.d) {box:=upd (fun _=>none) 0 (some (Row.map KK.ss has (MV.b (smF k {time:=tm,val:=tv,unk:=tu:Tol} has)))),nl:=1,hw:=fun _=>none,nt:=1,vw:=fun _=>none:Heap}):=by kernel_rfl
def nrS (k:Int) (t:Tol) (v:Str) (l:List Sp):List Iv:=(l.filter fun x=>saF k t v x.val).map fun x=>⟨x.frm,x.to⟩
def hasN (v:Str) (l:List Sp) (has:MKey→Bool):MKey→Bool:=l.foldl (fun h x=>updK h [.s v,.s x.val] true) has
def nearI (k:Int) (t:Tol) (l:List Sp) (v:Str) (e:Int):List Iv:=grwI (nrS k t v l) (subI .i64 0 t.time) t.time 0 e
theorem nrS_snoc (k:Int) (t:Tol) (v:Str) (l:List Sp) (i:Nat) (h:i < l.length):nrS k t v (l.take (i+1))=nrS k t v (l.take i)++if saF k t v (l.getD i default).val=true then [⟨(l.getD i default).frm,(l.getD i default).to⟩] else []:=by
 unfold nrS
 rw [take_snoc _ _ h,List.filter_append,List.map_append]
 congr 1
 by_cases hs:saF k t v (l.getD i default).val=true
 ·rw [if_pos hs,List.filter_cons,if_pos hs]; rfl
 ·rw [if_neg hs,List.filter_cons,if_neg hs]; rfl
theorem nrS_len (k:Int) (t:Tol) (v:Str) (l:List Sp):(nrS k t v l).length≤l.length:=by
 unfold nrS
 rw [List.length_map]; exact List.length_filter_le _ _
theorem hasN_snoc (v:Str) (l:List Sp) (has:MKey→Bool) (i:Nat) (h:i < l.length):hasN v (l.take (i+1)) has=updK (hasN v (l.take i) has) [.s v,.s (l.getD i default).val] true:=by
 unfold hasN
 rw [take_snoc _ _ h,List.foldl_append]; rfl
theorem heap_nf (k:Int) (t:Tol) (has:MKey→Bool) (n:Nat):HeapLe (hSn k t has n) (hSf k t has) :=
 ⟨fun l row' e=>⟨row',e,RowLe.refl _⟩,Nat.le_refl _,fun t n e=>(by cases e),Nat.le_refl _,fun t n e=>(by cases e),fun _ _=>rfl⟩
theorem e90 [HasW] (k:Int) (t:Tol) (l:List Sp) (v:Str) (e:Int) (has:MKey→Bool) (hl:l.length≤10000):Does PP 90 [.agg [I k,I t.time,.str t.val,B t.unk,.mp 0],L l 3 Sp.d,.str v,I e] (hSm k t has) (L (nearI k t l v e) 2 Iv.d) (hSf k t (hasN v l has)):=by
 obtain ⟨tm,tv,tu⟩:=t
 refine du F90 (by kernel_rfl) (of_eq (nCnr k tm tv tu l v e has _) fun hlm=> ?_)
 refine at_le (st':=SCn k ⟨tm,tv,tu⟩ l v e (hasN v (l.take 0) has) (nrS k ⟨tm,tv,tu⟩ v (l.take 0)) ((0:Nat):Int)) ?_ ((StLe.idle _ none 9 2 (fun i=>Iv.d (([]:List Iv).getD i default)) rfl).cast (by kernel_rfl))
 refine lp (fn:=Tryz.f90) (fun i:Nat=>i≤l.length) (fun i=>SCn k ⟨tm,tv,tu⟩ l v e (hasN v (l.take i) has) (nrS k ⟨tm,tv,tu⟩ v (l.take i)) i) (fun i=>l.length - i) [2,3,4,9,12,13,14] (by kernel_rfl) (fun i hi=>of_eq (nCnra k tm tv tu l v e _ _ i _ _) (cond_intro (fun hlt=> ?_) fun hge=> ?_)) 0 (Nat.zero_le _)
 ·have hlt:=ltI hlt
  have hs:=nrS_snoc k ⟨tm,tv,tu⟩ v l i hlt
  have hh:=hasN_snoc v l has i hlt
  have hn:=nrS_len k ⟨tm,tv,tu⟩ v (l.take i)
  have htk:(l.take i).length=i:=by rw [List.length_take]; omega
  rw [add1 hlt hlm,Int.toNat_natCast]
  refine ⟨⟨by omega,by omega⟩,trivial,fr (eSm k tm tv tu v _ _) [0] [],cond_intro (fun h=>⟨⟨rfl,by unfold roomM; omega⟩,Nx.of (i+1) hlt (by omega) ?_⟩) fun h=>Nx.of (i+1) hlt (by omega) ?_⟩
  ·rw [hs,hh,if_pos h]
   generalize nrS k ⟨tm,tv,tu⟩ v (l.take i)=out
   generalize hasN v (l.take i) has=h0
   unfold SCn hSn
   rw [List.length_append,List.length_singleton,upd_upd,upd_upd]
   exact (StLe.set 9 rfl (Wk.snoc (enc:=Iv.d) (x:=(⟨(l.getD i default).frm,(l.getD i default).to⟩:Iv))) rfl rfl).cast (by kernel_rfl)
  ·have h:¬ saF k ⟨tm,tv,tu⟩ v (l.getD i default).val=true:=by rw [h]; simp
   rw [hs,hh,if_neg h,List.append_nil,upd_upd]
   exact (StLe.refl _ _).cast (by kernel_rfl)
 ·rw [List.take_of_length_le (geI hge)]
  have hn:=nrS_len k ⟨tm,tv,tu⟩ v l
  unfold nearI
  generalize nrS k ⟨tm,tv,tu⟩ v l=out at hn ⊢
  refine at_le (st':=⟨[(3,I e),(4,.own [I k,I tm,.str tv,B tu,.mp 0]),(9,L out 2 Iv.d)],hSf k ⟨tm,tv,tu⟩ (hasN v l has)⟩) (runS_sound hmix _ _ _ (of_eq (nCnrb k tm tv tu e _ out _) ⟨PureW.mk (c53 out _ _ _ _ (by omega)),RetLe.refl _ _⟩)) ?_
  exact ((StLe.set 9 (d':=L out 2 Iv.d) rfl Wk.tokL rfl rfl).trans (StLe.heapLe (heap_nf k ⟨tm,tv,tu⟩ (hasN v l has) out.length))).cast (by kernel_rfl)
end Go.Proofs.YtiekphbkomddfaaGreatDoor.S1
namespace Go.Proofs.YtiekphbkomddfaaGreatDoor.S1
open Go Go.Ab Go.Proofs
-- nolay
attribute [local instance] LT10
def nilIv:D:= .list 0 0 (fun _=> .junk) .full
def bxSp (k:Int) (t:Tol) (has hb ha:MKey→Bool) (nb na:MKey→List Iv):Nat→Option Row:=upd (upd (upd (fun _=>none) 0 (some (.map .ss has (.b (smF k t has))))) 1 (some (.map .str hb (.d (.list 0 0 (fun _=> .junk) .full) fun x=>L (nb x) 2 Iv.d)))) 2 (some (.map .str ha (.d (.list 0 0 (fun _=> .junk) .full) fun x=>L (na x) 2 Iv.d)))
def hSp (k:Int) (t:Tol) (has hb ha:MKey→Bool) (nb na:MKey→List Iv) (n N:Nat):Heap:=⟨upd (upd (upd (fun _=>none) 0 (some (.map .ss has (.b (smF k t has))))) 1 (some (.map .str hb (.d (.list 0 0 (fun _=> .junk) .full) fun x=>L (nb x) 2 Iv.d)))) 2 (some (.map .str ha (.d (.list 0 0 (fun _=> .junk) .full) fun x=>L (na x) 2 Iv.d))),3,upd (fun _=>none) 0 (some n),N+1,fun _=>none⟩
theorem eNear [HasW] (k tm:Int) (tv:Str) (tu:Bool) (l:List Sp) (v:Str) (e:Int) (has:MKey→Bool) (hl:l.length≤10000):Does PP 90 [.agg [I k,I tm,.str tv,B tu,.mp 0],L l 3 Sp.d,.str v,I e] (hSm k ⟨tm,tv,tu⟩ has) (L (nearI k ⟨tm,tv,tu⟩ l v e) 2 Iv.d) (hSf k ⟨tm,tv,tu⟩ (hasN v l has)):=e90 k ⟨tm,tv,tu⟩ l v e has hl
theorem F55:OkF 55 Tryz.f55:=⟨by kernel_rfl,by kernel_rfl,by kernel_rfl⟩
def lv55:List (List Nat × List Nat):=[([1,1,1,1,1,0,1,0],[1,2,3,4,12,13,14,36,37,38]),([1,1,1,1,1,0,1,0,0,1,1,0,0,1,1,0,1],[1,2,3,4,12,13,14,16,17,18,36,37,38,53]),([1,1,1,1,1,0,1,0,0,1,1,0,0,1,1,1,1],[1,2,3,4,12,13,14,16,17,18,36,37,38]),([1,1,1,1,1,0,1,0,0,1,1,0,0,1,1,1,1,1],[1,2,3,4,12,13,14,16,17,18,36,37,38]),([1,1,1,1,1,1],[14])]
noncomputable def nSps (a:List Sp) (b:List Sp):List Nat→Nat→Option Ans:=scrAt [([1,0],3,Ans.pure [L [a,b] 1 LLd] (.tup [L (zipR a b) 3 Rw.d,I 0]))]
theorem nSp (k tm:Int) (tv:Str) (tu:Bool) (a b:List Sp) (e:Int) (has:MKey→Bool) (K:D→Heap→Prop):runS (En Tryz.f55) (fh Tryz.f55 K) (nSps a b) lv55 200 [.code []] ⟨argSlots 0 [.agg [I k,I tm,.str tv,B tu,.mp 0],L a 3 Sp.d,L b 3 Sp.d,I e],hSm k ⟨tm,tv,tu⟩ has⟩ =
 (PureW PP 88 [.list 2 1 (litG [L a 3 Sp.d,L b 3 Sp.d]) .full] [L [a,b] 1 LLd] (.tup [L (zipR a b) 3 Rw.d,I 0])∧True∧True∧((zipR a b).length≤lenM→At (En Tryz.f55) (fh Tryz.f55 K) [It.code [1,1,1,1,1,0,1,0],It.blk 0,It.code [1,1,1,1,1,1]] {sl:=[(1,L a 3 Sp.d),(2,L b 3 Sp.d),(3,I e),(4,.own [I k,I tm,.str tv,B tu,D.mp 0]),(12,D.mp 1),(13,D.mp 2),(14,.list 0 0 (fun _=>D.junk) .full),(36,L (zipR a b) 3 Rw.d),(37,I (↑(zipR a b).length:Int)),(38,I 0)],h:={box:=upd (upd (upd (fun _=>none) 0 (some (Row.map KK.ss has (MV.b (smF k ⟨tm,tv,tu⟩ has))))) 1 (some (Row.map KK.str (fun x=>false) (mvNew (ofVal (Value.slice none 0 0)))))) 2 (some (Row.map KK.str (fun x=>false) (mvNew (ofVal (Value.slice none 0 0))))),nl:=3,hw:=fun _=>none,nt:=0,vw:=fun _=>none:Heap}:St})):=by kernel_rfl
def SSp (k:Int) (t:Tol) (a b:List Sp) (e:Int) (q:List Rw) (has hb ha:MKey→Bool) (nb na:MKey→List Iv) (out:List Iv) (N:Nat) (i:Int):St:=⟨[(1,L a 3 Sp.d),(2,L b 3 Sp.d),(3,I e),(4,.own [I k,I t.time,.str t.val,B t.unk,.mp 0]),(12,.mp 1),(13,.mp 2),(14,LT out 2 Iv.d 0),(36,L q 3 Rw.d),(37,I q.length),(38,I i)],hSp k t has hb ha nb na out.length N⟩
def SSq (k:Int) (t:Tol) (a b:List Sp) (e:Int) (q:List Rw) (f u:Int) (vs:List Str) (x y:Str) (has hb ha:MKey→Bool) (nb na:MKey→List Iv) (out:List Iv) (N:Nat) (i:Int):St:=⟨[(1,L a 3 Sp.d),(2,L b 3 Sp.d),(3,I e),(4,.own [I k,I t.time,.str t.val,B t.unk,.mp 0]),(12,.mp 1),(13,.mp 2),(14,LT out 2 Iv.d 0),(16,.own [I f,I u,L vs 1 .str]),(17,.str x),(18,.str y),(36,L q 3 Rw.d),(37,I q.length),(38,I i)],hSp k t has hb ha nb na out.length N⟩
noncomputable def nSpas (k:Int) (tm:Int) (tv:Str) (tu:Bool) (q:List Rw) (has:MKey→Bool) (hb:MKey→Bool) (ha:MKey→Bool) (nb:MKey→List Iv) (na:MKey→List Iv) (out:List Iv) (N:Nat) (i:Int):List Nat→Nat→Option Ans:=scrAt [([1,1,1,1,1,0,1,0,0,1,1,0,0,1,1,0,0],3,Ans.eff (ren (rnm [0] 3) (rnm [] (hSp k ⟨tm,tv,tu⟩ has hb ha nb na out.length N).nt) (B (saF k ⟨tm,tv,tu⟩ ((q.getD i.toNat default).vals.getD 0 default) ((q.getD i.toNat default).vals.getD 1 default)))) (frameH [0] [] (hSp k ⟨tm,tv,tu⟩ has hb ha nb na out.length N) (hSm k ⟨tm,tv,tu⟩ (updK has [KA.s ((q.getD i.toNat default).vals.getD 0 default),KA.s ((q.getD i.toNat default).vals.getD 1 default)] true))))]
theorem nSpa (k tm : Int) (tv : Str) (tu : Bool) (a b : List Sp) (e : Int) (q : List Rw) (has hb ha : MKey → Bool) (nb na : MKey → List Iv) (out : List Iv) (N : Nat) (i : Int) (J : St → Prop) (K : D → Heap → Prop) : runS (En Tryz.f55) (fh Tryz.f55 K) (nSpas k tm tv tu q has hb ha nb na out N i) lv55 200 [.code [1, 1, 1, 1, 1, 0, 1, 0, 0], stp [1, 2, 3, 4, 12, 13, 14, 36, 37, 38] J, .blk 0, .code [1, 1, 1, 1, 1, 1]] (SSp k ⟨tm, tv, tu⟩ a b e q has hb ha nb na out N i) =
  (bif decide (i < (↑q.length : Int)) then
  (0 ≤ i ∧ i < (↑q.length : Int)) ∧
    True ∧
      ((0 : Int) ≤ 0 ∧ 0 < (↑(q.getD i.toNat default).vals.length : Int)) ∧
        ((0 : Int) ≤ 1 ∧ 1 < (↑(q.getD i.toNat default).vals.length : Int)) ∧
          Does PP 89 [.agg [I k, I tm, .str tv, B tu, D.mp 0], .str ((q.getD i.toNat default).vals.getD 0 default), .str ((q.getD i.toNat default).vals.getD 1 default)] (hSp k ⟨tm, tv, tu⟩ has hb ha nb na out.length N) (ren (rnm [0] 3) (rnm [] (hSp k ⟨tm, tv, tu⟩ has hb ha nb na out.length N).nt) (B (saF k ⟨tm, tv, tu⟩ ((q.getD i.toNat default).vals.getD 0 default) ((q.getD i.toNat default).vals.getD 1 default))))
              (frameH [0] [] (hSp k ⟨tm, tv, tu⟩ has hb ha nb na out.length N) (hSm k ⟨tm, tv, tu⟩ (updK has [KA.s ((q.getD i.toNat default).vals.getD 0 default), KA.s ((q.getD i.toNat default).vals.getD 1 default)] true))) ∧
            At (En Tryz.f55) (fh Tryz.f55 K) [It.code [1, 1, 1, 1, 1, 0, 1, 0, 0, 1, 1, 0, 0, 1, 1, 0, 1], It.code [1, 1, 1, 1, 1, 0, 1, 0, 0, 1, 1, 0, 0, 1, 1, 1], It.blk 1, It.code [1, 1, 1, 1, 1, 0, 1, 0, 0, 1, 1, 1], stp [1, 2, 3, 4, 12, 13, 14, 36, 37, 38] J, It.blk 0, It.code [1, 1, 1, 1, 1, 1]] { sl := [(1, L a 3 Sp.d), (2, L b 3 Sp.d), (3, I e), (4, .own [I k, I tm, .str tv, B tu, .mp 0]), (12, .mp 1), (13, .mp 2), (14, LT out 2 Iv.d 0), (16, .own [I (q.getD i.toNat default).frm, I (q.getD i.toNat default).to, L (q.getD i.toNat default).vals 1 .str]), (17, .str ((q.getD i.toNat default).vals.getD 0 default)), (18, .str ((q.getD i.toNat default).vals.getD 1 default)), (36, L q 3 Rw.d), (37, I (↑q.length : Int)), (38, I i), (53, B (saF k ⟨tm, tv, tu⟩ ((q.getD i.toNat default).vals.getD 0 default) ((q.getD i.toNat default).vals.getD 1 default)))], h := { box := upd (bxSp k ⟨tm, tv, tu⟩ has hb ha nb na) 0 (some (Row.map KK.ss (updK has [KA.s ((q.getD i.toNat default).vals.getD 0 default), KA.s ((q.getD i.toNat default).vals.getD 1 default)] true) (MV.b (smF k ⟨tm, tv, tu⟩ (updK has [KA.s ((q.getD i.toNat default).vals.getD 0 default), KA.s ((q.getD i.toNat default).vals.getD 1 default)] true))))), nl := 3, hw := upd (fun _ => none) 0 (some out.length), nt := N + 1 + 0, vw := fun _ => none : Heap } : St }
 else At (En Tryz.f55) (fh Tryz.f55 K) [It.code [1,1,1,1,1,1]] {sl:=[(14,.list out.length 2 (fun i=>(out.getD i default).d) (.tok 0 2))],h:=(hSp k ⟨tm,tv,tu⟩ has hb ha nb na out.length N):St}):=by kernel_rfl
def SSr (k:Int) (t:Tol) (a b:List Sp) (e:Int) (q:List Rw) (f u:Int) (vs:List Str) (x y:Str) (has hb ha:MKey→Bool) (nb na:MKey→List Iv) (out:List Iv) (N:Nat) (i:Int) (w:Bool):St:=⟨[(1,L a 3 Sp.d),(2,L b 3 Sp.d),(3,I e),(4,.own [I k,I t.time,.str t.val,B t.unk,.mp 0]),(12,.mp 1),(13,.mp 2),(14,LT out 2 Iv.d 0),(16,.own [I f,I u,L vs 1 .str]),(17,.str x),(18,.str y),(36,L q 3 Rw.d),(37,I q.length),(38,I i),(53,B w)],hSp k t has hb ha nb na out.length N⟩
def lvSp1:List (List Nat × List Nat):=[([1,1,1,1,1,0,1,0,0,1,1,0,0,1,1,1,1],[1,2,3,4,12,13,14,16,17,18,36,37,38])]
noncomputable def nSpbs (k:Int) (tm:Int) (tv:Str) (tu:Bool) (b:List Sp) (e:Int) (x:Str) (has:MKey→Bool) (hb:MKey→Bool) (ha:MKey→Bool) (nb:MKey→List Iv) (na:MKey→List Iv) (out:List Iv) (N:Nat):List Nat→Nat→Option Ans:=scrAt [([1,1,1,1,1,0,1,0,0,1,1,0,0,1,1,1,0,1,1,0],6,Ans.eff (ren (rnm [0] 3) (rnm [] (hSp k ⟨tm,tv,tu⟩ has hb ha nb na out.length N).nt) (L (nearI k ⟨tm,tv,tu⟩ b x e) 2 Iv.d)) (frameH [0] [] (hSp k ⟨tm,tv,tu⟩ has hb ha nb na out.length N) (hSf k ⟨tm,tv,tu⟩ (hasN x b has))))]
theorem nSpb (k tm:Int) (tv:Str) (tu:Bool) (a b:List Sp) (e:Int) (q:List Rw) (f u:Int) (vs:List Str) (x y:Str) (has hb ha:MKey→Bool) (nb na:MKey→List Iv) (out:List Iv) (N:Nat) (i:Int) (w:Bool) (J:St→Prop) (K:D→Heap→Prop):runS (En Tryz.f55) (fh Tryz.f55 K) (nSpbs k tm tv tu b e x has hb ha nb na out N) lvSp1 200 [.code [1,1,1,1,1,0,1,0,0,1,1,0,0,1,1,0,1],.code [1,1,1,1,1,0,1,0,0,1,1,0,0,1,1,1],.blk 1,.code [1,1,1,1,1,0,1,0,0,1,1,1],stp [1,2,3,4,12,13,14,36,37,38] J,.blk 0,.code [1,1,1,1,1,1]] (SSr k ⟨tm,tv,tu⟩ a b e q f u vs x y has hb ha nb na out N i w) =
 (bif w then J {sl:=[(1,L a 3 Sp.d),(2,L b 3 Sp.d),(3,I e),(4,.own [I k,I tm,.str tv,B tu,.mp 0]),(12,.mp 1),(13,.mp 2),(14,LT out 2 Iv.d 0),(36,L q 3 Rw.d),(37,I (↑q.length:Int)),(38,I (addI .i64 i 1))],h:=(hSp k ⟨tm,tv,tu⟩ has hb ha nb na out.length N):St}
 else
 bif !hb [KA.s x] then
  Does PP 90 [.agg [I k,I tm,.str tv,B tu,D.mp 0],L b 3 Sp.d,.str x,I e] (hSp k ⟨tm,tv,tu⟩ has hb ha nb na out.length N) (ren (rnm [0] 3) (rnm [] (hSp k ⟨tm,tv,tu⟩ has hb ha nb na out.length N).nt) (L (nearI k ⟨tm,tv,tu⟩ b x e) 2 Iv.d)) (frameH [0] [] (hSp k ⟨tm,tv,tu⟩ has hb ha nb na out.length N) (hSf k ⟨tm,tv,tu⟩ (hasN x b has))) ∧
   True∧At (En Tryz.f55) (fh Tryz.f55 K) [It.code [1,1,1,1,1,0,1,0,0,1,1,0,0,1,1,1,1],It.blk 1,It.code [1,1,1,1,1,0,1,0,0,1,1,1],stp [1,2,3,4,12,13,14,36,37,38] J,It.blk 0,It.code [1,1,1,1,1,1]] {sl:=[(1,L a 3 Sp.d),(2,L b 3 Sp.d),(3,I e),(4,.own [I k,I tm,.str tv,B tu,.mp 0]),(12,.mp 1),(13,.mp 2),(14,LT out 2 Iv.d 0),(16,.own [I f,I u,L vs 1 .str]),(17,.str x),(18,.str y),(36,L q 3 Rw.d),(37,I (↑q.length:Int)),(38,I i)],h:={box:=upd (upd (bxSp k ⟨tm,tv,tu⟩ has hb ha nb na) 0 (some (Row.map KK.ss (hasN x b has) (MV.b (smF k ⟨tm,tv,tu⟩ (hasN x b has)))))) 1 (some (Row.map KK.str (updK hb [KA.s x] true) (MV.d (.list 0 0 (fun _=>D.junk) .full) (updK (fun x=>L (nb x) 2 Iv.d) [KA.s x] (L (nearI k ⟨tm,tv,tu⟩ b x e) 2 Iv.d))))),nl:=3,hw:=upd (upd (fun _=>none) 0 (some out.length)) (N+1) none,nt:=N+1+1,vw:=upd (fun _=>none) (N+1) none:Heap}:St}
 else At (En Tryz.f55) (fh Tryz.f55 K) [It.code [1,1,1,1,1,0,1,0,0,1,1,0,0,1,1,1,1],It.blk 1,It.code [1,1,1,1,1,0,1,0,0,1,1,1],stp [1,2,3,4,12,13,14,36,37,38] J,It.blk 0,It.code [1,1,1,1,1,1]] {sl:=[(1,L a 3 Sp.d),(2,L b 3 Sp.d),(3,I e),(4,.own [I k,I tm,.str tv,B tu,.mp 0]),(12,.mp 1),(13,.mp 2),(14,LT out 2 Iv.d 0),(16,.own [I f,I u,L vs 1 .str]),(17,.str x),(18,.str y),(36,L q 3 Rw.d),(37,I (↑q.length:Int)),(38,I i)],h:=(hSp k ⟨tm,tv,tu⟩ has hb ha nb na out.length N):St}):=by kernel_rfl
def lvSp2:List (List Nat × List Nat):=[([1,1,1,1,1,0,1,0,0,1,1,0,0,1,1,1,1,1],[1,2,3,4,12,13,14,16,17,18,36,37,38])]
noncomputable def nSpcs (k:Int) (tm:Int) (tv:Str) (tu:Bool) (a:List Sp) (e:Int) (y:Str) (has:MKey→Bool) (hb:MKey→Bool) (ha:MKey→Bool) (nb:MKey→List Iv) (na:MKey→List Iv) (out:List Iv) (N:Nat):List Nat→Nat→Option Ans:=scrAt [([1,1,1,1,1,0,1,0,0,1,1,0,0,1,1,1,1,0,1,1,0],6,Ans.eff (ren (rnm [0] 3) (rnm [] (hSp k ⟨tm,tv,tu⟩ has hb ha nb na out.length N).nt) (L (nearI k ⟨tm,tv,tu⟩ a y e) 2 Iv.d)) (frameH [0] [] (hSp k ⟨tm,tv,tu⟩ has hb ha nb na out.length N) (hSf k ⟨tm,tv,tu⟩ (hasN y a has))))]
theorem nSpc (k tm:Int) (tv:Str) (tu:Bool) (a b:List Sp) (e:Int) (q:List Rw) (f u:Int) (vs:List Str) (x y:Str) (has hb ha:MKey→Bool) (nb na:MKey→List Iv) (out:List Iv) (N:Nat) (i:Int) (J:St→Prop) (K:D→Heap→Prop):runS (En Tryz.f55) (fh Tryz.f55 K) (nSpcs k tm tv tu a e y has hb ha nb na out N) lvSp2 200 [.code [1,1,1,1,1,0,1,0,0,1,1,0,0,1,1,1,1],.blk 1,.code [1,1,1,1,1,0,1,0,0,1,1,1],stp [1,2,3,4,12,13,14,36,37,38] J,.blk 0,.code [1,1,1,1,1,1]] (SSq k ⟨tm,tv,tu⟩ a b e q f u vs x y has hb ha nb na out N i) =
 (bif !ha [KA.s y] then
 Does PP 90 [.agg [I k,I tm,.str tv,B tu,D.mp 0],L a 3 Sp.d,.str y,I e] (hSp k ⟨tm,tv,tu⟩ has hb ha nb na out.length N) (ren (rnm [0] 3) (rnm [] (hSp k ⟨tm,tv,tu⟩ has hb ha nb na out.length N).nt) (L (nearI k ⟨tm,tv,tu⟩ a y e) 2 Iv.d)) (frameH [0] [] (hSp k ⟨tm,tv,tu⟩ has hb ha nb na out.length N) (hSf k ⟨tm,tv,tu⟩ (hasN y a has))) ∧
  True∧At (En Tryz.f55) (fh Tryz.f55 K) [It.code [1,1,1,1,1,0,1,0,0,1,1,0,0,1,1,1,1,1],It.blk 1,It.code [1,1,1,1,1,0,1,0,0,1,1,1],stp [1,2,3,4,12,13,14,36,37,38] J,It.blk 0,It.code [1,1,1,1,1,1]] {sl:=[(1,L a 3 Sp.d),(2,L b 3 Sp.d),(3,I e),(4,.own [I k,I tm,.str tv,B tu,.mp 0]),(12,.mp 1),(13,.mp 2),(14,LT out 2 Iv.d 0),(16,.own [I f,I u,L vs 1 .str]),(17,.str x),(18,.str y),(36,L q 3 Rw.d),(37,I (↑q.length:Int)),(38,I i)],h:={box:=upd (upd (bxSp k ⟨tm,tv,tu⟩ has hb ha nb na) 0 (some (Row.map KK.ss (hasN y a has) (MV.b (smF k ⟨tm,tv,tu⟩ (hasN y a has)))))) 2 (some (Row.map KK.str (updK ha [KA.s y] true) (MV.d (.list 0 0 (fun _=>D.junk) .full) (updK (fun x=>L (na x) 2 Iv.d) [KA.s y] (L (nearI k ⟨tm,tv,tu⟩ a y e) 2 Iv.d))))),nl:=3,hw:=upd (upd (fun _=>none) 0 (some out.length)) (N+1) none,nt:=N+1+1,vw:=upd (fun _=>none) (N+1) none:Heap}:St}
 else At (En Tryz.f55) (fh Tryz.f55 K) [It.code [1,1,1,1,1,0,1,0,0,1,1,0,0,1,1,1,1,1],It.blk 1,It.code [1,1,1,1,1,0,1,0,0,1,1,1],stp [1,2,3,4,12,13,14,36,37,38] J,It.blk 0,It.code [1,1,1,1,1,1]] {sl:=[(1,L a 3 Sp.d),(2,L b 3 Sp.d),(3,I e),(4,.own [I k,I tm,.str tv,B tu,.mp 0]),(12,.mp 1),(13,.mp 2),(14,LT out 2 Iv.d 0),(16,.own [I f,I u,L vs 1 .str]),(17,.str x),(18,.str y),(36,L q 3 Rw.d),(37,I (↑q.length:Int)),(38,I i)],h:=(hSp k ⟨tm,tv,tu⟩ has hb ha nb na out.length N):St}):=by kernel_rfl
noncomputable def nSpds (f:Int) (u:Int) (x:Str) (y:Str) (nb:MKey→List Iv) (na:MKey→List Iv):List Nat→Nat→Option Ans:=scrAt [([1,1,1,1,1,0,1,0,0,1,1,0,0,1,1,1,1,1,0],7,Ans.pure [L (nb [KA.s x]) 2 Iv.d,I f,I u] (L (iclip (nb [KA.s x]) f u) 2 Iv.d)),([1,1,1,1,1,0,1,0,0,1,1,0,0,1,1,1,1,1,0],15,Ans.pure [L (na [KA.s y]) 2 Iv.d,I f,I u] (L (iclip (na [KA.s y]) f u) 2 Iv.d)),([1,1,1,1,1,0,1,0,0,1,1,0,0,1,1,1,1,1,0],16,Ans.pure [L (iclip (nb [KA.s x]) f u) 2 Iv.d,L (iclip (na [KA.s y]) f u) 2 Iv.d] (L (cmR 1 (iclip (nb [KA.s x]) f u) (iclip (na [KA.s y]) f u)) 2 Iv.d)),([1,1,1,1,1,0,1,0,0,1,1,0,0,1,1,1,1,1,1],6,Ans.pure [L (cmR 1 (iclip (nb [KA.s x]) f u) (iclip (na [KA.s y]) f u)) 2 Iv.d,I f,I u] (L (cmpI (cmR 1 (iclip (nb [KA.s x]) f u) (iclip (na [KA.s y]) f u)) f u) 2 Iv.d))]
theorem nSpd (k tm:Int) (tv:Str) (tu:Bool) (a b:List Sp) (e:Int) (q:List Rw) (f u:Int) (vs:List Str) (x y:Str) (has hb ha:MKey→Bool) (nb na:MKey→List Iv) (out:List Iv) (N:Nat) (i:Int) (J:St→Prop) (K:D→Heap→Prop):runS (En Tryz.f55) (fh Tryz.f55 K) (nSpds f u x y nb na) nolv 200 [.code [1,1,1,1,1,0,1,0,0,1,1,0,0,1,1,1,1,1],.blk 1,.code [1,1,1,1,1,0,1,0,0,1,1,1],stp [1,2,3,4,12,13,14,36,37,38] J,.blk 0,.code [1,1,1,1,1,1]] (SSq k ⟨tm,tv,tu⟩ a b e q f u vs x y has hb ha nb na out N i) =
 (PureW PP 20 [L (nb [KA.s x]) 2 Iv.d,I f,I u] [L (nb [KA.s x]) 2 Iv.d,I f,I u] (L (iclip (nb [KA.s x]) f u) 2 Iv.d) ∧
 PureW PP 20 [L (na [KA.s y]) 2 Iv.d,I f,I u] [L (na [KA.s y]) 2 Iv.d,I f,I u] (L (iclip (na [KA.s y]) f u) 2 Iv.d) ∧
  PureW PP 91 [L (iclip (nb [KA.s x]) f u) 2 Iv.d,L (iclip (na [KA.s y]) f u) 2 Iv.d] [L (iclip (nb [KA.s x]) f u) 2 Iv.d,L (iclip (na [KA.s y]) f u) 2 Iv.d] (L (cmR 1 (iclip (nb [KA.s x]) f u) (iclip (na [KA.s y]) f u)) 2 Iv.d)∧PureW PP 92 [L (cmR 1 (iclip (nb [KA.s x]) f u) (iclip (na [KA.s y]) f u)) 2 Iv.d,I f,I u] [L (cmR 1 (iclip (nb [KA.s x]) f u) (iclip (na [KA.s y]) f u)) 2 Iv.d,I f,I u] (L (cmpI (cmR 1 (iclip (nb [KA.s x]) f u) (iclip (na [KA.s y]) f u)) f u) 2 Iv.d)∧(upd (fun _=>none) 0 (some out.length) 0=some out.length∧(out.length+(cmpI (cmR 1 (iclip (nb [KA.s x]) f u) (iclip (na [KA.s y]) f u)) f u).length) * 16≤roomM)∧J {sl:=[(1,L a 3 Sp.d),(2,L b 3 Sp.d),(3,I e),(4,.own [I k,I tm,.str tv,B tu,D.mp 0]),(12,D.mp 1),(13,D.mp 2),(14,.list (out.length+(cmpI (cmR 1 (iclip (nb [KA.s x]) f u) (iclip (na [KA.s y]) f u)) f u).length) 2 (catG out.length (fun i=>(out.getD i default).d) fun i=>((cmpI (cmR 1 (iclip (nb [KA.s x]) f u) (iclip (na [KA.s y]) f u)) f u).getD i default).d) (.tok 0 2)),(36,L q 3 Rw.d),(37,I (↑q.length:Int)),(38,I (addI .i64 i 1))],h:={box:=bxSp k ⟨tm,tv,tu⟩ has hb ha nb na,nl:=3,hw:=upd (upd (fun _=>none) 0 (some out.length)) 0 (some (out.length+(cmpI (cmR 1 (iclip (nb [KA.s x]) f u) (iclip (na [KA.s y]) f u)) f u).length)),nt:=N+1,vw:=fun _=>none:Heap}:St}):=by kernel_rfl
def hSpF (k:Int) (t:Tol) (has hb ha:MKey→Bool) (nb na:MKey→List Iv) (N:Nat):Heap:=⟨upd (upd (upd (fun _=>none) 0 (some (.map .ss has (.b (smF k t has))))) 1 (some (.map .str hb (.d (.list 0 0 (fun x=> .junk) .full) fun x=>L (nb x) 2 Iv.d)))) 2 (some (.map .str ha (.d (.list 0 0 (fun x=> .junk) .full) fun x=>L (na x) 2 Iv.d))),3,fun _=>none,N+1,fun _=>none⟩
noncomputable def nSpes (out:List Iv):List Nat→Nat→Option Ans:=scrAt [([1,1,1,1,1,1,0],1,Ans.pure [L out 2 Iv.d] (L (norI out) 2 Iv.d))]
theorem nSpe (k:Int) (t:Tol) (has hb ha:MKey→Bool) (nb na:MKey→List Iv) (out:List Iv) (N:Nat) (K:D→Heap→Prop):runS (En Tryz.f55) (fh Tryz.f55 K) (nSpes out) nolv 200 [.code [1,1,1,1,1,1]] ⟨[(14,L out 2 Iv.d)],hSpF k t has hb ha nb na N⟩ =
 (PureW PP 58 [L out 2 Iv.d] [L out 2 Iv.d] (L (norI out) 2 Iv.d)∧K (.tup [L (norI out) 2 Iv.d,I 0]) {box:=upd (upd (upd (fun _=>none) 0 (some (Row.map KK.ss has (MV.b (smF k t has))))) 1 (some (Row.map KK.str hb (MV.d (.list 0 0 (fun _=>D.junk) .full) fun x=>L (nb x) 2 Iv.d)))) 2 (some (Row.map KK.str ha (MV.d (.list 0 0 (fun _=>D.junk) .full) fun x=>L (na x) 2 Iv.d))),nl:=3,hw:=fun _=>none,nt:=N+1,vw:=fun _=>none:Heap}):=by kernel_rfl
theorem updK_L {nb:MKey→List Iv} {k:MKey} {l:List Iv}:updK (fun x=>L (nb x) 2 Iv.d) k (L l 2 Iv.d)=fun x=>L (updK nb k l x) 2 Iv.d:=by
 funext x
 unfold updK
 cases decide (x=k) <;> rfl
end Go.Proofs.YtiekphbkomddfaaGreatDoor.S1
