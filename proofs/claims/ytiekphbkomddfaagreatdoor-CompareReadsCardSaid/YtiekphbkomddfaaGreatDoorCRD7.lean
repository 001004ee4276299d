/- The library's Repeat of bytes: the contract. -/
import Derived.Test.YtiekphbkomddfaaGreatDoorCRD6
namespace Go.Proofs.YtiekphbkomddfaaGreatDoor.S1
open Go Go.Ab Go.Proofs
-- nolay
attribute [local instance] LT10
def isReg:Option Code→Bool
 | some (.region _ _ false)=>true
 | _=>false
theorem at_regE {E:Env} {fin:St→Prop} {p:List Nat} {td:List It} {st:St} (hs:isReg (sub E.root p)=true) (hok:opsOk E.nt (opsOf E.root p)=true)
  (he:execOps E.P E.cfg (CallE E.P) (CallY E.P) (PCall E.P) (opsOf E.root p) (fun _=>false) (fun i st=>At E fin (.ops p i::td) st) 0 (opsOf E.root p) ⟨purge st.sl,st.h⟩ (At E fin td)):At E fin (.code p::td) st:=by
 unfold isReg at hs
 split at hs
 ·rename_i id ops h
  have hops:opsOf E.root p=ops.toList:=by simp [opsOf,h]
  rw [hops] at hok he
  exact ⟨_,h,run_regionE (fun h=> .inr h) h (fun st h=>h.it) hok he⟩
 ·cases hs
theorem c166 (n:Int):Pure PP 166 [.int .u64 1,.int .u64 n] (.tup [.int .u64 (mulHi n),.int .u64 (mulI .u64 1 n)]) :=
 pu F166 (by kernel_rfl) (of_eq (nM64 n _) ⟨by decide,by decide,by decide,by decide,by decide,Wk.refl _⟩)
theorem c142 (n:Int):Pure PP 142 [.int .u64 1,.int .u64 n] (.tup [.int .u64 (mulHi n),.int .u64 (mulI .u64 1 n)]) :=
 pu F142 (by kernel_rfl) (of_eq (nMul n _) ⟨PureW.mk (c166 n),Wk.refl _⟩)
theorem mul1 (n:Nat) (h:n≤1000):mulHi n=0∧mulI .u64 1 n=n∧IntKind.u64.wrap n=n∧IntKind.i64.wrap n=n:=by
 have:∀ n∈List.range 1001,mulHi (n:Int)=0∧mulI .u64 1 (n:Int)=n∧IntKind.u64.wrap (n:Int)=n∧IntKind.i64.wrap (n:Int)=n:=by decide +kernel
 exact this n (List.mem_range.2 (by omega))
theorem digits_u8 : ∀ (n t : Nat) (acc : Array Value), (∀ v ∈ acc.toList, ∃ k : Int, v = .int .u8 k) → ∀ v ∈ (Extern.BytealgMakeNoZero.digits n t acc).toList, ∃ k : Int, v = .int .u8 k
  | 0, _, _, h => h
  | n + 1, t, acc, h => digits_u8 n (t / 256) _ fun v hv => by
    rw [Array.toList_push, List.mem_append] at hv
    rcases hv with hv | hv
    · exact h v hv
    · exact ⟨_, by simpa using hv⟩
theorem run_mnz {P:Program} (w:World) (ps:Array TypeId) {t e:TypeId} (ht:P.underlying t=some (.slice e)) {n:Nat} (hn:n≤281474976710656) :
  ∃ m q,n≤m∧(Extern.BytealgMakeNoZero.makeNoZero ps #[t] #[.int .i64 n]).run P w = .ok (.slice (some ⟨w.heap.size,0,none⟩) n m) (w.drew.drew.alloc (.cells (Extern.BytealgMakeNoZero.digits m q #[]) e)):=by
 refine ⟨grownCap w n 0 e,(Question.extern "internal/bytealg.MakeNoZero.bytes" 0).cut (w.tape (w.drawn+1) (.extern "internal/bytealg.MakeNoZero.bytes" 0)),by simpa using grownCap_ge w n 0 e,?_⟩
 have h1:¬ (n:Int) < 0:=by omega
 have h2:¬ (281474976710656:Int) < (n:Int):=by omega
 rw [show Extern.BytealgMakeNoZero.makeNoZero ps #[t] #[.int .i64 n]=(underlying t >>= fun d=>_) from rfl]
 simp [run_underlying ht,h1,h2,Question.forced,newRow,Lib.size_digits,grownCap]
def intD:Option Value→D
 | some (.int k n)=> .int k n
 | _=> .int .u8 0
theorem eMnz (n:Nat) (hn:n≤100000) (h:Heap) (K:D→Heap→Prop) (hK:∀ f:Nat→D,K (.sl h.nl 0 n) {h with box:=upd h.box h.nl (some (.arr n f)),nl:=h.nl+1}):CallE PP 143 [I n] h K:=by
 refine ⟨fun g U w vs i hs=> ?_⟩
 simp only [Rs,R] at hs
 obtain ⟨v,_,rfl,rfl,rfl⟩:=hs
 obtain ⟨m,q,hm,hr⟩:=run_mnz (P:=PP) w #[3] (t:=84) (e:=5) (by kernel_rfl) (n:=n) (by omega)
 have hrun:=run_callFunc_extern (P:=PP) (f:=143) (fn:=Tryz.f143) (by kernel_rfl) (by kernel_rfl) (by kernel_rfl) (by kernel_rfl) (e:=Extern.BytealgMakeNoZero.makeNoZero #[3] #[84]) (by kernel_rfl) #[.int .i64 n] w
 rw [hr] at hrun
 have hd:=digits_u8 m q #[] (by simp)
 have hsz:=Lib.size_digits m q #[]
 generalize Extern.BytealgMakeNoZero.digits m q #[]=cs at *
 have e1:=draw_ext i
 have i1:=i.ext e1
 have e2:=draw_ext i1
 have i2:=i1.ext e2
 have e3:=Ext.alloc i2 (.cells cs 5)
 have r2:Rel 0 g (fun _=>0) U noY ⟨[],h⟩ {tmps:= #[],defers:=[]} w.drew.drew:=⟨DefOk.nil U _,rfl,List.nodup_nil,fun _ _ h=>(by cases h),fun _ _ _ h=>(by cases h),fun _ _ h=>(by cases h),fun _ _ _ _ h=>(by cases h),i2⟩
 have r3:=r2.newBox (row:= .arr n fun j=>intD cs[j]?) (vals:=cs) (T:=5) ⟨by simp at hsz; omega,fun j hj=>by
  have hj':j < cs.size:=by simp at hsz; omega
  obtain ⟨k,hk⟩:=hd cs[j] (by simp)
  exact ⟨_,Array.getElem?_eq_getElem hj',by show R g (intD cs[j]?) cs[j]; rw [Array.getElem?_eq_getElem hj',hk]; simp only [intD,R]⟩⟩
 refine ⟨_,_,_,.sl h.nl 0 n,_,hrun,?_,r3.inv,Grow.sameσ (addBox_le (i2.frL _ (Nat.le_refl _))) rfl,(e1.kept i.ub).trans ((e2.kept i1.ub).trans (e3.kept i2.ub)),hK _⟩
 simp only [R]
 exact ⟨w.heap.size,upd_same _ _ _,_,_,rfl,hm,by unfold lenM; omega,fun _=>rfl⟩
theorem overG_in {f g:Nat→D} {o c i:Nat} (h1:o≤i) (h2:i < o+c):overG f o c g i=g (i - o):=by
 unfold overG
 rw [Nat.ble_eq_true_of_le h1,show Nat.blt i (o+c)=true from Nat.ble_eq_true_of_le h2]; rfl
theorem overG_lo {f g:Nat→D} {o c i:Nat} (h1:i < o):overG f o c g i=f i:=by
 unfold overG
 rw [show Nat.ble o i=false by rw [← Bool.not_eq_true,Nat.ble_eq]; omega]; rfl
theorem e122 (n:Nat) (h1:1≤n) (h:n≤1000):Does PP 122 [.list 1 1 (litG [.int .u8 48]) .full,I n] .empty (.sl 0 0 n) (hRp n fun _=>encB 48):=by
 obtain ⟨m1,m2,m3,m4⟩:=mul1 n h
 refine du F122 (by kernel_rfl) (of_eq (nRp n _) (cond_intro (fun h=> ?_) fun _=>cond_intro (fun h=> ?_) fun _ _=>⟨PureW.mk (c142 _),cond_intro (fun h=> ?_) fun _ _=>cond_intro (fun h=> ?_) fun _=> ?_⟩))
 ·have:(n:Int)=0:=by simpa using h
  omega
 ·have:(n:Int) < 0:=by simpa using h
  omega
 ·rw [m3,m1,m2] at h
  have:(n:Int) > 9223372036854775807:=by simpa using h
  omega
 ·rw [m3,m2,m4] at h
  have:(n:Int) > 8192:=by simpa using h
  omega
 ·rw [m3,m2,m4]
  refine at_regE (by kernel_rfl) (by kernel_rfl) (of_eq (q:=CallE PP 143 [I n] .empty fun v h'=>At (En Tryz.f122) (fh Tryz.f122 fun d h''=>RetLe d h'' (.sl 0 0 n) (hRp n fun _=>encB 48)) [.ops [1,1,1,1,1,1,1,1,1,0] 2,.code [1,1,1,1,1,1,1,1,1,1]] ⟨putO [(53,I n),(0,.list 1 1 (litG [.int .u8 48]) .full),(7,I n),(8,I n)] (some 54) v,h'⟩) (by kernel_rfl) (eMnz n (by omega) _ _ fun f=> ?_))
  refine runS_sound hmix _ _ _ (of_eq (nRpb n f n _) ⟨⟨by omega,by omega,by omega,rfl⟩,⟨by omega,fun i hi=>(by obtain rfl:i=0:=(by omega); rfl)⟩,?_⟩)
  rw [Int.toNat_natCast,Nat.sub_zero,upd_upd]
  refine lp (fn:=Tryz.f122) (fun x:Nat × (Nat→D)=>1≤x.1∧x.1≤n∧∀ i,i < x.1→x.2 i=encB 48) (fun x=>SRp n x.2 n x.1) (fun x=>n - x.1) [7,8,9,10] (by kernel_rfl) (fun x hx=>of_eq (nRpa n x.2 n x.1 _ _) (cond_intro (fun hlt=> ?_) fun hge=> ?_)) (min 1 n,overG f 0 (min 1 n) (litG [.int .u8 48])) ⟨by omega,by omega,fun i hi=> ?_⟩
  ·obtain ⟨b,f⟩:=x
   obtain ⟨x1,x2,x3⟩:=hx
   simp only at x1 x2 x3 hlt ⊢
   have hlt:=ltI hlt
   rw [if_neg (by omega),Int.toNat_natCast,Nat.sub_zero]
   refine ⟨⟨by omega,by omega⟩,⟨by omega,by omega,by omega⟩,⟨by omega,by omega,fun i hi=> ?_⟩,Nx.of (b+min b (n - b),overG f b (min b (n - b)) f) ⟨by simp only; omega,by simp only; omega,fun i hi=> ?_⟩ (by simp only; omega) ?_⟩
   ·rw [Nat.zero_add,x3 i hi]; rfl
   ·simp only at hi ⊢
    rcases Nat.lt_or_ge i b with hb | hb
    ·rw [overG_lo hb]; exact x3 i hb
    ·rw [overG_in hb hi]; exact x3 _ (by omega)
   ·rw [upd_upd,Nat.zero_add,Nat.mul_one,dropG_nil,add64 (by omega) (by omega)]
    exact (StLe.refl _ _).cast (by kernel_rfl)
  ·obtain ⟨b,f⟩:=x
   obtain ⟨x1,x2,x3⟩:=hx
   simp only at x1 x2 x3 hge ⊢
   have hge:=geI hge
   exact RetLe.of (Wk.refl _) (HeapLe.row (.arr fun i hi=>by rw [x3 i (by omega)]; exact Wk.refl _))
  ·simp only at hi ⊢
   rw [overG_in (by omega) (by omega)]
   have:i=0:=by omega
   subst this; rfl
end Go.Proofs.YtiekphbkomddfaaGreatDoor.S1
namespace Go.Proofs.YtiekphbkomddfaaGreatDoor.S1
open Go Go.Ab Go.Proofs
-- nolay
attribute [local instance] LT10
theorem eRpI (n:Int) (h1:1≤n) (h:n≤1000):Does PP 122 [.list 1 1 (litG [.int .u8 48]) .full,I n] .empty (.sl 0 0 n.toNat) (hRp n.toNat fun _=>encB 48):=by
 have:=e122 n.toNat (by omega) (by omega)
 rw [show ((n.toNat:Nat):Int)=n by omega] at this
 exact this
theorem F70:OkF 70 Tryz.f70:=⟨by kernel_rfl,by kernel_rfl,by kernel_rfl⟩
def lv70:List (List Nat × List Nat):=[]
noncomputable def nAls (n:Int):List Nat→Nat→Option Ans:=scrAt [([1,0],2,Ans.eff (D.sl 0 0 n.toNat) (hRp n.toNat fun x=>encB 48))]
theorem nAl (x:Nm) (e n:Int) (K:D→Heap→Prop):runS (En Tryz.f70) (fh Tryz.f70 K) (nAls n) lv70 200 [.code []] ⟨argSlots 0 [x.d,I e,I n],.empty⟩ =
 (Does PP 122 [.list 1 1 (litG [D.int IntKind.u8 48]) .full,I n] Heap.empty (D.sl 0 0 n.toNat) (hRp n.toNat fun x=>encB 48)∧(List.length x.dig≤lenM→(0≤subI .i64 (subI .i64 n (↑(List.length x.dig):Int)) (subI .i64 x.ex e)∧subI .i64 (subI .i64 n (↑(List.length x.dig):Int)) (subI .i64 x.ex e)≤(↑n.toNat:Int))∧(0+(subI .i64 (subI .i64 n (↑(List.length x.dig):Int)) (subI .i64 x.ex e)).toNat * 1+(n.toNat - (subI .i64 (subI .i64 n (↑(List.length x.dig):Int)) (subI .i64 x.ex e)).toNat)≤n.toNat∧∀ (i:Nat),i < List.length x.dig→oneD (encB (List.getD x.dig i default))=true)∧K (D.sl 0 0 n.toNat) {box:=upd (upd (fun _=>none) 0 (some (Row.arr n.toNat fun x=>encB 48))) 0 (some (Row.arr n.toNat (overG (fun x=>encB 48) (0+(subI .i64 (subI .i64 n (↑(List.length x.dig):Int)) (subI .i64 x.ex e)).toNat * 1) (min (List.length x.dig) (n.toNat - (subI .i64 (subI .i64 n (↑(List.length x.dig):Int)) (subI .i64 x.ex e)).toNat)) fun i=>encB (List.getD x.dig i default)))),nl:=1,hw:=fun _=>none,nt:=0,vw:=fun _=>none:Heap})):=by kernel_rfl
theorem e70 (x:Nm) (e n:Int) (h1:1≤n) (h:n≤1000) (he:e≤x.ex) (hl:x.dig.length+(x.ex - e).toNat≤n.toNat) (hx : -1000000≤e∧x.ex≤1000000) :
  Does PP 70 [x.d,I e,I n] .empty (.sl 0 0 n.toNat) (hRp n.toNat fun i=>encB ((alnR x e n.toNat).getD i 0)):=by
 have e1:subI .i64 (subI .i64 n x.dig.length) (subI .i64 x.ex e)=((n.toNat - x.dig.length - (x.ex - e).toNat:Nat):Int):=by
  rw [sub64 (a:=n) (by omega) (by omega),sub64 (a:=x.ex) (by omega) (by omega),sub64 (by omega) (by omega)]; omega
 refine du F70 (by kernel_rfl) (of_eq (nAl x e n _) ⟨eRpI n h1 h,fun _=> ?_⟩)
 rw [e1,Int.toNat_natCast]
 refine ⟨⟨by omega,by omega⟩,⟨by omega,fun i hi=>rfl⟩,?_⟩
 rw [upd_upd]
 refine RetLe.of (Wk.refl _) (HeapLe.row (.arr fun i hi=>Wk.of_eq ?_))
 have hz:∀ k j,(zs k).getD j 0=if j < k then 48 else 0:=fun k j=>by
  unfold zs
  rw [List.getD_eq_getElem?_getD,List.getElem?_replicate]
  split <;> rfl
 unfold alnR
 generalize ho:n.toNat - x.dig.length - (x.ex - e).toNat=o
 generalize hk:(x.ex - e).toNat=k at *
 rw [List.getD_eq_getElem?_getD]
 rcases Nat.lt_or_ge i (0+o * 1) with h2 | h2
 ·rw [overG_lo h2,List.getElem?_append_left (by rw [zs_len]; omega),← List.getD_eq_getElem?_getD,hz,if_pos (by omega)]
 ·rw [List.getElem?_append_right (by rw [zs_len]; omega),zs_len]
  rcases Nat.lt_or_ge i (o+x.dig.length) with h3 | h3
  ·rw [overG_in h2 (by omega),List.getElem?_append_left (by omega),← List.getD_eq_getElem?_getD]
   rw [show i - (0+o * 1)=i - o by omega]; rfl
  ·have hout:overG (fun _=>encB 48) (0+o * 1) (min x.dig.length (n.toNat - o)) (fun i=>encB (x.dig.getD i default)) i=encB 48:=by
    unfold overG
    rw [show Nat.blt i (0+o * 1+min x.dig.length (n.toNat - o))=false by rw [← Bool.not_eq_true,Nat.blt_eq]; omega,Bool.and_false]; rfl
   rw [hout,List.getElem?_append_right (by omega),← List.getD_eq_getElem?_getD,hz,if_pos (by omega)]
theorem byteD_enc (c:UInt8):byteD (encB c)=c:=by
 show UInt8.ofNat ((c.toNat:Int)).toNat=c
 rw [Int.toNat_natCast,UInt8.ofNat_toNat]
theorem eTr (ng:Bool) (N:Nat) (F:Nat→D) (e:Int) (hF:∀ i,i < N→F i=encB (byteD (F i))) (hl:N≤1000000) (h1 : -1000000000≤e) (h2:e≤1000000000) :
  Does PP 71 [.agg [B ng,.sl 0 0 N,I e]] ⟨upd (fun _=>none) 0 (some (.arr N F)),1,fun _=>none,0,fun _=>none⟩ (trimF ⟨ng,bytesG N F,e⟩).d ⟨fun _=>none,1,fun _=>none,0,fun _=>none⟩:=by
 have hlen:(bytesG N F).length=N:=by simp [bytesG]
 have p:=c71 ⟨ng,bytesG N F,e⟩ (by rw [hlen]; exact hl) h1 h2
 refine Does.of_calls p.ok fun g U w vs i hs=> ?_
 obtain ⟨g',i',h2,h3⟩:=i.lay (l:=0) (m:=N) (cg:=F) rfl
 have i2:Inv g' U ⟨fun _=>none,1,fun _=>none,0,fun _=>none⟩ w:=by
  have e:hLay ⟨upd (fun _=>none) 0 (some (.arr N F)),1,fun _=>none,0,fun _=>none⟩ 0=⟨fun _=>none,1,fun _=>none,0,fun _=>none⟩:=by
   unfold hLay
   congr 1
   funext l
   rcases l with _ | l <;> rfl
  rw [← e]; exact i'
 have hs':Rs g' [Nm.d ⟨ng,bytesG N F,e⟩] vs:=by
  simp only [Rs] at hs ⊢
  obtain ⟨v,r,rfl,hv,hr⟩:=hs
  refine ⟨v,r,rfl,?_,hr⟩
  simp only [R,Rs,Nm.d] at hv ⊢
  obtain ⟨us,rfl,b,q,rfl,hb,s,q2,rfl,hs2,k,q3,rfl,hk,rfl⟩:=hv
  refine ⟨_,rfl,b,_,rfl,hb,s,_,rfl,?_,k,_,rfl,hk,rfl⟩
  have h4:=h3 s 0 N 1 (fun i=>encB ((bytesG N F).getD i default)) (by simpa only [R] using hs2) (by omega) (ElemsOf.one fun j hj=>⟨rfl,rfl,rfl,by
   rw [Nat.zero_add,hF j hj]
   congr 1
   simp [bytesG,List.getD,hj]⟩)
  show R g' (.list (bytesG N F).length 1 _ .none) s
  rw [hlen]; exact h4
 refine Calls.mono (p.calls g' w vs i2.ltab i2.sub hs') fun e w' ⟨x,σ',e1,e2,e3,e4,e5,e6⟩=> ?_
 have ex:Ext g' w ⟨σ',g'.μ,g'.τ⟩ w':=⟨⟨e3,fun _ _ h=>h,fun _ k h=>⟨k,h,rfl,Nat.le_refl _,fun _=>rfl⟩⟩,rfl,rfl,e5,e4,e6⟩
 exact ⟨x,_,e1,e2,i2.ext ex,h2.trans (ex.grow i2.ub),ex.kept i2.ub⟩
theorem F43:OkF 43 Tryz.f43:=⟨by kernel_rfl,by kernel_rfl,by kernel_rfl⟩
def lv43:List (List Nat × List Nat):=[([1,1,1,1,1,1,0],[2,3,4,5,6]),([1,1,1,1,1,1,1,1,0,1,0],[2,3,4,5,7,8,9,10]),([1,1,1,1,1,1,1,1,0,1,0,0,1,0,0,1,1,0],[2,3,4,5,7,8,10,11]),([1,1,1,1,1,1,1,1,0,1,0,0,1,0,0,1,1,1,1],[2,3,4,5,7,8,9,10,11]),([1,1,1,1,1,1,1,1,1],[2,4,5,7])]
noncomputable def nAds (a:Nm) (b:Nm):List Nat→Nat→Option Ans:=scrAt [([1,1,1,1,0],1,Ans.pure [a.d] (I a.fst)),([1,1,1,1,0],3,Ans.pure [b.d] (I b.fst)),([1,1,1,1,1,0,0],2,Ans.pure [a.d,b.d] (I (magF a b)))]
theorem nAd (a b:Nm) (K:D→Heap→Prop):runS (En Tryz.f43) (fh Tryz.f43 K) (nAds a b) lv43 200 [.code []] ⟨argSlots 0 [a.d,b.d],.empty⟩ =
 (List.length a.dig≤lenM→bif (↑(List.length a.dig):Int)==0 then True∧K (.agg [B b.neg,L b.dig 1 encB,I b.ex]) Heap.empty else List.length b.dig≤lenM→bif (↑(List.length b.dig):Int)==0 then True∧K (.agg [B a.neg,L a.dig 1 encB,I a.ex]) Heap.empty else PQ PP 68 [a.d] (I a.fst)∧PQ PP 68 [b.d] (I b.fst)∧PQ PP 69 [a.d,b.d] (I (magF a b))∧bif decide (magF a b < 0) then True∧True∧At (En Tryz.f43) (fh Tryz.f43 K) [It.code [1,1,1,1,1,1,0],It.code [1,1,1,1,1,1,1]] {sl:=[(2,.own [B b.neg,L b.dig 1 encB,I b.ex]),(3,.own [B a.neg,L a.dig 1 encB,I a.ex]),(4,.own [B false,.list 0 0 (fun _=>D.junk) .full,I 0]),(5,I (if b.ex < a.ex then b.ex else a.ex)),(6,I (addI .i64 (subI .i64 (if b.fst > a.fst then b.fst else a.fst) (if b.ex < a.ex then b.ex else a.ex)) 2))],h:=Heap.empty:St} else At (En Tryz.f43) (fh Tryz.f43 K) [It.code [1,1,1,1,1,1,0],It.code [1,1,1,1,1,1,1]] {sl:=[(2,.own [B a.neg,L a.dig 1 encB,I a.ex]),(3,.own [B b.neg,L b.dig 1 encB,I b.ex]),(4,.own [B false,.list 0 0 (fun _=>D.junk) .full,I 0]),(5,I (if b.ex < a.ex then b.ex else a.ex)),(6,I (addI .i64 (subI .i64 (if b.fst > a.fst then b.fst else a.fst) (if b.ex < a.ex then b.ex else a.ex)) 2))],h:=Heap.empty:St}):=by kernel_rfl
def hAd (N:Nat) (f g:Nat→D):Heap:=⟨upd (upd (fun _=>none) 0 (some (.arr N f))) 1 (some (.arr N g)),2,fun _=>none,0,fun _=>none⟩
def lvAdb:List (List Nat × List Nat):=[([1,1,1,1,1,1,1,1,0,1,0],[2,3,4,5,7,8,9,10])]
noncomputable def nAdbs (a:Nm) (b:Nm) (e:Int) (n:Int):List Nat→Nat→Option Ans:=scrAt [([1,1,1,1,1,1,0],3,Ans.eff (D.sl 0 0 n.toNat) (hRp n.toNat fun i=>encB (List.getD (alnR a e n.toNat) i 0))),([1,1,1,1,1,1,0],7,Ans.eff (ren (rnm [] 1) (rnm [] 0) (D.sl 0 0 n.toNat)) (frameH [] [] {box:=upd (fun _=>none) 0 (some (Row.arr n.toNat fun i=>encB (List.getD (alnR a e n.toNat) i 0))),nl:=1,hw:=fun _=>none,nt:=0,vw:=fun _=>none:Heap} (hRp n.toNat fun i=>encB (List.getD (alnR b e n.toNat) i 0))))]
theorem nAdb (a b:Nm) (e n:Int) (K:D→Heap→Prop):runS (En Tryz.f43) (fh Tryz.f43 K) (nAdbs a b e n) lvAdb 200 [.code [1,1,1,1,1,1,0],.code [1,1,1,1,1,1,1]] ⟨[(2,.own [B a.neg,L a.dig 1 encB,I a.ex]),(3,.own [B b.neg,L b.dig 1 encB,I b.ex]),(4,.own [B false,.list 0 0 (fun _=> .junk) .full,I 0]),(5,I e),(6,I n)],.empty⟩ =
 (Does PP 70 [.agg [B a.neg,L a.dig 1 encB,I a.ex],I e,I n] Heap.empty (D.sl 0 0 n.toNat) (hRp n.toNat fun i=>encB (List.getD (alnR a e n.toNat) i 0))∧Does PP 70 [.agg [B b.neg,L b.dig 1 encB,I b.ex],I e,I n] {box:=upd (fun _=>none) 0 (some (Row.arr n.toNat fun i=>encB (List.getD (alnR a e n.toNat) i 0))),nl:=1,hw:=fun _=>none,nt:=0,vw:=fun _=>none:Heap} (ren (rnm [] 1) (rnm [] 0) (D.sl 0 0 n.toNat)) (frameH [] [] {box:=upd (fun _=>none) 0 (some (Row.arr n.toNat fun i=>encB (List.getD (alnR a e n.toNat) i 0))),nl:=1,hw:=fun _=>none,nt:=0,vw:=fun _=>none:Heap} (hRp n.toNat fun i=>encB (List.getD (alnR b e n.toNat) i 0)))∧At (En Tryz.f43) (fh Tryz.f43 K) [It.code [1,1,1,1,1,1,1,1,0,1,0],It.blk 0,It.code [1,1,1,1,1,1,1,1,1]] {sl:=[(2,.own [B a.neg,L a.dig 1 encB,I a.ex]),(3,.own [B b.neg,L b.dig 1 encB,I b.ex]),(4,.own [B false,.list 0 0 (fun _=>D.junk) .full,I 0]),(5,I e),(7,D.sl 0 0 n.toNat),(8,D.sl 1 0 n.toNat),(9,I 0),(10,I (subI .i64 n 1))],h:={box:=upd (upd (fun _=>none) 0 (some (Row.arr n.toNat fun i=>encB (List.getD (alnR a e n.toNat) i 0)))) 1 (some (Row.arr n.toNat fun i=>encB (List.getD (alnR b e n.toNat) i 0))),nl:=2,hw:=fun _=>none,nt:=0,vw:=fun _=>none:Heap}:St}):=by kernel_rfl
def SAd (a b:Nm) (e:Int) (N:Nat) (f g:Nat→D) (c i:Int):St:=⟨[(2,.own [B a.neg,L a.dig 1 encB,I a.ex]),(3,.own [B b.neg,L b.dig 1 encB,I b.ex]),(4,.own [B false,.list 0 0 (fun _=> .junk) .full,I 0]),(5,I e),(7,.sl 0 0 N),(8,.sl 1 0 N),(9,I c),(10,I i)],hAd N f g⟩
def SAe (a b:Nm) (e:Int) (N:Nat) (f g:Nat→D) (i d:Int):St:=⟨[(2,.own [B a.neg,L a.dig 1 encB,I a.ex]),(3,.own [B b.neg,L b.dig 1 encB,I b.ex]),(4,.own [B false,.list 0 0 (fun _=> .junk) .full,I 0]),(5,I e),(7,.sl 0 0 N),(8,.sl 1 0 N),(10,I i),(11,I d)],hAd N f g⟩
def SAf (a b:Nm) (e:Int) (N:Nat) (f g:Nat→D) (c i d:Int):St:=⟨[(2,.own [B a.neg,L a.dig 1 encB,I a.ex]),(3,.own [B b.neg,L b.dig 1 encB,I b.ex]),(4,.own [B false,.list 0 0 (fun _=> .junk) .full,I 0]),(5,I e),(7,.sl 0 0 N),(8,.sl 1 0 N),(9,I c),(10,I i),(11,I d)],hAd N f g⟩
noncomputable def nAdas:List Nat→Nat→Option Ans:=scrAt []
theorem nAda (a b:Nm) (e:Int) (N:Nat) (f g:Nat→UInt8) (c i:Int) (J:St→Prop) (K:D→Heap→Prop):runS (En Tryz.f43) (fh Tryz.f43 K) (nAdas ) lv43 200 [.code [1,1,1,1,1,1,1,1,0,1,0,0],stp [2,3,4,5,7,8,9,10] J,.blk 0,.code [1,1,1,1,1,1,1,1,1]] (SAd a b e N (fun j=>encB (f j)) (fun j=>encB (g j)) c i) =
 (bif decide (i≥0) then
 (0≤i∧i < (↑N:Int)) ∧
  0+i.toNat * 1 < N ∧
   bif a.neg==b.neg then (0≤i∧i < (↑N:Int))∧0+i.toNat * 1 < N∧At (En Tryz.f43) (fh Tryz.f43 K) [It.code [1,1,1,1,1,1,1,1,0,1,0,0,1,0,0,1,1,0],It.code [1,1,1,1,1,1,1,1,0,1,0,0,1,0,0,1,1,1],It.blk 1,It.code [1,1,1,1,1,1,1,1,0,1,0,0,1,1],stp [2,3,4,5,7,8,9,10] J,It.blk 0,It.code [1,1,1,1,1,1,1,1,1]] {sl:=[(2,.own [B a.neg,L a.dig 1 encB,I a.ex]),(3,.own [B b.neg,L b.dig 1 encB,I b.ex]),(4,.own [B false,nilL,I 0]),(5,I e),(7,.sl 0 0 N),(8,.sl 1 0 N),(10,I i),(11,I (addI .i64 (addI .i64 (IntKind.i64.wrap (subI IntKind.u8 (↑(f (0+i.toNat * 1)).toNat:Int) 48)) c) (IntKind.i64.wrap (subI IntKind.u8 (↑(g (0+i.toNat * 1)).toNat:Int) 48))))],h:=(hAd N (fun j=>encB (f j)) fun j=>encB (g j)):St}
   else (0≤i∧i < (↑N:Int))∧0+i.toNat * 1 < N∧At (En Tryz.f43) (fh Tryz.f43 K) [It.code [1,1,1,1,1,1,1,1,0,1,0,0,1,0,0,1,1,0],It.code [1,1,1,1,1,1,1,1,0,1,0,0,1,0,0,1,1,1],It.blk 1,It.code [1,1,1,1,1,1,1,1,0,1,0,0,1,1],stp [2,3,4,5,7,8,9,10] J,It.blk 0,It.code [1,1,1,1,1,1,1,1,1]] {sl:=[(2,.own [B a.neg,L a.dig 1 encB,I a.ex]),(3,.own [B b.neg,L b.dig 1 encB,I b.ex]),(4,.own [B false,nilL,I 0]),(5,I e),(7,.sl 0 0 N),(8,.sl 1 0 N),(10,I i),(11,I (subI .i64 (addI .i64 (IntKind.i64.wrap (subI IntKind.u8 (↑(f (0+i.toNat * 1)).toNat:Int) 48)) c) (IntKind.i64.wrap (subI IntKind.u8 (↑(g (0+i.toNat * 1)).toNat:Int) 48))))],h:=(hAd N (fun j=>encB (f j)) fun j=>encB (g j)):St}
 else At (En Tryz.f43) (fh Tryz.f43 K) [It.code [1,1,1,1,1,1,1,1,1]] {sl:=[(2,.own [B a.neg,L a.dig 1 encB,I a.ex]),(4,.own [B false,.list 0 0 (fun _=>D.junk) .full,I 0]),(5,I e),(7,D.sl 0 0 N)],h:=(hAd N (fun j=>encB (f j)) fun j=>encB (g j)):St}):=by kernel_rfl
def lvAdc:List (List Nat × List Nat):=[([1,1,1,1,1,1,1,1,0,1,0,0,1,0,0,1,1,1,1],[2,3,4,5,7,8,9,10,11])]
noncomputable def nAdcs:List Nat→Nat→Option Ans:=scrAt []
theorem nAdc (a b:Nm) (e:Int) (N:Nat) (f g:Nat→UInt8) (i d:Int) (J:St→Prop) (K:D→Heap→Prop):runS (En Tryz.f43) (fh Tryz.f43 K) (nAdcs ) lvAdc 200 [.code [1,1,1,1,1,1,1,1,0,1,0,0,1,0,0,1,1,0],.code [1,1,1,1,1,1,1,1,0,1,0,0,1,0,0,1,1,1],.blk 1,.code [1,1,1,1,1,1,1,1,0,1,0,0,1,1],stp [2,3,4,5,7,8,9,10] J,.blk 0,.code [1,1,1,1,1,1,1,1,1]] (SAe a b e N (fun j=>encB (f j)) (fun j=>encB (g j)) i d) =
 (bif decide (d > 9) then At (En Tryz.f43) (fh Tryz.f43 K) [It.code [1,1,1,1,1,1,1,1,0,1,0,0,1,0,0,1,1,1,1],It.blk 1,It.code [1,1,1,1,1,1,1,1,0,1,0,0,1,1],stp [2,3,4,5,7,8,9,10] J,It.blk 0,It.code [1,1,1,1,1,1,1,1,1]] {sl:=[(2,.own [B a.neg,L a.dig 1 encB,I a.ex]),(3,.own [B b.neg,L b.dig 1 encB,I b.ex]),(4,.own [B false,nilL,I 0]),(5,I e),(7,.sl 0 0 N),(8,.sl 1 0 N),(9,I 1),(10,I i),(11,I (subI .i64 d 10))],h:=(hAd N (fun j=>encB (f j)) fun j=>encB (g j)):St}
 else bif decide (d < 0) then At (En Tryz.f43) (fh Tryz.f43 K) [It.code [1,1,1,1,1,1,1,1,0,1,0,0,1,0,0,1,1,1,1],It.blk 1,It.code [1,1,1,1,1,1,1,1,0,1,0,0,1,1],stp [2,3,4,5,7,8,9,10] J,It.blk 0,It.code [1,1,1,1,1,1,1,1,1]] {sl:=[(2,.own [B a.neg,L a.dig 1 encB,I a.ex]),(3,.own [B b.neg,L b.dig 1 encB,I b.ex]),(4,.own [B false,nilL,I 0]),(5,I e),(7,.sl 0 0 N),(8,.sl 1 0 N),(9,I (-1)),(10,I i),(11,I (addI .i64 d 10))],h:=(hAd N (fun j=>encB (f j)) fun j=>encB (g j)):St} else At (En Tryz.f43) (fh Tryz.f43 K) [It.code [1,1,1,1,1,1,1,1,0,1,0,0,1,0,0,1,1,1,1],It.blk 1,It.code [1,1,1,1,1,1,1,1,0,1,0,0,1,1],stp [2,3,4,5,7,8,9,10] J,It.blk 0,It.code [1,1,1,1,1,1,1,1,1]] {sl:=[(2,.own [B a.neg,L a.dig 1 encB,I a.ex]),(3,.own [B b.neg,L b.dig 1 encB,I b.ex]),(4,.own [B false,nilL,I 0]),(5,I e),(7,.sl 0 0 N),(8,.sl 1 0 N),(9,I 0),(10,I i),(11,I d)],h:=(hAd N (fun j=>encB (f j)) fun j=>encB (g j)):St}):=by kernel_rfl
noncomputable def nAdds:List Nat→Nat→Option Ans:=scrAt []
theorem nAdd (a b:Nm) (e:Int) (N:Nat) (f g:Nat→UInt8) (c i d:Int) (J:St→Prop) (K:D→Heap→Prop):runS (En Tryz.f43) (fh Tryz.f43 K) (nAdds ) nolv 200 [.code [1,1,1,1,1,1,1,1,0,1,0,0,1,0,0,1,1,1,1],.blk 1,.code [1,1,1,1,1,1,1,1,0,1,0,0,1,1],stp [2,3,4,5,7,8,9,10] J,.blk 0,.code [1,1,1,1,1,1,1,1,1]] (SAf a b e N (fun j=>encB (f j)) (fun j=>encB (g j)) c i d) =
 ((0≤i∧i < (↑N:Int))∧0+i.toNat * 1+1≤N∧J {sl:=[(2,.own [B a.neg,L a.dig 1 encB,I a.ex]),(3,.own [B b.neg,L b.dig 1 encB,I b.ex]),(4,.own [B false,nilL,I 0]),(5,I e),(7,.sl 0 0 N),(8,.sl 1 0 N),(9,I c),(10,I (subI .i64 i 1))],h:={box:=upd ((hAd N (fun j=>encB (f j)) fun j=>encB (g j)).box) 0 (some (Row.arr N fun i_1=>bif (0+i.toNat * 1).ble i_1&&i_1.blt (0+i.toNat * 1+1) then [D.int IntKind.u8 (IntKind.u8.wrap (addI .i64 48 d))].getD (i_1 - (0+i.toNat * 1)) D.junk else encB (f i_1))),nl:=2,hw:=fun _=>none,nt:=0,vw:=fun _=>none:Heap}:St}):=by kernel_rfl
noncomputable def nAdes (x:Nm) (e:Int) (N:Nat) (f:Nat→UInt8) (g:Nat→UInt8):List Nat→Nat→Option Ans:=scrAt [([1,1,1,1,1,1,1,1,1,0],5,Ans.eff (ren (rnm [0] 2) (rnm [] 0) (trimF (⟨x.neg,bytesG N fun j=>encB (f j),e⟩:Nm)).d) (frameH [0] [] (hAd N (fun j=>encB (f j)) fun j=>encB (g j)) {box:=fun _=>none,nl:=1,hw:=fun _=>none,nt:=0,vw:=fun _=>none:Heap}))]
theorem nAde (x:Nm) (e:Int) (N:Nat) (f g:Nat→UInt8) (K:D→Heap→Prop):runS (En Tryz.f43) (fh Tryz.f43 K) (nAdes x e N f g) nolv 200 [.code [1,1,1,1,1,1,1,1,1]] ⟨[(2,.own [B x.neg,L x.dig 1 encB,I x.ex]),(4,.own [B false,.list 0 0 (fun _=> .junk) .full,I 0]),(5,I e),(7,.sl 0 0 N)],hAd N (fun j=>encB (f j)) (fun j=>encB (g j))⟩ =
 (Does PP 71 [.agg [B x.neg,D.sl 0 0 N,I e]] (hAd N (fun j=>encB (f j)) fun j=>encB (g j)) (ren (rnm [0] 2) (rnm [] 0) (trimF (⟨x.neg,bytesG N fun j=>encB (f j),e⟩:Nm)).d) (frameH [0] [] (hAd N (fun j=>encB (f j)) fun j=>encB (g j)) {box:=fun _=>none,nl:=1,hw:=fun _=>none,nt:=0,vw:=fun _=>none:Heap})∧True∧K (.agg [B (trimF (⟨x.neg,bytesG N fun j=>encB (f j),e⟩:Nm)).neg,L (trimF (⟨x.neg,bytesG N fun j=>encB (f j),e⟩:Nm)).dig 1 encB,I (trimF (⟨x.neg,bytesG N fun j=>encB (f j),e⟩:Nm)).ex]) {box:=upd ((hAd N (fun j=>encB (f j)) fun j=>encB (g j)).box) 0 none,nl:=2,hw:=fun _=>none,nt:=0,vw:=fun _=>none:Heap}):=by kernel_rfl
end Go.Proofs.YtiekphbkomddfaaGreatDoor.S1
namespace Go.Proofs.YtiekphbkomddfaaGreatDoor.S1
open Go Go.Ab Go.Proofs
-- nolay
attribute [local instance] LT10
theorem dgt_run {c:UInt8} (h:isDg c=true):IntKind.i64.wrap (subI .u8 (c.toNat:Int) 48)=dgt c:=by
 have:=of_decide_eq_true h
 unfold subI dgt
 rw [IntWalk.u8_in _ (by omega),IntWalk.i64_in _ (by omega)]; omega
theorem chD_run {d:Int} (h0:0≤d) (h1:d≤9):IntKind.u8.wrap (addI .i64 48 d)=((chD d).toNat:Int):=by
 rw [add64 (by omega) (by omega),IntWalk.u8_in _ (by omega)]
 unfold chD
 rw [UInt8.toNat_ofNat']; omega
def adA (sb:Bool) (X Y:Str) (m j:Nat):UInt8:=if j < m then X.getD j 0 else (addL sb (X.drop m) (Y.drop m)).1.getD (j - m) 0
def adC (sb:Bool) (X Y:Str) (m:Nat):Int:=(addL sb (X.drop m) (Y.drop m)).2
def adD (sb:Bool) (X Y:Str) (m:Nat):Int:=(dgt (X.getD m 0):Int)+adC sb X Y (m+1)+(if sb then - (dgt (Y.getD m 0):Int) else (dgt (Y.getD m 0):Int))
theorem drop_cons0 {l:Str} {i:Nat} (h:i < l.length):l.drop i=l.getD i 0::l.drop (i+1):=by
 rw [List.drop_eq_getElem_cons h,List.getD_eq_getElem?_getD,List.getElem?_eq_getElem h]; rfl
theorem ad_step {sb:Bool} {X Y:Str} {m:Nat} (hx:m < X.length) (hy:m < Y.length) :
  adC sb X Y m=(stepA (adD sb X Y m)).2∧∀ j,adA sb X Y m j=if j=m then (stepA (adD sb X Y m)).1 else adA sb X Y (m+1) j:=by
 have e:addL sb (X.drop m) (Y.drop m)=((stepA (adD sb X Y m)).1::(addL sb (X.drop (m+1)) (Y.drop (m+1))).1,(stepA (adD sb X Y m)).2):=by
  rw [drop_cons0 hx,drop_cons0 hy,addL]
  rfl
 refine ⟨by unfold adC; rw [e],fun j=> ?_⟩
 unfold adA
 rw [e]
 by_cases h1:j=m
 ·subst h1
  rw [if_neg (by omega),if_pos rfl,Nat.sub_self]; rfl
 ·rw [if_neg h1]
  by_cases h2:j < m
  ·rw [if_pos h2,if_pos (by omega)]
  ·rw [if_neg h2,if_neg (by omega),show j - m=(j - (m+1))+1 by omega]; rfl
theorem adC_bd {sb:Bool} {X Y:Str} (hl:X.length=Y.length) (hx:X.all isDg=true) (hy:Y.all isDg=true) (m:Nat) : -1≤adC sb X Y m∧adC sb X Y m≤1:=by
 have d:∀ q:Str,q.all isDg=true→(q.drop m).all isDg=true:=fun q h=>by
  rw [List.all_eq_true] at h ⊢
  exact fun x hm=>h x (List.mem_of_mem_drop hm)
 have:=addL_spec sb (X.drop m) (Y.drop m) (by rw [List.length_drop,List.length_drop,hl]) (d X hx) (d Y hy)
 exact ⟨this.2.2.1,this.2.2.2.1⟩
theorem dg_at {q:Str} (h:q.all isDg=true) {m:Nat} (hm:m < q.length):isDg (q.getD m 0)=true:=by
 rw [List.getD_eq_getElem?_getD,List.getElem?_eq_getElem hm]
 exact List.all_eq_true.1 h _ (List.getElem_mem hm)
theorem adA_end (sb:Bool) (X Y:Str) (hl:X.length=Y.length) (hx:X.all isDg=true) (hy:Y.all isDg=true):bytesG X.length (fun j=>encB (adA sb X Y 0 j))=(addL sb X Y).1:=by
 have h1:=(addL_spec sb X Y hl hx hy).1
 unfold bytesG
 refine List.ext_getElem (by simp [h1]) fun i h2 h3=> ?_
 rw [List.getElem_map,List.getElem_range,byteD_enc]
 unfold adA
 rw [if_neg (Nat.not_lt_zero _),List.drop_zero,List.drop_zero,Nat.sub_zero,List.getD_eq_getElem?_getD,List.getElem?_eq_getElem h3]; rfl
instance roSl {l o n:Nat}:RO (.sl l o n):=⟨trivial⟩
instance rbArr {f:Nat→Option Row} {k n:Nat} {get:Nat→D} [h:RB f] [r:∀ i,DD (get i)]:RB (upd f k (some (.arr n get))):=⟨fun l row e=>by
 by_cases hx:l=k
 ·subst hx; rw [upd_same] at e; cases e; exact fun i _=>(r i).p
 ·rw [upd_other _ _ hx] at e; exact h.p l row e⟩
theorem addCore {K:D→Heap→Prop} (a b:Nm) (e:Int) (n:Nat) (ha:a.dig.all isDg=true) (hb:b.dig.all isDg=true) (e1:e≤a.ex) (e2:e≤b.ex) (he : -100000≤e) (ea:a.ex≤100000) (eb:b.ex≤100000) (la:a.dig.length+(a.ex - e).toNat < n) (lb:b.dig.length+(b.ex - e).toNat < n) (hn:n≤1000)
  (hK:∀ h,K (trimF ⟨a.neg,(addL (a.neg !=b.neg) (alnR a e n) (alnR b e n)).1,e⟩).d h) :
  At (En Tryz.f43) (fh Tryz.f43 K) [.code [1,1,1,1,1,1,0],.code [1,1,1,1,1,1,1]] ⟨[(2,.own [B a.neg,L a.dig 1 encB,I a.ex]),(3,.own [B b.neg,L b.dig 1 encB,I b.ex]),(4,.own [B false,.list 0 0 (fun _=> .junk) .full,I 0]),(5,I e),(6,I n)],.empty⟩:=by
 have lx:=alnR_len (x:=a) (e:=e) (n:=n) (by omega)
 have ly:=alnR_len (x:=b) (e:=e) (n:=n) (by omega)
 have dx:=alnR_dg e n ha
 have dy:=alnR_dg e n hb
 refine runS_sound hmix _ _ _ (of_eq (nAdb a b e n _) ⟨e70 a e n (by omega) (by omega) e1 (by omega) ⟨by omega,by omega⟩,fr (e70 b e n (by omega) (by omega) e2 (by omega) ⟨by omega,by omega⟩) [] [],?_⟩)
 rw [Int.toNat_natCast]
 generalize alnR a e n=X at *
 generalize alnR b e n=Y at *
 generalize hsb:(a.neg !=b.neg)=sb at *
 have fin0:=adA_end sb X Y (by omega) dx dy
 rw [lx] at fin0
 refine at_le (st':=SAd a b e n (fun j=>encB (adA sb X Y n j)) (fun j=>encB (Y.getD j 0)) (adC sb X Y n) ((n:Int) - 1)) ?_ (StLe.trans (b:=⟨[(2,.own [B a.neg,L a.dig 1 encB,I a.ex]),(3,.own [B b.neg,L b.dig 1 encB,I b.ex]),(4,.own [B false,.list 0 0 (fun _=> .junk) .full,I 0]),(5,I e),(7,.sl 0 0 n),(8,.sl 1 0 n),(9,I 0),(10,I ((n:Int) - 1))],hAd n (fun j=>encB (X.getD j 0)) (fun j=>encB (Y.getD j 0))⟩) ((StLe.refl _ _).cast (by rw [sub64 (by omega) (by omega)]; rfl)) ((StLe.heapLe (h:=hAd n (fun j=>encB (X.getD j 0)) (fun j=>encB (Y.getD j 0))) (h':=hAd n (fun j=>encB (adA sb X Y n j)) (fun j=>encB (Y.getD j 0))) ⟨fun l row' h=> ?_,Nat.le_refl _,fun _ _ h=>(by cases h),Nat.le_refl _,fun _ _ h=>(by cases h),fun _ _=>rfl⟩).cast ?_))
 ·refine lp (fn:=Tryz.f43) (fun m:Nat=>m≤n) (fun m=>SAd a b e n (fun j=>encB (adA sb X Y m j)) (fun j=>encB (Y.getD j 0)) (adC sb X Y m) ((m:Int) - 1)) (fun m=>m) [2,3,4,5,7,8,9,10] (by kernel_rfl) (fun m hm=>of_eq (nAda a b e n (adA sb X Y m) (fun j=>Y.getD j 0) (adC sb X Y m) ((m:Int) - 1) _ _) (cond_intro (fun h=> ?_) fun h=> ?_)) n (Nat.le_refl _)
  ·obtain ⟨i,rfl⟩:∃ i,m=i+1:=⟨m - 1,(by have h:(m:Int) - 1≥0:=(by simpa using h); omega)⟩
   have ei:(((i+1:Nat):Int) - 1)=(i:Int):=by omega
   rw [ei,Int.toNat_natCast,Nat.zero_add,Nat.mul_one]
   have hX:adA sb X Y (i+1) i=X.getD i 0:=by unfold adA; rw [if_pos (by omega)]
   have gX:=dg_at dx (m:=i) (by omega)
   have gY:=dg_at dy (m:=i) (by omega)
   have b1:=dgt_le gX
   have b2:=dgt_le gY
   have b3:=adC_bd (sb:=sb) (X:=X) (Y:=Y) (by omega) dx dy (i+1)
   obtain ⟨s1,s2⟩:=ad_step (sb:=sb) (X:=X) (Y:=Y) (m:=i) (by omega) (by omega)
      -- behind the digit's sum
   have last:∀ d,d=adD sb X Y i→At (En Tryz.f43) (fh Tryz.f43 K) [.code [1,1,1,1,1,1,1,1,0,1,0,0,1,0,0,1,1,0],.code [1,1,1,1,1,1,1,1,0,1,0,0,1,0,0,1,1,1],.blk 1,.code [1,1,1,1,1,1,1,1,0,1,0,0,1,1],stp [2,3,4,5,7,8,9,10] (Nx (En Tryz.f43).nt (fun m:Nat=>m≤n) (fun m=>SAd a b e n (fun j=>encB (adA sb X Y m j)) (fun j=>encB (Y.getD j 0)) (adC sb X Y m) ((m:Int) - 1)) (fun m=>m) (i+1)),.blk 0,.code [1,1,1,1,1,1,1,1,1]] (SAe a b e n (fun j=>encB (adA sb X Y (i+1) j)) (fun j=>encB (Y.getD j 0)) i d):=fun d hd=>by
    have hdb : -10≤d∧d≤19:=by
     rw [hd]
     unfold adD
     cases sb
     ·simp only [Bool.false_eq_true,if_false]; omega
     ·simp only [if_true]; omega
    have put:∀ c' d',0≤d'→d'≤9→stepA d=(chD d',c')→At (En Tryz.f43) (fh Tryz.f43 K) [.code [1,1,1,1,1,1,1,1,0,1,0,0,1,0,0,1,1,1,1],.blk 1,.code [1,1,1,1,1,1,1,1,0,1,0,0,1,1],stp [2,3,4,5,7,8,9,10] (Nx (En Tryz.f43).nt (fun m:Nat=>m≤n) (fun m=>SAd a b e n (fun j=>encB (adA sb X Y m j)) (fun j=>encB (Y.getD j 0)) (adC sb X Y m) ((m:Int) - 1)) (fun m=>m) (i+1)),.blk 0,.code [1,1,1,1,1,1,1,1,1]] (SAf a b e n (fun j=>encB (adA sb X Y (i+1) j)) (fun j=>encB (Y.getD j 0)) c' i d'):=fun c' d' g0 g1 hst=>by
     rw [← hd,hst] at s1 s2
     refine runS_sound hmix _ _ _ (of_eq (nAdd a b e n (adA sb X Y (i+1)) (fun j=>Y.getD j 0) c' i d' _ _) ⟨⟨by omega,by omega⟩,by rw [Int.toNat_natCast]; omega,Nx.of i (by omega) (by omega) ?_⟩)
     rw [Int.toNat_natCast,Nat.zero_add,Nat.mul_one,sub64 (by omega) (by omega),chD_run g0 g1,s1]
     refine StLe.trans (StLe.heapLe (h':=hAd n (fun j=>encB (adA sb X Y i j)) (fun j=>encB (Y.getD j 0))) ⟨fun l row' h=> ?_,Nat.le_refl _,fun _ _ h=>(by cases h),Nat.le_refl _,fun _ _ h=>(by cases h),fun _ _=>rfl⟩) ((StLe.refl _ _).cast (by kernel_rfl))
     rcases l with _ | _ | l
     ·cases h
      refine ⟨_,rfl,.arr fun j hj=>Wk.of_eq ?_⟩
      rw [s2 j]
      by_cases hji:j=i
      ·subst hji
       rw [if_pos rfl,Nat.ble_eq_true_of_le (Nat.le_refl _),show Nat.blt j (j+1)=true from Nat.ble_eq_true_of_le (Nat.le_refl _),Nat.sub_self]; rfl
      ·rw [if_neg hji]
       have:(Nat.ble i j&&Nat.blt j (i+1))=false:=by
        rw [← Bool.not_eq_true,Bool.and_eq_true,Nat.ble_eq,Nat.blt_eq]; omega
       rw [this]; rfl
     ·cases h; exact ⟨_,rfl,RowLe.refl _⟩
     ·cases h
    refine runS_sound hmix _ _ _ (of_eq (nAdc a b e n (adA sb X Y (i+1)) (fun j=>Y.getD j 0) i d _ _) (cond_intro (fun h1=> ?_) fun h1=>cond_intro (fun h2=> ?_) fun h2=> ?_))
    ·have h1:d > 9:=by simpa using h1
     rw [sub64 (by omega) (by omega)]
     exact put 1 (d - 10) (by omega) (by omega) (by unfold stepA; rw [if_pos h1])
    ·have h1:¬ d > 9:=by simpa using h1
     have h2:d < 0:=by simpa using h2
     rw [add64 (by omega) (by omega)]
     exact put (-1) (d+10) (by omega) (by omega) (by unfold stepA; rw [if_neg h1,if_pos h2])
    ·have h1:¬ d > 9:=by simpa using h1
     have h2:¬ d < 0:=by simpa using h2
     exact put 0 d (by omega) (by omega) (by unfold stepA; rw [if_neg h1,if_neg h2])
   rw [hX,dgt_run gX,dgt_run gY]
   refine ⟨⟨by omega,by omega⟩,by omega,cond_intro (fun hs=> ?_) fun hs=> ?_⟩
   ·have hs:sb=false:=by rw [← hsb]; simpa using hs
    refine ⟨⟨by omega,by omega⟩,by omega,last _ ?_⟩
    rw [add64 (a:=(dgt (X.getD i 0):Int)) (by omega) (by omega),add64 (by omega) (by omega)]
    unfold adD
    rw [hs]; rfl
   ·have hs:sb=true:=by rw [← hsb]; simpa using hs
    refine ⟨⟨by omega,by omega⟩,by omega,last _ ?_⟩
    rw [add64 (a:=(dgt (X.getD i 0):Int)) (by omega) (by omega),sub64 (by omega) (by omega)]
    unfold adD
    rw [hs]; rfl
  ·have hm0:m=0:=by
    have:¬ (m:Int) - 1≥0:=by simpa using h
    omega
   subst hm0
   refine runS_sound hmix _ _ _ (of_eq (nAde a e n (adA sb X Y 0) (fun j=>Y.getD j 0) _) ⟨fr (eTr a.neg n (fun j=>encB (adA sb X Y 0 j)) e (fun i _=>by rw [byteD_enc]) (by omega) (by omega) (by omega)) [0] [],trivial,?_⟩)
   rw [fin0]
   exact hK _
 ·rcases l with _ | _ | l
  ·cases h
   refine ⟨_,rfl,.arr fun j hj=>Wk.of_eq ?_⟩
   unfold adA
   rw [if_pos hj]
  ·cases h; exact ⟨_,rfl,RowLe.refl _⟩
  ·cases h
 ·have:adC sb X Y n=0:=by
   unfold adC
   rw [List.drop_of_length_le (by omega),List.drop_of_length_le (by omega),addL]
   intro _ _ _ _ h; cases h
  rw [this]; rfl
end Go.Proofs.YtiekphbkomddfaaGreatDoor.S1
namespace Go.Proofs.YtiekphbkomddfaaGreatDoor.S1
open Go Go.Ab Go.Proofs
-- nolay
attribute [local instance] LT10
theorem trimF_exU (x:Nm):(trimF x).ex≤max 0 (x.ex+x.dig.length):=by
 have:=tL_len x.dig
 unfold trimF
 split
 ·show (0:Int)≤_; omega
 ·show x.ex+_≤_; omega
theorem lenA_le {a b:Nm} (ha:CN a) (hb:CN b):lenA a b≤1000:=by
 obtain ⟨_,a2,a3,a4⟩:=ha
 obtain ⟨_,b2,b3,b4⟩:=hb
 unfold lenA Nm.fst; omega
theorem c43 {a b:Nm} (ha:CN a) (hb:CN b):Pure PP 43 [a.d,b.d] (addF a b).d:=by
 have hn:=lenA_le ha hb
 obtain ⟨a1,a2,a3,a4⟩:=ha
 obtain ⟨b1,b2,b3,b4⟩:=hb
 have e1:(if b.ex < a.ex then b.ex else a.ex)=min a.ex b.ex:=by split <;> omega
 have e2:addI .i64 (subI .i64 (if b.fst > a.fst then b.fst else a.fst) (min a.ex b.ex)) 2=(lenA a b:Int):=by
  rw [show (if b.fst > a.fst then b.fst else a.fst)=max a.fst b.fst by split <;> omega]
  unfold lenA Nm.fst
  rw [sub64 (by omega) (by omega),add64 (by omega) (by omega)]; omega
 obtain ⟨k1,k2⟩:=aln_ok (a:=a) (b:=b)
 refine pr F43 (by kernel_rfl) (of_eq (nAd a b _) fun _=>cond_intro (fun h=>⟨trivial,?_⟩) fun h _=>cond_intro (fun h1=>⟨trivial,?_⟩) fun h1=>⟨PureW.mk (c68 a (by omega) (by omega) (by omega)),PureW.mk (c68 b (by omega) (by omega) (by omega)),PureW.mk (c69 a b (by omega) (by omega)),?_⟩)
 ·have h:a.dig=[]:=by simpa using h
  have e:addF a b=b:=by unfold addF; rw [if_pos h]
  rw [e]; exact ⟨_,RetLe.refl _ _⟩
 ·have h:¬ a.dig=[]:=by simpa using h
  have h1:b.dig=[]:=by simpa using h1
  have e:addF a b=a:=by unfold addF; rw [if_neg h,if_pos h1]
  rw [e]; exact ⟨_,RetLe.refl _ _⟩
 ·have h:¬ a.dig=[]:=by simpa using h
  have h1:¬ b.dig=[]:=by simpa using h1
  rw [e1,e2]
  refine cond_intro (fun h2=>⟨trivial,trivial,?_⟩) fun h2=> ?_
  ·have h2:magF a b < 0:=by simpa using h2
   have e:addF a b=trimF ⟨b.neg,(addL (b.neg !=a.neg) (alnR b (min a.ex b.ex) (lenA a b)) (alnR a (min a.ex b.ex) (lenA a b))).1,min a.ex b.ex⟩:=by unfold addF; rw [if_neg h,if_neg h1,if_pos h2]
   rw [e]
   exact addCore b a _ _ b1.dg a1.dg (by omega) (by omega) (by omega) (by omega) (by omega) k2 k1 hn fun h=>⟨_,RetLe.refl _ _⟩
  ·have h2:¬ magF a b < 0:=by simpa using h2
   have e:addF a b=trimF ⟨a.neg,(addL (a.neg !=b.neg) (alnR a (min a.ex b.ex) (lenA a b)) (alnR b (min a.ex b.ex) (lenA a b))).1,min a.ex b.ex⟩:=by unfold addF; rw [if_neg h,if_neg h1,if_neg h2]
   rw [e]
   exact addCore a b _ _ a1.dg b1.dg (by omega) (by omega) (by omega) (by omega) (by omega) k1 k2 hn fun h=>⟨_,RetLe.refl _ _⟩
theorem canG_CN {q:Str} (h:(canG q).2=true):CN (canG q).1:=by
 obtain ⟨h1,h2⟩:=canG_b q
 rw [h] at h1
 rw [h2 h1.symm]
 obtain ⟨c1,c2,c3,c4⟩:=canN_ok h1.symm
 exact ⟨c1,c2,c3,c4⟩
theorem F25:OkF 25 Tryz.f25:=⟨by kernel_rfl,by kernel_rfl,by kernel_rfl⟩
def lv25:List (List Nat × List Nat):=[]
noncomputable def nWi2s (a:Str) (b:Str) (t:Str):List Nat→Nat→Option Ans:=scrAt [([1,0],1,Ans.pure [.str a] (.tup [(canG a).fst.d,B (canG a).snd])),([1,1,0],1,Ans.pure [.str b] (.tup [(canG b).fst.d,B (canG b).snd])),([1,1,1,0],1,Ans.pure [.str t] (.tup [(canG t).fst.d,B (canG t).snd])),([1,1,1,1,1,0],2,Ans.pure [(canG b).fst.d] (minF (canG b).fst).d),([1,1,1,1,1,0],3,Ans.pure [(canG a).fst.d,(minF (canG b).fst).d] (addF (canG a).fst (minF (canG b).fst)).d),([1,1,1,1,1,1,1,0],2,Ans.pure [{neg:=false,dig:=(addF (canG a).fst (minF (canG b).fst)).dig,ex:=(addF (canG a).fst (minF (canG b).fst)).ex:Nm}.d,(canG t).fst.d] (I (cmpF {neg:=false,dig:=(addF (canG a).fst (minF (canG b).fst)).dig,ex:=(addF (canG a).fst (minF (canG b).fst)).ex:Nm} (canG t).fst)))]
theorem nWi2 (a b t:Str) (K:D→Prop):runS (En Tryz.f25) (fi Tryz.f25 K) (nWi2s a b t) lv25 200 [.code []] ⟨argSlots 0 [.str a,.str b,.str t],.empty⟩ =
 (PQ PP 42 [.str a] (.tup [(canG a).fst.d,B (canG a).snd])∧True∧PQ PP 42 [.str b] (.tup [(canG b).fst.d,B (canG b).snd])∧True∧PQ PP 42 [.str t] (.tup [(canG t).fst.d,B (canG t).snd])∧True∧bif bif bif !(canG a).snd then true else !(canG b).snd then true else !(canG t).snd then K (B false) else PQ PP 44 [(canG b).fst.d] (minF (canG b).fst).d∧PQ PP 43 [(canG a).fst.d,(minF (canG b).fst).d] (addF (canG a).fst (minF (canG b).fst)).d∧True∧True∧PQ PP 45 [{neg:=false,dig:=(addF (canG a).fst (minF (canG b).fst)).dig,ex:=(addF (canG a).fst (minF (canG b).fst)).ex:Nm}.d,(canG t).fst.d] (I (cmpF {neg:=false,dig:=(addF (canG a).fst (minF (canG b).fst)).dig,ex:=(addF (canG a).fst (minF (canG b).fst)).ex:Nm} (canG t).fst))∧K (B (decide (cmpF {neg:=false,dig:=(addF (canG a).fst (minF (canG b).fst)).dig,ex:=(addF (canG a).fst (minF (canG b).fst)).ex:Nm} (canG t).fst≤0)))):=by kernel_rfl
theorem addF_exU {a b:Nm} (ha:CN a) (hb:CN b):(addF a b).ex≤10000:=by
 have hn:=lenA_le ha hb
 obtain ⟨a1,a2,a3,a4⟩:=ha
 obtain ⟨b1,b2,b3,b4⟩:=hb
 obtain ⟨k1,k2⟩:=aln_ok (a:=a) (b:=b)
 have l1:=alnR_len (x:=a) (e:=min a.ex b.ex) (n:=lenA a b) (by omega)
 have l2:=alnR_len (x:=b) (e:=min a.ex b.ex) (n:=lenA a b) (by omega)
 unfold addF
 split
 ·omega
 ·split
  ·omega
  ·split
   ·have t1:=trimF_exU ⟨b.neg,(addL (b.neg !=a.neg) (alnR b (min a.ex b.ex) (lenA a b)) (alnR a (min a.ex b.ex) (lenA a b))).1,min a.ex b.ex⟩
    have t3:=(addL_spec (b.neg !=a.neg) (alnR b (min a.ex b.ex) (lenA a b)) (alnR a (min a.ex b.ex) (lenA a b)) (by rw [l1,l2]) (alnR_dg _ _ b1.dg) (alnR_dg _ _ a1.dg)).1
    simp only at t1
    omega
   ·have t1:=trimF_exU ⟨a.neg,(addL (a.neg !=b.neg) (alnR a (min a.ex b.ex) (lenA a b)) (alnR b (min a.ex b.ex) (lenA a b))).1,min a.ex b.ex⟩
    have t3:=(addL_spec (a.neg !=b.neg) (alnR a (min a.ex b.ex) (lenA a b)) (alnR b (min a.ex b.ex) (lenA a b)) (by rw [l1,l2]) (alnR_dg _ _ a1.dg) (alnR_dg _ _ b1.dg)).1
    simp only at t1
    omega
theorem c25 (a b t:Str):Pure PP 25 [.str a,.str b,.str t] (B (wiB a b t)):=by
 refine pu F25 (by kernel_rfl) (of_eq (nWi2 a b t _) ⟨PureW.mk (c42 a),trivial,PureW.mk (c42 b),trivial,PureW.mk (c42 t),trivial,cond_intro (fun h=> ?_) fun h=> ?_⟩)
 ·unfold wiB
  rw [h]; exact Wk.refl _
 ·unfold wiB
  rw [h,cond_false]
  have h3:(canG a).2=true∧(canG b).2=true∧(canG t).2=true:=by
   cases h1:(canG a).2 <;> cases h2:(canG b).2 <;> cases h3:(canG t).2 <;> simp_all
  have ca:=canG_CN h3.1
  have cb:=canG_CN h3.2.1
  have ct:=canG_CN h3.2.2
  generalize (canG a).1=x at *
  generalize (canG b).1=y at *
  generalize (canG t).1=z at *
  have cm:=cb.min
  obtain ⟨s1,s2⟩:=addF_sz ca cm
  have s3:=addF_exU ca cm
  obtain ⟨v1,n1⟩:=addF_spec ca.n cm.n (by have:=ca.e1; omega) (by have:=cm.e1; omega) (by have:=ca.l; omega) (by have:=cm.l; omega)
  obtain ⟨v2,n2⟩:=absF_val n1
  have z1:=ct.l
  have z2:=ct.e1
  have z3:=ct.e2
  have hm : -1≤magF (absF (addF x (minF y))) z∧magF (absF (addF x (minF y))) z≤1:=by
   rw [magF_mag n2 ct.n s1 (by omega) s2 (by omega)]
   rcases sgn3 ((absF (addF x (minF y))).mag - z.mag) with ⟨_,e⟩ | ⟨_,e⟩ | ⟨_,e⟩ <;> rw [e] <;> omega
  exact ⟨PureW.mk (c44 _),PureW.mk (c43 ca cm),trivial,trivial,PureW.mk (c45 (absF (addF x (minF y))) z ⟨Nat.le_trans s2 (by omega),(by show -1000000≤(addF x (minF y)).ex; omega),(by show (addF x (minF y)).ex≤1000000; omega)⟩ ⟨by omega,by omega,by omega⟩ hm),Wk.refl _⟩
instance hasW:HasW:=⟨c25⟩
end Go.Proofs.YtiekphbkomddfaaGreatDoor.S1
namespace Go.Proofs.YtiekphbkomddfaaGreatDoor.S1
open Go Go.Ab Go.Proofs
-- nolay
attribute [local instance] LT10
theorem F151:OkF 151 Tryz.f151:=⟨by kernel_rfl,by kernel_rfl,by kernel_rfl⟩
def lv151:List (List Nat × List Nat):=[]
noncomputable def nXds:List Nat→Nat→Option Ans:=scrAt []
theorem nXd (c:UInt8) (K:D→Prop):runS (En Tryz.f151) (fi Tryz.f151 K) (nXds ) lv151 200 [.code []] ⟨argSlots 0 [encB c],.empty⟩ =
 (K (B (bif decide ((↑c.toNat:Int)≥48) then decide ((↑c.toNat:Int)≤57) else false))):=by kernel_rfl
theorem c151 (c:UInt8):Pure PP 151 [encB c] (B (isDg c)):=by
 have e:(bif decide ((c.toNat:Int)≥48) then decide ((c.toNat:Int)≤57) else false)=isDg c:=by
  unfold isDg
  by_cases h1:(c.toNat:Int)≥48
  ·rw [decide_eq_true h1,cond_true,decide_eq_decide]; omega
  ·rw [decide_eq_false h1,cond_false]; exact (decide_eq_false (by omega)).symm
 exact pu F151 (by kernel_rfl) (of_eq (nXd c _) (Wk.of_eq (by rw [e])))
theorem F126:OkF 126 Tryz.f126:=⟨by kernel_rfl,by kernel_rfl,by kernel_rfl⟩
def lv126:List (List Nat × List Nat):=[([1,1,0,0],[0,1,5])]
noncomputable def nXss:List Nat→Nat→Option Ans:=scrAt []
theorem nXs (z:Str) (a:Int) (K:D→Prop):runS (En Tryz.f126) (fi Tryz.f126 K) (nXss ) lv126 200 [.code []] ⟨argSlots 0 [.str z,I a],.empty⟩ =
 (At (En Tryz.f126) (fi Tryz.f126 K) [It.code [1,1,0,0],It.blk 0,It.code [1,1,1]] {sl:=[(0,.str z),(1,I a),(5,I 0)],h:=Heap.empty:St}):=by kernel_rfl
def SXs (z:Str) (a n:Int):St:=⟨[(0,.str z),(1,I a),(5,I n)],.empty⟩
noncomputable def nXsas (z:Str) (a:Int) (n:Int):List Nat→Nat→Option Ans:=scrAt [([1,1,0,0,0,0,0],12,Ans.pure [encB (List.getD z (addI .i64 a n).toNat 0)] (B (isDg (List.getD z (addI .i64 a n).toNat 0))))]
theorem nXsa (z:Str) (a n:Int) (J:St→Prop) (K:D→Prop):runS (En Tryz.f126) (fi Tryz.f126 K) (nXsas z a n) lv126 200 [.code [1,1,0,0,0],stp [0,1,5] J,.blk 0,.code [1,1,1]] (SXs z a n) =
 (List.length z≤strM→(decide (addI .i64 a n < (↑(List.length z):Int))=true→0≤addI .i64 a n∧addI .i64 a n < (↑(List.length z):Int))∧(decide (addI .i64 a n < (↑(List.length z):Int))=true→PQ PP 151 [encB (List.getD z (addI .i64 a n).toNat 0)] (B (isDg (List.getD z (addI .i64 a n).toNat 0))))∧bif bif decide (addI .i64 a n < (↑(List.length z):Int)) then isDg (List.getD z (addI .i64 a n).toNat 0) else false then J {sl:=[(0,.str z),(1,I a),(5,I (addI .i64 n 1))],h:=Heap.empty:St} else K (I n)):=by kernel_rfl
theorem F127:OkF 127 Tryz.f127:=⟨by kernel_rfl,by kernel_rfl,by kernel_rfl⟩
def lv127:List (List Nat × List Nat):=[]
noncomputable def nXcs (n:Int):List Nat→Nat→Option Ans:=scrAt [([1,0,1,0,0],2,Ans.pure [I (subI .i64 0 n)] (.str (Lib.itoa (subI .i64 0 n)))),([1,1,1,0,1,0],2,Ans.pure [I (quoI .i64 n 10)] (.str (Lib.itoa (quoI .i64 n 10))))]
theorem nXc (n:Int) (K:D→Prop):runS (En Tryz.f127) (fi Tryz.f127 K) (nXcs n) lv127 200 [.code []] ⟨argSlots 0 [I n],.empty⟩ =
 (bif decide (n < 0) then PQ PP 127 [I (subI .i64 0 n)] (.str (Lib.itoa (subI .i64 0 n)))∧1+(Lib.itoa (subI .i64 0 n)).length≤strM∧K (.str ({data:= #[45]:ByteArray}.data.toList++Lib.itoa (subI .i64 0 n))) else (10:Int)≠0∧allByte 1 (litG [D.int IntKind.u8 (IntKind.u8.wrap (addI .i64 48 (n.tmod 10)))])∧bif decide (n≥10) then (10:Int)≠0∧PQ PP 127 [I (quoI .i64 n 10)] (.str (Lib.itoa (quoI .i64 n 10)))∧(Lib.itoa (quoI .i64 n 10)).length+(bytesG 1 (litG [D.int IntKind.u8 (IntKind.u8.wrap (addI .i64 48 (n.tmod 10)))])).length≤strM∧K (.str (Lib.itoa (quoI .i64 n 10)++bytesG 1 (litG [D.int IntKind.u8 (IntKind.u8.wrap (addI .i64 48 (n.tmod 10)))]))) else K (.str (bytesG 1 (litG [D.int IntKind.u8 (IntKind.u8.wrap (addI .i64 48 (n.tmod 10)))])))):=by kernel_rfl
structure Pa where (neg:Bool) (dig:Str) (e:Int) deriving Inhabited,DecidableEq
def Pa.d (x:Pa):D:= .agg [B x.neg,.str x.dig,I x.e]
instance ddPa {x:Pa}:DD x.d:=inferInstanceAs (DD (.agg _))
theorem F79:OkF 79 Tryz.f79:=⟨by kernel_rfl,by kernel_rfl,by kernel_rfl⟩
def lv79:List (List Nat × List Nat):=[([1,0,0],[1,2]),([1,1,0,0],[1,2]),([1,1,1],[1,2])]
noncomputable def nXts:List Nat→Nat→Option Ans:=scrAt []
theorem nXt (x:Pa) (K:D→Prop):runS (En Tryz.f79) (fi Tryz.f79 K) (nXts ) lv79 200 [.code []] ⟨argSlots 0 [x.d],.empty⟩ =
 (At (En Tryz.f79) (fi Tryz.f79 K) [It.code [1,0,0],It.blk 0,It.code [1,1]] {sl:=[(1,.own [B x.neg,.str x.dig,I x.e]),(2,.own [B false,.str {data:= #[]:ByteArray}.data.toList,I 0])],h:=Heap.empty:St}):=by kernel_rfl
def SXt (n:Bool) (q:Str) (e:Int):St:=⟨[(1,.own [B n,.str q,I e]),(2,.own [B false,.str [],I 0])],.empty⟩
noncomputable def nXtas:List Nat→Nat→Option Ans:=scrAt []
theorem nXta (n:Bool) (q:Str) (e:Int) (J:St→Prop) (K:D→Prop):runS (En Tryz.f79) (fi Tryz.f79 K) (nXtas ) lv79 200 [.code [1,0,0,0],stp [1,2] J,.blk 0,.code [1,1]] (SXt n q e) =
 (List.length q≤strM→(decide ((↑(List.length q):Int) > 0)=true→(0:Int)≤0∧0 < (↑(List.length q):Int))∧bif bif decide ((↑(List.length q):Int) > 0) then (↑(List.getD q 0 0).toNat:Int)==48 else false then ((0:Int)≤1∧1≤(↑(List.length q):Int))∧True∧True∧J {sl:=[(1,.own [B n,.str (List.drop 1 q),I (subI .i64 e 1)]),(2,.own [B false,.str [],I 0])],h:=Heap.empty:St} else At (En Tryz.f79) (fi Tryz.f79 K) [It.code [1,1,0,0],It.blk 2,It.code [1,1,1]] {sl:=[(1,.own [B n,.str q,I e]),(2,.own [B false,.str [],I 0])],h:=Heap.empty:St}):=by kernel_rfl
noncomputable def nXtbs:List Nat→Nat→Option Ans:=scrAt []
theorem nXtb (n:Bool) (q:Str) (e:Int) (J:St→Prop) (K:D→Prop):runS (En Tryz.f79) (fi Tryz.f79 K) (nXtbs ) lv79 200 [.code [1,1,0,0,0],stp [1,2] J,.blk 2,.code [1,1,1]] (SXt n q e) =
 (List.length q≤strM→(decide ((↑(List.length q):Int) > 0)=true→List.length q≤strM)→(decide ((↑(List.length q):Int) > 0)=true→0≤subI .i64 (↑(List.length q):Int) 1∧subI .i64 (↑(List.length q):Int) 1 < (↑(List.length q):Int))∧bif bif decide ((↑(List.length q):Int) > 0) then (↑(List.getD q (subI .i64 (↑(List.length q):Int) 1).toNat 0).toNat:Int)==48 else false then List.length q≤strM→((0:Int)≤0∧0≤subI .i64 (↑(List.length q):Int) 1∧subI .i64 (↑(List.length q):Int) 1≤(↑(List.length q):Int))∧True∧J {sl:=[(1,.own [B n,.str (List.drop 0 (List.take (subI .i64 (↑(List.length q):Int) 1).toNat q)),I e]),(2,.own [B false,.str [],I 0])],h:=Heap.empty:St} else At (En Tryz.f79) (fi Tryz.f79 K) [It.code [1,1,1]] {sl:=[(1,.own [B n,.str q,I e]),(2,.own [B false,.str [],I 0])],h:=Heap.empty:St}):=by kernel_rfl
noncomputable def nXtcs:List Nat→Nat→Option Ans:=scrAt []
theorem nXtc (n:Bool) (q:Str) (e:Int) (K:D→Prop):runS (En Tryz.f79) (fi Tryz.f79 K) (nXtcs ) nolv 200 [.code [1,1,1]] (SXt n q e) =
 (bif q=={data:= #[]:ByteArray}.data.toList then True∧K (.agg [B false,.str {data:= #[]:ByteArray}.data.toList,I 0]) else True∧K (.agg [B n,.str q,I e])):=by kernel_rfl
end Go.Proofs.YtiekphbkomddfaaGreatDoor.S1
namespace Go.Proofs.YtiekphbkomddfaaGreatDoor.S1
open Go Go.Ab Go.Proofs
-- nolay
attribute [local instance] LT10
theorem sp_at : ∀ (q : Str) (n : Nat), n ≤ (spanD q).1.length → (n < (spanD q).1.length ↔ (n < q.length ∧ isDg (q.getD n 0) = true))
  | [], n, h => by
    have h : n ≤ 0 := h
    simp [spanD]
  | c :: r, n, h => by
    rw [spanD] at h ⊢
    by_cases hc : isDg c = true
    · rw [if_pos hc] at h ⊢
      cases n with
      | zero => simp [hc]
      | succ n =>
        have := sp_at r n (by simpa using h)
        simp only [List.length_cons, Nat.add_lt_add_iff_right, List.getD_cons_succ]
        exact this
    · rw [if_neg hc] at h ⊢
      have h : n ≤ 0 := h
      obtain rfl : n = 0 := by omega
      simp only [List.length_nil, Nat.lt_irrefl, false_iff, not_and]
      exact fun _ => hc
theorem c126 (z:Str) (a:Nat) (ha:a≤z.length) (hz:z.length≤1000000):Pure PP 126 [.str z,I a] (I ((spanD (z.drop a)).1.length:Nat)):=by
 have hs:=spanD_len (z.drop a)
 rw [List.length_drop] at hs
 have key:=sp_at (z.drop a)
 have hg:∀ n,(z.drop a).getD n 0=z.getD (a+n) 0:=fun n=>by rw [List.getD_eq_getElem?_getD,List.getElem?_drop,← List.getD_eq_getElem?_getD]
 refine pu F126 (by kernel_rfl) (of_eq (nXs z a _) ?_)
 refine lp (fn:=Tryz.f126) (fun n:Nat=>n≤(spanD (z.drop a)).1.length) (fun n=>SXs z a n) (fun n=>z.length - n) [0,1,5] (by kernel_rfl) (fun n hn=>of_eq (nXsa z a n _ _) fun _=> ?_) 0 (Nat.zero_le _)
 have k:=key n hn
 rw [hg,List.length_drop] at k
 rw [add64 (by omega) (by omega),show ((a:Int)+(n:Int)).toNat=a+n by omega]
 refine ⟨fun h=>⟨by omega,by have:=of_decide_eq_true h; omega⟩,fun _=>PureW.mk (c151 _),cond_intro (fun h=> ?_) fun h=> ?_⟩
 ·have hlt:n < (spanD (z.drop a)).1.length:=by
   refine k.2 ?_
   by_cases h1:(a:Int)+(n:Int) < (z.length:Int)
   ·rw [decide_eq_true h1] at h; exact ⟨by omega,h⟩
   ·rw [decide_eq_false h1] at h; cases h
  rw [add64 (by omega) (by omega)]
  exact Nx.mk (n+1) hlt (by omega)
 ·have hge:¬ n < (spanD (z.drop a)).1.length:=fun h1=>by
   obtain ⟨h2,h3⟩:=k.1 h1
   rw [decide_eq_true (by omega),h3] at h; cases h
  rw [show (spanD (z.drop a)).1.length=n by omega]; exact Wk.refl _
theorem bytesG_one (c:UInt8):bytesG 1 (litG [D.int IntKind.u8 (c.toNat:Int)])=[c]:=by
 show [UInt8.ofNat ((c.toNat:Int)).toNat]=[c]
 rw [Int.toNat_natCast,UInt8.ofNat_toNat]
theorem digT (n:Nat) (h:n < 10):IntKind.u8.wrap (addI .i64 48 (n:Int))=(((UInt8.ofNat (48+n)).toNat:Nat):Int):=by
 rw [add64 (by omega) (by omega),UInt8.toNat_ofNat',IntWalk.u8_in _ ⟨by omega,by omega⟩]
 omega
theorem allB1 (c:UInt8):allByte 1 (litG [D.int IntKind.u8 (c.toNat:Int)]):=fun j hj=>by
 have:j=0:=by omega
 subst this
 exact ⟨c,rfl⟩
theorem c3dec (n : Nat) (hn : n ≤ 1000000000) : Pure PP 127 [I n] (.str (Lib.itoa n)) := by
  induction n using Nat.strongRecOn with
  | _ n ih =>
    refine pu F127 (by kernel_rfl) (of_eq (nXc n _) (cond_intro (fun h => absurd (of_decide_eq_true h) (by omega)) fun _ => ?_))
    have hr : (n : Int).tmod 10 = ((n % 10 : Nat) : Int) := rfl
    have hq : quoI .i64 (n : Int) 10 = ((n / 10 : Nat) : Int) := by
      unfold quoI
      have : ((n : Int)).tdiv 10 = ((n / 10 : Nat) : Int) := rfl
      rw [this, IntWalk.i64_in _ ⟨by omega, by omega⟩]
    rw [hr, hq, digT _ (Nat.mod_lt _ (by omega)), bytesG_one]
    refine ⟨by decide, allB1 _, cond_intro (fun h => ⟨by decide, PureW.mk (ih (n / 10) (by have := of_decide_eq_true h; omega) (by omega)), ?_, ?_⟩) fun h => ?_⟩
    · have := Lib.itoa_length_le (n / 10 : Nat) (by omega) (by omega)
      simp only [List.length_cons, List.length_nil]; unfold strM; omega
    · rw [Lib.itoa_nonneg, Lib.itoa_nonneg]
      have h : ¬ n < 10 := by have := of_decide_eq_true h; omega
      conv => rhs; rw [Lib.decDigits, dif_neg h]
      exact Wk.refl _
    · have h : n < 10 := by have := of_decide_eq_false h; omega
      rw [Lib.itoa_nonneg, Lib.decDigits_one h, Nat.mod_eq_of_lt h]; exact Wk.refl _
theorem c127 (n:Int) (h1 : -1000000000≤n) (h2:n≤1000000000):Pure PP 127 [I n] (.str (Lib.itoa n)):=by
 rcases Int.lt_or_le n 0 with h | h
 ·have e:subI .i64 0 n=((n.natAbs:Nat):Int):=by rw [sub64 (by omega) (by omega)]; omega
  refine pu F127 (by kernel_rfl) (of_eq (nXc n _) ?_)
  rw [decide_eq_true h,cond_true,e]
  have hl:=Lib.itoa_length_le (n.natAbs:Nat) (by omega) (by omega)
  refine ⟨PureW.mk (c3dec n.natAbs (by omega)),by unfold strM; omega,Wk.of_eq ?_⟩
  have:Lib.itoa n=45::Lib.decDigits n.natAbs:=by unfold Lib.itoa; rw [if_pos h]
  rw [this,Lib.itoa_nonneg]; rfl
 ·have:=c3dec n.toNat (by omega)
  rw [show ((n.toNat:Nat):Int)=n by omega] at this
  exact this
def Nm.pa (x:Nm):Pa:=⟨x.neg,x.dig,x.pe⟩
def Pa.nm (x:Pa):Nm:=⟨x.neg,x.dig,x.e+1 - x.dig.length⟩
def stR (x:Pa):Pa:=(trimF x.nm).pa
theorem tL_stop {q : Str} (h : q = [] ∨ q.getD 0 0 ≠ 48) : tL q = q := by
  cases q with
  | nil => rfl
  | cons c r =>
    rcases h with h | h
    · cases h
    · rw [tL, if_neg (show ¬ c = 48 from h)]
theorem tR_stop {q : Str} (h : q = [] ∨ q.getD (q.length - 1) 0 ≠ 48) : tR q = q := by
  unfold tR
  rw [tL_stop, List.reverse_reverse]
  rcases h with h | h
  · left; rw [h]; rfl
  · cases hq : q with
    | nil => left; rfl
    | cons c r =>
      right
      rw [← hq]
      have hl : 0 < q.length := by rw [hq]; simp
      rw [List.getD_eq_getElem?_getD, List.getElem?_reverse hl, ← List.getD_eq_getElem?_getD, Nat.sub_zero]
      exact h
theorem tR_go {q:Str} (h:0 < q.length) (h1:q.getD (q.length - 1) 0=48):tR q=tR (q.take (q.length - 1)):=by
 have e:q=q.take (q.length - 1)++[48]:=by
  conv=>lhs; rw [← List.take_append_drop (q.length - 1) q]
  congr 1
  rw [drop_cons0 (by omega),h1,show q.length - 1+1=q.length by omega,List.drop_length]
 conv=>lhs; rw [e]
 unfold tR
 rw [List.reverse_append]
 rfl
theorem c79 (x : Pa) (h1 : -1000000000 ≤ x.e) (h2 : x.e ≤ 1000000000) (hl : x.dig.length ≤ 1000000) : Pure PP 79 [x.d] (stR x).d := by
  refine pu F79 (by kernel_rfl) (of_eq (nXt x _) ?_)
  obtain ⟨n, q0, e0⟩ := x
  simp only at h1 h2 hl
  refine at_le (st' := SXt n q0 e0) ?_ ((StLe.refl _ _).cast (by kernel_rfl))
  refine lp (fn := Tryz.f79) (fun y : Str × Int => tL y.1 = tL q0 ∧ y.1.length ≤ q0.length ∧ y.2 = e0 - q0.length + y.1.length) (fun y => SXt n y.1 y.2) (fun y => y.1.length) [1, 2] (by kernel_rfl) (fun y hy => of_eq (nXta n y.1 y.2 _ _) fun _ => ⟨fun h => ⟨by omega, of_decide_eq_true h⟩, cond_intro (fun h => ?_) fun h => ?_⟩) (q0, e0) ⟨rfl, Nat.le_refl _, by simp only; omega⟩
  · obtain ⟨q, e⟩ := y
    obtain ⟨y1, y2, y3⟩ := hy
    simp only at y1 y2 y3 h ⊢
    cases q with
    | nil => cases h
    | cons c r =>
      have hc : c = 48 := by
        rw [decide_eq_true (by simp only [List.length_cons]; omega), cond_true] at h
        have h : (c.toNat : Int) = 48 := by simpa using h
        exact UInt8.toNat_inj.1 (by rw [show c.toNat = 48 by omega]; rfl)
      simp only [List.length_cons] at y2 y3
      refine ⟨⟨by omega, by simp only [List.length_cons]; omega⟩, trivial, trivial, Nx.of (r, e - 1) ⟨by rw [← y1, tL, if_pos hc], by simp only; omega, by simp only; omega⟩ (by simp) ?_⟩
      rw [sub64 (by omega) (by omega)]
      exact (StLe.refl _ _).cast (by kernel_rfl)
  · obtain ⟨q, e⟩ := y
    obtain ⟨y1, y2, y3⟩ := hy
    simp only at y1 y2 y3 h ⊢
    have hq : tL q = q := tL_stop (by
      cases q with
      | nil => exact .inl rfl
      | cons c r =>
        right
        rw [decide_eq_true (by simp only [List.length_cons]; omega), cond_true] at h
        have h : ¬ (c.toNat : Int) = 48 := by simpa using h
        exact fun e => h (by rw [show c = 48 from e]; rfl))
    rw [hq] at y1
    refine lp (fn := Tryz.f79) (fun z : Str => tR z = tR q ∧ z.length ≤ q.length) (fun z => SXt n z e) (fun z => z.length) [1, 2] (by kernel_rfl) (fun z hz => of_eq (nXtb n z e _ _) fun _ _ => ⟨?_, cond_intro (fun h => ?_) fun h => ?_⟩) q ⟨rfl, Nat.le_refl _⟩
    · obtain ⟨z1, z2⟩ := hz
      exact fun h => by
        have h := of_decide_eq_true h
        rw [sub64 (by omega) (by omega)]; omega
    · obtain ⟨z1, z2⟩ := hz
      have hl0 : 0 < z.length := by
        rcases Nat.eq_zero_or_pos z.length with h0 | h0
        · rw [h0] at h; cases h
        · exact h0
      rw [decide_eq_true (by omega), cond_true, lastI hl0 (by unfold lenM; omega), Int.toNat_natCast] at h
      have h48 : z.getD (z.length - 1) 0 = 48 := by
        have h : ((z.getD (z.length - 1) 0).toNat : Int) = 48 := by simpa using h
        exact UInt8.toNat_inj.1 (by rw [show (z.getD (z.length - 1) 0).toNat = 48 by omega]; rfl)
      rw [lastI hl0 (by unfold lenM; omega), Int.toNat_natCast]
      refine fun _ => ⟨⟨by omega, by omega, by omega⟩, trivial, Nx.of (z.take (z.length - 1)) ⟨by rw [← z1, tR_go hl0 h48], by rw [List.length_take]; omega⟩ (by rw [List.length_take]; omega) ?_⟩
      exact (StLe.refl _ _).cast (by kernel_rfl)
    · obtain ⟨z1, z2⟩ := hz
      have hz : tR z = z := tR_stop (by
        rcases Nat.eq_zero_or_pos z.length with h0 | h0
        · exact .inl (List.eq_nil_of_length_eq_zero h0)
        · right
          rw [decide_eq_true (by omega), cond_true, lastI h0 (by unfold lenM; omega), Int.toNat_natCast] at h
          have h : ¬ ((z.getD (z.length - 1) 0).toNat : Int) = 48 := by simpa using h
          exact fun e => h (by rw [e]; rfl))
      rw [hz] at z1
      have hst : stR ⟨n, q0, e0⟩ = if z = [] then ⟨false, [], 0⟩ else ⟨n, z, e⟩ := by
        unfold stR trimF Pa.nm
        rw [← y1, ← z1]
        split
        · rfl
        · rename_i hne
          unfold Nm.pa Nm.pe Nm.fst
          rw [if_neg hne]
          simp only [Pa.mk.injEq, true_and]
          have := tL_len q0
          omega
      refine runS_sound hmix _ _ _ (of_eq (nXtc n z e _) (cond_intro (fun h => ⟨trivial, ?_⟩) fun h => ⟨trivial, ?_⟩))
      · rw [hst, if_pos (by simpa using h)]; exact Wk.refl _
      · rw [hst, if_neg (by intro h0; rw [h0] at h; cases h)]; exact Wk.refl _
end Go.Proofs.YtiekphbkomddfaaGreatDoor.S1
namespace Go.Proofs.YtiekphbkomddfaaGreatDoor.S1
open Go Go.Ab Go.Proofs
-- nolay
attribute [local instance] LT10
theorem F74:OkF 74 Tryz.f74:=⟨by kernel_rfl,by kernel_rfl,by kernel_rfl⟩
def lv74:List (List Nat × List Nat):=[([1,1,1,1,1,1],[1,4]),([1,1,1,1,1,1,1],[1,4])]
noncomputable def nXTs (x:Pa):List Nat→Nat→Option Ans:=scrAt [([1,0],1,Ans.pure [x.d] (stR x).d)]
theorem nXT (x:Pa) (K:D→Prop):runS (En Tryz.f74) (fi Tryz.f74 K) (nXTs x) lv74 200 [.code []] ⟨argSlots 0 [x.d],.empty⟩ =
 (PQ PP 79 [x.d] (stR x).d∧True∧bif (stR x).dig=={data:= #[]:ByteArray}.data.toList then K (.tup [.str {data:= #[48]:ByteArray}.data.toList,I 0]) else List.length (stR x).dig≤strM→bif bif bif decide ((↑(List.length (stR x).dig):Int) > 17) then true else decide ((stR x).e < -400) then true else decide ((stR x).e > 400) then K (.tup [.str {data:= #[]:ByteArray}.data.toList,I 9]) else ((0:Int)≤0∧(0:Int)≤1∧1≤(↑(List.length (stR x).dig):Int))∧(List.length (stR x).dig≤strM→bif decide ((↑(List.length (stR x).dig):Int) > 1) then (List.drop 0 (List.take 1 (stR x).dig)).length+1≤strM∧((0:Int)≤1∧1≤(↑(List.length (stR x).dig):Int))∧(List.drop 0 (List.take 1 (stR x).dig)++{data:= #[46]:ByteArray}.data.toList).length+(List.drop 1 (stR x).dig).length≤strM∧At (En Tryz.f74) (fi Tryz.f74 K) [It.code [1,1,1,1,1,1]] {sl:=[(1,.own [B (stR x).neg,.str (stR x).dig,I (stR x).e]),(4,.str (List.drop 0 (List.take 1 (stR x).dig)++{data:= #[46]:ByteArray}.data.toList++List.drop 1 (stR x).dig))],h:=Heap.empty:St} else At (En Tryz.f74) (fi Tryz.f74 K) [It.code [1,1,1,1,1,1]] {sl:=[(1,.own [B (stR x).neg,.str (stR x).dig,I (stR x).e]),(4,.str (List.drop 0 (List.take 1 (stR x).dig)))],h:=Heap.empty:St})):=by kernel_rfl
def lvT1:List (List Nat × List Nat):=[([1,1,1,1,1,1,1],[1,4])]
noncomputable def nXTbs:List Nat→Nat→Option Ans:=scrAt []
theorem nXTb (n:Bool) (q:Str) (e:Int) (z:Str) (K:D→Prop):runS (En Tryz.f74) (fi Tryz.f74 K) (nXTbs ) lvT1 200 [.code [1,1,1,1,1,1]] ⟨[(1,.own [B n,.str q,I e]),(4,.str z)],.empty⟩ =
 (bif n then 1+List.length z≤strM∧At (En Tryz.f74) (fi Tryz.f74 K) [It.code [1,1,1,1,1,1,1]] {sl:=[(1,.own [B n,.str q,I e]),(4,.str ({data:= #[45]:ByteArray}.data.toList++z))],h:=Heap.empty:St} else At (En Tryz.f74) (fi Tryz.f74 K) [It.code [1,1,1,1,1,1,1]] {sl:=[(1,.own [B n,.str q,I e]),(4,.str z)],h:=Heap.empty:St}):=by kernel_rfl
noncomputable def nXTcs (e:Int):List Nat→Nat→Option Ans:=scrAt [([1,1,1,1,1,1,1,0],4,Ans.pure [I e] (.str (Lib.itoa e)))]
theorem nXTc (n:Bool) (q:Str) (e:Int) (z:Str) (K:D→Prop):runS (En Tryz.f74) (fi Tryz.f74 K) (nXTcs e) nolv 200 [.code [1,1,1,1,1,1,1]] ⟨[(1,.own [B n,.str q,I e]),(4,.str z)],.empty⟩ =
 (List.length z+1≤strM∧PQ PP 127 [I e] (.str (Lib.itoa e))∧(z++{data:= #[101]:ByteArray}.data.toList).length+(Lib.itoa e).length≤strM∧K (.tup [.str (z++{data:= #[101]:ByteArray}.data.toList++Lib.itoa e),I 0])):=by kernel_rfl
theorem F73:OkF 73 Tryz.f73:=⟨by kernel_rfl,by kernel_rfl,by kernel_rfl⟩
def lv73:List (List Nat × List Nat):=[([1,1,1,1],[0,2,4,5]),([1,1,1,1,1,1,1,1],[0,2,4,5]),([1,1,1,1,1,1,1,1,0,1,0,1,1,1],[0,2,4,5,7]),([1,1,1,1,1,1,1,1,0,1,0,1,1,1,1,1,1,0,1,0],[0,2,4,5,6,7,8,9]),([1,1,1,1,1,1,1,1,1],[0,2,4,5])]
noncomputable def nXRs:List Nat→Nat→Option Ans:=scrAt []
theorem nXR (z:Str) (K:D→Prop):runS (En Tryz.f73) (fi Tryz.f73 K) (nXRs ) lv73 200 [.code []] ⟨argSlots 0 [.str z],.empty⟩ =
 (True∧(List.length z≤strM→(decide ((↑(List.length z):Int) > 0)=true→(0:Int)≤0∧0 < (↑(List.length z):Int))∧((decide ((↑(List.length z):Int) > 0) && !(↑(List.getD z 0 0).toNat:Int)==43)=true→(0:Int)≤0∧0 < (↑(List.length z):Int))∧bif bif decide ((↑(List.length z):Int) > 0) then bif (↑(List.getD z 0 0).toNat:Int)==43 then true else (↑(List.getD z 0 0).toNat:Int)==45 else false then ((0:Int)≤0∧0 < (↑(List.length z):Int))∧True∧At (En Tryz.f73) (fi Tryz.f73 K) [It.code [1,1,1,1]] {sl:=[(0,.str z),(2,.own [B false,.str {data:= #[]:ByteArray}.data.toList,I 0]),(4,.own [B ((↑(List.getD z 0 0).toNat:Int)==45),.str {data:= #[]:ByteArray}.data.toList,I 0]),(5,I 1)],h:=Heap.empty:St} else At (En Tryz.f73) (fi Tryz.f73 K) [It.code [1,1,1,1]] {sl:=[(0,.str z),(2,.own [B false,.str {data:= #[]:ByteArray}.data.toList,I 0]),(4,.own [B false,.str {data:= #[]:ByteArray}.data.toList,I 0]),(5,I 0)],h:=Heap.empty:St})):=by kernel_rfl
def SXR (z:Str) (n:Bool) (q:Str) (e a:Int):St:=⟨[(0,.str z),(2,.own [B false,.str [],I 0]),(4,.own [B n,.str q,I e]),(5,I a)],.empty⟩
def lvR0:List (List Nat × List Nat):=[([1,1,1,1,1,1,1,0],[0,2,4,5])]
noncomputable def nXRbs (z:Str) (a:Int):List Nat→Nat→Option Ans:=scrAt [([1,1,1,1,0],2,Ans.pure [.str z,I a] (I (↑(List.length (spanD (List.drop a.toNat z)).fst):Int)))]
theorem nXRb (z:Str) (n:Bool) (a:Int) (K:D→Prop):runS (En Tryz.f73) (fi Tryz.f73 K) (nXRbs z a) lvR0 200 [.code [1,1,1,1]] (SXR z n [] 0 a) =
 (PQ PP 126 [.str z,I a] (I (↑(List.length (spanD (List.drop a.toNat z)).fst):Int))∧(((!(↑(List.length (spanD (List.drop a.toNat z)).fst):Int)==0)=true→List.length z≤strM)→bif bif (↑(List.length (spanD (List.drop a.toNat z)).fst):Int)==0 then true else decide ((↑(List.length z):Int) > 64) then True∧K (.tup [.agg [B false,.str {data:= #[]:ByteArray}.data.toList,I 0],B false]) else (0≤a∧a≤addI .i64 a (↑(List.length (spanD (List.drop a.toNat z)).fst):Int)∧addI .i64 a (↑(List.length (spanD (List.drop a.toNat z)).fst):Int)≤(↑(List.length z):Int))∧True∧True∧At (En Tryz.f73) (fi Tryz.f73 K) [It.code [1,1,1,1,1,1,1,0],It.code [1,1,1,1,1,1,1,1]] {sl:=[(0,.str z),(2,.own [B false,.str [],I 0]),(4,.own [B n,.str (List.drop a.toNat (List.take (addI .i64 a (↑(List.length (spanD (List.drop a.toNat z)).fst):Int)).toNat z)),I (subI .i64 (↑(List.length (spanD (List.drop a.toNat z)).fst):Int) 1)]),(5,I (addI .i64 a (↑(List.length (spanD (List.drop a.toNat z)).fst):Int)))],h:=Heap.empty:St})):=by kernel_rfl
def lvR1:List (List Nat × List Nat):=[([1,1,1,1,1,1,1,1,0],[0,2,4,5])]
noncomputable def nXRfs (z:Str) (a:Int):List Nat→Nat→Option Ans:=scrAt [([1,1,1,1,1,1,1,0,1,0,0],3,Ans.pure [.str z,I (addI .i64 a 1)] (I (↑(List.length (spanD (List.drop (addI .i64 a 1).toNat z)).fst):Int)))]
theorem nXRf (z:Str) (n:Bool) (q:Str) (e a:Int) (K:D→Prop):runS (En Tryz.f73) (fi Tryz.f73 K) (nXRfs z a) lvR1 200 [.code [1,1,1,1,1,1,1,0],.code [1,1,1,1,1,1,1,1]] (SXR z n q e a) =
 (List.length z≤strM →
 (decide (a < (↑(List.length z):Int))=true→0≤a∧a < (↑(List.length z):Int)) ∧
  bif bif decide (a < (↑(List.length z):Int)) then (↑(List.getD z a.toNat 0).toNat:Int)==46 else false then PQ PP 126 [.str z,I (addI .i64 a 1)] (I (↑(List.length (spanD (List.drop (addI .i64 a 1).toNat z)).fst):Int))∧bif (↑(List.length (spanD (List.drop (addI .i64 a 1).toNat z)).fst):Int)==0 then True∧K (.tup [.agg [B false,.str {data:= #[]:ByteArray}.data.toList,I 0],B false]) else (0≤addI .i64 a 1∧addI .i64 a 1≤addI .i64 (addI .i64 a 1) (↑(List.length (spanD (List.drop (addI .i64 a 1).toNat z)).fst):Int)∧addI .i64 (addI .i64 a 1) (↑(List.length (spanD (List.drop (addI .i64 a 1).toNat z)).fst):Int)≤(↑(List.length z):Int))∧List.length q+(List.drop (addI .i64 a 1).toNat (List.take (addI .i64 (addI .i64 a 1) (↑(List.length (spanD (List.drop (addI .i64 a 1).toNat z)).fst):Int)).toNat z)).length≤strM∧True∧At (En Tryz.f73) (fi Tryz.f73 K) [It.code [1,1,1,1,1,1,1,1,0],It.code [1,1,1,1,1,1,1,1,1]] {sl:=[(0,.str z),(2,.own [B false,.str [],I 0]),(4,.own [B n,.str (q++List.drop (addI .i64 a 1).toNat (List.take (addI .i64 (addI .i64 a 1) (↑(List.length (spanD (List.drop (addI .i64 a 1).toNat z)).fst):Int)).toNat z)),I e]),(5,I (addI .i64 (addI .i64 a 1) (↑(List.length (spanD (List.drop (addI .i64 a 1).toNat z)).fst):Int)))],h:=Heap.empty:St}
  else At (En Tryz.f73) (fi Tryz.f73 K) [It.code [1,1,1,1,1,1,1,1,0],It.code [1,1,1,1,1,1,1,1,1]] {sl:=[(0,.str z),(2,.own [B false,.str [],I 0]),(4,.own [B n,.str q,I e]),(5,I a)],h:=Heap.empty:St}):=by kernel_rfl
def lvR2:List (List Nat × List Nat):=[([1,1,1,1,1,1,1,1,1],[0,2,4,5]),([1,1,1,1,1,1,1,1,0,1,0,1,1,1],[0,2,4,5,7])]
noncomputable def nXRcs:List Nat→Nat→Option Ans:=scrAt []
theorem nXRc (z : Str) (n : Bool) (q : Str) (e a : Int) (K : D → Prop) : runS (En Tryz.f73) (fi Tryz.f73 K) (nXRcs ) lvR2 200 [.code [1, 1, 1, 1, 1, 1, 1, 1, 0], .code [1, 1, 1, 1, 1, 1, 1, 1, 1]] (SXR z n q e a) =
  (List.length z ≤ strM →
  (decide (a < (↑(List.length z) : Int)) = true → 0 ≤ a ∧ a < (↑(List.length z) : Int)) ∧
    ((decide (a < (↑(List.length z) : Int)) && !(↑(List.getD z a.toNat 0).toNat : Int) == 101) = true → 0 ≤ a ∧ a < (↑(List.length z) : Int)) ∧
      bif bif decide (a < (↑(List.length z) : Int)) then bif (↑(List.getD z a.toNat 0).toNat : Int) == 101 then true else (↑(List.getD z a.toNat 0).toNat : Int) == 69 else false then
        List.length z ≤ strM → (decide (addI .i64 a 1 < (↑(List.length z) : Int)) = true → 0 ≤ addI .i64 a 1 ∧ addI .i64 a 1 < (↑(List.length z) : Int)) ∧ (List.length z ≤ strM → (decide (addI .i64 a 1 < (↑(List.length z) : Int)) = true → 0 ≤ addI .i64 a 1 ∧ addI .i64 a 1 < (↑(List.length z) : Int)) ∧ ((decide (addI .i64 a 1 < (↑(List.length z) : Int)) && !(↑(List.getD z (addI .i64 a 1).toNat 0).toNat : Int) == 43) = true → 0 ≤ addI .i64 a 1 ∧ addI .i64 a 1 < (↑(List.length z) : Int)) ∧ bif bif decide (addI .i64 a 1 < (↑(List.length z) : Int)) then bif (↑(List.getD z (addI .i64 a 1).toNat 0).toNat : Int) == 43 then true else (↑(List.getD z (addI .i64 a 1).toNat 0).toNat : Int) == 45 else false then At (En Tryz.f73) (fi Tryz.f73 K) [It.code [1, 1, 1, 1, 1, 1, 1, 1, 0, 1, 0, 1, 1, 1], It.code [1, 1, 1, 1, 1, 1, 1, 1, 1]] { sl := [(0, .str z), (2, .own [B false, .str [], I 0]), (4, .own [B n, .str q, I e]), (5, I (addI .i64 (addI .i64 a 1) 1)), (7, B (bif decide (addI .i64 a 1 < (↑(List.length z) : Int)) then (↑(List.getD z (addI .i64 a 1).toNat 0).toNat : Int) == 45 else false))], h := Heap.empty : St } else At (En Tryz.f73) (fi Tryz.f73 K) [It.code [1, 1, 1, 1, 1, 1, 1, 1, 0, 1, 0, 1, 1, 1], It.code [1, 1, 1, 1, 1, 1, 1, 1, 1]] { sl := [(0, .str z), (2, .own [B false, .str [], I 0]), (4, .own [B n, .str q, I e]), (5, I (addI .i64 a 1)), (7, B (bif decide (addI .i64 a 1 < (↑(List.length z) : Int)) then (↑(List.getD z (addI .i64 a 1).toNat 0).toNat : Int) == 45 else false))], h := Heap.empty : St })
      else At (En Tryz.f73) (fi Tryz.f73 K) [It.code [1, 1, 1, 1, 1, 1, 1, 1, 1]] { sl := [(0, .str z), (2, .own [B false, .str [], I 0]), (4, .own [B n, .str q, I e]), (5, I a)], h := Heap.empty : St }) := by kernel_rfl
def lvR3:List (List Nat × List Nat):=[([1,1,1,1,1,1,1,1,1],[0,2,4,5]),([1,1,1,1,1,1,1,1,0,1,0,1,1,1,1,1,1,0,1,0],[0,2,4,5,6,7,8,9])]
noncomputable def nXRds (z:Str) (a:Int):List Nat→Nat→Option Ans:=scrAt [([1,1,1,1,1,1,1,1,0,1,0,1,1,1,0],2,Ans.pure [.str z,I a] (I (↑(List.length (spanD (List.drop a.toNat z)).fst):Int)))]
theorem nXRd (z:Str) (n:Bool) (q:Str) (e a:Int) (w:Bool) (K:D→Prop):runS (En Tryz.f73) (fi Tryz.f73 K) (nXRds z a) lvR3 200 [.code [1,1,1,1,1,1,1,1,0,1,0,1,1,1],.code [1,1,1,1,1,1,1,1,1]] ⟨[(0,.str z),(2,.own [B false,.str [],I 0]),(4,.own [B n,.str q,I e]),(5,I a),(7,B w)],.empty⟩ =
 (PQ PP 126 [.str z,I a] (I (↑(List.length (spanD (List.drop a.toNat z)).fst):Int))∧bif (↑(List.length (spanD (List.drop a.toNat z)).fst):Int)==0 then True∧K (.tup [.agg [B false,.str {data:= #[]:ByteArray}.data.toList,I 0],B false]) else At (En Tryz.f73) (fi Tryz.f73 K) [It.code [1,1,1,1,1,1,1,1,0,1,0,1,1,1,1,1,1,0,1,0],It.blk 0,It.code [1,1,1,1,1,1,1,1,0,1,0,1,1,1,1,1,1,1],It.code [1,1,1,1,1,1,1,1,1]] {sl:=[(0,.str z),(2,.own [B false,.str [],I 0]),(4,.own [B n,.str q,I e]),(5,I a),(6,I (↑(List.length (spanD (List.drop a.toNat z)).fst):Int)),(7,B w),(8,I 0),(9,I 0)],h:=Heap.empty:St}):=by kernel_rfl
def SXl (z:Str) (n:Bool) (q:Str) (e a m:Int) (w:Bool) (x i:Int):St:=⟨[(0,.str z),(2,.own [B false,.str [],I 0]),(4,.own [B n,.str q,I e]),(5,I a),(6,I m),(7,B w),(8,I x),(9,I i)],.empty⟩
noncomputable def nXRls:List Nat→Nat→Option Ans:=scrAt []
theorem nXRl (z:Str) (n:Bool) (q:Str) (e a m:Int) (w:Bool) (x i:Int) (J:St→Prop) (K:D→Prop):runS (En Tryz.f73) (fi Tryz.f73 K) (nXRls ) lv73 200 [.code [1,1,1,1,1,1,1,1,0,1,0,1,1,1,1,1,1,0,1,0,0],stp [0,2,4,5,6,7,8,9] J,.blk 0,.code [1,1,1,1,1,1,1,1,0,1,0,1,1,1,1,1,1,1],.code [1,1,1,1,1,1,1,1,1]] (SXl z n q e a m w x i) =
 (bif decide (i < m) then (0≤addI .i64 a i∧addI .i64 a i < (↑(List.length z):Int))∧J {sl:=[(0,.str z),(2,.own [B false,.str [],I 0]),(4,.own [B n,.str q,I e]),(5,I a),(6,I m),(7,B w),(8,I (if 100000 < addI .i64 (mulI .i64 10 x) (IntKind.i64.wrap (subI IntKind.u8 (↑(List.getD z (addI .i64 a i).toNat 0).toNat:Int) 48)) then 100000 else addI .i64 (mulI .i64 10 x) (IntKind.i64.wrap (subI IntKind.u8 (↑(List.getD z (addI .i64 a i).toNat 0).toNat:Int) 48)))),(9,I (addI .i64 i 1))],h:=Heap.empty:St} else bif w then True∧At (En Tryz.f73) (fi Tryz.f73 K) [It.code [1,1,1,1,1,1,1,1,1]] {sl:=[(0,.str z),(2,.own [B false,.str [],I 0]),(4,.own [B n,.str q,I (addI .i64 e (subI .i64 0 x))]),(5,I (addI .i64 a m))],h:=Heap.empty:St} else True∧At (En Tryz.f73) (fi Tryz.f73 K) [It.code [1,1,1,1,1,1,1,1,1]] {sl:=[(0,.str z),(2,.own [B false,.str [],I 0]),(4,.own [B n,.str q,I (addI .i64 e x)]),(5,I (addI .i64 a m))],h:=Heap.empty:St}):=by kernel_rfl
noncomputable def nXRes:List Nat→Nat→Option Ans:=scrAt []
theorem nXRe (z:Str) (n:Bool) (q:Str) (e a:Int) (K:D→Prop):runS (En Tryz.f73) (fi Tryz.f73 K) (nXRes ) nolv 200 [.code [1,1,1,1,1,1,1,1,1]] (SXR z n q e a) =
 (List.length z≤strM→True∧K (.tup [.agg [B n,.str q,I e],B (a==(↑(List.length z):Int))])):=by kernel_rfl
end Go.Proofs.YtiekphbkomddfaaGreatDoor.S1
namespace Go.Proofs.YtiekphbkomddfaaGreatDoor.S1
open Go Go.Ab Go.Proofs
-- nolay
attribute [local instance] LT10
def txR (x:Nm):Str × Int:=match textF x with
 | some z=>(z,0)
 | none=>([],9)
theorem c74 (x:Pa) (h1 : -1000000000≤x.e) (h2:x.e≤1000000000) (hl:x.dig.length≤1000000):Pure PP 74 [x.d] (.tup [.str (txR (trimF x.nm)).1,I (txR (trimF x.nm)).2]):=by
 refine pu F74 (by kernel_rfl) (of_eq (nXT x _) ⟨PureW.mk (c79 x h1 h2 hl),trivial,?_⟩)
 have hs:stR x=(trimF x.nm).pa:=rfl
 rw [hs]
 have hlen:=trimF_len x.nm
 have hl2:(trimF x.nm).dig.length≤1000000:=Nat.le_trans hlen hl
 generalize trimF x.nm=y at *
 refine cond_intro (fun h=> ?_) fun h _=>cond_intro (fun h3=> ?_) fun h3=> ?_
 ·have h:(y.dig==[])=true:=h
  have h:y.dig=[]:=by simpa using h
  have e:txR y=([48],0):=by unfold txR textF; rw [if_pos h]
  rw [e]; exact Wk.refl _
 ·have h:¬ y.dig=[]:=by intro h0; rw [show y.pa.dig=y.dig from rfl,h0] at h; cases h
  have hp:y.pa.e=y.fst:=by show y.pe=_; unfold Nm.pe; rw [if_neg h]
  rw [hp] at h3
  have h4:y.dig.length > 17∨y.fst < -400∨y.fst > 400:=by
   have h3:(bif bif decide ((y.dig.length:Int) > 17) then true else decide (y.fst < -400) then true else decide (y.fst > 400))=true:=h3
   by_cases c1:(y.dig.length:Int) > 17
   ·left; omega
   ·rw [decide_eq_false c1,cond_false] at h3
    by_cases c2:y.fst < -400
    ·exact .inr (.inl c2)
    ·rw [decide_eq_false c2,cond_false] at h3
     exact .inr (.inr (of_decide_eq_true h3))
  have e:txR y=([],9):=by unfold txR textF; rw [if_neg h,if_pos h4]
  rw [e]; exact Wk.refl _
 ·have h:¬ y.dig=[]:=by intro h0; rw [show y.pa.dig=y.dig from rfl,h0] at h; cases h
  have hp:y.pa.e=y.fst:=by show y.pe=_; unfold Nm.pe; rw [if_neg h]
  rw [hp] at h3 ⊢
  have h4:¬ (y.dig.length > 17∨y.fst < -400∨y.fst > 400):=by
   have h3:(bif bif decide ((y.dig.length:Int) > 17) then true else decide (y.fst < -400) then true else decide (y.fst > 400))=false:=h3
   rintro (c | c | c)
   ·rw [decide_eq_true (by omega)] at h3; cases h3
   ·rw [decide_eq_true c] at h3
    cases hd:decide ((y.dig.length:Int) > 17) <;> rw [hd] at h3 <;> cases h3
   ·rw [decide_eq_true c] at h3
    cases hd:decide ((y.dig.length:Int) > 17) <;> cases hd2:decide (y.fst < -400) <;> rw [hd,hd2] at h3 <;> cases h3
  have h5:∀ b,b=(y.dig.take 1++(if y.dig.length > 1 then [46]++y.dig.drop 1 else []))→At (En Tryz.f74) (fi Tryz.f74 fun d=>Wk d (.tup [.str (txR y).1,I (txR y).2])) [.code [1,1,1,1,1,1]] ⟨[(1,.own [B y.neg,.str y.dig,I y.fst]),(4,.str b)],.empty⟩:=fun b hb=>by
   have e:txR y=((if y.neg then [45] else [])++b++[101]++Lib.itoa y.fst,0):=by unfold txR textF; rw [if_neg h,if_neg h4,hb]
   have hbl:b.length≤20:=by
    rw [hb,List.length_append,List.length_take]
    split
    ·simp only [List.length_append,List.length_drop,List.length_singleton]; omega
    ·simp only [List.length_nil]; omega
   have hi:=Lib.itoa_length_le y.fst (by omega) (by omega)
   have last:∀ q:Str,q.length≤21→q=(if y.neg then [45] else [])++b→At (En Tryz.f74) (fi Tryz.f74 fun d=>Wk d (.tup [.str (txR y).1,I (txR y).2])) [.code [1,1,1,1,1,1,1]] ⟨[(1,.own [B y.neg,.str y.dig,I y.fst]),(4,.str q)],.empty⟩:=fun q hq hqe=>by
    refine runS_sound hmix _ _ _ (of_eq (nXTc y.neg y.dig y.fst q _) ⟨by unfold strM; omega,PureW.mk (c127 _ (by omega) (by omega)),?_,?_⟩)
    ·have:∀ w:Str,w.length≤1→(q++w).length+(Lib.itoa y.fst).length≤strM:=fun w hw=>by rw [List.length_append]; unfold strM; omega
     exact this [101] (by decide)
    ·rw [e,← hqe]; exact Wk.refl _
   refine runS_sound hmix _ _ _ (of_eq (nXTb y.neg y.dig y.fst b _) (cond_intro (fun hn=>⟨by unfold strM; omega,?_⟩) fun hn=> ?_))
   ·exact last (45::b) (by simp only [List.length_cons]; omega) (by rw [hn]; rfl)
   ·exact last b (by omega) (by rw [hn]; rfl)
  have hl0:0 < y.dig.length:=List.length_pos_iff.2 h
  refine ⟨⟨by omega,by omega,by show (1:Int)≤(y.dig.length:Int); omega⟩,fun _=>cond_intro (fun h6=> ?_) fun h6=> ?_⟩
  ·have h6:(y.dig.length:Int) > 1:=of_decide_eq_true h6
   refine ⟨?_,⟨by omega,by show (1:Int)≤(y.dig.length:Int); omega⟩,?_,h5 _ ?_⟩
   ·show (List.drop 0 (List.take 1 y.dig)).length+1≤strM
    rw [List.drop_zero,List.length_take]; unfold strM; omega
   ·show (List.drop 0 (List.take 1 y.dig)++[46]).length+(List.drop 1 y.dig).length≤strM
    rw [List.drop_zero,List.length_append,List.length_take,List.length_drop,List.length_singleton]; unfold strM; omega
   ·rw [if_pos (by omega)]
    show List.drop 0 (List.take 1 y.dig)++[46]++List.drop 1 y.dig=_
    rw [List.drop_zero,List.append_assoc]
  ·have h6:¬ (y.dig.length:Int) > 1:=of_decide_eq_false h6
   refine h5 _ ?_
   rw [if_neg (by omega),List.append_nil]; rfl
end Go.Proofs.YtiekphbkomddfaaGreatDoor.S1
namespace Go.Proofs.YtiekphbkomddfaaGreatDoor.S1
open Go Go.Ab Go.Proofs
-- nolay
attribute [local instance] LT10
abbrev capR:Nat:=100000
noncomputable def Rd.pa (x:Rd):Pa:=⟨x.neg,x.dig,(x.dig.length:Int) - x.fr - 1+x.e capR⟩
noncomputable def rdV:Option Rd→Pa × Bool
 | none=>(⟨false,[],0⟩,false)
 | some x=>(x.pa,x.ok)
noncomputable def rdD (x:Option Rd):D:= .tup [(rdV x).1.d,B (rdV x).2]
theorem beq_byte (c:UInt8) (k:Nat) (hk:k < 256):((c.toNat:Int)==(k:Int))=decide (c=UInt8.ofNat k):=by
 rw [Bool.eq_iff_iff]
 simp only [beq_iff_eq,decide_eq_true_eq]
 constructor
 ·intro h
  exact UInt8.toNat_inj.1 (by rw [UInt8.toNat_ofNat']; omega)
 ·intro h
  rw [h,UInt8.toNat_ofNat']; omega
theorem sp_take {z:Str} {a:Nat} (h:a≤z.length):(z.take (a+(spanD (z.drop a)).1.length)).drop a=(spanD (z.drop a)).1∧z.drop (a+(spanD (z.drop a)).1.length)=(spanD (z.drop a)).2∧a+(spanD (z.drop a)).1.length≤z.length:=by
 have h1:=spanD_app (z.drop a)
 have h2:=spanD_len (z.drop a)
 rw [List.length_drop] at h2
 refine ⟨?_,?_,by omega⟩
 ·rw [List.drop_take,Nat.add_sub_cancel_left]
  generalize (spanD (z.drop a)).1=u at *
  rw [h1,List.take_left]
 ·rw [← List.drop_drop]
  generalize (spanD (z.drop a)).1=u at *
  generalize (spanD (z.drop a)).2=v at *
  rw [h1,List.drop_left]
theorem cDgI (z:Str) (a:Nat) (ha:a≤z.length) (hz:z.length≤1000000):Pure PP 126 [.str z,I a] (I ((spanD (z.drop (a:Int).toNat)).1.length:Nat)):=by
 rw [Int.toNat_natCast]; exact c126 z a ha hz
section
variable {z:Str} {n:Bool} {q:Str} {K:D→Prop}
theorem rdEnd {e:Int} {a:Nat} (hK:K (.tup [Pa.d ⟨n,q,e⟩,B (decide (a=z.length))])):At (En Tryz.f73) (fi Tryz.f73 K) [.code [1,1,1,1,1,1,1,1,1]] (SXR z n q e a):=by
 refine runS_sound hmix _ _ _ (of_eq (nXRe z n q e a K) fun _=>⟨trivial,?_⟩)
 have:((a:Int)==(z.length:Int))=decide (a=z.length):=by
  rw [Bool.eq_iff_iff]; simp only [beq_iff_eq,decide_eq_true_eq]; omega
 rw [this]; exact hK
theorem expV_snoc (cap:Nat) (q:Str) (c:UInt8):expV cap (q++[c])=min cap (10 * expV cap q+dgt c):=by
 unfold expV
 rw [List.foldl_append]; rfl
theorem expV_cap (cap:Nat) (q:Str):expV cap q≤cap:=by
 rw [expV_eq]; omega
theorem rdExp {e:Int} {a:Nat} {w:Bool} (ha:a≤z.length) (hz:z.length≤1000000) (he : -1000000≤e∧e≤1000000)
  (hK:(spanD (z.drop a)).1=[]→K (rdD none)) (hK2:(spanD (z.drop a)).1≠[]→K (.tup [Pa.d ⟨n,q,e+(if w then - (expV capR (spanD (z.drop a)).1:Int) else (expV capR (spanD (z.drop a)).1:Int))⟩,B (decide ((spanD (z.drop a)).2=[]))])) :
  At (En Tryz.f73) (fi Tryz.f73 K) [.code [1,1,1,1,1,1,1,1,0,1,0,1,1,1],.code [1,1,1,1,1,1,1,1,1]] ⟨[(0,.str z),(2,.own [B false,.str [],I 0]),(4,.own [B n,.str q,I e]),(5,I a),(7,B w)],.empty⟩:=by
 obtain ⟨t1,t2,t3⟩:=sp_take ha
 have hdg:=spanD_dg (z.drop a)
 refine runS_sound hmix _ _ _ (of_eq (nXRd z n q e a w K) ⟨PureW.mk (cDgI z a ha hz),?_⟩)
 rw [Int.toNat_natCast]
 refine cond_intro (fun h=>⟨trivial,hK (List.eq_nil_of_length_eq_zero (by simpa using h))⟩) fun h=> ?_
 have hne:(spanD (z.drop a)).1≠[]:=by intro h0; rw [h0] at h; cases h
 have hK2:=hK2 hne
 have hend:a+(spanD (z.drop a)).1.length=z.length↔(spanD (z.drop a)).2=[]:=by
  rw [← t2]
  constructor
  ·intro h; rw [h,List.drop_length]
  ·intro h
   have:=congrArg List.length h
   rw [List.length_drop,List.length_nil] at this; omega
 have hget:∀ i,i < (spanD (z.drop a)).1.length→z.getD (a+i) 0=(spanD (z.drop a)).1.getD i 0:=fun i hi=>by
  conv=>rhs; rw [← t1]
  rw [List.getD_eq_getElem?_getD,List.getD_eq_getElem?_getD,List.getElem?_drop,List.getElem?_take,if_pos (by omega)]
 generalize (spanD (z.drop a)).1=d at *
 generalize (spanD (z.drop a)).2=r at *
 refine at_le (st':=SXl z n q e a d.length w (expV capR (d.take 0)) ((0:Nat):Int)) ?_ ((StLe.refl _ _).cast (by kernel_rfl))
 refine lp (fn:=Tryz.f73) (fun i:Nat=>i≤d.length) (fun i=>SXl z n q e a d.length w (expV capR (d.take i)) i) (fun i=>d.length - i) [0,2,4,5,6,7,8,9] (by kernel_rfl) (fun i hi=>of_eq (nXRl z n q e a d.length w (expV capR (d.take i)) i _ _) (cond_intro (fun hlt=> ?_) fun hge=> ?_)) 0 (Nat.zero_le _)
 ·have hlt:=ltI hlt
  have hx:expV capR (d.take i)≤100000:=expV_cap _ _
  have hb:=dg_at hdg hlt
  have hb2:=dgt_le hb
  rw [add64 (a:=(a:Int)) (by omega) (by omega),show ((a:Int)+(i:Int)).toNat=a+i by omega,hget i hlt,dgt_run hb]
  refine ⟨⟨by omega,by omega⟩,Nx.of (i+1) hlt (by omega) ?_⟩
  have hs:expV capR (d.take (i+1))=min capR (10 * expV capR (d.take i)+dgt (d.getD i 0)):=by
   rw [show d.take (i+1)=d.take i++[d.getD i 0] from take_snoc d i hlt,expV_snoc]
  have hm:mulI .i64 10 (expV capR (d.take i):Int)=10 * (expV capR (d.take i):Int):=IntWalk.i64_in _ (by omega)
  rw [hs,hm,add64 (by omega) (by omega),add64 (by omega) (by omega)]
  have:(if 100000 < 10 * (expV capR (d.take i):Int)+(dgt (d.getD i 0):Int) then 100000 else 10 * (expV capR (d.take i):Int)+(dgt (d.getD i 0):Int))=((min capR (10 * expV capR (d.take i)+dgt (d.getD i 0)):Nat):Int):=by
   have:((min capR (10 * expV capR (d.take i)+dgt (d.getD i 0)):Nat):Int)=min 100000 (10 * (expV capR (d.take i):Int)+(dgt (d.getD i 0):Int)):=by
    rw [show capR=100000 from rfl]; omega
   rw [this]; split <;> omega
  rw [this]
  exact (StLe.refl _ _).cast (by kernel_rfl)
 ·have hge:=geI hge
  rw [List.take_of_length_le hge]
  have hx:expV capR d≤100000:=expV_cap _ _
  refine cond_intro (fun hw=>⟨trivial,?_⟩) fun hw=>⟨trivial,?_⟩
  ·rw [sub64 (a:=0) (by omega) (by omega),add64 (a:=e) (by omega) (by omega),add64 (by omega) (by omega)]
   refine at_le (st':=SXR z n q (e+(0 - (expV capR d:Int))) ((a+d.length:Nat):Int)) (rdEnd ?_) ((StLe.refl _ _).cast (by kernel_rfl))
   rw [hw,if_pos rfl] at hK2
   have:decide (a+d.length=z.length)=decide (r=[]):=by rw [decide_eq_decide]; exact hend
   rw [this,show e+(0 - (expV capR d:Int))=e + - (expV capR d:Int) by omega]
   exact hK2
  ·rw [add64 (a:=e) (by omega) (by omega),add64 (by omega) (by omega)]
   refine at_le (st':=SXR z n q (e+(expV capR d:Int)) ((a+d.length:Nat):Int)) (rdEnd ?_) ((StLe.refl _ _).cast (by kernel_rfl))
   rw [hw,if_neg (by simp)] at hK2
   have:decide (a+d.length=z.length)=decide (r=[]):=by rw [decide_eq_decide]; exact hend
   rw [this]
   exact hK2
end
end Go.Proofs.YtiekphbkomddfaaGreatDoor.S1
namespace Go.Proofs.YtiekphbkomddfaaGreatDoor.S1
open Go Go.Ab Go.Proofs
-- nolay
attribute [local instance] LT10
theorem condB {a n:Nat} {c:UInt8} {k:Nat} (hk:k < 256):(bif decide ((a:Int) < (n:Int)) then ((c.toNat:Int)==(k:Int)) else false)=decide (a < n∧c=UInt8.ofNat k):=by
 rw [beq_byte c k hk]
 by_cases h:a < n
 ·rw [decide_eq_true (show (a:Int) < (n:Int) by omega),cond_true,decide_eq_decide]
  exact ⟨fun h1=>⟨h,h1⟩,fun h1=>h1.2⟩
 ·rw [decide_eq_false (show ¬ (a:Int) < (n:Int) by omega),cond_false]
  exact (decide_eq_false fun h1=>h h1.1).symm
theorem condB2 {a n:Nat} {c:UInt8} {k l:Nat} (hk:k < 256) (hl:l < 256):(bif decide ((a:Int) < (n:Int)) then bif ((c.toNat:Int)==(k:Int)) then true else ((c.toNat:Int)==(l:Int)) else false)=decide (a < n∧(c=UInt8.ofNat k∨c=UInt8.ofNat l)):=by
 rw [beq_byte c k hk,beq_byte c l hl]
 by_cases h:a < n
 ·rw [decide_eq_true (show (a:Int) < (n:Int) by omega),cond_true]
  by_cases h1:c=UInt8.ofNat k
  ·rw [decide_eq_true h1,cond_true]; exact (decide_eq_true ⟨h,.inl h1⟩).symm
  ·rw [decide_eq_false h1,cond_false,decide_eq_decide]
   exact ⟨fun h2=>⟨h,.inr h2⟩,fun h2=>h2.2.resolve_left h1⟩
 ·rw [decide_eq_false (show ¬ (a:Int) < (n:Int) by omega),cond_false]
  exact (decide_eq_false fun h1=>h h1.1).symm
section
variable {z:Str} {n:Bool} {q:Str} {K:D→Prop}
theorem rdTail {e:Int} {f a:Nat} (ha:a≤z.length) (hz:z.length≤1000000) (hq:q.length≤100000) (hf:f≤100000) (he:e=(q.length:Int) - f - 1) (hK:K (rdD (rdE n q f (z.drop a)))) :
  At (En Tryz.f73) (fi Tryz.f73 K) [.code [1,1,1,1,1,1,1,1,0],.code [1,1,1,1,1,1,1,1,1]] (SXR z n q e a):=by
 have cE:=condB2 (a:=a) (n:=z.length) (c:=z.getD a 0) (k:=101) (l:=69) (by omega) (by omega)
 refine runS_sound hmix _ _ _ (of_eq (nXRc z n q e a K) fun _=> ?_)
 rw [Int.toNat_natCast]
 refine ⟨fun h=>⟨by omega,of_decide_eq_true h⟩,fun h=>⟨by omega,by rw [Bool.and_eq_true] at h; exact of_decide_eq_true h.1⟩,?_⟩
 rw [show (bif decide ((a:Int) < (z.length:Int)) then bif ((z.getD a 0).toNat:Int)==101 then true else ((z.getD a 0).toNat:Int)==69 else false)=_ from cE]
 refine cond_intro (fun h=> ?_) fun h=> ?_
 ·obtain ⟨hl,hc⟩:=of_decide_eq_true h
  have hd:=drop_cons0 hl
  rw [hd,rdE,if_pos (by exact hc)] at hK
  have key:∀ (a':Nat) (w:Bool),a'≤z.length→z.drop a'=(sgnS (z.drop (a+1))).2→w=(sgnS (z.drop (a+1))).1→At (En Tryz.f73) (fi Tryz.f73 K) [.code [1,1,1,1,1,1,1,1,0,1,0,1,1,1],.code [1,1,1,1,1,1,1,1,1]] ⟨[(0,.str z),(2,.own [B false,.str [],I 0]),(4,.own [B n,.str q,I e]),(5,I a'),(7,B w)],.empty⟩:=fun a' w ha' hd' hw=>by
   refine rdExp ha' hz ⟨by omega,by omega⟩ (fun h0=> ?_) fun h0=> ?_
   ·rw [hd'] at h0
    rw [if_pos h0] at hK; exact hK
   ·rw [hd'] at h0 ⊢
    rw [if_neg h0] at hK
    rw [hw,he]
    exact hK
  have ea:addI .i64 (a:Int) 1=((a+1:Nat):Int):=by rw [add64 (by omega) (by omega)]; rfl
  rw [ea,Int.toNat_natCast]
  have c1:=condB2 (a:=a+1) (n:=z.length) (c:=z.getD (a+1) 0) (k:=43) (l:=45) (by omega) (by omega)
  have c2:=condB (a:=a+1) (n:=z.length) (c:=z.getD (a+1) 0) (k:=45) (by omega)
  refine fun _=>⟨fun h=>⟨by omega,of_decide_eq_true h⟩,fun _=>⟨fun h=>⟨by omega,of_decide_eq_true h⟩,fun h=>⟨by omega,by rw [Bool.and_eq_true] at h; exact of_decide_eq_true h.1⟩,?_⟩⟩
  rw [show (bif decide (((a+1:Nat):Int) < (z.length:Int)) then bif ((z.getD (a+1) 0).toNat:Int)==43 then true else ((z.getD (a+1) 0).toNat:Int)==45 else false)=_ from c1,show (bif decide (((a+1:Nat):Int) < (z.length:Int)) then ((z.getD (a+1) 0).toNat:Int)==45 else false)=_ from c2]
  refine cond_intro (fun h1=> ?_) fun h1=> ?_
  ·obtain ⟨g1,g2⟩:=of_decide_eq_true h1
   have hd1:=drop_cons0 g1
   have ea2:addI .i64 ((a+1:Nat):Int) 1=((a+1+1:Nat):Int):=by rw [add64 (by omega) (by omega)]; rfl
   rw [ea2]
   refine key (a+1+1) _ (by omega) ?_ ?_
   ·rw [hd1,sgnS]
    rcases g2 with g2 | g2
    ·rw [if_neg (by rw [g2]; decide),if_pos (by rw [g2]; rfl)]
    ·rw [if_pos (by rw [g2]; rfl)]
   ·rw [hd1,sgnS]
    rcases g2 with g2 | g2
    ·rw [if_neg (by rw [g2]; decide),if_pos (by rw [g2]; rfl)]
     exact decide_eq_false fun h=>by rw [g2] at h; exact absurd h.2 (by decide)
    ·rw [if_pos (by rw [g2]; rfl)]
     exact decide_eq_true ⟨g1,g2⟩
  ·have h1:=of_decide_eq_false h1
   refine key (a+1) _ (by omega) ?_ ?_
   ·rcases Nat.lt_or_ge (a+1) z.length with g1 | g1
    ·rw [drop_cons0 g1,sgnS,if_neg (show ¬ z.getD (a+1) 0=45 from fun h=>h1 ⟨g1,.inr h⟩),if_neg (show ¬ z.getD (a+1) 0=43 from fun h=>h1 ⟨g1,.inl h⟩)]
    ·rw [List.drop_of_length_le g1]; rfl
   ·rcases Nat.lt_or_ge (a+1) z.length with g1 | g1
    ·rw [drop_cons0 g1,sgnS,if_neg (show ¬ z.getD (a+1) 0=45 from fun h=>h1 ⟨g1,.inr h⟩),if_neg (show ¬ z.getD (a+1) 0=43 from fun h=>h1 ⟨g1,.inl h⟩)]
     exact decide_eq_false fun h=>h1 ⟨h.1,.inr h.2⟩
    ·rw [List.drop_of_length_le g1]
     exact decide_eq_false fun h=>by omega
 ·have h:=of_decide_eq_false h
  refine rdEnd (z:=z) (n:=n) (q:=q) (e:=e) (a:=a) ?_
  rcases Nat.lt_or_ge a z.length with g | g
  ·rw [drop_cons0 g,rdE,if_neg (show ¬ (z.getD a 0=101∨z.getD a 0=69) from fun hc=>h ⟨g,hc⟩)] at hK
   rw [decide_eq_false (by omega),he]
   have e2:(q.length:Int) - f - 1=(q.length:Int) - f - 1+0:=by omega
   rw [e2]; exact hK
  ·rw [List.drop_of_length_le g,rdE] at hK
   rw [decide_eq_true (by omega),he]
   have e2:(q.length:Int) - f - 1=(q.length:Int) - f - 1+0:=by omega
   rw [e2]; exact hK
theorem rdFrac {a:Nat} (ha:a≤z.length) (hz:z.length≤1000) (hq:q.length≤1000) (hK:K (rdD (rdF n q (z.drop a)))) :
  At (En Tryz.f73) (fi Tryz.f73 K) [.code [1,1,1,1,1,1,1,0],.code [1,1,1,1,1,1,1,1]] (SXR z n q ((q.length:Int) - 1) a):=by
 have cE:=condB (a:=a) (n:=z.length) (c:=z.getD a 0) (k:=46) (by omega)
 have ea:addI .i64 (a:Int) 1=((a+1:Nat):Int):=by rw [add64 (by omega) (by omega)]; rfl
 refine runS_sound hmix _ _ _ (of_eq (nXRf z n q _ a K) fun _=> ?_)
 rw [Int.toNat_natCast,ea,Int.toNat_natCast]
 refine ⟨fun h=>⟨by omega,of_decide_eq_true h⟩,?_⟩
 rw [show (bif decide ((a:Int) < (z.length:Int)) then ((z.getD a 0).toNat:Int)==46 else false)=_ from cE]
 refine cond_intro (fun h=> ?_) fun h=> ?_
 ·obtain ⟨hl,hc⟩:=of_decide_eq_true h
  obtain ⟨t1,t2,t3⟩:=sp_take (z:=z) (a:=a+1) (by omega)
  rw [drop_cons0 hl,rdF,if_pos (by exact hc)] at hK
  refine ⟨PureW.mk (c126 z (a+1) (by omega) (by omega)),cond_intro (fun h1=>⟨trivial,?_⟩) fun h1=> ?_⟩
  ·have h1:(spanD (z.drop (a+1))).1=[]:=List.eq_nil_of_length_eq_zero (by simpa using h1)
   rw [if_pos h1] at hK; exact hK
  ·have h1:(spanD (z.drop (a+1))).1≠[]:=by intro h0; rw [h0] at h1; cases h1
   rw [if_neg h1] at hK
   have eb:addI .i64 ((a+1:Nat):Int) ((spanD (z.drop (a+1))).1.length:Int)=((a+1+(spanD (z.drop (a+1))).1.length:Nat):Int):=by rw [add64 (by omega) (by omega)]; rfl
   rw [eb,Int.toNat_natCast,t1]
   refine ⟨⟨by omega,by omega,by omega⟩,by unfold strM; omega,trivial,rdTail (f:=(spanD (z.drop (a+1))).1.length) t3 (by omega) (by rw [List.length_append]; omega) (by omega) (by rw [List.length_append]; omega) ?_⟩
   rw [t2]; exact hK
 ·have h:=of_decide_eq_false h
  refine rdTail (f:=0) ha (by omega) (by omega) (by omega) (by omega) ?_
  rcases Nat.lt_or_ge a z.length with g | g
  ·rw [drop_cons0 g,rdF,if_neg (show ¬ z.getD a 0=46 from fun hc=>h ⟨g,hc⟩)] at hK
   rw [drop_cons0 g]; exact hK
  ·rw [List.drop_of_length_le g,rdF] at hK
   rw [List.drop_of_length_le g]; exact hK
end
theorem c73 (z : Str) (hz : z.length ≤ 1000) : Pure PP 73 [.str z] (.tup [.agg [B (rdV (rdP z)).1.neg, .str (rdV (rdP z)).1.dig, I (rdV (rdP z)).1.e], B (rdV (rdP z)).2]) := by
  have hgoal : ∀ (K : D → Prop), K (rdD (rdP z)) → At (En Tryz.f73) (fi Tryz.f73 K) [.code []] ⟨argSlots 0 [.str z], .empty⟩ := fun K hK => by
    have start : ∀ (n : Bool) (a : Nat), a ≤ z.length → z.drop a = (sgnS z).2 → n = (sgnS z).1 → At (En Tryz.f73) (fi Tryz.f73 K) [.code [1, 1, 1, 1]] (SXR z n [] 0 a) := fun n a ha hd hn => by
      obtain ⟨t1, t2, t3⟩ := sp_take (z := z) (a := a) ha
      refine runS_sound hmix _ _ _ (of_eq (nXRb z n a K) ⟨PureW.mk (cDgI z a ha (by omega)), fun _ => ?_⟩)
      rw [Int.toNat_natCast]
      have eb : addI .i64 (a : Int) ((spanD (z.drop a)).1.length : Int) = ((a + (spanD (z.drop a)).1.length : Nat) : Int) := by rw [add64 (by omega) (by omega)]; rfl
      unfold rdP at hK
      rw [← hd, ← hn] at hK
      refine cond_intro (fun h => ⟨trivial, ?_⟩) fun h => ?_
      · have : z.length > 64 ∨ (spanD (z.drop a)).1 = [] := by
          cases h1 : (((spanD (z.drop a)).1.length : Int) == 0) with
          | true => exact .inr (List.eq_nil_of_length_eq_zero (by simpa using h1))
          | false =>
            rw [h1, cond_false] at h
            have := of_decide_eq_true h
            exact .inl (by omega)
        rw [if_pos this] at hK; exact hK
      · have hne : ¬ (z.length > 64 ∨ (spanD (z.drop a)).1 = []) := by
          rintro (h1 | h1)
          · cases h2 : (((spanD (z.drop a)).1.length : Int) == 0) <;> rw [h2] at h
            · rw [cond_false, decide_eq_true (by omega)] at h; cases h
            · cases h
          · rw [h1] at h; cases h
        rw [if_neg hne] at hK
        have hl0 : 0 < (spanD (z.drop a)).1.length := List.length_pos_iff.2 fun h0 => hne (.inr h0)
        rw [eb, Int.toNat_natCast, t1, sub64 (by omega) (by omega)]
        refine ⟨⟨by omega, by omega, by omega⟩, trivial, trivial, ?_⟩
        exact rdFrac t3 hz (by omega) (by rw [t2]; exact hK)
    refine runS_sound hmix _ _ _ (of_eq (nXR z K) ⟨trivial, fun _ => ⟨fun h => ⟨by omega, of_decide_eq_true h⟩, fun h => ⟨by omega, by rw [Bool.and_eq_true] at h; exact of_decide_eq_true h.1⟩, ?_⟩⟩)
    cases hzz : z with
    | nil =>
      rw [hzz] at start
      exact start false 0 (Nat.le_refl _) rfl rfl
    | cons c r =>
      rw [← hzz]
      have hg : z.getD 0 0 = c := by rw [hzz]; rfl
      have hl : 0 < z.length := by rw [hzz]; simp
      have c1 := condB2 (a := 0) (n := z.length) (c := z.getD 0 0) (k := 43) (l := 45) (by omega) (by omega)
      have c2 := beq_byte (z.getD 0 0) 45 (by omega)
      rw [show (bif decide ((z.length : Int) > 0) then bif ((z.getD 0 0).toNat : Int) == 43 then true else ((z.getD 0 0).toNat : Int) == 45 else false) = _ from c1, show (((z.getD 0 0).toNat : Int) == 45) = _ from c2]
      refine cond_intro (fun h => ?_) fun h => ?_
      · obtain ⟨_, g⟩ := of_decide_eq_true h
        refine ⟨⟨by omega, by omega⟩, trivial, start _ 1 (by omega) ?_ ?_⟩
        · rw [hzz, sgnS]
          rw [hg] at g
          rcases g with g | g
          · rw [if_neg (by rw [g]; decide), if_pos (by rw [g]; rfl)]; rfl
          · rw [if_pos (by rw [g]; rfl)]; rfl
        · rw [hg, hzz, sgnS]
          rw [hg] at g
          rcases g with g | g
          · rw [if_neg (by rw [g]; decide), if_pos (by rw [g]; rfl)]
            exact decide_eq_false (by rw [g]; decide)
          · rw [if_pos (by rw [g]; rfl)]
            exact decide_eq_true g
      · have g := of_decide_eq_false h
        rw [hg] at g
        refine start _ 0 (Nat.zero_le _) ?_ ?_
        · rw [List.drop_zero]
          conv => rhs; rw [hzz]
          rw [sgnS, if_neg (show ¬ c = 45 from fun h => g ⟨hl, .inr h⟩), if_neg (show ¬ c = 43 from fun h => g ⟨hl, .inl h⟩)]; exact hzz
        · rw [hzz, sgnS, if_neg (show ¬ c = 45 from fun h => g ⟨hl, .inr h⟩), if_neg (show ¬ c = 43 from fun h => g ⟨hl, .inl h⟩)]
  exact pu F73 (by kernel_rfl) (lv := nolv) (N := 0) (sc := fun _ _ => none) (by unfold runS; exact hgoal _ (Wk.refl _))
end Go.Proofs.YtiekphbkomddfaaGreatDoor.S1
namespace Go.Proofs.YtiekphbkomddfaaGreatDoor.S1
open Go Go.Ab Go.Proofs
-- nolay
attribute [local instance] LT10
theorem F46:OkF 46 Tryz.f46:=⟨by kernel_rfl,by kernel_rfl,by kernel_rfl⟩
def lv46:List (List Nat × List Nat):=[]
noncomputable def nXPs (z:Str):List Nat→Nat→Option Ans:=scrAt [([1,0],1,Ans.pure [.str z] (.tup [.agg [B (rdV (rdP z)).fst.neg,.str (rdV (rdP z)).fst.dig,I (rdV (rdP z)).fst.e],B (rdV (rdP z)).snd])),([1,1,1,0],1,Ans.pure [(rdV (rdP z)).fst.d] (.tup [.str (txR (trimF (rdV (rdP z)).fst.nm)).fst,I (txR (trimF (rdV (rdP z)).fst.nm)).snd]))]
theorem nXP (z:Str) (K:D→Prop):runS (En Tryz.f46) (fi Tryz.f46 K) (nXPs z) lv46 200 [.code []] ⟨argSlots 0 [.str z],.empty⟩ =
 (PQ PP 73 [.str z] (.tup [.agg [B (rdV (rdP z)).fst.neg,.str (rdV (rdP z)).fst.dig,I (rdV (rdP z)).fst.e],B (rdV (rdP z)).snd])∧True∧bif !(rdV (rdP z)).snd then K (.tup [.str {data:= #[]:ByteArray}.data.toList,I 3]) else PQ PP 74 [(rdV (rdP z)).fst.d] (.tup [.str (txR (trimF (rdV (rdP z)).fst.nm)).fst,I (txR (trimF (rdV (rdP z)).fst.nm)).snd])∧K (.tup [.str (txR (trimF (rdV (rdP z)).fst.nm)).fst,I (txR (trimF (rdV (rdP z)).fst.nm)).snd])):=by kernel_rfl
noncomputable def paV (z:Str):Str × Int:=bif (rdV (rdP z)).2 then txR (trimF (rdV (rdP z)).1.nm) else ([],3)
theorem F28:OkF 28 Tryz.f28:=⟨by kernel_rfl,by kernel_rfl,by kernel_rfl⟩
def lv28:List (List Nat × List Nat):=[]
noncomputable def nXVs (z:Str):List Nat→Nat→Option Ans:=scrAt [([1,0],1,Ans.pure [.str z] (.tup [.str (paV z).fst,I (paV z).snd]))]
theorem nXV (z:Str) (K:D→Prop):runS (En Tryz.f28) (fi Tryz.f28 K) (nXVs z) lv28 200 [.code []] ⟨argSlots 0 [.str z],.empty⟩ =
 (PQ PP 46 [.str z] (.tup [.str (paV z).fst,I (paV z).snd])∧K (B (bif (paV z).snd==0 then (paV z).fst==z else false))):=by kernel_rfl
end Go.Proofs.YtiekphbkomddfaaGreatDoor.S1
namespace Go.Proofs.YtiekphbkomddfaaGreatDoor.S1
open Go Go.Ab Go.Proofs
-- nolay
attribute [local instance] LT10
theorem rdV_bd (z : Str) : -1000000000 ≤ (rdV (rdP z)).1.e ∧ (rdV (rdP z)).1.e ≤ 1000000000 ∧ (rdV (rdP z)).1.dig.length ≤ 64 := by
  cases hr : rdP z with
  | none => exact ⟨by decide, by decide, by decide⟩
  | some x =>
    obtain ⟨_, _, r3, r4⟩ := rdP_ok hr
    have hc : expV capR x.ed ≤ 100000 := expV_cap capR x.ed
    have h1 : -100000 ≤ x.e capR ∧ x.e capR ≤ 100000 := by unfold Rd.e; split <;> omega
    show _ ≤ (x.dig.length : Int) - x.fr - 1 + x.e capR ∧ (x.dig.length : Int) - x.fr - 1 + x.e capR ≤ _ ∧ x.dig.length ≤ 64
    omega
theorem rdV_nm {z:Str} {x:Rd} (h:rdP z=some x):(rdV (rdP z)).1.nm=x.nm capR∧(rdV (rdP z)).2=x.ok:=by
 rw [h]
 refine ⟨?_,rfl⟩
 show Nm.mk x.neg x.dig ((x.dig.length:Int) - x.fr - 1+x.e capR+1 - x.dig.length)=Nm.mk x.neg x.dig (x.e capR - x.fr)
 congr 1; omega
theorem c46 (z:Str) (hz:z.length≤1000):Pure PP 46 [.str z] (.tup [.str (paV z).1,I (paV z).2]):=by
 obtain ⟨b1,b2,b3⟩:=rdV_bd z
 refine pu F46 (by kernel_rfl) (of_eq (nXP z _) ⟨PureW.mk (c73 z hz),trivial,cond_intro (fun h=> ?_) fun h=>⟨PureW.mk (c74 _ b1 b2 (by omega)),?_⟩⟩)
 ·have h:(rdV (rdP z)).2=false:=by simpa using h
  unfold paV; rw [h]; exact Wk.refl _
 ·have h:(rdV (rdP z)).2=true:=by simpa using h
  unfold paV; rw [h]; exact Wk.refl _
theorem paV_b (z : Str) : (bif (paV z).2 == 0 then (paV z).1 == z else false) = canB capR z := by
  unfold canB
  cases hr : rdP z with
  | none => unfold paV; rw [hr]; rfl
  | some x =>
    obtain ⟨h1, h2⟩ := rdV_nm hr
    unfold paV
    rw [h1, h2]
    show _ = (x.ok && decide (textF (trimF (x.nm capR)) = some z))
    cases x.ok with
    | false => rfl
    | true =>
      rw [cond_true, Bool.true_and]
      unfold txR
      cases textF (trimF (x.nm capR)) with
      | none => rfl
      | some w =>
        show (w == z) = decide (some w = some z)
        rw [Bool.eq_iff_iff]; simp
theorem c28 (z:Str) (hz:z.length≤1000):Pure PP 28 [.str z] (B (canG z).2):=by
 refine pu F28 (by kernel_rfl) (of_eq (nXV z _) ⟨PureW.mk (c46 z hz),?_⟩)
 rw [paV_b,(canG_b z).1,canB_eq (c1:=capC) (c2:=capR) (by decide) (by decide)]; exact Wk.refl _
end Go.Proofs.YtiekphbkomddfaaGreatDoor.S1
