/- CompareJitter: whatever wave, signal, shifts and time come in, the law returns true, and the arguments read as before. Conditions: none. The row lists tables of the library, tied to its text; the proof reads internal/strconv.uint64pow10. -/
import Derived.Test.YtiekphbkomddfaaGreatDoorCJI8
import Derived.Test.YtiekphbkomddfaaGreatDoorCards
import Derived.Test.YtiekphbkomddfaaGreatDoorTie
import Derived.Lay
import Derived.LaidSub
import Derived.MakeChecks
import Derived.Lib.LaidTab
namespace Go.Proofs.YtiekphbkomddfaaGreatDoor
open Go Go.Ab Go.Proofs Go.Proofs.YtiekphbkomddfaaGreatDoor.S1
open Go.ChangeShapes Go.WideShapes Go.ChangeAt Go.RowKit Go.Joins

attribute [local instance] w7
theorem mf:(Rows.compareJitterRow.laid.filter fun x=>x.1 == "internal/strconv.uint64pow10")=[("internal/strconv.uint64pow10",Lib.tabData .u64 Lib.pow10Tab)]:=by rfl
theorem zi{W:World}(h:laidMetH PP Rows.compareJitterRow.laid W) : @LayOk w7 (gw W) W:=by
 rw[MakeChecks.laidMetH_plain _ _ _ (by kernel_rfl)]at h
 have h:=h.filter fun x=>x.1 == "internal/strconv.uint64pow10"
 rw[mf]at h
 refine qi9 (Lib.tabIs_of_head (t:=241) (e:=167) (n:=20) qb3 (by kernel_rfl) (by kernel_rfl) (by kernel_rfl) (by kernel_rfl) (by kernel_rfl) h) fun b cs T fz i v h1 h2=> ?_
 show W.cell? ⟨b,i,none⟩=some v
 simp only[World.cell?,h1]
 exact h2
theorem qhs{P:Program}{w:World}{r:Reach}{base:Nat}{t:TypeId}{v:Value}(ht:P.underlying t=some (.int .u8))(h:Value.okWide P w r base t v):∃n,v = .int .u8 n/\0<=n:=by
 simp only[Value.okWide,ht,Cell.okWide]at h
 cases v <;> simp_all[Cell.ok]
 first|exact h.1|exact h.2.1|exact h.2|omega
set_option maxRecDepth 100000 in
theorem gl(os:Os)(started:os.Started)(H:Type)(enc:TypeId×Value->H) :
  ReturnsInHanded {} Tryz.checked os 6 .any (fun w args=>(Rows.compareJitterSpec.pre enc Tryz.prog Tryz.f6 [] false w args/\laidMetH Tryz.prog Rows.compareJitterRow.laid w)/\sizedMet enc Tryz.prog Tryz.f6 (OpenSpec.ofChange Rows.compareJitterSpec) false w args) (Rows.compareJitterSpec.post enc Tryz.prog Tryz.f6 false true false false):=by
 refine returnsInHanded_of_change_and (C:=Tryz.checked) (X:=fun w _=>laidMetH Tryz.prog Rows.compareJitterRow.laid w) (fun _ _ _ hh h=>h.of_heap hh) own started (by kernel_rfl) Tryz.func6
  (ChangeSpec.witness_shaped (enc:=enc) (C:=Tryz.checked) (os:=os) (X:=fun w _=>laidMetH Tryz.prog Rows.compareJitterRow.laid w) false (World.laidAll Tryz.prog os Rows.compareJitterRow.laid) #[.agg #[.slice none 0 0,.slice none 0 0,.int .i64 0],.int .i64 0,.slice none 0 0,.int .u8 0] 20 (World.laidAll_os _ _ _)
   (World.shaped_of_ZipB (by kernel_rfl) (by kernel_rfl)) (by kernel_rfl) (by kernel_rfl) (by kernel_rfl)
   (by rw[MakeChecks.laidMetH_plain _ _ _ (by kernel_rfl)];exact laidMet_laidAll _ (by kernel_rfl) (by kernel_rfl))) ?_
 intro W base args ds gs before hval hW hx1 hx2 hx3 hx4
 have hL:LayOk (gw W) W:=by first|exact zi hx1|exact zi hx2|exact zi hx3|exact zi hx4
 have hval':∀(j:Nat) t v,Tryz.f6.params[j]? = some t->args[j]? = some v->Value.okWide Tryz.prog W .any base t v:=hval
 rw[Tryz.params6]at hval'
 have hW':=hW
 obtain⟨p,q,hA,hV,_,_,_⟩:=hW
 rw[Tryz.params6]at hA
 obtain⟨v0,r0,d0,e0,_,_,ha0,rfl,t0,hA⟩:=ko hA
 obtain⟨v1,r1,d1,e1,_,_,rfl,rfl,t1,hA⟩:=ko hA
 obtain⟨v2,r2,d2,e2,_,_,rfl,rfl,t2,hA⟩:=ko hA
 obtain⟨v3,r3,d3,e3,_,_,rfl,rfl,t3,hA⟩:=ko hA
 obtain⟨rfl,rfl⟩:=qc8 hA
 have hargs:args = #[v0,v1,v2,v3]:=by cases args;simpa using ha0
 subst hargs
 obtain⟨x0,_,r0⟩:=Reads.argStruct (encF:=fun x:Wv=>[L x.sig 3 Sig.d,L x.gap 2 Iv.d,I x.fin]) rWv Tryz.underlying29 (hval' 0 29 v0 rfl rfl) t0
 obtain⟨n1,rfl⟩:=okWide_int Tryz.underlying3 (hval' 1 3 v1 rfl rfl)
 have hs2:v2.cells = #[v2]:=by
  obtain⟨_,_,_,hv⟩:=okWide_slice Tryz.underlying44 (hval' 2 44 v2 rfl rfl)
  subst hv;rfl
 obtain⟨x2,_,r2⟩:=Reads.argOne q4b (fun _=>rfl) hs2 t2
 obtain⟨n3,rfl,hn3⟩:=qhs Tryz.underlying5 (hval' 3 5 v3 rfl rfl)
 refine((c6 x0 n1 x2 n3 hn3).calls (gw W) W [v0,.int .i64 n1,v2,.int .u8 n3] hL (qj0 W) ?_).mono fun e w' ⟨x,σ',he,hx,_,_,_,hb⟩=> ?_
 ·simp only[Rs]
  exact⟨_,_,rfl,r0,_,_,rfl,by simp only[R],_,_,rfl,r2,_,_,rfl,by simp only[R],rfl⟩
 ·simp only[R]at hx
  subst hx
  refine⟨_,he,qir hW' laid ?_ rfl Tryz.underlying4 rfl (fun ds' h'=> ?_) hb⟩
  ·intro t ht
   rw[Tryz.params6]at ht
   simp at ht
   rcases ht with rfl|rfl|rfl|rfl <;> exact⟨by kernel_rfl,of_decide_eq_true (by kernel_rfl)⟩
  ·rw[Tryz.params6]at h'
   obtain⟨_,_,_,_,_,_,_,rfl,_,h'⟩:=ko h'
   obtain⟨_,_,_,_,_,_,_,rfl,_,h'⟩:=ko h'
   obtain⟨_,_,_,_,_,_,_,rfl,_,h'⟩:=ko h'
   obtain⟨_,_,_,_,_,_,_,rfl,_,h'⟩:=ko h'
   obtain⟨_,rfl⟩:=qc8 h'
   rfl
theorem mg:Rows.CompareJitterSaid :=
 OpenClaim.holds_of_wide 6 Tryz.f6 rfl rfl rfl rfl rfl rfl rfl ⟨rfl,rfl,rfl,rfl,rfl⟩ rfl rfl rfl rfl rfl (by kernel_rfl) Tryz.func6 (by kernel_rfl)
  (of_decide_eq_true (by kernel_rfl)) (by unfold Func.isWrapper;rw[if_neg (by decide +kernel)];exact⟨rfl,rfl⟩)
  (fun os started H enc _=>gl os started H enc)
theorem b8 (f:FuncId) (fn:Func) (hf:Tryz.pinned.checked.prog.funcNamed "wavestore/wavestorelaw58.CompareJitter" = some f) (hfn:Tryz.pinned.checked.prog.funcs[f]? = some fn) :
  false=Tryz.pinned.checked.prog.looks []/\∀(j:Nat) t,fn.params[j]? = some t->Tryz.pinned.checked.prog.wantsStandIn t=false:=by
 obtain rfl:f=6:=Option.some.inj ((show Tryz.prog.funcNamed "wavestore/wavestorelaw58.CompareJitter" = some 6 by kernel_rfl).symm.trans hf) |>.symm
 obtain rfl:fn=Tryz.f6:=(Option.some.inj (Tryz.func6.symm.trans hfn)).symm
 refine⟨by kernel_rfl,fun j t ht=> ?_⟩
 rw[Tryz.params6]at ht
 have hm:t∈[29,3,44,5]:=by
  have:=Array.mem_of_getElem? ht
  simpa using this
 have hall:([29,3,44,5].all fun u=> !Tryz.prog.wantsStandIn u)=true:=by kernel_rfl
 exact(show Tryz.prog.wantsStandIn t=false by simpa using List.all_eq_true.1 hall t hm)
theorem holdsCompareJitter:Rows.CompareJitterCardSaid :=
 Claim7.holds_tied_plain_at .later [] _ _ _ _ mg (fun _ h=>by cases h) (by kernel_rfl) (fun _ h=>by cases h) compareJitter_row_tie rfl ⟨rfl,rfl⟩ (by kernel_rfl) rfl b8 (by kernel_rfl)
#print axioms holdsCompareJitter
end Go.Proofs.YtiekphbkomddfaaGreatDoor
