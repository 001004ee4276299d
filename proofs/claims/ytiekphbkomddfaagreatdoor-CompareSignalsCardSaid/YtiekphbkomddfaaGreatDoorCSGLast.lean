/- CompareSignals: whatever waves, signals and tolerance come in, the law returns true, and the arguments read as before. Conditions: none. The row lists tables of the library, tied to its text; the proof reads internal/strconv.uint64pow10. -/
import Derived.Test.YtiekphbkomddfaaGreatDoorCSG9
import Derived.Test.YtiekphbkomddfaaGreatDoorCards
import Derived.Test.YtiekphbkomddfaaGreatDoorTie
import Derived.Lay
import Derived.LaidSub
import Derived.MakeChecks
import Derived.Lib.LaidTab
namespace Go.Proofs.YtiekphbkomddfaaGreatDoor
open Go Go.Ab Go.Proofs Go.Proofs.YtiekphbkomddfaaGreatDoor.S1
open Go.ChangeShapes Go.WideShapes Go.ChangeAt Go.RowKit Go.Joins
attribute [local instance] qda
theorem mo:(Rows.compareSignalsRow.laid.filter fun x=>x.1 == "internal/strconv.uint64pow10")=[("internal/strconv.uint64pow10",Lib.tabData .u64 Lib.pow10Tab)]:=by rfl
theorem zh{W:World}(h:laidMetH PP Rows.compareSignalsRow.laid W) : @LayOk qda (gw W) W:=by
 rw[MakeChecks.laidMetH_plain _ _ _ (by kernel_rfl)]at h
 have h:=h.filter fun x=>x.1 == "internal/strconv.uint64pow10"
 rw[mo]at h
 refine qkt (Lib.tabIs_of_head (t:=241) (e:=167) (n:=20) qc8 (by kernel_rfl) (by kernel_rfl) (by kernel_rfl) (by kernel_rfl) (by kernel_rfl) h) fun b cs T fz i v h1 h2=> ?_
 show W.cell? ⟨b,i,none⟩=some v
 simp only[World.cell?,h1]
 exact h2
set_option maxRecDepth 100000 in
theorem gn(os:Os)(started:os.Started)(H:Type)(enc:TypeId×Value->H) :
  ReturnsInHanded {} Tryz.checked os 4 .any (fun w args=>(Rows.compareSignalsSpec.pre enc Tryz.prog Tryz.f4 [] false w args/\laidMetH Tryz.prog Rows.compareSignalsRow.laid w)/\sizedMet enc Tryz.prog Tryz.f4 (OpenSpec.ofChange Rows.compareSignalsSpec) false w args) (Rows.compareSignalsSpec.post enc Tryz.prog Tryz.f4 false true false false):=by
 refine returnsInHanded_of_change_and (C:=Tryz.checked) (X:=fun w _=>laidMetH Tryz.prog Rows.compareSignalsRow.laid w) (fun _ _ _ hh h=>h.of_heap hh) own started (by kernel_rfl) Tryz.func4
  (ChangeSpec.witness_shaped (enc:=enc) (C:=Tryz.checked) (os:=os) (X:=fun w _=>laidMetH Tryz.prog Rows.compareSignalsRow.laid w) false (World.laidAll Tryz.prog os Rows.compareSignalsRow.laid) #[.agg #[.slice none 0 0,.slice none 0 0,.int .i64 0],.agg #[.slice none 0 0,.slice none 0 0,.int .i64 0],.int .i64 0,.int .i64 0,.agg #[.int .i64 0,.string ⟨#[]⟩,.bool false]] 20 (World.laidAll_os _ _ _)
   (World.shaped_of_ZipB (by kernel_rfl) (by kernel_rfl)) (by kernel_rfl) (by kernel_rfl) (by kernel_rfl)
   (by rw[MakeChecks.laidMetH_plain _ _ _ (by kernel_rfl)];exact laidMet_laidAll _ (by kernel_rfl) (by kernel_rfl))) ?_
 intro W base args ds gs before hval hW hx1 hx2 hx3 hx4
 have hL:LayOk (gw W) W:=by first|exact zh hx1|exact zh hx2|exact zh hx3|exact zh hx4
 have hval':∀(j:Nat) t v,Tryz.f4.params[j]? = some t->args[j]? = some v->Value.okWide Tryz.prog W .any base t v:=hval
 rw[Tryz.params4]at hval'
 have hW':=hW
 obtain⟨p,q,hA,hV,_,_,_⟩:=hW
 rw[Tryz.params4]at hA
 obtain⟨v0,r0,d0,e0,_,_,ha0,rfl,t0,hA⟩:=vn hA
 obtain⟨v1,r1,d1,e1,_,_,rfl,rfl,t1,hA⟩:=vn hA
 obtain⟨v2,r2,d2,e2,_,_,rfl,rfl,t2,hA⟩:=vn hA
 obtain⟨v3,r3,d3,e3,_,_,rfl,rfl,t3,hA⟩:=vn hA
 obtain⟨v4,r4,d4,e4,_,_,rfl,rfl,t4,hA⟩:=vn hA
 obtain⟨rfl,rfl⟩:=qef hA
 have hargs:args = #[v0,v1,v2,v3,v4]:=by cases args;simpa using ha0
 subst hargs
 obtain⟨x0,_,r0⟩:=Reads.argStruct (encF:=fun x:Wv=>[L x.sig 3 Sig.d,L x.gap 2 Iv.d,I x.fin]) rWv Tryz.underlying29 (hval' 0 29 v0 rfl rfl) t0
 obtain⟨x1,_,r1⟩:=Reads.argStruct (encF:=fun x:Wv=>[L x.sig 3 Sig.d,L x.gap 2 Iv.d,I x.fin]) rWv Tryz.underlying29 (hval' 1 29 v1 rfl rfl) t1
 obtain⟨n2,rfl⟩:=okWide_int Tryz.underlying3 (hval' 2 3 v2 rfl rfl)
 obtain⟨n3,rfl⟩:=okWide_int Tryz.underlying3 (hval' 3 3 v3 rfl rfl)
 obtain⟨x4,_,r4⟩:=Reads.argStruct (encF:=fun x:Tol=>[I x.time,.str x.val,B x.unk]) q60 Tryz.underlying23 (hval' 4 23 v4 rfl rfl) t4
 refine((c4 x0 x1 n2 n3 x4).calls (gw W) W [v0,v1,.int .i64 n2,.int .i64 n3,v4] hL (qlp W) ?_).mono fun e w' ⟨x,σ',he,hx,_,_,_,hb⟩=> ?_
 ·simp only[Rs]
  exact⟨_,_,rfl,r0,_,_,rfl,r1,_,_,rfl,by simp only[R],_,_,rfl,by simp only[R],_,_,rfl,r4,rfl⟩
 ·simp only[R]at hx
  subst hx
  refine⟨_,he,qj9 hW' laid ?_ rfl Tryz.underlying4 rfl (fun ds' h'=> ?_) hb⟩
  ·intro t ht
   rw[Tryz.params4]at ht
   simp at ht
   rcases ht with rfl|rfl|rfl <;> exact⟨by kernel_rfl,of_decide_eq_true (by kernel_rfl)⟩
  ·rw[Tryz.params4]at h'
   obtain⟨_,_,_,_,_,_,_,rfl,_,h'⟩:=vn h'
   obtain⟨_,_,_,_,_,_,_,rfl,_,h'⟩:=vn h'
   obtain⟨_,_,_,_,_,_,_,rfl,_,h'⟩:=vn h'
   obtain⟨_,_,_,_,_,_,_,rfl,_,h'⟩:=vn h'
   obtain⟨_,_,_,_,_,_,_,rfl,_,h'⟩:=vn h'
   obtain⟨_,rfl⟩:=qef h'
   rfl
theorem mq:Rows.CompareSignalsSaid :=
 OpenClaim.holds_of_wide 4 Tryz.f4 rfl rfl rfl rfl rfl rfl rfl ⟨rfl,rfl,rfl,rfl,rfl⟩ rfl rfl rfl rfl rfl (by kernel_rfl) Tryz.func4 (by kernel_rfl)
  (of_decide_eq_true (by kernel_rfl)) (by unfold Func.isWrapper;rw[if_neg (by decide +kernel)];exact⟨rfl,rfl⟩)
  (fun os started H enc _=>gn os started H enc)
theorem bh (f:FuncId) (fn:Func) (hf:Tryz.pinned.checked.prog.funcNamed "wavestore/wavestorelaw58.CompareSignals" = some f) (hfn:Tryz.pinned.checked.prog.funcs[f]? = some fn) :
  false=Tryz.pinned.checked.prog.looks []/\∀(j:Nat) t,fn.params[j]? = some t->Tryz.pinned.checked.prog.wantsStandIn t=false:=by
 obtain rfl:f=4:=Option.some.inj ((show Tryz.prog.funcNamed "wavestore/wavestorelaw58.CompareSignals" = some 4 by kernel_rfl).symm.trans hf) |>.symm
 obtain rfl:fn=Tryz.f4:=(Option.some.inj (Tryz.func4.symm.trans hfn)).symm
 refine⟨by kernel_rfl,fun j t ht=> ?_⟩
 rw[Tryz.params4]at ht
 have hm:t∈[29,3,23]:=by
  have:=Array.mem_of_getElem? ht
  simpa using this
 have hall:([29,3,23].all fun u=> !Tryz.prog.wantsStandIn u)=true:=by kernel_rfl
 exact(show Tryz.prog.wantsStandIn t=false by simpa using List.all_eq_true.1 hall t hm)
theorem holdsCompareSignals:Rows.CompareSignalsCardSaid :=
 Claim7.holds_tied_plain_at .later [] _ _ _ _ mq (fun _ h=>by cases h) (by kernel_rfl) (fun _ h=>by cases h) compareSignals_row_tie rfl ⟨rfl,rfl⟩ (by kernel_rfl) rfl bh (by kernel_rfl)
#print axioms holdsCompareSignals
end Go.Proofs.YtiekphbkomddfaaGreatDoor
