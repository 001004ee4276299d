/- CompareSame: whatever kind, values and tolerance come in, the law returns true, and the arguments read as before. Conditions: none. The row lists tables of the library, tied to its text; the proof reads internal/strconv.uint64pow10. -/
import Derived.Test.YtiekphbkomddfaaGreatDoorCSA9
import Derived.Test.YtiekphbkomddfaaGreatDoorCards
import Derived.Test.YtiekphbkomddfaaGreatDoorTie
import Derived.Lay
import Derived.LaidSub
import Derived.MakeChecks
import Derived.Lib.LaidTab
namespace Go.Proofs.YtiekphbkomddfaaGreatDoor
open Go Go.Ab Go.Proofs Go.Proofs.YtiekphbkomddfaaGreatDoor.S1
open Go.ChangeShapes Go.WideShapes Go.ChangeAt Go.RowKit Go.Joins

attribute [local instance] yh
theorem ln:(Rows.compareSameRow.laid.filter fun x=>x.1 == "internal/strconv.uint64pow10")=[("internal/strconv.uint64pow10",Lib.tabData .u64 Lib.pow10Tab)]:=by rfl
theorem vj{W:World}(h:laidMetH PP Rows.compareSameRow.laid W) : @LayOk yh (gw W) W:=by
 rw[MakeChecks.laidMetH_plain _ _ _ (by kernel_rfl)]at h
 have h:=h.filter fun x=>x.1 == "internal/strconv.uint64pow10"
 rw[ln]at h
 refine qjm (Lib.tabIs_of_head (t:=241) (e:=167) (n:=20) qcc (by kernel_rfl) (by kernel_rfl) (by kernel_rfl) (by kernel_rfl) (by kernel_rfl) h) fun b cs T fz i v h1 h2=> ?_
 show W.cell? ⟨b,i,none⟩=some v
 simp only[World.cell?,h1]
 exact h2
set_option maxRecDepth 100000 in
theorem ml(os:Os)(started:os.Started)(H:Type)(enc:TypeId×Value->H) :
  ReturnsInHanded {} Tryz.checked os 3 .any (fun w args=>(Rows.compareSameSpec.pre enc Tryz.prog Tryz.f3 [] false w args/\laidMetH Tryz.prog Rows.compareSameRow.laid w)/\sizedMet enc Tryz.prog Tryz.f3 (OpenSpec.ofChange Rows.compareSameSpec) false w args) (Rows.compareSameSpec.post enc Tryz.prog Tryz.f3 false true false false):=by
 refine returnsInHanded_of_change_and (C:=Tryz.checked) (X:=fun w _=>laidMetH Tryz.prog Rows.compareSameRow.laid w) (fun _ _ _ hh h=>h.of_heap hh) own started (by kernel_rfl) Tryz.func3
  (ChangeSpec.witness_shaped (enc:=enc) (C:=Tryz.checked) (os:=os) (X:=fun w _=>laidMetH Tryz.prog Rows.compareSameRow.laid w) false (World.laidAll Tryz.prog os Rows.compareSameRow.laid) #[.int .i64 0,.string ⟨#[]⟩,.string ⟨#[]⟩,.agg #[.int .i64 0,.string ⟨#[]⟩,.bool false]] 20 (World.laidAll_os _ _ _)
   (World.shaped_of_ZipB (by kernel_rfl) (by kernel_rfl)) (by kernel_rfl) (by kernel_rfl) (by kernel_rfl)
   (by rw[MakeChecks.laidMetH_plain _ _ _ (by kernel_rfl)];exact laidMet_laidAll _ (by kernel_rfl) (by kernel_rfl))) ?_
 intro W base args ds gs before hval hW hx1 hx2 hx3 hx4
 have hL:LayOk (gw W) W:=by first|exact vj hx1|exact vj hx2|exact vj hx3|exact vj hx4
 have hval':∀(j:Nat) t v,Tryz.f3.params[j]? = some t->args[j]? = some v->Value.okWide Tryz.prog W .any base t v:=hval
 rw[Tryz.params3]at hval'
 have hW':=hW
 obtain⟨p,q,hA,hV,_,_,_⟩:=hW
 rw[Tryz.params3]at hA
 obtain⟨v0,r0,d0,e0,_,_,ha0,rfl,t0,hA⟩:=kz hA
 obtain⟨v1,r1,d1,e1,_,_,rfl,rfl,t1,hA⟩:=kz hA
 obtain⟨v2,r2,d2,e2,_,_,rfl,rfl,t2,hA⟩:=kz hA
 obtain⟨v3,r3,d3,e3,_,_,rfl,rfl,t3,hA⟩:=kz hA
 obtain⟨rfl,rfl⟩:=qdh hA
 have hargs:args = #[v0,v1,v2,v3]:=by cases args;simpa using ha0
 subst hargs
 obtain⟨n0,rfl⟩:=okWide_int Tryz.underlying3 (hval' 0 3 v0 rfl rfl)
 have hs1:v1.cells = #[v1]:=by
  obtain⟨_,hv⟩:=okWide_string Tryz.underlying9 (hval' 1 9 v1 rfl rfl)
  subst hv;rfl
 obtain⟨x1,_,r1⟩:=Reads.argOne qqs (fun _=>rfl) hs1 t1
 have hs2:v2.cells = #[v2]:=by
  obtain⟨_,hv⟩:=okWide_string Tryz.underlying9 (hval' 2 9 v2 rfl rfl)
  subst hv;rfl
 obtain⟨x2,_,r2⟩:=Reads.argOne qqs (fun _=>rfl) hs2 t2
 obtain⟨x3,_,r3⟩:=Reads.argStruct (encF:=fun x:Tol=>[I x.time,.str x.val,B x.unk]) q3n Tryz.underlying23 (hval' 3 23 v3 rfl rfl) t3
 refine((c3 n0 x1 x2 x3).calls (gw W) W [.int .i64 n0,v1,v2,v3] hL (qj8 W) ?_).mono fun e w' ⟨x,σ',he,hx,_,_,_,hb⟩=> ?_
 ·simp only[Rs]
  exact⟨_,_,rfl,by simp only[R],_,_,rfl,r1,_,_,rfl,r2,_,_,rfl,r3,rfl⟩
 ·simp only[R]at hx
  subst hx
  refine⟨_,he,qi2 hW' laid ?_ rfl Tryz.underlying4 rfl (fun ds' h'=> ?_) hb⟩
  ·intro t ht
   rw[Tryz.params3]at ht
   simp at ht
   rcases ht with rfl|rfl|rfl <;> exact⟨by kernel_rfl,of_decide_eq_true (by kernel_rfl)⟩
  ·rw[Tryz.params3]at h'
   obtain⟨_,_,_,_,_,_,_,rfl,_,h'⟩:=kz h'
   obtain⟨_,_,_,_,_,_,_,rfl,_,h'⟩:=kz h'
   obtain⟨_,_,_,_,_,_,_,rfl,_,h'⟩:=kz h'
   obtain⟨_,_,_,_,_,_,_,rfl,_,h'⟩:=kz h'
   obtain⟨_,rfl⟩:=qdh h'
   rfl
theorem lr:Rows.CompareSameSaid :=
 OpenClaim.holds_of_wide 3 Tryz.f3 rfl rfl rfl rfl rfl rfl rfl ⟨rfl,rfl,rfl,rfl,rfl⟩ rfl rfl rfl rfl rfl (by kernel_rfl) Tryz.func3 (by kernel_rfl)
  (of_decide_eq_true (by kernel_rfl)) (by unfold Func.isWrapper;rw[if_neg (by decide +kernel)];exact⟨rfl,rfl⟩)
  (fun os started H enc _=>ml os started H enc)
theorem cp (f:FuncId) (fn:Func) (hf:Tryz.pinned.checked.prog.funcNamed "wavestore/wavestorelaw58.CompareSame" = some f) (hfn:Tryz.pinned.checked.prog.funcs[f]? = some fn) :
  false=Tryz.pinned.checked.prog.looks []/\∀(j:Nat) t,fn.params[j]? = some t->Tryz.pinned.checked.prog.wantsStandIn t=false:=by
 obtain rfl:f=3:=Option.some.inj ((show Tryz.prog.funcNamed "wavestore/wavestorelaw58.CompareSame" = some 3 by kernel_rfl).symm.trans hf) |>.symm
 obtain rfl:fn=Tryz.f3:=(Option.some.inj (Tryz.func3.symm.trans hfn)).symm
 refine⟨by kernel_rfl,fun j t ht=> ?_⟩
 rw[Tryz.params3]at ht
 have hm:t∈[3,9,23]:=by
  have:=Array.mem_of_getElem? ht
  simpa using this
 have hall:([3,9,23].all fun u=> !Tryz.prog.wantsStandIn u)=true:=by kernel_rfl
 exact(show Tryz.prog.wantsStandIn t=false by simpa using List.all_eq_true.1 hall t hm)
theorem holdsCompareSame:Rows.CompareSameCardSaid :=
 Claim7.holds_tied_plain_at .later [] _ _ _ _ lr (fun _ h=>by cases h) (by kernel_rfl) (fun _ h=>by cases h) compareSame_row_tie rfl ⟨rfl,rfl⟩ (by kernel_rfl) rfl cp (by kernel_rfl)
#print axioms holdsCompareSame
end Go.Proofs.YtiekphbkomddfaaGreatDoor
