/- Decimals: scanning. -/
import Derived.Test.YtiekphbkomddfaaGreatDoorCRD3
import Derived.Lib.Bytealg
import Derived.Lib.BytesEntry
import Derived.Ground.GgsProg
import Derived.Shelf.GgSortFunc.Tiny
import Derived.Shelf.SlSortFuncK.WholeK
import Derived.Deep.QuietTactic
import Derived.Lib.SlicesCompact
namespace Go.Proofs.YtiekphbkomddfaaGreatDoor.S1
open Go Go.Ab Go.Proofs
theorem oneNil {e q:Str} {a:Int} (h:q.drop a.toNat=[]) (h0:0≤a):oneB e q a=false:=by
 have:=List.drop_eq_nil_iff.1 h
 unfold oneB
 rw [decide_eq_false (by omega),Bool.false_and]
theorem oneCons {e q r:Str} {c:UInt8} {a:Int} (h:q.drop a.toNat=c::r) (h0:0≤a):oneB e q a=e.contains c∧q.drop (a+1).toNat=r∧a+1≤(q.length:Int):=by
 have hl:a.toNat < q.length:=by
  apply Classical.byContradiction
  intro h1
  rw [List.drop_of_length_le (by omega)] at h; cases h
 rw [drop_cons _ _ hl,List.cons.injEq] at h
 have e1:(a+1).toNat=a.toNat+1:=by omega
 refine ⟨?_,by rw [e1]; exact h.2,by omega⟩
 unfold oneB
 rw [decide_eq_true (by omega),Bool.true_and,← h.1]; rfl
theorem spanAt {q:Str} {a:Int} (h0:0≤a) (h1:a≤(q.length:Int)):q.drop (a+(spanD (q.drop a.toNat)).1.length).toNat=(spanD (q.drop a.toNat)).2∧a+(spanD (q.drop a.toNat)).1.length≤(q.length:Int)∧(spanD (q.drop a.toNat)).1.length≤q.length:=by
 have hs:=spanD_len (q.drop a.toNat)
 have ha:=spanD_app (q.drop a.toNat)
 rw [List.length_drop] at hs
 generalize spanD (q.drop a.toNat)=p at *
 refine ⟨?_,by omega,by omega⟩
 have:(a+(p.1.length:Int)).toNat=a.toNat+p.1.length:=by omega
 rw [this,← List.drop_drop,ha,List.drop_left']
 rfl
noncomputable abbrev scE:Env:=EnX [1,5] Tryz.f66
abbrev scK [Lay] (v:Nm × Bool):St→Prop:=fh Tryz.f66 fun d h=>∃ h',RetLe d h (.tup [v.1.d,B v.2]) h'
abbrev scP3:List Nat:=[1,1,1,1,1,1,1,1,1,1,1,1]
theorem Wk.nmT {ng:Bool} {dg:Str} {x:Int} {t:Nat}:Wk (.agg [B ng,LT dg 1 encB t,I x]) (Nm.d ⟨ng,dg,x⟩):=Wk.agg (Wks.cons (Wk.refl _) (Wks.cons Wk.tokL (Wks.refl _)))
theorem scG [Lay] (q dg:Str) (a x:Int) (ng:Bool) (hl:dg.length≤1000000) (h1 : -1000000000≤x) (h2:x≤1000000000) (ok:Bool) (hok:ok=decide (a=(q.length:Int))) :
  At scE (scK (trimF ⟨ng,dg,x⟩,ok)) [.code scP3] ⟨[(1,.bp 0 0),(2,.own [B false,nilB,I 0]),(4,.own [B ng,LT dg 1 encB 0,I x]),(5,.bp 1 0)],hScT q a dg.length⟩:=by
 subst hok
 exact runS_sound hmix _ _ _ (of_eq (nScG q dg a x ng _) ⟨⟨Wks.cons Wk.nmT (Wks.refl _),c71 ⟨ng,dg,x⟩ hl h1 h2⟩,fun _=>⟨trivial,_,RetLe.refl _ _⟩⟩)
theorem emp (r:Str):(r==({data:= #[]:ByteArray}.data.toList:Str))=decide (r=[]):=by
 cases r <;> rfl
theorem mulD {a b:Int} (h : -9223372036854775808≤a * b) (k:a * b≤9223372036854775807):mulI .i64 a b=a * b:=IntWalk.i64_in _ ⟨h,k⟩
theorem expV_le (c:Nat) (q:Str):expV c q≤c:=by rw [expV_eq]; omega
theorem scEx [Lay] (q dg:Str) (a x:Int) (ng en:Bool) (hq:q.length≤64) (hl:dg.length≤1000) (hx : -1000≤x∧x≤0) (h0:0≤a) (ha:a≤(q.length:Int)) :
  At scE (scK (if (spanD (q.drop a.toNat)).1=[] then (⟨ng,dg,x⟩,false) else (trimF ⟨ng,dg,x+(if en=true then - (expV 1048576 (spanD (q.drop a.toNat)).1:Int) else (expV 1048576 (spanD (q.drop a.toNat)).1:Int))⟩,decide ((spanD (q.drop a.toNat)).2=[]))))
   [.code [1,1,1,1,1,1,1,1,1,1,1,0,1,0,1,1],.code scP3] ⟨[(1,.bp 0 0),(2,.own [B false,nilB,I 0]),(4,.own [B ng,LT dg 1 encB 0,I x]),(5,.bp 1 0),(7,digC),(10,B en)],hScT q a dg.length⟩:=by
 obtain ⟨s1,s2,s3⟩:=spanAt h0 ha
 refine runS_sound hmix _ _ _ (of_eq (nScE q dg a x ng en _) ⟨fr (e119 q a h0 ha (by omega)) [0,1] [],?_⟩)
 rw [emp]
 have hend:decide ((spanD (q.drop a.toNat)).2=[])=decide (a+(spanD (q.drop a.toNat)).1.length=(q.length:Int)):=by
  rw [decide_eq_decide,← s1,List.drop_eq_nil_iff]; omega
 rw [hend]
 have hdg:=spanD_dg (q.drop a.toNat)
 generalize (spanD (q.drop a.toNat)).1=ed at *
 generalize hb:a+(ed.length:Int)=b at *
 refine cond_intro (fun h=>⟨trivial,_,RetLe.wk ?_ rfl⟩) fun h=>fun hlm=> ?_
 ·rw [if_pos (of_decide_eq_true h)]
  exact Wk.tup (Wks.cons Wk.nmT (Wks.refl _))
 rw [if_neg (of_decide_eq_false h)]
 refine at_le (st':=SSe q dg ed b x ng en (0:Nat) (0:Nat)) ?_ (StLe.heap (hp_eq (fun k=>by rcases k with _ | _ | k <;> rfl) rfl rfl))
 refine lp (fn:=Tryz.f66) (fun z:Nat × Nat=>z.1≤ed.length∧z.2≤1048576∧expV 1048576 ed=(ed.drop z.1).foldl (fun e c=>min 1048576 (10 * e+dgt c)) z.2) (fun z=>SSe q dg ed b x ng en (z.2:Nat) (z.1:Nat)) (fun z=>ed.length - z.1) [1,2,4,5,10,12,66,67,68] (by kernel_rfl) (fun z hz=>of_eq (nScF q dg ed b x ng en (z.2:Nat) (z.1:Nat) _ _) ?_) (0,0) ⟨Nat.zero_le _,Nat.zero_le _,rfl⟩
 obtain ⟨i,e⟩:=z
 obtain ⟨hi,he,hv⟩:=hz
 simp only at hi he hv ⊢
 refine cond_intro (fun hlt=> ?_) fun hge=> ?_
 ·have hlt:=ltI hlt
  rw [drop_cons _ _ hlt,List.foldl_cons] at hv
  have hc:isDg (ed.getD i default)=true:=List.all_eq_true.1 hdg _ (by rw [List.getD_eq_getElem?_getD,List.getElem?_eq_getElem hlt]; exact List.getElem_mem hlt)
  rw [Int.toNat_natCast,add1 hlt hlm]
  generalize ed.getD i default=c at *
  have hc9:=dgt_le hc
  have hc48:=of_decide_eq_true hc
  have e1:IntKind.i64.wrap (subI .u8 (c.toNat:Int) 48)=((dgt c:Nat):Int):=by
   unfold subI dgt
   rw [IntWalk.u8_in _ ⟨by omega,by omega⟩,IntWalk.i64_in _ ⟨by omega,by omega⟩]; omega
  have e2:addI .i64 (mulI .i64 10 (e:Int)) ((dgt c:Nat):Int)=((10 * e+dgt c:Nat):Int):=by
   rw [mulD (by omega) (by omega),add64 (by omega) (by omega)]; omega
  have e3:(if ((10 * e+dgt c:Nat):Int) < 1048576 then ((10 * e+dgt c:Nat):Int) else 1048576)=((min 1048576 (10 * e+dgt c):Nat):Int):=by
   split <;> omega
  rw [e1,e2,e3]
  exact ⟨⟨by omega,by omega⟩,Nx.mk (i+1,min 1048576 (10 * e+dgt c)) ⟨hlt,by simp only; omega,hv⟩ (by simp only; omega)⟩
 ·rw [List.drop_of_length_le (geI hge),List.foldl_nil] at hv
  rw [hv]
  cases en
  ·refine ⟨trivial,?_⟩
   rw [add64 (by omega) (by omega)]
   exact scG q dg b (x+e) ng (by omega) (by omega) (by omega) _ rfl
  ·refine ⟨trivial,?_⟩
   rw [sub64 (by omega) (by omega),add64 (by omega) (by omega),Int.zero_sub]
   exact scG q dg b (x + -(e:Int)) ng (by omega) (by omega) (by omega) _ rfl
end Go.Proofs.YtiekphbkomddfaaGreatDoor.S1
namespace Go.Proofs.YtiekphbkomddfaaGreatDoor.S1
open Go Go.Ab Go.Proofs
def tlG (ng:Bool) (dg:Str) (x:Int):Str→Nm × Bool
 | []=>(trimF ⟨ng,dg,x⟩,true)
 | c::r=>if c=101∨c=69 then
   (if (spanD (sgnS r).2).1=[] then (⟨ng,dg,x⟩,false) else (trimF ⟨ng,dg,x+(if (sgnS r).1=true then - (expV 1048576 (spanD (sgnS r).2).1:Int) else (expV 1048576 (spanD (sgnS r).2).1:Int))⟩,decide ((spanD (sgnS r).2).2=[])))
  else (trimF ⟨ng,dg,x⟩,false)
def frG (ng:Bool) (wh:Str):Str→Nm × Bool
 | []=>tlG ng wh 0 []
 | c::r=>if c=46 then (if (spanD r).1=[] then (⟨ng,wh,0⟩,false) else tlG ng (wh++(spanD r).1) (-((spanD r).1.length:Int)) (spanD r).2) else tlG ng wh 0 (c::r)
def scF (q:Str):Nm × Bool :=
 if q.length > 64 then (nm0,false)
 else if (spanD (sgnS q).2).1=[] then (⟨(sgnS q).1,[],0⟩,false)
 else frG (sgnS q).1 (spanD (sgnS q).2).1 (spanD (sgnS q).2).2
abbrev scS (q dg:Str) (a x:Int) (ng:Bool):St:=⟨[(1,.bp 0 0),(2,.own [B false,nilB,I 0]),(4,.own [B ng,LT dg 1 encB 0,I x]),(5,.bp 1 0),(6,oneC),(7,digC)],hScT q a dg.length⟩
theorem e45:({data:= #[45]:ByteArray}.data.toList:Str)=[45]:=rfl
theorem e43:({data:= #[43]:ByteArray}.data.toList:Str)=[43]:=rfl
theorem e46 [Lay]:({data:= #[46]:ByteArray}.data.toList:Str)=[46]:=rfl
theorem eEe:({data:= #[101,69]:ByteArray}.data.toList:Str)=[101,69]:=rfl
theorem ctn1 (a c:UInt8):([a]:Str).contains c=decide (c=a):=by
 rw [Bool.eq_iff_iff]; simp
theorem ctn2 (a b c:UInt8):([a,b]:Str).contains c=decide (c=a∨c=b):=by
 rw [Bool.eq_iff_iff]; simp
theorem sgn3S (r : Str) : (sgnS r = (false, r) ∧ (∀ c t, r = c :: t → c ≠ 45 ∧ c ≠ 43)) ∨ (∃ t, r = 45 :: t ∧ sgnS r = (true, t)) ∨ (∃ t, r = 43 :: t ∧ sgnS r = (false, t)) := by
  cases r with
  | nil => exact .inl ⟨rfl, fun _ _ h => by cases h⟩
  | cons c t =>
    rw [sgnS]
    by_cases h1 : c = 45
    · subst h1; exact .inr (.inl ⟨t, rfl, rfl⟩)
    · rw [if_neg h1]
      by_cases h2 : c = 43
      · subst h2; exact .inr (.inr ⟨t, rfl, rfl⟩)
      · rw [if_neg h2]
        exact .inl ⟨rfl, fun c' t' h => by cases h; exact ⟨h1, h2⟩⟩
theorem sgnAt {q : Str} {a : Int} (h0 : 0 ≤ a) (h1 : a ≤ (q.length : Int)) : oneB [45] q a = (sgnS (q.drop a.toNat)).1 ∧
    (oneB [45] q a = true → q.drop (a + 1).toNat = (sgnS (q.drop a.toNat)).2 ∧ a + 1 ≤ (q.length : Int)) ∧
    (oneB [45] q a = false → q.drop (oneA [43] q a).toNat = (sgnS (q.drop a.toNat)).2 ∧ oneA [43] q a ≤ (q.length : Int) ∧ 0 ≤ oneA [43] q a) := by
  rcases sgn3S (q.drop a.toNat) with ⟨h, hn⟩ | ⟨t, hr, h⟩ | ⟨t, hr, h⟩
  · have k : oneB [45] q a = false ∧ oneB [43] q a = false := by
      cases hr : q.drop a.toNat with
      | nil => exact ⟨oneNil hr h0, oneNil hr h0⟩
      | cons c t =>
        obtain ⟨n1, n2⟩ := hn c t hr
        rw [(oneCons hr h0).1, (oneCons hr h0).1, ctn1, ctn1, decide_eq_false n1, decide_eq_false n2]
        exact ⟨rfl, rfl⟩
    rw [h, k.1]
    refine ⟨rfl, fun h => (by cases h), fun _ => ?_⟩
    unfold oneA
    rw [k.2, if_neg (by simp)]
    exact ⟨rfl, h1, h0⟩
  · obtain ⟨k1, k2, k3⟩ := oneCons (e := [45]) hr h0
    rw [h, k1, ctn1, decide_eq_true rfl]
    exact ⟨rfl, fun _ => ⟨k2, k3⟩, fun h => (by cases h)⟩
  · obtain ⟨k1, k2, k3⟩ := oneCons (e := [45]) hr h0
    obtain ⟨m1, _, _⟩ := oneCons (e := [43]) hr h0
    rw [h, k1, ctn1, decide_eq_false (by decide)]
    refine ⟨rfl, fun h => (by cases h), fun _ => ?_⟩
    unfold oneA
    rw [m1, ctn1, decide_eq_true rfl, if_pos rfl]
    exact ⟨k2, k3, by omega⟩
theorem scD2 [Lay] (q dg:Str) (a x:Int) (ng:Bool) (hq:q.length≤64) (hl:dg.length≤1000) (hx : -1000≤x∧x≤0) (h0:0≤a) (ha:a≤(q.length:Int)) (r:Str) (hr:q.drop a.toNat=r) :
  At scE (scK (if (spanD (sgnS r).2).1=[] then (⟨ng,dg,x⟩,false) else (trimF ⟨ng,dg,x+(if (sgnS r).1=true then - (expV 1048576 (spanD (sgnS r).2).1:Int) else (expV 1048576 (spanD (sgnS r).2).1:Int))⟩,decide ((spanD (sgnS r).2).2=[]))))
   [.code [1,1,1,1,1,1,1,1,1,1,1,0,1,0],.code scP3] (scS q dg a x ng):=by
 subst hr
 obtain ⟨g1,g2,g3⟩:=sgnAt h0 ha
 refine runS_sound hmix _ _ _ (of_eq (nScD2 q dg a x ng _) ⟨fr (e118 _ q a h0 (by omega) (by decide)) [0,1] [],?_⟩)
 rw [e45,e43]
 cases hb:oneB [45] q a
 ·obtain ⟨k1,k2,k3⟩:=g3 hb
  have hA:oneA [45] q a=a:=by unfold oneA; rw [hb,if_neg (by simp)]
  rw [hA]
  refine ⟨fr (e118 _ q a h0 (by omega) (by decide)) [0,1] [],?_⟩
  rw [← g1,hb,← k1]
  refine at_le (st':=⟨[(1,.bp 0 0),(2,.own [B false,nilB,I 0]),(4,.own [B ng,LT dg 1 encB 0,I x]),(5,.bp 1 0),(7,digC),(10,B false)],hScT q (oneA [43] q a) dg.length⟩) (scEx q dg (oneA [43] q a) x ng false hq hl hx k3 k2) (StLe.heap (hp_eq (fun k=>by rcases k with _ | _ | k <;> rfl) rfl rfl))
 ·obtain ⟨k1,k2⟩:=g2 hb
  have hA:oneA [45] q a=a+1:=by unfold oneA; rw [hb,if_pos rfl]
  rw [hA,← g1,hb,← k1]
  refine at_le (st':=⟨[(1,.bp 0 0),(2,.own [B false,nilB,I 0]),(4,.own [B ng,LT dg 1 encB 0,I x]),(5,.bp 1 0),(7,digC),(10,B true)],hScT q (a+1) dg.length⟩) (scEx q dg (a+1) x ng true hq hl hx (by omega) k2) (StLe.heap (hp_eq (fun k=>by rcases k with _ | _ | k <;> rfl) rfl rfl))
theorem scD [Lay] (q dg : Str) (a x : Int) (ng : Bool) (hq : q.length ≤ 64) (hl : dg.length ≤ 1000) (hx : -1000 ≤ x ∧ x ≤ 0) (h0 : 0 ≤ a) (ha : a ≤ (q.length : Int)) (r : Str) (hr : q.drop a.toNat = r) :
    At scE (scK (tlG ng dg x r)) [.code [1, 1, 1, 1, 1, 1, 1, 1, 1, 1, 1]] (scS q dg a x ng) := by
  refine runS_sound hmix _ _ _ (of_eq (nScD q dg a x ng _) ⟨fr (e118 _ q a h0 (by omega) (by decide)) [0, 1] [], ?_⟩)
  rw [eEe]
  cases r with
  | nil =>
    have hb := oneNil (e := [101, 69]) hr h0
    have hA : oneA [101, 69] q a = a := by unfold oneA; rw [hb, if_neg (by simp)]
    rw [hb, hA]
    have := List.drop_eq_nil_iff.1 hr
    exact at_le (st' := ⟨[(1, .bp 0 0), (2, .own [B false, nilB, I 0]), (4, .own [B ng, LT dg 1 encB 0, I x]), (5, .bp 1 0)], hScT q a dg.length⟩) (scG q dg a x ng (by omega) (by omega) (by omega) true (decide_eq_true (by omega)).symm) (StLe.heap (hp_eq (fun k => by rcases k with _ | _ | k <;> rfl) rfl rfl))
  | cons c t =>
    obtain ⟨k1, k2, k3⟩ := oneCons (e := [101, 69]) hr h0
    rw [ctn2] at k1
    rw [tlG]
    by_cases hc : c = 101 ∨ c = 69
    · rw [decide_eq_true hc] at k1
      have hA : oneA [101, 69] q a = a + 1 := by unfold oneA; rw [k1, if_pos rfl]
      rw [k1, hA, if_pos hc]
      exact at_le (st' := scS q dg (a + 1) x ng) (scD2 q dg (a + 1) x ng hq hl hx (by omega) k3 t k2) (StLe.heap (hp_eq (fun k => by rcases k with _ | _ | k <;> rfl) rfl rfl))
    · rw [decide_eq_false hc] at k1
      have hA : oneA [101, 69] q a = a := by unfold oneA; rw [k1, if_neg (by simp)]
      rw [k1, hA, if_neg hc]
      exact at_le (st' := ⟨[(1, .bp 0 0), (2, .own [B false, nilB, I 0]), (4, .own [B ng, LT dg 1 encB 0, I x]), (5, .bp 1 0)], hScT q a dg.length⟩) (scG q dg a x ng (by omega) (by omega) (by omega) false (decide_eq_false (by omega)).symm) (StLe.heap (hp_eq (fun k => by rcases k with _ | _ | k <;> rfl) rfl rfl))
theorem scC [Lay] (q wh : Str) (a : Int) (ng : Bool) (hq : q.length ≤ 64) (hl : wh.length ≤ 64) (h0 : 0 ≤ a) (ha : a ≤ (q.length : Int)) (r : Str) (hr : q.drop a.toNat = r) :
    At scE (scK (frG ng wh r)) [.code [1, 1, 1, 1, 1, 1, 1, 1, 1, 1]] (scS q wh a 0 ng) := by
  have hK : ∀ (h : q.drop a.toNat = r) (hb : oneB [46] q a = false), At scE (scK (tlG ng wh 0 r)) [.code [1, 1, 1, 1, 1, 1, 1, 1, 1, 1, 1]] (scS q wh a 0 ng) := fun h _ => scD q wh a 0 ng hq (by omega) (by omega) h0 ha r h
  refine runS_sound hmix _ _ _ (of_eq (nScC q wh a ng _) ⟨fr (e118 _ q a h0 (by omega) (by decide)) [0, 1] [], ?_⟩)
  rw [e46]
  cases r with
  | nil =>
    have hb := oneNil (e := [46]) hr h0
    have hA : oneA [46] q a = a := by unfold oneA; rw [hb, if_neg (by simp)]
    rw [hb, hA, frG]
    exact at_le (st' := scS q wh a 0 ng) (hK hr hb) (StLe.heap (hp_eq (fun k => by rcases k with _ | _ | k <;> rfl) rfl rfl))
  | cons c t =>
    obtain ⟨k1, k2, k3⟩ := oneCons (e := [46]) hr h0
    rw [ctn1] at k1
    rw [frG]
    by_cases hc : c = 46
    · rw [decide_eq_true hc] at k1
      have hA : oneA [46] q a = a + 1 := by unfold oneA; rw [k1, if_pos rfl]
      obtain ⟨s1, s2, s3⟩ := spanAt (q := q) (a := a + 1) (by omega) k3
      rw [k1, hA, if_pos hc, emp]
      refine ⟨fr (e119 q (a + 1) (by omega) k3 (by omega)) [0, 1] [], ?_⟩
      rw [k2] at s1 s2 s3 ⊢
      refine cond_intro (fun h => ⟨trivial, _, RetLe.wk ?_ rfl⟩) fun h => ⟨⟨rfl, by unfold roomM; omega⟩, trivial, fun _ => ⟨trivial, ?_⟩⟩
      · rw [if_pos (of_decide_eq_true h)]
        exact Wk.tup (Wks.cons Wk.nmT (Wks.refl _))
      · rw [if_neg (of_decide_eq_false h), sub64 (by omega) (by omega), Int.zero_sub]
        refine at_le (st' := scS q (wh ++ (spanD t).1) (a + 1 + (spanD t).1.length) (-((spanD t).1.length : Int)) ng) (scD q (wh ++ (spanD t).1) (a + 1 + (spanD t).1.length) (-((spanD t).1.length : Int)) ng hq (by rw [List.length_append]; omega) (by omega) (by omega) s2 (spanD t).2 s1) ?_
        refine (StLe.setOwn (by simp) 4 rfl (Wks.cons (Wk.refl _) (Wks.cons (Wk.app (a := wh) (b := (spanD t).1) (sz := 1) (enc := encB) (own' := .tok 0 1) rfl rfl (fun i hi => ?_) (.inr rfl)) (Wks.refl _)))).trans (StLe.heap (hp_eq (fun k => by rcases k with _ | _ | k <;> rfl) ?_ rfl))
        · rfl
        · rw [List.length_append, upd_upd]
    · rw [decide_eq_false hc] at k1
      have hA : oneA [46] q a = a := by unfold oneA; rw [k1, if_neg (by simp)]
      rw [k1, hA, if_neg hc]
      exact at_le (st' := scS q wh a 0 ng) (hK hr k1) (StLe.heap (hp_eq (fun k => by rcases k with _ | _ | k <;> rfl) rfl rfl))
theorem scB [Lay] (q:Str) (a:Int) (ng:Bool) (hq:q.length≤64) (h0:0≤a) (ha:a≤(q.length:Int)) (r:Str) (hr:q.drop a.toNat=r) :
  At scE (scK (if (spanD r).1=[] then (⟨ng,[],0⟩,false) else frG ng (spanD r).1 (spanD r).2)) [.code [1,1,1,1,1,1,1]] ⟨[(1,.bp 0 0),(2,.own [B false,nilB,I 0]),(4,.own [B ng,nilB,I 0]),(5,.bp 1 0),(6,oneC),(7,digC)],hSc q a⟩:=by
 subst hr
 obtain ⟨s1,s2,s3⟩:=spanAt h0 ha
 refine runS_sound hmix _ _ _ (of_eq (nScB q a ng _) ⟨e119 q a h0 ha (by omega),?_⟩)
 rw [emp]
 generalize spanD (q.drop a.toNat)=p at *
 refine cond_intro (fun h=>⟨trivial,_,RetLe.wk ?_ rfl⟩) fun h=>⟨by unfold roomM; omega,trivial,?_⟩
 ·rw [if_pos (of_decide_eq_true h)]
  exact Wk.tup (Wks.cons (Wk.agg (Wks.cons (Wk.refl _) (Wks.cons Wk.nilL (Wks.refl _)))) (Wks.refl _))
 ·rw [if_neg (of_decide_eq_false h)]
  refine at_le (st':=scS q p.1 (a+p.1.length) 0 ng) (scC q p.1 (a+p.1.length) ng hq (by omega) (by omega) s2 p.2 s1) ?_
  refine (StLe.setOwn (by simp) 4 rfl (Wks.cons (Wk.refl _) (Wks.cons (Wk.app (a:=([]:Str)) (b:=p.1) (sz:=1) (enc:=encB) (own':= .tok 0 1) rfl rfl (fun i hi=> ?_) (.inr rfl)) (Wks.refl _)))).trans (StLe.heap (hp_eq (fun k=>by rcases k with _ | _ | k <;> rfl) ?_ rfl))
  ·rfl
  ·rw [Nat.zero_add]
theorem c66 [Lay] (q:Str):Pure PP 66 [.str q] (.tup [(scF q).1.d,B (scF q).2]):=by
 refine pr F66 (by kernel_rfl) (of_eq (nScA q _) ⟨trivial,fun _=>cond_intro (fun h=>⟨trivial,_,RetLe.wk ?_ rfl⟩) fun h=>⟨trivial,trivial,?_⟩⟩)
 ·have h:q.length > 64:=by have:=of_decide_eq_true h; omega
  unfold scF
  rw [if_pos h]
  exact Wk.tup (Wks.cons (Wk.agg (Wks.cons (Wk.refl _) (Wks.cons Wk.nilL (Wks.refl _)))) (Wks.refl _))
 have hq:q.length≤64:=by have:=of_decide_eq_false h; omega
 have hF:scF q=if (spanD (sgnS q).2).1=[] then (⟨(sgnS q).1,[],0⟩,false) else frG (sgnS q).1 (spanD (sgnS q).2).1 (spanD (sgnS q).2).2:=by
  unfold scF; rw [if_neg (by omega)]
 rw [hF]
 refine at_le (st':=⟨[(1,.bp 0 0),(2,.own [B false,nilB,I 0]),(4,.own [B false,nilB,I 0]),(5,.bp 1 0),(6,oneC),(7,digC)],hSc q 0⟩) ?_ (StLe.heap (hSc_set q 0 0))
 obtain ⟨g1,g2,g3⟩:=sgnAt (q:=q) (a:=0) (by omega) (by omega)
 rw [show (0:Int).toNat=0 from rfl,List.drop_zero] at g1 g2 g3
 refine runS_sound hmix _ _ _ (of_eq (nScA2 q _) ⟨e118 _ q 0 (by omega) (by omega) (by decide),?_⟩)
 rw [e45,e43]
 cases hb:oneB [45] q 0
 ·obtain ⟨k1,k2,k3⟩:=g3 hb
  have hA:oneA [45] q 0=0:=by unfold oneA; rw [hb,if_neg (by simp)]
  rw [hA,← g1,hb]
  exact ⟨e118 _ q 0 (by omega) (by omega) (by decide),scB q (oneA [43] q 0) false hq k3 k2 _ k1⟩
 ·obtain ⟨k1,k2⟩:=g2 hb
  have hA:oneA [45] q 0=0+1:=by unfold oneA; rw [hb,if_pos rfl]
  rw [hA,← g1,hb]
  exact ⟨trivial,scB q (0+1) true hq (by omega) k2 _ k1⟩
end Go.Proofs.YtiekphbkomddfaaGreatDoor.S1
namespace Go.Proofs.YtiekphbkomddfaaGreatDoor.S1
open Go Go.Ab Go.Proofs
-- nolay
attribute [local instance] LT10
abbrev capC:Nat:=1048576
def RdR (r:Option Rd) (v:Nm × Bool):Prop:=match r with
 | some x=>v=(trimF (x.nm capC),x.ok)
 | none=>v.2=false
theorem tlG_rd (ng : Bool) (dg : Str) (f : Nat) (q : Str) : RdR (rdE ng dg f q) (tlG ng dg (-(f : Int)) q) := by
  have hz : ∀ ok, RdR (some ⟨ng, dg, f, false, [], ok⟩) (trimF ⟨ng, dg, -(f : Int)⟩, ok) := fun ok => by
    unfold RdR Rd.nm Rd.e
    have : (expV capC ([] : Str) : Int) = 0 := rfl
    simp only [Bool.false_eq_true, if_false, this, Int.zero_sub]
  cases q with
  | nil => exact hz true
  | cons c r =>
    rw [rdE, tlG]
    by_cases hc : c = 101 ∨ c = 69
    · rw [if_pos hc, if_pos hc]
      by_cases h : (spanD (sgnS r).2).1 = []
      · rw [if_pos h, if_pos h]; exact rfl
      · rw [if_neg h, if_neg h]
        unfold RdR Rd.nm Rd.e
        simp only
        congr 3
        generalize (if (sgnS r).1 = true then -(expV capC (spanD (sgnS r).2).1 : Int) else (expV capC (spanD (sgnS r).2).1 : Int)) = e
        omega
    · rw [if_neg hc, if_neg hc]; exact hz false
theorem frG_rd (ng : Bool) (wh q : Str) : RdR (rdF ng wh q) (frG ng wh q) := by
  cases q with
  | nil => exact tlG_rd ng wh 0 []
  | cons c r =>
    rw [rdF, frG]
    by_cases hc : c = 46
    · rw [if_pos hc, if_pos hc]
      by_cases h : (spanD r).1 = []
      · rw [if_pos h, if_pos h]; exact rfl
      · rw [if_neg h, if_neg h]; exact tlG_rd ng _ _ _
    · rw [if_neg hc, if_neg hc]; exact tlG_rd ng wh 0 (c :: r)
theorem scF_rd (q:Str):RdR (rdP q) (scF q):=by
 unfold rdP scF
 by_cases h1:q.length > 64
 ·rw [if_pos (.inl h1),if_pos h1]; exact rfl
 ·rw [if_neg h1]
  by_cases h2:(spanD (sgnS q).2).1=[]
  ·rw [if_pos (.inr h2),if_pos h2]; exact rfl
  ·rw [if_neg (not_or.2 ⟨h1,h2⟩),if_neg h2]; exact frG_rd _ _ _
theorem nm_bd {q:Str} {x:Rd} (h:rdP q=some x) (cap:Nat):(trimF (x.nm cap)).dig.length≤64∧ -(cap:Int) - 64≤(trimF (x.nm cap)).ex∧(trimF (x.nm cap)).ex≤cap+64:=by
 obtain ⟨r1,r2,r3,r4⟩:=rdP_ok h
 have e1:=expV_le cap x.ed
 have e2 : -(cap:Int)≤x.e cap∧x.e cap≤cap:=by unfold Rd.e; split <;> omega
 have t1:=tL_len x.dig
 have t2:=tR_len (tL x.dig)
 rcases nm_trim x cap with ⟨k1,k2⟩ | ⟨k1,k2⟩
 ·rw [k2]; exact ⟨by decide,by show _≤(0:Int); omega,by show (0:Int)≤_; omega⟩
 ·rw [k2]; exact ⟨by simp only; omega,by simp only; omega,by simp only; omega⟩
def canG (q:Str):Nm × Bool:=if (scF q).2=true then ((scF q).1,decide (textF (scF q).1=some q)) else (nm0,false)
theorem canG_b (q : Str) : (canG q).2 = canB capC q ∧ (canB capC q = true → (canG q).1 = canN capC q) := by
  have h := scF_rd q
  unfold canG canB canN
  cases hr : rdP q with
  | none =>
    rw [hr] at h
    have h : (scF q).2 = false := h
    rw [h, if_neg (by simp)]
    exact ⟨rfl, fun h => absurd h (by simp)⟩
  | some x =>
    rw [hr] at h
    have h : scF q = (trimF (x.nm capC), x.ok) := h
    rw [h]
    show (if x.ok = true then (trimF (x.nm capC), decide (textF (trimF (x.nm capC)) = some q)) else (nm0, false)).2 = (x.ok && decide (textF (trimF (x.nm capC)) = some q)) ∧ ((x.ok && decide (textF (trimF (x.nm capC)) = some q)) = true → (if x.ok = true then (trimF (x.nm capC), decide (textF (trimF (x.nm capC)) = some q)) else (nm0, false)).1 = trimF (x.nm capC))
    cases x.ok
    · exact ⟨rfl, fun h => absurd h (by simp)⟩
    · exact ⟨rfl, fun _ => rfl⟩
theorem scF_ok {q : Str} (h : (scF q).2 = true) : (scF q).1.dig.length ≤ 64 ∧ -2000000 ≤ (scF q).1.ex ∧ (scF q).1.ex ≤ 2000000 := by
  have h1 := scF_rd q
  cases hr : rdP q with
  | none => rw [hr] at h1; have h1 : (scF q).2 = false := h1; rw [h1] at h; cases h
  | some x =>
    rw [hr] at h1
    have h1 : scF q = (trimF (x.nm capC), x.ok) := h1
    obtain ⟨b1, b2, b3⟩ := nm_bd hr capC
    have hcap : ((capC : Nat) : Int) = 1048576 := rfl
    rw [hcap] at b2 b3
    rw [h1]
    exact ⟨b1, by simp only; omega, by simp only; omega⟩
theorem F42:OkF 42 Tryz.f42:=⟨by kernel_rfl,by kernel_rfl,by kernel_rfl⟩
def lv42:List (List Nat × List Nat):=[]
noncomputable def nDCans (q:Str):List Nat→Nat→Option Ans:=scrAt [([1,0],1,Ans.pure [.str q] (.tup [(scF q).fst.d,B (scF q).snd])),([1,1,1,0],1,Ans.pure [(scF q).fst.d] (.tup [.str (txtV (scF q).fst).fst,I (txtV (scF q).fst).snd]))]
theorem nDCan (q:Str) (K:D→Prop):runS (En Tryz.f42) (fi Tryz.f42 K) (nDCans q) lv42 200 [.code []] ⟨argSlots 0 [.str q],.empty⟩ =
 (PureW PP 66 [.str q] [.str q] (.tup [(scF q).fst.d,B (scF q).snd])∧True∧bif !(scF q).snd then True∧K (.tup [.agg [B false,.list 0 0 (fun _=>D.junk) .full,I 0],B false]) else PureW PP 67 [(scF q).fst.d] [(scF q).fst.d] (.tup [.str (txtV (scF q).fst).fst,I (txtV (scF q).fst).snd])∧True∧K (.tup [.agg [B (scF q).fst.neg,L (scF q).fst.dig 1 encB,I (scF q).fst.ex],B (bif (txtV (scF q).fst).snd==0 then (txtV (scF q).fst).fst==q else false)])):=by kernel_rfl
theorem F40:OkF 40 Tryz.f40:=⟨by kernel_rfl,by kernel_rfl,by kernel_rfl⟩
def lv40:List (List Nat × List Nat):=[]
noncomputable def nDVals (q:Str):List Nat→Nat→Option Ans:=scrAt [([1,0],1,Ans.pure [.str q] (.tup [(canG q).fst.d,B (canG q).snd]))]
theorem nDVal (q:Str) (K:D→Prop):runS (En Tryz.f40) (fi Tryz.f40 K) (nDVals q) lv40 200 [.code []] ⟨argSlots 0 [.str q],.empty⟩ =
 (PureW PP 42 [.str q] [.str q] (.tup [(canG q).fst.d,B (canG q).snd])∧True∧K (B (canG q).snd)):=by kernel_rfl
theorem F41:OkF 41 Tryz.f41:=⟨by kernel_rfl,by kernel_rfl,by kernel_rfl⟩
def lv41:List (List Nat × List Nat):=[]
noncomputable def nDSgns (q:Str):List Nat→Nat→Option Ans:=scrAt [([1,0],1,Ans.pure [.str q] (.tup [(canG q).fst.d,B (canG q).snd])),([1,1,1,0],1,Ans.pure [(canG q).fst.d] (I (sigF (canG q).fst)))]
theorem nDSgn (q:Str) (K:D→Prop):runS (En Tryz.f41) (fi Tryz.f41 K) (nDSgns q) lv41 200 [.code []] ⟨argSlots 0 [.str q],.empty⟩ =
 (PureW PP 42 [.str q] [.str q] (.tup [(canG q).fst.d,B (canG q).snd])∧True∧bif !(canG q).snd then K (I 0) else PureW PP 65 [(canG q).fst.d] [(canG q).fst.d] (I (sigF (canG q).fst))∧K (I (sigF (canG q).fst))):=by kernel_rfl
end Go.Proofs.YtiekphbkomddfaaGreatDoor.S1
namespace Go.Proofs.YtiekphbkomddfaaGreatDoor.S1
open Go Go.Ab Go.Proofs
-- nolay
attribute [local instance] LT10
theorem txt_eq (x : Nm) (q : Str) : (bif (txtV x).2 == 0 then (txtV x).1 == q else false) = decide (textF x = some q) := by
  unfold txtV
  cases textF x with
  | none => rw [decide_eq_false (by simp)]; rfl
  | some t =>
    show (t == q) = _
    rw [Bool.eq_iff_iff]; simp
theorem c42 (q:Str):Pure PP 42 [.str q] (.tup [(canG q).1.d,B (canG q).2]):=by
 refine pu F42 (by kernel_rfl) (of_eq (nDCan q _) ⟨PureW.mk (c66 q),trivial,cond_intro (fun h=>⟨trivial,?_⟩) fun h=> ?_⟩)
 ·have h:(scF q).2=false:=by simpa using h
  unfold canG
  rw [h,if_neg (by simp)]
  exact Wk.tup (Wks.cons (Wk.agg (Wks.cons (Wk.refl _) (Wks.cons Wk.nilL (Wks.refl _)))) (Wks.refl _))
 ·have h:(scF q).2=true:=by simpa using h
  obtain ⟨b1,b2,b3⟩:=scF_ok h
  unfold canG
  rw [h,if_pos rfl,txt_eq]
  exact ⟨PureW.mk (c67 (scF q).1 (by omega) (by omega) (by omega)),trivial,Wk.refl _⟩
theorem c40 (q:Str):Pure PP 40 [.str q] (B (canG q).2) :=
 pu F40 (by kernel_rfl) (of_eq (nDVal q _) ⟨PureW.mk (c42 q),trivial,Wk.refl _⟩)
def dsF (q:Str):Int:=if (canG q).2=true then sigF (canG q).1 else 0
theorem c41 (q:Str):Pure PP 41 [.str q] (I (dsF q)):=by
 refine pu F41 (by kernel_rfl) (of_eq (nDSgn q _) ⟨PureW.mk (c42 q),trivial,cond_intro (fun h=> ?_) fun h=> ?_⟩)
 ·have h:(canG q).2=false:=by simpa using h
  unfold dsF
  rw [h,if_neg (by simp)]; exact Wk.refl _
 ·have h:(canG q).2=true:=by simpa using h
  unfold dsF
  rw [h,if_pos rfl]; exact ⟨PureW.mk (c65 _),Wk.refl _⟩
end Go.Proofs.YtiekphbkomddfaaGreatDoor.S1
namespace Go.Proofs.YtiekphbkomddfaaGreatDoor.S1
open Go Go.Ab Go.Proofs
-- nolay
attribute [local instance] LT10
theorem R_bytes {g:G} {q:Str} {v:Value} (h:R g (L q 1 encB) v):∃ (p:Option Addr) (cap:Nat),v = .slice p q.length cap∧q.length≤cap∧∀ i,i < q.length→∃ a,p=some a∧a.spot=none∧g.σ ⟨a.block,a.off+i,none⟩=some (.int .u8 (q.getD i 0).toNat):=by
 simp only [L,R] at h
 obtain ⟨_,p,cap,rfl,h1,_,h2⟩:=h
 refine ⟨p,cap,rfl,h1,fun i hi=> ?_⟩
 obtain ⟨a,u,h3,h4,h5,_,h6⟩:=h2 i hi
 subst h5
 have:=h6 0 (by omega)
 refine ⟨a,h3,h4,?_⟩
 rw [Nat.mul_one,Nat.add_zero] at this
 exact this
theorem add_addr {a:Addr} (h:a.spot=none) (j:Nat):a.add j=⟨a.block,a.off+j,none⟩:=by
 obtain ⟨b,o,s⟩:=a
 simp only at h
 subst h
 unfold Addr.add
 split <;> simp_all
theorem run_bytesOf_R {P : Program} {g : G} {w : World} (sub : ∀ a v, g.σ a = some v → w.cell? a = some v ∧ a.spot = none) {q : Str} {v : Value} (h : R g (L q 1 encB) v) : (Extern.Bytes.bytesOf v).run P w = .ok ⟨q.toArray⟩ w := by
  obtain ⟨p, cap, rfl, _, h2⟩ := R_bytes h
  cases q with
  | nil =>
    cases p with
    | none => rfl
    | some a => rfl
  | cons c r =>
    obtain ⟨a, rfl, ha, _⟩ := h2 0 (by simp)
    have hl := Lib.run_loadBytesX (P := P) w ((c :: r).map fun b => (b.toNat : Int)) a .empty (fun j x hx => by
      rw [List.getElem?_map] at hx
      obtain ⟨y, hy, rfl⟩ := Option.map_eq_some_iff.1 hx
      have hj : j < (c :: r).length := (List.getElem?_eq_some_iff.1 hy).1
      obtain ⟨a', h3, _, h5⟩ := h2 j hj
      cases h3
      rw [add_addr ha, (sub _ _ h5).1, List.getD_eq_getElem?_getD, hy]; rfl)
    rw [List.length_map] at hl
    have e : Lib.bytesOf ((c :: r).map fun b => (b.toNat : Int)) = c :: r := by
      unfold Lib.bytesOf
      rw [List.map_map]
      refine (List.map_congr_left fun b _ => ?_).trans (List.map_id _)
      show UInt8.ofNat ((b.toNat : Int)).toNat = b
      rw [Int.toNat_natCast, UInt8.ofNat_toNat]
    rw [e] at hl
    show (Extern.Bytes.loadBytes a (c :: r).length .empty).run P w = _
    rw [hl]
    show Result.ok (⟨#[] ++ (c :: r).toArray⟩ : ByteArray) w = _
    simp
theorem cmpL_bytes : ∀ a b : Str, cmpL a b = Lib.compareBytes a b
  | [], [] => rfl
  | [], _ :: _ => rfl
  | _ :: _, [] => rfl
  | a :: u, b :: v => by
    unfold cmpL Lib.compareBytes
    rw [cmpL_bytes u v]
    rfl
theorem pureC {f:Nat} {args:List D} {v:D} (ok:Callable PP f) [da:DS args] [dv:DD v] (h:∀ (g:G) (w:World) (vs:List Value),(∀ a x,g.σ a=some x→w.cell? a=some x∧a.spot=none)→Rs g args vs→∃ x,R g v x∧Calls PP f vs.toArray w fun e w'=>e = .returned x∧RowKit.Below w.heap.size w w'):Pure PP f args v :=
 ⟨ok,da.p,dv.p,fun g w vs _ sub hs=>by
  obtain ⟨x,hx,hc⟩:=h g w vs sub hs
  refine hc.mono fun e w' ⟨he,hb⟩=>⟨x,g.σ,he,R.mono ⟨fun _ _ h=>h,fun _ _ h=>h,fun _ k h=>⟨k,h,rfl,Nat.le_refl _,fun _=>rfl⟩⟩ _ _ hx,fun _ _ h=>h,fun a y hy=> ?_,fun _ _ h=> .inl h,hb⟩
  obtain ⟨h1,h2⟩:=sub a y hy
  have hl:a.block < w.heap.size:=World.block_lt_of_cell? w a h1
  exact ⟨(cell?_of_heap (hb.block _ hl)).trans h1,h2⟩⟩
theorem run_bytealgCompare {P:Program} {g:G} {w:World} (sub:∀ a v,g.σ a=some v→w.cell? a=some v∧a.spot=none) {p q:Str} {v u:Value} (h:R g (L p 1 encB) v) (k:R g (L q 1 encB) u) :
  (Extern.BytealgCompare.compare #[v,u]).run P w = .ok (.int .i64 (cmpL p q)) w:=by
 change Sem.run P (do pure (goInt (Extern.BytealgCompare.cmp (← Extern.Bytes.bytesOf v) (← Extern.Bytes.bytesOf u)))) w=_
 simp only [Sem.run_bind,run_bytesOf_R sub h,run_bytesOf_R sub k,Sem.run_pure,Result.andThen]
 rw [Lib.cmp_eq,cmpL_bytes]
 rfl
set_option maxHeartbeats 2000000 in
set_option maxRecDepth 100000 in
theorem calls_bcmp (v u:Value) (n:Int) (w:World) (hcmp:(Extern.BytealgCompare.compare #[v,u]).run Tryz.prog w = .ok (.int .i64 n) w):Calls Tryz.prog 121 #[v,u] w fun e w'=>e = .returned (.int .i64 n)∧w'=w:=by
 have mixed:Tryz.prog.follows .mixedOrders=true:=by kernel_rfl
 go_enter Tryz.func121,Tryz.ntmps121
 go_wp2
 rw [run_callFunc_extern Tryz.func141 (by kernel_rfl) (by kernel_rfl) (by kernel_rfl) (e:=Extern.BytealgCompare.compare) (by kernel_rfl),hcmp]
 simp only [Result.andThen]
 rw [Oper.upon_value]
 go_wp2
 go_ret
 exact ⟨rfl,rfl⟩
theorem c121 (a b:Str):Pure PP 121 [L a 1 encB,L b 1 encB] (I (cmpL a b)):=by
 refine pureC ⟨Tryz.f121,by kernel_rfl,by kernel_rfl,by kernel_rfl⟩ fun g w vs sub h=> ?_
 simp only [Rs] at h
 obtain ⟨v,_,rfl,hv,u,_,rfl,hu,rfl⟩:=h
 refine ⟨.int .i64 (cmpL a b),by simp only [R],?_⟩
 refine (calls_bcmp v u _ w (run_bytealgCompare (P:=Tryz.prog) sub hv hu)).mono fun e w' ⟨h1,h2⟩=>⟨h1,?_⟩
 rw [h2]; exact RowKit.Below.refl _ _
theorem F69:OkF 69 Tryz.f69:=⟨by kernel_rfl,by kernel_rfl,by kernel_rfl⟩
def lv69:List (List Nat × List Nat):=[]
noncomputable def nDmgs (a:Nm) (b:Nm):List Nat→Nat→Option Ans:=scrAt [([1,0,1,0,0],6,Ans.pure [I (↑(List.length a.dig):Int),I (↑(List.length b.dig):Int)] (I ((↑(List.length a.dig):Int) - (↑(List.length b.dig):Int)).sign)),([1,1,0,0],1,Ans.pure [a.d] (I a.fst)),([1,1,0,0],3,Ans.pure [b.d] (I b.fst)),([1,1,0,0],4,Ans.pure [I a.fst,I b.fst] (I (a.fst - b.fst).sign)),([1,1,1,0],4,Ans.pure [L a.dig 1 encB,L b.dig 1 encB] (I (cmpL a.dig b.dig)))]
theorem nDmg (a b:Nm) (K:D→Prop):runS (En Tryz.f69) (fi Tryz.f69 K) (nDmgs a b) lv69 200 [.code []] ⟨argSlots 0 [a.d,b.d],.empty⟩ =
 (List.length a.dig≤lenM→((!(↑(List.length a.dig):Int)==0)=true→List.length b.dig≤lenM)→bif bif (↑(List.length a.dig):Int)==0 then true else (↑(List.length b.dig):Int)==0 then List.length a.dig≤lenM→List.length b.dig≤lenM→PureW PP 72 [I (↑(List.length a.dig):Int),I (↑(List.length b.dig):Int)] [I (↑(List.length a.dig):Int),I (↑(List.length b.dig):Int)] (I ((↑(List.length a.dig):Int) - (↑(List.length b.dig):Int)).sign)∧K (I ((↑(List.length a.dig):Int) - (↑(List.length b.dig):Int)).sign) else PureW PP 68 [a.d] [a.d] (I a.fst)∧PureW PP 68 [b.d] [b.d] (I b.fst)∧PureW PP 72 [I a.fst,I b.fst] [I a.fst,I b.fst] (I (a.fst - b.fst).sign)∧bif (a.fst - b.fst).sign !=0 then K (I (a.fst - b.fst).sign) else PureW PP 121 [L a.dig 1 encB,L b.dig 1 encB] [L a.dig 1 encB,L b.dig 1 encB] (I (cmpL a.dig b.dig))∧K (I (cmpL a.dig b.dig))):=by kernel_rfl
theorem c69 (a b:Nm) (ha:a.dig.length≤1000000∧ -1000000≤a.ex∧a.ex≤1000000) (hb:b.dig.length≤1000000∧ -1000000≤b.ex∧b.ex≤1000000):Pure PP 69 [a.d,b.d] (I (magF a b)):=by
 refine pu F69 (by kernel_rfl) (of_eq (nDmg a b _) fun _ _=>cond_intro (fun h=> ?_) fun h=> ?_)
 ·have e:magF a b=((a.dig.length:Int) - (b.dig.length:Int)).sign:=by
   unfold magF
   rw [if_pos (show a.dig=[]∨b.dig=[] by simpa using h)]
  rw [e]
  exact fun _ _=>⟨PureW.mk (c72 _ _),Wk.refl _⟩
 ·have hn:¬ (a.dig=[]∨b.dig=[]):=by
   rintro (h1 | h1)
   ·rw [h1] at h; cases h
   ·rw [h1] at h
    cases hx:((a.dig.length:Int)==0) <;> rw [hx] at h <;> cases h
  refine ⟨PureW.mk (c68 a (by omega) (by omega) ha.1),PureW.mk (c68 b (by omega) (by omega) hb.1),PureW.mk (c72 _ _),cond_intro (fun h2=> ?_) fun h2=>⟨PureW.mk (c121 _ _),?_⟩⟩
  ·have e:magF a b=(a.fst - b.fst).sign:=by
    unfold magF
    rw [if_neg hn]
    rcases sgn3 (a.fst - b.fst) with ⟨h3,h4⟩ | ⟨h3,h4⟩ | ⟨h3,h4⟩
    ·rw [if_pos (by omega),h4]
    ·rw [h4] at h2; cases h2
    ·rw [if_neg (by omega),if_pos (by omega),h4]
   rw [e]; exact Wk.refl _
  ·have e:magF a b=cmpL a.dig b.dig:=by
    unfold magF
    have h3:a.fst - b.fst=0:=by simpa using h2
    rw [if_neg hn,if_neg (by omega),if_neg (by omega)]
   rw [e]; exact Wk.refl _
theorem F45:OkF 45 Tryz.f45:=⟨by kernel_rfl,by kernel_rfl,by kernel_rfl⟩
def lv45:List (List Nat × List Nat):=[]
noncomputable def nDcps (a:Nm) (b:Nm):List Nat→Nat→Option Ans:=scrAt [([1,0,0],1,Ans.pure [a.d] (I (sigF a))),([1,0,0],3,Ans.pure [b.d] (I (sigF b))),([1,0,0],4,Ans.pure [I (sigF a),I (sigF b)] (I (sigF a - sigF b).sign)),([1,1,0],1,Ans.pure [a.d] (I (sigF a))),([1,1,0],4,Ans.pure [a.d,b.d] (I (magF a b)))]
theorem nDcp (a b:Nm) (K:D→Prop):runS (En Tryz.f45) (fi Tryz.f45 K) (nDcps a b) lv45 200 [.code []] ⟨argSlots 0 [a.d,b.d],.empty⟩ =
 (PureW PP 65 [a.d] [a.d] (I (sigF a))∧PureW PP 65 [b.d] [b.d] (I (sigF b))∧PureW PP 72 [I (sigF a),I (sigF b)] [I (sigF a),I (sigF b)] (I (sigF a - sigF b).sign)∧bif (sigF a - sigF b).sign !=0 then K (I (sigF a - sigF b).sign) else PureW PP 65 [a.d] [a.d] (I (sigF a))∧PureW PP 69 [a.d,b.d] [a.d,b.d] (I (magF a b))∧K (I (mulI .i64 (sigF a) (magF a b)))):=by kernel_rfl
theorem c45 (a b:Nm) (ha:a.dig.length≤1000000∧ -1000000≤a.ex∧a.ex≤1000000) (hb:b.dig.length≤1000000∧ -1000000≤b.ex∧b.ex≤1000000) (hm : -1≤magF a b∧magF a b≤1):Pure PP 45 [a.d,b.d] (I (cmpF a b)):=by
 refine pu F45 (by kernel_rfl) (of_eq (nDcp a b _) ⟨PureW.mk (c65 a),PureW.mk (c65 b),PureW.mk (c72 _ _),cond_intro (fun h=> ?_) fun h=>⟨PureW.mk (c65 a),PureW.mk (c69 a b ha hb),?_⟩⟩)
 ·have h:(sigF a - sigF b).sign≠0:=by simpa using h
  unfold cmpF
  rw [if_pos h]; exact Wk.refl _
 ·have h:¬ (sigF a - sigF b).sign≠0:=by simpa using h
  have hs : -1≤sigF a∧sigF a≤1:=by
   unfold sigF
   split
   ·omega
   ·split <;> omega
  have e:mulI .i64 (sigF a) (magF a b)=sigF a * magF a b:=by
   refine IntWalk.i64_in _ ?_
   rcases (by omega:sigF a = -1∨sigF a=0∨sigF a=1) with h1 | h1 | h1 <;> rw [h1] <;> omega
  unfold cmpF
  rw [if_neg h,e]; exact Wk.refl _
end Go.Proofs.YtiekphbkomddfaaGreatDoor.S1
namespace Go.Proofs
open Go.Shelf
def Tryz.sv6_ren:Go.Shelf.Ren:=⟨fun | 6=>37 | 10=>60 | 11=>61 | 12=>62 | 13=>63 | 14=>64 | 24=>108 | 25=>109 | 26=>110 | 27=>111 | 28=>112 | 29=>113 | 30=>114 | 31=>115 | 32=>116 | 33=>117 | 34=>135 | 35=>136 | 36=>137 | 37=>138 | 38=>139 | 39=>163 | n=>n,fun | 20=>20 | 26=>78 | 35=>118 | 0=>0 | 37=>120 | 3=>3 | 41=>123 | 44=>126 | 49=>165 | 51=>167 | 4=>4 | 54=>170 | 53=>169 | 58=>82 | 5=>5 | 9=>9 | 60=>194 | 64=>198 | 66=>219 | 67=>220 | 17=>17 | 32=>115 | 33=>116 | 82=>262 | 12=>12 | 75=>255 | 76=>256 | 77=>257 | 78=>258 | 79=>259 | 80=>260 | n=>n,fun | n=>n⟩
theorem Tryz.sv6:Go.Proofs.LaysGg.n6 Tryz.prog Tryz.sv6_ren:={
 mixed:=by kernel_rfl
 f6:=Tryz.func37.trans (congrArg some (by kernel_rfl))
 f10:=Tryz.func60.trans (congrArg some (by kernel_rfl))
 f11:=Tryz.func61.trans (congrArg some (by kernel_rfl))
 f12:=Tryz.func62.trans (congrArg some (by kernel_rfl))
 f13:=Tryz.func63.trans (congrArg some (by kernel_rfl))
 f14:=Tryz.func64.trans (congrArg some (by kernel_rfl))
 f24:=Tryz.func108.trans (congrArg some (by kernel_rfl))
 f25:=Tryz.func109.trans (congrArg some (by kernel_rfl))
 f26:=Tryz.func110.trans (congrArg some (by kernel_rfl))
 f27:=Tryz.func111.trans (congrArg some (by kernel_rfl))
 f28:=Tryz.func112.trans (congrArg some (by kernel_rfl))
 f29:=Tryz.func113.trans (congrArg some (by kernel_rfl))
 f30:=Tryz.func114.trans (congrArg some (by kernel_rfl))
 f31:=Tryz.func115.trans (congrArg some (by kernel_rfl))
 f32:=Tryz.func116.trans (congrArg some (by kernel_rfl))
 f33:=Tryz.func117.trans (congrArg some (by kernel_rfl))
 f34:=Tryz.func135.trans (congrArg some (by kernel_rfl))
 f35:=Tryz.func136.trans (congrArg some (by kernel_rfl))
 f36:=Tryz.func137.trans (congrArg some (by kernel_rfl))
 f37:=Tryz.func138.trans (congrArg some (by kernel_rfl))
 f38:=Tryz.func139.trans (congrArg some (by kernel_rfl))
 f39:=Tryz.func163.trans (congrArg some (by kernel_rfl))
 t0:=Tryz.underlying0
 a0:=Tryz.isAgg0
 z0:=Tryz.sizeOf0
 v0:=Tryz.zeroValue0
 i0:=by kernel_rfl
 t3:=Tryz.underlying3
 a3:=Tryz.isAgg3
 z3:=Tryz.sizeOf3
 v3:=Tryz.zeroValue3
 i3:=by kernel_rfl
 t4:=Tryz.underlying4
 a4:=Tryz.isAgg4
 z4:=Tryz.sizeOf4
 v4:=Tryz.zeroValue4
 i4:=by kernel_rfl
 t5:=Tryz.underlying5
 a5:=Tryz.isAgg5
 z5:=Tryz.sizeOf5
 v5:=Tryz.zeroValue5
 i5:=by kernel_rfl
 t9:=Tryz.underlying9
 a9:=Tryz.isAgg9
 z9:=Tryz.sizeOf9
 v9:=Tryz.zeroValue9
 i9:=by kernel_rfl
 t12:=Tryz.underlying12
 a12:=Tryz.isAgg12
 z12:=Tryz.sizeOf12
 v12:=Tryz.zeroValue12
 i12:=by kernel_rfl
 t17:=Tryz.underlying17
 a17:=Tryz.isAgg17
 z17:=Tryz.sizeOf17
 v17:=Tryz.zeroValue17
 i17:=by kernel_rfl
 t20:=Tryz.underlying20
 a20:=Tryz.isAgg20
 z20:=Tryz.sizeOf20
 v20:=Tryz.zeroValue20
 i20:=by kernel_rfl
 t26:=Tryz.underlying78
 a26:=Tryz.isAgg78
 z26:=Tryz.sizeOf78
 v26:=Tryz.zeroValue78
 i26:=by kernel_rfl
 t32:=Tryz.underlying115
 a32:=Tryz.isAgg115
 z32:=Tryz.sizeOf115
 v32:=Tryz.zeroValue115
 i32:=by kernel_rfl
 t33:=Tryz.underlying116
 a33:=Tryz.isAgg116
 z33:=Tryz.sizeOf116
 v33:=Tryz.zeroValue116
 i33:=by kernel_rfl
 t35:=Tryz.underlying118
 a35:=Tryz.isAgg118
 z35:=Tryz.sizeOf118
 v35:=Tryz.zeroValue118
 i35:=by kernel_rfl
 t37:=Tryz.underlying120
 a37:=Tryz.isAgg120
 z37:=Tryz.sizeOf120
 v37:=Tryz.zeroValue120
 i37:=by kernel_rfl
 t41:=Tryz.underlying123
 a41:=Tryz.isAgg123
 z41:=Tryz.sizeOf123
 v41:=Tryz.zeroValue123
 i41:=by kernel_rfl
 t44:=Tryz.underlying126
 a44:=Tryz.isAgg126
 z44:=Tryz.sizeOf126
 v44:=Tryz.zeroValue126
 i44:=by kernel_rfl
 t49:=Tryz.underlying165
 a49:=Tryz.isAgg165
 z49:=Tryz.sizeOf165
 v49:=Tryz.zeroValue165
 i49:=by kernel_rfl
 t51:=Tryz.underlying167
 a51:=Tryz.isAgg167
 z51:=Tryz.sizeOf167
 v51:=Tryz.zeroValue167
 i51:=by kernel_rfl
 t53:=Tryz.underlying169
 a53:=Tryz.isAgg169
 z53:=Tryz.sizeOf169
 v53:=Tryz.zeroValue169
 i53:=by kernel_rfl
 t54:=Tryz.underlying170
 a54:=Tryz.isAgg170
 z54:=Tryz.sizeOf170
 v54:=Tryz.zeroValue170
 i54:=by kernel_rfl
 t58:=Tryz.underlying82
 a58:=Tryz.isAgg82
 z58:=Tryz.sizeOf82
 v58:=Tryz.zeroValue82
 i58:=by kernel_rfl
 t60:=Tryz.underlying194
 a60:=Tryz.isAgg194
 z60:=Tryz.sizeOf194
 v60:=Tryz.zeroValue194
 i60:=by kernel_rfl
 t64:=Tryz.underlying198
 a64:=Tryz.isAgg198
 z64:=Tryz.sizeOf198
 v64:=Tryz.zeroValue198
 i64:=by kernel_rfl
 t66:=Tryz.underlying219
 a66:=Tryz.isAgg219
 z66:=Tryz.sizeOf219
 v66:=Tryz.zeroValue219
 i66:=by kernel_rfl
 t67:=Tryz.underlying220
 a67:=Tryz.isAgg220
 z67:=Tryz.sizeOf220
 v67:=Tryz.zeroValue220
 i67:=by kernel_rfl
 t75:=Tryz.underlying255
 a75:=Tryz.isAgg255
 z75:=Tryz.sizeOf255
 v75:=Tryz.zeroValue255
 i75:=by kernel_rfl
 t76:=Tryz.underlying256
 a76:=Tryz.isAgg256
 z76:=Tryz.sizeOf256
 v76:=Tryz.zeroValue256
 i76:=by kernel_rfl
 t77:=Tryz.underlying257
 a77:=Tryz.isAgg257
 z77:=Tryz.sizeOf257
 v77:=Tryz.zeroValue257
 i77:=by kernel_rfl
 t78:=Tryz.underlying258
 a78:=Tryz.isAgg258
 z78:=Tryz.sizeOf258
 v78:=Tryz.zeroValue258
 i78:=by kernel_rfl
 t79:=Tryz.underlying259
 a79:=Tryz.isAgg259
 z79:=Tryz.sizeOf259
 v79:=Tryz.zeroValue259
 i79:=by kernel_rfl
 t80:=Tryz.underlying260
 a80:=Tryz.isAgg260
 z80:=Tryz.sizeOf260
 v80:=Tryz.zeroValue260
 i80:=by kernel_rfl
 t82:=Tryz.underlying262
 a82:=Tryz.isAgg262
 z82:=Tryz.sizeOf262
 v82:=Tryz.zeroValue262
 i82:=by kernel_rfl}
noncomputable def Tryz.svT:TypeInfo:=(Tryz.prog.info? 32).get (by kernel_rfl)
noncomputable def Tryz.svE:TypeInfo:=(Tryz.prog.info? 58).get (by kernel_rfl)
theorem Tryz.svK (n:Nat) (h2:2≤n):Lib.swapperK n Tryz.svE 25=9:=by
 have a:Tryz.svE.hasPointers=false:=by kernel_rfl
 have b:Tryz.svE.bytes=16:=by kernel_rfl
 have c:(n==0)=false:=by simp; omega
 have d:(n==1)=false:=by simp; omega
 simp [Lib.swapperK,a,b,c,d]
end Go.Proofs
namespace Go.Proofs.YtiekphbkomddfaaGreatDoor.S1
open Go Go.Ab Go.Proofs
def encI (x:Iv):List Value:=[.int .i64 x.frm,.int .i64 x.to]
def lessI (x y:Iv):Bool:=decide (x.frm < y.frm)
theorem swoI:Go.Sort.SWO lessI where
 irrefl x:=by unfold lessI; simp
 trans x y z h1 h2:=by unfold lessI at *; simp at *; omega
 ntrans x y z h1 h2:=by unfold lessI at *; simp at *; omega
def srtI (es:List Iv):List Iv:=if es.length≤1 then es else (Go.Sort.pdq lessI es.toArray 0 es.length (Go.Lib.bitLen es.length) true true).toList
theorem srtI_spec (es:List Iv):(srtI es).Perm es∧(srtI es).Pairwise fun x y=>x.frm≤y.frm:=by
 unfold srtI
 split
 ·rename_i h
  refine ⟨List.Perm.refl _,?_⟩
  rcases es with _ | ⟨x,_ | ⟨y,r⟩⟩
  ·exact List.Pairwise.nil
  ·simp
  ·simp at h
 have h:=Go.Sort.pdq_sorts lessI swoI es.toArray 0 es.length (Go.Lib.bitLen es.length) true true (Nat.zero_le _) (by simp) (Or.inl rfl)
 obtain ⟨⟨h1,_,h2⟩,h3⟩:=h
 have hsz:(Go.Sort.pdq lessI es.toArray 0 es.length (Go.Lib.bitLen es.length) true true).size=es.length:=by rw [h1]; simp
 generalize Go.Sort.pdq lessI es.toArray 0 es.length (Go.Lib.bitLen es.length) true true=A at *
 refine ⟨?_,?_⟩
 ·have e1:A.extract 0 es.length=A:=by rw [← hsz]; simp
  have e2:es.toArray.extract 0 es.length=es.toArray:=by simp
  rw [e1,e2] at h2
  exact h2
 ·rw [List.pairwise_iff_getElem]
  intro i j hi hj hij
  have hi':i < A.size:=by simpa using hi
  have hj':j < A.size:=by simpa using hj
  have:=h3 i j (Nat.zero_le _) hij (by omega)
  rw [getElem!_pos _ i hi',getElem!_pos _ j hj'] at this
  unfold lessI at this
  simp at this ⊢
  omega
theorem srtI_len (es:List Iv):(srtI es).length=es.length:=(srtI_spec es).1.length_eq
theorem Inv.vrow [Lay] {g:G} {U:Nat→Prop} {bx:Nat→Option Row} {nl nt t n:Nat} {hw:Nat→Option Nat} {vw:Nat→Option (Nat→D)} {f f':Nat→D} {w w':World} {k:Tok} {b T:Nat} {vals':Array Value}
  (i:Inv g U ⟨bx,nl,hw,nt,upd vw t (some f)⟩ w) (hn:hw t=some n) (hk:g.τ t=some k) (hcap:0 < k.cap) (ha:k.a=some ⟨b,0,none⟩)
  (hb':RowB w' b vals' T) (hsz:k.cap * k.sz≤vals'.size∧T=k.ty) (hf:∀ i,i < k.n→∃ u,R g (f' i) u∧(u.cells.size=k.sz∧ones (f' i)=true)∧∀ j,j < k.sz→vals'[i * k.sz+j]? = u.cells[j]?)
  (hs:w.heap.size≤w'.heap.size) (ho:∀ k,k≠b→k < w.heap.size→w'.heap[k]? = w.heap[k]?):Inv g U ⟨bx,nl,hw,nt,upd vw t (some f')⟩ w':=by
 have hA:∀ (t':Nat) (k':Tok),Actv k' (upd vw t (some f') t')↔Actv k' (upd vw t (some f) t'):=fun t' k'=>by
  by_cases h:t'=t
  ·subst h; rw [upd_same,upd_same]; rfl
  ·rw [upd_other _ _ h,upd_other _ _ h]
 obtain ⟨k0,e1,e2,e3⟩:=i.tok t n hn
 rw [hk] at e1; cases e1
 have hvt:(upd vw t (some f)) t=some f:=upd_same _ _ _
 have hact:Actv k (upd vw t (some f) t):=by rw [hvt]; exact hcap
 have hTk:=e3 hact
 obtain ⟨b0,f1,f2,T0,vals,f3,f4,f5,f6⟩:=id hTk
 rw [ha] at f1; cases f1
 have hsg:∀ a v,g.σ a=some v→a.block≠b:=fun a v e hb=>by
  obtain ⟨_,h2⟩:=i.sub a v e
  obtain ⟨bl,off,sp⟩:=a
  simp only at h2 hb
  subst h2; subst hb
  have hl:lowOf k (upd vw t (some f) t)=0:=by rw [hvt]; rfl
  have:=f5 off (by show lowOf k (upd vw t (some f) t) * k.sz≤off; rw [hl]; omega)
  rw [this] at e; cases e
 have cellEq:∀ {a:Addr},a.block≠b→a.block < w.heap.size→w'.cell? a=w.cell? a:=fun h1 h2=>by simp only [World.cell?,ho _ h1 h2]
 refine ⟨fun a v e=> ?_,fun k hk=>Nat.lt_of_lt_of_le (i.ub k hk) hs,fun l' k e=>Nat.lt_of_lt_of_le (i.muLt l' k e) hs,fun l' r e=> ?_,i.boxInj,fun t' m e=> ?_,fun t' m k' bb l' e f1 f2 f3 f4=>i.tokBox t' m k' bb l' e f1 ((hA t' k').1 f2) f3 f4,fun t1 t2 n1 n2 k1 k2 bb a1 a2 a3 a4 a5 a6 a7 a8=>i.tokInj t1 t2 n1 n2 k1 k2 bb a1 a2 a3 a4 ((hA t1 k1).1 a5) ((hA t2 k2).1 a6) a7 a8,i.frL,i.frT,fun t' ht'=> ?_,⟨i.ltab.1,fun b1 cs hr=>by
  obtain ⟨T1,fz1,h1⟩:=i.ltab.2 b1 cs hr
  obtain ⟨hp,hh⟩:=Lay.has b1 cs hr
  obtain ⟨v,hv⟩:=hh 0 hp
  exact ⟨T1,fz1,(ho b1 (hsg _ v (i.ltab.1 _ _ hv)) (lt_of_heap h1)).trans h1⟩⟩⟩
 ·obtain ⟨h1,h2⟩:=i.sub a v e
  exact ⟨(cellEq (hsg a v e) (i.cellLt e)).trans h1,h2⟩
 ·obtain ⟨b1,g1,g2,g4,g5⟩:=i.box l' r e
  have hne:b1≠b:=fun h=>by subst h; exact i.tokBox t n k _ l' hn hk hact ha (by show bx l'≠none; have e:bx l'=some r:=e; rw [e]; simp) g1
  exact ⟨b1,g1,g2.mono (G.le.refl g) (ho _ hne (i.muLt l' b1 g1)),g4,g5⟩
 ·obtain ⟨k',g1,g2,g3⟩:=i.tok t' m e
  refine ⟨k',g1,g2,fun hk'=> ?_⟩
  have hk'':=(hA t' k').1 hk'
  by_cases h:t'=t
  ·subst h
   rw [hk] at g1; cases g1
   show TokAt g w' U k (upd vw t' (some f') t')
   rw [upd_same]
   refine ⟨b,ha,f2,T,vals',hb',hsz,fun j hj=>f5 j (by show lowOf k (upd vw t' (some f) t') * k.sz≤j; rw [hvt]; exact hj),fun get hget=> ?_⟩
   cases hget
   exact ⟨(f6 f hvt).1,hf⟩
  ·have h5:=g3 hk''
   have h6:(⟨bx,nl,hw,nt,upd vw t (some f')⟩:Heap).vw t'=(⟨bx,nl,hw,nt,upd vw t (some f)⟩:Heap).vw t':=by
    show upd vw t (some f') t'=upd vw t (some f) t'
    rw [upd_other _ _ h,upd_other _ _ h]
   rw [h6]
   refine h5.mono (G.le.refl g) fun bt c1 hlt=>⟨ho _ (fun hb=> ?_) hlt,fun _ h=>h⟩
   subst hb
   exact h (i.tokInj t' t m n k' k _ e hn g1 hk hk'' hact c1 ha)
 ·have:=i.frV t' ht'
  have hne:t'≠t:=fun h=>by
   subst h
   have:(upd vw t' (some f)) t'=none:=this
   rw [upd_same] at this; cases this
  show upd vw t (some f') t'=none
  rw [upd_other _ _ hne]
  have h7:upd vw t (some f) t'=none:=this
  rw [upd_other _ _ hne] at h7
  exact h7
end Go.Proofs.YtiekphbkomddfaaGreatDoor.S1
namespace Go.Proofs.YtiekphbkomddfaaGreatDoor.S1
open Go Go.Ab Go.Proofs
open Go.Shelf Go.RowKit Go.Lib Go.Sort in
set_option maxHeartbeats 2000000 in
theorem lessC (blk c Bs o size:Nat) (W:World) (G:Nat→Int) (hs:W.cell? ⟨Bs,o,none⟩=some (.slice (some ⟨blk,0,none⟩) size c))
  (hc:∀ t,t < size→W.cell? ⟨blk,t * 2,none⟩=some (.int .i64 (G t))) (i j:Nat) (hi:i < size) (hj:j < size) (_hsz:size < 4611686018427387904) :
  Calls Tryz.prog 38 #[.int .i64 i,.int .i64 j,.pointer (some ⟨Bs,o,none⟩)] W fun e w'=>e = .returned (.bool (decide (G i < G j)))∧∃ q,w'=W.drewN q:=by
 have ci:=hc i hi
 have cj:=hc j hj
 go_enter Tryz.func38,Tryz.ntmps38
 go_wp2
 go_quiet (fail)
 go_wp2
 go_ret
 exact ⟨rfl,nq,rfl⟩
open Go.Shelf Go.RowKit Go.Lib Go.Sort in
theorem sortC (blk c Bs o:Nat) (d:Array Iv) (h2:2≤d.size) (hsz:d.size < 4611686018427387904) (w:World) (hH:HoldsK encI 2 w blk 0 d) (hblk:blk < w.heap.size)
  (hBs:w.cell? ⟨Bs,o,none⟩=some (.slice (some ⟨blk,0,none⟩) d.size c)) (hB1:Bs < w.heap.size) (hB2:Bs≠blk) :
  Calls Tryz.prog 37 #[.iface 32 (.slice (some ⟨blk,0,none⟩) d.size c),.func (.func 38) #[] #[.pointer (some ⟨Bs,o,none⟩)]] w fun e w' =>
   e = .returned (.tuple #[])∧∃ n os,w'=grow (putRowK encI 2 (Sort.ahead w n) blk 0 (pdq lessI d 0 d.size (Lib.bitLen d.size) true true)) os:=by
 have hless:LessReadsK Tryz.prog 38 #[.pointer (some ⟨Bs,o,none⟩)] encI 2 lessI blk 0 d.size w:=by
  intro m os dk hs i j hi hj
  have e:sortWorldK encI 2 w blk 0 m dk os=putRowK encI 2 (grow (Sort.ahead w m) os) blk 0 dk:=by
   unfold sortWorldK; rw [putRowK_grow _ _ (Sort.ahead w m) _ blk 0 _ hblk]
  have hHg:HoldsK encI 2 (grow (Sort.ahead w m) os) blk 0 d:=holdsK_grow _ _ _ _ blk 0 d hblk (holdsK_ahead _ _ _ _ _ _ _ hH)
  refine lessC blk c Bs o d.size _ (fun t=>dk[t]!.frm) ?_ (fun t ht=> ?_) i j hi hj (by omega)
  ·rw [e,cell?_putRowK_other _ _ _ blk 0 dk _ (by exact hB2),cell?_grow _ _ _ (by exact hB1)]; exact hBs
  ·rw [e]
   have:=((holdsK_putRowK _ _ _ blk 0 d dk hHg hs).cell (i:=t) (c:=0) (by omega) (by omega)).1
   rw [show 0+t * 2+0=t * 2 by omega] at this
   exact this
 exact Any.sort_Slice_cells_eq Tryz.sv6 32 58 Tryz.svT Tryz.svE (by kernel_rfl) (by kernel_rfl) (by kernel_rfl) (by kernel_rfl) 25 (fun _=>by kernel_rfl) encI 2 (fun _=>rfl) (by kernel_rfl) (fun _=>by kernel_rfl)
  (fun x v hv=>by simp [encI] at hv; rcases hv with rfl | rfl <;> rfl) lessI swoI 38 _
  (enters_of Tryz.func38 (by kernel_rfl) rfl) blk 0 c d h2 hsz 107 (by rw [Tryz.svK _ h2]; kernel_rfl) false
  (fun args W=>run_callFunc_extern Tryz.func107 (by kernel_rfl) (by kernel_rfl) (by kernel_rfl) (e:=Extern.ReflectliteSwapper.swap false) (by kernel_rfl) args W) w hless hH hblk
open Go.Shelf Go.RowKit Go.Lib Go.Sort in
theorem sortT (p:Option Addr) (n c:Nat) (h1:n≤1) (la lb:Array Value) (lf:Fn) (w:World) :
  Calls Tryz.prog 37 #[.iface 32 (.slice p n c),.func lf la lb] w fun e w'=>e = .returned (.tuple #[])∧∃ os,w'=grow w os:=by
 rcases (by omega:n=0∨n=1) with rfl | rfl
 ·exact Any.sort_Slice_tiny Tryz.sv6 32 58 Tryz.svT Tryz.svE (by kernel_rfl) (by kernel_rfl) (by kernel_rfl) (by kernel_rfl) 25 (fun _=>by kernel_rfl) p 0 c (by omega) 99 (by kernel_rfl) lf la lb w
 ·exact Any.sort_Slice_tiny Tryz.sv6 32 58 Tryz.svT Tryz.svE (by kernel_rfl) (by kernel_rfl) (by kernel_rfl) (by kernel_rfl) 25 (fun _=>by kernel_rfl) p 1 c (by omega) 100 (by kernel_rfl) lf la lb w
open Go.Shelf Go.RowKit Go.Lib Go.Sort in
theorem sortWI {w:World} {b n:Nat} {d:Array Iv} {os:Array Obj} {vals:Array Value} {T:Nat} {fz:Nat × Nat} (hb:w.heap[b]? = some (.cells vals T fz)) :
  (sortWorldK encI 2 w b 0 n d os).heap[b]? = some (.cells (putCells id 0 (flatK encI 2 d) vals) T fz)∧(∀ k,k≠b→k < w.heap.size→(sortWorldK encI 2 w b 0 n d os).heap[k]? = w.heap[k]?)∧w.heap.size≤(sortWorldK encI 2 w b 0 n d os).heap.size ∧
   (sortWorldK encI 2 w b 0 n d os).os=w.os∧(sortWorldK encI 2 w b 0 n d os).tape=w.tape∧(sortWorldK encI 2 w b 0 n d os).output=w.output:=by
 have hlt:b < w.heap.size:=lt_of_heap hb
 refine ⟨?_,fun k hk hkl=> ?_,?_,rfl,rfl,rfl⟩
 ·simp only [sortWorldK,grow,putRowK,putRow,mapBlock,Sort.ahead]
  rw [Array.getElem?_append_left (by simpa using hlt),Array.getElem?_modify,if_pos rfl,hb]
  rfl
 ·simp only [sortWorldK,grow,putRowK,putRow,mapBlock,Sort.ahead]
  rw [Array.getElem?_append_left (by simpa using hkl),Array.getElem?_modify,if_neg (fun h=>hk h.symm)]
 ·simp [sortWorldK,grow,putRowK,putRow,mapBlock,Sort.ahead]
def cellI (es:List Iv) (j:Nat):Int:=if j % 2=0 then (es.getD (j / 2) default).frm else (es.getD (j / 2) default).to
theorem getD_list' {es:List Iv} {i:Nat} (h:i < es.length):es.getD i default=es[i]:=by simp [List.getD,h]
theorem cellI_v (es:List Iv) (j:Nat) (h:j < es.length * 2):(Go.Sort.flatK encI 2 es.toArray)[j]! = .int .i64 (cellI es j):=by
 rw [Go.Sort.get_flatK _ _ _ _ (by simpa using h)]
 have hj:j / 2 < es.length:=by omega
 have e:es.toArray[j / 2]! = es.getD (j / 2) default:=by
  rw [getElem!_pos _ _ (by simpa using hj),getD_list' hj]; simp
 rw [e]
 unfold cellI
 rcases (by omega:j % 2=0∨j % 2=1) with h | h <;> rw [h] <;> rfl
theorem R_iv {g:G} {x:Iv} {u:Value} (h:R g (Iv.d x) u):u = .agg #[.int .i64 x.frm,.int .i64 x.to]:=by
 simp only [Iv.d,R,Rs] at h
 obtain ⟨vs,rfl,_,_,rfl,rfl,_,_,rfl,rfl,rfl⟩:=h
 rfl
theorem iv_R (g:G) (x:Iv):R g (Iv.d x) (.agg #[.int .i64 x.frm,.int .i64 x.to]):=by
 simp only [Iv.d,R,Rs]
 exact ⟨[.int .i64 x.frm,.int .i64 x.to],rfl,_,_,rfl,rfl,_,_,rfl,rfl,rfl⟩
theorem below_grow' (w:World) (os:Array Obj):RowKit.Below w.heap.size w (Go.Sort.grow w os) :=
 ⟨rfl,rfl,rfl,by simp [Go.Sort.grow],fun k hk=>Go.Sort.heap_grow_old w os hk⟩
open Go.Shelf Go.RowKit Go.Lib Go.Sort in
theorem e37 [Lay] (es:List Iv) (hl:es.length≤1000000):Does PP 37 [.iface 32 (.vec 0 es.length 2),.clo 38 [.ep [.vec 0 es.length 2]]] (hVec es Iv.d) (.tup []) (hVec (srtI es) Iv.d):=by
 refine Does.of_calls ⟨Tryz.f37,by kernel_rfl,by kernel_rfl,by kernel_rfl⟩ fun g U w vs i hs=> ?_
 simp only [Rs,R] at hs
 obtain ⟨_,_,rfl,⟨u,rfl,_,a,cap,rfl,hcap,k,hk,hks,hkn,hka⟩,_,_,rfl,⟨cvs,rfl,_,_,rfl,⟨p,pvs,rfl,hp,⟨_,_,rfl,⟨_,a2,cap2,rfl,hcap2,k2,hk2,hks2,hkn2,hka2⟩,rfl⟩,hσ⟩,rfl⟩,rfl⟩:=hs
 have hhw:(hVec es Iv.d).hw 0=some es.length:=rfl
 obtain ⟨k3,e1,e2,e3⟩:=i.tok 0 es.length hhw
 rw [hk] at e1 hk2
 cases e1; cases hk2
 obtain ⟨rfl,rfl⟩:=hka e2.symm
 obtain ⟨rfl,rfl⟩:=hka2 e2.symm
 by_cases h1:es.length≤1
 ·refine (sortT k.a es.length k.cap h1 #[] _ _ w).mono fun e w' ⟨he,os,hw'⟩=> ?_
  subst hw'
  have x:Ext g w g (grow w os):=⟨G.le.refl g,rfl,rfl,fun _ _ e=> .inl e,fun a v e=>⟨(cell?_grow w os a (i.cellLt e)).trans (i.sub a v e).1,(i.sub a v e).2⟩,below_grow' w os⟩
  have hse:srtI es=es:=if_pos h1
  rw [hse]
  exact ⟨.tuple #[],g,he,by simp [R,Rs],i.ext x,Grow.refl U g,x.kept i.ub⟩
 have h2:2≤es.length:=by omega
 have hc0:0 < k.cap:=by omega
 have hvw:(hVec es Iv.d).vw 0=some (cv es Iv.d):=rfl
 have hTk:=e3 (by rw [hvw]; exact hc0)
 rw [hvw] at hTk
 obtain ⟨b,f1,f2,T,vals,⟨fz,f3,hfz⟩,f4,f5,f6⟩:=hTk
 obtain ⟨f7,f8⟩:=f6 _ rfl
 rw [f1]
 rw [hks] at f4 f8
 rw [e2] at f7 f8
 have hlt:b < w.heap.size:=lt_of_heap f3
 obtain ⟨Bs,o,sp⟩:=p
 simp only at hp hσ
 subst hp
 have hσ0:=hσ 0 (by simp)
 simp only [Nat.add_zero,List.getElem?_cons_zero] at hσ0
 have hB:=(i.sub _ _ hσ0).1
 have hB1:Bs < w.heap.size:=i.cellLt hσ0
 have hB2:Bs≠b:=fun h=>by
  subst h
  have:=f5 o (Nat.le_trans (by show 0 * k.sz≤0; omega) (Nat.zero_le _))
  rw [this] at hσ0; cases hσ0
 have hH:HoldsK encI 2 w b 0 es.toArray:=by
  intro j hj
  have hj':j < es.length * 2:=by simpa using hj
  obtain ⟨u,h3,h4,h5⟩:=f8 (j / 2) (by omega)
  have hu:=R_iv h3
  subst hu
  have h6:=h5 (j % 2) (by omega)
  rw [show j / 2 * 2+j % 2=j by omega] at h6
  have hv:vals[j]? = some (.int .i64 (cellI es j)):=by
   rw [h6]
   unfold cellI
   rcases (by omega:j % 2=0∨j % 2=1) with h | h <;> rw [h] <;> rfl
  rw [cellI_v es j hj']
  simp only [World.cell?,World.frozen?,f3,Nat.zero_add]
  refine ⟨hv,?_⟩
  have:=hfz j (by omega)
  rw [← Bool.not_eq_true,Bool.and_eq_true,decide_eq_true_eq,decide_eq_true_eq]
  exact this
 rw [f1] at hB
 refine (sortC b k.cap Bs o es.toArray (by simpa using h2) (by simp; omega) w hH hlt (by simpa using hB) hB1 hB2).mono fun e w' ⟨he,n,os,hw'⟩=> ?_
 subst hw'
 have hsz:es.toArray.size=es.length:=by simp
 rw [hsz]
 obtain ⟨g1,g2,g3,g4,g5,g6⟩:=sortWI (n:=n) (d:=pdq lessI es.toArray 0 es.length (Lib.bitLen es.length) true true) (os:=os) f3
 have hd:pdq lessI es.toArray 0 es.length (Lib.bitLen es.length) true true=(srtI es).toArray:=by simp [srtI,h1]
 rw [hd] at g1 g2 g3 g4 g5 g6 ⊢
 have hlen:=srtI_len es
 refine ⟨.tuple #[],g,he,by simp [R,Rs],?_,Grow.refl U g,⟨g4,g5,g6,g3,fun k hk=>g2 k (fun h=>f2 (h▸hk)) (i.ub k hk),fun k hk=> ?_⟩⟩
 ·have hH2:hVec (srtI es) Iv.d=⟨fun _=>none,0,upd (fun _=>none) 0 (some es.length),1,upd (fun _=>none) 0 (some (cv (srtI es) Iv.d))⟩:=by
   unfold hVec; rw [hlen]
  rw [hH2]
  have hps:NoFz fz (putCells id 0 (flatK encI 2 (srtI es).toArray) vals).size:=by
   have:(putCells id 0 (flatK encI 2 (srtI es).toArray) vals).size=vals.size:=by simp [putCells]
   rw [this]; exact hfz
  refine Inv.vrow (k:=k) (b:=b) i hhw hk hc0 f1 ⟨fz,g1,hps⟩ ⟨by rw [hks]; simp [putCells]; exact f4.1,f4.2⟩ (fun q hq=> ?_) g3 g2
  rw [e2] at hq
  refine ⟨_,iv_R g _,⟨by rw [hks]; rfl,rfl⟩,fun j hj=> ?_⟩
  rw [hks] at hj ⊢
  have hq2:q * 2+j < (srtI es).length * 2:=by omega
  have hcell:=cellI_v (srtI es) (q * 2+j) hq2
  have hvs:q * 2+j < vals.size:=by omega
  have hget:(putCells id 0 (flatK encI 2 (srtI es).toArray) vals)[q * 2+j]? = some (.int .i64 (cellI (srtI es) (q * 2+j))):=by
   rw [← hcell]
   simp [putCells,Array.getElem?_eq_getElem hvs,hq2]
  rw [hget]
  unfold cellI
  rw [show (q * 2+j) / 2=q by omega,show (q * 2+j) % 2=j by omega]
  rcases (by omega:j=0∨j=1) with rfl | rfl <;> rfl
 ·by_cases hkb:k=b
  ·subst hkb
   rw [f3] at hk; cases hk
  ·exact (g2 k hkb (lt_of_heap hk)).trans hk
end Go.Proofs.YtiekphbkomddfaaGreatDoor.S1
namespace Go.Proofs.YtiekphbkomddfaaGreatDoor.S1
open Go Go.Ab Go.Proofs
def clip1I (f t:Int) (x:Iv):Option Iv :=
 if (if f > x.frm then f else x.frm)≤(if t < x.to then t else x.to) then some ⟨if f > x.frm then f else x.frm,if t < x.to then t else x.to⟩ else none
def lastI' (out:List Iv):Iv:=out.getD (out.length - 1) default
def mrg (out:List Iv) (x:Iv):List Iv :=
 if out≠[]∧x.frm≤addI .i64 (lastI' out).to 1 then out.set (out.length - 1) ⟨(lastI' out).frm,if x.to > (lastI' out).to then x.to else (lastI' out).to⟩ else out++[x]
def loT (f:Int):Int:=if 0 > f then 0 else f
def hiT (t:Int):Int:=if 1099511627776 < t then 1099511627776 else t
def iclip (l:List Iv) (f t:Int):List Iv:=(srtI (l.filterMap (clip1I (loT f) (hiT t)))).foldl mrg []
theorem mrg_len (out:List Iv) (x:Iv):(mrg out x).length≤out.length+1:=by
 unfold mrg
 split <;> simp
theorem F20:OkF 20 Tryz.f20:=⟨by kernel_rfl,by kernel_rfl,by kernel_rfl⟩
def lv20:List (List Nat × List Nat):=[([1,1,1,0,1,0],[1,2,7,18,19,20]),([1,1,1,1,1,1,0,1,0],[10,48,49,50])]
noncomputable def nics:List Nat→Nat→Option Ans:=scrAt []
theorem nic [Lay] (l:List Iv) (f t:Int) (K:D→Heap→Prop):runS (EnV [] [42,87] Tryz.f20) (fh Tryz.f20 K) (nics ) lv20 200 [.code []] ⟨argSlots 0 [L l 2 Iv.d,I f,I t],.empty⟩ =
 (l.length≤lenM→At (EnV [] [42,87] Tryz.f20) (fh Tryz.f20 K) [It.code [1,1,1,0,1,0],It.blk 0,It.code [1,1,1,1]] {sl:=[(1,I (if 0 > f then 0 else f)),(2,I (if 1099511627776 < t then 1099511627776 else t)),(7,.own [.list 0 0 (fun _=>D.junk) .full]),(18,L l 2 Iv.d),(19,I (↑l.length:Int)),(20,I 0)],h:=Heap.empty:St}):=by kernel_rfl
def Sic (l out:List Iv) (f t i:Int):St:=⟨[(1,I f),(2,I t),(7,.own [.vec 0 out.length 2]),(18,L l 2 Iv.d),(19,I l.length),(20,I i)],hVec out Iv.d⟩
def lvIc:List (List Nat × List Nat):=[([1,1,1,1],[7])]
noncomputable def nicas:List Nat→Nat→Option Ans:=scrAt []
theorem nica [Lay] (l out:List Iv) (f t i:Int) (J:St→Prop) (K:D→Heap→Prop):runS (EnV [] [42,87] Tryz.f20) (fh Tryz.f20 K) (nicas ) lvIc 200 [.code [1,1,1,0,1,0,0],stp [1,2,7,18,19,20] J,.blk 0,.code [1,1,1,1]] (Sic l out f t i) =
 (bif decide (i < (↑l.length:Int)) then (0≤i∧i < (↑l.length:Int))∧True∧True∧True∧bif decide ((if f > (l.getD i.toNat default).frm then f else (l.getD i.toNat default).frm)≤if t < (l.getD i.toNat default).to then t else (l.getD i.toNat default).to) then (upd (fun _=>none) 0 (some out.length) 0=some out.length∧(out.length+1) * 16≤roomM)∧True∧J {sl:=[(1,I f),(2,I t),(7,.own [D.vec 0 (out.length+1) 2]),(18,L l 2 Iv.d),(19,I (↑l.length:Int)),(20,I (addI .i64 i 1))],h:={box:=fun _=>none,nl:=0,hw:=upd (upd (fun _=>none) 0 (some out.length)) 0 (some (out.length+1)),nt:=1,vw:=upd (upd (fun _=>none) 0 (some (cv out Iv.d))) 0 (some (catG out.length (cv out Iv.d) (litG [.agg [I (if f > (l.getD i.toNat default).frm then f else (l.getD i.toNat default).frm),I (if t < (l.getD i.toNat default).to then t else (l.getD i.toNat default).to)]]))):Heap}:St} else J {sl:=[(1,I f),(2,I t),(7,.own [D.vec 0 out.length 2]),(18,L l 2 Iv.d),(19,I (↑l.length:Int)),(20,I (addI .i64 i 1))],h:={box:=fun _=>none,nl:=0,hw:=upd (fun _=>none) 0 (some out.length),nt:=1,vw:=upd (fun _=>none) 0 (some (cv out Iv.d)):Heap}:St} else At (EnV [] [42,87] Tryz.f20) (fh Tryz.f20 K) [It.code [1,1,1,1]] {sl:=[(7,.own [D.vec 0 out.length 2])],h:={box:=fun _=>none,nl:=0,hw:=upd (fun _=>none) 0 (some out.length),nt:=1,vw:=upd (fun _=>none) 0 (some (cv out Iv.d)):Heap}:St}):=by kernel_rfl
def lvId:List (List Nat × List Nat):=[([1,1,1,1,1,1,0,1,0],[10,48,49,50])]
noncomputable def nicbs (out:List Iv):List Nat→Nat→Option Ans:=scrAt [([1,1,1,1,0],3,Ans.eff (.tup []) (hVec (srtI out) Iv.d))]
theorem nicb [Lay] (out:List Iv) (K:D→Heap→Prop):runS (EnV [] [42,87] Tryz.f20) (fh Tryz.f20 K) (nicbs out) lvId 200 [.code [1,1,1,1]] ⟨[(7,.ep [.vec 0 out.length 2])],hVec out Iv.d⟩ =
 (Does PP 37 [D.iface 32 (D.vec 0 out.length 2),D.clo 38 [D.ep [D.vec 0 out.length 2]]] {box:=fun _=>none,nl:=0,hw:=upd (fun _=>none) 0 (some out.length),nt:=1,vw:=upd (fun _=>none) 0 (some (cv out Iv.d)):Heap} (.tup []) (hVec (srtI out) Iv.d)∧(out.length≤lenM→At (EnV [] [42,87] Tryz.f20) (fh Tryz.f20 K) [It.code [1,1,1,1,1,1,0,1,0],It.blk 2,It.code [1,1,1,1,1,1,1]] {sl:=[(10,.list 0 0 (fun _=>D.junk) .full),(48,D.vec 0 out.length 2),(49,I (↑out.length:Int)),(50,I 0)],h:={box:=fun _=>none,nl:=0,hw:=upd (fun _=>none) 0 (some (srtI out).length),nt:=1,vw:=upd (fun _=>none) 0 (some (cv (srtI out) Iv.d)):Heap}:St})):=by kernel_rfl
def Sie (q out:List Iv) (i:Int):St:=⟨[(10,.vec 1 out.length 2),(48,L q 2 Iv.d),(49,I q.length),(50,I i)],⟨fun _=>none,0,upd (fun _=>none) 1 (some out.length),2,upd (fun _=>none) 1 (some (cv out Iv.d))⟩⟩
noncomputable def niccs:List Nat→Nat→Option Ans:=scrAt []
theorem nicc [Lay] (q out:List Iv) (i:Int) (J:St→Prop) (K:D→Heap→Prop):runS (EnV [] [42,87] Tryz.f20) (fh Tryz.f20 K) (niccs ) nolv 200 [.code [1,1,1,1,1,1,0,1,0,0],stp [10,48,49,50] J,.blk 2,.code [1,1,1,1,1,1,1]] (Sie q out i) =
 (bif decide (i < (↑q.length:Int)) then
 (0≤i∧i < (↑q.length:Int)) ∧
  True ∧
   (out.length≤lenM →
    (decide ((↑out.length:Int) > 0)=true→upd (fun _=>none) 1 (some out.length) 1=some out.length∧0≤subI .i64 (↑out.length:Int) 1∧subI .i64 (↑out.length:Int) 1 < (↑out.length:Int)) ∧
     (decide ((↑out.length:Int) > 0)=true→upd (fun _=>none) 1 (some out.length) 1=some out.length) ∧
      bif bif decide ((↑out.length:Int) > 0) then decide ((q.getD i.toNat default).frm≤addI .i64 (out.getD (subI .i64 (↑out.length:Int) 1).toNat default).to 1) else false then (upd (fun _=>none) 1 (some out.length) 1=some out.length∧0≤subI .i64 (↑out.length:Int) 1∧subI .i64 (↑out.length:Int) 1 < (↑out.length:Int))∧upd (fun _=>none) 1 (some out.length) 1=some out.length∧(upd (fun _=>none) 1 (some out.length) 1=some out.length∧0≤subI .i64 (↑out.length:Int) 1∧subI .i64 (↑out.length:Int) 1 < (↑out.length:Int))∧upd (fun _=>none) 1 (some out.length) 1=some out.length∧J {sl:=[(10,D.vec 1 out.length 2),(48,L q 2 Iv.d),(49,I (↑q.length:Int)),(50,I (addI .i64 i 1))],h:={box:=fun _=>none,nl:=0,hw:=upd (fun _=>none) 1 (some out.length),nt:=2,vw:=upd (upd (fun _=>none) 1 (some (cv out Iv.d))) 1 (some (setG (cv out Iv.d) (subI .i64 (↑out.length:Int) 1).toNat (.agg [I (out.getD (subI .i64 (↑out.length:Int) 1).toNat default).frm,I (if (q.getD i.toNat default).to > (out.getD (subI .i64 (↑out.length:Int) 1).toNat default).to then (q.getD i.toNat default).to else (out.getD (subI .i64 (↑out.length:Int) 1).toNat default).to)]))):Heap}:St} else (upd (fun _=>none) 1 (some out.length) 1=some out.length∧(out.length+1) * 16≤roomM)∧J {sl:=[(10,D.vec 1 (out.length+1) 2),(48,L q 2 Iv.d),(49,I (↑q.length:Int)),(50,I (addI .i64 i 1))],h:={box:=fun _=>none,nl:=0,hw:=upd (upd (fun _=>none) 1 (some out.length)) 1 (some (out.length+1)),nt:=2,vw:=upd (upd (fun _=>none) 1 (some (cv out Iv.d))) 1 (some (catG out.length (cv out Iv.d) (litG [.agg [I (q.getD i.toNat default).frm,I (q.getD i.toNat default).to]]))):Heap}:St})
 else K (D.vec 1 out.length 2) {box:=fun _=>none,nl:=0,hw:=upd (fun _=>none) 1 (some out.length),nt:=2,vw:=upd (fun _=>none) 1 (some (cv out Iv.d)):Heap}):=by kernel_rfl
theorem heap_c {hw0:Nat→Option Nat} {vw0:Nat→Option (Nat→D)} {n:Nat} {f:Nat→D}:HeapLe ⟨fun _=>none,0,upd hw0 1 (some n),2,upd vw0 1 (some f)⟩ ⟨fun _=>none,0,upd (fun _=>none) 1 (some n),2,upd (fun _=>none) 1 (some f)⟩:=by
 have h1:∀ (t k:Nat),upd (fun _=>(none:Option Nat)) 1 (some n) t=some k→t=1:=fun t k e=>by
  by_cases h:t=1
  ·exact h
  ·rw [upd_other _ _ h] at e; cases e
 refine ⟨fun l row' e=>(by cases e),Nat.le_refl _,fun t k e=> ?_,Nat.le_refl _,fun t k e=> ?_,fun t e=> ?_⟩
 ·have:=h1 t k e
  subst this
  exact e
 ·have:=h1 t k e
  subst this
  exact VwLe.refl _ _
 ·show upd (fun _=>none) 1 (some f) t=none
  by_cases h:t=1
  ·subst h
   have e:upd vw0 1 (some f) 1=none:=e
   rw [upd_same] at e; cases e
  ·rw [upd_other _ _ h]
theorem c20 [Lay] (l : List Iv) (f t : Int) (hb : l.length ≤ 100000) : Pure PP 20 [L l 2 Iv.d, I f, I t] (L (iclip l f t) 2 Iv.d) := by
  refine pr F20 (by kernel_rfl) (of_eq (nic l f t _) fun hl => ?_)
  refine at_le (st' := Sic l ((l.take 0).filterMap (clip1I (loT f) (hiT t))) (loT f) (hiT t) (0 : Nat)) ?_ ((StLe.idleOwn _ (some (cv ([] : List Iv) Iv.d)) 7 0 2 (cv ([] : List Iv) Iv.d) rfl rfl).cast (by kernel_rfl))
  have hi : iclip l f t = (srtI ((l.take l.length).filterMap (clip1I (loT f) (hiT t)))).foldl mrg [] := by rw [List.take_length]; rfl
  rw [hi]
  generalize loT f = f
  generalize hiT t = t
  refine lp (fn := Tryz.f20) (fun i : Nat => i ≤ l.length) (fun i => Sic l ((l.take i).filterMap (clip1I f t)) f t i) (fun i => l.length - i) [1, 2, 7, 18, 19, 20] (by kernel_rfl) (fun i hi => of_eq (nica l _ f t i _ _) ?_) 0 (Nat.zero_le _)
  refine cond_intro (fun hlt => ?_) fun hge => ?_
  · have hlt := ltI hlt
    have hol : ((l.take i).filterMap (clip1I f t)).length ≤ i := by
      have h1 : ((l.take i).filterMap (clip1I f t)).length ≤ (l.take i).length := List.length_filterMap_le _ _
      have h2 : (l.take i).length ≤ i := by simp; omega
      omega
    rw [add1 hlt hl, Int.toNat_natCast]
    have hst : (l.take (i + 1)).filterMap (clip1I f t) = (l.take i).filterMap (clip1I f t) ++ (clip1I f t (l.getD i default)).toList := by
      rw [take_snoc _ _ hlt, List.filterMap_append]
      generalize l.getD i default = x
      cases hc1 : clip1I f t x <;> simp [hc1]
    generalize (l.take i).filterMap (clip1I f t) = out at hol hst ⊢
    refine ⟨⟨by omega, by omega⟩, trivial, trivial, trivial, cond_intro (fun h => ?_) fun h => ?_⟩
    · have h := of_decide_eq_true h
      rw [clip1I, if_pos h] at hst
      refine ⟨⟨upd_same _ _ _, by unfold roomM; omega⟩, trivial, Nx.of (i + 1) (by omega) (by omega) ?_⟩
      rw [hst]
      simp only [Sic, hVec, Option.toList_some, List.length_append, List.length_singleton]
      rw [upd_upd, upd_upd]
      exact StLe.vec (t := 0) (n := out.length + 1) (upd_same _ _ _) fun j hj => cat_cv (enc := Iv.d) (x := (⟨_, _⟩ : Iv)) rfl hj
    · have h := of_decide_eq_false h
      rw [clip1I, if_neg h, Option.toList_none, List.append_nil] at hst
      refine Nx.of (i + 1) (by omega) (by omega) ?_
      rw [hst]; exact StLe.refl _ _
  · rw [List.take_of_length_le (geI hge), List.take_length]
    have hpl : (l.filterMap (clip1I f t)).length ≤ l.length := List.length_filterMap_le _ _
    generalize l.filterMap (clip1I f t) = out at hpl
    refine at_le (st' := ⟨[(7, .ep [.vec 0 out.length 2])], hVec out Iv.d⟩) ?_ ((StLe.layOwn 7 rfl (by kernel_rfl)).cast (by kernel_rfl))
    refine runS_sound hmix _ _ _ (of_eq (nicb out _) ⟨e37 out (by omega), fun _ => ?_⟩)
    have hsl := srtI_len out
    rw [← hsl]
    generalize srtI out = q at hsl
    refine at_le (st' := ⟨[(10, .vec 1 0 2), (48, L q 2 Iv.d), (49, I q.length), (50, I 0)], ⟨fun _ => none, 0, upd (upd (fun _ => none) 0 (some q.length)) 1 (some 0), 2, upd (upd (upd (fun _ => none) 0 (some (cv q Iv.d))) 0 none) 1 (some (cv ([] : List Iv) Iv.d))⟩⟩) ?_ (((StLe.frz 0 (n := q.length) (f := cv q Iv.d) rfl rfl (by simp [frzSlOk, frzOk])).trans ((StLe.set 48 (d' := L q 2 Iv.d) rfl Wk.tokL rfl rfl).trans (StLe.idle _ (some (cv ([] : List Iv) Iv.d)) 10 2 (cv ([] : List Iv) Iv.d) rfl))).cast rfl)
    refine at_le (st' := Sie q [] (0 : Nat)) ?_ (StLe.heapLe heap_c)
    refine lp (fn := Tryz.f20) (fun z : Nat × List Iv => z.1 ≤ q.length ∧ z.2.length ≤ z.1 ∧ q.foldl mrg [] = (q.drop z.1).foldl mrg z.2) (fun z => Sie q z.2 z.1) (fun z => q.length - z.1) [10, 48, 49, 50] (by kernel_rfl) (fun z hz => of_eq (nicc q z.2 z.1 _ _) ?_) (0, []) ⟨Nat.zero_le _, Nat.le_refl _, rfl⟩
    obtain ⟨i, out2⟩ := z
    obtain ⟨_, hol, he⟩ := hz
    simp only at hol he ⊢
    have hql : q.length ≤ lenM := by unfold lenM; omega
    refine cond_intro (fun hlt => ?_) fun hge => ?_
    · have hlt := ltI hlt
      rw [add1 hlt hql, Int.toNat_natCast]
      rw [drop_cons _ _ hlt, List.foldl_cons] at he
      generalize q.getD i default = x at he ⊢
      have hpos : decide ((out2.length : Int) > 0) = true → 0 < out2.length := fun h => by simpa using h
      refine ⟨⟨by omega, by omega⟩, trivial, fun hlo => ⟨fun h => ⟨upd_same _ _ _, by rw [lastI (hpos h) hlo]; have := hpos h; omega⟩, fun _ => upd_same _ _ _, ?_⟩⟩
      have hc : (bif decide ((out2.length : Int) > 0) then decide (x.frm ≤ addI .i64 (out2.getD (subI .i64 (out2.length : Int) 1).toNat default).to 1) else false) = decide (out2 ≠ [] ∧ x.frm ≤ addI .i64 (lastI' out2).to 1) := by
        cases hd : decide ((out2.length : Int) > 0) with
        | false =>
          have : ¬ (out2.length : Int) > 0 := of_decide_eq_false hd
          have : out2 = [] := List.length_eq_zero_iff.1 (by omega)
          subst this; rfl
        | true =>
          have h0 := hpos hd
          rw [lastI h0 hlo, Int.toNat_natCast]
          have : out2 ≠ [] := List.length_pos_iff.1 h0
          rw [Bool.eq_iff_iff]; simp [this, lastI']
      rw [hc]
      refine cond_intro (fun h2 => ?_) fun h2 => ?_
      · have h2 := of_decide_eq_true h2
        have h0 : 0 < out2.length := List.length_pos_iff.2 h2.1
        rw [lastI h0 hlo, Int.toNat_natCast]
        rw [mrg, if_pos h2] at he
        have hin : (0 : Int) ≤ ((out2.length - 1 : Nat) : Int) ∧ ((out2.length - 1 : Nat) : Int) < (out2.length : Int) := ⟨by omega, by omega⟩
        refine ⟨⟨upd_same _ _ _, hin⟩, upd_same _ _ _, ⟨upd_same _ _ _, hin⟩, upd_same _ _ _, Nx.of (i + 1, out2.set (out2.length - 1) ⟨(lastI' out2).frm, if x.to > (lastI' out2).to then x.to else (lastI' out2).to⟩) ⟨hlt, by simp only [List.length_set]; omega, he⟩ (by simp only; omega) ?_⟩
        simp only [Sie, List.length_set]
        rw [upd_upd]
        exact StLe.vec (t := 1) (n := out2.length) (upd_same _ _ _) fun j _ => cv_set (enc := Iv.d) (k := out2.length - 1) (x := (⟨(lastI' out2).frm, if x.to > (lastI' out2).to then x.to else (lastI' out2).to⟩ : Iv)) (by omega) j
      · have h2 := of_decide_eq_false h2
        rw [mrg, if_neg h2] at he
        refine ⟨⟨upd_same _ _ _, by unfold roomM; omega⟩, Nx.of (i + 1, out2 ++ [x]) ⟨hlt, by simp only [List.length_append, List.length_singleton]; omega, he⟩ (by simp only; omega) ?_⟩
        simp only [Sie, List.length_append, List.length_singleton]
        rw [upd_upd, upd_upd]
        exact StLe.vec (t := 1) (n := out2.length + 1) (upd_same _ _ _) fun j hj => cat_cv (enc := Iv.d) (x := x) rfl hj
    · rw [he, List.drop_of_length_le (geI hge)]
      exact ⟨_, (RetLe.frz (d := .vec 1 out2.length 2) (t := 1) (n := out2.length) (f := cv out2 Iv.d) rfl rfl (by simp [frzOk])).trans (RetLe.wk Wk.tokL rfl)⟩
end Go.Proofs.YtiekphbkomddfaaGreatDoor.S1
namespace Go.Proofs.YtiekphbkomddfaaGreatDoor.S1
open Go Go.Ab Go.Proofs
theorem inP_iff {t:Int} {x:Iv}:inP t x=true↔x.frm≤t∧t≤x.to:=by
 unfold inP
 by_cases h:x.frm≤t
 ·simp [h]
 ·simp [h]
theorem inP_ff {t:Int} {x:Iv}:inP t x=false↔¬ (x.frm≤t∧t≤x.to):=by
 rw [← inP_iff]; simp
def Nor:Int→List Iv→Prop
 | _,[]=>True
 | lo,x::r=>lo≤x.frm∧x.frm≤x.to∧x.to≤1099511627776∧Nor (x.to+2) r
theorem Nor.mono:∀ {l:List Iv} {lo lo':Int},Nor lo l→lo'≤lo→Nor lo' l
 | [],_,_,_,_=>trivial
 | _::_,_,_,⟨h1,h2,h3,h4⟩,h=>⟨by omega,h2,h3,h4⟩
theorem Nor.out : ∀ {l : List Iv} {lo t : Int}, Nor lo l → t < lo → l.any (inP t) = false
  | [], _, _, _, _ => rfl
  | x :: r, lo, t, ⟨h1, h2, h3, h4⟩, h => by
    rw [List.any_cons, inP_ff.2 (by omega), Nor.out h4 (by omega)]; rfl
theorem nm_eq : ∀ {l1 l2 : List Iv} {lo1 lo2 : Int}, Nor lo1 l1 → Nor lo2 l2 → (∀ t, l1.any (inP t) = l2.any (inP t)) → l1 = l2
  | [], [], _, _, _, _, _ => rfl
  | [], y :: s, _, _, _, h2, h => by
    have := h y.frm
    rw [List.any_cons, inP_iff.2 ⟨Int.le_refl _, h2.2.1⟩] at this
    simp at this
  | x :: r, [], _, _, h1, _, h => by
    have := h x.frm
    rw [List.any_cons, inP_iff.2 ⟨Int.le_refl _, h1.2.1⟩] at this
    simp at this
  | x :: r, y :: s, lo1, lo2, ⟨a1, a2, a3, a4⟩, ⟨b1, b2, b3, b4⟩, h => by
    have key : ∀ {x y : Iv} {r s : List Iv}, x.frm ≤ x.to → Nor (x.to + 2) r → y.frm ≤ y.to → Nor (y.to + 2) s → (∀ t, (x :: r).any (inP t) = (y :: s).any (inP t)) → y.frm ≤ x.frm ∧ y.to ≤ x.to := by
      intro x y r s a2 a4 b2 b4 h
      have e1 := h x.frm
      rw [List.any_cons, List.any_cons, inP_iff.2 ⟨Int.le_refl _, a2⟩] at e1
      by_cases hf : y.frm ≤ x.frm
      · refine ⟨hf, ?_⟩
        by_cases ht : y.to ≤ x.to
        · exact ht
        · have e2 := h (x.to + 1)
          rw [List.any_cons, List.any_cons, inP_ff.2 (by omega), a4.out (by omega), inP_iff.2 (by omega)] at e2
          simp at e2
      · rw [inP_ff.2 (by omega), b4.out (by omega)] at e1
        simp at e1
    have k1 := key a2 a4 b2 b4 h
    have k2 := key b2 b4 a2 a4 fun t => (h t).symm
    have e : x = y := by
      have e1 : x.frm = y.frm := by omega
      have e2 : x.to = y.to := by omega
      cases x; cases y
      simp only at e1 e2
      rw [e1, e2]
    subst e
    congr 1
    refine nm_eq a4 b4 fun t => ?_
    by_cases ht : t ≤ x.to
    · rw [a4.out (by omega), b4.out (by omega)]
    · have := h t
      rw [List.any_cons, List.any_cons, inP_ff.2 (by omega)] at this
      simpa using this
theorem any_inI {l:List Iv} {t:Int} (h:0≤t∧t≤1099511627776):inI l t=l.any (inP t):=by
 unfold inI
 rw [decide_eq_true h.1,decide_eq_true h.2]; rfl
theorem inI_out {l:List Iv} {t:Int} (h:¬ (0≤t∧t≤1099511627776)):inI l t=false:=by
 unfold inI
 by_cases h1:0≤t
 ·rw [decide_eq_false (show ¬ t≤1099511627776 by omega)]; simp
 ·rw [decide_eq_false h1]; rfl
theorem Nor.inI {l : List Iv} {lo : Int} (h : Nor lo l) (h0 : 0 ≤ lo) (t : Int) : inI l t = l.any (inP t) := by
  by_cases ht : 0 ≤ t ∧ t ≤ 1099511627776
  · exact any_inI ht
  · rw [inI_out ht]
    symm
    by_cases h1 : t < 0
    · exact h.out (by omega)
    · have hb : ∀ {l : List Iv} {lo : Int}, Nor lo l → t > 1099511627776 → l.any (inP t) = false := by
        intro l
        induction l with
        | nil => intros; rfl
        | cons x r ih =>
          intro lo h h2
          rw [List.any_cons, inP_ff.2 (by have := h.2.2.1; omega), ih h.2.2.2 h2]; rfl
      exact hb h (by omega)
theorem any_clip (f t s : Int) : ∀ l : List Iv, (l.filterMap (clip1I f t)).any (inP s) = (l.any (inP s) && decide (f ≤ s ∧ s ≤ t))
  | [] => rfl
  | x :: r => by
    rw [List.filterMap_cons, List.any_cons]
    have ih := any_clip f t s r
    unfold clip1I
    have e : (if f > x.frm then f else x.frm) ≤ s ↔ f ≤ s ∧ x.frm ≤ s := by split <;> omega
    have e' : s ≤ (if t < x.to then t else x.to) ↔ s ≤ t ∧ s ≤ x.to := by split <;> omega
    by_cases hc : (if f > x.frm then f else x.frm) ≤ (if t < x.to then t else x.to)
    · rw [if_pos hc]
      simp only [List.any_cons]
      unfold clip1I at ih
      rw [ih]
      have : inP s ⟨if f > x.frm then f else x.frm, if t < x.to then t else x.to⟩ = (inP s x && decide (f ≤ s ∧ s ≤ t)) := by
        rw [Bool.eq_iff_iff, Bool.and_eq_true, inP_iff, inP_iff, decide_eq_true_eq]
        simp only [e, e']; omega
      rw [this, ← Bool.and_or_distrib_right]
    · rw [if_neg hc]
      simp only
      unfold clip1I at ih
      rw [ih]
      have : (inP s x && decide (f ≤ s ∧ s ≤ t)) = false := by
        rw [Bool.eq_false_iff, ne_eq, Bool.and_eq_true, inP_iff, decide_eq_true_eq]
        intro hh
        exact hc (Int.le_trans (e.2 ⟨hh.2.1, hh.1.1⟩) (e'.2 ⟨hh.2.2, hh.1.2⟩))
      rw [Bool.and_or_distrib_right, this, Bool.false_or]
def mrgF (p:Iv):List Iv→List Iv
 | []=>[p]
 | x::r=>if x.frm≤p.to+1 then mrgF ⟨p.frm,if x.to > p.to then x.to else p.to⟩ r else p::mrgF x r
theorem mrg_snoc (acc:List Iv) (p x:Iv) (h:0≤p.to∧p.to≤1099511627776):mrg (acc++[p]) x=if x.frm≤p.to+1 then acc++[⟨p.frm,if x.to > p.to then x.to else p.to⟩] else acc++[p]++[x]:=by
 unfold mrg lastI'
 have h1:(acc++[p]).length - 1=acc.length:=by simp
 rw [h1,getD_last,add64 (by omega) (by omega)]
 simp
theorem mrg_fold : ∀ (r acc : List Iv) (p : Iv), (0 ≤ p.to ∧ p.to ≤ 1099511627776) → (∀ x ∈ r, 0 ≤ x.to ∧ x.to ≤ 1099511627776) → r.foldl mrg (acc ++ [p]) = acc ++ mrgF p r
  | [], _, _, _, _ => rfl
  | x :: r, acc, p, h, hr => by
    have hx := hr x (List.mem_cons_self ..)
    rw [List.foldl_cons, mrg_snoc acc p x h]
    simp only [mrgF]
    split
    · exact mrg_fold r acc _ (by simp only; split <;> omega) fun y hy => hr y (List.mem_cons_of_mem _ hy)
    · rw [mrg_fold r (acc ++ [p]) x hx fun y hy => hr y (List.mem_cons_of_mem _ hy)]
      simp
theorem mrgF_spec : ∀ (r : List Iv) (p : Iv) (lo : Int), r.Pairwise (fun x y => x.frm ≤ y.frm) → (∀ x ∈ r, p.frm ≤ x.frm ∧ x.frm ≤ x.to ∧ x.to ≤ 1099511627776) → lo ≤ p.frm → p.frm ≤ p.to → p.to ≤ 1099511627776 →
    Nor lo (mrgF p r) ∧ ∀ s, (mrgF p r).any (inP s) = (inP s p || r.any (inP s))
  | [], p, lo, _, _, h1, h2, h3 => ⟨⟨h1, h2, h3, trivial⟩, fun s => by simp [mrgF]⟩
  | x :: r, p, lo, hs, hr, h1, h2, h3 => by
    rw [List.pairwise_cons] at hs
    obtain ⟨hs1, hs2⟩ := hs
    have hx := hr x (List.mem_cons_self ..)
    simp only [mrgF]
    split
    · rename_i hc
      obtain ⟨g1, g2⟩ := mrgF_spec r ⟨p.frm, if x.to > p.to then x.to else p.to⟩ lo hs2 (fun y hy => hr y (List.mem_cons_of_mem _ hy)) h1 (by simp only; split <;> omega) (by simp only; split <;> omega)
      refine ⟨g1, fun s => ?_⟩
      rw [g2 s, List.any_cons, ← Bool.or_assoc]
      congr 1
      rw [Bool.eq_iff_iff, Bool.or_eq_true, inP_iff, inP_iff, inP_iff]
      simp only
      split <;> omega
    · rename_i hc
      obtain ⟨g1, g2⟩ := mrgF_spec r x (p.to + 2) hs2 (fun y hy => ⟨hs1 y hy, (hr y (List.mem_cons_of_mem _ hy)).2⟩) (by omega) hx.2.1 hx.2.2
      refine ⟨⟨h1, h2, h3, g1⟩, fun s => ?_⟩
      rw [List.any_cons, List.any_cons, g2 s]
theorem iclip_spec (l : List Iv) (f t : Int) : Nor 0 (iclip l f t) ∧ ∀ s, (iclip l f t).any (inP s) = (l.any (inP s) && decide (loT f ≤ s ∧ s ≤ hiT t)) := by
  obtain ⟨p1, p2⟩ := srtI_spec (l.filterMap (clip1I (loT f) (hiT t)))
  have hm : ∀ x ∈ srtI (l.filterMap (clip1I (loT f) (hiT t))), 0 ≤ x.frm ∧ x.frm ≤ x.to ∧ x.to ≤ 1099511627776 := fun x hx => by
    obtain ⟨y, hy, he⟩ := List.mem_filterMap.1 (p1.mem_iff.1 hx)
    unfold clip1I at he
    by_cases hc : (if loT f > y.frm then loT f else y.frm) ≤ (if hiT t < y.to then hiT t else y.to)
    · rw [if_pos hc] at he
      have he := Option.some.inj he
      rw [← he]
      refine ⟨?_, hc, ?_⟩
      · simp only; unfold loT; split <;> split <;> omega
      · simp only; unfold hiT; split <;> split <;> omega
    · rw [if_neg hc] at he
      cases he
  have hany : ∀ s, (srtI (l.filterMap (clip1I (loT f) (hiT t)))).any (inP s) = (l.any (inP s) && decide (loT f ≤ s ∧ s ≤ hiT t)) := fun s => by
    rw [← any_clip, p1.any_eq]
  unfold iclip
  generalize srtI (l.filterMap (clip1I (loT f) (hiT t))) = q at p2 hm hany ⊢
  cases q with
  | nil => exact ⟨trivial, fun s => by rw [← hany s]; rfl⟩
  | cons x r =>
    have hx := hm x (List.mem_cons_self ..)
    rw [List.pairwise_cons] at p2
    have e : (x :: r).foldl mrg [] = mrgF x r := by
      rw [List.foldl_cons]
      exact mrg_fold r [] x ⟨by omega, hx.2.2⟩ fun y hy => by have := hm y (List.mem_cons_of_mem _ hy); omega
    obtain ⟨g1, g2⟩ := mrgF_spec r x 0 p2.2 (fun y hy => ⟨p2.1 y hy, (hm y (List.mem_cons_of_mem _ hy)).2⟩) hx.1 hx.2.1 hx.2.2
    rw [e]
    refine ⟨g1, fun s => ?_⟩
    rw [g2, ← hany s, List.any_cons]
theorem insC_mem : ∀ (l : List Int) (n x : Int), x ∈ insC l n ↔ x = n ∨ x ∈ l
  | [], n, x => by simp [insC]
  | y :: r, n, x => by
    simp only [insC]
    split
    · rw [List.mem_cons, insC_mem r n x, List.mem_cons]
      constructor
      · rintro (h | h | h) <;> simp [h]
      · rintro (h | h | h) <;> simp [h]
    · split
      · rename_i h
        subst h
        simp
      · simp
theorem insC_srt : ∀ (l : List Int) (n : Int), l.Pairwise (· < ·) → (insC l n).Pairwise (· < ·)
  | [], n, _ => by simp [insC]
  | y :: r, n, h => by
    rw [List.pairwise_cons] at h
    simp only [insC]
    split
    · rename_i hl
      rw [List.pairwise_cons]
      refine ⟨fun x hx => ?_, insC_srt r n h.2⟩
      rcases (insC_mem r n x).1 hx with rfl | hx
      · exact hl
      · exact h.1 x hx
    · split
      · rw [List.pairwise_cons]; exact h
      · rename_i h1 h2
        rw [List.pairwise_cons, List.pairwise_cons]
        refine ⟨fun x hx => ?_, h⟩
        rcases List.mem_cons.1 hx with rfl | hx
        · omega
        · have := h.1 x hx; omega
structure Cu (c:List Int):Prop where
 srt:c.Pairwise (· < ·)
 bd:∀ x∈c,0≤x∧x≤1099511627777
 z:0∈c
 m:1099511627777∈c
theorem bd_le (x:Iv):0≤bdL x∧bdR x≤1099511627776:=by
 unfold bdL bdR
 constructor <;> split <;> omega
theorem cutS_cu {c:List Int} (h:Cu c) (x:Iv):Cu (cutS c x)∧(∀ y∈c,y∈cutS c x)∧(bdL x≤bdR x→bdL x∈cutS c x∧bdR x+1∈cutS c x):=by
 have hb:=bd_le x
 unfold cutS
 by_cases hc:bdL x≤bdR x
 ·rw [decide_eq_true hc,add64 (by omega) (by omega)]
  simp only [cond_true]
  have hm:∀ y,y∈insC (insC c (bdL x)) (bdR x+1)↔y=bdR x+1∨y=bdL x∨y∈c:=fun y=>by rw [insC_mem,insC_mem]
  refine ⟨⟨insC_srt _ _ (insC_srt _ _ h.srt),fun y hy=> ?_,(hm _).2 (.inr (.inr h.z)),(hm _).2 (.inr (.inr h.m))⟩,fun y hy=>(hm _).2 (.inr (.inr hy)),fun _=>⟨(hm _).2 (.inr (.inl rfl)),(hm _).2 (.inl rfl)⟩⟩
  rcases (hm y).1 hy with rfl | rfl | hy
  ·omega
  ·omega
  ·exact h.bd y hy
 ·rw [decide_eq_false hc]
  exact ⟨h,fun _ h=>h,fun h=>absurd h hc⟩
theorem cutsF : ∀ (l : List Iv) (c : List Int), Cu c → Cu (l.foldl cutS c) ∧ (∀ y ∈ c, y ∈ l.foldl cutS c) ∧ ∀ x ∈ l, bdL x ≤ bdR x → bdL x ∈ l.foldl cutS c ∧ bdR x + 1 ∈ l.foldl cutS c
  | [], c, h => ⟨h, fun _ h => h, fun _ h => by cases h⟩
  | x :: r, c, h => by
    obtain ⟨h1, h2, h3⟩ := cutS_cu h x
    obtain ⟨g1, g2, g3⟩ := cutsF r (cutS c x) h1
    refine ⟨g1, fun y hy => g2 y (h2 y hy), fun y hy hb => ?_⟩
    rcases List.mem_cons.1 hy with rfl | hy
    · exact ⟨g2 _ (h3 hb).1, g2 _ (h3 hb).2⟩
    · exact g3 y hy hb
theorem cuts_spec (a b:List Iv):Cu (cutsR a b)∧∀ x,x∈a∨x∈b→bdL x≤bdR x→bdL x∈cutsR a b∧bdR x+1∈cutsR a b:=by
 obtain ⟨h1,_,h3⟩:=cutsF (a++b) [0,1099511627777] ⟨by simp,by simp,by simp,by simp⟩
 exact ⟨h1,fun x hx=>h3 x (List.mem_append.2 hx)⟩
theorem inI_const {l:List Iv} {c:List Int} (_hc:Cu c) (hl:∀ x∈l,bdL x≤bdR x→bdL x∈c∧bdR x+1∈c) {f s:Int} (_hf:f∈c) (h0:0≤f) (h1:f≤s) (h2:s≤1099511627776) (hn:∀ e∈c,¬ (f < e∧e≤s)):inI l f=inI l s:=by
 rw [any_inI ⟨by omega,by omega⟩,any_inI ⟨by omega,by omega⟩]
 rw [Bool.eq_iff_iff,List.any_eq_true,List.any_eq_true]
 refine exists_congr fun x=>and_congr_right fun hx=> ?_
 rw [inP_iff,inP_iff]
 have hb:=hl x hx
 unfold bdL bdR at hb
 constructor
 ·rintro ⟨k1,k2⟩
  have h3:(if 0 > x.frm then 0 else x.frm)≤(if 1099511627776 < x.to then 1099511627776 else x.to):=by split <;> split <;> omega
  obtain ⟨b1,b2⟩:=hb h3
  have:=hn _ b2
  refine ⟨by omega,?_⟩
  split at this <;> omega
 ·rintro ⟨k1,k2⟩
  have h3:(if 0 > x.frm then 0 else x.frm)≤(if 1099511627776 < x.to then 1099511627776 else x.to):=by split <;> split <;> omega
  obtain ⟨b1,b2⟩:=hb h3
  have:=hn _ b1
  refine ⟨?_,by omega⟩
  split at this <;> omega
def cmbF (ok:Int→Bool):Option Iv→List Int→List Iv
 | p,f::t::r=>bif ok f then (match p with | some y=>if y.to=f - 1 then cmbF ok (some ⟨y.frm,t - 1⟩) (t::r) else y::cmbF ok (some ⟨f,t - 1⟩) (t::r) | none=>cmbF ok (some ⟨f,t - 1⟩) (t::r)) else cmbF ok p (t::r)
 | p,[_]=>p.toList
 | p,[]=>p.toList
theorem push_snoc (acc:List Iv) (p:Iv) (f t:Int) (hf:0≤f∧f≤1099511627777) (ht:0≤t∧t≤1099511627777):pushI (acc++[p]) f t=if p.to=f - 1 then acc++[⟨p.frm,t - 1⟩] else acc++[p]++[⟨f,t - 1⟩]:=by
 unfold pushI
 have h1:(acc++[p]).length - 1=acc.length:=by simp
 rw [h1,getD_last,sub64 (by omega) (by omega),sub64 (by omega) (by omega)]
 simp
theorem cmb_fold (a b : List Iv) (rule : Int) : ∀ (c : List Int) (acc : List Iv) (p : Option Iv), (p = none → acc = []) → (∀ x ∈ c, 0 ≤ x ∧ x ≤ 1099511627777) → cmbS a b rule c (acc ++ p.toList) = acc ++ cmbF (fun f => okR rule (inI a f) (inI b f)) p c
  | [], acc, p, _, _ => by simp [cmbS, cmbF]
  | [_], acc, p, _, _ => by simp [cmbS, cmbF]
  | f :: t :: r, acc, p, hp, hb => by
    have hf := hb f (by simp)
    have ht := hb t (by simp)
    have hr : ∀ x ∈ t :: r, 0 ≤ x ∧ x ≤ 1099511627777 := fun x hx => hb x (List.mem_cons_of_mem _ hx)
    simp only [cmbS, cmbF]
    cases hok : okR rule (inI a f) (inI b f) with
    | false => exact cmb_fold a b rule (t :: r) acc p hp hr
    | true =>
      simp only [cond_true]
      cases p with
      | none =>
        have := hp rfl
        subst this
        have e : pushI ([] ++ (none : Option Iv).toList) f t = [] ++ (some (⟨f, t - 1⟩ : Iv)).toList := by
          unfold pushI
          rw [sub64 (by omega) (by omega), sub64 (by omega) (by omega)]
          simp
        rw [e]
        exact cmb_fold a b rule (t :: r) [] _ (by simp) hr
      | some y =>
        have e := push_snoc acc y f t hf ht
        simp only [Option.toList]
        rw [e]
        split
        · exact cmb_fold a b rule (t :: r) acc (some _) (by simp) hr
        · have := cmb_fold a b rule (t :: r) (acc ++ [y]) (some ⟨f, t - 1⟩) (by simp) hr
          simp only [Option.toList] at this
          rw [this]; simp
def okAt (ok:Int→Bool):List Int→Int→Bool
 | f::t::r,s=>(decide (f≤s∧s < t)&&ok f) || okAt ok (t::r) s
 | [_],_=>false
 | [],_=>false
theorem okAt_lo (ok : Int → Bool) : ∀ (c : List Int) (s : Int), (∀ x ∈ c, s < x) → okAt ok c s = false
  | [], _, _ => rfl
  | [_], _, _ => rfl
  | f :: t :: r, s, h => by
    have := h f (by simp)
    simp only [okAt]
    rw [decide_eq_false (by omega), okAt_lo ok (t :: r) s fun x hx => h x (List.mem_cons_of_mem _ hx)]; rfl
theorem okAt_hi (ok : Int → Bool) : ∀ (c : List Int) (s : Int), (∀ x ∈ c, x ≤ s) → okAt ok c s = false
  | [], _, _ => rfl
  | [_], _, _ => rfl
  | f :: t :: r, s, h => by
    have := h t (by simp)
    simp only [okAt]
    rw [decide_eq_false (by omega), okAt_hi ok (t :: r) s fun x hx => h x (List.mem_cons_of_mem _ hx)]; rfl
theorem okAt_eq (ok : Int → Bool) : ∀ (c : List Int) (s : Int) (v : Bool), c.Pairwise (· < ·) → (∃ x ∈ c, x ≤ s) → (∃ x ∈ c, s < x) → (∀ f ∈ c, f ≤ s → (∀ e ∈ c, ¬ (f < e ∧ e ≤ s)) → ok f = v) → okAt ok c s = v
  | [], _, _, _, ⟨x, h, _⟩, _, _ => by cases h
  | [x], s, _, _, ⟨y, h, h1⟩, ⟨z, h', h2⟩, _ => by simp at h h'; omega
  | f :: t :: r, s, v, hs, he1, he2, H => by
    have hs' := hs
    rw [List.pairwise_cons] at hs
    simp only [okAt]
    by_cases ht : s < t
    · have hr : ∀ x ∈ t :: r, s < x := fun x hx => by
        rcases List.mem_cons.1 hx with rfl | hx
        · exact ht
        · have := (List.pairwise_cons.1 hs.2).1 x hx; omega
      rw [okAt_lo ok (t :: r) s hr, Bool.or_false]
      have hf : f ≤ s := by
        obtain ⟨x, hx, h1⟩ := he1
        rcases List.mem_cons.1 hx with rfl | hx
        · exact h1
        · have := hr x hx; omega
      rw [decide_eq_true ⟨hf, ht⟩, Bool.true_and]
      refine H f (by simp) hf fun e he hh => ?_
      rcases List.mem_cons.1 he with rfl | he
      · omega
      · have := hr e he; omega
    · rw [decide_eq_false (by omega), Bool.false_and, Bool.false_or]
      refine okAt_eq ok (t :: r) s v hs.2 ⟨t, by simp, by omega⟩ ?_ fun g hg hgs hn => H g (List.mem_cons_of_mem _ hg) hgs fun e he hh => ?_
      · obtain ⟨x, hx, h1⟩ := he2
        rcases List.mem_cons.1 hx with rfl | hx
        · have := hs.1 t (by simp); omega
        · exact ⟨x, hx, h1⟩
      · rcases List.mem_cons.1 he with rfl | he
        · have := hs.1 g hg; omega
        · exact hn e he hh
theorem cmbF_spec (ok : Int → Bool) : ∀ (c : List Int) (p : Option Iv) (lo : Int), c.Pairwise (· < ·) → (∀ x ∈ c, lo ≤ x ∧ x ≤ 1099511627777) → (∀ y ∈ p, lo ≤ y.frm ∧ y.frm ≤ y.to ∧ y.to ≤ 1099511627776 ∧ ∀ x ∈ c, y.to < x) →
    Nor lo (cmbF ok p c) ∧ ∀ s, (cmbF ok p c).any (inP s) = (p.toList.any (inP s) || okAt ok c s)
  | [], p, lo, _, _, hp => by
    simp only [cmbF, okAt]
    refine ⟨?_, fun s => by simp⟩
    cases p with
    | none => trivial
    | some y => have := hp y rfl; exact ⟨this.1, this.2.1, this.2.2.1, trivial⟩
  | [_], p, lo, _, _, hp => by
    simp only [cmbF, okAt]
    refine ⟨?_, fun s => by simp⟩
    cases p with
    | none => trivial
    | some y => have := hp y rfl; exact ⟨this.1, this.2.1, this.2.2.1, trivial⟩
  | f :: t :: r, p, lo, hs, hb, hp => by
    have hs' := hs
    rw [List.pairwise_cons] at hs
    have hf := hb f (by simp)
    have ht := hb t (by simp)
    have hft := hs.1 t (by simp)
    have hr : ∀ x ∈ t :: r, lo ≤ x ∧ x ≤ 1099511627777 := fun x hx => hb x (List.mem_cons_of_mem _ hx)
    have htr : ∀ x ∈ t :: r, t - 1 < x := fun x hx => by
      rcases List.mem_cons.1 hx with rfl | hx
      · omega
      · have := (List.pairwise_cons.1 hs.2).1 x hx; omega
    simp only [cmbF, okAt]
    cases hok : ok f with
    | false =>
      simp only [cond_false, Bool.and_false, Bool.false_or]
      exact cmbF_spec ok (t :: r) p lo hs.2 hr fun y hy => by
        obtain ⟨h1, h2, h3, h4⟩ := hp y hy
        exact ⟨h1, h2, h3, fun x hx => h4 x (List.mem_cons_of_mem _ hx)⟩
    | true =>
      simp only [cond_true, Bool.and_true]
      cases p with
      | none =>
        obtain ⟨g1, g2⟩ := cmbF_spec ok (t :: r) (some ⟨f, t - 1⟩) lo hs.2 hr fun y hy => by
          cases hy
          exact ⟨hf.1, by simp only; omega, by simp only; omega, htr⟩
        refine ⟨g1, fun s => ?_⟩
        rw [g2 s]
        simp only [Option.toList, List.any_cons, List.any_nil, Bool.or_false, Bool.false_or]
        congr 1
        rw [Bool.eq_iff_iff, inP_iff, decide_eq_true_eq]
        simp only; omega
      | some y =>
        obtain ⟨h1, h2, h3, h4⟩ := hp y rfl
        have h5 := h4 f (by simp)
        simp only
        split
        · rename_i he
          obtain ⟨g1, g2⟩ := cmbF_spec ok (t :: r) (some ⟨y.frm, t - 1⟩) lo hs.2 hr fun z hz => by
            cases hz
            exact ⟨h1, by simp only; omega, by simp only; omega, htr⟩
          refine ⟨g1, fun s => ?_⟩
          rw [g2 s]
          simp only [Option.toList, List.any_cons, List.any_nil, Bool.or_false]
          rw [← Bool.or_assoc]
          congr 1
          rw [Bool.eq_iff_iff, Bool.or_eq_true, inP_iff, inP_iff, decide_eq_true_eq]
          simp only; omega
        · rename_i he
          obtain ⟨g1, g2⟩ := cmbF_spec ok (t :: r) (some ⟨f, t - 1⟩) (y.to + 2) hs.2 (fun x hx => ⟨by have := hs.1 x hx; omega, (hr x hx).2⟩) fun z hz => by
            cases hz
            exact ⟨by simp only; omega, by simp only; omega, by simp only; omega, htr⟩
          refine ⟨⟨h1, h2, h3, g1⟩, fun s => ?_⟩
          rw [List.any_cons, g2 s]
          simp only [Option.toList, List.any_cons, List.any_nil, Bool.or_false]
          congr 2
          rw [Bool.eq_iff_iff, inP_iff, decide_eq_true_eq]
          simp only; omega
theorem cmb_spec (a b:List Iv) (rule:Int):Nor 0 (cmbS a b rule (cutsR a b) [])∧∀ s,(cmbS a b rule (cutsR a b) []).any (inP s)=(decide (0≤s∧s≤1099511627776)&&okR rule (inI a s) (inI b s)):=by
 obtain ⟨hc,hm⟩:=cuts_spec a b
 have e:=cmb_fold a b rule (cutsR a b) [] none (fun _=>rfl) hc.bd
 simp only [Option.toList,List.append_nil,List.nil_append] at e
 rw [e]
 obtain ⟨g1,g2⟩:=cmbF_spec (fun f=>okR rule (inI a f) (inI b f)) (cutsR a b) none 0 hc.srt hc.bd (by simp)
 refine ⟨g1,fun s=> ?_⟩
 rw [g2 s]
 simp only [Option.toList,List.any_nil,Bool.false_or]
 by_cases hs:0≤s∧s≤1099511627776
 ·rw [decide_eq_true hs,Bool.true_and]
  refine okAt_eq _ _ s _ hc.srt ⟨0,hc.z,hs.1⟩ ⟨_,hc.m,by omega⟩ fun f hf hfs hn=> ?_
  have h0:=(hc.bd f hf).1
  have e1:=inI_const hc (fun x hx=>hm x (.inl hx)) hf h0 hfs hs.2 hn
  have e2:=inI_const hc (fun x hx=>hm x (.inr hx)) hf h0 hfs hs.2 hn
  simp only [e1,e2]
 ·rw [decide_eq_false hs,Bool.false_and]
  by_cases h1:s < 0
  ·exact okAt_lo _ _ _ fun x hx=>by have:=hc.bd x hx; omega
  ·exact okAt_hi _ _ _ fun x hx=>by have:=hc.bd x hx; omega
end Go.Proofs.YtiekphbkomddfaaGreatDoor.S1
namespace Go.Proofs.YtiekphbkomddfaaGreatDoor.S1
open Go Go.Ab Go.Proofs
--BEGIN
def ptsI (l:List Iv):List Int:=l.flatMap fun x=>[x.frm,addI .i64 x.to 1]
def srtZ (l:List Int):List Int:=l.mergeSort fun x y=>decide (x≤y)
def cutZ (a b:List Iv):List Int:=Lib.compact (srtZ (ptsI a++ptsI b))
theorem srtZ_spec (l:List Int):(srtZ l).Perm l∧(srtZ l).Pairwise (· ≤ ·):=by
 refine ⟨List.mergeSort_perm _ _,?_⟩
 have:=List.pairwise_mergeSort (le:=fun x y:Int=>decide (x≤y)) (fun a b c h1 h2=>by simp at *; omega) (fun a b=>by simp; omega) l
 exact this.imp fun h=>by simpa using h
theorem compact_aux (l : List Int) (h : l.Pairwise (· ≤ ·)) : ∀ m, m ≤ l.length → (Lib.compactUpTo l.toArray m).Pairwise (· < ·) ∧ ∀ x, x ∈ Lib.compactUpTo l.toArray m ↔ x ∈ l.take m
  | 0, _ => by simp [Lib.compactUpTo]
  | m + 1, hm => by
    obtain ⟨h1, h2⟩ := compact_aux l h m (by omega)
    have hlt : m < l.length := by omega
    have hg : l.toArray[m]! = l[m] := by rw [getElem!_pos _ m (by simpa using hlt)]; simp
    have ht : ∀ x, x ∈ l.take (m + 1) ↔ x ∈ l.take m ∨ x = l[m] := fun x => by
      rw [List.take_succ_eq_append_getElem hlt, List.mem_append, List.mem_singleton]
    have hle : ∀ x ∈ l.take m, x ≤ l[m] := fun x hx => by
      obtain ⟨i, hi, rfl⟩ := List.mem_iff_getElem.1 hx
      have hi' : i < m := by simp at hi; omega
      rw [List.getElem_take]
      exact List.pairwise_iff_getElem.1 h i m (by omega) hlt hi'
    rw [Lib.compactUpTo_succ, hg]
    by_cases hk : Lib.keeps l.toArray m = true
    · rw [if_pos hk]
      refine ⟨List.pairwise_append.2 ⟨h1, List.pairwise_singleton _ _, fun x hx y hy => ?_⟩, fun x => ?_⟩
      · have hy : y = l[m] := by simpa using hy
        subst hy
        have hx := (h2 x).1 hx
        have h3 := hle x hx
        rcases Nat.eq_zero_or_pos m with h0 | h0
        · subst h0; simp at hx
        · have hm1 : m - 1 < l.length := by omega
          have hne : l[m] ≠ l[m - 1] := fun e => by
            have : Lib.keeps l.toArray m = false := Lib.keeps_neg h0 (by rw [hg, getElem!_pos _ (m - 1) (by simpa using hm1)]; simpa using e)
            rw [hk] at this; cases this
          have hxm : x ≤ l[m - 1] := by
            obtain ⟨i, hi, rfl⟩ := List.mem_iff_getElem.1 hx
            have hi' : i < m := by simp at hi; omega
            rw [List.getElem_take]
            rcases Nat.lt_or_ge i (m - 1) with h5 | h5
            · exact List.pairwise_iff_getElem.1 h i (m - 1) (by omega) hm1 h5
            · have : i = m - 1 := by omega
              subst this; exact Int.le_refl _
          have := List.pairwise_iff_getElem.1 h (m - 1) m hm1 hlt (by omega)
          omega
      · rw [List.mem_append, h2, ht]; simp
    · rw [if_neg hk, List.append_nil]
      refine ⟨h1, fun x => ?_⟩
      rw [h2, ht]
      refine ⟨.inl, fun hx => hx.elim id fun e => ?_⟩
      rcases Nat.eq_zero_or_pos m with h0 | h0
      · subst h0
        exact absurd (Lib.keeps_lt_one l.toArray 0 (by omega)) hk
      · have hm1 : m - 1 < l.length := by omega
        have he : l[m] = l[m - 1] := by
          rcases Classical.em (l[m] = l[m - 1]) with h5 | h5
          · exact h5
          · exact absurd (Lib.keeps_pos (d := l.toArray) (m := m) (by rw [hg, getElem!_pos _ (m - 1) (by simpa using hm1)]; simpa using h5)) hk
        rw [e, he]
        exact List.mem_iff_getElem.2 ⟨m - 1, by simp; omega, by rw [List.getElem_take]⟩
theorem cutZ_spec (a b:List Iv):(cutZ a b).Pairwise (· < ·)∧∀ x,x∈cutZ a b↔x∈ptsI a∨x∈ptsI b:=by
 obtain ⟨h1,h2⟩:=srtZ_spec (ptsI a++ptsI b)
 obtain ⟨h3,h4⟩:=compact_aux _ h2 _ (Nat.le_refl _)
 refine ⟨h3,fun x=> ?_⟩
 show x∈Lib.compactUpTo (srtZ (ptsI a++ptsI b)).toArray _↔_
 rw [h4,List.take_length,h1.mem_iff,List.mem_append]
def cmbC (rule:Bool→Bool→Bool) (a b:List Iv):List Int→List Iv
 | p::q::r=>(if rule (a.any (inP p)) (b.any (inP p))=true then [⟨p,subI .i64 q 1⟩] else [])++cmbC rule a b (q::r)
 | _=>[]
theorem cmbC_any (rule : Bool → Bool → Bool) (a b : List Iv) : ∀ (c : List Int) (s : Int), (∀ x ∈ c, 0 ≤ x ∧ x ≤ 1099511627777) → (cmbC rule a b c).any (inP s) = okAt (fun p => rule (a.any (inP p)) (b.any (inP p))) c s
  | [], _, _ => rfl
  | [_], _, _ => rfl
  | p :: q :: r, s, h => by
    have hq := h q (by simp)
    rw [cmbC, okAt, List.any_append, cmbC_any rule a b (q :: r) s fun x hx => h x (List.mem_cons_of_mem _ hx)]
    have e : subI .i64 q 1 = q - 1 := sub64 (by omega) (by omega)
    by_cases hr : rule (a.any (inP p)) (b.any (inP p)) = true
    · rw [if_pos hr, e, List.any_cons, List.any_nil, Bool.or_false]
      simp only [hr, Bool.and_true]
      congr 1
      by_cases hs : p ≤ s ∧ s < q
      · rw [decide_eq_true hs]; exact inP_iff.2 ⟨hs.1, by show s ≤ q - 1; omega⟩
      · rw [decide_eq_false hs]; exact inP_ff.2 (by show ¬ (p ≤ s ∧ s ≤ q - 1); omega)
    · rw [if_neg hr]
      have : rule (a.any (inP p)) (b.any (inP p)) = false := by simpa using hr
      simp only [this, Bool.and_false, List.any_nil]
theorem Nor.bds : ∀ {l : List Iv} {lo : Int}, Nor lo l → ∀ x ∈ l, lo ≤ x.frm ∧ x.frm ≤ x.to ∧ x.to ≤ 1099511627776
  | [], _, _, _, h => by cases h
  | y :: r, lo, ⟨h1, h2, h3, h4⟩, x, h => by
    rcases List.mem_cons.1 h with rfl | h
    · exact ⟨h1, h2, h3⟩
    · have := Nor.bds h4 x h
      exact ⟨by omega, this.2⟩
theorem ptsI_mem {l:List Iv} (h:∀ x∈l,0≤x.frm∧x.frm≤x.to∧x.to≤1099511627776) (p:Int):p∈ptsI l↔∃ x∈l,p=x.frm∨p=x.to+1:=by
 unfold ptsI
 rw [List.mem_flatMap]
 constructor
 ·rintro ⟨x,hx,hp⟩
  have hb:=h x hx
  rw [add64 (by omega) (by omega)] at hp
  exact ⟨x,hx,by simpa using hp⟩
 ·rintro ⟨x,hx,hp⟩
  have hb:=h x hx
  refine ⟨x,hx,?_⟩
  rw [add64 (by omega) (by omega)]
  simpa using hp
theorem any_const {l : List Iv} {c : List Int} (hl : ∀ x ∈ l, x.frm ∈ c ∧ x.to + 1 ∈ c) {f s : Int} (h1 : f ≤ s) (hn : ∀ e ∈ c, ¬ (f < e ∧ e ≤ s)) : l.any (inP f) = l.any (inP s) := by
  induction l with
  | nil => rfl
  | cons x r ih =>
    rw [List.any_cons, List.any_cons, ih fun y hy => hl y (List.mem_cons_of_mem _ hy)]
    congr 1
    obtain ⟨k1, k2⟩ := hl x (List.mem_cons_self ..)
    have n1 := hn _ k1
    have n2 := hn _ k2
    by_cases hi : x.frm ≤ s ∧ s ≤ x.to
    · rw [inP_iff.2 hi, inP_iff.2 (by omega)]
    · rw [inP_ff.2 hi, inP_ff.2 (by omega)]
theorem any_out {l:List Iv} {s:Int} (h:∀ x∈l,¬ (x.frm≤s∧s≤x.to)):l.any (inP s)=false:=by
 rw [List.any_eq_false]
 intro x hx hc
 exact h x hx (inP_iff.1 hc)
theorem cmbC_spec (rule:Bool→Bool→Bool) (hr:rule false false=false) {a b:List Iv} (ha:Nor 0 a) (hb:Nor 0 b) (s:Int):(cmbC rule a b (cutZ a b)).any (inP s)=rule (a.any (inP s)) (b.any (inP s)):=by
 obtain ⟨h1,h2⟩:=cutZ_spec a b
 have ba:=ha.bds
 have bb:=hb.bds
 have hm:∀ x,x∈cutZ a b↔(∃ y∈a,x=y.frm∨x=y.to+1)∨∃ y∈b,x=y.frm∨x=y.to+1:=fun x=>by rw [h2,ptsI_mem ba,ptsI_mem bb]
 have ca:∀ x∈a,x.frm∈cutZ a b∧x.to+1∈cutZ a b:=fun x hx=>⟨(hm _).2 (.inl ⟨x,hx,.inl rfl⟩),(hm _).2 (.inl ⟨x,hx,.inr rfl⟩)⟩
 have cb:∀ x∈b,x.frm∈cutZ a b∧x.to+1∈cutZ a b:=fun x hx=>⟨(hm _).2 (.inr ⟨x,hx,.inl rfl⟩),(hm _).2 (.inr ⟨x,hx,.inr rfl⟩)⟩
 have hbd:∀ x∈cutZ a b,0≤x∧x≤1099511627777:=fun x hx=>by
  rcases (hm x).1 hx with ⟨y,hy,h | h⟩ | ⟨y,hy,h | h⟩
  ·have:=ba y hy; omega
  ·have:=ba y hy; omega
  ·have:=bb y hy; omega
  ·have:=bb y hy; omega
 rw [cmbC_any rule a b _ s hbd]
 generalize cutZ a b=c at *
 by_cases g1:∃ x∈c,x≤s
 ·by_cases g2:∃ x∈c,s < x
  ·refine okAt_eq _ c s _ h1 g1 g2 fun f _ hfs hn=> ?_
   simp only [any_const ca hfs hn,any_const cb hfs hn]
  ·have g2:∀ x∈c,x≤s:=fun x hx=>by
    rcases Int.lt_or_le s x with h | h
    ·exact absurd ⟨x,hx,h⟩ g2
    ·exact h
   rw [okAt_hi _ c s g2,any_out fun x hx=>by have:=g2 _ (ca x hx).2; omega,any_out fun x hx=>by have:=g2 _ (cb x hx).2; omega,hr]
 ·have g1:∀ x∈c,s < x:=fun x hx=>by
   rcases Int.lt_or_le s x with h | h
   ·exact h
   ·exact absurd ⟨x,hx,h⟩ g1
  rw [okAt_lo _ c s g1,any_out fun x hx=>by have:=g1 _ (ca x hx).1; omega,any_out fun x hx=>by have:=g1 _ (cb x hx).1; omega,hr]
theorem okR_ff (n:Int):okR n false false=false:=by
 unfold okR
 cases n==2
 ·cases n==1 <;> rfl
 ·rfl
def cmR (n:Int) (a b:List Iv):List Iv:=cmbS a b n (cutsR a b) []
def norI (l:List Iv):List Iv:=iclip l 0 1099511627776
theorem loT0:loT 0=0:=rfl
theorem hiT0:hiT 1099511627776=1099511627776:=rfl
theorem norI_spec (l:List Iv):Nor 0 (norI l)∧∀ s,(norI l).any (inP s)=inI l s:=by
 obtain ⟨h1,h2⟩:=iclip_spec l 0 1099511627776
 refine ⟨h1,fun s=> ?_⟩
 unfold norI
 rw [h2,loT0,hiT0]
 by_cases hs:0≤s∧s≤1099511627776
 ·rw [decide_eq_true hs,Bool.and_true,any_inI hs]
 ·rw [decide_eq_false hs,Bool.and_false,inI_out hs]
theorem comb_eq (n:Int) (a b:List Iv):norI (cmbC (okR n) (norI a) (norI b) (cutZ (norI a) (norI b)))=cmR n a b:=by
 obtain ⟨a1,a2⟩:=norI_spec a
 obtain ⟨b1,b2⟩:=norI_spec b
 obtain ⟨g1,g2⟩:=norI_spec (cmbC (okR n) (norI a) (norI b) (cutZ (norI a) (norI b)))
 obtain ⟨k1,k2⟩:=cmb_spec a b n
 refine nm_eq g1 k1 fun s=> ?_
 rw [g2,show cmR n a b=cmbS a b n (cutsR a b) [] from rfl,k2]
 by_cases hs:0≤s∧s≤1099511627776
 ·rw [any_inI hs,cmbC_spec (okR n) (okR_ff n) a1 b1,a2,b2,decide_eq_true hs,Bool.true_and]
 ·rw [inI_out hs,decide_eq_false hs,Bool.false_and]
theorem cmR_spec (n:Int) (a b:List Iv):Nor 0 (cmR n a b)∧∀ s,(cmR n a b).any (inP s)=(decide (0≤s∧s≤1099511627776)&&okR n (inI a s) (inI b s)):=cmb_spec a b n
def ixA (l:List Iv) (t:Int):Nat:=(l.takeWhile fun x=>decide (x.to < t)).length
theorem ixA_any {l : List Iv} {lo : Int} (h : Nor lo l) (t : Int) : l.any (inP t) = decide (ixA l t < l.length ∧ (l.getD (ixA l t) default).frm ≤ t) := by
  induction l generalizing lo with
  | nil => rfl
  | cons x r ih =>
    obtain ⟨h1, h2, h3, h4⟩ := h
    unfold ixA at ih ⊢
    rw [List.any_cons, List.takeWhile_cons]
    by_cases hx : x.to < t
    · rw [decide_eq_true hx, if_pos rfl, inP_ff.2 (by omega), Bool.false_or, ih h4]
      simp only [List.length_cons, List.getD_cons_succ, Nat.add_lt_add_iff_right]
    · rw [decide_eq_false hx, if_neg (by simp)]
      by_cases hf : x.frm ≤ t
      · rw [inP_iff.2 ⟨hf, by omega⟩, Bool.true_or]
        symm
        exact decide_eq_true ⟨by simp, hf⟩
      · rw [inP_ff.2 (by omega), Bool.false_or, h4.out (by omega)]
        symm
        exact decide_eq_false fun hc => hf hc.2
--END
end Go.Proofs.YtiekphbkomddfaaGreatDoor.S1
